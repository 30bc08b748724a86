/- Contracts: the bus of sources, for one part; the bus by a current.
Contracts: the bus by a current; equal products. -/
import Derived.Test.YtpdkbhjcpddnpaaGreatDoorOc5
import Derived.Test.YtpdkbhjcpddnpaaGreatDoorShelfM

section
namespace Go.Proofs.YtpdkbhjcpddnpaaGreatDoor
open Go.RowKit
attribute [local go_sem ↓] Go.wp_at_zero Go.wp_at_succ

theorem bus_size0 : (Tryz.prog.info? 112).map (·.size) = some 2 := by kernel_rfl
theorem wrap_of {x : Int} (h : -9223372036854775808 ≤ x ∧ x ≤ 9223372036854775807) : IntKind.i64.wrap x = x ∧ RowKit.wrap64 x = x :=
  ⟨IntWalk.i64_in _ h, (IntWalk.i64_left _).symm.trans (IntWalk.i64_in _ h)⟩
theorem wrap_eq {x y : Int} (e : x = y) (h : -9223372036854775808 ≤ y ∧ y ≤ 9223372036854775807) : IntKind.i64.wrap x = y ∧ RowKit.wrap64 x = y := by subst e; exact wrap_of h
theorem take_ok {ls : List Src} (h : ∀ s ∈ ls, SrcOk s) (i : Nat) : ∀ s ∈ ls.take i, SrcOk s := fun s hs => h s (List.mem_of_mem_take hs)
theorem all_step {ls : List Src} (h : SrcsOk ls) {i : Nat} (hi : i < ls.length) : allV (ls.take i) * (ls.getD i default).n = allV (ls.take (i + 1)) ∧ 1 ≤ allV (ls.take (i + 1)) ∧ allV (ls.take (i + 1)) ≤ 100000000 := by
  have h1 := allV_bd (take_ok h.2 (i + 1))
  have h2 := pow100 (n := (ls.take (i + 1)).length) (by rw [List.length_take]; have := h.1.2; omega)
  exact ⟨(allV_step hi).symm, h1.1, by omega⟩
theorem adm_take {ls : List Src} (h : SrcsOk ls) (i : Nat) : ∀ s ∈ ls.take i, 1 ≤ admV (allV ls) s ∧ admV (allV ls) s ≤ 100000000 := fun _s hs => ⟨(admV_bd h (List.mem_of_mem_take hs)).1, (admV_bd h (List.mem_of_mem_take hs)).2.1⟩
theorem len_take4 {ls : List Src} (h : SrcsOk ls) (i : Nat) : (((ls.take i).length : Nat) : Int) ≤ 4 := by
  rw [List.length_take]
  have := h.1.2
  omega
theorem load_bd {ls : List Src} (h : SrcsOk ls) {load : Int} (hl : Sm 1000000 load) : -100000000000000 ≤ -load * allV ls ∧ -load * allV ls ≤ 100000000000000 := by
  obtain ⟨h1, h2⟩ := all_pos h
  unfold Sm at hl
  exact prod_bd1 (by omega) (by omega) h2
/-- The numbers on the way. -/
def dropI (ls : List Src) (f : Src → Int) (load : Int) (i : Nat) : Int := -load * allV ls + dropV (allV ls) f (ls.take i)
def sumI (ls : List Src) (i : Nat) : Int := sumV (allV ls) (ls.take i)
theorem dropI_bd {ls : List Src} (h : SrcsOk ls) {f : Src → Int} (hf : ∀ s ∈ ls, -1000000 ≤ f s ∧ f s ≤ 1000000) {load : Int} (hl : Sm 1000000 load) (i : Nat) : -500000000000000 ≤ dropI ls f load i ∧ dropI ls f load i ≤ 500000000000000 := by
  have h1 := dropV_bd (adm_take h i) (fun s hs => hf s (List.mem_of_mem_take hs))
  have h2 := len_take4 h i
  have h3 := load_bd h hl
  unfold dropI
  omega
theorem sumI_bd {ls : List Src} (h : SrcsOk ls) (i : Nat) : 0 ≤ sumI ls i ∧ sumI ls i ≤ 400000000 := by
  have h1 := sumV_bd (adm_take h i)
  have h2 := len_take4 h i
  unfold sumI
  omega
theorem bus_step {ls : List Src} (h : SrcsOk ls) {f : Src → Int} (hf : ∀ s ∈ ls, -1000000 ≤ f s ∧ f s ≤ 1000000) {load : Int} (hl : Sm 1000000 load) {i : Nat} (hi : i < ls.length) :
    ((ls.getD i default).n ≠ 0 ∧ (allV ls).tdiv (ls.getD i default).n = allV ls / (ls.getD i default).n ∧ -1000000 ≤ allV ls / (ls.getD i default).n ∧ allV ls / (ls.getD i default).n ≤ 1000000) ∧
    (allV ls / (ls.getD i default).n * (ls.getD i default).d = admV (allV ls) (ls.getD i default) ∧ 1 ≤ admV (allV ls) (ls.getD i default) ∧ admV (allV ls) (ls.getD i default) ≤ 100000000) ∧
    (-100000000000000 ≤ f (ls.getD i default) * admV (allV ls) (ls.getD i default) ∧ f (ls.getD i default) * admV (allV ls) (ls.getD i default) ≤ 100000000000000) ∧
    (dropI ls f load i + f (ls.getD i default) * admV (allV ls) (ls.getD i default) = dropI ls f load (i + 1) ∧ -500000000000000 ≤ dropI ls f load (i + 1) ∧ dropI ls f load (i + 1) ≤ 500000000000000) ∧
    (sumI ls i + admV (allV ls) (ls.getD i default) = sumI ls (i + 1) ∧ 0 ≤ sumI ls (i + 1) ∧ sumI ls (i + 1) ≤ 400000000) := by
  have hm := cur_mem hi
  obtain ⟨a1, a2, a3, a4, _⟩ := admV_bd h hm
  have h3 := prod_bd1 (hf _ hm) (by omega) a2
  refine ⟨⟨(src_ne h _ hm).1, Int.tdiv_eq_ediv_of_nonneg (by have := (all_pos h).1; omega), by omega, a4⟩, ⟨rfl, a1, a2⟩, by omega, ⟨?_, dropI_bd h hf hl (i + 1)⟩, ⟨?_, sumI_bd h (i + 1)⟩⟩
  · unfold dropI
    rw [dropV_step hi, Int.add_assoc]
  · unfold sumI
    rw [sumV_step hi]
theorem src_p {ls : List Src} (h : SrcsOk ls) : ∀ s ∈ ls, -1000000 ≤ Src.p s ∧ Src.p s ≤ 1000000 := fun s hs => (h.2 s hs).1
theorem src_q {ls : List Src} (h : SrcsOk ls) : ∀ s ∈ ls, -1000000 ≤ Src.q s ∧ Src.q s ≤ 1000000 := fun s hs => (h.2 s hs).2.1
set_option maxHeartbeats 8000000 in
set_option maxRecDepth 100000 in
theorem busOf_Pany (B : Nat) (ls : List Src) (A : Option Addr) (c : Nat) (load : Int) (w : World) (hr : SrcsIn B w A ls) (hB : B ≤ w.heap.size) (hok : SrcsOk ls) (hl : Sm 1000000 load) :
    Calls Tryz.prog 42 #[.slice A ls.length c, .int .i64 load, .agg #[.func (.func 86) #[] #[], .func (.func 87) #[] #[]]] w fun r w' => r = .returned (.agg #[.int .i64 (dropI ls Src.p load ls.length), .int .i64 (sumI ls ls.length)]) ∧ Below w.heap.size w w' := by
  have HX := Lib.hid (fun W (hb : Below w.heap.size w W) => ((hr.more hB).below hb).more hb.size)
  have HOk := Lib.hid hok
  have HF := Lib.hid (src_p hok)
  have HLd := Lib.hid hl
  obtain ⟨al1, al2⟩ := wrap_of (x := -load) (by unfold Sm at hl; omega)
  obtain ⟨al3, al4⟩ := wrap_eq (x := -load * allV ls) (y := dropI ls Src.p load 0) (by unfold dropI; simp [dropV]) (by have := dropI_bd hok (src_p hok) hl 0; omega)
  have HL4 := Lib.hid hok.1
  clear hr hB hok hl
  go_enter Tryz.func42, Tryz.ntmps42
  go_wp2
  go_loopw [7, 16] (fun av iv wr => ∃ i : Nat, av = .int .i64 (allV (ls.take i)) ∧ iv = .int .i64 (i : Int) ∧ i ≤ ls.length ∧ Blk wr w.heap.size 108 #[.func (.func 86) #[] #[], .func (.func 87) #[] #[]] ∧ Blk wr (w.heap.size + 1) 112 #[.int .i64 0, .int .i64 0] ∧ Below w.heap.size w wr) (fun _ iv _ => ls.length - (intOf iv).toNat)
  case atStart => exact ⟨0, rfl, rfl, Nat.zero_le _, (Blk.newAt rfl).alloc, Blk.newAt (by simp), pa (pa pr)⟩
  case round =>
    as_aux_lemma =>
    obtain ⟨i, rfl, rfl, hi, hp1, hp2, hq⟩ := hrel
    have HP1 := Lib.hid hp1
    have HP2 := Lib.hid hp2
    have HQ := Lib.hid hq
    have i0 := src_cast i
    clear hp1 hp2 hq
    by_cases hlt : i < ls.length
    · have i1 := src_lt hlt
      have i9 : (i : Int) ≤ 4 := by have := HL4.out.2; omega
      obtain ⟨b, off, hA, hb, hct⟩ := (HX.out _ HQ.out).at_ hlt
      subst hA
      obtain ⟨u0, u1, u2, u3⟩ := hct i hlt
      obtain ⟨st1, st2, st3⟩ := all_step HOk.out hlt
      clear hct
      generalize ls.getD i default = s at *
      obtain ⟨sp, sq, sn, sd⟩ := s
      have u0 : wr.cell? ⟨b, off + i * 4, none⟩ = some (.int .i64 sp) := u0
      have u1 : wr.cell? ⟨b, off + i * 4 + 1, none⟩ = some (.int .i64 sq) := u1
      have u2 : wr.cell? ⟨b, off + i * 4 + 2, none⟩ = some (.int .i64 sn) := u2
      have u3 : wr.cell? ⟨b, off + i * 4 + 3, none⟩ = some (.int .i64 sd) := u3
      have st1 : allV (ls.take i) * sn = allV (ls.take (i + 1)) := st1
      obtain ⟨m1, m2⟩ := wrap_eq st1 (by omega)
      obtain ⟨m3, m4⟩ := wrap_of (x := allV (ls.take (i + 1))) (by omega)
      clear st1 st2 st3
      generalize allV (ls.take i) = av at *
      have HA1 := Lib.hid (show allV (ls.take (i + 1)) = allV (ls.take (i + 1)) from rfl)
      generalize hz : allV (ls.take (i + 1)) = aw at *
      have HZ := Lib.hid hz
      clear hz HA1
      go_wp2
      go_roundw
      case rel => exact ⟨i + 1, by rw [HZ.out], src_succ _, Nat.succ_le_of_lt hlt, HP1.out.alloc, HP2.out.alloc, pa HQ.out⟩
      case measure => exact src_meas hlt
    · obtain rfl : i = ls.length := Nat.le_antisymm hi (Nat.le_of_not_lt hlt)
      have ha : allV (ls.take ls.length) = allV ls := by rw [List.take_length]
      rw [ha]
      clear ha
      have hkb := HP2.out.lt
      have HKb := Lib.hid (show Blk (wr.alloc (.cells #[.int .i64 (dropI ls Src.p load 0), .int .i64 0] 112)) wr.heap.size 112 #[.int .i64 (dropI ls Src.p load 0), .int .i64 (sumI ls 0)] from Blk.new _ _ _)
      have HP1 := Lib.hid (HP1.out.alloc (o := (.cells #[.int .i64 (dropI ls Src.p load 0), .int .i64 0] 112)))
      have HP2 := Lib.hid (HP2.out.alloc (o := (.cells #[.int .i64 (dropI ls Src.p load 0), .int .i64 0] 112)))
      have HQ := Lib.hid (pa (o := (.cells #[.int .i64 (dropI ls Src.p load 0), .int .i64 0] 112)) HQ.out)
      have HSt := Lib.hid (fun i (hi : i < ls.length) => bus_step HOk.out HF.out HLd.out hi)
      generalize allV ls = all at *
      go_wp2
      generalize wr.alloc (.cells #[.int .i64 (dropI ls Src.p load 0), .int .i64 0] 112) = v at *
      generalize wr.heap.size = kb at *
      clear al1 al2 al3 al4 i0 hi hlt
      go_loopw [33] (fun iv wr => ∃ i : Nat, iv = .int .i64 (i : Int) ∧ i ≤ ls.length ∧ Blk wr w.heap.size 108 #[.func (.func 86) #[] #[], .func (.func 87) #[] #[]] ∧ Blk wr (w.heap.size + 1) 112 #[.int .i64 0, .int .i64 0] ∧ Blk wr kb 112 #[.int .i64 (dropI ls Src.p load i), .int .i64 (sumI ls i)] ∧ Below w.heap.size w wr) (fun iv _ => ls.length - (intOf iv).toNat)
      case atStart => exact ⟨0, rfl, Nat.zero_le _, HP1.out, HP2.out, HKb.out, HQ.out⟩
      case round =>
        as_aux_lemma =>
        obtain ⟨i, rfl, hi, hp1, hp2, hk, hq⟩ := hrel
        have HP1 := Lib.hid hp1
        have HP2 := Lib.hid hp2
        have HK := Lib.hid hk
        have HQ := Lib.hid hq
        have i0 := src_cast i
        clear hp1 hp2 hk hq
        by_cases hlt : i < ls.length
        · have i1 := src_lt hlt
          have i9 : (i : Int) ≤ 4 := by have := HL4.out.2; omega
          obtain ⟨b, off, hA, hb, hct⟩ := (HX.out _ HQ.out).at_ hlt
          subst hA
          obtain ⟨u0, u1, u2, u3⟩ := hct i hlt
          obtain ⟨⟨n0, q1, q2, q3⟩, ⟨ad1, ad2, ad3⟩, ⟨m1, m2⟩, ⟨d1, d2, d3⟩, ⟨s1, s2, s3⟩⟩ := HSt.out i hlt
          clear hct
          generalize ls.getD i default = s at *
          obtain ⟨sp, sq, sn, sd⟩ := s
          have u0 : wr.cell? ⟨b, off + i * 4, none⟩ = some (.int .i64 sp) := u0
          have u1 : wr.cell? ⟨b, off + i * 4 + 1, none⟩ = some (.int .i64 sq) := u1
          have u2 : wr.cell? ⟨b, off + i * 4 + 2, none⟩ = some (.int .i64 sn) := u2
          have u3 : wr.cell? ⟨b, off + i * 4 + 3, none⟩ = some (.int .i64 sd) := u3
          dsimp only at n0 q1 q2 q3 ad1 ad2 ad3 m1 m2 d1 d2 d3 s1 s2 s3
          generalize admV all ⟨sp, sq, sn, sd⟩ = ad at *
          generalize all / sn = qv at *
          obtain ⟨e1, e1'⟩ := wrap_eq q1 (by omega)
          obtain ⟨e2, e2'⟩ := wrap_eq ad1 (by omega)
          obtain ⟨mv, hmv⟩ : ∃ m, sp * ad = m := ⟨_, rfl⟩
          rw [hmv] at m1 m2 d1
          obtain ⟨e3, e3'⟩ := wrap_eq hmv (by omega)
          obtain ⟨e4, e4'⟩ := wrap_eq d1 (by omega)
          obtain ⟨e5, e5'⟩ := wrap_eq s1 (by omega)
          generalize dropI ls Src.p load i = dr at *
          generalize sumI ls i = sm at *
          generalize hdr : dropI ls Src.p load (i + 1) = dr' at *
          generalize hsm : sumI ls (i + 1) = sm' at *
          have HDr := Lib.hid hdr
          have HSm := Lib.hid hsm
          have z1 : (sn == 0) = false := beq_eq_false_iff_ne.2 n0
          clear hdr hsm q1 q2 q3 ad1 ad2 ad3 m1 m2 d1 d2 d3 s1 s2 s3 hmv hb
          go_wp2
          refine region_below 9 follows_mixed (by kernel_rfl) ?_
          intro C hC
          simp only [List.take_succ_cons, List.take_zero, List.drop_succ_cons, List.drop_zero]
          repeat (first
            | ((with_reducible refine quiet_plain rfl (fun K hK => ?_)); (focus (apply quiet_val; (focus (intro w' hw; obtain ⟨hcq, hfq⟩ := bcell ((hC.out _).1 hw); go_simp; (first | done | rfl))); (simp only [Act.put, List.setIfInBounds_toArray, List.set_cons_succ, List.set_cons_zero]); (with_reducible refine hK _ ?_); clear hK K)))
            | ((with_reducible refine quiet_skip ?_ ?_); (focus (first | (simp [Region.wanted, yielded]; done) | (simp [Region.wanted, yielded, undef]; done))); simp only [Act.put, List.setIfInBounds_toArray, List.set_cons_succ, List.set_cons_zero])
            | ((with_reducible refine quiet_go ?_ (fun K hK => ?_)); (focus (first | (simp [Region.wanted, yielded]; done) | (simp [Region.wanted, yielded, undef]; done))); (focus (apply quiet_val; (focus (intro w' hw; obtain ⟨hcq, hfq⟩ := bcell ((hC.out _).1 hw); go_simp; (first | done | rfl))); (simp only [Act.put, List.setIfInBounds_toArray, List.set_cons_succ, List.set_cons_zero]); (with_reducible refine hK _ ?_); clear hK K))))
          refine wpQuiet_nil ?_
          intro w1 hb1
          replace hb1 := (hC.out _).1 hb1
          clear hC C
          obtain ⟨hc1, hf1⟩ := bcell hb1
          have HP1a := Lib.hid (HP1.out.alloc.past hb1)
          have HP2a := Lib.hid (HP2.out.alloc.past hb1)
          have HKa := Lib.hid (HK.out.alloc.past hb1)
          have HQa := Lib.hid (pt (pa HQ.out) hb1)
          have HSa := Lib.hid ((Blk.new wr 87 #[.int .i64 sp, .int .i64 sq, .int .i64 sn, .int .i64 sd]).past hb1)
          generalize wr.heap.size = sb at *
          clear hb1 hc1 hf1 u0 u1 u2 u3 e1 e1' e2 e2'
          have p0 := HP1a.out.cellAt 0 rfl
          have pl := HP1a.out.lt
          have k0 := HKa.out.cellAt 0 rfl
          have k1 := HKa.out.cellAt 1 rfl
          have kl := HKa.out.lt
          have q0 := HSa.out.cellAt 0 rfl
          have q1 := HSa.out.cellAt 1 rfl
          have ql := HSa.out.lt
          go_wp2
          refine region_below 11 follows_mixed (by kernel_rfl) ?_
          intro C hC
          simp only [List.take_succ_cons, List.take_zero, List.drop_succ_cons, List.drop_zero]
          repeat (first
            | ((with_reducible refine quiet_plain rfl (fun K hK => ?_)); (focus (apply quiet_val; (focus (intro w' hw; obtain ⟨hcq, hfq⟩ := bcell ((hC.out _).1 hw); go_simp; (first | done | rfl | (with_reducible exact call_below hC hw (part_1 _ _ _))))); (simp only [Act.put, List.setIfInBounds_toArray, List.set_cons_succ, List.set_cons_zero]); (with_reducible refine hK _ ?_); clear hK K)))
            | ((with_reducible refine quiet_skip ?_ ?_); (focus (first | (simp [Region.wanted, yielded]; done) | (simp [Region.wanted, yielded, undef]; done))); simp only [Act.put, List.setIfInBounds_toArray, List.set_cons_succ, List.set_cons_zero])
            | ((with_reducible refine quiet_go ?_ (fun K hK => ?_)); (focus (first | (simp [Region.wanted, yielded]; done) | (simp [Region.wanted, yielded, undef]; done))); (focus (apply quiet_val; (focus (intro w' hw; obtain ⟨hcq, hfq⟩ := bcell ((hC.out _).1 hw); go_simp; (first | done | rfl | (with_reducible exact call_below hC hw (part_1 _ _ _))))); (simp only [Act.put, List.setIfInBounds_toArray, List.set_cons_succ, List.set_cons_zero]); (with_reducible refine hK _ ?_); clear hK K))))
          refine wpQuiet_nil ?_
          intro w1 hb1
          replace hb1 := (hC.out _).1 hb1
          clear hC C
          obtain ⟨hc1, hf1⟩ := bcell hb1
          have HP1b := Lib.hid (HP1a.out.past hb1)
          have HP2b := Lib.hid (HP2a.out.past hb1)
          have HKb := Lib.hid (HKa.out.past hb1)
          have HQb := Lib.hid (pt HQa.out hb1)
          clear hb1 hc1 hf1 p0 pl k0 k1 kl q0 q1 ql e3 e3' e4 e4' HP1a HP2a HKa HQa HSa
          have k0 := HKb.out.cellAt 0 rfl
          have k1 := HKb.out.cellAt 1 rfl
          have f0 := HKb.out.frozen 0
          have f1 := HKb.out.frozen 1
          have kl := HKb.out.lt
          go_wp2
          go_roundw
          case rel => exact ⟨i + 1, src_succ _, Nat.succ_le_of_lt hlt, (HP1b.out.far (by show w.heap.size ≠ kb; omega)).far (by show w.heap.size ≠ kb; omega), (HP2b.out.far (by show w.heap.size + 1 ≠ kb; omega)).far (by show w.heap.size + 1 ≠ kb; omega), by rw [HDr.out, HSm.out]; exact (HKb.out.set_ 0 _).set_ 1 _, ps (ps HQb.out (by show w.heap.size ≤ kb; omega)) (by show w.heap.size ≤ kb; omega)⟩
          case measure => exact src_meas hlt
        · obtain rfl : i = ls.length := Nat.le_antisymm hi (Nat.le_of_not_lt hlt)
          have R2 := HP2.out
          have k0 := HK.out.cellAt 0 rfl
          have k1 := HK.out.cellAt 1 rfl
          have kl := HK.out.lt
          generalize hdr : dropI ls Src.p load ls.length = dr at *
          generalize hsm : sumI ls ls.length = sm at *
          have HDr := Lib.hid hdr
          have HSm := Lib.hid hsm
          clear hdr hsm
          go_wp2_with ((with_reducible refine store_blk (T := 112) (x := .tmp 6) (y := .tmp 63) (vs := #[.int .i64 dr, .int .i64 sm]) R2 ?_ ?_ ?_ ?_ ?_ ?_); (focus rfl); (focus exact bus_size0); (focus (simp [Value.oneCell']; done)); (focus rfl); (focus rfl); intro WF RF PF)
          have g0 := RF.cellAt 0 rfl
          have g1 := RF.cellAt 1 rfl
          exact bodyPost_ret (v := .agg #[.int .i64 dr, .int .i64 sm]) (by simp [results, Tryz.results42, go_sem, g0, g1]) rfl ⟨by rw [HDr.out, HSm.out], pp HQ.out PF (by omega)⟩
set_option maxHeartbeats 8000000 in
set_option maxRecDepth 100000 in
theorem busOf_Qany (B : Nat) (ls : List Src) (A : Option Addr) (c : Nat) (load : Int) (w : World) (hr : SrcsIn B w A ls) (hB : B ≤ w.heap.size) (hok : SrcsOk ls) (hl : Sm 1000000 load) :
    Calls Tryz.prog 42 #[.slice A ls.length c, .int .i64 load, .agg #[.func (.func 88) #[] #[], .func (.func 89) #[] #[]]] w fun r w' => r = .returned (.agg #[.int .i64 (dropI ls Src.q load ls.length), .int .i64 (sumI ls ls.length)]) ∧ Below w.heap.size w w' := by
  have HX := Lib.hid (fun W (hb : Below w.heap.size w W) => ((hr.more hB).below hb).more hb.size)
  have HOk := Lib.hid hok
  have HF := Lib.hid (src_q hok)
  have HLd := Lib.hid hl
  obtain ⟨al1, al2⟩ := wrap_of (x := -load) (by unfold Sm at hl; omega)
  obtain ⟨al3, al4⟩ := wrap_eq (x := -load * allV ls) (y := dropI ls Src.q load 0) (by unfold dropI; simp [dropV]) (by have := dropI_bd hok (src_q hok) hl 0; omega)
  have HL4 := Lib.hid hok.1
  clear hr hB hok hl
  go_enter Tryz.func42, Tryz.ntmps42
  go_wp2
  go_loopw [7, 16] (fun av iv wr => ∃ i : Nat, av = .int .i64 (allV (ls.take i)) ∧ iv = .int .i64 (i : Int) ∧ i ≤ ls.length ∧ Blk wr w.heap.size 108 #[.func (.func 88) #[] #[], .func (.func 89) #[] #[]] ∧ Blk wr (w.heap.size + 1) 112 #[.int .i64 0, .int .i64 0] ∧ Below w.heap.size w wr) (fun _ iv _ => ls.length - (intOf iv).toNat)
  case atStart => exact ⟨0, rfl, rfl, Nat.zero_le _, (Blk.newAt rfl).alloc, Blk.newAt (by simp), pa (pa pr)⟩
  case round =>
    as_aux_lemma =>
    obtain ⟨i, rfl, rfl, hi, hp1, hp2, hq⟩ := hrel
    have HP1 := Lib.hid hp1
    have HP2 := Lib.hid hp2
    have HQ := Lib.hid hq
    have i0 := src_cast i
    clear hp1 hp2 hq
    by_cases hlt : i < ls.length
    · have i1 := src_lt hlt
      have i9 : (i : Int) ≤ 4 := by have := HL4.out.2; omega
      obtain ⟨b, off, hA, hb, hct⟩ := (HX.out _ HQ.out).at_ hlt
      subst hA
      obtain ⟨u0, u1, u2, u3⟩ := hct i hlt
      obtain ⟨st1, st2, st3⟩ := all_step HOk.out hlt
      clear hct
      generalize ls.getD i default = s at *
      obtain ⟨sp, sq, sn, sd⟩ := s
      have u0 : wr.cell? ⟨b, off + i * 4, none⟩ = some (.int .i64 sp) := u0
      have u1 : wr.cell? ⟨b, off + i * 4 + 1, none⟩ = some (.int .i64 sq) := u1
      have u2 : wr.cell? ⟨b, off + i * 4 + 2, none⟩ = some (.int .i64 sn) := u2
      have u3 : wr.cell? ⟨b, off + i * 4 + 3, none⟩ = some (.int .i64 sd) := u3
      have st1 : allV (ls.take i) * sn = allV (ls.take (i + 1)) := st1
      obtain ⟨m1, m2⟩ := wrap_eq st1 (by omega)
      obtain ⟨m3, m4⟩ := wrap_of (x := allV (ls.take (i + 1))) (by omega)
      clear st1 st2 st3
      generalize allV (ls.take i) = av at *
      have HA1 := Lib.hid (show allV (ls.take (i + 1)) = allV (ls.take (i + 1)) from rfl)
      generalize hz : allV (ls.take (i + 1)) = aw at *
      have HZ := Lib.hid hz
      clear hz HA1
      go_wp2
      go_roundw
      case rel => exact ⟨i + 1, by rw [HZ.out], src_succ _, Nat.succ_le_of_lt hlt, HP1.out.alloc, HP2.out.alloc, pa HQ.out⟩
      case measure => exact src_meas hlt
    · obtain rfl : i = ls.length := Nat.le_antisymm hi (Nat.le_of_not_lt hlt)
      have ha : allV (ls.take ls.length) = allV ls := by rw [List.take_length]
      rw [ha]
      clear ha
      have hkb := HP2.out.lt
      have HKb := Lib.hid (show Blk (wr.alloc (.cells #[.int .i64 (dropI ls Src.q load 0), .int .i64 0] 112)) wr.heap.size 112 #[.int .i64 (dropI ls Src.q load 0), .int .i64 (sumI ls 0)] from Blk.new _ _ _)
      have HP1 := Lib.hid (HP1.out.alloc (o := (.cells #[.int .i64 (dropI ls Src.q load 0), .int .i64 0] 112)))
      have HP2 := Lib.hid (HP2.out.alloc (o := (.cells #[.int .i64 (dropI ls Src.q load 0), .int .i64 0] 112)))
      have HQ := Lib.hid (pa (o := (.cells #[.int .i64 (dropI ls Src.q load 0), .int .i64 0] 112)) HQ.out)
      have HSt := Lib.hid (fun i (hi : i < ls.length) => bus_step HOk.out HF.out HLd.out hi)
      generalize allV ls = all at *
      go_wp2
      generalize wr.alloc (.cells #[.int .i64 (dropI ls Src.q load 0), .int .i64 0] 112) = v at *
      generalize wr.heap.size = kb at *
      clear al1 al2 al3 al4 i0 hi hlt
      go_loopw [33] (fun iv wr => ∃ i : Nat, iv = .int .i64 (i : Int) ∧ i ≤ ls.length ∧ Blk wr w.heap.size 108 #[.func (.func 88) #[] #[], .func (.func 89) #[] #[]] ∧ Blk wr (w.heap.size + 1) 112 #[.int .i64 0, .int .i64 0] ∧ Blk wr kb 112 #[.int .i64 (dropI ls Src.q load i), .int .i64 (sumI ls i)] ∧ Below w.heap.size w wr) (fun iv _ => ls.length - (intOf iv).toNat)
      case atStart => exact ⟨0, rfl, Nat.zero_le _, HP1.out, HP2.out, HKb.out, HQ.out⟩
      case round =>
        as_aux_lemma =>
        obtain ⟨i, rfl, hi, hp1, hp2, hk, hq⟩ := hrel
        have HP1 := Lib.hid hp1
        have HP2 := Lib.hid hp2
        have HK := Lib.hid hk
        have HQ := Lib.hid hq
        have i0 := src_cast i
        clear hp1 hp2 hk hq
        by_cases hlt : i < ls.length
        · have i1 := src_lt hlt
          have i9 : (i : Int) ≤ 4 := by have := HL4.out.2; omega
          obtain ⟨b, off, hA, hb, hct⟩ := (HX.out _ HQ.out).at_ hlt
          subst hA
          obtain ⟨u0, u1, u2, u3⟩ := hct i hlt
          obtain ⟨⟨n0, q1, q2, q3⟩, ⟨ad1, ad2, ad3⟩, ⟨m1, m2⟩, ⟨d1, d2, d3⟩, ⟨s1, s2, s3⟩⟩ := HSt.out i hlt
          clear hct
          generalize ls.getD i default = s at *
          obtain ⟨sp, sq, sn, sd⟩ := s
          have u0 : wr.cell? ⟨b, off + i * 4, none⟩ = some (.int .i64 sp) := u0
          have u1 : wr.cell? ⟨b, off + i * 4 + 1, none⟩ = some (.int .i64 sq) := u1
          have u2 : wr.cell? ⟨b, off + i * 4 + 2, none⟩ = some (.int .i64 sn) := u2
          have u3 : wr.cell? ⟨b, off + i * 4 + 3, none⟩ = some (.int .i64 sd) := u3
          dsimp only at n0 q1 q2 q3 ad1 ad2 ad3 m1 m2 d1 d2 d3 s1 s2 s3
          generalize admV all ⟨sp, sq, sn, sd⟩ = ad at *
          generalize all / sn = qv at *
          obtain ⟨e1, e1'⟩ := wrap_eq q1 (by omega)
          obtain ⟨e2, e2'⟩ := wrap_eq ad1 (by omega)
          obtain ⟨mv, hmv⟩ : ∃ m, sq * ad = m := ⟨_, rfl⟩
          rw [hmv] at m1 m2 d1
          obtain ⟨e3, e3'⟩ := wrap_eq hmv (by omega)
          obtain ⟨e4, e4'⟩ := wrap_eq d1 (by omega)
          obtain ⟨e5, e5'⟩ := wrap_eq s1 (by omega)
          generalize dropI ls Src.q load i = dr at *
          generalize sumI ls i = sm at *
          generalize hdr : dropI ls Src.q load (i + 1) = dr' at *
          generalize hsm : sumI ls (i + 1) = sm' at *
          have HDr := Lib.hid hdr
          have HSm := Lib.hid hsm
          have z1 : (sn == 0) = false := beq_eq_false_iff_ne.2 n0
          clear hdr hsm q1 q2 q3 ad1 ad2 ad3 m1 m2 d1 d2 d3 s1 s2 s3 hmv hb
          go_wp2
          refine region_below 9 follows_mixed (by kernel_rfl) ?_
          intro C hC
          simp only [List.take_succ_cons, List.take_zero, List.drop_succ_cons, List.drop_zero]
          repeat (first
            | ((with_reducible refine quiet_plain rfl (fun K hK => ?_)); (focus (apply quiet_val; (focus (intro w' hw; obtain ⟨hcq, hfq⟩ := bcell ((hC.out _).1 hw); go_simp; (first | done | rfl))); (simp only [Act.put, List.setIfInBounds_toArray, List.set_cons_succ, List.set_cons_zero]); (with_reducible refine hK _ ?_); clear hK K)))
            | ((with_reducible refine quiet_skip ?_ ?_); (focus (first | (simp [Region.wanted, yielded]; done) | (simp [Region.wanted, yielded, undef]; done))); simp only [Act.put, List.setIfInBounds_toArray, List.set_cons_succ, List.set_cons_zero])
            | ((with_reducible refine quiet_go ?_ (fun K hK => ?_)); (focus (first | (simp [Region.wanted, yielded]; done) | (simp [Region.wanted, yielded, undef]; done))); (focus (apply quiet_val; (focus (intro w' hw; obtain ⟨hcq, hfq⟩ := bcell ((hC.out _).1 hw); go_simp; (first | done | rfl))); (simp only [Act.put, List.setIfInBounds_toArray, List.set_cons_succ, List.set_cons_zero]); (with_reducible refine hK _ ?_); clear hK K))))
          refine wpQuiet_nil ?_
          intro w1 hb1
          replace hb1 := (hC.out _).1 hb1
          clear hC C
          obtain ⟨hc1, hf1⟩ := bcell hb1
          have HP1a := Lib.hid (HP1.out.alloc.past hb1)
          have HP2a := Lib.hid (HP2.out.alloc.past hb1)
          have HKa := Lib.hid (HK.out.alloc.past hb1)
          have HQa := Lib.hid (pt (pa HQ.out) hb1)
          have HSa := Lib.hid ((Blk.new wr 87 #[.int .i64 sp, .int .i64 sq, .int .i64 sn, .int .i64 sd]).past hb1)
          generalize wr.heap.size = sb at *
          clear hb1 hc1 hf1 u0 u1 u2 u3 e1 e1' e2 e2'
          have p0 := HP1a.out.cellAt 0 rfl
          have pl := HP1a.out.lt
          have k0 := HKa.out.cellAt 0 rfl
          have k1 := HKa.out.cellAt 1 rfl
          have kl := HKa.out.lt
          have q0 := HSa.out.cellAt 0 rfl
          have q1 := HSa.out.cellAt 1 rfl
          have ql := HSa.out.lt
          go_wp2
          refine region_below 11 follows_mixed (by kernel_rfl) ?_
          intro C hC
          simp only [List.take_succ_cons, List.take_zero, List.drop_succ_cons, List.drop_zero]
          repeat (first
            | ((with_reducible refine quiet_plain rfl (fun K hK => ?_)); (focus (apply quiet_val; (focus (intro w' hw; obtain ⟨hcq, hfq⟩ := bcell ((hC.out _).1 hw); go_simp; (first | done | rfl | (with_reducible exact call_below hC hw (part_3 _ _ _))))); (simp only [Act.put, List.setIfInBounds_toArray, List.set_cons_succ, List.set_cons_zero]); (with_reducible refine hK _ ?_); clear hK K)))
            | ((with_reducible refine quiet_skip ?_ ?_); (focus (first | (simp [Region.wanted, yielded]; done) | (simp [Region.wanted, yielded, undef]; done))); simp only [Act.put, List.setIfInBounds_toArray, List.set_cons_succ, List.set_cons_zero])
            | ((with_reducible refine quiet_go ?_ (fun K hK => ?_)); (focus (first | (simp [Region.wanted, yielded]; done) | (simp [Region.wanted, yielded, undef]; done))); (focus (apply quiet_val; (focus (intro w' hw; obtain ⟨hcq, hfq⟩ := bcell ((hC.out _).1 hw); go_simp; (first | done | rfl | (with_reducible exact call_below hC hw (part_3 _ _ _))))); (simp only [Act.put, List.setIfInBounds_toArray, List.set_cons_succ, List.set_cons_zero]); (with_reducible refine hK _ ?_); clear hK K))))
          refine wpQuiet_nil ?_
          intro w1 hb1
          replace hb1 := (hC.out _).1 hb1
          clear hC C
          obtain ⟨hc1, hf1⟩ := bcell hb1
          have HP1b := Lib.hid (HP1a.out.past hb1)
          have HP2b := Lib.hid (HP2a.out.past hb1)
          have HKb := Lib.hid (HKa.out.past hb1)
          have HQb := Lib.hid (pt HQa.out hb1)
          clear hb1 hc1 hf1 p0 pl k0 k1 kl q0 q1 ql e3 e3' e4 e4' HP1a HP2a HKa HQa HSa
          have k0 := HKb.out.cellAt 0 rfl
          have k1 := HKb.out.cellAt 1 rfl
          have f0 := HKb.out.frozen 0
          have f1 := HKb.out.frozen 1
          have kl := HKb.out.lt
          go_wp2
          go_roundw
          case rel => exact ⟨i + 1, src_succ _, Nat.succ_le_of_lt hlt, (HP1b.out.far (by show w.heap.size ≠ kb; omega)).far (by show w.heap.size ≠ kb; omega), (HP2b.out.far (by show w.heap.size + 1 ≠ kb; omega)).far (by show w.heap.size + 1 ≠ kb; omega), by rw [HDr.out, HSm.out]; exact (HKb.out.set_ 0 _).set_ 1 _, ps (ps HQb.out (by show w.heap.size ≤ kb; omega)) (by show w.heap.size ≤ kb; omega)⟩
          case measure => exact src_meas hlt
        · obtain rfl : i = ls.length := Nat.le_antisymm hi (Nat.le_of_not_lt hlt)
          have R2 := HP2.out
          have k0 := HK.out.cellAt 0 rfl
          have k1 := HK.out.cellAt 1 rfl
          have kl := HK.out.lt
          generalize hdr : dropI ls Src.q load ls.length = dr at *
          generalize hsm : sumI ls ls.length = sm at *
          have HDr := Lib.hid hdr
          have HSm := Lib.hid hsm
          clear hdr hsm
          go_wp2_with ((with_reducible refine store_blk (T := 112) (x := .tmp 6) (y := .tmp 63) (vs := #[.int .i64 dr, .int .i64 sm]) R2 ?_ ?_ ?_ ?_ ?_ ?_); (focus rfl); (focus exact bus_size0); (focus (simp [Value.oneCell']; done)); (focus rfl); (focus rfl); intro WF RF PF)
          have g0 := RF.cellAt 0 rfl
          have g1 := RF.cellAt 1 rfl
          exact bodyPost_ret (v := .agg #[.int .i64 dr, .int .i64 sm]) (by simp [results, Tryz.results42, go_sem, g0, g1]) rfl ⟨by rw [HDr.out, HSm.out], pp HQ.out PF (by omega)⟩

end Go.Proofs.YtpdkbhjcpddnpaaGreatDoor
end

section
namespace Go.Proofs.YtpdkbhjcpddnpaaGreatDoor
open Go.RowKit
attribute [local go_sem ↓] Go.wp_at_zero Go.wp_at_succ

theorem prod_bdg {v a K M : Int} (h : -K ≤ v ∧ v ≤ K) (g : 0 ≤ a) (hM : a ≤ M) (hK : 0 ≤ K) : -(K * M) ≤ v * a ∧ v * a ≤ K * M := by
  have h1 := Int.mul_le_mul h.2 hM g hK
  have h2 := Int.mul_le_mul (show -v ≤ K by omega) hM g hK
  rw [Int.neg_mul] at h2
  omega
theorem by_bds {s : Src} (hs : SrcOk s) {v n d : Int} (hv : -1000000 ≤ v ∧ v ≤ 1000000) (hf : FrOk n d) :
    (1 ≤ busD s d ∧ busD s d ≤ 100000000000) ∧ (-100000000000000000 ≤ v * busD s d ∧ v * busD s d ≤ 100000000000000000) ∧ (-100000000000 ≤ s.n * n ∧ s.n * n ≤ 100000000000) ∧ (-200000000000000000 ≤ busN v s n d ∧ busN v s n d ≤ 200000000000000000) := by
  obtain ⟨_, _, h3, h4⟩ := hs
  obtain ⟨_, f1, f2, f3⟩ := hf
  have d1 := Int.mul_le_mul (show (1 : Int) ≤ s.d by omega) (show (1 : Int) ≤ d by omega) (by decide) (by omega)
  have d2 := Int.mul_le_mul h4.2 f3 (by omega) (by decide)
  have d3 := prod_bdg (K := 1000000) hv (show 0 ≤ s.d * d by omega) d2 (by decide)
  have d4 := prod_bdg (K := 1000000000) f1 (show 0 ≤ s.n by omega) h3.2 (by decide)
  rw [Int.mul_comm n s.n] at d4
  unfold busN busD
  refine ⟨⟨by omega, by omega⟩, ⟨by omega, by omega⟩, ⟨by omega, by omega⟩, by omega, by omega⟩
theorem lowest_bus {s : Src} (hs : SrcOk s) {v n d : Int} (hv : -1000000 ≤ v ∧ v ≤ 1000000) (hf : FrOk n d) (w : World) :
    Calls Tryz.prog 43 #[.int .i64 (busN v s n d), .int .i64 (busD s d)] w fun e w' => e = .returned (.agg #[.int .i64 (busF v s n d).num, .int .i64 ((busF v s n d).den : Int)]) ∧ Below w.heap.size w w' := by
  obtain ⟨b1, _, _, b4⟩ := by_bds hs hv hf
  have q := lowest_any (busN v s n d) (busD s d) (by unfold Sm; omega) (by unfold Sm; omega) (by omega) w
  have l := lo_rat (busN v s n d) (show 0 < busD s d by omega)
  rw [show (busN v s n d).tdiv (gcdI (busN v s n d) (busD s d)) = (busF v s n d).num from l.1, show (busD s d).tdiv (gcdI (busN v s n d) (busD s d)) = ((busF v s n d).den : Int) from l.2] at q
  exact q
theorem frac_size0 : (Tryz.prog.info? 59).map (·.size) = some 2 := by kernel_rfl

set_option maxHeartbeats 4000000 in
set_option maxRecDepth 100000 in
theorem busBy_any (sp sq sn sd v n d : Int) (hs : SrcOk ⟨sp, sq, sn, sd⟩) (hv : -1000000 ≤ v ∧ v ≤ 1000000) (hf : FrOk n d) (w : World) :
    Calls Tryz.prog 48 #[.agg #[.int .i64 sp, .int .i64 sq, .int .i64 sn, .int .i64 sd], .int .i64 v, .agg #[.int .i64 n, .int .i64 d]] w fun e w' => e = .returned (.agg #[.int .i64 (busF v ⟨sp, sq, sn, sd⟩ n d).num, .int .i64 ((busF v ⟨sp, sq, sn, sd⟩ n d).den : Int)]) ∧ Below w.heap.size w w' := by
  have HLo := Lib.hid (lowest_bus hs hv hf)
  obtain ⟨b1, b2, b3, b4⟩ := by_bds hs hv hf
  obtain ⟨e1, e1'⟩ := wrap_eq (show sd * d = busD ⟨sp, sq, sn, sd⟩ d from rfl) (by omega)
  obtain ⟨e4, e4'⟩ := wrap_eq (show v * busD ⟨sp, sq, sn, sd⟩ d - sn * n = busN v ⟨sp, sq, sn, sd⟩ n d from rfl) (by omega)
  have b3 : -100000000000 ≤ sn * n ∧ sn * n ≤ 100000000000 := b3
  generalize (busF v ⟨sp, sq, sn, sd⟩ n d).num = fn at *
  generalize ((busF v ⟨sp, sq, sn, sd⟩ n d).den : Int) = fd at *
  generalize busD ⟨sp, sq, sn, sd⟩ d = bd at *
  generalize busN v ⟨sp, sq, sn, sd⟩ n d = bn at *
  obtain ⟨p, hp⟩ : ∃ p, v * bd = p := ⟨_, rfl⟩
  obtain ⟨q, hq⟩ : ∃ q, sn * n = q := ⟨_, rfl⟩
  rw [hp] at b2 e4 e4'
  rw [hq] at b3 e4 e4'
  obtain ⟨e2, e2'⟩ := wrap_eq hp (by omega)
  obtain ⟨e3, e3'⟩ := wrap_eq hq (by omega)
  clear b1 b2 b3 b4 hp hq hs hv hf
  go_enter Tryz.func48, Tryz.ntmps48
  go_wp2_with (first
    | (go_at_call 43; (with_reducible refine (HLo.out _).mono ?_); rintro e w1 ⟨rfl, hb1⟩; have R1 := (Blk.newAt (w := (w.alloc (Obj.cells #[.int .i64 sp, .int .i64 sq, .int .i64 sn, .int .i64 sd] 87)).alloc (Obj.cells #[.int .i64 n, .int .i64 d] 59)) (t := 59) (cs := #[.int .i64 0, .int .i64 0]) (n := w.heap.size + 1 + 1) (by simp)).past hb1; have S1 := pt (pa (pa (pa (pr (w := w))))) hb1; clear hb1)
    | ((with_reducible refine store_blk (T := 59) (x := .tmp 6) (y := .tmp 25) (vs := #[.int .i64 fn, .int .i64 fd]) R1 ?_ ?_ ?_ ?_ ?_ ?_); (focus rfl); (focus exact frac_size0); (focus (simp [Value.oneCell']; done)); (focus rfl); (focus rfl); intro WF RF PF))
  have g0 := RF.cellAt 0 rfl
  have g1 := RF.cellAt 1 rfl
  exact bodyPost_ret (v := .agg #[.int .i64 fn, .int .i64 fd]) (by simp [results, Tryz.results48, go_sem, g0, g1]) rfl ⟨rfl, pp S1 PF (Nat.le_add_right _ 2)⟩

/-! Equal products. -/
def sgP (x y : Int) : Int := if x = 0 ∨ y = 0 then 0 else if (decide (x < 0) != decide (y < 0)) = true then -1 else 1
theorem sgP_sign (x y : Int) : sgP x y = (x * y).sign := by
  unfold sgP
  rw [Int.sign_mul]
  by_cases hx : x = 0
  · subst hx; simp
  · by_cases hy : y = 0
    · subst hy; simp
    · rw [if_neg (by omega)]
      rcases Int.lt_or_lt_of_ne hx with h1 | h1 <;> rcases Int.lt_or_lt_of_ne hy with h2 | h2
      · rw [Int.sign_eq_neg_one_of_neg h1, Int.sign_eq_neg_one_of_neg h2]; simp [h1, h2]
      · rw [Int.sign_eq_neg_one_of_neg h1, Int.sign_eq_one_of_pos h2]; simp [h1, show ¬ y < 0 by omega]
      · rw [Int.sign_eq_one_of_pos h1, Int.sign_eq_neg_one_of_neg h2]; simp [h2, show ¬ x < 0 by omega]
      · rw [Int.sign_eq_one_of_pos h1, Int.sign_eq_one_of_pos h2]; simp [show ¬ x < 0 by omega, show ¬ y < 0 by omega]
theorem prod_eq (a b c d : Int) : decide (a * b = c * d) = (decide (sgP a b = sgP c d) && (decide (a.natAbs * b.natAbs / 18446744073709551616 = c.natAbs * d.natAbs / 18446744073709551616) && decide (a.natAbs * b.natAbs % 18446744073709551616 = c.natAbs * d.natAbs % 18446744073709551616))) := by
  rw [sgP_sign, sgP_sign, ← Int.natAbs_mul, ← Int.natAbs_mul]
  generalize a * b = x
  generalize c * d = y
  rw [Bool.eq_iff_iff, Bool.and_eq_true, Bool.and_eq_true]
  simp only [decide_eq_true_eq]
  constructor
  · rintro rfl; exact ⟨rfl, rfl, rfl⟩
  · rintro ⟨h1, h2, h3⟩
    have h4 : x.natAbs = y.natAbs := by
      rw [← Nat.div_add_mod x.natAbs 18446744073709551616, h2, h3, Nat.div_add_mod]
    rw [← Int.sign_mul_natAbs x, ← Int.sign_mul_natAbs y, h1, h4]

set_option maxHeartbeats 1000000 in
theorem eqSign_any (x y : Int) (w : World) :
    Calls Tryz.prog 93 #[.int .i64 x, .int .i64 y] w fun e w' => e = .returned (.int .i64 (sgP x y)) ∧ w = w' := by
  by_cases hx : x = 0
  · subst hx
    rw [show sgP 0 y = 0 by simp [sgP]]
    go_enter Tryz.func93, Tryz.ntmps93
    go_wp2
    go_ret
    exact ⟨rfl, rfl⟩
  · have hx1 : (x == 0) = false := beq_eq_false_iff_ne.2 hx
    by_cases hy : y = 0
    · subst hy
      rw [show sgP x 0 = 0 by simp [sgP]]
      go_enter Tryz.func93, Tryz.ntmps93
      go_wp2
      go_ret
      exact ⟨rfl, rfl⟩
    · have hy1 : (y == 0) = false := beq_eq_false_iff_ne.2 hy
      have hv : sgP x y = if (decide (x < 0) != decide (y < 0)) = true then -1 else 1 := by unfold sgP; rw [if_neg (by omega)]
      rw [hv]
      clear hv
      by_cases h1 : x < 0 <;> by_cases h2 : y < 0
      all_goals
        have d1 := h1
        have d2 := h2
        simp only [h1, h2, decide_true, decide_false]
        go_enter Tryz.func93, Tryz.ntmps93
        go_wp2
        go_ret
        exact ⟨rfl, rfl⟩

set_option maxHeartbeats 1000000 in
theorem eqSize_any (n : Int) (hn : Sm 9223372036854775807 n) (w : World) :
    Calls Tryz.prog 94 #[.int .i64 n] w fun e w' => e = .returned (.int .u64 (n.natAbs : Int)) ∧ w = w' := by
  unfold Sm at hn
  have e1 : IntKind.i64.wrap (-n) = -n := IntWalk.i64_in _ (by omega)
  go_enter Tryz.func94, Tryz.ntmps94
  go_wp2
  all_goals
    go_ret
    refine ⟨ret_int ?_, rfl⟩
    first | omega | (split <;> omega) | (simp only [IntKind.wrap] <;> omega)

set_option maxHeartbeats 4000000 in
set_option maxRecDepth 100000 in
theorem equalProducts_any (a b c d : Int) (ha : Sm 9223372036854775807 a) (hb : Sm 9223372036854775807 b) (hc : Sm 9223372036854775807 c) (hd : Sm 9223372036854775807 d) (w : World) :
    Calls Tryz.prog 49 #[.int .i64 a, .int .i64 b, .int .i64 c, .int .i64 d] w fun e w' => e = .returned (.bool (decide (a * b = c * d))) ∧ w = w' := by
  rw [prod_eq]
  have HA := Lib.hid (fun w => eqSize_any a ha w)
  have HB := Lib.hid (fun w => eqSize_any b hb w)
  have HC := Lib.hid (fun w => eqSize_any c hc w)
  have HD := Lib.hid (fun w => eqSize_any d hd w)
  have hm1 := fun w => Tryz.bits_Mul64 a.natAbs b.natAbs (by unfold Sm at ha; omega) (by unfold Sm at hb; omega) w
  have hm2 := fun w => Tryz.bits_Mul64 c.natAbs d.natAbs (by unfold Sm at hc; omega) (by unfold Sm at hd; omega) w
  have HM1 := Lib.hid hm1
  have HM2 := Lib.hid hm2
  have HS1 := Lib.hid (eqSign_any a b)
  have HS2 := Lib.hid (eqSign_any c d)
  clear ha hb hc hd hm1 hm2
  generalize sgP a b = s1 at *
  generalize sgP c d = s2 at *
  generalize a.natAbs * b.natAbs / 18446744073709551616 = h1 at *
  generalize a.natAbs * b.natAbs % 18446744073709551616 = l1 at *
  generalize c.natAbs * d.natAbs / 18446744073709551616 = h2 at *
  generalize c.natAbs * d.natAbs % 18446744073709551616 = l2 at *
  by_cases q1 : s1 = s2
  · subst q1
    by_cases q2 : h1 = h2
    · subst q2
      by_cases q3 : l1 = l2
      · subst q3
        go_enter Tryz.func49, Tryz.ntmps49
        go_wp2_with (first
          | (go_at_call 94; (first | (with_reducible refine (HA.out _).mono ?_) | (with_reducible refine (HB.out _).mono ?_) | (with_reducible refine (HC.out _).mono ?_) | (with_reducible refine (HD.out _).mono ?_)); rintro e w' ⟨rfl, rfl⟩)
          | (go_at_call 93; (first | (with_reducible refine (HS1.out _).mono ?_) | (with_reducible refine (HS2.out _).mono ?_)); rintro e w' ⟨rfl, rfl⟩)
          | (go_at_call 95; (first | (with_reducible refine (HM1.out _).mono ?_) | (with_reducible refine (HM2.out _).mono ?_)); rintro e w' ⟨rfl, rfl⟩))
        go_ret
        exact ⟨ret_bool (by simp), rfl⟩
      · have q3b : ((l1 : Int) == (l2 : Int)) = false := beq_eq_false_iff_ne.2 (by omega)
        go_enter Tryz.func49, Tryz.ntmps49
        go_wp2_with (first
          | (go_at_call 94; (first | (with_reducible refine (HA.out _).mono ?_) | (with_reducible refine (HB.out _).mono ?_) | (with_reducible refine (HC.out _).mono ?_) | (with_reducible refine (HD.out _).mono ?_)); rintro e w' ⟨rfl, rfl⟩)
          | (go_at_call 93; (first | (with_reducible refine (HS1.out _).mono ?_) | (with_reducible refine (HS2.out _).mono ?_)); rintro e w' ⟨rfl, rfl⟩)
          | (go_at_call 95; (first | (with_reducible refine (HM1.out _).mono ?_) | (with_reducible refine (HM2.out _).mono ?_)); rintro e w' ⟨rfl, rfl⟩))
        go_ret
        exact ⟨ret_bool (by simp [q3]), rfl⟩
    · have q2b : ((h1 : Int) == (h2 : Int)) = false := beq_eq_false_iff_ne.2 (by omega)
      go_enter Tryz.func49, Tryz.ntmps49
      go_wp2_with (first
        | (go_at_call 94; (first | (with_reducible refine (HA.out _).mono ?_) | (with_reducible refine (HB.out _).mono ?_) | (with_reducible refine (HC.out _).mono ?_) | (with_reducible refine (HD.out _).mono ?_)); rintro e w' ⟨rfl, rfl⟩)
        | (go_at_call 93; (first | (with_reducible refine (HS1.out _).mono ?_) | (with_reducible refine (HS2.out _).mono ?_)); rintro e w' ⟨rfl, rfl⟩)
        | (go_at_call 95; (first | (with_reducible refine (HM1.out _).mono ?_) | (with_reducible refine (HM2.out _).mono ?_)); rintro e w' ⟨rfl, rfl⟩))
      go_ret
      exact ⟨ret_bool (by simp [q2]), rfl⟩
  · have q1b : (s1 == s2) = false := beq_eq_false_iff_ne.2 q1
    go_enter Tryz.func49, Tryz.ntmps49
    go_wp2_with (first
      | (go_at_call 94; (first | (with_reducible refine (HA.out _).mono ?_) | (with_reducible refine (HB.out _).mono ?_) | (with_reducible refine (HC.out _).mono ?_) | (with_reducible refine (HD.out _).mono ?_)); rintro e w' ⟨rfl, rfl⟩)
      | (go_at_call 93; (first | (with_reducible refine (HS1.out _).mono ?_) | (with_reducible refine (HS2.out _).mono ?_)); rintro e w' ⟨rfl, rfl⟩)
      | (go_at_call 95; (first | (with_reducible refine (HM1.out _).mono ?_) | (with_reducible refine (HM2.out _).mono ?_)); rintro e w' ⟨rfl, rfl⟩))
    go_ret
    exact ⟨ret_bool (by simp [q1]), rfl⟩

end Go.Proofs.YtpdkbhjcpddnpaaGreatDoor
end
