/- Contract: the currents of any sources. Printed by a program (gen_cur2.py). -/
import Derived.Test.YtpdkbhjcpddnpaaGreatDoorOc8
import Derived.Test.YtpdkbhjcpddnpaaGreatDoorOd1
import Derived.Test.YtpdkbhjcpddnpaaGreatDoorOd2
import Derived.Test.YtpdkbhjcpddnpaaGreatDoorOd3
import Derived.Laws.MakeOwn

section
namespace Go.Proofs.YtpdkbhjcpddnpaaGreatDoor
open Go.RowKit
attribute [local go_sem ↓] Go.wp_at_zero Go.wp_at_succ
attribute [local go_sem] pp_at0 pp_at1

/-- How far the row of currents is filled: P parts of the first ip, Q parts of the first iq. -/
structure OutSt (ls : List Src) (p q : Int) (ip iq : Nat) (arr : Array Value) : Prop where
  size : arr.size = ls.length * 4
  atP : ∀ k, k < ip → arr[k * 4]? = some (.int .i64 (curR ls Src.p p (ls.getD k default)).num) ∧ arr[k * 4 + 1]? = some (.int .i64 ((curR ls Src.p p (ls.getD k default)).den : Int))
  atQ : ∀ k, k < iq → arr[k * 4 + 2]? = some (.int .i64 (curR ls Src.q q (ls.getD k default)).num) ∧ arr[k * 4 + 3]? = some (.int .i64 ((curR ls Src.q q (ls.getD k default)).den : Int))
  smP : ∀ k, k < ip → smallR (curR ls Src.p p (ls.getD k default)) = true
  smQ : ∀ k, k < iq → smallR (curR ls Src.q q (ls.getD k default)) = true
section
variable {ls : List Src} {p q : Int} {ip iq : Nat} {arr : Array Value}
theorem OutSt.start (h : arr.size = ls.length * 4) : OutSt ls p q 0 0 arr := ⟨h, fun _k hk => absurd hk (Nat.not_lt_zero _), fun _k hk => absurd hk (Nat.not_lt_zero _), fun _k hk => absurd hk (Nat.not_lt_zero _), fun _k hk => absurd hk (Nat.not_lt_zero _)⟩
theorem set2_self {arr : Array Value} {a b : Nat} {x y : Value} (ha : a < arr.size) (hab : b ≠ a) : ((arr.setIfInBounds a x).setIfInBounds b y)[a]? = some x := by
  rw [Array.getElem?_setIfInBounds, if_neg hab, Array.getElem?_setIfInBounds, if_pos rfl, if_pos ha]
theorem set2_last {arr : Array Value} {a b : Nat} {x y : Value} (hb : b < arr.size) : ((arr.setIfInBounds a x).setIfInBounds b y)[b]? = some y := by
  rw [Array.getElem?_setIfInBounds, if_pos rfl, if_pos (by simpa using hb)]
theorem set2_far {arr : Array Value} {a b c : Nat} {x y : Value} (h1 : a ≠ c) (h2 : b ≠ c) : ((arr.setIfInBounds a x).setIfInBounds b y)[c]? = arr[c]? := by
  rw [Array.getElem?_setIfInBounds, if_neg h2, Array.getElem?_setIfInBounds, if_neg h1]
theorem OutSt.setP (h : OutSt ls p q ip iq arr) (hi : ip < ls.length) (hs : smallR (curR ls Src.p p (ls.getD ip default)) = true) :
    OutSt ls p q (ip + 1) iq ((arr.setIfInBounds (ip * 4) (.int .i64 (curR ls Src.p p (ls.getD ip default)).num)).setIfInBounds (ip * 4 + 1) (.int .i64 ((curR ls Src.p p (ls.getD ip default)).den : Int))) := by
  have hz := h.size
  refine ⟨by simpa using hz, fun k hk => ?_, fun k hk => ?_, fun k hk => ?_, h.smQ⟩
  · rcases Nat.lt_succ_iff_lt_or_eq.1 hk with hk | rfl
    · rw [set2_far (by omega) (by omega), set2_far (by omega) (by omega)]; exact h.atP k hk
    · rw [set2_self (by omega) (by omega), set2_last (by omega)]; exact ⟨rfl, rfl⟩
  · rw [set2_far (by omega) (by omega), set2_far (by omega) (by omega)]; exact h.atQ k hk
  · rcases Nat.lt_succ_iff_lt_or_eq.1 hk with hk | rfl
    · exact h.smP k hk
    · exact hs
theorem OutSt.setQ (h : OutSt ls p q ip iq arr) (hi : iq < ls.length) (hs : smallR (curR ls Src.q q (ls.getD iq default)) = true) :
    OutSt ls p q ip (iq + 1) ((arr.setIfInBounds (iq * 4 + 2) (.int .i64 (curR ls Src.q q (ls.getD iq default)).num)).setIfInBounds (iq * 4 + 3) (.int .i64 ((curR ls Src.q q (ls.getD iq default)).den : Int))) := by
  have hz := h.size
  refine ⟨by simpa using hz, fun k hk => ?_, fun k hk => ?_, h.smP, fun k hk => ?_⟩
  · rw [set2_far (by omega) (by omega), set2_far (by omega) (by omega)]; exact h.atP k hk
  · rcases Nat.lt_succ_iff_lt_or_eq.1 hk with hk | rfl
    · rw [set2_far (by omega) (by omega), set2_far (by omega) (by omega)]; exact h.atQ k hk
    · rw [set2_self (by omega) (by omega), set2_last (by omega)]; exact ⟨rfl, rfl⟩
  · rcases Nat.lt_succ_iff_lt_or_eq.1 hk with hk | rfl
    · exact h.smQ k hk
    · exact hs
theorem OutSt.cells (h : OutSt ls p q ls.length ls.length arr) {w : World} {g : Nat} {t : TypeId} (hb : Blk w g t arr) : CellsIn w.heap.size w (some ⟨g, 0, none⟩) (cuCells (curCs ls p q)) := by
  refine .inr ⟨g, 0, rfl, hb.lt, fun j hj => ?_⟩
  have hl : (cuCells (curCs ls p q)).length = ls.length * 4 := by
    have := flat4_len cu_len (curCs ls p q)
    unfold curCs at this
    rw [List.length_map] at this
    exact this
  rw [hl] at hj
  rw [Nat.zero_add, hb.cell]
  obtain ⟨k, r, hr, rfl⟩ : ∃ k r, r < 4 ∧ j = k * 4 + r := ⟨j / 4, j % 4, Nat.mod_lt _ (by decide), by omega⟩
  have hk : k < ls.length := by omega
  have e : (cuCells (curCs ls p q))[k * 4 + r]? = (cuC ((curCs ls p q).getD k default))[r]? := flat4_at cu_len (by unfold curCs; rw [List.length_map]; exact hk) hr
  rw [e, curCs_at hk]
  have hP := h.atP k hk
  have hQ := h.atQ k hk
  obtain rfl | rfl | rfl | rfl : r = 0 ∨ r = 1 ∨ r = 2 ∨ r = 3 := by omega
  · exact hP.1
  · exact hP.2
  · exact hQ.1
  · exact hQ.2
theorem OutSt.small (h : OutSt ls p q ls.length ls.length arr) : allSmall ls p q := fun s hs => by
  obtain ⟨k, hk, rfl⟩ := List.getElem_of_mem hs
  have e : ls.getD k default = ls[k] := by rw [List.getD_eq_getElem?_getD, List.getElem?_eq_getElem hk]; rfl
  exact ⟨e ▸ h.smP k hk, e ▸ h.smQ k hk⟩
end
theorem loadE_ok {ls : List Src} {p q : Int} (h : loadE ls p q = 0) : SrcsOk ls ∧ Sm 1000000 p ∧ Sm 1000000 q := by
  unfold loadE at h
  split at h
  · rename_i h1
    exact ⟨(sourcesE_ok h1).1, phE_sm h⟩
  · rename_i h1
    exact absurd h h1
/-- What the currents of sources are as a result. -/
def CurRet (ls : List Src) (p q : Int) (w : World) (e : Ending) (w' : World) : Prop :=
  (allSmall ls p q ∧ ∃ (A : Option Addr) (c : Nat), e = .returned (.tuple #[.slice A ls.length c, .int .i64 0]) ∧ CellsIn w'.heap.size w' A (cuCells (curCs ls p q)) ∧ ls.length ≤ c ∧ Below w.heap.size w w') ∨
  (¬ allSmall ls p q ∧ e = .returned (.tuple #[.slice none 0 0, .int .i64 8]) ∧ Below w.heap.size w w')
theorem not_small_P {ls : List Src} {p q : Int} {i : Nat} (hi : i < ls.length) (h : smallR (curR ls Src.p p (ls.getD i default)) = false) : ¬ allSmall ls p q := fun hs => by
  have := (hs _ (cur_mem hi)).1
  rw [h] at this
  exact absurd this (by decide)
theorem not_small_Q {ls : List Src} {p q : Int} {i : Nat} (hi : i < ls.length) (h : smallR (curR ls Src.q q (ls.getD i default)) = false) : ¬ allSmall ls p q := fun hs => by
  have := (hs _ (cur_mem hi)).2
  rw [h] at this
  exact absurd this (by decide)
theorem cur_bds {ls : List Src} (h : SrcsOk ls) {f : Src → Int} (hf : ∀ s ∈ ls, -1000000 ≤ f s ∧ f s ≤ 1000000) {load : Int} (hl : Sm 1000000 load) {i : Nat} (hi : i < ls.length) :
    (-400000000000000 ≤ f (ls.getD i default) * sumI ls ls.length ∧ f (ls.getD i default) * sumI ls ls.length ≤ 400000000000000) ∧
    (-900000000000000 ≤ f (ls.getD i default) * sumI ls ls.length - dropI ls f load ls.length ∧ f (ls.getD i default) * sumI ls ls.length - dropI ls f load ls.length ≤ 900000000000000) ∧
    ((f (ls.getD i default) * sumI ls ls.length - dropI ls f load ls.length) * (ls.getD i default).d = curN ls f load (ls.getD i default) ∧ -90000000000000000 ≤ curN ls f load (ls.getD i default) ∧ curN ls f load (ls.getD i default) ≤ 90000000000000000) ∧
    (sumI ls ls.length * (ls.getD i default).n = curD ls (ls.getD i default) ∧ 1 ≤ curD ls (ls.getD i default) ∧ curD ls (ls.getD i default) ≤ 40000000000) := by
  have hm := cur_mem hi
  obtain ⟨_, _, h3, h4⟩ := h.2 _ hm
  have e1 : sumI ls ls.length = sumV (allV ls) ls := by unfold sumI; rw [List.take_length]
  have e2 : dropI ls f load ls.length = -load * allV ls + dropV (allV ls) f ls := by unfold dropI; rw [List.take_length]
  have s1 := sum_pos h
  have d1 := dropI_bd h hf hl ls.length
  rw [← e1] at s1
  have p1 := prod_bdg (K := 1000000) (hf _ hm) (show 0 ≤ sumI ls ls.length by omega) s1.2 (by decide)
  have p2 := prod_bdg (K := 900000000000000) (v := f (ls.getD i default) * sumI ls ls.length - dropI ls f load ls.length) (by omega) (show 0 ≤ (ls.getD i default).d by omega) h4.2 (by decide)
  have p3 := Int.mul_le_mul s1.2 h3.2 (by omega) (by decide)
  have p4 := Int.mul_le_mul s1.1 h3.1 (by decide) (by omega)
  have c1 : (f (ls.getD i default) * sumI ls ls.length - dropI ls f load ls.length) * (ls.getD i default).d = curN ls f load (ls.getD i default) := by unfold curN; rw [e1, e2]
  have c2 : sumI ls ls.length * (ls.getD i default).n = curD ls (ls.getD i default) := by unfold curD; rw [e1]
  refine ⟨by omega, by omega, ⟨c1, by omega, by omega⟩, ⟨c2, by omega, by omega⟩⟩
theorem lowest_cur {ls : List Src} (h : SrcsOk ls) {f : Src → Int} (hf : ∀ s ∈ ls, -1000000 ≤ f s ∧ f s ≤ 1000000) {load : Int} (hl : Sm 1000000 load) {i : Nat} (hi : i < ls.length) (w : World) :
    Calls Tryz.prog 43 #[.int .i64 (curN ls f load (ls.getD i default)), .int .i64 (curD ls (ls.getD i default))] w fun e w' => e = .returned (.agg #[.int .i64 (curR ls f load (ls.getD i default)).num, .int .i64 ((curR ls f load (ls.getD i default)).den : Int)]) ∧ Below w.heap.size w w' := by
  obtain ⟨_, _, ⟨_, b3⟩, ⟨_, b4⟩⟩ := cur_bds h hf hl hi
  have q := lowest_any (curN ls f load (ls.getD i default)) (curD ls (ls.getD i default)) (by unfold Sm; omega) (by unfold Sm; omega) (by omega) w
  have l := (curN_rat h f load (cur_mem hi)).2
  rw [show (curN ls f load (ls.getD i default)).tdiv (gcdI (curN ls f load (ls.getD i default)) (curD ls (ls.getD i default))) = (curR ls f load (ls.getD i default)).num from l.1, show (curD ls (ls.getD i default)).tdiv (gcdI (curN ls f load (ls.getD i default)) (curD ls (ls.getD i default))) = ((curR ls f load (ls.getD i default)).den : Int) from l.2] at q
  exact q
theorem small_num (x : Int) (w : World) : Calls Tryz.prog 44 #[.int .i64 x, .int .i64 1000000000] w fun r w' => r = .returned (.bool (withinB x (-1000000000) 1000000000)) ∧ w = w' := small_any x 1000000000 (by decide) (by decide) w
theorem smallR_t {x : Rat} {n d : Int} (h1 : x.num = n) (h2 : (x.den : Int) = d) (a : withinB n (-1000000000) 1000000000 = true) (b : d ≤ 1000000000) : smallR x = true := by
  unfold smallR
  rw [h1, h2, a, decide_eq_true b]
  rfl
theorem smallR_f {x : Rat} {n d : Int} (h1 : x.num = n) (h2 : (x.den : Int) = d) (a : withinB n (-1000000000) 1000000000 = false ∨ ¬ d ≤ 1000000000) : smallR x = false := by
  unfold smallR
  rw [h1, h2]
  rcases a with a | a
  · rw [a]; rfl
  · rw [decide_eq_false a, Bool.and_false]

set_option maxHeartbeats 4000000 in
set_option maxRecDepth 100000 in
theorem CurrentsOf_err (B : Nat) (ls : List Src) (A : Option Addr) (c : Nat) (p q : Int) (w : World) (hr : SrcsIn B w A ls) (hB : B ≤ w.heap.size) (h64 : ∀ s ∈ ls, Src64 s) (h0 : loadE ls p q ≠ 0) :
    Calls Tryz.prog 7 #[.slice A ls.length c, .agg #[.int .i64 p, .int .i64 q]] w fun r w' => r = .returned (.tuple #[.slice none 0 0, .int .i64 (loadE ls p q)]) ∧ Below w.heap.size w w' := by
  have HE := Lib.hid (fun W (hb : Below w.heap.size w W) => sourcesErr_any W.heap.size ls A c p q W (((hr.more hB).below hb).more hb.size) (Nat.le_refl _) h64)
  have e1 : (loadE ls p q != 0) = true := by simpa using h0
  have e2 : ¬ loadE ls p q = 0 := h0
  clear hr hB h64 h0
  generalize loadE ls p q = E at *
  go_enter Tryz.func7, Tryz.ntmps7
  go_wp2_with (go_at_call 40; (with_reducible refine (HE.out _ (pa pr)).mono ?_); rintro e w1 ⟨rfl, hb1⟩)
  go_ret2
  exact ⟨rfl, pt (pa pr) hb1⟩


set_option maxRecDepth 100000 in
theorem cur_made {n : Nat} (h : n ≤ 4) (W : World) : (Instr.makeSlice 27 (.int .i64 (n : Int)) (.int .i64 (n : Int))).run Tryz.prog W = .ok (.slice (some ⟨W.heap.size, 0, none⟩) n n) (W.alloc (.cells (madeCells #[.int .i64 0, .int .i64 0, .int .i64 0, .int .i64 0] (n * 4)) 90)) := by
  obtain ⟨i, hi, hz⟩ := Option.map_eq_some_iff.1 current_info
  simp only [Prod.mk.injEq] at hz
  obtain ⟨z1, z2, z3⟩ := hz
  have hr := run_make (P := Tryz.prog) W 27 90 i _ rfl hi z1 .i64 .i64 n n (by omega) (Int.le_refl _) (by rw [show i.bytes = 32 from z3]; omega) (by omega)
  simp only [Int.toNat_natCast, z2] at hr
  exact hr
set_option maxHeartbeats 16000000 in
set_option maxRecDepth 100000 in
theorem CurrentsOf_ok (B : Nat) (ls : List Src) (A : Option Addr) (c : Nat) (p q : Int) (w : World) (hr : SrcsIn B w A ls) (hB : B ≤ w.heap.size) (h64 : ∀ s ∈ ls, Src64 s) (h0 : loadE ls p q = 0) :
    Calls Tryz.prog 7 #[.slice A ls.length c, .agg #[.int .i64 p, .int .i64 q]] w (CurRet ls p q w) := by
  have HE := Lib.hid (fun W (hb : Below w.heap.size w W) => sourcesErr_any W.heap.size ls A c p q W (((hr.more hB).below hb).more hb.size) (Nat.le_refl _) h64)
  rw [h0] at HE
  have HX := Lib.hid (fun W (hb : Below w.heap.size w W) => ((hr.more hB).below hb).more hb.size)
  obtain ⟨hok, hp, hq⟩ := loadE_ok h0
  have HBp := Lib.hid (fun W (hb : Below w.heap.size w W) => busOf_Pany W.heap.size ls A c p W (((hr.more hB).below hb).more hb.size) (Nat.le_refl _) hok hp)
  have HBq := Lib.hid (fun W (hb : Below w.heap.size w W) => busOf_Qany W.heap.size ls A c q W (((hr.more hB).below hb).more hb.size) (Nat.le_refl _) hok hq)
  have HC0 := Lib.hid (fun i (hi : i < ls.length) => cur_bds hok (src_p hok) hp hi)
  have HC1 := Lib.hid (fun i (hi : i < ls.length) => cur_bds hok (src_q hok) hq hi)
  have HG0 := Lib.hid (fun i (hi : i < ls.length) w => lowest_cur hok (src_p hok) hp hi w)
  have HG1 := Lib.hid (fun i (hi : i < ls.length) w => lowest_cur hok (src_q hok) hq hi w)
  have hmk := fun W => cur_made hok.1.2 W
  have HL4 := Lib.hid hok.1.2
  have HS0 := Lib.hid (show (madeCells #[Value.int .i64 0, .int .i64 0, .int .i64 0, .int .i64 0] (ls.length * 4)).size = ls.length * 4 from size_madeCells _ _)
  clear hr hB h64 h0 hok hp hq
  generalize madeCells #[Value.int .i64 0, .int .i64 0, .int .i64 0, .int .i64 0] (ls.length * 4) = arr0 at *
  go_enter Tryz.func7, Tryz.ntmps7
  go_wp2_with (first
    | (go_at_call 40; (with_reducible refine (HE.out _ (pa pr)).mono ?_); rintro e w1 ⟨rfl, hb1⟩)
    | (go_at_call 41; refine (parts_any _).mono ?_; rintro e w2 ⟨rfl, hb2⟩))
  clear hmk
  have L0 : Blk w2 w.heap.size 24 #[.int .i64 p, .int .i64 q] := ((Blk.newAt rfl).past hb1).alloc.past hb2
  have O0 : Blk w2 w1.heap.size 90 arr0 := (Blk.new _ _ _).past hb2
  have S0 : Below w.heap.size w w2 := pt (pa (pt (pa pr) hb1)) hb2
  have ho : w.heap.size < w1.heap.size := by have h := hb1.size; simp at h; omega
  have T0 := Lib.hid (OutSt.start (p := p) (q := q) HS0.out)
  generalize w1.heap.size = o at *
  clear hb1 hb2 HS0
  obtain ⟨v, rfl⟩ : ∃ v, v = w2 := ⟨_, rfl⟩
  refine wp_loop_rounds 3 ?_
  rw [rounds_succ]
  have PN0 : Blk (v.alloc (.cells #[.nilFunc, .nilFunc] 108)) v.heap.size 108 #[.nilFunc, .nilFunc] := Blk.new _ _ _
  have l0 := L0.cellAt 0 rfl
  have l1 := L0.cellAt 1 rfl
  have ll := L0.lt
  go_wp2_with ((with_reducible refine store_blk (T := 108) (x := .tmp 9) (y := .tmp 26) (vs := #[.func (.func 86) #[] #[], .func (.func 87) #[] #[]]) PN0 ?_ ?_ ?_ ?_ ?_ ?_); (focus rfl); (focus exact part_size); (focus (simp [Value.oneCell']; done)); (focus rfl); (focus rfl); intro v3 P1 PP)
  have L1 := L0.alloc.put PP (by have := L0.lt; omega)
  have O1 := O0.alloc.put PP (by have := O0.lt; omega)
  have S1 := pp (pa S0) PP S0.size
  have hp0 : o < v.heap.size := O0.lt
  generalize v.heap.size = pb0 at *
  clear l0 l1 ll PN0 PP L0 O0 S0
  have l0 := L1.cellAt 0 rfl
  have l1 := L1.cellAt 1 rfl
  have ll := L1.lt
  have pf0 := P1.cellAt 0 rfl
  have pf1 := P1.cellAt 1 rfl
  have pl := P1.lt
  refine region_alloc (zc := (.cells #[.int .i64 0, .int .i64 0] 112)) 7 follows_mixed (by kernel_rfl) rfl (fun _ _ => by kernel_rfl) ?_
  simp only [List.take_succ_cons, List.take_zero, List.drop_succ_cons, List.drop_zero]
  repeat (first
    | ((with_reducible apply grow_plain); (focus rfl); (focus (intro w' hw; obtain ⟨hcq, hfq⟩ := bcell hw; go_simp; (first | done | rfl | (with_reducible exact (part_1 _ _ _)) | (with_reducible exact (HBp.out _ (pt S1 hw)))))); (simp only [Act.put, List.setIfInBounds_toArray, List.set_cons_succ, List.set_cons_zero]))
    | ((with_reducible apply grow_skip); (focus (first | (simp [Region.wanted, yielded]; done) | (simp [Region.wanted, yielded, undef]; done))); simp only [Act.put, List.setIfInBounds_toArray, List.set_cons_succ, List.set_cons_zero])
    | ((with_reducible apply grow_go); (focus (first | (simp [Region.wanted, yielded]; done) | (simp [Region.wanted, yielded, undef]; done))); (focus (intro w' hw; obtain ⟨hcq, hfq⟩ := bcell hw; go_simp; (first | done | rfl | (with_reducible exact (part_1 _ _ _)) | (with_reducible exact (HBp.out _ (pt S1 hw)))))); (simp only [Act.put, List.setIfInBounds_toArray, List.set_cons_succ, List.set_cons_zero])))
  refine grow_nil ?_
  intro v1 w1 hv1 hb1
  simp only [List.setIfInBounds_toArray, List.set_cons_succ, List.set_cons_zero]
  have L2 := (L1.past hv1).alloc.past hb1
  have O2 := (O1.past hv1).alloc.past hb1
  have P2 := (P1.past hv1).alloc.past hb1
  have K2 := (Blk.new v1 112 #[.int .i64 0, .int .i64 0]).past hb1
  have S2 := pt (pa (pt S1 hv1)) hb1
  have hk0 : pb0 < v1.heap.size := (P1.past hv1).lt
  generalize v1.heap.size = kb0 at *
  clear hb1 hv1 l0 l1 ll pf0 pf1 pl L1 O1 P1 S1 v3
  have k0 := K2.cellAt 0 rfl
  have k1 := K2.cellAt 1 rfl
  have f0 := K2.frozen 0
  have f1 := K2.frozen 1
  have kl := K2.lt
  go_wp2
  have W3 : ∃ u, u = (w1.setCell ⟨kb0, 0, none⟩ (.int .i64 (dropI ls Src.p p ls.length))).setCell ⟨kb0, 1, none⟩ (.int .i64 (sumI ls ls.length)) := ⟨_, rfl⟩
  have L3 : Blk ((w1.setCell ⟨kb0, 0, none⟩ (.int .i64 (dropI ls Src.p p ls.length))).setCell ⟨kb0, 1, none⟩ (.int .i64 (sumI ls ls.length))) w.heap.size 24 #[.int .i64 p, .int .i64 q] := (L2.far (by show w.heap.size ≠ kb0; omega)).far (by show w.heap.size ≠ kb0; omega)
  have O3 : Blk ((w1.setCell ⟨kb0, 0, none⟩ (.int .i64 (dropI ls Src.p p ls.length))).setCell ⟨kb0, 1, none⟩ (.int .i64 (sumI ls ls.length))) o 90 arr0 := (O2.far (by show o ≠ kb0; omega)).far (by show o ≠ kb0; omega)
  have P3 : Blk ((w1.setCell ⟨kb0, 0, none⟩ (.int .i64 (dropI ls Src.p p ls.length))).setCell ⟨kb0, 1, none⟩ (.int .i64 (sumI ls ls.length))) pb0 108 #[.func (.func 86) #[] #[], .func (.func 87) #[] #[]] := (P2.far (by show pb0 ≠ kb0; omega)).far (by show pb0 ≠ kb0; omega)
  have K3 : Blk ((w1.setCell ⟨kb0, 0, none⟩ (.int .i64 (dropI ls Src.p p ls.length))).setCell ⟨kb0, 1, none⟩ (.int .i64 (sumI ls ls.length))) kb0 112 #[.int .i64 (dropI ls Src.p p ls.length), .int .i64 (sumI ls ls.length)] := (K2.set_ 0 _).set_ 1 _
  have S3 : Below w.heap.size w ((w1.setCell ⟨kb0, 0, none⟩ (.int .i64 (dropI ls Src.p p ls.length))).setCell ⟨kb0, 1, none⟩ (.int .i64 (sumI ls ls.length))) := ps (ps S2 (by show w.heap.size ≤ kb0; omega)) (by show w.heap.size ≤ kb0; omega)
  generalize (w1.setCell ⟨kb0, 0, none⟩ (.int .i64 (dropI ls Src.p p ls.length))).setCell ⟨kb0, 1, none⟩ (.int .i64 (sumI ls ls.length)) = v at *
  clear k0 k1 f0 f1 kl L2 O2 P2 K2 S2 W3
  have HL3 := Lib.hid L3
  have HO3 := Lib.hid O3
  have HP3 := Lib.hid P3
  have HK3 := Lib.hid K3
  have HS3 := Lib.hid S3
  clear L3 O3 P3 K3 S3
  go_loopw [36] (fun iv wr => ∃ (i : Nat) (arr : Array Value), iv = .int .i64 (i : Int) ∧ i ≤ ls.length ∧ OutSt ls p q i 0 arr ∧ Blk wr w.heap.size 24 #[.int .i64 p, .int .i64 q] ∧ Blk wr o 90 arr ∧ Blk wr pb0 108 #[.func (.func 86) #[] #[], .func (.func 87) #[] #[]] ∧ Blk wr kb0 112 #[.int .i64 (dropI ls Src.p p ls.length), .int .i64 (sumI ls ls.length)] ∧ Below w.heap.size w wr) (fun iv _ => ls.length - (intOf iv).toNat)
  case atStart => exact ⟨0, arr0, rfl, Nat.zero_le _, T0.out, HL3.out, HO3.out, HP3.out, HK3.out, HS3.out⟩
  case round =>
    clear HL3 HO3 HP3 HK3 HS3
    obtain ⟨i, arr, rfl, hi, ht, hl, ho3, hp3, hk3, hs3⟩ := hrel
    have HT := Lib.hid ht
    have HL := Lib.hid hl
    have HO := Lib.hid ho3
    have HP := Lib.hid hp3
    have HK := Lib.hid hk3
    have HS := Lib.hid hs3
    have i0 := src_cast i
    clear ht hl ho3 hp3 hk3 hs3
    by_cases hlt : i < ls.length
    · as_aux_lemma =>
      have i1 := src_lt hlt
      have i9 : (i : Int) ≤ 4 := by have := HL4.out; omega
      have HI := Lib.hid hlt
      obtain ⟨b, off, hA, hb, hct⟩ := (HX.out _ HS.out).at_ hlt
      subst hA
      obtain ⟨u0, u1, u2, u3⟩ := hct i hlt
      obtain ⟨⟨b1, b2⟩, ⟨b3, b4⟩, ⟨b5, b6, b7⟩, ⟨b8, b9, b10⟩⟩ := HC0.out i hlt
      have HG := Lib.hid (HG0.out i hlt)
      have HTn := Lib.hid (fun hs => HT.out.setP hlt hs)
      have HNs := Lib.hid (fun hs => not_small_P (p := p) (q := q) hlt hs)
      have hz1 : i * 4 + 0 < arr.size := by rw [HT.out.size]; omega
      have hz2 : i * 4 + 1 < arr.size := by rw [HT.out.size]; omega
      obtain ⟨a1, ha1⟩ : ∃ x, arr[i * 4 + 0]? = some x := ⟨_, Array.getElem?_eq_getElem hz1⟩
      obtain ⟨a2, ha2⟩ : ∃ x, arr[i * 4 + 1]? = some x := ⟨_, Array.getElem?_eq_getElem hz2⟩
      have HA1 := Lib.hid ha1
      have HA2 := Lib.hid ha2
      clear hct hz1 hz2 ha1 ha2
      obtain ⟨nm, hnm⟩ : ∃ x, (curR ls Src.p p (ls.getD i default)).num = x := ⟨_, rfl⟩
      obtain ⟨dn, hdn⟩ : ∃ x, ((curR ls Src.p p (ls.getD i default)).den : Int) = x := ⟨_, rfl⟩
      have HSt := Lib.hid (fun a b => smallR_t hnm hdn a b)
      have HSf := Lib.hid (fun a => smallR_f hnm hdn a)
      rw [hnm, hdn] at HG HTn
      clear hnm hdn
      generalize curN ls Src.p p (ls.getD i default) = cn at *
      generalize curD ls (ls.getD i default) = cd at *
      generalize smallR (curR ls Src.p p (ls.getD i default)) = sr at *
      generalize ls.getD i default = s at *
      obtain ⟨sp, sq, sn, sd⟩ := s
      have u0 : wr.cell? ⟨b, off + i * 4, none⟩ = some (.int .i64 sp) := u0
      have u1 : wr.cell? ⟨b, off + i * 4 + 1, none⟩ = some (.int .i64 sq) := u1
      have u2 : wr.cell? ⟨b, off + i * 4 + 2, none⟩ = some (.int .i64 sn) := u2
      have u3 : wr.cell? ⟨b, off + i * 4 + 3, none⟩ = some (.int .i64 sd) := u3
      dsimp only at b1 b2 b3 b4 b5 b8
      generalize sumI ls ls.length = sm at *
      generalize dropI ls Src.p p ls.length = dr at *
      obtain ⟨m1, hm1⟩ : ∃ x, sp * sm = x := ⟨_, rfl⟩
      rw [hm1] at b1 b2 b3 b4 b5
      obtain ⟨m2, hm2⟩ : ∃ x, m1 - dr = x := ⟨_, rfl⟩
      rw [hm2] at b3 b4 b5
      obtain ⟨e1, e1'⟩ := wrap_eq hm1 (by omega)
      obtain ⟨e2, e2'⟩ := wrap_eq hm2 (by omega)
      obtain ⟨e3, e3'⟩ := wrap_eq b5 (by omega)
      obtain ⟨e4, e4'⟩ := wrap_eq b8 (by omega)
      have pf0 := HP.out.cellAt 0 rfl
      have pl := HP.out.lt
      have k0 := HK.out.cellAt 0 rfl
      have k1 := HK.out.cellAt 1 rfl
      have kl := HK.out.lt
      clear b1 b2 b3 b4 b5 b6 b7 b8 b9 b10 hm1 hm2 hb
      go_wp2
      refine region_alloc (zc := (.cells #[.int .i64 0, .int .i64 0] 59)) 22 follows_mixed (by kernel_rfl) rfl (fun _ _ => by kernel_rfl) ?_
      simp only [List.take_succ_cons, List.take_zero, List.drop_succ_cons, List.drop_zero]
      repeat (first
        | ((with_reducible apply grow_plain); (focus rfl); (focus (intro w' hw; obtain ⟨hcq, hfq⟩ := bcell hw; go_simp; (first | done | rfl | (with_reducible exact (part_1 _ _ _)) | (with_reducible exact (HG.out _))))); (simp only [Act.put, List.setIfInBounds_toArray, List.set_cons_succ, List.set_cons_zero]))
        | ((with_reducible apply grow_skip); (focus (first | (simp [Region.wanted, yielded]; done) | (simp [Region.wanted, yielded, undef]; done))); simp only [Act.put, List.setIfInBounds_toArray, List.set_cons_succ, List.set_cons_zero])
        | ((with_reducible apply grow_go); (focus (first | (simp [Region.wanted, yielded]; done) | (simp [Region.wanted, yielded, undef]; done))); (focus (intro w' hw; obtain ⟨hcq, hfq⟩ := bcell hw; go_simp; (first | done | rfl | (with_reducible exact (part_1 _ _ _)) | (with_reducible exact (HG.out _))))); (simp only [Act.put, List.setIfInBounds_toArray, List.set_cons_succ, List.set_cons_zero])))
      refine grow_nil ?_
      intro v1 w1 hv1 hb1
      simp only [List.setIfInBounds_toArray, List.set_cons_succ, List.set_cons_zero]
      have L4 := Lib.hid ((HL.out.alloc.past hv1).alloc.past hb1)
      have O4 := Lib.hid ((HO.out.alloc.past hv1).alloc.past hb1)
      have P4 := Lib.hid ((HP.out.alloc.past hv1).alloc.past hb1)
      have K4 := Lib.hid ((HK.out.alloc.past hv1).alloc.past hb1)
      have F4 := Lib.hid ((Blk.new v1 59 #[.int .i64 0, .int .i64 0]).past hb1)
      have S4 := Lib.hid (pt (pa (pt (pa HS.out) hv1)) hb1)
      have hf : kb0 < v1.heap.size := (HK.out.alloc.past hv1).lt
      generalize v1.heap.size = fb at *
      clear hb1 hv1 u0 u1 u2 u3 e1 e1' e2 e2' e3 e3' e4 e4' pf0 pl k0 k1 kl HL HO HP HK HS
      have pf1 := P4.out.cellAt 1 rfl
      have pl := P4.out.lt
      have f0 := F4.out.cellAt 0 rfl
      have f1 := F4.out.cellAt 1 rfl
      have g0 := F4.out.frozen 0
      have g1 := F4.out.frozen 1
      have fl := F4.out.lt
      have HSm := Lib.hid (small_num nm)
      generalize hwb : withinB nm (-1000000000) 1000000000 = wb at *
      have HWb := Lib.hid hwb
      clear hwb
      cases wb with
      | false =>
        have HN := Lib.hid (HNs.out (HSf.out (.inl rfl)))
        go_wp2_with (go_at_call 44; (with_reducible refine (HSm.out _).mono ?_); rintro e w' ⟨rfl, rfl⟩)
        go_ret2
        exact .inr ⟨HN.out, rfl, ps (ps S4.out (by show w.heap.size ≤ fb; omega)) (by show w.heap.size ≤ fb; omega)⟩
      | true =>
        by_cases hd : dn ≤ 1000000000
        · have hd2 : ¬ 1000000000 < dn := by omega
          have hd3 : ¬ dn > 1000000000 := hd2
          have HTs := Lib.hid (HTn.out (HSt.out rfl hd))
          go_wp2_with (go_at_call 44; (with_reducible refine (HSm.out _).mono ?_); rintro e w' ⟨rfl, rfl⟩)
          refine region_below 8 follows_mixed (by kernel_rfl) ?_
          intro C hC
          simp only [List.take_succ_cons, List.take_zero, List.drop_succ_cons, List.drop_zero]
          repeat (first
            | ((with_reducible refine quiet_plain rfl (fun K hK => ?_)); (focus (apply quiet_val; (focus (intro w' hw; obtain ⟨hcq, hfq⟩ := bcell ((hC.out _).1 hw); go_simp; (first | done | rfl | (with_reducible exact call_same hw (part_2 _ _ _))))); (simp only [Act.put, List.setIfInBounds_toArray, List.set_cons_succ, List.set_cons_zero]); (with_reducible refine hK _ ?_); clear hK K)))
            | ((with_reducible refine quiet_skip ?_ ?_); (focus (first | (simp [Region.wanted, yielded]; done) | (simp [Region.wanted, yielded, undef]; done))); simp only [Act.put, List.setIfInBounds_toArray, List.set_cons_succ, List.set_cons_zero])
            | ((with_reducible refine quiet_go ?_ (fun K hK => ?_)); (focus (first | (simp [Region.wanted, yielded]; done) | (simp [Region.wanted, yielded, undef]; done))); (focus (apply quiet_val; (focus (intro w' hw; obtain ⟨hcq, hfq⟩ := bcell ((hC.out _).1 hw); go_simp; (first | done | rfl | (with_reducible exact call_same hw (part_2 _ _ _))))); (simp only [Act.put, List.setIfInBounds_toArray, List.set_cons_succ, List.set_cons_zero]); (with_reducible refine hK _ ?_); clear hK K))))
          refine wpQuiet_nil ?_
          intro w1 hb1
          replace hb1 := (hC.out _).1 hb1
          clear hC C
          obtain ⟨hc1, hf1⟩ := bcell hb1
          have L5 := Lib.hid (((L4.out.far (by show w.heap.size ≠ fb; omega)).far (by show w.heap.size ≠ fb; omega)).past hb1)
          have O5 := Lib.hid (((O4.out.far (by show o ≠ fb; omega)).far (by show o ≠ fb; omega)).past hb1)
          have P5 := Lib.hid (((P4.out.far (by show pb0 ≠ fb; omega)).far (by show pb0 ≠ fb; omega)).past hb1)
          have K5 := Lib.hid (((K4.out.far (by show kb0 ≠ fb; omega)).far (by show kb0 ≠ fb; omega)).past hb1)
          have S5 := Lib.hid (pt (ps (ps S4.out (by show w.heap.size ≤ fb; omega)) (by show w.heap.size ≤ fb; omega)) hb1)
          clear hb1 hc1 hf1 hf pf1 pl f0 f1 g0 g1 fl F4 L4 O4 P4 K4 S4
          have o0 : w1.cell? ⟨o, i * 4, none⟩ = some a1 := O5.out.cellAt _ HA1.out
          have o1 : w1.cell? ⟨o, i * 4 + 1, none⟩ = some a2 := O5.out.cellAt _ HA2.out
          have g0 := O5.out.frozen (i * 4)
          have g1 := O5.out.frozen (i * 4 + 1)
          have ol := O5.out.lt
          go_wp2
          go_roundw
          case rel => exact ⟨i + 1, _, src_succ _, HI.out, HTs.out, (L5.out.far (by show w.heap.size ≠ o; omega)).far (by show w.heap.size ≠ o; omega), (O5.out.set_ _ _).set_ _ _, (P5.out.far (by show pb0 ≠ o; omega)).far (by show pb0 ≠ o; omega), (K5.out.far (by show kb0 ≠ o; omega)).far (by show kb0 ≠ o; omega), ps (ps S5.out (by show w.heap.size ≤ o; omega)) (by show w.heap.size ≤ o; omega)⟩
          case measure => exact src_meas HI.out
        · have hd2 : 1000000000 < dn := by omega
          have hd3 : dn > 1000000000 := hd2
          have HN := Lib.hid (HNs.out (HSf.out (.inr (by first | exact hd | exact hd2))))
          go_wp2_with (go_at_call 44; (with_reducible refine (HSm.out _).mono ?_); rintro e w' ⟨rfl, rfl⟩)
          go_ret2
          exact .inr ⟨HN.out, rfl, ps (ps S4.out (by show w.heap.size ≤ fb; omega)) (by show w.heap.size ≤ fb; omega)⟩
    · obtain rfl : i = ls.length := Nat.le_antisymm hi (Nat.le_of_not_lt hlt)
      as_aux_lemma =>
      go_wp2
      have L0 := HL.out
      have O0 := HO.out
      have S0 := HS.out
      have T1 := HT
      clear HL HO HP HK HS HT T0 hk0 hp0
      obtain ⟨arr1, rfl⟩ : ∃ x, x = arr := ⟨_, rfl⟩
      obtain ⟨v, rfl⟩ : ∃ x, x = wr := ⟨_, rfl⟩
      rw [rounds_succ]
      have PN1 : Blk (v.alloc (.cells #[.nilFunc, .nilFunc] 108)) v.heap.size 108 #[.nilFunc, .nilFunc] := Blk.new _ _ _
      have l0 := L0.cellAt 0 rfl
      have l1 := L0.cellAt 1 rfl
      have ll := L0.lt
      go_wp2_with ((with_reducible refine store_blk (T := 108) (x := .tmp 9) (y := .tmp 26) (vs := #[.func (.func 88) #[] #[], .func (.func 89) #[] #[]]) PN1 ?_ ?_ ?_ ?_ ?_ ?_); (focus rfl); (focus exact part_size); (focus (simp [Value.oneCell']; done)); (focus rfl); (focus rfl); intro v3 P1 PP)
      have L1 := L0.alloc.put PP (by have := L0.lt; omega)
      have O1 := O0.alloc.put PP (by have := O0.lt; omega)
      have S1 := pp (pa S0) PP S0.size
      have hp1 : o < v.heap.size := O0.lt
      generalize v.heap.size = pb1 at *
      clear l0 l1 ll PN1 PP L0 O0 S0
      have l0 := L1.cellAt 0 rfl
      have l1 := L1.cellAt 1 rfl
      have ll := L1.lt
      have pf0 := P1.cellAt 0 rfl
      have pf1 := P1.cellAt 1 rfl
      have pl := P1.lt
      refine region_alloc (zc := (.cells #[.int .i64 0, .int .i64 0] 112)) 7 follows_mixed (by kernel_rfl) rfl (fun _ _ => by kernel_rfl) ?_
      simp only [List.take_succ_cons, List.take_zero, List.drop_succ_cons, List.drop_zero]
      repeat (first
        | ((with_reducible apply grow_plain); (focus rfl); (focus (intro w' hw; obtain ⟨hcq, hfq⟩ := bcell hw; go_simp; (first | done | rfl | (with_reducible exact (part_3 _ _ _)) | (with_reducible exact (HBq.out _ (pt S1 hw)))))); (simp only [Act.put, List.setIfInBounds_toArray, List.set_cons_succ, List.set_cons_zero]))
        | ((with_reducible apply grow_skip); (focus (first | (simp [Region.wanted, yielded]; done) | (simp [Region.wanted, yielded, undef]; done))); simp only [Act.put, List.setIfInBounds_toArray, List.set_cons_succ, List.set_cons_zero])
        | ((with_reducible apply grow_go); (focus (first | (simp [Region.wanted, yielded]; done) | (simp [Region.wanted, yielded, undef]; done))); (focus (intro w' hw; obtain ⟨hcq, hfq⟩ := bcell hw; go_simp; (first | done | rfl | (with_reducible exact (part_3 _ _ _)) | (with_reducible exact (HBq.out _ (pt S1 hw)))))); (simp only [Act.put, List.setIfInBounds_toArray, List.set_cons_succ, List.set_cons_zero])))
      refine grow_nil ?_
      intro v1 w1 hv1 hb1
      simp only [List.setIfInBounds_toArray, List.set_cons_succ, List.set_cons_zero]
      have L2 := (L1.past hv1).alloc.past hb1
      have O2 := (O1.past hv1).alloc.past hb1
      have P2 := (P1.past hv1).alloc.past hb1
      have K2 := (Blk.new v1 112 #[.int .i64 0, .int .i64 0]).past hb1
      have S2 := pt (pa (pt S1 hv1)) hb1
      have hk1 : pb1 < v1.heap.size := (P1.past hv1).lt
      generalize v1.heap.size = kb1 at *
      clear hb1 hv1 l0 l1 ll pf0 pf1 pl L1 O1 P1 S1 v3
      have k0 := K2.cellAt 0 rfl
      have k1 := K2.cellAt 1 rfl
      have f0 := K2.frozen 0
      have f1 := K2.frozen 1
      have kl := K2.lt
      go_wp2
      have W3 : ∃ u, u = (w1.setCell ⟨kb1, 0, none⟩ (.int .i64 (dropI ls Src.q q ls.length))).setCell ⟨kb1, 1, none⟩ (.int .i64 (sumI ls ls.length)) := ⟨_, rfl⟩
      have L3 : Blk ((w1.setCell ⟨kb1, 0, none⟩ (.int .i64 (dropI ls Src.q q ls.length))).setCell ⟨kb1, 1, none⟩ (.int .i64 (sumI ls ls.length))) w.heap.size 24 #[.int .i64 p, .int .i64 q] := (L2.far (by show w.heap.size ≠ kb1; omega)).far (by show w.heap.size ≠ kb1; omega)
      have O3 : Blk ((w1.setCell ⟨kb1, 0, none⟩ (.int .i64 (dropI ls Src.q q ls.length))).setCell ⟨kb1, 1, none⟩ (.int .i64 (sumI ls ls.length))) o 90 arr1 := (O2.far (by show o ≠ kb1; omega)).far (by show o ≠ kb1; omega)
      have P3 : Blk ((w1.setCell ⟨kb1, 0, none⟩ (.int .i64 (dropI ls Src.q q ls.length))).setCell ⟨kb1, 1, none⟩ (.int .i64 (sumI ls ls.length))) pb1 108 #[.func (.func 88) #[] #[], .func (.func 89) #[] #[]] := (P2.far (by show pb1 ≠ kb1; omega)).far (by show pb1 ≠ kb1; omega)
      have K3 : Blk ((w1.setCell ⟨kb1, 0, none⟩ (.int .i64 (dropI ls Src.q q ls.length))).setCell ⟨kb1, 1, none⟩ (.int .i64 (sumI ls ls.length))) kb1 112 #[.int .i64 (dropI ls Src.q q ls.length), .int .i64 (sumI ls ls.length)] := (K2.set_ 0 _).set_ 1 _
      have S3 : Below w.heap.size w ((w1.setCell ⟨kb1, 0, none⟩ (.int .i64 (dropI ls Src.q q ls.length))).setCell ⟨kb1, 1, none⟩ (.int .i64 (sumI ls ls.length))) := ps (ps S2 (by show w.heap.size ≤ kb1; omega)) (by show w.heap.size ≤ kb1; omega)
      generalize (w1.setCell ⟨kb1, 0, none⟩ (.int .i64 (dropI ls Src.q q ls.length))).setCell ⟨kb1, 1, none⟩ (.int .i64 (sumI ls ls.length)) = v at *
      clear k0 k1 f0 f1 kl L2 O2 P2 K2 S2 W3
      have HL3 := Lib.hid L3
      have HO3 := Lib.hid O3
      have HP3 := Lib.hid P3
      have HK3 := Lib.hid K3
      have HS3 := Lib.hid S3
      clear L3 O3 P3 K3 S3
      go_loopw [36] (fun iv wr => ∃ (i : Nat) (arr : Array Value), iv = .int .i64 (i : Int) ∧ i ≤ ls.length ∧ OutSt ls p q ls.length i arr ∧ Blk wr w.heap.size 24 #[.int .i64 p, .int .i64 q] ∧ Blk wr o 90 arr ∧ Blk wr pb1 108 #[.func (.func 88) #[] #[], .func (.func 89) #[] #[]] ∧ Blk wr kb1 112 #[.int .i64 (dropI ls Src.q q ls.length), .int .i64 (sumI ls ls.length)] ∧ Below w.heap.size w wr) (fun iv _ => ls.length - (intOf iv).toNat)
      case atStart => exact ⟨0, arr1, rfl, Nat.zero_le _, T1.out, HL3.out, HO3.out, HP3.out, HK3.out, HS3.out⟩
      case round =>
        clear HL3 HO3 HP3 HK3 HS3
        obtain ⟨i, arr, rfl, hi, ht, hl, ho3, hp3, hk3, hs3⟩ := hrel
        have HT := Lib.hid ht
        have HL := Lib.hid hl
        have HO := Lib.hid ho3
        have HP := Lib.hid hp3
        have HK := Lib.hid hk3
        have HS := Lib.hid hs3
        have i0 := src_cast i
        clear ht hl ho3 hp3 hk3 hs3
        by_cases hlt : i < ls.length
        · as_aux_lemma =>
          have i1 := src_lt hlt
          have i9 : (i : Int) ≤ 4 := by have := HL4.out; omega
          have HI := Lib.hid hlt
          obtain ⟨b, off, hA, hb, hct⟩ := (HX.out _ HS.out).at_ hlt
          subst hA
          obtain ⟨u0, u1, u2, u3⟩ := hct i hlt
          obtain ⟨⟨b1, b2⟩, ⟨b3, b4⟩, ⟨b5, b6, b7⟩, ⟨b8, b9, b10⟩⟩ := HC1.out i hlt
          have HG := Lib.hid (HG1.out i hlt)
          have HTn := Lib.hid (fun hs => HT.out.setQ hlt hs)
          have HNs := Lib.hid (fun hs => not_small_Q (p := p) (q := q) hlt hs)
          have hz1 : i * 4 + 2 < arr.size := by rw [HT.out.size]; omega
          have hz2 : i * 4 + 3 < arr.size := by rw [HT.out.size]; omega
          obtain ⟨a1, ha1⟩ : ∃ x, arr[i * 4 + 2]? = some x := ⟨_, Array.getElem?_eq_getElem hz1⟩
          obtain ⟨a2, ha2⟩ : ∃ x, arr[i * 4 + 3]? = some x := ⟨_, Array.getElem?_eq_getElem hz2⟩
          have HA1 := Lib.hid ha1
          have HA2 := Lib.hid ha2
          clear hct hz1 hz2 ha1 ha2
          obtain ⟨nm, hnm⟩ : ∃ x, (curR ls Src.q q (ls.getD i default)).num = x := ⟨_, rfl⟩
          obtain ⟨dn, hdn⟩ : ∃ x, ((curR ls Src.q q (ls.getD i default)).den : Int) = x := ⟨_, rfl⟩
          have HSt := Lib.hid (fun a b => smallR_t hnm hdn a b)
          have HSf := Lib.hid (fun a => smallR_f hnm hdn a)
          rw [hnm, hdn] at HG HTn
          clear hnm hdn
          generalize curN ls Src.q q (ls.getD i default) = cn at *
          generalize curD ls (ls.getD i default) = cd at *
          generalize smallR (curR ls Src.q q (ls.getD i default)) = sr at *
          generalize ls.getD i default = s at *
          obtain ⟨sp, sq, sn, sd⟩ := s
          have u0 : wr.cell? ⟨b, off + i * 4, none⟩ = some (.int .i64 sp) := u0
          have u1 : wr.cell? ⟨b, off + i * 4 + 1, none⟩ = some (.int .i64 sq) := u1
          have u2 : wr.cell? ⟨b, off + i * 4 + 2, none⟩ = some (.int .i64 sn) := u2
          have u3 : wr.cell? ⟨b, off + i * 4 + 3, none⟩ = some (.int .i64 sd) := u3
          dsimp only at b1 b2 b3 b4 b5 b8
          generalize sumI ls ls.length = sm at *
          generalize dropI ls Src.q q ls.length = dr at *
          obtain ⟨m1, hm1⟩ : ∃ x, sq * sm = x := ⟨_, rfl⟩
          rw [hm1] at b1 b2 b3 b4 b5
          obtain ⟨m2, hm2⟩ : ∃ x, m1 - dr = x := ⟨_, rfl⟩
          rw [hm2] at b3 b4 b5
          obtain ⟨e1, e1'⟩ := wrap_eq hm1 (by omega)
          obtain ⟨e2, e2'⟩ := wrap_eq hm2 (by omega)
          obtain ⟨e3, e3'⟩ := wrap_eq b5 (by omega)
          obtain ⟨e4, e4'⟩ := wrap_eq b8 (by omega)
          have pf0 := HP.out.cellAt 0 rfl
          have pl := HP.out.lt
          have k0 := HK.out.cellAt 0 rfl
          have k1 := HK.out.cellAt 1 rfl
          have kl := HK.out.lt
          clear b1 b2 b3 b4 b5 b6 b7 b8 b9 b10 hm1 hm2 hb
          go_wp2
          refine region_alloc (zc := (.cells #[.int .i64 0, .int .i64 0] 59)) 22 follows_mixed (by kernel_rfl) rfl (fun _ _ => by kernel_rfl) ?_
          simp only [List.take_succ_cons, List.take_zero, List.drop_succ_cons, List.drop_zero]
          repeat (first
            | ((with_reducible apply grow_plain); (focus rfl); (focus (intro w' hw; obtain ⟨hcq, hfq⟩ := bcell hw; go_simp; (first | done | rfl | (with_reducible exact (part_3 _ _ _)) | (with_reducible exact (HG.out _))))); (simp only [Act.put, List.setIfInBounds_toArray, List.set_cons_succ, List.set_cons_zero]))
            | ((with_reducible apply grow_skip); (focus (first | (simp [Region.wanted, yielded]; done) | (simp [Region.wanted, yielded, undef]; done))); simp only [Act.put, List.setIfInBounds_toArray, List.set_cons_succ, List.set_cons_zero])
            | ((with_reducible apply grow_go); (focus (first | (simp [Region.wanted, yielded]; done) | (simp [Region.wanted, yielded, undef]; done))); (focus (intro w' hw; obtain ⟨hcq, hfq⟩ := bcell hw; go_simp; (first | done | rfl | (with_reducible exact (part_3 _ _ _)) | (with_reducible exact (HG.out _))))); (simp only [Act.put, List.setIfInBounds_toArray, List.set_cons_succ, List.set_cons_zero])))
          refine grow_nil ?_
          intro v1 w1 hv1 hb1
          simp only [List.setIfInBounds_toArray, List.set_cons_succ, List.set_cons_zero]
          have L4 := Lib.hid ((HL.out.alloc.past hv1).alloc.past hb1)
          have O4 := Lib.hid ((HO.out.alloc.past hv1).alloc.past hb1)
          have P4 := Lib.hid ((HP.out.alloc.past hv1).alloc.past hb1)
          have K4 := Lib.hid ((HK.out.alloc.past hv1).alloc.past hb1)
          have F4 := Lib.hid ((Blk.new v1 59 #[.int .i64 0, .int .i64 0]).past hb1)
          have S4 := Lib.hid (pt (pa (pt (pa HS.out) hv1)) hb1)
          have hf : kb1 < v1.heap.size := (HK.out.alloc.past hv1).lt
          generalize v1.heap.size = fb at *
          clear hb1 hv1 u0 u1 u2 u3 e1 e1' e2 e2' e3 e3' e4 e4' pf0 pl k0 k1 kl HL HO HP HK HS
          have pf1 := P4.out.cellAt 1 rfl
          have pl := P4.out.lt
          have f0 := F4.out.cellAt 0 rfl
          have f1 := F4.out.cellAt 1 rfl
          have g0 := F4.out.frozen 0
          have g1 := F4.out.frozen 1
          have fl := F4.out.lt
          have HSm := Lib.hid (small_num nm)
          generalize hwb : withinB nm (-1000000000) 1000000000 = wb at *
          have HWb := Lib.hid hwb
          clear hwb
          cases wb with
          | false =>
            have HN := Lib.hid (HNs.out (HSf.out (.inl rfl)))
            go_wp2_with (go_at_call 44; (with_reducible refine (HSm.out _).mono ?_); rintro e w' ⟨rfl, rfl⟩)
            go_ret2
            exact .inr ⟨HN.out, rfl, ps (ps S4.out (by show w.heap.size ≤ fb; omega)) (by show w.heap.size ≤ fb; omega)⟩
          | true =>
            by_cases hd : dn ≤ 1000000000
            · have hd2 : ¬ 1000000000 < dn := by omega
              have hd3 : ¬ dn > 1000000000 := hd2
              have HTs := Lib.hid (HTn.out (HSt.out rfl hd))
              go_wp2_with (go_at_call 44; (with_reducible refine (HSm.out _).mono ?_); rintro e w' ⟨rfl, rfl⟩)
              refine region_below 8 follows_mixed (by kernel_rfl) ?_
              intro C hC
              simp only [List.take_succ_cons, List.take_zero, List.drop_succ_cons, List.drop_zero]
              repeat (first
                | ((with_reducible refine quiet_plain rfl (fun K hK => ?_)); (focus (apply quiet_val; (focus (intro w' hw; obtain ⟨hcq, hfq⟩ := bcell ((hC.out _).1 hw); go_simp; (first | done | rfl | (with_reducible exact call_same hw (part_4 _ _ _))))); (simp only [Act.put, List.setIfInBounds_toArray, List.set_cons_succ, List.set_cons_zero]); (with_reducible refine hK _ ?_); clear hK K)))
                | ((with_reducible refine quiet_skip ?_ ?_); (focus (first | (simp [Region.wanted, yielded]; done) | (simp [Region.wanted, yielded, undef]; done))); simp only [Act.put, List.setIfInBounds_toArray, List.set_cons_succ, List.set_cons_zero])
                | ((with_reducible refine quiet_go ?_ (fun K hK => ?_)); (focus (first | (simp [Region.wanted, yielded]; done) | (simp [Region.wanted, yielded, undef]; done))); (focus (apply quiet_val; (focus (intro w' hw; obtain ⟨hcq, hfq⟩ := bcell ((hC.out _).1 hw); go_simp; (first | done | rfl | (with_reducible exact call_same hw (part_4 _ _ _))))); (simp only [Act.put, List.setIfInBounds_toArray, List.set_cons_succ, List.set_cons_zero]); (with_reducible refine hK _ ?_); clear hK K))))
              refine wpQuiet_nil ?_
              intro w1 hb1
              replace hb1 := (hC.out _).1 hb1
              clear hC C
              obtain ⟨hc1, hf1⟩ := bcell hb1
              have L5 := Lib.hid (((L4.out.far (by show w.heap.size ≠ fb; omega)).far (by show w.heap.size ≠ fb; omega)).past hb1)
              have O5 := Lib.hid (((O4.out.far (by show o ≠ fb; omega)).far (by show o ≠ fb; omega)).past hb1)
              have P5 := Lib.hid (((P4.out.far (by show pb1 ≠ fb; omega)).far (by show pb1 ≠ fb; omega)).past hb1)
              have K5 := Lib.hid (((K4.out.far (by show kb1 ≠ fb; omega)).far (by show kb1 ≠ fb; omega)).past hb1)
              have S5 := Lib.hid (pt (ps (ps S4.out (by show w.heap.size ≤ fb; omega)) (by show w.heap.size ≤ fb; omega)) hb1)
              clear hb1 hc1 hf1 hf pf1 pl f0 f1 g0 g1 fl F4 L4 O4 P4 K4 S4
              have o0 : w1.cell? ⟨o, i * 4 + 2, none⟩ = some a1 := O5.out.cellAt _ HA1.out
              have o1 : w1.cell? ⟨o, i * 4 + 3, none⟩ = some a2 := O5.out.cellAt _ HA2.out
              have g0 := O5.out.frozen (i * 4 + 2)
              have g1 := O5.out.frozen (i * 4 + 3)
              have ol := O5.out.lt
              go_wp2
              go_roundw
              case rel => exact ⟨i + 1, _, src_succ _, HI.out, HTs.out, (L5.out.far (by show w.heap.size ≠ o; omega)).far (by show w.heap.size ≠ o; omega), (O5.out.set_ _ _).set_ _ _, (P5.out.far (by show pb1 ≠ o; omega)).far (by show pb1 ≠ o; omega), (K5.out.far (by show kb1 ≠ o; omega)).far (by show kb1 ≠ o; omega), ps (ps S5.out (by show w.heap.size ≤ o; omega)) (by show w.heap.size ≤ o; omega)⟩
              case measure => exact src_meas HI.out
            · have hd2 : 1000000000 < dn := by omega
              have hd3 : dn > 1000000000 := hd2
              have HN := Lib.hid (HNs.out (HSf.out (.inr (by first | exact hd | exact hd2))))
              go_wp2_with (go_at_call 44; (with_reducible refine (HSm.out _).mono ?_); rintro e w' ⟨rfl, rfl⟩)
              go_ret2
              exact .inr ⟨HN.out, rfl, ps (ps S4.out (by show w.heap.size ≤ fb; omega)) (by show w.heap.size ≤ fb; omega)⟩
        · obtain rfl : i = ls.length := Nat.le_antisymm hi (Nat.le_of_not_lt hlt)
          as_aux_lemma =>
          go_wp2
          have L0 := HL.out
          have O0 := HO.out
          have S0 := HS.out
          have T2 := HT
          clear HL HO HP HK HS HT T1 hk1 hp1
          obtain ⟨arr2, rfl⟩ : ∃ x, x = arr := ⟨_, rfl⟩
          obtain ⟨v, rfl⟩ : ∃ x, x = wr := ⟨_, rfl⟩
          rw [rounds_succ]
          go_wp2
          go_ret2
          exact .inl ⟨T2.out.small, some ⟨o, 0, none⟩, ls.length, rfl, T2.out.cells O0, Nat.le_refl _, S0⟩

end Go.Proofs.YtpdkbhjcpddnpaaGreatDoor
end
