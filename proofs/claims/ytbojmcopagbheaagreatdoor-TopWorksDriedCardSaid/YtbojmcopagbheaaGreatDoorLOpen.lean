/- Contract: a plan is checked: the plan, the index of a task, and the error. -/
import Derived.Test.YtbojmcopagbheaaGreatDoorKNeeds
import Derived.Test.YtbojmcopagbheaaGreatDoorQ3
namespace Go.Proofs.YtbojmcopagbheaaGreatDoor
open Go.RowKit

theorem getD_mem {α : Type} {l : List α} {j : Nat} {d : α} (h : j < l.length) : l.getD j d ∈ l := by
  have e : l.getD j d = l[j] := by simp [List.getD, h]
  rw [e]
  exact List.getElem_mem h

theorem getD_of {α : Type} {l : List α} {j : Nat} {d z : α} (h : j < l.length) (e : l[j] = z) : l.getD j d = z := by
  simp [List.getD, h, e]

theorem scan_zero {f : Nat → Int} {n : Nat} (h : (scan f n 0).2 = 0) : ∀ i, i < n → f i = 0 := by
  have H : ∀ (m k : Nat), (scanF f m k).2 = 0 → ∀ i, k ≤ i → i < k + m → f i = 0 := by
    intro m
    induction m with
    | zero => intro k _ i h1 h2; omega
    | succ m ih =>
      intro k hk i h1 h2
      rw [scanF] at hk
      by_cases h0 : f k = 0
      · rw [if_pos h0] at hk
        rcases Nat.lt_or_ge k i with h3 | h3
        · exact ih (k + 1) hk i h3 (by omega)
        · obtain rfl : k = i := by omega
          exact h0
      · rw [if_neg h0] at hk
        exact absurd hk h0
  intro i hi
  exact H (n - 0) 0 h i (Nat.zero_le _) (by omega)

def openE0 (m : Int) (n : Nat) : Int := firstV [unlessV (withinB m 1 4) 2, unlessV (decide ((n : Int) ≤ 7)) 8]
def openE1 (m : Int) (ts : List Task) (i : Nat) : Int := firstV [taskE (ts.getD i default), unlessV (decide ((ts.getD i default).machine < m) && !anyB (geB ts.length) (ts.getD i default).after) 6]
def openE2 (ts : List Task) (i : Nat) : Int := if (needsV ts i).testBit i then 13 else 0
def openV (m : Int) (ts : List Task) : Nat × Int :=
  if openE0 m ts.length ≠ 0 then (0, openE0 m ts.length)
  else if (scan (openE1 m ts) ts.length 0).2 ≠ 0 then scan (openE1 m ts) ts.length 0
  else scan (openE2 ts) ts.length 0

theorem taskE_zero {t : Task} (h : taskE t = 0) : t.after.length ≤ 7 ∧ ∀ j, j < t.after.length → 0 ≤ t.after.getD j 0 ∧ t.after.getD j 0 ≤ 6 := by
  unfold taskE at h
  by_cases h1 : taskE1 t = 0
  · rw [if_neg (by simpa using h1)] at h
    have h2 := (firstV_zero.1 (firstV_zero.1 h1).2).1
    have h3 := (unless_ne (by decide)).1 h2
    refine ⟨by have := of_decide_eq_true h3; omega, fun j hj => afterErr_in (scan_zero h j hj)⟩
  · rw [if_pos h1] at h
    exact absurd h h1

theorem planOk_of {m : Int} {ts : List Task} (h0 : openE0 m ts.length = 0) (h1 : (scan (openE1 m ts) ts.length 0).2 = 0) : PlanOk ts := by
  have h2 := (unless_ne (by decide)).1 (firstV_zero.1 (firstV_zero.1 h0).2).1
  refine ⟨by have := of_decide_eq_true h2; omega, fun i hi => ?_⟩
  have h3 := scan_zero h1 i hi
  obtain ⟨h4, h5⟩ := firstV_zero.1 h3
  have h6 := (unless_ne (by decide)).1 (firstV_zero.1 h5).1
  simp only [Bool.and_eq_true, Bool.not_eq_true'] at h6
  obtain ⟨h7, h8⟩ := taskE_zero h4
  refine ⟨h7, fun j hj => ⟨(h8 j hj).1, ?_⟩⟩
  have h9 := h6.2
  unfold anyB at h9
  rw [List.any_eq_false] at h9
  have h10 := h9 ((ts.getD i default).after.getD j 0) (getD_mem hj)
  simp only [geB, decide_eq_true_eq] at h10
  omega

theorem after_in {ts : List Task} (h : PlanOk ts) {i : Nat} (hi : i < ts.length) : ∀ z ∈ (ts.getD i default).after, 0 ≤ z ∧ z < ts.length := by
  intro z hz
  obtain ⟨q, hq1, hq3⟩ := List.getElem_of_mem hz
  have := (h.2 i hi).2 q hq1
  rwa [show (ts.getD i default).after.getD q 0 = z from getD_of hq1 hq3] at this

theorem needsRun_lt {ts : List Task} (h : PlanOk ts) : ∀ (f K : Nat) (S : List Nat), K < 128 → (∀ x ∈ S, x < ts.length) → needsRun ts f K S < 128
  | 0, K, S, hK, _ => hK
  | f + 1, K, S, hK, hS => by
    rcases List.eq_nil_or_concat S with rfl | ⟨S0, x, rfl⟩
    · exact hK
    · have hx : x < ts.length := hS x (by simp)
      have h7 := h.1
      have ha := after_in h hx
      obtain ⟨p1, p2, p3, p4, p5⟩ := pushAll_spec (ts.getD x default).after K S0 hK (fun z hz => by have := ha z hz; omega)
      simp only [needsRun, List.concat_eq_append, List.getLast?_concat, List.dropLast_concat]
      refine needsRun_lt h f _ _ p2 (fun z hz => ?_)
      rcases p5 z hz with h' | h'
      · exact hS z (by simp [h'])
      · have := ha _ h'; omega
theorem needsV_lt {ts : List Task} (h : PlanOk ts) {i : Nat} (hi : i < ts.length) : needsV ts i < 128 := needsRun_lt h _ _ _ (by decide) (by simpa using hi)

def SmallPlan (ts : List Task) : Prop := ts.length ≤ 1000 ∧ ∀ i, i < ts.length → (ts.getD i default).after.length ≤ 1000

set_option maxHeartbeats 2000000 in
set_option maxRecDepth 100000 in
theorem open_any (B : Nat) (ts : List Task) (A : Option Addr) (c : Nat) (m : Int) (w : World) (hr : TasksIn B w A ts) (hB : B ≤ w.heap.size) (hs : SmallPlan ts) :
    Calls Tryz.prog 93 #[.agg #[.int .i64 m, .slice A ts.length c]] w fun e w' =>
      e = .returned (.tuple #[.agg #[.int .i64 m, .slice A ts.length c], .int .i64 ((openV m ts).1 : Int), .int .i64 (openV m ts).2]) ∧ Below w.heap.size w w' := by
  have hn1000 := hs.1
  have HR := Lib.hid hr
  have HS := Lib.hid hs
  have HV := Lib.hid (show openV m ts = if openE0 m ts.length ≠ 0 then (0, openE0 m ts.length) else if (scan (openE1 m ts) ts.length 0).2 ≠ 0 then scan (openE1 m ts) ts.length 0 else scan (openE2 ts) ts.length 0 from rfl)
  have HPL := Lib.hid (@planOk_of m ts)
  have HE0 := Lib.hid (show firstV [unlessV (withinB m 1 4) 2, unlessV (decide ((ts.length : Int) ≤ 7)) 8] = openE0 m ts.length from rfl)
  generalize openV m ts = V at *
  clear hr hs
  have hE : openE0 m ts.length = 0 ∨ (openE0 m ts.length == 0) = false := by
    by_cases h : openE0 m ts.length = 0
    · exact .inl h
    · exact .inr (by simpa using h)
  generalize openE0 m ts.length = E0 at *
  rcases hE with hE | hE
  · have HE0z := Lib.hid hE
    have HE02 := Lib.hid (HE0.out.trans hE)
    have HV2 := Lib.hid (show V = if (scan (openE1 m ts) ts.length 0).2 ≠ 0 then scan (openE1 m ts) ts.length 0 else scan (openE2 ts) ts.length 0 by rw [HV.out, if_neg (by simpa using hE)])
    clear hE HV
    go_enter Tryz.func93, Tryz.ntmps93
    go_wp2
    refine region_below 9 follows_mixed (by kernel_rfl) ?_
    intro C hC
    simp only [List.take_succ_cons, List.take_zero, List.drop_succ_cons, List.drop_zero]
    repeat (first
      | ((with_reducible refine quiet_plain rfl (fun K hK => ?_)); (focus (apply quiet_val; (focus (intro w' hw; obtain ⟨hcq, hfq⟩ := bcell ((hC.out _).1 hw); go_simp; (first | done | rfl | (with_reducible exact call_same hw (within_any _ _ _ _)) | (with_reducible exact call_same hw (unless_any _ _ _))))); (simp only [Act.put, List.setIfInBounds_toArray, List.set_cons_succ, List.set_cons_zero]); (with_reducible refine hK _ ?_); clear hK K)))
      | ((with_reducible refine quiet_skip ?_ ?_); (focus (first | (simp [Region.wanted, yielded]; done) | (simp [Region.wanted, yielded, undef]; done))); simp only [Act.put, List.setIfInBounds_toArray, List.set_cons_succ, List.set_cons_zero])
      | ((with_reducible refine quiet_go ?_ (fun K hK => ?_)); (focus (first | (simp [Region.wanted, yielded]; done) | (simp [Region.wanted, yielded, undef]; done))); (focus (apply quiet_val; (focus (intro w' hw; obtain ⟨hcq, hfq⟩ := bcell ((hC.out _).1 hw); go_simp; (first | done | rfl | (with_reducible exact call_same hw (within_any _ _ _ _)) | (with_reducible exact call_same hw (unless_any _ _ _))))); (simp only [Act.put, List.setIfInBounds_toArray, List.set_cons_succ, List.set_cons_zero]); (with_reducible refine hK _ ?_); clear hK K))))
    refine wpQuiet_nil ?_
    intro w1 hb1
    replace hb1 := (hC.out _).1 hb1
    clear hC C
    obtain ⟨hc1, hf1⟩ := bcell hb1
    have r0 : Blk w1 w.heap.size 27 #[.int .i64 m, .slice A ts.length c] := (((Blk.newAt rfl).alloc).alloc).past hb1
    have r1 : Blk w1 (w.heap.size + 1) 102 #[.int .i64 0, .slice none 0 0] := ((Blk.newAt (by simp)).alloc).past hb1
    have r2 : Blk w1 (w.heap.size + 1 + 1) 102 #[.int .i64 m, .slice A ts.length c] := (Blk.newAt (by simp)).past hb1
    have hq := pt (pa (pa (pa (Below.refl w.heap.size w)))) hb1
    have c1 := r0.cellAt 1 rfl
    have z0 := r0.lt
    go_wp2_with (go_at_call 45; refine (first2' _ _ _ _ _ (by first | (go_simp; done) | (go_simp; rfl)) (by first | (go_simp; done) | (go_simp; rfl)) _ HE02.out).mono ?_; rintro e w' ⟨rfl, rfl⟩)
    have HPL2 := Lib.hid (HPL.out HE0z.out)
    go_loopw [32] (fun i wr => ∃ k : Nat, k ≤ ts.length ∧ i = .int .i64 (k : Int) ∧ scan (openE1 m ts) ts.length 0 = scan (openE1 m ts) ts.length k ∧ Blk wr w.heap.size 27 #[.int .i64 m, .slice A ts.length c] ∧ Blk wr (w.heap.size + 1) 102 #[.int .i64 0, .slice none 0 0] ∧ Blk wr (w.heap.size + 1 + 1) 102 #[.int .i64 m, .slice A ts.length c] ∧ Below w.heap.size w wr) (fun i _ => ts.length - (intOf i).toNat)
    case atStart => exact ⟨0, Nat.zero_le _, rfl, rfl, r0.alloc, r1.alloc, r2.alloc, pa hq⟩
    case round =>
      obtain ⟨k, hk, rfl, hf, q0, q1, q2, hq2⟩ := hrel
      clear r0 r1 r2 hq c1 z0 hb1 hc1 hf1
      have d0 := q0.cellAt 0 rfl
      have d1 := q0.cellAt 1 rfl
      have y0 := q0.lt
      by_cases hlt : k < ts.length
      · obtain ⟨b, off, hA, hbB, hct⟩ := (HR.out.below (hq2.mono hB)).at_ hlt
        subst hA
        have hbw := Nat.lt_of_lt_of_le hbB (Nat.le_trans hB hq2.size)
        obtain ⟨t0, t1, t2, A3, c3, t3, t4, t5⟩ := hct k hlt
        have hm3 := HS.out.2 k hlt
        have HF := Lib.hid (hf.trans (scan_step hlt))
        have hv1 : firstV [taskE (ts.getD k default), unlessV (decide ((ts.getD k default).machine < m) && !anyB (geB ts.length) (ts.getD k default).after) 6] = openE1 m ts k := rfl
        generalize ts.getD k default = t at *
        have HT4 := Lib.hid t4
        have hcf := containsFunc_open B A3 t.after.length c3 t.after (geB ts.length) (.pointer (some ⟨w.heap.size, 0, none⟩)) (wr.alloc (.cells #[.int .i64 t.machine, .int .i64 t.length, .int .i64 t.release, .slice A3 t.after.length c3] 41)) (t4.below ((pa (Below.refl _ wr)).mono (Nat.le_trans hB hq2.size))) rfl hm3 (fun x => open1_any x w.heap.size _ ts.length c _ ((q0.alloc).cellAt 1 rfl))
        have HCF := Lib.hid hcf
        clear hct hf t4 hcf
        have HTa := Lib.hid (show IntsIn B (wr.alloc (.cells #[.int .i64 t.machine, .int .i64 t.length, .int .i64 t.release, .slice A3 t.after.length c3] 41)) A3 t.after from HT4.out.below ((pa (Below.refl _ wr)).mono (Nat.le_trans hB hq2.size)))
        have hBa : B ≤ (wr.alloc (.cells #[.int .i64 t.machine, .int .i64 t.length, .int .i64 t.release, .slice A3 t.after.length c3] 41)).heap.size := Nat.le_trans hB (pa hq2).size
        have hcases : ∃ R : Bool, firstV [taskE t, unlessV R 6] = openE1 m ts k ∧ ((decide (t.machine < m) = true ∧ R = !anyB (geB ts.length) t.after) ∨ (decide (t.machine < m) = false ∧ R = false)) := by
          refine ⟨_, hv1, ?_⟩
          cases decide (t.machine < m) <;> simp
        obtain ⟨R, hv1, hR⟩ := hcases
        have hF : openE1 m ts k = 0 ∨ (openE1 m ts k == 0) = false := by
          by_cases h : openE1 m ts k = 0
          · exact .inl h
          · exact .inr (by simpa using h)
        rcases hF with hF | hF
        · have HG := Lib.hid (show scan (openE1 m ts) ts.length 0 = scan (openE1 m ts) ts.length (k + 1) by rw [HF.out, if_pos hF])
          have HV1 := Lib.hid (hv1.trans hF)
          clear hv1 hF HF
          rcases hR with ⟨hR, rfl⟩ | ⟨hR, rfl⟩
          all_goals
            go_wp2_with (go_at_call 122; refine HCF.out.mono ?_; rintro e w' ⟨rfl, rfl⟩)
            refine region_below 12 follows_mixed (by kernel_rfl) ?_
            intro C hC
            simp only [List.take_succ_cons, List.take_zero, List.drop_succ_cons, List.drop_zero]
            repeat (first
              | ((with_reducible refine quiet_plain rfl (fun K hK => ?_)); (focus (apply quiet_val; (focus (intro w' hw; obtain ⟨hcq, hfq⟩ := bcell ((hC.out _).1 hw); go_simp; (first | done | rfl | (with_reducible exact call_below hC hw (taskErr_any B t A3 t.after.length c3 _ rfl (HTa.out.below (((hC.out _).1 hw).mono hBa)) (Nat.le_trans hBa ((hC.out _).1 hw).size) hm3)) | (with_reducible exact call_same hw (unless_any _ _ _))))); (simp only [Act.put, List.setIfInBounds_toArray, List.set_cons_succ, List.set_cons_zero]); (with_reducible refine hK _ ?_); clear hK K)))
              | ((with_reducible refine quiet_skip ?_ ?_); (focus (first | (simp [Region.wanted, yielded]; done) | (simp [Region.wanted, yielded, undef]; done))); simp only [Act.put, List.setIfInBounds_toArray, List.set_cons_succ, List.set_cons_zero])
              | ((with_reducible refine quiet_go ?_ (fun K hK => ?_)); (focus (first | (simp [Region.wanted, yielded]; done) | (simp [Region.wanted, yielded, undef]; done))); (focus (apply quiet_val; (focus (intro w' hw; obtain ⟨hcq, hfq⟩ := bcell ((hC.out _).1 hw); go_simp; (first | done | rfl | (with_reducible exact call_below hC hw (taskErr_any B t A3 t.after.length c3 _ rfl (HTa.out.below (((hC.out _).1 hw).mono hBa)) (Nat.le_trans hBa ((hC.out _).1 hw).size) hm3)) | (with_reducible exact call_same hw (unless_any _ _ _))))); (simp only [Act.put, List.setIfInBounds_toArray, List.set_cons_succ, List.set_cons_zero]); (with_reducible refine hK _ ?_); clear hK K))))
            refine wpQuiet_nil ?_
            intro w1 hb1
            replace hb1 := (hC.out _).1 hb1
            clear hC C
            obtain ⟨hc1, hf1⟩ := bcell hb1
            go_wp2_with (go_at_call 45; refine (first2' _ _ _ _ _ (by first | (go_simp; done) | (go_simp; rfl)) (by first | (go_simp; done) | (go_simp; rfl)) _ HV1.out).mono ?_; rintro e w' ⟨rfl, rfl⟩)
            go_roundw
            case rel => exact ⟨k + 1, by omega, by go_num, HG.out, (q0.alloc.past hb1).alloc, (q1.alloc.past hb1).alloc, (q2.alloc.past hb1).alloc, pa (pt (pa hq2) hb1)⟩
            case measure => simp [intOf]; omega
        · have HG := Lib.hid (show scan (openE1 m ts) ts.length 0 = (k, openE1 m ts k) by rw [HF.out, if_neg (by simpa using hF)])
          have HV1 := Lib.hid hv1
          clear hv1 HF
          generalize openE1 m ts k = F at *
          have HV3 := Lib.hid (show V = (k, F) by rw [HV2.out, HG.out, if_pos (by simpa using hF)])
          rcases hR with ⟨hR, rfl⟩ | ⟨hR, rfl⟩
          all_goals
            go_wp2_with (go_at_call 122; refine HCF.out.mono ?_; rintro e w' ⟨rfl, rfl⟩)
            refine region_below 12 follows_mixed (by kernel_rfl) ?_
            intro C hC
            simp only [List.take_succ_cons, List.take_zero, List.drop_succ_cons, List.drop_zero]
            repeat (first
              | ((with_reducible refine quiet_plain rfl (fun K hK => ?_)); (focus (apply quiet_val; (focus (intro w' hw; obtain ⟨hcq, hfq⟩ := bcell ((hC.out _).1 hw); go_simp; (first | done | rfl | (with_reducible exact call_below hC hw (taskErr_any B t A3 t.after.length c3 _ rfl (HTa.out.below (((hC.out _).1 hw).mono hBa)) (Nat.le_trans hBa ((hC.out _).1 hw).size) hm3)) | (with_reducible exact call_same hw (unless_any _ _ _))))); (simp only [Act.put, List.setIfInBounds_toArray, List.set_cons_succ, List.set_cons_zero]); (with_reducible refine hK _ ?_); clear hK K)))
              | ((with_reducible refine quiet_skip ?_ ?_); (focus (first | (simp [Region.wanted, yielded]; done) | (simp [Region.wanted, yielded, undef]; done))); simp only [Act.put, List.setIfInBounds_toArray, List.set_cons_succ, List.set_cons_zero])
              | ((with_reducible refine quiet_go ?_ (fun K hK => ?_)); (focus (first | (simp [Region.wanted, yielded]; done) | (simp [Region.wanted, yielded, undef]; done))); (focus (apply quiet_val; (focus (intro w' hw; obtain ⟨hcq, hfq⟩ := bcell ((hC.out _).1 hw); go_simp; (first | done | rfl | (with_reducible exact call_below hC hw (taskErr_any B t A3 t.after.length c3 _ rfl (HTa.out.below (((hC.out _).1 hw).mono hBa)) (Nat.le_trans hBa ((hC.out _).1 hw).size) hm3)) | (with_reducible exact call_same hw (unless_any _ _ _))))); (simp only [Act.put, List.setIfInBounds_toArray, List.set_cons_succ, List.set_cons_zero]); (with_reducible refine hK _ ?_); clear hK K))))
            refine wpQuiet_nil ?_
            intro w1 hb1
            replace hb1 := (hC.out _).1 hb1
            clear hC C
            obtain ⟨hc1, hf1⟩ := bcell hb1
            have p1 := q1.alloc.past hb1
            have p2 := q2.alloc.past hb1
            have e0 := p1.cellAt 0 rfl
            have e1 := p1.cellAt 1 rfl
            have f0 := p1.frozen 0
            have f1 := p1.frozen 1
            have g0 := p2.cellAt 0 rfl
            have g1 := p2.cellAt 1 rfl
            have x1 := p1.lt
            have x2 := p2.lt
            clear hc1 hf1
            go_wp2_with (go_at_call 45; refine (first2' _ _ _ _ _ (by first | (go_simp; done) | (go_simp; rfl)) (by first | (go_simp; done) | (go_simp; rfl)) _ HV1.out).mono ?_; rintro e w' ⟨rfl, rfl⟩)
            refine bodyPost_ret (v := .tuple #[.agg #[.int .i64 m, .slice (some ⟨b, off, none⟩) ts.length c], .int .i64 (k : Int), .int .i64 F]) (by simp [results, Tryz.results93, go_sem, e0, e1, x1]) rfl ⟨by rw [HV3.out], ?_⟩
            exact pa (ps (ps (pt (pa hq2) hb1) (by dsimp only; omega)) (by dsimp only; omega))
      · have hF := Lib.hid (show scan (openE1 m ts) ts.length 0 = (0, 0) by rw [hf]; exact scan_end (by omega))
        have HV3 := Lib.hid (show V = scan (openE2 ts) ts.length 0 by rw [HV2.out, hF.out, if_neg (by simp)])
        have hok := HPL2.out (by rw [hF.out])
        have h7 := hok.1
        have HOk := Lib.hid hok
        clear hf hok
        go_wp2
        obtain ⟨wo, rfl⟩ : ∃ wo : World, wo = wr := ⟨_, rfl⟩
        go_loopw [64] (fun i wr => ∃ k : Nat, k ≤ ts.length ∧ i = .int .i64 (k : Int) ∧ scan (openE2 ts) ts.length 0 = scan (openE2 ts) ts.length k ∧ Blk wr (w.heap.size + 1) 102 #[.int .i64 0, .slice none 0 0] ∧ Blk wr (w.heap.size + 1 + 1) 102 #[.int .i64 m, .slice A ts.length c] ∧ Below w.heap.size w wr) (fun i _ => ts.length - (intOf i).toNat)
        case atStart => exact ⟨0, Nat.zero_le _, rfl, rfl, q1, q2, hq2⟩
        case round =>
          obtain ⟨k2, hk2, rfl, hf2, s1, s2, hq3⟩ := hrel
          have g0 := s2.cellAt 0 rfl
          have g1 := s2.cellAt 1 rfl
          have x2 := s2.lt
          by_cases hlt2 : k2 < ts.length
          · have HF := Lib.hid (hf2.trans (scan_step hlt2))
            have HE2 := Lib.hid (show openE2 ts k2 = if (needsV ts k2).testBit k2 then 13 else 0 from rfl)
            have n0 : (0 : Int) ≤ (k2 : Int) := by omega
            have HTw := Lib.hid (HR.out.below (hq3.mono hB))
            have hBw : B ≤ wr.heap.size := Nat.le_trans hB hq3.size
            have hlt128 := needsV_lt HOk.out hlt2
            have e1 : IntKind.i64.wrap (2 ^ k2) = bitV k2 := wrap_bit (by omega)
            have hne := bitV_ne k2
            cases ht : (needsV ts k2).testBit k2 with
            | true =>
              have e2 := bits_and_yes (K := needsV ts k2) (j := k2) (by omega) (by omega) ht
              have HG := Lib.hid (show scan (openE2 ts) ts.length 0 = (k2, 13) by rw [HF.out, HE2.out, ht]; rfl)
              clear ht hf2 HF HE2
              go_wp2
              refine region_below 6 follows_mixed (by kernel_rfl) ?_
              intro C hC
              simp only [List.take_succ_cons, List.take_zero, List.drop_succ_cons, List.drop_zero]
              repeat (first
                | ((with_reducible refine quiet_plain rfl (fun K hK => ?_)); (focus (apply quiet_val; (focus (intro w' hw; obtain ⟨hcq, hfq⟩ := bcell ((hC.out _).1 hw); go_simp; (first | done | rfl | (with_reducible exact call_below hC hw (needs_any B ts A c m k2 _ (HTw.out.below (((hC.out _).1 hw).mono hBw)) (Nat.le_trans hBw ((hC.out _).1 hw).size) hlt2 HOk.out))))); (simp only [Act.put, List.setIfInBounds_toArray, List.set_cons_succ, List.set_cons_zero]); (with_reducible refine hK _ ?_); clear hK K)))
                | ((with_reducible refine quiet_skip ?_ ?_); (focus (first | (simp [Region.wanted, yielded]; done) | (simp [Region.wanted, yielded, undef]; done))); simp only [Act.put, List.setIfInBounds_toArray, List.set_cons_succ, List.set_cons_zero])
                | ((with_reducible refine quiet_go ?_ (fun K hK => ?_)); (focus (first | (simp [Region.wanted, yielded]; done) | (simp [Region.wanted, yielded, undef]; done))); (focus (apply quiet_val; (focus (intro w' hw; obtain ⟨hcq, hfq⟩ := bcell ((hC.out _).1 hw); go_simp; (first | done | rfl | (with_reducible exact call_below hC hw (needs_any B ts A c m k2 _ (HTw.out.below (((hC.out _).1 hw).mono hBw)) (Nat.le_trans hBw ((hC.out _).1 hw).size) hlt2 HOk.out))))); (simp only [Act.put, List.setIfInBounds_toArray, List.set_cons_succ, List.set_cons_zero]); (with_reducible refine hK _ ?_); clear hK K))))
              refine wpQuiet_nil ?_
              intro w1 hb1
              replace hb1 := (hC.out _).1 hb1
              clear hC C
              obtain ⟨hc1, hf1⟩ := bcell hb1
              have p1 := s1.past hb1
              have p2 := s2.past hb1
              have e0 := p1.cellAt 0 rfl
              have e3 := p1.cellAt 1 rfl
              have f0 := p1.frozen 0
              have f1 := p1.frozen 1
              have g3 := p2.cellAt 0 rfl
              have g4 := p2.cellAt 1 rfl
              clear hc1 hf1
              go_wp2
              refine bodyPost_ret (v := .tuple #[.agg #[.int .i64 m, .slice A ts.length c], .int .i64 (k2 : Int), .int .i64 13]) (by simp [results, Tryz.results93, go_sem, e0, e3]) rfl ⟨by rw [HV3.out, HG.out], ?_⟩
              exact ps (ps (pt hq3 hb1) (by dsimp only; omega)) (by dsimp only; omega)
            | false =>
              have e2 := bits_and_no (K := needsV ts k2) (j := k2) (by omega) (by omega) ht
              have HG := Lib.hid (show scan (openE2 ts) ts.length 0 = scan (openE2 ts) ts.length (k2 + 1) by rw [HF.out, HE2.out, ht]; rfl)
              clear ht hf2 HF HE2
              go_wp2
              refine region_below 6 follows_mixed (by kernel_rfl) ?_
              intro C hC
              simp only [List.take_succ_cons, List.take_zero, List.drop_succ_cons, List.drop_zero]
              repeat (first
                | ((with_reducible refine quiet_plain rfl (fun K hK => ?_)); (focus (apply quiet_val; (focus (intro w' hw; obtain ⟨hcq, hfq⟩ := bcell ((hC.out _).1 hw); go_simp; (first | done | rfl | (with_reducible exact call_below hC hw (needs_any B ts A c m k2 _ (HTw.out.below (((hC.out _).1 hw).mono hBw)) (Nat.le_trans hBw ((hC.out _).1 hw).size) hlt2 HOk.out))))); (simp only [Act.put, List.setIfInBounds_toArray, List.set_cons_succ, List.set_cons_zero]); (with_reducible refine hK _ ?_); clear hK K)))
                | ((with_reducible refine quiet_skip ?_ ?_); (focus (first | (simp [Region.wanted, yielded]; done) | (simp [Region.wanted, yielded, undef]; done))); simp only [Act.put, List.setIfInBounds_toArray, List.set_cons_succ, List.set_cons_zero])
                | ((with_reducible refine quiet_go ?_ (fun K hK => ?_)); (focus (first | (simp [Region.wanted, yielded]; done) | (simp [Region.wanted, yielded, undef]; done))); (focus (apply quiet_val; (focus (intro w' hw; obtain ⟨hcq, hfq⟩ := bcell ((hC.out _).1 hw); go_simp; (first | done | rfl | (with_reducible exact call_below hC hw (needs_any B ts A c m k2 _ (HTw.out.below (((hC.out _).1 hw).mono hBw)) (Nat.le_trans hBw ((hC.out _).1 hw).size) hlt2 HOk.out))))); (simp only [Act.put, List.setIfInBounds_toArray, List.set_cons_succ, List.set_cons_zero]); (with_reducible refine hK _ ?_); clear hK K))))
              refine wpQuiet_nil ?_
              intro w1 hb1
              replace hb1 := (hC.out _).1 hb1
              clear hC C
              obtain ⟨hc1, hf1⟩ := bcell hb1
              go_wp2
              go_roundw
              case rel => exact ⟨k2 + 1, by omega, by go_num, HG.out, s1.past hb1, s2.past hb1, pt hq3 hb1⟩
              case measure => simp [intOf]; omega
          · have HG := Lib.hid (show V = (0, 0) by rw [HV3.out, hf2]; exact scan_end (by omega))
            have e0 := s1.cellAt 0 rfl
            have e3 := s1.cellAt 1 rfl
            have f0 := s1.frozen 0
            have f1 := s1.frozen 1
            clear hf2
            go_wp2
            refine bodyPost_ret (v := .tuple #[.agg #[.int .i64 m, .slice A ts.length c], .int .i64 0, .int .i64 0]) (by simp [results, Tryz.results93, go_sem, e0, e3]) rfl ⟨by rw [HG.out]; rfl, ?_⟩
            exact ps (ps hq3 (by dsimp only; omega)) (by dsimp only; omega)
  · have HV2 := Lib.hid (show V = (0, E0) by rw [HV.out, if_pos (by simpa using hE)])
    clear HV HPL
    go_enter Tryz.func93, Tryz.ntmps93
    go_wp2
    refine region_below 9 follows_mixed (by kernel_rfl) ?_
    intro C hC
    simp only [List.take_succ_cons, List.take_zero, List.drop_succ_cons, List.drop_zero]
    repeat (first
      | ((with_reducible refine quiet_plain rfl (fun K hK => ?_)); (focus (apply quiet_val; (focus (intro w' hw; obtain ⟨hcq, hfq⟩ := bcell ((hC.out _).1 hw); go_simp; (first | done | rfl | (with_reducible exact call_same hw (within_any _ _ _ _)) | (with_reducible exact call_same hw (unless_any _ _ _))))); (simp only [Act.put, List.setIfInBounds_toArray, List.set_cons_succ, List.set_cons_zero]); (with_reducible refine hK _ ?_); clear hK K)))
      | ((with_reducible refine quiet_skip ?_ ?_); (focus (first | (simp [Region.wanted, yielded]; done) | (simp [Region.wanted, yielded, undef]; done))); simp only [Act.put, List.setIfInBounds_toArray, List.set_cons_succ, List.set_cons_zero])
      | ((with_reducible refine quiet_go ?_ (fun K hK => ?_)); (focus (first | (simp [Region.wanted, yielded]; done) | (simp [Region.wanted, yielded, undef]; done))); (focus (apply quiet_val; (focus (intro w' hw; obtain ⟨hcq, hfq⟩ := bcell ((hC.out _).1 hw); go_simp; (first | done | rfl | (with_reducible exact call_same hw (within_any _ _ _ _)) | (with_reducible exact call_same hw (unless_any _ _ _))))); (simp only [Act.put, List.setIfInBounds_toArray, List.set_cons_succ, List.set_cons_zero]); (with_reducible refine hK _ ?_); clear hK K))))
    refine wpQuiet_nil ?_
    intro w1 hb1
    replace hb1 := (hC.out _).1 hb1
    clear hC C
    obtain ⟨hc1, hf1⟩ := bcell hb1
    have r1 : Blk w1 (w.heap.size + 1) 102 #[.int .i64 0, .slice none 0 0] := ((Blk.newAt (by simp)).alloc).past hb1
    have r2 : Blk w1 (w.heap.size + 1 + 1) 102 #[.int .i64 m, .slice A ts.length c] := (Blk.newAt (by simp)).past hb1
    have e0 := r1.cellAt 0 rfl
    have e3 := r1.cellAt 1 rfl
    have f0 := r1.frozen 0
    have f1 := r1.frozen 1
    have g3 := r2.cellAt 0 rfl
    have g4 := r2.cellAt 1 rfl
    have x1 := r1.lt
    have x2 := r2.lt
    clear hc1 hf1
    go_wp2_with (go_at_call 45; refine (first2' _ _ _ _ _ (by first | (go_simp; done) | (go_simp; rfl)) (by first | (go_simp; done) | (go_simp; rfl)) _ HE0.out).mono ?_; rintro e w' ⟨rfl, rfl⟩)
    refine bodyPost_ret (v := .tuple #[.agg #[.int .i64 m, .slice A ts.length c], .int .i64 0, .int .i64 E0]) (by simp [results, Tryz.results93, go_sem, e0, e3, x1]) rfl ⟨by rw [HV2.out]; rfl, ?_⟩
    exact pa (ps (ps (pt (pa (pa (pa pr))) hb1) (by dsimp only; omega)) (by dsimp only; omega))

end Go.Proofs.YtbojmcopagbheaaGreatDoor
