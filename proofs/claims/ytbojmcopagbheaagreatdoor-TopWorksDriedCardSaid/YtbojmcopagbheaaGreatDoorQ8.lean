/- Contracts: the specification's CopyTask: a task in memory of its own. Rows of numbers in blocks of numbers.
Contracts: the law's Few; the specification's TaskErr, over the same value as the program's. -/
import Derived.Test.YtbojmcopagbheaaGreatDoorZTRefStack
import Derived.Test.YtbojmcopagbheaaGreatDoorLOpen
import Derived.Deep.RegionHeld3
import Derived.Deep.QuietTactic
import Derived.BigQuiet

section
namespace Go.Proofs.YtbojmcopagbheaaGreatDoor
open Go.RowKit

/-- From A on lie the numbers xs, in a block of numbers. -/
def NumRow (w : World) (A : Option Addr) (xs : List Int) : Prop :=
  xs = [] ∨ ∃ b off, A = some ⟨b, off, none⟩ ∧ (∃ (cs : Array Value) (fz : Nat × Nat), w.heap[b]? = some (Obj.cells cs 3 fz)) ∧ ∀ j, j < xs.length → w.cell? ⟨b, off + j, none⟩ = some (.int .i64 (xs.getD j 0))
section
variable {w w' : World} {A : Option Addr} {xs : List Int}
theorem NumRow.same (h : NumRow w A xs) (hk : ∀ (b : Nat) (cs : Array Value) (fz : Nat × Nat), w.heap[b]? = some (Obj.cells cs 3 fz) → w'.heap[b]? = w.heap[b]?) : NumRow w' A xs := by
  rcases h with h | ⟨b, off, hA, ⟨cs, fz, ht⟩, hc⟩
  · exact .inl h
  · exact .inr ⟨b, off, hA, ⟨cs, fz, (hk b cs fz ht).trans ht⟩, fun j hj => (World.cell?_of_block (hk b cs fz ht)).trans (hc j hj)⟩
theorem NumRow.ints (h : NumRow w A xs) : IntsIn w.heap.size w A xs := by
  rcases h with h | ⟨b, off, hA, ⟨cs, fz, ht⟩, hc⟩
  · exact .inl h
  · exact .inr ⟨b, off, hA, (Array.getElem?_eq_some_iff.1 ht).1, hc⟩
theorem NumRow.kept_below (hb : Below w.heap.size w w') : ∀ (b : Nat) (cs : Array Value) (fz : Nat × Nat), w.heap[b]? = some (Obj.cells cs 3 fz) → w'.heap[b]? = w.heap[b]? :=
  fun b _ _ ht => hb.block b (Array.getElem?_eq_some_iff.1 ht).1
theorem NumRow.past (h : NumRow w A xs) (hb : Below w.heap.size w w') : NumRow w' A xs := h.same (NumRow.kept_below hb)
theorem NumRow.kept_rows {base : Nat} {e : TypeId} {size n : Nat} {v : Value} {cs : List Value} (ho : w.ownsRow base e size v n cs) (hne : e ≠ 3) (hg : w.grownBy w' v.ownBlock) :
    ∀ (b : Nat) (cs : Array Value) (fz : Nat × Nat), w.heap[b]? = some (Obj.cells cs 3 fz) → w'.heap[b]? = w.heap[b]? := fun b cs fz ht => hg.block b (Array.getElem?_eq_some_iff.1 ht).1 fun he => by
  rcases ho.2 with ⟨h1, _⟩ | ⟨g, cap, cur, h1, _, hh, _⟩
  · rw [h1] at he; cases he
  · rw [h1] at he
    have : b = g := by simpa [Value.ownBlock] using he
    subst this
    rw [hh] at ht
    injection ht with ht
    injection ht with _ ht
    exact hne ht
/-- What lies in a block of another kind is not a row of numbers. -/
theorem NumRow.kept_cell {g : Nat} {t : TypeId} {cs : Array Value} (hb : Blk w g t cs) (hne : t ≠ 3) {p : Addr} (hp : p.block = g) (u : Value) :
    ∀ (b : Nat) (cs : Array Value) (fz : Nat × Nat), w.heap[b]? = some (Obj.cells cs 3 fz) → (w.setCell p u).heap[b]? = w.heap[b]? := fun b cs fz ht => Below.heap_setCell _ _ _ _ fun e => by
  rw [hp] at e
  subst e
  unfold Blk at hb
  rw [hb] at ht
  injection ht with ht
  injection ht with _ ht
  exact hne ht
theorem numRow_of_own {base n c : Nat} (h : w.ownsRow base 3 1 (.slice A n c) n (xs.map (Value.int .i64))) : NumRow w A xs := by
  have hi := intsIn_of_own h
  rcases h.2 with ⟨h1, h2⟩ | ⟨g, cap, cur, hv, _, hh, _⟩
  · refine .inl ?_
    have := h.1
    rw [h2] at this
    simpa using this
  · injection hv with hA _ _
    rcases hi with h | ⟨b, off, hA2, hb, hc⟩
    · exact .inl h
    · rw [hA] at hA2
      injection hA2 with hA2
      injection hA2 with e1 e2 _
      subst e1 e2
      exact .inr ⟨g, 0, hA, ⟨cur, (0, 0), hh⟩, hc⟩
end

theorem blk_four {w : World} {g : Nat} {t : TypeId} {a0 a1 a2 a3 : Value} (h : Blk w g t #[a0, a1, a2, a3]) : w.cell? ⟨g, 0, none⟩ = some a0 ∧ w.cell? ⟨g, 1, none⟩ = some a1 ∧ w.cell? ⟨g, 2, none⟩ = some a2 ∧ w.cell? ⟨g, 3, none⟩ = some a3 :=
  ⟨h.cellAt 0 rfl, h.cellAt 1 rfl, h.cellAt 2 rfl, h.cellAt 3 rfl⟩

def TaskRet (w : World) (t : Task) (e : Ending) (w' : World) : Prop :=
  ∃ A c, e = .returned (.agg #[.int .i64 t.machine, .int .i64 t.length, .int .i64 t.release, .slice A t.after.length c]) ∧ NumRow w' A t.after ∧ t.after.length ≤ c ∧ Below w.heap.size w w'

set_option maxHeartbeats 4000000 in
set_option maxRecDepth 100000 in
theorem copyTask_any (B : Nat) (t : Task) (A : Option Addr) (n c : Nat) (w : World) (hn : t.after.length = n) (hr : IntsIn B w A t.after) (hB : B ≤ w.heap.size) (hm : n ≤ 1000) :
    Calls Tryz.prog 37 #[.agg #[.int .i64 t.machine, .int .i64 t.length, .int .i64 t.release, .slice A n c]] w (TaskRet w t) := by
  obtain ⟨m, l, r, xs⟩ := t
  dsimp only at *
  have HR := Lib.hid hr
  have HN := Lib.hid hn
  clear hr hn
  go_enter Tryz.func37, Tryz.ntmps37
  go_wp2_with (go_at_call 20; go_must (refine (copyInts_any B A n c xs _ (HR.out.below ((pa (pa pr)).mono hB)) HN.out (Nat.le_trans hB (pa (pa pr)).size) hm).mono ?_); rintro e w1 ⟨v1, rfl, hown1, hb1⟩; obtain ⟨A1, c1, rfl, hc1, _⟩ := own_form hown1; have HRow := Lib.hid (numRow_of_own hown1); clear hown1; have hz1 := hb1.size; simp only [World.size_alloc] at hz1; have k0 : Blk w1 w.heap.size 41 #[.int .i64 m, .int .i64 l, .int .i64 r, .slice A n c] := ((Blk.newAt rfl).alloc).past hb1; have k1 : Blk w1 (w.heap.size + 1) 41 #[.int .i64 0, .int .i64 0, .int .i64 0, .slice none 0 0] := (Blk.newAt (by simp)).past hb1; obtain ⟨e0, e1, e2, e3⟩ := blk_four k0; have ef0 := k0.frozen 0; have ef1 := k0.frozen 1; have ef2 := k0.frozen 2; have ef3 := k0.frozen 3; obtain ⟨g0, g1, g2, g3⟩ := blk_four k1; have gf0 := k1.frozen 0; have gf1 := k1.frozen 1; have gf2 := k1.frozen 2; have gf3 := k1.frozen 3; have x0 := k0.lt; have x1 := k1.lt)
  obtain ⟨wF, hwF⟩ : ∃ wF : World, wF = ((((w1.setCell ⟨w.heap.size, 3, none⟩ (.slice A1 xs.length c1)).setCell ⟨w.heap.size + 1, 0, none⟩ (.int .i64 m)).setCell ⟨w.heap.size + 1, 1, none⟩ (.int .i64 l)).setCell ⟨w.heap.size + 1, 2, none⟩ (.int .i64 r)).setCell ⟨w.heap.size + 1, 3, none⟩ (.slice A1 xs.length c1) := ⟨_, rfl⟩
  have kF : Blk wF (w.heap.size + 1) 41 #[.int .i64 m, .int .i64 l, .int .i64 r, .slice A1 xs.length c1] := by
    rw [hwF]
    exact (((((k1.far (p := ⟨w.heap.size, 3, none⟩) (Nat.succ_ne_self _)).set_ 0 _).set_ 1 _).set_ 2 _).set_ 3 _)
  obtain ⟨i0, i1, i2, i3⟩ := blk_four kF
  rw [← hwF]
  refine bodyPost_ret (v := .agg #[.int .i64 m, .int .i64 l, .int .i64 r, .slice A1 xs.length c1]) (by simp [results, Tryz.results37, go_sem, i0, i1, i2, i3]) rfl ⟨A1, c1, rfl, HRow.out.same fun b cs fz ht => ?_, hc1, ?_⟩
  all_goals rw [hwF]
  · have n0 : b ≠ w.heap.size := fun e => by
      subst e
      unfold Blk at k0
      rw [k0] at ht
      injection ht with ht
      injection ht with _ ht
      exact absurd ht (by decide)
    have n1 : b ≠ w.heap.size + 1 := fun e => by
      subst e
      unfold Blk at k1
      rw [k1] at ht
      injection ht with ht
      injection ht with _ ht
      exact absurd ht (by decide)
    simp only [ne_eq, n0, n1, not_false_eq_true, Below.heap_setCell]
  · exact ps (ps (ps (ps (ps (pt (pa (pa pr)) hb1) (Nat.le_refl _)) (Nat.le_succ _)) (Nat.le_succ _)) (Nat.le_succ _)) (Nat.le_succ _)

end Go.Proofs.YtbojmcopagbheaaGreatDoor
end

section
namespace Go.Proofs.YtbojmcopagbheaaGreatDoor
open Go.RowKit

def fewB (ts : List Task) : Bool := decide (ts.length ≤ 9) && decide (∀ i, i < ts.length → (ts.getD i default).after.length ≤ 9)
theorem few_iff {ts : List Task} : fewB ts = true ↔ ts.length ≤ 9 ∧ ∀ i, i < ts.length → (ts.getD i default).after.length ≤ 9 := by
  unfold fewB
  rw [Bool.and_eq_true, decide_eq_true_eq, decide_eq_true_eq]
theorem few_small {ts : List Task} (h : fewB ts = true) : SmallPlan ts := by
  obtain ⟨h1, h2⟩ := few_iff.1 h
  exact ⟨by omega, fun i hi => by have := h2 i hi; omega⟩

set_option maxHeartbeats 2000000 in
set_option maxRecDepth 100000 in
theorem refTaskErr_any (B : Nat) (t : Task) (A : Option Addr) (n c : Nat) (w : World) (hn : t.after.length = n) (hr : IntsIn B w A t.after) (hB : B ≤ w.heap.size) (hm : n ≤ 1000) :
    Calls Tryz.prog 41 #[.agg #[.int .i64 t.machine, .int .i64 t.length, .int .i64 t.release, .slice A n c]] w fun e w' => e = .returned (.int .i64 (taskE t)) ∧ Below w.heap.size w w' := by
  obtain ⟨m, l, r, xs⟩ := t
  dsimp only at *
  have HT := Lib.hid (show taskE ⟨m, l, r, xs⟩ = if taskE1 ⟨m, l, r, xs⟩ ≠ 0 then taskE1 ⟨m, l, r, xs⟩ else (scan (afterErr xs) xs.length 0).2 from rfl)
  have HV1 := Lib.hid (show taskE1 ⟨m, l, r, xs⟩ = firstV [unlessV (withinB m 0 3 && withinB l 1 10000 && withinB r 0 10000) 2, unlessV (decide ((n : Int) ≤ 7)) 8] by rw [← hn]; rfl)
  have HN := Lib.hid hn
  have HR := Lib.hid hr
  clear hn hr
  generalize taskE ⟨m, l, r, xs⟩ = E at *
  generalize taskE1 ⟨m, l, r, xs⟩ = E1 at *
  have hcase : (withinB m 0 3 = false) ∨ (withinB m 0 3 = true ∧ withinB l 1 10000 = false) ∨ (withinB m 0 3 = true ∧ withinB l 1 10000 = true ∧ withinB r 0 10000 = false) ∨ (withinB m 0 3 = true ∧ withinB l 1 10000 = true ∧ withinB r 0 10000 = true) := by
    cases withinB m 0 3 <;> cases withinB l 1 10000 <;> cases withinB r 0 10000 <;> simp
  rcases hcase with h1 | ⟨h1, h2⟩ | ⟨h1, h2, h3⟩ | ⟨h1, h2, h3⟩
  · have HE := Lib.hid (show E = 2 by rw [HT.out, HV1.out, h1]; rfl)
    clear HT HV1
    go_enter Tryz.func41, Tryz.ntmps41
    go_wp2_with (go_at_call 8; go_must (refine (baseWithin_any _ _ _ _).mono ?_); rintro e w' ⟨rfl, rfl⟩)
    go_ret
    exact ⟨ret_int HE.out.symm, pa pr⟩
  · have HE := Lib.hid (show E = 2 by rw [HT.out, HV1.out, h1, h2]; rfl)
    clear HT HV1
    go_enter Tryz.func41, Tryz.ntmps41
    go_wp2_with (go_at_call 8; go_must (refine (baseWithin_any _ _ _ _).mono ?_); rintro e w' ⟨rfl, rfl⟩)
    go_ret
    exact ⟨ret_int HE.out.symm, pa pr⟩
  · have HE := Lib.hid (show E = 2 by rw [HT.out, HV1.out, h1, h2, h3]; rfl)
    clear HT HV1
    go_enter Tryz.func41, Tryz.ntmps41
    go_wp2_with (go_at_call 8; go_must (refine (baseWithin_any _ _ _ _).mono ?_); rintro e w' ⟨rfl, rfl⟩)
    go_ret
    exact ⟨ret_int HE.out.symm, pa pr⟩
  · by_cases h7 : (7 : Int) < (n : Int)
    · have HE := Lib.hid (show E = 8 by rw [HT.out, HV1.out, h1, h2, h3, decide_eq_false (show ¬ (n : Int) ≤ 7 by omega)]; rfl)
      have h7n : 7 < n := by omega
      clear HT HV1
      go_enter Tryz.func41, Tryz.ntmps41
      go_wp2_with (go_at_call 8; go_must (refine (baseWithin_any _ _ _ _).mono ?_); rintro e w' ⟨rfl, rfl⟩)
      go_ret
      exact ⟨ret_int HE.out.symm, pa pr⟩
    · have HTE := Lib.hid (show E = (scan (afterErr xs) xs.length 0).2 by rw [HT.out, HV1.out, h1, h2, h3, decide_eq_true (show (n : Int) ≤ 7 by omega)]; rfl)
      have h7n : ¬ 7 < n := by omega
      have h7d : decide ((7 : Int) < (n : Int)) = false := decide_eq_false h7
      clear HT HV1
      go_enter Tryz.func41, Tryz.ntmps41
      go_wp2_with (go_at_call 8; go_must (refine (baseWithin_any _ _ _ _).mono ?_); rintro e w' ⟨rfl, rfl⟩)
      clear h7n h7d h1 h2 h3
      have r0 : Blk (w.alloc (.cells #[.int .i64 m, .int .i64 l, .int .i64 r, .slice A n c] 41)) w.heap.size 41 #[.int .i64 m, .int .i64 l, .int .i64 r, .slice A n c] := Blk.newAt rfl
      go_loopw [3] (fun i wr => ∃ k : Nat, k ≤ n ∧ i = .int .i64 (k : Int) ∧ E = (scan (afterErr xs) xs.length k).2 ∧ Blk wr w.heap.size 41 #[.int .i64 m, .int .i64 l, .int .i64 r, .slice A n c] ∧ Below w.heap.size w wr) (fun i _ => n - (intOf i).toNat)
      case atStart => exact ⟨0, Nat.zero_le _, rfl, HTE.out, r0, pa pr⟩
      case round =>
        obtain ⟨k, hk, rfl, hf, q0, hq⟩ := hrel
        clear r0
        have c3 : wr.cell? ⟨w.heap.size, 3, none⟩ = some (.slice A n c) := q0.cellAt 3 rfl
        have z0 := q0.lt
        by_cases hlt : k < n
        · obtain ⟨b, off, hA, hbB, hcell⟩ := (HR.out.below (hq.mono hB)).at_ (k := k) (by rw [HN.out]; exact hlt)
          subst hA
          have hbw := Nat.lt_of_lt_of_le hbB (Nat.le_trans hB hq.size)
          have d0 := hcell k (by rw [HN.out]; exact hlt)
          have HF := Lib.hid (show E = (if afterErr xs k = 0 then scan (afterErr xs) xs.length (k + 1) else (k, afterErr xs k)).2 by rw [hf, scan_step (by rw [HN.out]; exact hlt)])
          have HE := Lib.hid (show afterErr xs k = firstV [unlessV (withinB (xs.getD k 0) 0 6) 2, unlessV (decide (k = 0) || decide (xs.getD (k - 1) 0 < xs.getD k 0)) 9] from rfl)
          have i0 : (0 : Int) ≤ (k : Int) := by omega
          have i2 : (k : Int) < (n : Int) := by omega
          have HQ0 := Lib.hid q0
          by_cases hk0 : k = 0
          · subst hk0
            simp only [Nat.add_zero] at d0
            clear hcell hf q0
            generalize xs.getD 0 0 = x at *
            cases hwx : withinB x 0 6 with
            | false =>
              have HR4 := Lib.hid (show E = 2 by
                have h4 : afterErr xs 0 = 2 := by rw [HE.out, hwx]; rfl
                rw [HF.out, h4]; rfl)
              go_wp2_with (go_at_call 8; go_must (refine (baseWithin_any _ _ _ _).mono ?_); rintro e w' ⟨rfl, rfl⟩)
              go_ret
              exact ⟨ret_int HR4.out.symm, hq⟩
            | true =>
              have HR4 := Lib.hid (show E = (scan (afterErr xs) xs.length (0 + 1)).2 by
                have h4 : afterErr xs 0 = 0 := by rw [HE.out, hwx]; rfl
                rw [HF.out, h4]; rfl)
              go_wp2_with (go_at_call 8; go_must (refine (baseWithin_any _ _ _ _).mono ?_); rintro e w' ⟨rfl, rfl⟩)
              go_quiet (fail)
              have hb1 : Below wr.heap.size wr (wr.drewN nq) := below_drewN' (Below.refl _ _) nq
              go_wp2
              go_roundw
              case rel => exact ⟨0 + 1, by omega, by go_num, HR4.out, HQ0.out.past hb1, pt hq hb1⟩
              case measure => simp [intOf]; omega
          · have d1 := hcell (k - 1) (by rw [HN.out]; omega)
            have j0 : (0 : Int) ≤ (k : Int) - 1 := by omega
            have j1 : (k : Int) - 1 < (n : Int) := by omega
            have j2 : ((k : Int) - 1).toNat = k - 1 := by omega
            have j3 : IntKind.i64.wrap ((k : Int) - 1) = (k : Int) - 1 := IntWalk.i64_in _ (by omega)
            have j4 : decide ((0 : Int) < (k : Int)) = true := decide_eq_true (by omega)
            have j5 : decide (0 < k) = true := decide_eq_true (by omega)
            have j6 : 0 < k := by omega
            have hdk : decide (k = 0) = false := decide_eq_false hk0
            clear hcell hf q0
            generalize xs.getD k 0 = x at *
            generalize xs.getD (k - 1) 0 = y at *
            cases hwx : withinB x 0 6 with
            | false =>
              have HR4 := Lib.hid (show E = 2 by
                have h4 : afterErr xs k = 2 := by rw [HE.out, hwx]; rfl
                rw [HF.out, h4]; rfl)
              clear d1 j0 j1 j2 j3 j4 j5 j6 hdk
              go_wp2_with (go_at_call 8; go_must (refine (baseWithin_any _ _ _ _).mono ?_); rintro e w' ⟨rfl, rfl⟩)
              go_ret
              exact ⟨ret_int HR4.out.symm, hq⟩
            | true =>
              by_cases hxy : x ≤ y
              · have HR4 := Lib.hid (show E = 9 by
                  have h4 : afterErr xs k = 9 := by rw [HE.out, hwx, hdk, decide_eq_false (show ¬ y < x by omega)]; rfl
                  rw [HF.out, h4]; rfl)
                have hd : decide (x ≤ y) = true := decide_eq_true hxy
                clear hdk
                go_wp2_with (go_at_call 8; go_must (refine (baseWithin_any _ _ _ _).mono ?_); rintro e w' ⟨rfl, rfl⟩)
                go_quiet (fail)
                have hb1 : Below wr.heap.size wr (wr.drewN nq) := below_drewN' (Below.refl _ _) nq
                go_wp2
                go_ret
                exact ⟨ret_int HR4.out.symm, pt hq hb1⟩
              · have HR4 := Lib.hid (show E = (scan (afterErr xs) xs.length (k + 1)).2 by
                  have h4 : afterErr xs k = 0 := by rw [HE.out, hwx, hdk, decide_eq_true (show y < x by omega)]; rfl
                  rw [HF.out, h4]; rfl)
                have hd : decide (x ≤ y) = false := decide_eq_false hxy
                clear hdk
                go_wp2_with (go_at_call 8; go_must (refine (baseWithin_any _ _ _ _).mono ?_); rintro e w' ⟨rfl, rfl⟩)
                go_quiet (fail)
                have hb1 : Below wr.heap.size wr (wr.drewN nq) := below_drewN' (Below.refl _ _) nq
                go_wp2
                go_roundw
                case rel => exact ⟨k + 1, by omega, by go_num, HR4.out, HQ0.out.past hb1, pt hq hb1⟩
                case measure => simp [intOf]; omega
        · have HF := Lib.hid (show E = 0 by rw [hf, scan_end (by have := HN.out; omega)])
          clear hf
          go_wp2
          go_ret
          exact ⟨ret_int HF.out.symm, hq⟩

end Go.Proofs.YtbojmcopagbheaaGreatDoor
end
