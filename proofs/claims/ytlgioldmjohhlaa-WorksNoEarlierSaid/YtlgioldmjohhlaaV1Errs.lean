/- Contracts: the program's bounds of a plan that is refused, or has no tasks. -/
import Derived.Test.YtlgioldmjohhlaaU7BestBound
namespace Go.Proofs.Ytlgioldmjohhlaa
open Go.RowKit Go.Shelf


section
variable (B : Nat) (ts : List Task) (A A2 : Option Addr) (c c2 : Nat) (m : Int) (w : World)
theorem path_err (hr : TasksIn B w A ts) (hB : B ≤ w.heap.size) (hs : SmallPlan ts) (he : (openV m ts).2 ≠ 0) :
    Calls Try.prog 70 #[.agg #[.int .i64 m, .slice A ts.length c]] w fun e w' => e = .returned (.tuple #[.int .i64 0, .int .i64 (openV m ts).2]) ∧ Below w.heap.size w w' := by
  have HO := Lib.hid (opened_any B ts A c m (w.alloc (.cells #[.int .i64 m, .slice A ts.length c] 24)) (hr.below ((pa pr).mono hB)) (by simp; omega) hs)
  have hne : ((openV m ts).2 != 0) = true := by simpa using he
  clear he hs
  generalize (openV m ts).2 = E at *
  go_enter Try.func70, Try.ntmps70
  go_wp2_with (go_at_call 80; go_must (refine HO.out.mono ?_); rintro e w1 ⟨rfl, hb1⟩; have r1 := (Blk.newAt (w := w) (t := 24) (cs := #[.int .i64 m, .slice A ts.length c]) rfl).past hb1; have e1 := r1.cellAt 1 rfl; have x1 := r1.lt)
  go_ret2
  exact ⟨rfl, pa (pt (pa pr) hb1)⟩

set_option maxRecDepth 100000 in
theorem busyBound_err (n : Nat) (hr : TasksIn B w A ts) (hB : B ≤ w.heap.size) (hs : SmallPlan ts) (he : (openV m ts).2 ≠ 0) :
    Calls Try.prog 71 #[.agg #[.int .i64 m, .slice A ts.length c], .slice A2 n c2] w fun e w' => e = .returned (.tuple #[.int .i64 0, .int .i64 (openV m ts).2]) ∧ Below w.heap.size w w' := by
  have HO := Lib.hid (opened_any B ts A c m (w.alloc (.cells #[.int .i64 m, .slice A ts.length c] 24)) (hr.below ((pa pr).mono hB)) (by simp; omega) hs)
  have hne : ((openV m ts).2 != 0) = true := by simpa using he
  have HV0 := Lib.hid (show ∀ x, firstV [(openV m ts).2, x] = (openV m ts).2 from fun x => by simp [firstV, he])
  clear he hs
  generalize (openV m ts).2 = E at *
  have HV := Lib.hid (HV0.out (unlessV (decide (0 < n)) 10))
  go_enter Try.func71, Try.ntmps71
  go_wp2_with (first | (go_at_call 80; go_must (refine HO.out.mono ?_); rintro e w1 ⟨rfl, hb1⟩; have r1 := (Blk.newAt (w := w) (t := 24) (cs := #[.int .i64 m, .slice A ts.length c]) rfl).past hb1; have e1 := r1.cellAt 1 rfl; have x1 := r1.lt) | (go_at_call 87; refine (unless_any _ _ _).mono ?_; rintro e w' ⟨rfl, rfl⟩) | (go_at_call 86; refine (first2' _ _ _ _ _ (by first | (go_simp; done) | (go_simp; rfl)) (by first | (go_simp; done) | (go_simp; rfl)) _ HV.out).mono ?_; rintro e w' ⟨rfl, rfl⟩))
  go_ret2
  exact ⟨rfl, pa (pa (pt (pa pr) hb1))⟩

set_option maxRecDepth 100000 in
theorem bestBound_err (hr : TasksIn B w A ts) (hB : B ≤ w.heap.size) (hs : SmallPlan ts) (he : (openV m ts).2 ≠ 0) :
    Calls Try.prog 72 #[.agg #[.int .i64 m, .slice A ts.length c]] w fun e w' => e = .returned (.tuple #[.slice none 0 0, .int .i64 0, .int .i64 (openV m ts).2]) ∧ Below w.heap.size w w' := by
  have HO := Lib.hid (opened_any B ts A c m (w.alloc (.cells #[.int .i64 m, .slice A ts.length c] 24)) (hr.below ((pa pr).mono hB)) (by simp; omega) hs)
  have hne : ((openV m ts).2 != 0) = true := by simpa using he
  have HV0 := Lib.hid (show ∀ x, firstV [(openV m ts).2, x] = (openV m ts).2 from fun x => by simp [firstV, he])
  clear he hs
  generalize (openV m ts).2 = E at *
  have HV := Lib.hid (HV0.out (unlessV (decide (0 < ts.length)) 12))
  go_enter Try.func72, Try.ntmps72
  go_wp2_with (first | (go_at_call 80; go_must (refine HO.out.mono ?_); rintro e w1 ⟨rfl, hb1⟩; have r1 := (Blk.newAt (w := w) (t := 24) (cs := #[.int .i64 m, .slice A ts.length c]) rfl).past hb1; have e1 := r1.cellAt 1 rfl; have x1 := r1.lt) | (go_at_call 87; refine (unless_any _ _ _).mono ?_; rintro e w' ⟨rfl, rfl⟩) | (go_at_call 86; refine (first2' _ _ _ _ _ (by first | (go_simp; done) | (go_simp; rfl)) (by first | (go_simp; done) | (go_simp; rfl)) _ HV.out).mono ?_; rintro e w' ⟨rfl, rfl⟩))
  go_ret3
  exact ⟨rfl, pa (pa (pt (pa pr) hb1))⟩

set_option maxRecDepth 100000 in
theorem bestBound_none (hr : TasksIn B w A ts) (hB : B ≤ w.heap.size) (hs : SmallPlan ts) (he : (openV m ts).2 = 0) (hn : ts.length = 0) :
    Calls Try.prog 72 #[.agg #[.int .i64 m, .slice A ts.length c]] w fun e w' => e = .returned (.tuple #[.slice none 0 0, .int .i64 0, .int .i64 12]) ∧ Below w.heap.size w w' := by
  have hopen := opened_any B ts A c m (w.alloc (.cells #[.int .i64 m, .slice A ts.length c] 24)) (hr.below ((pa pr).mono hB)) (by simp; omega) hs
  rw [he] at hopen
  have HO := Lib.hid hopen
  have hz : decide (0 < ts.length) = false := decide_eq_false (by omega)
  have hz2 : ¬ 0 < ts.length := by omega
  have HV := Lib.hid (show firstV [0, unlessV false 12] = 12 from rfl)
  clear he hs hn hopen
  go_enter Try.func72, Try.ntmps72
  go_wp2_with (first | (go_at_call 80; go_must (refine HO.out.mono ?_); rintro e w1 ⟨rfl, hb1⟩; have r1 := (Blk.newAt (w := w) (t := 24) (cs := #[.int .i64 m, .slice A ts.length c]) rfl).past hb1; have e1 := r1.cellAt 1 rfl; have x1 := r1.lt) | (go_at_call 87; refine (unless_any _ _ _).mono ?_; rintro e w' ⟨rfl, rfl⟩) | (go_at_call 86; refine (first2' _ _ _ _ _ (by first | (go_simp; done) | (go_simp; rfl)) (by first | (go_simp; done) | (go_simp; rfl)) _ HV.out).mono ?_; rintro e w' ⟨rfl, rfl⟩))
  go_ret3
  exact ⟨rfl, pa (pa (pt (pa pr) hb1))⟩
end

end Go.Proofs.Ytlgioldmjohhlaa
