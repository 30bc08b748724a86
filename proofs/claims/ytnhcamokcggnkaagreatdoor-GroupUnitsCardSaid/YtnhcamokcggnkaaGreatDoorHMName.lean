/- Contracts: the name of a unit, the program's and the specification's. Printed by a program (gen_name.py). -/
import Derived.Test.YtnhcamokcggnkaaGreatDoorHKRatio
import Derived.LoopN
import Derived.Laws.IdiomStrings
namespace Go.Proofs.YtnhcamokcggnkaaGreatDoor
open Go.RowKit
attribute [local go_sem ↓] Go.wp_at_zero Go.wp_at_succ

theorem letters_any (w : World) : Calls Tryz.prog 55 #[] w fun e w' => e = .returned (.string ⟨#[121, 100, 122]⟩) ∧ w = w' := by
  go_enter Tryz.func55, Tryz.ntmps55
  go_wp2
  go_ret
  exact ⟨rfl, rfl⟩
theorem conv_new (w : World) (x : UInt8) (T : TypeId) : (convert 162 9 (.slice (some ⟨w.heap.size, 0, none⟩) 1 1)).run Tryz.prog (w.alloc (.cells #[.int .u8 (x.toNat : Int)] T)) = .ok (.string ⟨#[x]⟩) (w.alloc (.cells #[.int .u8 (x.toNat : Int)] T)) := by
  have hs : Tryz.prog.underlying 162 = some (.slice 5) := by kernel_rfl
  have he : Tryz.prog.underlying 5 = some (.int .u8) := by kernel_rfl
  have hd : Tryz.prog.underlying 9 = some .string := by kernel_rfl
  exact run_convert_bytes_back (P := Tryz.prog) _ _ _ _ ⟨w.heap.size, 0, none⟩ 1 [x] hs he hd (fun j hj => by
    have : j = 0 := by simpa using hj
    subst this
    exact (Blk.new w T #[.int .u8 (x.toNat : Int)]).cellAt 0 rfl)
theorem conv_48 (w : World) (b : Nat) (hb : w.heap.size = b) (T : TypeId) : (convert 162 9 (.slice (some ⟨b, 0, none⟩) 1 1)).run Tryz.prog (w.alloc (.cells #[.int .u8 48] T)) = .ok (.string ⟨#[48]⟩) (w.alloc (.cells #[.int .u8 48] T)) := by subst hb; exact conv_new w 48 T
theorem conv_49 (w : World) (b : Nat) (hb : w.heap.size = b) (T : TypeId) : (convert 162 9 (.slice (some ⟨b, 0, none⟩) 1 1)).run Tryz.prog (w.alloc (.cells #[.int .u8 49] T)) = .ok (.string ⟨#[49]⟩) (w.alloc (.cells #[.int .u8 49] T)) := by subst hb; exact conv_new w 49 T
theorem conv_50 (w : World) (b : Nat) (hb : w.heap.size = b) (T : TypeId) : (convert 162 9 (.slice (some ⟨b, 0, none⟩) 1 1)).run Tryz.prog (w.alloc (.cells #[.int .u8 50] T)) = .ok (.string ⟨#[50]⟩) (w.alloc (.cells #[.int .u8 50] T)) := by subst hb; exact conv_new w 50 T
theorem conv_51 (w : World) (b : Nat) (hb : w.heap.size = b) (T : TypeId) : (convert 162 9 (.slice (some ⟨b, 0, none⟩) 1 1)).run Tryz.prog (w.alloc (.cells #[.int .u8 51] T)) = .ok (.string ⟨#[51]⟩) (w.alloc (.cells #[.int .u8 51] T)) := by subst hb; exact conv_new w 51 T
theorem conv_52 (w : World) (b : Nat) (hb : w.heap.size = b) (T : TypeId) : (convert 162 9 (.slice (some ⟨b, 0, none⟩) 1 1)).run Tryz.prog (w.alloc (.cells #[.int .u8 52] T)) = .ok (.string ⟨#[52]⟩) (w.alloc (.cells #[.int .u8 52] T)) := by subst hb; exact conv_new w 52 T
theorem conv_53 (w : World) (b : Nat) (hb : w.heap.size = b) (T : TypeId) : (convert 162 9 (.slice (some ⟨b, 0, none⟩) 1 1)).run Tryz.prog (w.alloc (.cells #[.int .u8 53] T)) = .ok (.string ⟨#[53]⟩) (w.alloc (.cells #[.int .u8 53] T)) := by subst hb; exact conv_new w 53 T
theorem conv_54 (w : World) (b : Nat) (hb : w.heap.size = b) (T : TypeId) : (convert 162 9 (.slice (some ⟨b, 0, none⟩) 1 1)).run Tryz.prog (w.alloc (.cells #[.int .u8 54] T)) = .ok (.string ⟨#[54]⟩) (w.alloc (.cells #[.int .u8 54] T)) := by subst hb; exact conv_new w 54 T
theorem conv_55 (w : World) (b : Nat) (hb : w.heap.size = b) (T : TypeId) : (convert 162 9 (.slice (some ⟨b, 0, none⟩) 1 1)).run Tryz.prog (w.alloc (.cells #[.int .u8 55] T)) = .ok (.string ⟨#[55]⟩) (w.alloc (.cells #[.int .u8 55] T)) := by subst hb; exact conv_new w 55 T
theorem conv_56 (w : World) (b : Nat) (hb : w.heap.size = b) (T : TypeId) : (convert 162 9 (.slice (some ⟨b, 0, none⟩) 1 1)).run Tryz.prog (w.alloc (.cells #[.int .u8 56] T)) = .ok (.string ⟨#[56]⟩) (w.alloc (.cells #[.int .u8 56] T)) := by subst hb; exact conv_new w 56 T
theorem conv_57 (w : World) (b : Nat) (hb : w.heap.size = b) (T : TypeId) : (convert 162 9 (.slice (some ⟨b, 0, none⟩) 1 1)).run Tryz.prog (w.alloc (.cells #[.int .u8 57] T)) = .ok (.string ⟨#[57]⟩) (w.alloc (.cells #[.int .u8 57] T)) := by subst hb; exact conv_new w 57 T
attribute [local go_sem] conv_48 conv_49 conv_50 conv_51 conv_52 conv_53 conv_54 conv_55 conv_56 conv_57
theorem itoa_any (c : Nat) (hc : c < 12) (w : World) : Calls Tryz.prog 46 #[.int .i64 (c : Int)] w fun e w' => e = .returned (.string ⟨(Lib.decDigits c).toArray⟩) ∧ w = w' :=
  (Tryz.strconv_Itoa_small c (by omega) w).mono fun e w' ⟨h1, h2⟩ => ⟨h1, h2.symm⟩

set_option maxHeartbeats 2000000 in
set_option maxRecDepth 100000 in
theorem decimal_0 (w : World) : Calls Tryz.prog 56 #[.int .i64 0] w fun e w' => e = .returned (.string ⟨#[48]⟩) ∧ Below w.heap.size w w' := by
  go_enter Tryz.func56, Tryz.ntmps56
  go_wp2
  go_ret
  exact ⟨rfl, by repeat (first | exact pr | refine pa ?_)⟩

set_option maxHeartbeats 2000000 in
set_option maxRecDepth 100000 in
theorem decimal_1 (w : World) : Calls Tryz.prog 56 #[.int .i64 1] w fun e w' => e = .returned (.string ⟨#[49]⟩) ∧ Below w.heap.size w w' := by
  go_enter Tryz.func56, Tryz.ntmps56
  go_wp2
  refine wp_loop_rounds 4 ?_
  rw [rounds_succ]
  go_wp2_with (go_at_call 104; (with_reducible refine (size_any _ (by unfold Sm; omega) _).mono ?_); rintro e w' ⟨rfl, rfl⟩)
  rw [rounds_succ]
  go_wp2
  go_ret
  exact ⟨rfl, by repeat (first | exact pr | refine pa ?_)⟩

set_option maxHeartbeats 2000000 in
set_option maxRecDepth 100000 in
theorem decimal_2 (w : World) : Calls Tryz.prog 56 #[.int .i64 2] w fun e w' => e = .returned (.string ⟨#[50]⟩) ∧ Below w.heap.size w w' := by
  go_enter Tryz.func56, Tryz.ntmps56
  go_wp2
  refine wp_loop_rounds 4 ?_
  rw [rounds_succ]
  go_wp2_with (go_at_call 104; (with_reducible refine (size_any _ (by unfold Sm; omega) _).mono ?_); rintro e w' ⟨rfl, rfl⟩)
  rw [rounds_succ]
  go_wp2
  go_ret
  exact ⟨rfl, by repeat (first | exact pr | refine pa ?_)⟩

set_option maxHeartbeats 2000000 in
set_option maxRecDepth 100000 in
theorem decimal_3 (w : World) : Calls Tryz.prog 56 #[.int .i64 3] w fun e w' => e = .returned (.string ⟨#[51]⟩) ∧ Below w.heap.size w w' := by
  go_enter Tryz.func56, Tryz.ntmps56
  go_wp2
  refine wp_loop_rounds 4 ?_
  rw [rounds_succ]
  go_wp2_with (go_at_call 104; (with_reducible refine (size_any _ (by unfold Sm; omega) _).mono ?_); rintro e w' ⟨rfl, rfl⟩)
  rw [rounds_succ]
  go_wp2
  go_ret
  exact ⟨rfl, by repeat (first | exact pr | refine pa ?_)⟩

set_option maxHeartbeats 2000000 in
set_option maxRecDepth 100000 in
theorem decimal_4 (w : World) : Calls Tryz.prog 56 #[.int .i64 4] w fun e w' => e = .returned (.string ⟨#[52]⟩) ∧ Below w.heap.size w w' := by
  go_enter Tryz.func56, Tryz.ntmps56
  go_wp2
  refine wp_loop_rounds 4 ?_
  rw [rounds_succ]
  go_wp2_with (go_at_call 104; (with_reducible refine (size_any _ (by unfold Sm; omega) _).mono ?_); rintro e w' ⟨rfl, rfl⟩)
  rw [rounds_succ]
  go_wp2
  go_ret
  exact ⟨rfl, by repeat (first | exact pr | refine pa ?_)⟩

set_option maxHeartbeats 2000000 in
set_option maxRecDepth 100000 in
theorem decimal_5 (w : World) : Calls Tryz.prog 56 #[.int .i64 5] w fun e w' => e = .returned (.string ⟨#[53]⟩) ∧ Below w.heap.size w w' := by
  go_enter Tryz.func56, Tryz.ntmps56
  go_wp2
  refine wp_loop_rounds 4 ?_
  rw [rounds_succ]
  go_wp2_with (go_at_call 104; (with_reducible refine (size_any _ (by unfold Sm; omega) _).mono ?_); rintro e w' ⟨rfl, rfl⟩)
  rw [rounds_succ]
  go_wp2
  go_ret
  exact ⟨rfl, by repeat (first | exact pr | refine pa ?_)⟩

set_option maxHeartbeats 2000000 in
set_option maxRecDepth 100000 in
theorem decimal_6 (w : World) : Calls Tryz.prog 56 #[.int .i64 6] w fun e w' => e = .returned (.string ⟨#[54]⟩) ∧ Below w.heap.size w w' := by
  go_enter Tryz.func56, Tryz.ntmps56
  go_wp2
  refine wp_loop_rounds 4 ?_
  rw [rounds_succ]
  go_wp2_with (go_at_call 104; (with_reducible refine (size_any _ (by unfold Sm; omega) _).mono ?_); rintro e w' ⟨rfl, rfl⟩)
  rw [rounds_succ]
  go_wp2
  go_ret
  exact ⟨rfl, by repeat (first | exact pr | refine pa ?_)⟩

set_option maxHeartbeats 2000000 in
set_option maxRecDepth 100000 in
theorem decimal_7 (w : World) : Calls Tryz.prog 56 #[.int .i64 7] w fun e w' => e = .returned (.string ⟨#[55]⟩) ∧ Below w.heap.size w w' := by
  go_enter Tryz.func56, Tryz.ntmps56
  go_wp2
  refine wp_loop_rounds 4 ?_
  rw [rounds_succ]
  go_wp2_with (go_at_call 104; (with_reducible refine (size_any _ (by unfold Sm; omega) _).mono ?_); rintro e w' ⟨rfl, rfl⟩)
  rw [rounds_succ]
  go_wp2
  go_ret
  exact ⟨rfl, by repeat (first | exact pr | refine pa ?_)⟩

set_option maxHeartbeats 2000000 in
set_option maxRecDepth 100000 in
theorem decimal_8 (w : World) : Calls Tryz.prog 56 #[.int .i64 8] w fun e w' => e = .returned (.string ⟨#[56]⟩) ∧ Below w.heap.size w w' := by
  go_enter Tryz.func56, Tryz.ntmps56
  go_wp2
  refine wp_loop_rounds 4 ?_
  rw [rounds_succ]
  go_wp2_with (go_at_call 104; (with_reducible refine (size_any _ (by unfold Sm; omega) _).mono ?_); rintro e w' ⟨rfl, rfl⟩)
  rw [rounds_succ]
  go_wp2
  go_ret
  exact ⟨rfl, by repeat (first | exact pr | refine pa ?_)⟩

set_option maxHeartbeats 2000000 in
set_option maxRecDepth 100000 in
theorem decimal_9 (w : World) : Calls Tryz.prog 56 #[.int .i64 9] w fun e w' => e = .returned (.string ⟨#[57]⟩) ∧ Below w.heap.size w w' := by
  go_enter Tryz.func56, Tryz.ntmps56
  go_wp2
  refine wp_loop_rounds 4 ?_
  rw [rounds_succ]
  go_wp2_with (go_at_call 104; (with_reducible refine (size_any _ (by unfold Sm; omega) _).mono ?_); rintro e w' ⟨rfl, rfl⟩)
  rw [rounds_succ]
  go_wp2
  go_ret
  exact ⟨rfl, by repeat (first | exact pr | refine pa ?_)⟩

set_option maxHeartbeats 2000000 in
set_option maxRecDepth 100000 in
theorem decimal_10 (w : World) : Calls Tryz.prog 56 #[.int .i64 10] w fun e w' => e = .returned (.string ⟨#[49, 48]⟩) ∧ Below w.heap.size w w' := by
  go_enter Tryz.func56, Tryz.ntmps56
  go_wp2
  refine wp_loop_rounds 4 ?_
  rw [rounds_succ]
  go_wp2_with (go_at_call 104; (with_reducible refine (size_any _ (by unfold Sm; omega) _).mono ?_); rintro e w' ⟨rfl, rfl⟩)
  rw [rounds_succ]
  go_wp2_with (go_at_call 104; (with_reducible refine (size_any _ (by unfold Sm; omega) _).mono ?_); rintro e w' ⟨rfl, rfl⟩)
  rw [rounds_succ]
  go_wp2
  go_ret
  exact ⟨rfl, by repeat (first | exact pr | refine pa ?_)⟩

set_option maxHeartbeats 2000000 in
set_option maxRecDepth 100000 in
theorem decimal_11 (w : World) : Calls Tryz.prog 56 #[.int .i64 11] w fun e w' => e = .returned (.string ⟨#[49, 49]⟩) ∧ Below w.heap.size w w' := by
  go_enter Tryz.func56, Tryz.ntmps56
  go_wp2
  refine wp_loop_rounds 4 ?_
  rw [rounds_succ]
  go_wp2_with (go_at_call 104; (with_reducible refine (size_any _ (by unfold Sm; omega) _).mono ?_); rintro e w' ⟨rfl, rfl⟩)
  rw [rounds_succ]
  go_wp2_with (go_at_call 104; (with_reducible refine (size_any _ (by unfold Sm; omega) _).mono ?_); rintro e w' ⟨rfl, rfl⟩)
  rw [rounds_succ]
  go_wp2
  go_ret
  exact ⟨rfl, by repeat (first | exact pr | refine pa ?_)⟩

theorem decimal_any (c : Nat) (hc : c < 12) (w : World) : Calls Tryz.prog 56 #[.int .i64 (c : Int)] w fun e w' => e = .returned (.string ⟨(Lib.decDigits c).toArray⟩) ∧ Below w.heap.size w w' := by
  rcases (by omega : c = 0 ∨ c = 1 ∨ c = 2 ∨ c = 3 ∨ c = 4 ∨ c = 5 ∨ c = 6 ∨ c = 7 ∨ c = 8 ∨ c = 9 ∨ c = 10 ∨ c = 11) with rfl | rfl | rfl | rfl | rfl | rfl | rfl | rfl | rfl | rfl | rfl | rfl
  · rw [show (Lib.decDigits 0).toArray = #[48] by (first | decide | simp [Lib.decDigits])]; exact decimal_0 w
  · rw [show (Lib.decDigits 1).toArray = #[49] by (first | decide | simp [Lib.decDigits])]; exact decimal_1 w
  · rw [show (Lib.decDigits 2).toArray = #[50] by (first | decide | simp [Lib.decDigits])]; exact decimal_2 w
  · rw [show (Lib.decDigits 3).toArray = #[51] by (first | decide | simp [Lib.decDigits])]; exact decimal_3 w
  · rw [show (Lib.decDigits 4).toArray = #[52] by (first | decide | simp [Lib.decDigits])]; exact decimal_4 w
  · rw [show (Lib.decDigits 5).toArray = #[53] by (first | decide | simp [Lib.decDigits])]; exact decimal_5 w
  · rw [show (Lib.decDigits 6).toArray = #[54] by (first | decide | simp [Lib.decDigits])]; exact decimal_6 w
  · rw [show (Lib.decDigits 7).toArray = #[55] by (first | decide | simp [Lib.decDigits])]; exact decimal_7 w
  · rw [show (Lib.decDigits 8).toArray = #[56] by (first | decide | simp [Lib.decDigits])]; exact decimal_8 w
  · rw [show (Lib.decDigits 9).toArray = #[57] by (first | decide | simp [Lib.decDigits])]; exact decimal_9 w
  · rw [show (Lib.decDigits 10).toArray = #[49, 48] by (first | decide | simp [Lib.decDigits])]; exact decimal_10 w
  · rw [show (Lib.decDigits 11).toArray = #[49, 49] by (first | decide | simp [Lib.decDigits])]; exact decimal_11 w

theorem up_0 (w : World) : Calls Tryz.prog 45 #[.string ⟨#[121]⟩] w fun e w' => e = .returned (.string ⟨#[89]⟩) ∧ Below w.heap.size w w' := by
  have h := Tryz.strings_ToUpper_ascii ⟨#[121]⟩ w (by decide) (by intro j b hb; rcases j with _ | j <;> simp at hb; subst hb; decide)
  exact h
theorem up_1 (w : World) : Calls Tryz.prog 45 #[.string ⟨#[100]⟩] w fun e w' => e = .returned (.string ⟨#[68]⟩) ∧ Below w.heap.size w w' := by
  have h := Tryz.strings_ToUpper_ascii ⟨#[100]⟩ w (by decide) (by intro j b hb; rcases j with _ | j <;> simp at hb; subst hb; decide)
  exact h
theorem up_2 (w : World) : Calls Tryz.prog 45 #[.string ⟨#[122]⟩] w fun e w' => e = .returned (.string ⟨#[90]⟩) ∧ Below w.heap.size w w' := by
  have h := Tryz.strings_ToUpper_ascii ⟨#[122]⟩ w (by decide) (by intro j b hb; rcases j with _ | j <;> simp at hb; subst hb; decide)
  exact h
def nameV (u l : UInt8) (D : Array UInt8) : ByteArray := (⟨#[u]⟩ ++ ⟨#[l]⟩) ++ ⟨D⟩
theorem dec_size {c : Nat} (hc : c < 12) : (Lib.decDigits c).toArray.size ≤ 2 := by
  rcases (by omega : c = 0 ∨ c = 1 ∨ c = 2 ∨ c = 3 ∨ c = 4 ∨ c = 5 ∨ c = 6 ∨ c = 7 ∨ c = 8 ∨ c = 9 ∨ c = 10 ∨ c = 11) with rfl | rfl | rfl | rfl | rfl | rfl | rfl | rfl | rfl | rfl | rfl | rfl <;> (first | decide | simp [Lib.decDigits])
theorem name_add (u l : UInt8) (D : Array UInt8) (h : D.size ≤ 2) (w : World) : (Op.stringOp .add ((⟨#[u]⟩ : ByteArray) ++ ⟨#[l]⟩) ⟨D⟩).run Tryz.prog w = .ok (.string (((⟨#[u]⟩ : ByteArray) ++ ⟨#[l]⟩) ++ ⟨D⟩)) w :=
  run_string_add_sum w _ _ (by simp [ByteArray.size]; omega)

set_option maxHeartbeats 4000000 in
set_option maxRecDepth 100000 in
theorem NameOf_00 (t s : Int) (r : Bool) (t2 s2 : Int) (r2 : Bool) (n : Int) (he : unitE 0 t s 0 t2 s2 n = 0) (c : Nat) (hc : c < 12) (hcl : (whV 0 s r - whV 0 s2 r2) % 12 = (c : Int)) (w : World) (hT : TwIn w) (hP : PatIn w) :
    Calls Tryz.prog 9 #[.agg #[.int .i64 0, .int .i64 t, .int .i64 s, .bool r, .int .i64 0, .int .i64 t2, .int .i64 s2, .bool r2, .int .i64 n]] w fun e w' => e = .returned (.tuple #[.string (nameV 89 121 (Lib.decDigits c).toArray), .int .i64 0]) ∧ Below w.heap.size w w' := by
  have HC := Lib.hid (checkUnit_any 0 t s r 0 t2 s2 r2 n)
  rw [he] at HC
  obtain ⟨u1, u2, _, _⟩ := unitE_ok r r2 he
  have HK := Lib.hid (clock_any 0 t s r 0 t2 s2 r2 n u1 u2)
  rw [hcl] at HK
  have HI := Lib.hid (itoa_any c hc)
  have hA := fun w => name_add 89 121 _ (dec_size hc) w
  have hg := hP.1
  have t8 := hP.2 0 (by decide)
  have t4 := hP.2 0 (by decide)
  simp only [patC, List.getD_cons_succ, List.getD_cons_zero] at t8 t4
  have HT := Lib.hid hT
  have HP := Lib.hid hP
  clear hT hP he u1 u2 hc hcl
  generalize (Lib.decDigits c).toArray = D at *
  go_enter Tryz.func9, Tryz.ntmps9
  go_wp2_with (go_at_call 13; refine (HC.out _).mono ?_; rintro e w2 ⟨rfl, hb2⟩; have P2 : Blk w2 w.heap.size 25 #[.int .i64 0, .int .i64 t, .int .i64 s, .bool r, .int .i64 0, .int .i64 t2, .int .i64 s2, .bool r2, .int .i64 n] := (Blk.newAt rfl).past hb2; have S2 := pt (pa pr) hb2; have p0 := P2.cellAt 0 rfl; have p1 := P2.cellAt 1 rfl; have p2 := P2.cellAt 2 rfl; have p3 := P2.cellAt 3 rfl; have p4 := P2.cellAt 4 rfl; have p5 := P2.cellAt 5 rfl; have p6 := P2.cellAt 6 rfl; have p7 := P2.cellAt 7 rfl; have p8 := P2.cellAt 8 rfl; have pl := P2.lt; have x8 := ((bcell S2).1 0 0 hg).trans t8; have x4 := ((bcell S2).1 0 0 hg).trans t4; have xl := Nat.lt_of_lt_of_le hg S2.size)
  refine region_below 18 follows_mixed (by kernel_rfl) ?_
  intro C hC
  simp only [List.take_succ_cons, List.take_zero, List.drop_succ_cons, List.drop_zero]
  repeat (first
    | ((with_reducible refine quiet_plain rfl (fun K hK => ?_)); (focus (apply quiet_val; (focus (intro w' hw; obtain ⟨hcq, hfq⟩ := bcell ((hC.out _).1 hw); go_simp; (first | done | rfl | (with_reducible exact call_below hC hw (up_0 _)) | (with_reducible exact call_below hC hw (HK.out _ (HT.out.below (pt S2 ((hC.out _).1 hw))) (HP.out.below (pt S2 ((hC.out _).1 hw))))) | (with_reducible exact call_same hw (HI.out _))))); (simp only [Act.put, List.setIfInBounds_toArray, List.set_cons_succ, List.set_cons_zero]); (with_reducible refine hK _ ?_); clear hK K)))
    | ((with_reducible refine quiet_skip ?_ ?_); (focus (first | (simp [Region.wanted, yielded]; done) | (simp [Region.wanted, yielded, undef]; done))); simp only [Act.put, List.setIfInBounds_toArray, List.set_cons_succ, List.set_cons_zero])
    | ((with_reducible refine quiet_go ?_ (fun K hK => ?_)); (focus (first | (simp [Region.wanted, yielded]; done) | (simp [Region.wanted, yielded, undef]; done))); (focus (apply quiet_val; (focus (intro w' hw; obtain ⟨hcq, hfq⟩ := bcell ((hC.out _).1 hw); go_simp; (first | done | rfl | (with_reducible exact call_below hC hw (up_0 _)) | (with_reducible exact call_below hC hw (HK.out _ (HT.out.below (pt S2 ((hC.out _).1 hw))) (HP.out.below (pt S2 ((hC.out _).1 hw))))) | (with_reducible exact call_same hw (HI.out _))))); (simp only [Act.put, List.setIfInBounds_toArray, List.set_cons_succ, List.set_cons_zero]); (with_reducible refine hK _ ?_); clear hK K))))
  refine wpQuiet_nil ?_
  intro w1 hb1
  replace hb1 := (hC.out _).1 hb1
  clear hC C
  obtain ⟨hc1, hf1⟩ := bcell hb1
  go_wp2
  go_ret2
  exact ⟨rfl, pt S2 hb1⟩

set_option maxHeartbeats 4000000 in
set_option maxRecDepth 100000 in
theorem refName_00 (t s : Int) (r : Bool) (t2 s2 : Int) (r2 : Bool) (n : Int) (he : unitE 0 t s 0 t2 s2 n = 0) (c : Nat) (hc : c < 12) (hcl : (whV 0 s r - whV 0 s2 r2) % 12 = (c : Int)) (w : World) :
    Calls Tryz.prog 16 #[.agg #[.int .i64 0, .int .i64 t, .int .i64 s, .bool r, .int .i64 0, .int .i64 t2, .int .i64 s2, .bool r2, .int .i64 n]] w fun e w' => e = .returned (.string (nameV 89 121 (Lib.decDigits c).toArray)) ∧ Below w.heap.size w w' := by
  obtain ⟨u1, u2, _, _⟩ := unitE_ok r r2 he
  have HK := Lib.hid (refClock_any 0 t s r 0 t2 s2 r2 n u1 u2)
  rw [hcl] at HK
  have HI := Lib.hid (decimal_any c hc)
  have hA := fun w => name_add 89 121 _ (dec_size hc) w
  clear he u1 u2 hc hcl
  generalize (Lib.decDigits c).toArray = D at *
  have x1 : (⟨#[89, 68, 90]⟩ : ByteArray).extract 0 1 = ⟨#[89]⟩ := by first | rfl | decide
  have x2 : (⟨#[121, 100, 122]⟩ : ByteArray).extract 0 1 = ⟨#[121]⟩ := by first | rfl | decide
  have z0 : IntKind.i64.wrap 1 = 1 := by decide
  have z1 : IntKind.i64.wrap 2 = 2 := by decide
  have z2 : IntKind.i64.wrap 3 = 3 := by decide
  go_enter Tryz.func16, Tryz.ntmps16
  go_wp2
  refine region_below 22 follows_mixed (by kernel_rfl) ?_
  intro C hC
  simp only [List.take_succ_cons, List.take_zero, List.drop_succ_cons, List.drop_zero]
  repeat (first
    | ((with_reducible refine quiet_plain rfl (fun K hK => ?_)); (focus (apply quiet_val; (focus (intro w' hw; obtain ⟨hcq, hfq⟩ := bcell ((hC.out _).1 hw); go_simp; (first | done | rfl | (with_reducible exact call_same hw (letters_any _)) | (with_reducible exact call_below hC hw (HK.out _)) | (with_reducible exact call_below hC hw (HI.out _))))); (simp only [Act.put, List.setIfInBounds_toArray, List.set_cons_succ, List.set_cons_zero]); (with_reducible refine hK _ ?_); clear hK K)))
    | ((with_reducible refine quiet_skip ?_ ?_); (focus (first | (simp [Region.wanted, yielded]; done) | (simp [Region.wanted, yielded, undef]; done))); simp only [Act.put, List.setIfInBounds_toArray, List.set_cons_succ, List.set_cons_zero])
    | ((with_reducible refine quiet_go ?_ (fun K hK => ?_)); (focus (first | (simp [Region.wanted, yielded]; done) | (simp [Region.wanted, yielded, undef]; done))); (focus (apply quiet_val; (focus (intro w' hw; obtain ⟨hcq, hfq⟩ := bcell ((hC.out _).1 hw); go_simp; (first | done | rfl | (with_reducible exact call_same hw (letters_any _)) | (with_reducible exact call_below hC hw (HK.out _)) | (with_reducible exact call_below hC hw (HI.out _))))); (simp only [Act.put, List.setIfInBounds_toArray, List.set_cons_succ, List.set_cons_zero]); (with_reducible refine hK _ ?_); clear hK K))))
  refine wpQuiet_nil ?_
  intro w1 hb1
  replace hb1 := (hC.out _).1 hb1
  clear hC C
  obtain ⟨hc1, hf1⟩ := bcell hb1
  go_wp2
  go_ret
  exact ⟨rfl, pt (pa pr) hb1⟩

set_option maxHeartbeats 4000000 in
set_option maxRecDepth 100000 in
theorem NameOf_01 (t s : Int) (r : Bool) (t2 s2 : Int) (r2 : Bool) (n : Int) (he : unitE 0 t s 1 t2 s2 n = 0) (c : Nat) (hc : c < 12) (hcl : (whV 0 s r - whV 1 s2 r2) % 12 = (c : Int)) (w : World) (hT : TwIn w) (hP : PatIn w) :
    Calls Tryz.prog 9 #[.agg #[.int .i64 0, .int .i64 t, .int .i64 s, .bool r, .int .i64 1, .int .i64 t2, .int .i64 s2, .bool r2, .int .i64 n]] w fun e w' => e = .returned (.tuple #[.string (nameV 89 100 (Lib.decDigits c).toArray), .int .i64 0]) ∧ Below w.heap.size w w' := by
  have HC := Lib.hid (checkUnit_any 0 t s r 1 t2 s2 r2 n)
  rw [he] at HC
  obtain ⟨u1, u2, _, _⟩ := unitE_ok r r2 he
  have HK := Lib.hid (clock_any 0 t s r 1 t2 s2 r2 n u1 u2)
  rw [hcl] at HK
  have HI := Lib.hid (itoa_any c hc)
  have hA := fun w => name_add 89 100 _ (dec_size hc) w
  have hg := hP.1
  have t8 := hP.2 0 (by decide)
  have t4 := hP.2 4 (by decide)
  simp only [patC, List.getD_cons_succ, List.getD_cons_zero] at t8 t4
  have HT := Lib.hid hT
  have HP := Lib.hid hP
  clear hT hP he u1 u2 hc hcl
  generalize (Lib.decDigits c).toArray = D at *
  go_enter Tryz.func9, Tryz.ntmps9
  go_wp2_with (go_at_call 13; refine (HC.out _).mono ?_; rintro e w2 ⟨rfl, hb2⟩; have P2 : Blk w2 w.heap.size 25 #[.int .i64 0, .int .i64 t, .int .i64 s, .bool r, .int .i64 1, .int .i64 t2, .int .i64 s2, .bool r2, .int .i64 n] := (Blk.newAt rfl).past hb2; have S2 := pt (pa pr) hb2; have p0 := P2.cellAt 0 rfl; have p1 := P2.cellAt 1 rfl; have p2 := P2.cellAt 2 rfl; have p3 := P2.cellAt 3 rfl; have p4 := P2.cellAt 4 rfl; have p5 := P2.cellAt 5 rfl; have p6 := P2.cellAt 6 rfl; have p7 := P2.cellAt 7 rfl; have p8 := P2.cellAt 8 rfl; have pl := P2.lt; have x8 := ((bcell S2).1 0 0 hg).trans t8; have x4 := ((bcell S2).1 0 4 hg).trans t4; have xl := Nat.lt_of_lt_of_le hg S2.size)
  refine region_below 18 follows_mixed (by kernel_rfl) ?_
  intro C hC
  simp only [List.take_succ_cons, List.take_zero, List.drop_succ_cons, List.drop_zero]
  repeat (first
    | ((with_reducible refine quiet_plain rfl (fun K hK => ?_)); (focus (apply quiet_val; (focus (intro w' hw; obtain ⟨hcq, hfq⟩ := bcell ((hC.out _).1 hw); go_simp; (first | done | rfl | (with_reducible exact call_below hC hw (up_0 _)) | (with_reducible exact call_below hC hw (HK.out _ (HT.out.below (pt S2 ((hC.out _).1 hw))) (HP.out.below (pt S2 ((hC.out _).1 hw))))) | (with_reducible exact call_same hw (HI.out _))))); (simp only [Act.put, List.setIfInBounds_toArray, List.set_cons_succ, List.set_cons_zero]); (with_reducible refine hK _ ?_); clear hK K)))
    | ((with_reducible refine quiet_skip ?_ ?_); (focus (first | (simp [Region.wanted, yielded]; done) | (simp [Region.wanted, yielded, undef]; done))); simp only [Act.put, List.setIfInBounds_toArray, List.set_cons_succ, List.set_cons_zero])
    | ((with_reducible refine quiet_go ?_ (fun K hK => ?_)); (focus (first | (simp [Region.wanted, yielded]; done) | (simp [Region.wanted, yielded, undef]; done))); (focus (apply quiet_val; (focus (intro w' hw; obtain ⟨hcq, hfq⟩ := bcell ((hC.out _).1 hw); go_simp; (first | done | rfl | (with_reducible exact call_below hC hw (up_0 _)) | (with_reducible exact call_below hC hw (HK.out _ (HT.out.below (pt S2 ((hC.out _).1 hw))) (HP.out.below (pt S2 ((hC.out _).1 hw))))) | (with_reducible exact call_same hw (HI.out _))))); (simp only [Act.put, List.setIfInBounds_toArray, List.set_cons_succ, List.set_cons_zero]); (with_reducible refine hK _ ?_); clear hK K))))
  refine wpQuiet_nil ?_
  intro w1 hb1
  replace hb1 := (hC.out _).1 hb1
  clear hC C
  obtain ⟨hc1, hf1⟩ := bcell hb1
  go_wp2
  go_ret2
  exact ⟨rfl, pt S2 hb1⟩

set_option maxHeartbeats 4000000 in
set_option maxRecDepth 100000 in
theorem refName_01 (t s : Int) (r : Bool) (t2 s2 : Int) (r2 : Bool) (n : Int) (he : unitE 0 t s 1 t2 s2 n = 0) (c : Nat) (hc : c < 12) (hcl : (whV 0 s r - whV 1 s2 r2) % 12 = (c : Int)) (w : World) :
    Calls Tryz.prog 16 #[.agg #[.int .i64 0, .int .i64 t, .int .i64 s, .bool r, .int .i64 1, .int .i64 t2, .int .i64 s2, .bool r2, .int .i64 n]] w fun e w' => e = .returned (.string (nameV 89 100 (Lib.decDigits c).toArray)) ∧ Below w.heap.size w w' := by
  obtain ⟨u1, u2, _, _⟩ := unitE_ok r r2 he
  have HK := Lib.hid (refClock_any 0 t s r 1 t2 s2 r2 n u1 u2)
  rw [hcl] at HK
  have HI := Lib.hid (decimal_any c hc)
  have hA := fun w => name_add 89 100 _ (dec_size hc) w
  clear he u1 u2 hc hcl
  generalize (Lib.decDigits c).toArray = D at *
  have x1 : (⟨#[89, 68, 90]⟩ : ByteArray).extract 0 1 = ⟨#[89]⟩ := by first | rfl | decide
  have x2 : (⟨#[121, 100, 122]⟩ : ByteArray).extract 1 2 = ⟨#[100]⟩ := by first | rfl | decide
  have z0 : IntKind.i64.wrap 1 = 1 := by decide
  have z1 : IntKind.i64.wrap 2 = 2 := by decide
  have z2 : IntKind.i64.wrap 3 = 3 := by decide
  go_enter Tryz.func16, Tryz.ntmps16
  go_wp2
  refine region_below 22 follows_mixed (by kernel_rfl) ?_
  intro C hC
  simp only [List.take_succ_cons, List.take_zero, List.drop_succ_cons, List.drop_zero]
  repeat (first
    | ((with_reducible refine quiet_plain rfl (fun K hK => ?_)); (focus (apply quiet_val; (focus (intro w' hw; obtain ⟨hcq, hfq⟩ := bcell ((hC.out _).1 hw); go_simp; (first | done | rfl | (with_reducible exact call_same hw (letters_any _)) | (with_reducible exact call_below hC hw (HK.out _)) | (with_reducible exact call_below hC hw (HI.out _))))); (simp only [Act.put, List.setIfInBounds_toArray, List.set_cons_succ, List.set_cons_zero]); (with_reducible refine hK _ ?_); clear hK K)))
    | ((with_reducible refine quiet_skip ?_ ?_); (focus (first | (simp [Region.wanted, yielded]; done) | (simp [Region.wanted, yielded, undef]; done))); simp only [Act.put, List.setIfInBounds_toArray, List.set_cons_succ, List.set_cons_zero])
    | ((with_reducible refine quiet_go ?_ (fun K hK => ?_)); (focus (first | (simp [Region.wanted, yielded]; done) | (simp [Region.wanted, yielded, undef]; done))); (focus (apply quiet_val; (focus (intro w' hw; obtain ⟨hcq, hfq⟩ := bcell ((hC.out _).1 hw); go_simp; (first | done | rfl | (with_reducible exact call_same hw (letters_any _)) | (with_reducible exact call_below hC hw (HK.out _)) | (with_reducible exact call_below hC hw (HI.out _))))); (simp only [Act.put, List.setIfInBounds_toArray, List.set_cons_succ, List.set_cons_zero]); (with_reducible refine hK _ ?_); clear hK K))))
  refine wpQuiet_nil ?_
  intro w1 hb1
  replace hb1 := (hC.out _).1 hb1
  clear hC C
  obtain ⟨hc1, hf1⟩ := bcell hb1
  go_wp2
  go_ret
  exact ⟨rfl, pt (pa pr) hb1⟩

set_option maxHeartbeats 4000000 in
set_option maxRecDepth 100000 in
theorem NameOf_02 (t s : Int) (r : Bool) (t2 s2 : Int) (r2 : Bool) (n : Int) (he : unitE 0 t s 2 t2 s2 n = 0) (c : Nat) (hc : c < 12) (hcl : (whV 0 s r - whV 2 s2 r2) % 12 = (c : Int)) (w : World) (hT : TwIn w) (hP : PatIn w) :
    Calls Tryz.prog 9 #[.agg #[.int .i64 0, .int .i64 t, .int .i64 s, .bool r, .int .i64 2, .int .i64 t2, .int .i64 s2, .bool r2, .int .i64 n]] w fun e w' => e = .returned (.tuple #[.string (nameV 89 122 (Lib.decDigits c).toArray), .int .i64 0]) ∧ Below w.heap.size w w' := by
  have HC := Lib.hid (checkUnit_any 0 t s r 2 t2 s2 r2 n)
  rw [he] at HC
  obtain ⟨u1, u2, _, _⟩ := unitE_ok r r2 he
  have HK := Lib.hid (clock_any 0 t s r 2 t2 s2 r2 n u1 u2)
  rw [hcl] at HK
  have HI := Lib.hid (itoa_any c hc)
  have hA := fun w => name_add 89 122 _ (dec_size hc) w
  have hg := hP.1
  have t8 := hP.2 0 (by decide)
  have t4 := hP.2 8 (by decide)
  simp only [patC, List.getD_cons_succ, List.getD_cons_zero] at t8 t4
  have HT := Lib.hid hT
  have HP := Lib.hid hP
  clear hT hP he u1 u2 hc hcl
  generalize (Lib.decDigits c).toArray = D at *
  go_enter Tryz.func9, Tryz.ntmps9
  go_wp2_with (go_at_call 13; refine (HC.out _).mono ?_; rintro e w2 ⟨rfl, hb2⟩; have P2 : Blk w2 w.heap.size 25 #[.int .i64 0, .int .i64 t, .int .i64 s, .bool r, .int .i64 2, .int .i64 t2, .int .i64 s2, .bool r2, .int .i64 n] := (Blk.newAt rfl).past hb2; have S2 := pt (pa pr) hb2; have p0 := P2.cellAt 0 rfl; have p1 := P2.cellAt 1 rfl; have p2 := P2.cellAt 2 rfl; have p3 := P2.cellAt 3 rfl; have p4 := P2.cellAt 4 rfl; have p5 := P2.cellAt 5 rfl; have p6 := P2.cellAt 6 rfl; have p7 := P2.cellAt 7 rfl; have p8 := P2.cellAt 8 rfl; have pl := P2.lt; have x8 := ((bcell S2).1 0 0 hg).trans t8; have x4 := ((bcell S2).1 0 8 hg).trans t4; have xl := Nat.lt_of_lt_of_le hg S2.size)
  refine region_below 18 follows_mixed (by kernel_rfl) ?_
  intro C hC
  simp only [List.take_succ_cons, List.take_zero, List.drop_succ_cons, List.drop_zero]
  repeat (first
    | ((with_reducible refine quiet_plain rfl (fun K hK => ?_)); (focus (apply quiet_val; (focus (intro w' hw; obtain ⟨hcq, hfq⟩ := bcell ((hC.out _).1 hw); go_simp; (first | done | rfl | (with_reducible exact call_below hC hw (up_0 _)) | (with_reducible exact call_below hC hw (HK.out _ (HT.out.below (pt S2 ((hC.out _).1 hw))) (HP.out.below (pt S2 ((hC.out _).1 hw))))) | (with_reducible exact call_same hw (HI.out _))))); (simp only [Act.put, List.setIfInBounds_toArray, List.set_cons_succ, List.set_cons_zero]); (with_reducible refine hK _ ?_); clear hK K)))
    | ((with_reducible refine quiet_skip ?_ ?_); (focus (first | (simp [Region.wanted, yielded]; done) | (simp [Region.wanted, yielded, undef]; done))); simp only [Act.put, List.setIfInBounds_toArray, List.set_cons_succ, List.set_cons_zero])
    | ((with_reducible refine quiet_go ?_ (fun K hK => ?_)); (focus (first | (simp [Region.wanted, yielded]; done) | (simp [Region.wanted, yielded, undef]; done))); (focus (apply quiet_val; (focus (intro w' hw; obtain ⟨hcq, hfq⟩ := bcell ((hC.out _).1 hw); go_simp; (first | done | rfl | (with_reducible exact call_below hC hw (up_0 _)) | (with_reducible exact call_below hC hw (HK.out _ (HT.out.below (pt S2 ((hC.out _).1 hw))) (HP.out.below (pt S2 ((hC.out _).1 hw))))) | (with_reducible exact call_same hw (HI.out _))))); (simp only [Act.put, List.setIfInBounds_toArray, List.set_cons_succ, List.set_cons_zero]); (with_reducible refine hK _ ?_); clear hK K))))
  refine wpQuiet_nil ?_
  intro w1 hb1
  replace hb1 := (hC.out _).1 hb1
  clear hC C
  obtain ⟨hc1, hf1⟩ := bcell hb1
  go_wp2
  go_ret2
  exact ⟨rfl, pt S2 hb1⟩

set_option maxHeartbeats 4000000 in
set_option maxRecDepth 100000 in
theorem refName_02 (t s : Int) (r : Bool) (t2 s2 : Int) (r2 : Bool) (n : Int) (he : unitE 0 t s 2 t2 s2 n = 0) (c : Nat) (hc : c < 12) (hcl : (whV 0 s r - whV 2 s2 r2) % 12 = (c : Int)) (w : World) :
    Calls Tryz.prog 16 #[.agg #[.int .i64 0, .int .i64 t, .int .i64 s, .bool r, .int .i64 2, .int .i64 t2, .int .i64 s2, .bool r2, .int .i64 n]] w fun e w' => e = .returned (.string (nameV 89 122 (Lib.decDigits c).toArray)) ∧ Below w.heap.size w w' := by
  obtain ⟨u1, u2, _, _⟩ := unitE_ok r r2 he
  have HK := Lib.hid (refClock_any 0 t s r 2 t2 s2 r2 n u1 u2)
  rw [hcl] at HK
  have HI := Lib.hid (decimal_any c hc)
  have hA := fun w => name_add 89 122 _ (dec_size hc) w
  clear he u1 u2 hc hcl
  generalize (Lib.decDigits c).toArray = D at *
  have x1 : (⟨#[89, 68, 90]⟩ : ByteArray).extract 0 1 = ⟨#[89]⟩ := by first | rfl | decide
  have x2 : (⟨#[121, 100, 122]⟩ : ByteArray).extract 2 3 = ⟨#[122]⟩ := by first | rfl | decide
  have z0 : IntKind.i64.wrap 1 = 1 := by decide
  have z1 : IntKind.i64.wrap 2 = 2 := by decide
  have z2 : IntKind.i64.wrap 3 = 3 := by decide
  go_enter Tryz.func16, Tryz.ntmps16
  go_wp2
  refine region_below 22 follows_mixed (by kernel_rfl) ?_
  intro C hC
  simp only [List.take_succ_cons, List.take_zero, List.drop_succ_cons, List.drop_zero]
  repeat (first
    | ((with_reducible refine quiet_plain rfl (fun K hK => ?_)); (focus (apply quiet_val; (focus (intro w' hw; obtain ⟨hcq, hfq⟩ := bcell ((hC.out _).1 hw); go_simp; (first | done | rfl | (with_reducible exact call_same hw (letters_any _)) | (with_reducible exact call_below hC hw (HK.out _)) | (with_reducible exact call_below hC hw (HI.out _))))); (simp only [Act.put, List.setIfInBounds_toArray, List.set_cons_succ, List.set_cons_zero]); (with_reducible refine hK _ ?_); clear hK K)))
    | ((with_reducible refine quiet_skip ?_ ?_); (focus (first | (simp [Region.wanted, yielded]; done) | (simp [Region.wanted, yielded, undef]; done))); simp only [Act.put, List.setIfInBounds_toArray, List.set_cons_succ, List.set_cons_zero])
    | ((with_reducible refine quiet_go ?_ (fun K hK => ?_)); (focus (first | (simp [Region.wanted, yielded]; done) | (simp [Region.wanted, yielded, undef]; done))); (focus (apply quiet_val; (focus (intro w' hw; obtain ⟨hcq, hfq⟩ := bcell ((hC.out _).1 hw); go_simp; (first | done | rfl | (with_reducible exact call_same hw (letters_any _)) | (with_reducible exact call_below hC hw (HK.out _)) | (with_reducible exact call_below hC hw (HI.out _))))); (simp only [Act.put, List.setIfInBounds_toArray, List.set_cons_succ, List.set_cons_zero]); (with_reducible refine hK _ ?_); clear hK K))))
  refine wpQuiet_nil ?_
  intro w1 hb1
  replace hb1 := (hC.out _).1 hb1
  clear hC C
  obtain ⟨hc1, hf1⟩ := bcell hb1
  go_wp2
  go_ret
  exact ⟨rfl, pt (pa pr) hb1⟩

set_option maxHeartbeats 4000000 in
set_option maxRecDepth 100000 in
theorem NameOf_10 (t s : Int) (r : Bool) (t2 s2 : Int) (r2 : Bool) (n : Int) (he : unitE 1 t s 0 t2 s2 n = 0) (c : Nat) (hc : c < 12) (hcl : (whV 1 s r - whV 0 s2 r2) % 12 = (c : Int)) (w : World) (hT : TwIn w) (hP : PatIn w) :
    Calls Tryz.prog 9 #[.agg #[.int .i64 1, .int .i64 t, .int .i64 s, .bool r, .int .i64 0, .int .i64 t2, .int .i64 s2, .bool r2, .int .i64 n]] w fun e w' => e = .returned (.tuple #[.string (nameV 68 121 (Lib.decDigits c).toArray), .int .i64 0]) ∧ Below w.heap.size w w' := by
  have HC := Lib.hid (checkUnit_any 1 t s r 0 t2 s2 r2 n)
  rw [he] at HC
  obtain ⟨u1, u2, _, _⟩ := unitE_ok r r2 he
  have HK := Lib.hid (clock_any 1 t s r 0 t2 s2 r2 n u1 u2)
  rw [hcl] at HK
  have HI := Lib.hid (itoa_any c hc)
  have hA := fun w => name_add 68 121 _ (dec_size hc) w
  have hg := hP.1
  have t8 := hP.2 4 (by decide)
  have t4 := hP.2 0 (by decide)
  simp only [patC, List.getD_cons_succ, List.getD_cons_zero] at t8 t4
  have HT := Lib.hid hT
  have HP := Lib.hid hP
  clear hT hP he u1 u2 hc hcl
  generalize (Lib.decDigits c).toArray = D at *
  go_enter Tryz.func9, Tryz.ntmps9
  go_wp2_with (go_at_call 13; refine (HC.out _).mono ?_; rintro e w2 ⟨rfl, hb2⟩; have P2 : Blk w2 w.heap.size 25 #[.int .i64 1, .int .i64 t, .int .i64 s, .bool r, .int .i64 0, .int .i64 t2, .int .i64 s2, .bool r2, .int .i64 n] := (Blk.newAt rfl).past hb2; have S2 := pt (pa pr) hb2; have p0 := P2.cellAt 0 rfl; have p1 := P2.cellAt 1 rfl; have p2 := P2.cellAt 2 rfl; have p3 := P2.cellAt 3 rfl; have p4 := P2.cellAt 4 rfl; have p5 := P2.cellAt 5 rfl; have p6 := P2.cellAt 6 rfl; have p7 := P2.cellAt 7 rfl; have p8 := P2.cellAt 8 rfl; have pl := P2.lt; have x8 := ((bcell S2).1 0 4 hg).trans t8; have x4 := ((bcell S2).1 0 0 hg).trans t4; have xl := Nat.lt_of_lt_of_le hg S2.size)
  refine region_below 18 follows_mixed (by kernel_rfl) ?_
  intro C hC
  simp only [List.take_succ_cons, List.take_zero, List.drop_succ_cons, List.drop_zero]
  repeat (first
    | ((with_reducible refine quiet_plain rfl (fun K hK => ?_)); (focus (apply quiet_val; (focus (intro w' hw; obtain ⟨hcq, hfq⟩ := bcell ((hC.out _).1 hw); go_simp; (first | done | rfl | (with_reducible exact call_below hC hw (up_1 _)) | (with_reducible exact call_below hC hw (HK.out _ (HT.out.below (pt S2 ((hC.out _).1 hw))) (HP.out.below (pt S2 ((hC.out _).1 hw))))) | (with_reducible exact call_same hw (HI.out _))))); (simp only [Act.put, List.setIfInBounds_toArray, List.set_cons_succ, List.set_cons_zero]); (with_reducible refine hK _ ?_); clear hK K)))
    | ((with_reducible refine quiet_skip ?_ ?_); (focus (first | (simp [Region.wanted, yielded]; done) | (simp [Region.wanted, yielded, undef]; done))); simp only [Act.put, List.setIfInBounds_toArray, List.set_cons_succ, List.set_cons_zero])
    | ((with_reducible refine quiet_go ?_ (fun K hK => ?_)); (focus (first | (simp [Region.wanted, yielded]; done) | (simp [Region.wanted, yielded, undef]; done))); (focus (apply quiet_val; (focus (intro w' hw; obtain ⟨hcq, hfq⟩ := bcell ((hC.out _).1 hw); go_simp; (first | done | rfl | (with_reducible exact call_below hC hw (up_1 _)) | (with_reducible exact call_below hC hw (HK.out _ (HT.out.below (pt S2 ((hC.out _).1 hw))) (HP.out.below (pt S2 ((hC.out _).1 hw))))) | (with_reducible exact call_same hw (HI.out _))))); (simp only [Act.put, List.setIfInBounds_toArray, List.set_cons_succ, List.set_cons_zero]); (with_reducible refine hK _ ?_); clear hK K))))
  refine wpQuiet_nil ?_
  intro w1 hb1
  replace hb1 := (hC.out _).1 hb1
  clear hC C
  obtain ⟨hc1, hf1⟩ := bcell hb1
  go_wp2
  go_ret2
  exact ⟨rfl, pt S2 hb1⟩

set_option maxHeartbeats 4000000 in
set_option maxRecDepth 100000 in
theorem refName_10 (t s : Int) (r : Bool) (t2 s2 : Int) (r2 : Bool) (n : Int) (he : unitE 1 t s 0 t2 s2 n = 0) (c : Nat) (hc : c < 12) (hcl : (whV 1 s r - whV 0 s2 r2) % 12 = (c : Int)) (w : World) :
    Calls Tryz.prog 16 #[.agg #[.int .i64 1, .int .i64 t, .int .i64 s, .bool r, .int .i64 0, .int .i64 t2, .int .i64 s2, .bool r2, .int .i64 n]] w fun e w' => e = .returned (.string (nameV 68 121 (Lib.decDigits c).toArray)) ∧ Below w.heap.size w w' := by
  obtain ⟨u1, u2, _, _⟩ := unitE_ok r r2 he
  have HK := Lib.hid (refClock_any 1 t s r 0 t2 s2 r2 n u1 u2)
  rw [hcl] at HK
  have HI := Lib.hid (decimal_any c hc)
  have hA := fun w => name_add 68 121 _ (dec_size hc) w
  clear he u1 u2 hc hcl
  generalize (Lib.decDigits c).toArray = D at *
  have x1 : (⟨#[89, 68, 90]⟩ : ByteArray).extract 1 2 = ⟨#[68]⟩ := by first | rfl | decide
  have x2 : (⟨#[121, 100, 122]⟩ : ByteArray).extract 0 1 = ⟨#[121]⟩ := by first | rfl | decide
  have z0 : IntKind.i64.wrap 1 = 1 := by decide
  have z1 : IntKind.i64.wrap 2 = 2 := by decide
  have z2 : IntKind.i64.wrap 3 = 3 := by decide
  go_enter Tryz.func16, Tryz.ntmps16
  go_wp2
  refine region_below 22 follows_mixed (by kernel_rfl) ?_
  intro C hC
  simp only [List.take_succ_cons, List.take_zero, List.drop_succ_cons, List.drop_zero]
  repeat (first
    | ((with_reducible refine quiet_plain rfl (fun K hK => ?_)); (focus (apply quiet_val; (focus (intro w' hw; obtain ⟨hcq, hfq⟩ := bcell ((hC.out _).1 hw); go_simp; (first | done | rfl | (with_reducible exact call_same hw (letters_any _)) | (with_reducible exact call_below hC hw (HK.out _)) | (with_reducible exact call_below hC hw (HI.out _))))); (simp only [Act.put, List.setIfInBounds_toArray, List.set_cons_succ, List.set_cons_zero]); (with_reducible refine hK _ ?_); clear hK K)))
    | ((with_reducible refine quiet_skip ?_ ?_); (focus (first | (simp [Region.wanted, yielded]; done) | (simp [Region.wanted, yielded, undef]; done))); simp only [Act.put, List.setIfInBounds_toArray, List.set_cons_succ, List.set_cons_zero])
    | ((with_reducible refine quiet_go ?_ (fun K hK => ?_)); (focus (first | (simp [Region.wanted, yielded]; done) | (simp [Region.wanted, yielded, undef]; done))); (focus (apply quiet_val; (focus (intro w' hw; obtain ⟨hcq, hfq⟩ := bcell ((hC.out _).1 hw); go_simp; (first | done | rfl | (with_reducible exact call_same hw (letters_any _)) | (with_reducible exact call_below hC hw (HK.out _)) | (with_reducible exact call_below hC hw (HI.out _))))); (simp only [Act.put, List.setIfInBounds_toArray, List.set_cons_succ, List.set_cons_zero]); (with_reducible refine hK _ ?_); clear hK K))))
  refine wpQuiet_nil ?_
  intro w1 hb1
  replace hb1 := (hC.out _).1 hb1
  clear hC C
  obtain ⟨hc1, hf1⟩ := bcell hb1
  go_wp2
  go_ret
  exact ⟨rfl, pt (pa pr) hb1⟩

set_option maxHeartbeats 4000000 in
set_option maxRecDepth 100000 in
theorem NameOf_11 (t s : Int) (r : Bool) (t2 s2 : Int) (r2 : Bool) (n : Int) (he : unitE 1 t s 1 t2 s2 n = 0) (c : Nat) (hc : c < 12) (hcl : (whV 1 s r - whV 1 s2 r2) % 12 = (c : Int)) (w : World) (hT : TwIn w) (hP : PatIn w) :
    Calls Tryz.prog 9 #[.agg #[.int .i64 1, .int .i64 t, .int .i64 s, .bool r, .int .i64 1, .int .i64 t2, .int .i64 s2, .bool r2, .int .i64 n]] w fun e w' => e = .returned (.tuple #[.string (nameV 68 100 (Lib.decDigits c).toArray), .int .i64 0]) ∧ Below w.heap.size w w' := by
  have HC := Lib.hid (checkUnit_any 1 t s r 1 t2 s2 r2 n)
  rw [he] at HC
  obtain ⟨u1, u2, _, _⟩ := unitE_ok r r2 he
  have HK := Lib.hid (clock_any 1 t s r 1 t2 s2 r2 n u1 u2)
  rw [hcl] at HK
  have HI := Lib.hid (itoa_any c hc)
  have hA := fun w => name_add 68 100 _ (dec_size hc) w
  have hg := hP.1
  have t8 := hP.2 4 (by decide)
  have t4 := hP.2 4 (by decide)
  simp only [patC, List.getD_cons_succ, List.getD_cons_zero] at t8 t4
  have HT := Lib.hid hT
  have HP := Lib.hid hP
  clear hT hP he u1 u2 hc hcl
  generalize (Lib.decDigits c).toArray = D at *
  go_enter Tryz.func9, Tryz.ntmps9
  go_wp2_with (go_at_call 13; refine (HC.out _).mono ?_; rintro e w2 ⟨rfl, hb2⟩; have P2 : Blk w2 w.heap.size 25 #[.int .i64 1, .int .i64 t, .int .i64 s, .bool r, .int .i64 1, .int .i64 t2, .int .i64 s2, .bool r2, .int .i64 n] := (Blk.newAt rfl).past hb2; have S2 := pt (pa pr) hb2; have p0 := P2.cellAt 0 rfl; have p1 := P2.cellAt 1 rfl; have p2 := P2.cellAt 2 rfl; have p3 := P2.cellAt 3 rfl; have p4 := P2.cellAt 4 rfl; have p5 := P2.cellAt 5 rfl; have p6 := P2.cellAt 6 rfl; have p7 := P2.cellAt 7 rfl; have p8 := P2.cellAt 8 rfl; have pl := P2.lt; have x8 := ((bcell S2).1 0 4 hg).trans t8; have x4 := ((bcell S2).1 0 4 hg).trans t4; have xl := Nat.lt_of_lt_of_le hg S2.size)
  refine region_below 18 follows_mixed (by kernel_rfl) ?_
  intro C hC
  simp only [List.take_succ_cons, List.take_zero, List.drop_succ_cons, List.drop_zero]
  repeat (first
    | ((with_reducible refine quiet_plain rfl (fun K hK => ?_)); (focus (apply quiet_val; (focus (intro w' hw; obtain ⟨hcq, hfq⟩ := bcell ((hC.out _).1 hw); go_simp; (first | done | rfl | (with_reducible exact call_below hC hw (up_1 _)) | (with_reducible exact call_below hC hw (HK.out _ (HT.out.below (pt S2 ((hC.out _).1 hw))) (HP.out.below (pt S2 ((hC.out _).1 hw))))) | (with_reducible exact call_same hw (HI.out _))))); (simp only [Act.put, List.setIfInBounds_toArray, List.set_cons_succ, List.set_cons_zero]); (with_reducible refine hK _ ?_); clear hK K)))
    | ((with_reducible refine quiet_skip ?_ ?_); (focus (first | (simp [Region.wanted, yielded]; done) | (simp [Region.wanted, yielded, undef]; done))); simp only [Act.put, List.setIfInBounds_toArray, List.set_cons_succ, List.set_cons_zero])
    | ((with_reducible refine quiet_go ?_ (fun K hK => ?_)); (focus (first | (simp [Region.wanted, yielded]; done) | (simp [Region.wanted, yielded, undef]; done))); (focus (apply quiet_val; (focus (intro w' hw; obtain ⟨hcq, hfq⟩ := bcell ((hC.out _).1 hw); go_simp; (first | done | rfl | (with_reducible exact call_below hC hw (up_1 _)) | (with_reducible exact call_below hC hw (HK.out _ (HT.out.below (pt S2 ((hC.out _).1 hw))) (HP.out.below (pt S2 ((hC.out _).1 hw))))) | (with_reducible exact call_same hw (HI.out _))))); (simp only [Act.put, List.setIfInBounds_toArray, List.set_cons_succ, List.set_cons_zero]); (with_reducible refine hK _ ?_); clear hK K))))
  refine wpQuiet_nil ?_
  intro w1 hb1
  replace hb1 := (hC.out _).1 hb1
  clear hC C
  obtain ⟨hc1, hf1⟩ := bcell hb1
  go_wp2
  go_ret2
  exact ⟨rfl, pt S2 hb1⟩

set_option maxHeartbeats 4000000 in
set_option maxRecDepth 100000 in
theorem refName_11 (t s : Int) (r : Bool) (t2 s2 : Int) (r2 : Bool) (n : Int) (he : unitE 1 t s 1 t2 s2 n = 0) (c : Nat) (hc : c < 12) (hcl : (whV 1 s r - whV 1 s2 r2) % 12 = (c : Int)) (w : World) :
    Calls Tryz.prog 16 #[.agg #[.int .i64 1, .int .i64 t, .int .i64 s, .bool r, .int .i64 1, .int .i64 t2, .int .i64 s2, .bool r2, .int .i64 n]] w fun e w' => e = .returned (.string (nameV 68 100 (Lib.decDigits c).toArray)) ∧ Below w.heap.size w w' := by
  obtain ⟨u1, u2, _, _⟩ := unitE_ok r r2 he
  have HK := Lib.hid (refClock_any 1 t s r 1 t2 s2 r2 n u1 u2)
  rw [hcl] at HK
  have HI := Lib.hid (decimal_any c hc)
  have hA := fun w => name_add 68 100 _ (dec_size hc) w
  clear he u1 u2 hc hcl
  generalize (Lib.decDigits c).toArray = D at *
  have x1 : (⟨#[89, 68, 90]⟩ : ByteArray).extract 1 2 = ⟨#[68]⟩ := by first | rfl | decide
  have x2 : (⟨#[121, 100, 122]⟩ : ByteArray).extract 1 2 = ⟨#[100]⟩ := by first | rfl | decide
  have z0 : IntKind.i64.wrap 1 = 1 := by decide
  have z1 : IntKind.i64.wrap 2 = 2 := by decide
  have z2 : IntKind.i64.wrap 3 = 3 := by decide
  go_enter Tryz.func16, Tryz.ntmps16
  go_wp2
  refine region_below 22 follows_mixed (by kernel_rfl) ?_
  intro C hC
  simp only [List.take_succ_cons, List.take_zero, List.drop_succ_cons, List.drop_zero]
  repeat (first
    | ((with_reducible refine quiet_plain rfl (fun K hK => ?_)); (focus (apply quiet_val; (focus (intro w' hw; obtain ⟨hcq, hfq⟩ := bcell ((hC.out _).1 hw); go_simp; (first | done | rfl | (with_reducible exact call_same hw (letters_any _)) | (with_reducible exact call_below hC hw (HK.out _)) | (with_reducible exact call_below hC hw (HI.out _))))); (simp only [Act.put, List.setIfInBounds_toArray, List.set_cons_succ, List.set_cons_zero]); (with_reducible refine hK _ ?_); clear hK K)))
    | ((with_reducible refine quiet_skip ?_ ?_); (focus (first | (simp [Region.wanted, yielded]; done) | (simp [Region.wanted, yielded, undef]; done))); simp only [Act.put, List.setIfInBounds_toArray, List.set_cons_succ, List.set_cons_zero])
    | ((with_reducible refine quiet_go ?_ (fun K hK => ?_)); (focus (first | (simp [Region.wanted, yielded]; done) | (simp [Region.wanted, yielded, undef]; done))); (focus (apply quiet_val; (focus (intro w' hw; obtain ⟨hcq, hfq⟩ := bcell ((hC.out _).1 hw); go_simp; (first | done | rfl | (with_reducible exact call_same hw (letters_any _)) | (with_reducible exact call_below hC hw (HK.out _)) | (with_reducible exact call_below hC hw (HI.out _))))); (simp only [Act.put, List.setIfInBounds_toArray, List.set_cons_succ, List.set_cons_zero]); (with_reducible refine hK _ ?_); clear hK K))))
  refine wpQuiet_nil ?_
  intro w1 hb1
  replace hb1 := (hC.out _).1 hb1
  clear hC C
  obtain ⟨hc1, hf1⟩ := bcell hb1
  go_wp2
  go_ret
  exact ⟨rfl, pt (pa pr) hb1⟩

set_option maxHeartbeats 4000000 in
set_option maxRecDepth 100000 in
theorem NameOf_12 (t s : Int) (r : Bool) (t2 s2 : Int) (r2 : Bool) (n : Int) (he : unitE 1 t s 2 t2 s2 n = 0) (c : Nat) (hc : c < 12) (hcl : (whV 1 s r - whV 2 s2 r2) % 12 = (c : Int)) (w : World) (hT : TwIn w) (hP : PatIn w) :
    Calls Tryz.prog 9 #[.agg #[.int .i64 1, .int .i64 t, .int .i64 s, .bool r, .int .i64 2, .int .i64 t2, .int .i64 s2, .bool r2, .int .i64 n]] w fun e w' => e = .returned (.tuple #[.string (nameV 68 122 (Lib.decDigits c).toArray), .int .i64 0]) ∧ Below w.heap.size w w' := by
  have HC := Lib.hid (checkUnit_any 1 t s r 2 t2 s2 r2 n)
  rw [he] at HC
  obtain ⟨u1, u2, _, _⟩ := unitE_ok r r2 he
  have HK := Lib.hid (clock_any 1 t s r 2 t2 s2 r2 n u1 u2)
  rw [hcl] at HK
  have HI := Lib.hid (itoa_any c hc)
  have hA := fun w => name_add 68 122 _ (dec_size hc) w
  have hg := hP.1
  have t8 := hP.2 4 (by decide)
  have t4 := hP.2 8 (by decide)
  simp only [patC, List.getD_cons_succ, List.getD_cons_zero] at t8 t4
  have HT := Lib.hid hT
  have HP := Lib.hid hP
  clear hT hP he u1 u2 hc hcl
  generalize (Lib.decDigits c).toArray = D at *
  go_enter Tryz.func9, Tryz.ntmps9
  go_wp2_with (go_at_call 13; refine (HC.out _).mono ?_; rintro e w2 ⟨rfl, hb2⟩; have P2 : Blk w2 w.heap.size 25 #[.int .i64 1, .int .i64 t, .int .i64 s, .bool r, .int .i64 2, .int .i64 t2, .int .i64 s2, .bool r2, .int .i64 n] := (Blk.newAt rfl).past hb2; have S2 := pt (pa pr) hb2; have p0 := P2.cellAt 0 rfl; have p1 := P2.cellAt 1 rfl; have p2 := P2.cellAt 2 rfl; have p3 := P2.cellAt 3 rfl; have p4 := P2.cellAt 4 rfl; have p5 := P2.cellAt 5 rfl; have p6 := P2.cellAt 6 rfl; have p7 := P2.cellAt 7 rfl; have p8 := P2.cellAt 8 rfl; have pl := P2.lt; have x8 := ((bcell S2).1 0 4 hg).trans t8; have x4 := ((bcell S2).1 0 8 hg).trans t4; have xl := Nat.lt_of_lt_of_le hg S2.size)
  refine region_below 18 follows_mixed (by kernel_rfl) ?_
  intro C hC
  simp only [List.take_succ_cons, List.take_zero, List.drop_succ_cons, List.drop_zero]
  repeat (first
    | ((with_reducible refine quiet_plain rfl (fun K hK => ?_)); (focus (apply quiet_val; (focus (intro w' hw; obtain ⟨hcq, hfq⟩ := bcell ((hC.out _).1 hw); go_simp; (first | done | rfl | (with_reducible exact call_below hC hw (up_1 _)) | (with_reducible exact call_below hC hw (HK.out _ (HT.out.below (pt S2 ((hC.out _).1 hw))) (HP.out.below (pt S2 ((hC.out _).1 hw))))) | (with_reducible exact call_same hw (HI.out _))))); (simp only [Act.put, List.setIfInBounds_toArray, List.set_cons_succ, List.set_cons_zero]); (with_reducible refine hK _ ?_); clear hK K)))
    | ((with_reducible refine quiet_skip ?_ ?_); (focus (first | (simp [Region.wanted, yielded]; done) | (simp [Region.wanted, yielded, undef]; done))); simp only [Act.put, List.setIfInBounds_toArray, List.set_cons_succ, List.set_cons_zero])
    | ((with_reducible refine quiet_go ?_ (fun K hK => ?_)); (focus (first | (simp [Region.wanted, yielded]; done) | (simp [Region.wanted, yielded, undef]; done))); (focus (apply quiet_val; (focus (intro w' hw; obtain ⟨hcq, hfq⟩ := bcell ((hC.out _).1 hw); go_simp; (first | done | rfl | (with_reducible exact call_below hC hw (up_1 _)) | (with_reducible exact call_below hC hw (HK.out _ (HT.out.below (pt S2 ((hC.out _).1 hw))) (HP.out.below (pt S2 ((hC.out _).1 hw))))) | (with_reducible exact call_same hw (HI.out _))))); (simp only [Act.put, List.setIfInBounds_toArray, List.set_cons_succ, List.set_cons_zero]); (with_reducible refine hK _ ?_); clear hK K))))
  refine wpQuiet_nil ?_
  intro w1 hb1
  replace hb1 := (hC.out _).1 hb1
  clear hC C
  obtain ⟨hc1, hf1⟩ := bcell hb1
  go_wp2
  go_ret2
  exact ⟨rfl, pt S2 hb1⟩

set_option maxHeartbeats 4000000 in
set_option maxRecDepth 100000 in
theorem refName_12 (t s : Int) (r : Bool) (t2 s2 : Int) (r2 : Bool) (n : Int) (he : unitE 1 t s 2 t2 s2 n = 0) (c : Nat) (hc : c < 12) (hcl : (whV 1 s r - whV 2 s2 r2) % 12 = (c : Int)) (w : World) :
    Calls Tryz.prog 16 #[.agg #[.int .i64 1, .int .i64 t, .int .i64 s, .bool r, .int .i64 2, .int .i64 t2, .int .i64 s2, .bool r2, .int .i64 n]] w fun e w' => e = .returned (.string (nameV 68 122 (Lib.decDigits c).toArray)) ∧ Below w.heap.size w w' := by
  obtain ⟨u1, u2, _, _⟩ := unitE_ok r r2 he
  have HK := Lib.hid (refClock_any 1 t s r 2 t2 s2 r2 n u1 u2)
  rw [hcl] at HK
  have HI := Lib.hid (decimal_any c hc)
  have hA := fun w => name_add 68 122 _ (dec_size hc) w
  clear he u1 u2 hc hcl
  generalize (Lib.decDigits c).toArray = D at *
  have x1 : (⟨#[89, 68, 90]⟩ : ByteArray).extract 1 2 = ⟨#[68]⟩ := by first | rfl | decide
  have x2 : (⟨#[121, 100, 122]⟩ : ByteArray).extract 2 3 = ⟨#[122]⟩ := by first | rfl | decide
  have z0 : IntKind.i64.wrap 1 = 1 := by decide
  have z1 : IntKind.i64.wrap 2 = 2 := by decide
  have z2 : IntKind.i64.wrap 3 = 3 := by decide
  go_enter Tryz.func16, Tryz.ntmps16
  go_wp2
  refine region_below 22 follows_mixed (by kernel_rfl) ?_
  intro C hC
  simp only [List.take_succ_cons, List.take_zero, List.drop_succ_cons, List.drop_zero]
  repeat (first
    | ((with_reducible refine quiet_plain rfl (fun K hK => ?_)); (focus (apply quiet_val; (focus (intro w' hw; obtain ⟨hcq, hfq⟩ := bcell ((hC.out _).1 hw); go_simp; (first | done | rfl | (with_reducible exact call_same hw (letters_any _)) | (with_reducible exact call_below hC hw (HK.out _)) | (with_reducible exact call_below hC hw (HI.out _))))); (simp only [Act.put, List.setIfInBounds_toArray, List.set_cons_succ, List.set_cons_zero]); (with_reducible refine hK _ ?_); clear hK K)))
    | ((with_reducible refine quiet_skip ?_ ?_); (focus (first | (simp [Region.wanted, yielded]; done) | (simp [Region.wanted, yielded, undef]; done))); simp only [Act.put, List.setIfInBounds_toArray, List.set_cons_succ, List.set_cons_zero])
    | ((with_reducible refine quiet_go ?_ (fun K hK => ?_)); (focus (first | (simp [Region.wanted, yielded]; done) | (simp [Region.wanted, yielded, undef]; done))); (focus (apply quiet_val; (focus (intro w' hw; obtain ⟨hcq, hfq⟩ := bcell ((hC.out _).1 hw); go_simp; (first | done | rfl | (with_reducible exact call_same hw (letters_any _)) | (with_reducible exact call_below hC hw (HK.out _)) | (with_reducible exact call_below hC hw (HI.out _))))); (simp only [Act.put, List.setIfInBounds_toArray, List.set_cons_succ, List.set_cons_zero]); (with_reducible refine hK _ ?_); clear hK K))))
  refine wpQuiet_nil ?_
  intro w1 hb1
  replace hb1 := (hC.out _).1 hb1
  clear hC C
  obtain ⟨hc1, hf1⟩ := bcell hb1
  go_wp2
  go_ret
  exact ⟨rfl, pt (pa pr) hb1⟩

set_option maxHeartbeats 4000000 in
set_option maxRecDepth 100000 in
theorem NameOf_20 (t s : Int) (r : Bool) (t2 s2 : Int) (r2 : Bool) (n : Int) (he : unitE 2 t s 0 t2 s2 n = 0) (c : Nat) (hc : c < 12) (hcl : (whV 2 s r - whV 0 s2 r2) % 12 = (c : Int)) (w : World) (hT : TwIn w) (hP : PatIn w) :
    Calls Tryz.prog 9 #[.agg #[.int .i64 2, .int .i64 t, .int .i64 s, .bool r, .int .i64 0, .int .i64 t2, .int .i64 s2, .bool r2, .int .i64 n]] w fun e w' => e = .returned (.tuple #[.string (nameV 90 121 (Lib.decDigits c).toArray), .int .i64 0]) ∧ Below w.heap.size w w' := by
  have HC := Lib.hid (checkUnit_any 2 t s r 0 t2 s2 r2 n)
  rw [he] at HC
  obtain ⟨u1, u2, _, _⟩ := unitE_ok r r2 he
  have HK := Lib.hid (clock_any 2 t s r 0 t2 s2 r2 n u1 u2)
  rw [hcl] at HK
  have HI := Lib.hid (itoa_any c hc)
  have hA := fun w => name_add 90 121 _ (dec_size hc) w
  have hg := hP.1
  have t8 := hP.2 8 (by decide)
  have t4 := hP.2 0 (by decide)
  simp only [patC, List.getD_cons_succ, List.getD_cons_zero] at t8 t4
  have HT := Lib.hid hT
  have HP := Lib.hid hP
  clear hT hP he u1 u2 hc hcl
  generalize (Lib.decDigits c).toArray = D at *
  go_enter Tryz.func9, Tryz.ntmps9
  go_wp2_with (go_at_call 13; refine (HC.out _).mono ?_; rintro e w2 ⟨rfl, hb2⟩; have P2 : Blk w2 w.heap.size 25 #[.int .i64 2, .int .i64 t, .int .i64 s, .bool r, .int .i64 0, .int .i64 t2, .int .i64 s2, .bool r2, .int .i64 n] := (Blk.newAt rfl).past hb2; have S2 := pt (pa pr) hb2; have p0 := P2.cellAt 0 rfl; have p1 := P2.cellAt 1 rfl; have p2 := P2.cellAt 2 rfl; have p3 := P2.cellAt 3 rfl; have p4 := P2.cellAt 4 rfl; have p5 := P2.cellAt 5 rfl; have p6 := P2.cellAt 6 rfl; have p7 := P2.cellAt 7 rfl; have p8 := P2.cellAt 8 rfl; have pl := P2.lt; have x8 := ((bcell S2).1 0 8 hg).trans t8; have x4 := ((bcell S2).1 0 0 hg).trans t4; have xl := Nat.lt_of_lt_of_le hg S2.size)
  refine region_below 18 follows_mixed (by kernel_rfl) ?_
  intro C hC
  simp only [List.take_succ_cons, List.take_zero, List.drop_succ_cons, List.drop_zero]
  repeat (first
    | ((with_reducible refine quiet_plain rfl (fun K hK => ?_)); (focus (apply quiet_val; (focus (intro w' hw; obtain ⟨hcq, hfq⟩ := bcell ((hC.out _).1 hw); go_simp; (first | done | rfl | (with_reducible exact call_below hC hw (up_2 _)) | (with_reducible exact call_below hC hw (HK.out _ (HT.out.below (pt S2 ((hC.out _).1 hw))) (HP.out.below (pt S2 ((hC.out _).1 hw))))) | (with_reducible exact call_same hw (HI.out _))))); (simp only [Act.put, List.setIfInBounds_toArray, List.set_cons_succ, List.set_cons_zero]); (with_reducible refine hK _ ?_); clear hK K)))
    | ((with_reducible refine quiet_skip ?_ ?_); (focus (first | (simp [Region.wanted, yielded]; done) | (simp [Region.wanted, yielded, undef]; done))); simp only [Act.put, List.setIfInBounds_toArray, List.set_cons_succ, List.set_cons_zero])
    | ((with_reducible refine quiet_go ?_ (fun K hK => ?_)); (focus (first | (simp [Region.wanted, yielded]; done) | (simp [Region.wanted, yielded, undef]; done))); (focus (apply quiet_val; (focus (intro w' hw; obtain ⟨hcq, hfq⟩ := bcell ((hC.out _).1 hw); go_simp; (first | done | rfl | (with_reducible exact call_below hC hw (up_2 _)) | (with_reducible exact call_below hC hw (HK.out _ (HT.out.below (pt S2 ((hC.out _).1 hw))) (HP.out.below (pt S2 ((hC.out _).1 hw))))) | (with_reducible exact call_same hw (HI.out _))))); (simp only [Act.put, List.setIfInBounds_toArray, List.set_cons_succ, List.set_cons_zero]); (with_reducible refine hK _ ?_); clear hK K))))
  refine wpQuiet_nil ?_
  intro w1 hb1
  replace hb1 := (hC.out _).1 hb1
  clear hC C
  obtain ⟨hc1, hf1⟩ := bcell hb1
  go_wp2
  go_ret2
  exact ⟨rfl, pt S2 hb1⟩

set_option maxHeartbeats 4000000 in
set_option maxRecDepth 100000 in
theorem refName_20 (t s : Int) (r : Bool) (t2 s2 : Int) (r2 : Bool) (n : Int) (he : unitE 2 t s 0 t2 s2 n = 0) (c : Nat) (hc : c < 12) (hcl : (whV 2 s r - whV 0 s2 r2) % 12 = (c : Int)) (w : World) :
    Calls Tryz.prog 16 #[.agg #[.int .i64 2, .int .i64 t, .int .i64 s, .bool r, .int .i64 0, .int .i64 t2, .int .i64 s2, .bool r2, .int .i64 n]] w fun e w' => e = .returned (.string (nameV 90 121 (Lib.decDigits c).toArray)) ∧ Below w.heap.size w w' := by
  obtain ⟨u1, u2, _, _⟩ := unitE_ok r r2 he
  have HK := Lib.hid (refClock_any 2 t s r 0 t2 s2 r2 n u1 u2)
  rw [hcl] at HK
  have HI := Lib.hid (decimal_any c hc)
  have hA := fun w => name_add 90 121 _ (dec_size hc) w
  clear he u1 u2 hc hcl
  generalize (Lib.decDigits c).toArray = D at *
  have x1 : (⟨#[89, 68, 90]⟩ : ByteArray).extract 2 3 = ⟨#[90]⟩ := by first | rfl | decide
  have x2 : (⟨#[121, 100, 122]⟩ : ByteArray).extract 0 1 = ⟨#[121]⟩ := by first | rfl | decide
  have z0 : IntKind.i64.wrap 1 = 1 := by decide
  have z1 : IntKind.i64.wrap 2 = 2 := by decide
  have z2 : IntKind.i64.wrap 3 = 3 := by decide
  go_enter Tryz.func16, Tryz.ntmps16
  go_wp2
  refine region_below 22 follows_mixed (by kernel_rfl) ?_
  intro C hC
  simp only [List.take_succ_cons, List.take_zero, List.drop_succ_cons, List.drop_zero]
  repeat (first
    | ((with_reducible refine quiet_plain rfl (fun K hK => ?_)); (focus (apply quiet_val; (focus (intro w' hw; obtain ⟨hcq, hfq⟩ := bcell ((hC.out _).1 hw); go_simp; (first | done | rfl | (with_reducible exact call_same hw (letters_any _)) | (with_reducible exact call_below hC hw (HK.out _)) | (with_reducible exact call_below hC hw (HI.out _))))); (simp only [Act.put, List.setIfInBounds_toArray, List.set_cons_succ, List.set_cons_zero]); (with_reducible refine hK _ ?_); clear hK K)))
    | ((with_reducible refine quiet_skip ?_ ?_); (focus (first | (simp [Region.wanted, yielded]; done) | (simp [Region.wanted, yielded, undef]; done))); simp only [Act.put, List.setIfInBounds_toArray, List.set_cons_succ, List.set_cons_zero])
    | ((with_reducible refine quiet_go ?_ (fun K hK => ?_)); (focus (first | (simp [Region.wanted, yielded]; done) | (simp [Region.wanted, yielded, undef]; done))); (focus (apply quiet_val; (focus (intro w' hw; obtain ⟨hcq, hfq⟩ := bcell ((hC.out _).1 hw); go_simp; (first | done | rfl | (with_reducible exact call_same hw (letters_any _)) | (with_reducible exact call_below hC hw (HK.out _)) | (with_reducible exact call_below hC hw (HI.out _))))); (simp only [Act.put, List.setIfInBounds_toArray, List.set_cons_succ, List.set_cons_zero]); (with_reducible refine hK _ ?_); clear hK K))))
  refine wpQuiet_nil ?_
  intro w1 hb1
  replace hb1 := (hC.out _).1 hb1
  clear hC C
  obtain ⟨hc1, hf1⟩ := bcell hb1
  go_wp2
  go_ret
  exact ⟨rfl, pt (pa pr) hb1⟩

set_option maxHeartbeats 4000000 in
set_option maxRecDepth 100000 in
theorem NameOf_21 (t s : Int) (r : Bool) (t2 s2 : Int) (r2 : Bool) (n : Int) (he : unitE 2 t s 1 t2 s2 n = 0) (c : Nat) (hc : c < 12) (hcl : (whV 2 s r - whV 1 s2 r2) % 12 = (c : Int)) (w : World) (hT : TwIn w) (hP : PatIn w) :
    Calls Tryz.prog 9 #[.agg #[.int .i64 2, .int .i64 t, .int .i64 s, .bool r, .int .i64 1, .int .i64 t2, .int .i64 s2, .bool r2, .int .i64 n]] w fun e w' => e = .returned (.tuple #[.string (nameV 90 100 (Lib.decDigits c).toArray), .int .i64 0]) ∧ Below w.heap.size w w' := by
  have HC := Lib.hid (checkUnit_any 2 t s r 1 t2 s2 r2 n)
  rw [he] at HC
  obtain ⟨u1, u2, _, _⟩ := unitE_ok r r2 he
  have HK := Lib.hid (clock_any 2 t s r 1 t2 s2 r2 n u1 u2)
  rw [hcl] at HK
  have HI := Lib.hid (itoa_any c hc)
  have hA := fun w => name_add 90 100 _ (dec_size hc) w
  have hg := hP.1
  have t8 := hP.2 8 (by decide)
  have t4 := hP.2 4 (by decide)
  simp only [patC, List.getD_cons_succ, List.getD_cons_zero] at t8 t4
  have HT := Lib.hid hT
  have HP := Lib.hid hP
  clear hT hP he u1 u2 hc hcl
  generalize (Lib.decDigits c).toArray = D at *
  go_enter Tryz.func9, Tryz.ntmps9
  go_wp2_with (go_at_call 13; refine (HC.out _).mono ?_; rintro e w2 ⟨rfl, hb2⟩; have P2 : Blk w2 w.heap.size 25 #[.int .i64 2, .int .i64 t, .int .i64 s, .bool r, .int .i64 1, .int .i64 t2, .int .i64 s2, .bool r2, .int .i64 n] := (Blk.newAt rfl).past hb2; have S2 := pt (pa pr) hb2; have p0 := P2.cellAt 0 rfl; have p1 := P2.cellAt 1 rfl; have p2 := P2.cellAt 2 rfl; have p3 := P2.cellAt 3 rfl; have p4 := P2.cellAt 4 rfl; have p5 := P2.cellAt 5 rfl; have p6 := P2.cellAt 6 rfl; have p7 := P2.cellAt 7 rfl; have p8 := P2.cellAt 8 rfl; have pl := P2.lt; have x8 := ((bcell S2).1 0 8 hg).trans t8; have x4 := ((bcell S2).1 0 4 hg).trans t4; have xl := Nat.lt_of_lt_of_le hg S2.size)
  refine region_below 18 follows_mixed (by kernel_rfl) ?_
  intro C hC
  simp only [List.take_succ_cons, List.take_zero, List.drop_succ_cons, List.drop_zero]
  repeat (first
    | ((with_reducible refine quiet_plain rfl (fun K hK => ?_)); (focus (apply quiet_val; (focus (intro w' hw; obtain ⟨hcq, hfq⟩ := bcell ((hC.out _).1 hw); go_simp; (first | done | rfl | (with_reducible exact call_below hC hw (up_2 _)) | (with_reducible exact call_below hC hw (HK.out _ (HT.out.below (pt S2 ((hC.out _).1 hw))) (HP.out.below (pt S2 ((hC.out _).1 hw))))) | (with_reducible exact call_same hw (HI.out _))))); (simp only [Act.put, List.setIfInBounds_toArray, List.set_cons_succ, List.set_cons_zero]); (with_reducible refine hK _ ?_); clear hK K)))
    | ((with_reducible refine quiet_skip ?_ ?_); (focus (first | (simp [Region.wanted, yielded]; done) | (simp [Region.wanted, yielded, undef]; done))); simp only [Act.put, List.setIfInBounds_toArray, List.set_cons_succ, List.set_cons_zero])
    | ((with_reducible refine quiet_go ?_ (fun K hK => ?_)); (focus (first | (simp [Region.wanted, yielded]; done) | (simp [Region.wanted, yielded, undef]; done))); (focus (apply quiet_val; (focus (intro w' hw; obtain ⟨hcq, hfq⟩ := bcell ((hC.out _).1 hw); go_simp; (first | done | rfl | (with_reducible exact call_below hC hw (up_2 _)) | (with_reducible exact call_below hC hw (HK.out _ (HT.out.below (pt S2 ((hC.out _).1 hw))) (HP.out.below (pt S2 ((hC.out _).1 hw))))) | (with_reducible exact call_same hw (HI.out _))))); (simp only [Act.put, List.setIfInBounds_toArray, List.set_cons_succ, List.set_cons_zero]); (with_reducible refine hK _ ?_); clear hK K))))
  refine wpQuiet_nil ?_
  intro w1 hb1
  replace hb1 := (hC.out _).1 hb1
  clear hC C
  obtain ⟨hc1, hf1⟩ := bcell hb1
  go_wp2
  go_ret2
  exact ⟨rfl, pt S2 hb1⟩

set_option maxHeartbeats 4000000 in
set_option maxRecDepth 100000 in
theorem refName_21 (t s : Int) (r : Bool) (t2 s2 : Int) (r2 : Bool) (n : Int) (he : unitE 2 t s 1 t2 s2 n = 0) (c : Nat) (hc : c < 12) (hcl : (whV 2 s r - whV 1 s2 r2) % 12 = (c : Int)) (w : World) :
    Calls Tryz.prog 16 #[.agg #[.int .i64 2, .int .i64 t, .int .i64 s, .bool r, .int .i64 1, .int .i64 t2, .int .i64 s2, .bool r2, .int .i64 n]] w fun e w' => e = .returned (.string (nameV 90 100 (Lib.decDigits c).toArray)) ∧ Below w.heap.size w w' := by
  obtain ⟨u1, u2, _, _⟩ := unitE_ok r r2 he
  have HK := Lib.hid (refClock_any 2 t s r 1 t2 s2 r2 n u1 u2)
  rw [hcl] at HK
  have HI := Lib.hid (decimal_any c hc)
  have hA := fun w => name_add 90 100 _ (dec_size hc) w
  clear he u1 u2 hc hcl
  generalize (Lib.decDigits c).toArray = D at *
  have x1 : (⟨#[89, 68, 90]⟩ : ByteArray).extract 2 3 = ⟨#[90]⟩ := by first | rfl | decide
  have x2 : (⟨#[121, 100, 122]⟩ : ByteArray).extract 1 2 = ⟨#[100]⟩ := by first | rfl | decide
  have z0 : IntKind.i64.wrap 1 = 1 := by decide
  have z1 : IntKind.i64.wrap 2 = 2 := by decide
  have z2 : IntKind.i64.wrap 3 = 3 := by decide
  go_enter Tryz.func16, Tryz.ntmps16
  go_wp2
  refine region_below 22 follows_mixed (by kernel_rfl) ?_
  intro C hC
  simp only [List.take_succ_cons, List.take_zero, List.drop_succ_cons, List.drop_zero]
  repeat (first
    | ((with_reducible refine quiet_plain rfl (fun K hK => ?_)); (focus (apply quiet_val; (focus (intro w' hw; obtain ⟨hcq, hfq⟩ := bcell ((hC.out _).1 hw); go_simp; (first | done | rfl | (with_reducible exact call_same hw (letters_any _)) | (with_reducible exact call_below hC hw (HK.out _)) | (with_reducible exact call_below hC hw (HI.out _))))); (simp only [Act.put, List.setIfInBounds_toArray, List.set_cons_succ, List.set_cons_zero]); (with_reducible refine hK _ ?_); clear hK K)))
    | ((with_reducible refine quiet_skip ?_ ?_); (focus (first | (simp [Region.wanted, yielded]; done) | (simp [Region.wanted, yielded, undef]; done))); simp only [Act.put, List.setIfInBounds_toArray, List.set_cons_succ, List.set_cons_zero])
    | ((with_reducible refine quiet_go ?_ (fun K hK => ?_)); (focus (first | (simp [Region.wanted, yielded]; done) | (simp [Region.wanted, yielded, undef]; done))); (focus (apply quiet_val; (focus (intro w' hw; obtain ⟨hcq, hfq⟩ := bcell ((hC.out _).1 hw); go_simp; (first | done | rfl | (with_reducible exact call_same hw (letters_any _)) | (with_reducible exact call_below hC hw (HK.out _)) | (with_reducible exact call_below hC hw (HI.out _))))); (simp only [Act.put, List.setIfInBounds_toArray, List.set_cons_succ, List.set_cons_zero]); (with_reducible refine hK _ ?_); clear hK K))))
  refine wpQuiet_nil ?_
  intro w1 hb1
  replace hb1 := (hC.out _).1 hb1
  clear hC C
  obtain ⟨hc1, hf1⟩ := bcell hb1
  go_wp2
  go_ret
  exact ⟨rfl, pt (pa pr) hb1⟩

set_option maxHeartbeats 4000000 in
set_option maxRecDepth 100000 in
theorem NameOf_22 (t s : Int) (r : Bool) (t2 s2 : Int) (r2 : Bool) (n : Int) (he : unitE 2 t s 2 t2 s2 n = 0) (c : Nat) (hc : c < 12) (hcl : (whV 2 s r - whV 2 s2 r2) % 12 = (c : Int)) (w : World) (hT : TwIn w) (hP : PatIn w) :
    Calls Tryz.prog 9 #[.agg #[.int .i64 2, .int .i64 t, .int .i64 s, .bool r, .int .i64 2, .int .i64 t2, .int .i64 s2, .bool r2, .int .i64 n]] w fun e w' => e = .returned (.tuple #[.string (nameV 90 122 (Lib.decDigits c).toArray), .int .i64 0]) ∧ Below w.heap.size w w' := by
  have HC := Lib.hid (checkUnit_any 2 t s r 2 t2 s2 r2 n)
  rw [he] at HC
  obtain ⟨u1, u2, _, _⟩ := unitE_ok r r2 he
  have HK := Lib.hid (clock_any 2 t s r 2 t2 s2 r2 n u1 u2)
  rw [hcl] at HK
  have HI := Lib.hid (itoa_any c hc)
  have hA := fun w => name_add 90 122 _ (dec_size hc) w
  have hg := hP.1
  have t8 := hP.2 8 (by decide)
  have t4 := hP.2 8 (by decide)
  simp only [patC, List.getD_cons_succ, List.getD_cons_zero] at t8 t4
  have HT := Lib.hid hT
  have HP := Lib.hid hP
  clear hT hP he u1 u2 hc hcl
  generalize (Lib.decDigits c).toArray = D at *
  go_enter Tryz.func9, Tryz.ntmps9
  go_wp2_with (go_at_call 13; refine (HC.out _).mono ?_; rintro e w2 ⟨rfl, hb2⟩; have P2 : Blk w2 w.heap.size 25 #[.int .i64 2, .int .i64 t, .int .i64 s, .bool r, .int .i64 2, .int .i64 t2, .int .i64 s2, .bool r2, .int .i64 n] := (Blk.newAt rfl).past hb2; have S2 := pt (pa pr) hb2; have p0 := P2.cellAt 0 rfl; have p1 := P2.cellAt 1 rfl; have p2 := P2.cellAt 2 rfl; have p3 := P2.cellAt 3 rfl; have p4 := P2.cellAt 4 rfl; have p5 := P2.cellAt 5 rfl; have p6 := P2.cellAt 6 rfl; have p7 := P2.cellAt 7 rfl; have p8 := P2.cellAt 8 rfl; have pl := P2.lt; have x8 := ((bcell S2).1 0 8 hg).trans t8; have x4 := ((bcell S2).1 0 8 hg).trans t4; have xl := Nat.lt_of_lt_of_le hg S2.size)
  refine region_below 18 follows_mixed (by kernel_rfl) ?_
  intro C hC
  simp only [List.take_succ_cons, List.take_zero, List.drop_succ_cons, List.drop_zero]
  repeat (first
    | ((with_reducible refine quiet_plain rfl (fun K hK => ?_)); (focus (apply quiet_val; (focus (intro w' hw; obtain ⟨hcq, hfq⟩ := bcell ((hC.out _).1 hw); go_simp; (first | done | rfl | (with_reducible exact call_below hC hw (up_2 _)) | (with_reducible exact call_below hC hw (HK.out _ (HT.out.below (pt S2 ((hC.out _).1 hw))) (HP.out.below (pt S2 ((hC.out _).1 hw))))) | (with_reducible exact call_same hw (HI.out _))))); (simp only [Act.put, List.setIfInBounds_toArray, List.set_cons_succ, List.set_cons_zero]); (with_reducible refine hK _ ?_); clear hK K)))
    | ((with_reducible refine quiet_skip ?_ ?_); (focus (first | (simp [Region.wanted, yielded]; done) | (simp [Region.wanted, yielded, undef]; done))); simp only [Act.put, List.setIfInBounds_toArray, List.set_cons_succ, List.set_cons_zero])
    | ((with_reducible refine quiet_go ?_ (fun K hK => ?_)); (focus (first | (simp [Region.wanted, yielded]; done) | (simp [Region.wanted, yielded, undef]; done))); (focus (apply quiet_val; (focus (intro w' hw; obtain ⟨hcq, hfq⟩ := bcell ((hC.out _).1 hw); go_simp; (first | done | rfl | (with_reducible exact call_below hC hw (up_2 _)) | (with_reducible exact call_below hC hw (HK.out _ (HT.out.below (pt S2 ((hC.out _).1 hw))) (HP.out.below (pt S2 ((hC.out _).1 hw))))) | (with_reducible exact call_same hw (HI.out _))))); (simp only [Act.put, List.setIfInBounds_toArray, List.set_cons_succ, List.set_cons_zero]); (with_reducible refine hK _ ?_); clear hK K))))
  refine wpQuiet_nil ?_
  intro w1 hb1
  replace hb1 := (hC.out _).1 hb1
  clear hC C
  obtain ⟨hc1, hf1⟩ := bcell hb1
  go_wp2
  go_ret2
  exact ⟨rfl, pt S2 hb1⟩

set_option maxHeartbeats 4000000 in
set_option maxRecDepth 100000 in
theorem refName_22 (t s : Int) (r : Bool) (t2 s2 : Int) (r2 : Bool) (n : Int) (he : unitE 2 t s 2 t2 s2 n = 0) (c : Nat) (hc : c < 12) (hcl : (whV 2 s r - whV 2 s2 r2) % 12 = (c : Int)) (w : World) :
    Calls Tryz.prog 16 #[.agg #[.int .i64 2, .int .i64 t, .int .i64 s, .bool r, .int .i64 2, .int .i64 t2, .int .i64 s2, .bool r2, .int .i64 n]] w fun e w' => e = .returned (.string (nameV 90 122 (Lib.decDigits c).toArray)) ∧ Below w.heap.size w w' := by
  obtain ⟨u1, u2, _, _⟩ := unitE_ok r r2 he
  have HK := Lib.hid (refClock_any 2 t s r 2 t2 s2 r2 n u1 u2)
  rw [hcl] at HK
  have HI := Lib.hid (decimal_any c hc)
  have hA := fun w => name_add 90 122 _ (dec_size hc) w
  clear he u1 u2 hc hcl
  generalize (Lib.decDigits c).toArray = D at *
  have x1 : (⟨#[89, 68, 90]⟩ : ByteArray).extract 2 3 = ⟨#[90]⟩ := by first | rfl | decide
  have x2 : (⟨#[121, 100, 122]⟩ : ByteArray).extract 2 3 = ⟨#[122]⟩ := by first | rfl | decide
  have z0 : IntKind.i64.wrap 1 = 1 := by decide
  have z1 : IntKind.i64.wrap 2 = 2 := by decide
  have z2 : IntKind.i64.wrap 3 = 3 := by decide
  go_enter Tryz.func16, Tryz.ntmps16
  go_wp2
  refine region_below 22 follows_mixed (by kernel_rfl) ?_
  intro C hC
  simp only [List.take_succ_cons, List.take_zero, List.drop_succ_cons, List.drop_zero]
  repeat (first
    | ((with_reducible refine quiet_plain rfl (fun K hK => ?_)); (focus (apply quiet_val; (focus (intro w' hw; obtain ⟨hcq, hfq⟩ := bcell ((hC.out _).1 hw); go_simp; (first | done | rfl | (with_reducible exact call_same hw (letters_any _)) | (with_reducible exact call_below hC hw (HK.out _)) | (with_reducible exact call_below hC hw (HI.out _))))); (simp only [Act.put, List.setIfInBounds_toArray, List.set_cons_succ, List.set_cons_zero]); (with_reducible refine hK _ ?_); clear hK K)))
    | ((with_reducible refine quiet_skip ?_ ?_); (focus (first | (simp [Region.wanted, yielded]; done) | (simp [Region.wanted, yielded, undef]; done))); simp only [Act.put, List.setIfInBounds_toArray, List.set_cons_succ, List.set_cons_zero])
    | ((with_reducible refine quiet_go ?_ (fun K hK => ?_)); (focus (first | (simp [Region.wanted, yielded]; done) | (simp [Region.wanted, yielded, undef]; done))); (focus (apply quiet_val; (focus (intro w' hw; obtain ⟨hcq, hfq⟩ := bcell ((hC.out _).1 hw); go_simp; (first | done | rfl | (with_reducible exact call_same hw (letters_any _)) | (with_reducible exact call_below hC hw (HK.out _)) | (with_reducible exact call_below hC hw (HI.out _))))); (simp only [Act.put, List.setIfInBounds_toArray, List.set_cons_succ, List.set_cons_zero]); (with_reducible refine hK _ ?_); clear hK K))))
  refine wpQuiet_nil ?_
  intro w1 hb1
  replace hb1 := (hC.out _).1 hb1
  clear hC C
  obtain ⟨hc1, hf1⟩ := bcell hb1
  go_wp2
  go_ret
  exact ⟨rfl, pt (pa pr) hb1⟩

end Go.Proofs.YtnhcamokcggnkaaGreatDoor
