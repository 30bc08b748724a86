/- Contracts of Tapped: the program's, and the specification's for a valid unit. Printed by a program (gen_tap.py). -/
import Derived.Test.YtnhcamokcggnkaaGreatDoorHKRatio
import Derived.Test.YtnhcamokcggnkaaGreatDoorHAStore
namespace Go.Proofs.YtnhcamokcggnkaaGreatDoor
open Go.RowKit
attribute [local go_sem ↓] Go.wp_at_zero Go.wp_at_succ
theorem tap_int_size : (Tryz.prog.info? 3).map (·.size) = some 1 := by kernel_rfl
def tapE (k t s k2 t2 s2 n tap : Int) : Int := firstV [unitE k t s k2 t2 s2 n, unlessV (withinB tap (-40) 40) 2]

set_option maxHeartbeats 4000000 in
set_option maxRecDepth 100000 in
theorem Tapped_bad (k t s : Int) (r : Bool) (k2 t2 s2 : Int) (r2 : Bool) (n tap : Int) (he : tapE k t s k2 t2 s2 n tap ≠ 0) (w : World) :
    Calls Tryz.prog 11 #[.agg #[.int .i64 k, .int .i64 t, .int .i64 s, .bool r, .int .i64 k2, .int .i64 t2, .int .i64 s2, .bool r2, .int .i64 n], .int .i64 tap] w fun z w' => z = .returned (.tuple #[.agg #[.int .i64 0, .int .i64 0, .int .i64 0, .bool false, .int .i64 0, .int .i64 0, .int .i64 0, .bool false, .int .i64 0], .int .i64 (tapE k t s k2 t2 s2 n tap)]) ∧ Below w.heap.size w w' := by
  have HC := Lib.hid (checkUnit_any k t s r k2 t2 s2 r2 n)
  have HE := Lib.hid (show firstV [unitE k t s k2 t2 s2 n, unlessV (withinB tap (-40) 40) 2] = tapE k t s k2 t2 s2 n tap from rfl)
  have h0 : (tapE k t s k2 t2 s2 n tap == 0) = false := by simpa using he
  have h1 : (tapE k t s k2 t2 s2 n tap != 0) = true := by simpa using he
  generalize tapE k t s k2 t2 s2 n tap = E at *
  generalize unitE k t s k2 t2 s2 n = a0 at *
  generalize hb : withinB tap (-40) 40 = b at *
  have hs := small_any tap 40 (by decide) (by decide)
  rw [hb] at hs
  have HS := Lib.hid hs
  have hu := unless_any b 2
  generalize unlessV b 2 = a1 at *
  have HU := Lib.hid hu
  clear hs hu hb he
  go_enter Tryz.func11, Tryz.ntmps11
  go_wp2_with (first
    | (go_at_call 13; (with_reducible refine (HC.out _).mono ?_); rintro e w1_ ⟨rfl, h1_⟩; have A_1 : Blk w1_ (w.heap.size) 25 #[.int .i64 k, .int .i64 t, .int .i64 s, .bool r, .int .i64 k2, .int .i64 t2, .int .i64 s2, .bool r2, .int .i64 n] := (Blk.newAt (by simp)).alloc.past h1_; have R_1 : Blk w1_ (w.heap.size + 1) 25 #[.int .i64 0, .int .i64 0, .int .i64 0, .bool false, .int .i64 0, .int .i64 0, .int .i64 0, .bool false, .int .i64 0] := (Blk.newAt (by simp)).past h1_; have ne_R_A : w.heap.size + 1 ≠ w.heap.size := (by omega); have ge_A : w.heap.size ≤ w.heap.size := (by omega); have ge_R : w.heap.size ≤ w.heap.size + 1 := (by omega); have S_1 := pt (pa (pa (pr))) h1_; have Ac0 := A_1.cellAt 0 rfl; have Ac1 := A_1.cellAt 1 rfl; have Ac2 := A_1.cellAt 2 rfl; have Ac3 := A_1.cellAt 3 rfl; have Ac4 := A_1.cellAt 4 rfl; have Ac5 := A_1.cellAt 5 rfl; have Ac6 := A_1.cellAt 6 rfl; have Ac7 := A_1.cellAt 7 rfl; have Ac8 := A_1.cellAt 8 rfl; have Al := A_1.lt; have Rc0 := R_1.cellAt 0 rfl; have Rc1 := R_1.cellAt 1 rfl; have Rc2 := R_1.cellAt 2 rfl; have Rc3 := R_1.cellAt 3 rfl; have Rc4 := R_1.cellAt 4 rfl; have Rc5 := R_1.cellAt 5 rfl; have Rc6 := R_1.cellAt 6 rfl; have Rc7 := R_1.cellAt 7 rfl; have Rc8 := R_1.cellAt 8 rfl; have Rl := R_1.lt; clear h1_)
    | (go_at_call 50; (with_reducible refine (HS.out _).mono ?_); rintro e w' ⟨rfl, rfl⟩)
    | (go_at_call 49; (with_reducible refine (HU.out _).mono ?_); rintro e w' ⟨rfl, rfl⟩)
    | (go_at_call 48; (with_reducible refine (gfirst2 _ _ _ _ _ (by first | (go_simp; done) | (go_simp; rfl)) (by first | (go_simp; done) | (go_simp; rfl)) _ HE.out).mono ?_); rintro e w' ⟨rfl, rfl⟩)
    | ((with_reducible refine store_sub (T := 25) (x := .tmp 4) (y := .tmp 17) (o := 0) (cs' := #[.int .i64 0, .int .i64 0, .int .i64 0, .bool false, .int .i64 0, .int .i64 0, .int .i64 0, .bool false, .int .i64 0]) (vs := #[.int .i64 0, .int .i64 0, .int .i64 0, .bool false, .int .i64 0, .int .i64 0, .int .i64 0, .bool false, .int .i64 0]) (show Blk _ (w.heap.size + 1) 25 #[.int .i64 0, .int .i64 0, .int .i64 0, .bool false, .int .i64 0, .int .i64 0, .int .i64 0, .bool false, .int .i64 0] from (R_1.alloc)) ?_ ?_ ?_ ?_ ?_ ?_ ?_); (focus rfl); (focus rfl); (focus rfl); (focus exact Nat.le_of_ble_eq_true rfl); (focus exact apiUnit_size); (focus (simp [Value.oneCell']; done)); intro w4_ b4_ h4_; have A_4 : Blk w4_ (w.heap.size) 25 #[.int .i64 k, .int .i64 t, .int .i64 s, .bool r, .int .i64 k2, .int .i64 t2, .int .i64 s2, .bool r2, .int .i64 n] := (A_1.alloc).put h4_ (Ne.symm ne_R_A); have R_4 : Blk w4_ (w.heap.size + 1) 25 #[.int .i64 0, .int .i64 0, .int .i64 0, .bool false, .int .i64 0, .int .i64 0, .int .i64 0, .bool false, .int .i64 0] := b4_; have B_4 : Blk w4_ (w1_.heap.size) 27 #[.int .i64 a0, .int .i64 a1] := (Blk.newAt (by simp)).put h4_ (by omega); have ne_A_B : w.heap.size ≠ w1_.heap.size := (by have := A_1.lt; omega); have ne_R_B : w.heap.size + 1 ≠ w1_.heap.size := (by have := R_1.lt; omega); have S_4 := pp (pa (S_1)) h4_ ge_R; clear A_1 R_1 S_1 Ac0 Ac1 Ac2 Ac3 Ac4 Ac5 Ac6 Ac7 Ac8 Al Rc0 Rc1 Rc2 Rc3 Rc4 Rc5 Rc6 Rc7 Rc8 Rl; clear h4_ b4_))
  have z0 := R_4.cellAt 0 rfl
  have z1 := R_4.cellAt 1 rfl
  have z2 := R_4.cellAt 2 rfl
  have z3 := R_4.cellAt 3 rfl
  have z4 := R_4.cellAt 4 rfl
  have z5 := R_4.cellAt 5 rfl
  have z6 := R_4.cellAt 6 rfl
  have z7 := R_4.cellAt 7 rfl
  have z8 := R_4.cellAt 8 rfl
  exact bodyPost_ret (v := .tuple #[.agg #[.int .i64 0, .int .i64 0, .int .i64 0, .bool false, .int .i64 0, .int .i64 0, .int .i64 0, .bool false, .int .i64 0], .int .i64 E]) (by simp [results, Tryz.results11, go_sem, z0, z1, z2, z3, z4, z5, z6, z7, z8]) rfl ⟨rfl, S_4⟩

set_option maxHeartbeats 4000000 in
set_option maxRecDepth 100000 in
theorem Tapped_err (k t s : Int) (r : Bool) (k2 t2 s2 : Int) (r2 : Bool) (n tap : Int) (m T : Int) (he : tapE k t s k2 t2 s2 n tap = 0) (hm : IntKind.i64.wrap (tap * n) = m) (hT : IntKind.i64.wrap (t + m) = T) (hz : unitE k T s k2 t2 s2 n ≠ 0) (w : World) :
    Calls Tryz.prog 11 #[.agg #[.int .i64 k, .int .i64 t, .int .i64 s, .bool r, .int .i64 k2, .int .i64 t2, .int .i64 s2, .bool r2, .int .i64 n], .int .i64 tap] w fun z w' => z = .returned (.tuple #[.agg #[.int .i64 0, .int .i64 0, .int .i64 0, .bool false, .int .i64 0, .int .i64 0, .int .i64 0, .bool false, .int .i64 0], .int .i64 (unitE k T s k2 t2 s2 n)]) ∧ Below w.heap.size w w' := by
  have HC := Lib.hid (checkUnit_any k t s r k2 t2 s2 r2 n)
  have HD := Lib.hid (checkUnit_any k T s r k2 t2 s2 r2 n)
  obtain ⟨e1, e2⟩ := firstV_zero.1 (show firstV [unitE k t s k2 t2 s2 n, unlessV (withinB tap (-40) 40) 2] = 0 from he)
  have e3 := (firstV_zero.1 e2).1
  have hb : withinB tap (-40) 40 = true := (unless_ne (by decide)).1 e3
  rw [e1] at HC
  have hs := small_any tap 40 (by decide) (by decide)
  rw [hb] at hs
  have HS := Lib.hid hs
  have HU := Lib.hid (unless_any true 2)
  have HE := Lib.hid (show firstV [0, unlessV true 2] = 0 from rfl)
  clear hs hb he e1 e2 e3
  have h0 : (unitE k T s k2 t2 s2 n == 0) = false := by simpa using hz
  have h1 : (unitE k T s k2 t2 s2 n != 0) = true := by simpa using hz
  generalize unitE k T s k2 t2 s2 n = E at *
  clear hz
  go_enter Tryz.func11, Tryz.ntmps11
  go_wp2_with (first
    | (go_at_call 13; (with_reducible refine (HC.out _).mono ?_); rintro e w1_ ⟨rfl, h1_⟩; have A_1 : Blk w1_ (w.heap.size) 25 #[.int .i64 k, .int .i64 t, .int .i64 s, .bool r, .int .i64 k2, .int .i64 t2, .int .i64 s2, .bool r2, .int .i64 n] := (Blk.newAt (by simp)).alloc.past h1_; have R_1 : Blk w1_ (w.heap.size + 1) 25 #[.int .i64 0, .int .i64 0, .int .i64 0, .bool false, .int .i64 0, .int .i64 0, .int .i64 0, .bool false, .int .i64 0] := (Blk.newAt (by simp)).past h1_; have ne_R_A : w.heap.size + 1 ≠ w.heap.size := (by omega); have ge_A : w.heap.size ≤ w.heap.size := (by omega); have ge_R : w.heap.size ≤ w.heap.size + 1 := (by omega); have S_1 := pt (pa (pa (pr))) h1_; have Ac0 := A_1.cellAt 0 rfl; have Ac1 := A_1.cellAt 1 rfl; have Ac2 := A_1.cellAt 2 rfl; have Ac3 := A_1.cellAt 3 rfl; have Ac4 := A_1.cellAt 4 rfl; have Ac5 := A_1.cellAt 5 rfl; have Ac6 := A_1.cellAt 6 rfl; have Ac7 := A_1.cellAt 7 rfl; have Ac8 := A_1.cellAt 8 rfl; have Al := A_1.lt; have Rc0 := R_1.cellAt 0 rfl; have Rc1 := R_1.cellAt 1 rfl; have Rc2 := R_1.cellAt 2 rfl; have Rc3 := R_1.cellAt 3 rfl; have Rc4 := R_1.cellAt 4 rfl; have Rc5 := R_1.cellAt 5 rfl; have Rc6 := R_1.cellAt 6 rfl; have Rc7 := R_1.cellAt 7 rfl; have Rc8 := R_1.cellAt 8 rfl; have Rl := R_1.lt; clear h1_)
    | (go_at_call 50; (with_reducible refine (HS.out _).mono ?_); rintro e w' ⟨rfl, rfl⟩)
    | (go_at_call 49; (with_reducible refine (HU.out _).mono ?_); rintro e w' ⟨rfl, rfl⟩)
    | (go_at_call 48; (with_reducible refine (gfirst2 _ _ _ _ _ (by first | (go_simp; done) | (go_simp; rfl)) (by first | (go_simp; done) | (go_simp; rfl)) _ HE.out).mono ?_); rintro e w' ⟨rfl, rfl⟩)
    | ((with_reducible refine store_sub (T := 3) (x := .tmp 28) (y := .tmp 26) (o := 1) (cs' := #[.int .i64 k, .int .i64 T, .int .i64 s, .bool r, .int .i64 k2, .int .i64 t2, .int .i64 s2, .bool r2, .int .i64 n]) (vs := #[.int .i64 T]) (show Blk _ (w.heap.size) 25 #[.int .i64 k, .int .i64 t, .int .i64 s, .bool r, .int .i64 k2, .int .i64 t2, .int .i64 s2, .bool r2, .int .i64 n] from (A_1.alloc)) ?_ ?_ ?_ ?_ ?_ ?_ ?_); (focus rfl); (focus rfl); (focus rfl); (focus exact Nat.le_of_ble_eq_true rfl); (focus exact tap_int_size); (focus (simp [Value.oneCell']; done)); intro w4_ b4_ h4_; have A_4 : Blk w4_ (w.heap.size) 25 #[.int .i64 k, .int .i64 T, .int .i64 s, .bool r, .int .i64 k2, .int .i64 t2, .int .i64 s2, .bool r2, .int .i64 n] := b4_; have R_4 : Blk w4_ (w.heap.size + 1) 25 #[.int .i64 0, .int .i64 0, .int .i64 0, .bool false, .int .i64 0, .int .i64 0, .int .i64 0, .bool false, .int .i64 0] := (R_1.alloc).put h4_ ne_R_A; have B_4 : Blk w4_ (w1_.heap.size) 27 #[.int .i64 0, .int .i64 (unlessV true 2)] := (Blk.newAt (by simp)).put h4_ (by omega); have ne_A_B : w.heap.size ≠ w1_.heap.size := (by have := A_1.lt; omega); have ne_R_B : w.heap.size + 1 ≠ w1_.heap.size := (by have := R_1.lt; omega); have S_4 := pp (pa (S_1)) h4_ ge_A; clear A_1 R_1 S_1 Ac0 Ac1 Ac2 Ac3 Ac4 Ac5 Ac6 Ac7 Ac8 Al Rc0 Rc1 Rc2 Rc3 Rc4 Rc5 Rc6 Rc7 Rc8 Rl; clear h4_ b4_)
    | ((with_reducible refine load_sub (T := 25) (x := .tmp 2) (o := 0) (vs := #[.int .i64 k, .int .i64 T, .int .i64 s, .bool r, .int .i64 k2, .int .i64 t2, .int .i64 s2, .bool r2, .int .i64 n]) (show Blk _ (w.heap.size) 25 #[.int .i64 k, .int .i64 T, .int .i64 s, .bool r, .int .i64 k2, .int .i64 t2, .int .i64 s2, .bool r2, .int .i64 n] from (A_4)) ?_ ?_ Tryz.underlying25 ?_ ?_ ?_); (focus rfl); (focus rfl); (focus rfl); (focus exact apiUnit_size))
    | (go_at_call 13; (with_reducible refine (HD.out _).mono ?_); rintro e w5_ ⟨rfl, h5_⟩; have A_5 : Blk w5_ (w.heap.size) 25 #[.int .i64 k, .int .i64 T, .int .i64 s, .bool r, .int .i64 k2, .int .i64 t2, .int .i64 s2, .bool r2, .int .i64 n] := (A_4).past h5_; have R_5 : Blk w5_ (w.heap.size + 1) 25 #[.int .i64 0, .int .i64 0, .int .i64 0, .bool false, .int .i64 0, .int .i64 0, .int .i64 0, .bool false, .int .i64 0] := (R_4).past h5_; have B_5 : Blk w5_ (w1_.heap.size) 27 #[.int .i64 0, .int .i64 (unlessV true 2)] := (B_4).past h5_; have S_5 := pt (S_4) h5_; clear A_4 R_4 B_4 S_4; clear h5_)
    | ((with_reducible refine store_sub (T := 25) (x := .tmp 4) (y := .tmp 33) (o := 0) (cs' := #[.int .i64 0, .int .i64 0, .int .i64 0, .bool false, .int .i64 0, .int .i64 0, .int .i64 0, .bool false, .int .i64 0]) (vs := #[.int .i64 0, .int .i64 0, .int .i64 0, .bool false, .int .i64 0, .int .i64 0, .int .i64 0, .bool false, .int .i64 0]) (show Blk _ (w.heap.size + 1) 25 #[.int .i64 0, .int .i64 0, .int .i64 0, .bool false, .int .i64 0, .int .i64 0, .int .i64 0, .bool false, .int .i64 0] from (R_5)) ?_ ?_ ?_ ?_ ?_ ?_ ?_); (focus rfl); (focus rfl); (focus rfl); (focus exact Nat.le_of_ble_eq_true rfl); (focus exact apiUnit_size); (focus (simp [Value.oneCell']; done)); intro w6_ b6_ h6_; have A_6 : Blk w6_ (w.heap.size) 25 #[.int .i64 k, .int .i64 T, .int .i64 s, .bool r, .int .i64 k2, .int .i64 t2, .int .i64 s2, .bool r2, .int .i64 n] := (A_5).put h6_ (Ne.symm ne_R_A); have R_6 : Blk w6_ (w.heap.size + 1) 25 #[.int .i64 0, .int .i64 0, .int .i64 0, .bool false, .int .i64 0, .int .i64 0, .int .i64 0, .bool false, .int .i64 0] := b6_; have B_6 : Blk w6_ (w1_.heap.size) 27 #[.int .i64 0, .int .i64 (unlessV true 2)] := (B_5).put h6_ (Ne.symm ne_R_B); have S_6 := pp (S_5) h6_ ge_R; clear A_5 R_5 B_5 S_5; clear h6_ b6_))
  have z0 := R_6.cellAt 0 rfl
  have z1 := R_6.cellAt 1 rfl
  have z2 := R_6.cellAt 2 rfl
  have z3 := R_6.cellAt 3 rfl
  have z4 := R_6.cellAt 4 rfl
  have z5 := R_6.cellAt 5 rfl
  have z6 := R_6.cellAt 6 rfl
  have z7 := R_6.cellAt 7 rfl
  have z8 := R_6.cellAt 8 rfl
  exact bodyPost_ret (v := .tuple #[.agg #[.int .i64 0, .int .i64 0, .int .i64 0, .bool false, .int .i64 0, .int .i64 0, .int .i64 0, .bool false, .int .i64 0], .int .i64 E]) (by simp [results, Tryz.results11, go_sem, z0, z1, z2, z3, z4, z5, z6, z7, z8]) rfl ⟨rfl, S_6⟩

set_option maxHeartbeats 4000000 in
set_option maxRecDepth 100000 in
theorem Tapped_ok (k t s : Int) (r : Bool) (k2 t2 s2 : Int) (r2 : Bool) (n tap : Int) (m T : Int) (he : tapE k t s k2 t2 s2 n tap = 0) (hm : IntKind.i64.wrap (tap * n) = m) (hT : IntKind.i64.wrap (t + m) = T) (hz : unitE k T s k2 t2 s2 n = 0) (w : World) :
    Calls Tryz.prog 11 #[.agg #[.int .i64 k, .int .i64 t, .int .i64 s, .bool r, .int .i64 k2, .int .i64 t2, .int .i64 s2, .bool r2, .int .i64 n], .int .i64 tap] w fun z w' => z = .returned (.tuple #[.agg #[.int .i64 k, .int .i64 T, .int .i64 s, .bool r, .int .i64 k2, .int .i64 t2, .int .i64 s2, .bool r2, .int .i64 n], .int .i64 0]) ∧ Below w.heap.size w w' := by
  have HC := Lib.hid (checkUnit_any k t s r k2 t2 s2 r2 n)
  have HD := Lib.hid (checkUnit_any k T s r k2 t2 s2 r2 n)
  obtain ⟨e1, e2⟩ := firstV_zero.1 (show firstV [unitE k t s k2 t2 s2 n, unlessV (withinB tap (-40) 40) 2] = 0 from he)
  have e3 := (firstV_zero.1 e2).1
  have hb : withinB tap (-40) 40 = true := (unless_ne (by decide)).1 e3
  rw [e1] at HC
  have hs := small_any tap 40 (by decide) (by decide)
  rw [hb] at hs
  have HS := Lib.hid hs
  have HU := Lib.hid (unless_any true 2)
  have HE := Lib.hid (show firstV [0, unlessV true 2] = 0 from rfl)
  clear hs hb he e1 e2 e3
  rw [hz] at HD
  clear hz
  go_enter Tryz.func11, Tryz.ntmps11
  go_wp2_with (first
    | (go_at_call 13; (with_reducible refine (HC.out _).mono ?_); rintro e w1_ ⟨rfl, h1_⟩; have A_1 : Blk w1_ (w.heap.size) 25 #[.int .i64 k, .int .i64 t, .int .i64 s, .bool r, .int .i64 k2, .int .i64 t2, .int .i64 s2, .bool r2, .int .i64 n] := (Blk.newAt (by simp)).alloc.past h1_; have R_1 : Blk w1_ (w.heap.size + 1) 25 #[.int .i64 0, .int .i64 0, .int .i64 0, .bool false, .int .i64 0, .int .i64 0, .int .i64 0, .bool false, .int .i64 0] := (Blk.newAt (by simp)).past h1_; have ne_R_A : w.heap.size + 1 ≠ w.heap.size := (by omega); have ge_A : w.heap.size ≤ w.heap.size := (by omega); have ge_R : w.heap.size ≤ w.heap.size + 1 := (by omega); have S_1 := pt (pa (pa (pr))) h1_; have Ac0 := A_1.cellAt 0 rfl; have Ac1 := A_1.cellAt 1 rfl; have Ac2 := A_1.cellAt 2 rfl; have Ac3 := A_1.cellAt 3 rfl; have Ac4 := A_1.cellAt 4 rfl; have Ac5 := A_1.cellAt 5 rfl; have Ac6 := A_1.cellAt 6 rfl; have Ac7 := A_1.cellAt 7 rfl; have Ac8 := A_1.cellAt 8 rfl; have Al := A_1.lt; have Rc0 := R_1.cellAt 0 rfl; have Rc1 := R_1.cellAt 1 rfl; have Rc2 := R_1.cellAt 2 rfl; have Rc3 := R_1.cellAt 3 rfl; have Rc4 := R_1.cellAt 4 rfl; have Rc5 := R_1.cellAt 5 rfl; have Rc6 := R_1.cellAt 6 rfl; have Rc7 := R_1.cellAt 7 rfl; have Rc8 := R_1.cellAt 8 rfl; have Rl := R_1.lt; clear h1_)
    | (go_at_call 50; (with_reducible refine (HS.out _).mono ?_); rintro e w' ⟨rfl, rfl⟩)
    | (go_at_call 49; (with_reducible refine (HU.out _).mono ?_); rintro e w' ⟨rfl, rfl⟩)
    | (go_at_call 48; (with_reducible refine (gfirst2 _ _ _ _ _ (by first | (go_simp; done) | (go_simp; rfl)) (by first | (go_simp; done) | (go_simp; rfl)) _ HE.out).mono ?_); rintro e w' ⟨rfl, rfl⟩)
    | ((with_reducible refine store_sub (T := 3) (x := .tmp 28) (y := .tmp 26) (o := 1) (cs' := #[.int .i64 k, .int .i64 T, .int .i64 s, .bool r, .int .i64 k2, .int .i64 t2, .int .i64 s2, .bool r2, .int .i64 n]) (vs := #[.int .i64 T]) (show Blk _ (w.heap.size) 25 #[.int .i64 k, .int .i64 t, .int .i64 s, .bool r, .int .i64 k2, .int .i64 t2, .int .i64 s2, .bool r2, .int .i64 n] from (A_1.alloc)) ?_ ?_ ?_ ?_ ?_ ?_ ?_); (focus rfl); (focus rfl); (focus rfl); (focus exact Nat.le_of_ble_eq_true rfl); (focus exact tap_int_size); (focus (simp [Value.oneCell']; done)); intro w4_ b4_ h4_; have A_4 : Blk w4_ (w.heap.size) 25 #[.int .i64 k, .int .i64 T, .int .i64 s, .bool r, .int .i64 k2, .int .i64 t2, .int .i64 s2, .bool r2, .int .i64 n] := b4_; have R_4 : Blk w4_ (w.heap.size + 1) 25 #[.int .i64 0, .int .i64 0, .int .i64 0, .bool false, .int .i64 0, .int .i64 0, .int .i64 0, .bool false, .int .i64 0] := (R_1.alloc).put h4_ ne_R_A; have B_4 : Blk w4_ (w1_.heap.size) 27 #[.int .i64 0, .int .i64 (unlessV true 2)] := (Blk.newAt (by simp)).put h4_ (by omega); have ne_A_B : w.heap.size ≠ w1_.heap.size := (by have := A_1.lt; omega); have ne_R_B : w.heap.size + 1 ≠ w1_.heap.size := (by have := R_1.lt; omega); have S_4 := pp (pa (S_1)) h4_ ge_A; clear A_1 R_1 S_1 Ac0 Ac1 Ac2 Ac3 Ac4 Ac5 Ac6 Ac7 Ac8 Al Rc0 Rc1 Rc2 Rc3 Rc4 Rc5 Rc6 Rc7 Rc8 Rl; clear h4_ b4_)
    | ((with_reducible refine load_sub (T := 25) (x := .tmp 2) (o := 0) (vs := #[.int .i64 k, .int .i64 T, .int .i64 s, .bool r, .int .i64 k2, .int .i64 t2, .int .i64 s2, .bool r2, .int .i64 n]) (show Blk _ (w.heap.size) 25 #[.int .i64 k, .int .i64 T, .int .i64 s, .bool r, .int .i64 k2, .int .i64 t2, .int .i64 s2, .bool r2, .int .i64 n] from (A_4)) ?_ ?_ Tryz.underlying25 ?_ ?_ ?_); (focus rfl); (focus rfl); (focus rfl); (focus exact apiUnit_size))
    | (go_at_call 13; (with_reducible refine (HD.out _).mono ?_); rintro e w5_ ⟨rfl, h5_⟩; have A_5 : Blk w5_ (w.heap.size) 25 #[.int .i64 k, .int .i64 T, .int .i64 s, .bool r, .int .i64 k2, .int .i64 t2, .int .i64 s2, .bool r2, .int .i64 n] := (A_4).past h5_; have R_5 : Blk w5_ (w.heap.size + 1) 25 #[.int .i64 0, .int .i64 0, .int .i64 0, .bool false, .int .i64 0, .int .i64 0, .int .i64 0, .bool false, .int .i64 0] := (R_4).past h5_; have B_5 : Blk w5_ (w1_.heap.size) 27 #[.int .i64 0, .int .i64 (unlessV true 2)] := (B_4).past h5_; have S_5 := pt (S_4) h5_; clear A_4 R_4 B_4 S_4; clear h5_)
    | ((with_reducible refine load_sub (T := 25) (x := .tmp 2) (o := 0) (vs := #[.int .i64 k, .int .i64 T, .int .i64 s, .bool r, .int .i64 k2, .int .i64 t2, .int .i64 s2, .bool r2, .int .i64 n]) (show Blk _ (w.heap.size) 25 #[.int .i64 k, .int .i64 T, .int .i64 s, .bool r, .int .i64 k2, .int .i64 t2, .int .i64 s2, .bool r2, .int .i64 n] from (A_5)) ?_ ?_ Tryz.underlying25 ?_ ?_ ?_); (focus rfl); (focus rfl); (focus rfl); (focus exact apiUnit_size))
    | ((with_reducible refine store_sub (T := 25) (x := .tmp 4) (y := .tmp 35) (o := 0) (cs' := #[.int .i64 k, .int .i64 T, .int .i64 s, .bool r, .int .i64 k2, .int .i64 t2, .int .i64 s2, .bool r2, .int .i64 n]) (vs := #[.int .i64 k, .int .i64 T, .int .i64 s, .bool r, .int .i64 k2, .int .i64 t2, .int .i64 s2, .bool r2, .int .i64 n]) (show Blk _ (w.heap.size + 1) 25 #[.int .i64 0, .int .i64 0, .int .i64 0, .bool false, .int .i64 0, .int .i64 0, .int .i64 0, .bool false, .int .i64 0] from (R_5)) ?_ ?_ ?_ ?_ ?_ ?_ ?_); (focus rfl); (focus rfl); (focus rfl); (focus exact Nat.le_of_ble_eq_true rfl); (focus exact apiUnit_size); (focus (simp [Value.oneCell']; done)); intro w6_ b6_ h6_; have A_6 : Blk w6_ (w.heap.size) 25 #[.int .i64 k, .int .i64 T, .int .i64 s, .bool r, .int .i64 k2, .int .i64 t2, .int .i64 s2, .bool r2, .int .i64 n] := (A_5).put h6_ (Ne.symm ne_R_A); have R_6 : Blk w6_ (w.heap.size + 1) 25 #[.int .i64 k, .int .i64 T, .int .i64 s, .bool r, .int .i64 k2, .int .i64 t2, .int .i64 s2, .bool r2, .int .i64 n] := b6_; have B_6 : Blk w6_ (w1_.heap.size) 27 #[.int .i64 0, .int .i64 (unlessV true 2)] := (B_5).put h6_ (Ne.symm ne_R_B); have S_6 := pp (S_5) h6_ ge_R; clear A_5 R_5 B_5 S_5; clear h6_ b6_))
  have z0 := R_6.cellAt 0 rfl
  have z1 := R_6.cellAt 1 rfl
  have z2 := R_6.cellAt 2 rfl
  have z3 := R_6.cellAt 3 rfl
  have z4 := R_6.cellAt 4 rfl
  have z5 := R_6.cellAt 5 rfl
  have z6 := R_6.cellAt 6 rfl
  have z7 := R_6.cellAt 7 rfl
  have z8 := R_6.cellAt 8 rfl
  exact bodyPost_ret (v := .tuple #[.agg #[.int .i64 k, .int .i64 T, .int .i64 s, .bool r, .int .i64 k2, .int .i64 t2, .int .i64 s2, .bool r2, .int .i64 n], .int .i64 0]) (by simp [results, Tryz.results11, go_sem, z0, z1, z2, z3, z4, z5, z6, z7, z8]) rfl ⟨rfl, S_6⟩

set_option maxHeartbeats 4000000 in
set_option maxRecDepth 100000 in
theorem refTapped_bad (k t s : Int) (r : Bool) (k2 t2 s2 : Int) (r2 : Bool) (n tap : Int) (hb : withinB tap (-40) 40 = false) (w : World) :
    Calls Tryz.prog 14 #[.agg #[.int .i64 k, .int .i64 t, .int .i64 s, .bool r, .int .i64 k2, .int .i64 t2, .int .i64 s2, .bool r2, .int .i64 n], .int .i64 tap] w fun z w' => z = .returned (.tuple #[.agg #[.int .i64 0, .int .i64 0, .int .i64 0, .bool false, .int .i64 0, .int .i64 0, .int .i64 0, .bool false, .int .i64 0], .int .i64 2]) ∧ Below w.heap.size w w' := by
  have hw := refWithin_any tap (-40) 40
  rw [hb] at hw
  have HW := Lib.hid hw
  clear hw hb
  go_enter Tryz.func14, Tryz.ntmps14
  go_wp2_with (first
    | (go_at_call 33; (with_reducible refine (HW.out _).mono ?_); rintro e w' ⟨rfl, rfl⟩)
    | ((with_reducible refine store_sub (T := 25) (x := .tmp 4) (y := .tmp 10) (o := 0) (cs' := #[.int .i64 0, .int .i64 0, .int .i64 0, .bool false, .int .i64 0, .int .i64 0, .int .i64 0, .bool false, .int .i64 0]) (vs := #[.int .i64 0, .int .i64 0, .int .i64 0, .bool false, .int .i64 0, .int .i64 0, .int .i64 0, .bool false, .int .i64 0]) (show Blk _ (w.heap.size + 1) 25 #[.int .i64 0, .int .i64 0, .int .i64 0, .bool false, .int .i64 0, .int .i64 0, .int .i64 0, .bool false, .int .i64 0] from (Blk.newAt (by simp))) ?_ ?_ ?_ ?_ ?_ ?_ ?_); (focus rfl); (focus rfl); (focus rfl); (focus exact Nat.le_of_ble_eq_true rfl); (focus exact apiUnit_size); (focus (simp [Value.oneCell']; done)); intro w2_ b2_ h2_; have A_2 : Blk w2_ (w.heap.size) 25 #[.int .i64 k, .int .i64 t, .int .i64 s, .bool r, .int .i64 k2, .int .i64 t2, .int .i64 s2, .bool r2, .int .i64 n] := (Blk.newAt (by simp)).alloc.put h2_ (by omega); have R_2 : Blk w2_ (w.heap.size + 1) 25 #[.int .i64 0, .int .i64 0, .int .i64 0, .bool false, .int .i64 0, .int .i64 0, .int .i64 0, .bool false, .int .i64 0] := b2_; have ne_R_A : w.heap.size + 1 ≠ w.heap.size := (by omega); have ge_A : w.heap.size ≤ w.heap.size := (by omega); have ge_R : w.heap.size ≤ w.heap.size + 1 := (by omega); have S_2 := pp (pa (pa (pr))) h2_ (by omega); clear h2_ b2_))
  have z0 := R_2.cellAt 0 rfl
  have z1 := R_2.cellAt 1 rfl
  have z2 := R_2.cellAt 2 rfl
  have z3 := R_2.cellAt 3 rfl
  have z4 := R_2.cellAt 4 rfl
  have z5 := R_2.cellAt 5 rfl
  have z6 := R_2.cellAt 6 rfl
  have z7 := R_2.cellAt 7 rfl
  have z8 := R_2.cellAt 8 rfl
  exact bodyPost_ret (v := .tuple #[.agg #[.int .i64 0, .int .i64 0, .int .i64 0, .bool false, .int .i64 0, .int .i64 0, .int .i64 0, .bool false, .int .i64 0], .int .i64 2]) (by simp [results, Tryz.results14, go_sem, z0, z1, z2, z3, z4, z5, z6, z7, z8]) rfl ⟨rfl, S_2⟩

set_option maxHeartbeats 4000000 in
set_option maxRecDepth 100000 in
theorem refTapped_err (k t s : Int) (r : Bool) (k2 t2 s2 : Int) (r2 : Bool) (n tap : Int) (m T : Int) (hb : withinB tap (-40) 40 = true) (hm : IntKind.i64.wrap (tap * n) = m) (hT : IntKind.i64.wrap (t + m) = T) (hz : unitE k T s k2 t2 s2 n ≠ 0) (w : World) :
    Calls Tryz.prog 14 #[.agg #[.int .i64 k, .int .i64 t, .int .i64 s, .bool r, .int .i64 k2, .int .i64 t2, .int .i64 s2, .bool r2, .int .i64 n], .int .i64 tap] w fun z w' => z = .returned (.tuple #[.agg #[.int .i64 0, .int .i64 0, .int .i64 0, .bool false, .int .i64 0, .int .i64 0, .int .i64 0, .bool false, .int .i64 0], .int .i64 (unitE k T s k2 t2 s2 n)]) ∧ Below w.heap.size w w' := by
  have hw := refWithin_any tap (-40) 40
  rw [hb] at hw
  have HW := Lib.hid hw
  have HD := Lib.hid (refUnitErr_any k T s r k2 t2 s2 r2 n)
  clear hw hb
  have h0 : (unitE k T s k2 t2 s2 n == 0) = false := by simpa using hz
  have h1 : (unitE k T s k2 t2 s2 n != 0) = true := by simpa using hz
  generalize unitE k T s k2 t2 s2 n = E at *
  clear hz
  go_enter Tryz.func14, Tryz.ntmps14
  go_wp2_with (first
    | (go_at_call 33; (with_reducible refine (HW.out _).mono ?_); rintro e w' ⟨rfl, rfl⟩)
    | ((with_reducible refine store_sub (T := 3) (x := .tmp 20) (y := .tmp 18) (o := 1) (cs' := #[.int .i64 k, .int .i64 T, .int .i64 s, .bool r, .int .i64 k2, .int .i64 t2, .int .i64 s2, .bool r2, .int .i64 n]) (vs := #[.int .i64 T]) (show Blk _ (w.heap.size) 25 #[.int .i64 k, .int .i64 t, .int .i64 s, .bool r, .int .i64 k2, .int .i64 t2, .int .i64 s2, .bool r2, .int .i64 n] from (Blk.newAt (by simp)).alloc) ?_ ?_ ?_ ?_ ?_ ?_ ?_); (focus rfl); (focus rfl); (focus rfl); (focus exact Nat.le_of_ble_eq_true rfl); (focus exact tap_int_size); (focus (simp [Value.oneCell']; done)); intro w2_ b2_ h2_; have A_2 : Blk w2_ (w.heap.size) 25 #[.int .i64 k, .int .i64 T, .int .i64 s, .bool r, .int .i64 k2, .int .i64 t2, .int .i64 s2, .bool r2, .int .i64 n] := b2_; have R_2 : Blk w2_ (w.heap.size + 1) 25 #[.int .i64 0, .int .i64 0, .int .i64 0, .bool false, .int .i64 0, .int .i64 0, .int .i64 0, .bool false, .int .i64 0] := (Blk.newAt (by simp)).put h2_ (by omega); have ne_R_A : w.heap.size + 1 ≠ w.heap.size := (by omega); have ge_A : w.heap.size ≤ w.heap.size := (by omega); have ge_R : w.heap.size ≤ w.heap.size + 1 := (by omega); have S_2 := pp (pa (pa (pr))) h2_ (by omega); clear h2_ b2_)
    | ((with_reducible refine load_sub (T := 25) (x := .tmp 2) (o := 0) (vs := #[.int .i64 k, .int .i64 T, .int .i64 s, .bool r, .int .i64 k2, .int .i64 t2, .int .i64 s2, .bool r2, .int .i64 n]) (show Blk _ (w.heap.size) 25 #[.int .i64 k, .int .i64 T, .int .i64 s, .bool r, .int .i64 k2, .int .i64 t2, .int .i64 s2, .bool r2, .int .i64 n] from (A_2)) ?_ ?_ Tryz.underlying25 ?_ ?_ ?_); (focus rfl); (focus rfl); (focus rfl); (focus exact apiUnit_size))
    | (go_at_call 12; (with_reducible refine (HD.out _).mono ?_); rintro e w3_ ⟨rfl, h3_⟩; have A_3 : Blk w3_ (w.heap.size) 25 #[.int .i64 k, .int .i64 T, .int .i64 s, .bool r, .int .i64 k2, .int .i64 t2, .int .i64 s2, .bool r2, .int .i64 n] := (A_2).past h3_; have R_3 : Blk w3_ (w.heap.size + 1) 25 #[.int .i64 0, .int .i64 0, .int .i64 0, .bool false, .int .i64 0, .int .i64 0, .int .i64 0, .bool false, .int .i64 0] := (R_2).past h3_; have S_3 := pt (S_2) h3_; clear A_2 R_2 S_2; clear h3_)
    | ((with_reducible refine store_sub (T := 25) (x := .tmp 4) (y := .tmp 25) (o := 0) (cs' := #[.int .i64 0, .int .i64 0, .int .i64 0, .bool false, .int .i64 0, .int .i64 0, .int .i64 0, .bool false, .int .i64 0]) (vs := #[.int .i64 0, .int .i64 0, .int .i64 0, .bool false, .int .i64 0, .int .i64 0, .int .i64 0, .bool false, .int .i64 0]) (show Blk _ (w.heap.size + 1) 25 #[.int .i64 0, .int .i64 0, .int .i64 0, .bool false, .int .i64 0, .int .i64 0, .int .i64 0, .bool false, .int .i64 0] from (R_3)) ?_ ?_ ?_ ?_ ?_ ?_ ?_); (focus rfl); (focus rfl); (focus rfl); (focus exact Nat.le_of_ble_eq_true rfl); (focus exact apiUnit_size); (focus (simp [Value.oneCell']; done)); intro w4_ b4_ h4_; have A_4 : Blk w4_ (w.heap.size) 25 #[.int .i64 k, .int .i64 T, .int .i64 s, .bool r, .int .i64 k2, .int .i64 t2, .int .i64 s2, .bool r2, .int .i64 n] := (A_3).put h4_ (Ne.symm ne_R_A); have R_4 : Blk w4_ (w.heap.size + 1) 25 #[.int .i64 0, .int .i64 0, .int .i64 0, .bool false, .int .i64 0, .int .i64 0, .int .i64 0, .bool false, .int .i64 0] := b4_; have S_4 := pp (S_3) h4_ ge_R; clear A_3 R_3 S_3; clear h4_ b4_))
  have z0 := R_4.cellAt 0 rfl
  have z1 := R_4.cellAt 1 rfl
  have z2 := R_4.cellAt 2 rfl
  have z3 := R_4.cellAt 3 rfl
  have z4 := R_4.cellAt 4 rfl
  have z5 := R_4.cellAt 5 rfl
  have z6 := R_4.cellAt 6 rfl
  have z7 := R_4.cellAt 7 rfl
  have z8 := R_4.cellAt 8 rfl
  exact bodyPost_ret (v := .tuple #[.agg #[.int .i64 0, .int .i64 0, .int .i64 0, .bool false, .int .i64 0, .int .i64 0, .int .i64 0, .bool false, .int .i64 0], .int .i64 E]) (by simp [results, Tryz.results14, go_sem, z0, z1, z2, z3, z4, z5, z6, z7, z8]) rfl ⟨rfl, S_4⟩

set_option maxHeartbeats 4000000 in
set_option maxRecDepth 100000 in
theorem refTapped_ok (k t s : Int) (r : Bool) (k2 t2 s2 : Int) (r2 : Bool) (n tap : Int) (m T : Int) (hb : withinB tap (-40) 40 = true) (hm : IntKind.i64.wrap (tap * n) = m) (hT : IntKind.i64.wrap (t + m) = T) (hz : unitE k T s k2 t2 s2 n = 0) (w : World) :
    Calls Tryz.prog 14 #[.agg #[.int .i64 k, .int .i64 t, .int .i64 s, .bool r, .int .i64 k2, .int .i64 t2, .int .i64 s2, .bool r2, .int .i64 n], .int .i64 tap] w fun z w' => z = .returned (.tuple #[.agg #[.int .i64 k, .int .i64 T, .int .i64 s, .bool r, .int .i64 k2, .int .i64 t2, .int .i64 s2, .bool r2, .int .i64 n], .int .i64 0]) ∧ Below w.heap.size w w' := by
  have hw := refWithin_any tap (-40) 40
  rw [hb] at hw
  have HW := Lib.hid hw
  have HD := Lib.hid (refUnitErr_any k T s r k2 t2 s2 r2 n)
  clear hw hb
  rw [hz] at HD
  clear hz
  go_enter Tryz.func14, Tryz.ntmps14
  go_wp2_with (first
    | (go_at_call 33; (with_reducible refine (HW.out _).mono ?_); rintro e w' ⟨rfl, rfl⟩)
    | ((with_reducible refine store_sub (T := 3) (x := .tmp 20) (y := .tmp 18) (o := 1) (cs' := #[.int .i64 k, .int .i64 T, .int .i64 s, .bool r, .int .i64 k2, .int .i64 t2, .int .i64 s2, .bool r2, .int .i64 n]) (vs := #[.int .i64 T]) (show Blk _ (w.heap.size) 25 #[.int .i64 k, .int .i64 t, .int .i64 s, .bool r, .int .i64 k2, .int .i64 t2, .int .i64 s2, .bool r2, .int .i64 n] from (Blk.newAt (by simp)).alloc) ?_ ?_ ?_ ?_ ?_ ?_ ?_); (focus rfl); (focus rfl); (focus rfl); (focus exact Nat.le_of_ble_eq_true rfl); (focus exact tap_int_size); (focus (simp [Value.oneCell']; done)); intro w2_ b2_ h2_; have A_2 : Blk w2_ (w.heap.size) 25 #[.int .i64 k, .int .i64 T, .int .i64 s, .bool r, .int .i64 k2, .int .i64 t2, .int .i64 s2, .bool r2, .int .i64 n] := b2_; have R_2 : Blk w2_ (w.heap.size + 1) 25 #[.int .i64 0, .int .i64 0, .int .i64 0, .bool false, .int .i64 0, .int .i64 0, .int .i64 0, .bool false, .int .i64 0] := (Blk.newAt (by simp)).put h2_ (by omega); have ne_R_A : w.heap.size + 1 ≠ w.heap.size := (by omega); have ge_A : w.heap.size ≤ w.heap.size := (by omega); have ge_R : w.heap.size ≤ w.heap.size + 1 := (by omega); have S_2 := pp (pa (pa (pr))) h2_ (by omega); clear h2_ b2_)
    | ((with_reducible refine load_sub (T := 25) (x := .tmp 2) (o := 0) (vs := #[.int .i64 k, .int .i64 T, .int .i64 s, .bool r, .int .i64 k2, .int .i64 t2, .int .i64 s2, .bool r2, .int .i64 n]) (show Blk _ (w.heap.size) 25 #[.int .i64 k, .int .i64 T, .int .i64 s, .bool r, .int .i64 k2, .int .i64 t2, .int .i64 s2, .bool r2, .int .i64 n] from (A_2)) ?_ ?_ Tryz.underlying25 ?_ ?_ ?_); (focus rfl); (focus rfl); (focus rfl); (focus exact apiUnit_size))
    | (go_at_call 12; (with_reducible refine (HD.out _).mono ?_); rintro e w3_ ⟨rfl, h3_⟩; have A_3 : Blk w3_ (w.heap.size) 25 #[.int .i64 k, .int .i64 T, .int .i64 s, .bool r, .int .i64 k2, .int .i64 t2, .int .i64 s2, .bool r2, .int .i64 n] := (A_2).past h3_; have R_3 : Blk w3_ (w.heap.size + 1) 25 #[.int .i64 0, .int .i64 0, .int .i64 0, .bool false, .int .i64 0, .int .i64 0, .int .i64 0, .bool false, .int .i64 0] := (R_2).past h3_; have S_3 := pt (S_2) h3_; clear A_2 R_2 S_2; clear h3_)
    | ((with_reducible refine load_sub (T := 25) (x := .tmp 2) (o := 0) (vs := #[.int .i64 k, .int .i64 T, .int .i64 s, .bool r, .int .i64 k2, .int .i64 t2, .int .i64 s2, .bool r2, .int .i64 n]) (show Blk _ (w.heap.size) 25 #[.int .i64 k, .int .i64 T, .int .i64 s, .bool r, .int .i64 k2, .int .i64 t2, .int .i64 s2, .bool r2, .int .i64 n] from (A_3)) ?_ ?_ Tryz.underlying25 ?_ ?_ ?_); (focus rfl); (focus rfl); (focus rfl); (focus exact apiUnit_size))
    | ((with_reducible refine store_sub (T := 25) (x := .tmp 4) (y := .tmp 27) (o := 0) (cs' := #[.int .i64 k, .int .i64 T, .int .i64 s, .bool r, .int .i64 k2, .int .i64 t2, .int .i64 s2, .bool r2, .int .i64 n]) (vs := #[.int .i64 k, .int .i64 T, .int .i64 s, .bool r, .int .i64 k2, .int .i64 t2, .int .i64 s2, .bool r2, .int .i64 n]) (show Blk _ (w.heap.size + 1) 25 #[.int .i64 0, .int .i64 0, .int .i64 0, .bool false, .int .i64 0, .int .i64 0, .int .i64 0, .bool false, .int .i64 0] from (R_3)) ?_ ?_ ?_ ?_ ?_ ?_ ?_); (focus rfl); (focus rfl); (focus rfl); (focus exact Nat.le_of_ble_eq_true rfl); (focus exact apiUnit_size); (focus (simp [Value.oneCell']; done)); intro w4_ b4_ h4_; have A_4 : Blk w4_ (w.heap.size) 25 #[.int .i64 k, .int .i64 T, .int .i64 s, .bool r, .int .i64 k2, .int .i64 t2, .int .i64 s2, .bool r2, .int .i64 n] := (A_3).put h4_ (Ne.symm ne_R_A); have R_4 : Blk w4_ (w.heap.size + 1) 25 #[.int .i64 k, .int .i64 T, .int .i64 s, .bool r, .int .i64 k2, .int .i64 t2, .int .i64 s2, .bool r2, .int .i64 n] := b4_; have S_4 := pp (S_3) h4_ ge_R; clear A_3 R_3 S_3; clear h4_ b4_))
  have z0 := R_4.cellAt 0 rfl
  have z1 := R_4.cellAt 1 rfl
  have z2 := R_4.cellAt 2 rfl
  have z3 := R_4.cellAt 3 rfl
  have z4 := R_4.cellAt 4 rfl
  have z5 := R_4.cellAt 5 rfl
  have z6 := R_4.cellAt 6 rfl
  have z7 := R_4.cellAt 7 rfl
  have z8 := R_4.cellAt 8 rfl
  exact bodyPost_ret (v := .tuple #[.agg #[.int .i64 k, .int .i64 T, .int .i64 s, .bool r, .int .i64 k2, .int .i64 t2, .int .i64 s2, .bool r2, .int .i64 n], .int .i64 0]) (by simp [results, Tryz.results14, go_sem, z0, z1, z2, z3, z4, z5, z6, z7, z8]) rfl ⟨rfl, S_4⟩

end Go.Proofs.YtnhcamokcggnkaaGreatDoor
