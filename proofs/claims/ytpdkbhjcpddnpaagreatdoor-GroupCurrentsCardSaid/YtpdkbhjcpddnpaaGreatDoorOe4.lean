/- Contract of group.LowFor: the winding that gives a clock number. The loops are unrolled. Printed by a program (gen_low.py). -/
import Derived.Test.YtpdkbhjcpddnpaaGreatDoorOc3

section
namespace Go.Proofs.YtpdkbhjcpddnpaaGreatDoor
open Go.RowKit
attribute [local go_sem ↓] Go.wp_at_zero Go.wp_at_succ

theorem bb_at0 (W : World) : Sem.run Tryz.prog (Instr.index 160 (.agg #[.bool false, .bool true]) (.int .i64 0)) W = .ok (.bool false) W := by kernel_rfl
theorem bb_at1 (W : World) : Sem.run Tryz.prog (Instr.index 160 (.agg #[.bool false, .bool true]) (.int .i64 1)) W = .ok (.bool true) W := by kernel_rfl
attribute [local go_sem] bb_at0 bb_at1

def lowR (c1 c2 c3 c4 c5 c6 n : Int) : Option (Int × Bool) := if (c1 == n) = true then some (0, false) else if (c2 == n) = true then some (1, false) else if (c3 == n) = true then some (2, false) else if (c4 == n) = true then some (0, true) else if (c5 == n) = true then some (1, true) else if (c6 == n) = true then some (2, true) else none
theorem lowV_R (h k n : Int) : lowV h k n = lowR ((h - whV k 0 false) % 12) ((h - whV k 1 false) % 12) ((h - whV k 2 false) % 12) ((h - whV k 0 true) % 12) ((h - whV k 1 true) % 12) ((h - whV k 2 true) % 12) n := by
  unfold lowV lowR lowL
  simp only [List.find?_cons, List.find?_nil]
  cases (h - whV k 0 false) % 12 == n <;> cases (h - whV k 1 false) % 12 == n <;> cases (h - whV k 2 false) % 12 == n <;> cases (h - whV k 0 true) % 12 == n <;> cases (h - whV k 1 true) % 12 == n <;> cases (h - whV k 2 true) % 12 == n <;> rfl

def lowErr (k t s kind n : Int) : Int := firstV [windE k t s, unlessV (withinB kind 0 2) 15, unlessV (withinB n 0 11) 2]
def lowRes (t kind : Int) : Option (Int × Bool) → Value
  | some x => .tuple #[.agg #[.int .i64 kind, .int .i64 t, .int .i64 x.1, .bool x.2], .int .i64 0]
  | none => .tuple #[.agg #[.int .i64 0, .int .i64 0, .int .i64 0, .bool false], .int .i64 12]

set_option maxHeartbeats 16000000 in
set_option maxRecDepth 100000 in
theorem lowFor_ok (k t s : Int) (r : Bool) (kind n : Int) (he : lowErr k t s kind n = 0) (w : World) (hT : TwIn w) (hP : PatIn w) :
    Calls Tryz.prog 38 #[.agg #[.int .i64 k, .int .i64 t, .int .i64 s, .bool r], .int .i64 kind, .int .i64 n] w fun e w' => e = .returned (lowRes t kind (lowV (whV k s r) kind n)) ∧ Below w.heap.size w w' := by
  obtain ⟨e1, e2⟩ := firstV_zero.1 he
  obtain ⟨e2, _⟩ := firstV_zero.1 e2
  have hu := windE_ok r e1
  have hk := (unless_ne (by decide)).1 e2
  simp only [withinB, Bool.and_eq_true, decide_eq_true_eq] at hk
  have hv : ∀ sh rv, 0 ≤ sh → sh ≤ 2 → (Wind.mk kind t sh rv).ok := fun sh rv h1 h2 => ⟨hk.1, hk.2, hu.2.2.1, hu.2.2.2.1, h1, h2⟩
  have HV := Lib.hid (show firstV [windE k t s, unlessV (withinB kind 0 2) 15, unlessV (withinB n 0 11) 2] = 0 from he)
  have hR := lowV_R (whV k s r) kind n
  generalize lowV (whV k s r) kind n = X at *
  have K1 := Lib.hid (fun w => clock_any k t s r kind t 0 false 0 hu (hv 0 false (by decide) (by decide)) w)
  have K2 := Lib.hid (fun w => clock_any k t s r kind t 1 false 0 hu (hv 1 false (by decide) (by decide)) w)
  have K3 := Lib.hid (fun w => clock_any k t s r kind t 2 false 0 hu (hv 2 false (by decide) (by decide)) w)
  have K4 := Lib.hid (fun w => clock_any k t s r kind t 0 true 0 hu (hv 0 true (by decide) (by decide)) w)
  have K5 := Lib.hid (fun w => clock_any k t s r kind t 1 true 0 hu (hv 1 true (by decide) (by decide)) w)
  have K6 := Lib.hid (fun w => clock_any k t s r kind t 2 true 0 hu (hv 2 true (by decide) (by decide)) w)
  generalize (whV k s r - whV kind 0 false) % 12 = c1 at *
  generalize (whV k s r - whV kind 1 false) % 12 = c2 at *
  generalize (whV k s r - whV kind 2 false) % 12 = c3 at *
  generalize (whV k s r - whV kind 0 true) % 12 = c4 at *
  generalize (whV k s r - whV kind 1 true) % 12 = c5 at *
  generalize (whV k s r - whV kind 2 true) % 12 = c6 at *
  have HR := Lib.hid hR
  have HT := Lib.hid (fun w' (h : Below w.heap.size w w') => hT.below h)
  have HP := Lib.hid (fun w' (h : Below w.heap.size w w') => hP.below h)
  clear hR e1 e2 hu hk hv he hT hP
  go_enter Tryz.func38, Tryz.ntmps38
  go_wp2_with (first
    | (go_at_call 77; refine (checkWinding_any _ _ _ _ _).mono ?_; rintro e w0 ⟨rfl, hb0⟩; have P0' : Blk w0 w.heap.size 45 #[.int .i64 k, .int .i64 t, .int .i64 s, .bool r] := (Blk.newAt rfl).alloc.past hb0; have R0' : Blk w0 (w.heap.size + 1) 45 #[.int .i64 0, .int .i64 0, .int .i64 0, .bool false] := (Blk.newAt (by simp)).past hb0; have S0' := pt (pa (pa pr)) hb0)
    | (go_at_call 81; refine (isKind_any _ _).mono ?_; rintro e w' ⟨rfl, rfl⟩)
    | (go_at_call 82; refine (within_any _ _ _ _).mono ?_; rintro e w' ⟨rfl, rfl⟩)
    | (go_at_call 46; refine (unless_any _ _ _).mono ?_; rintro e w' ⟨rfl, rfl⟩)
    | (go_at_call 45; refine (gfirst3 _ _ _ _ _ _ (by first | (go_simp; done) | (go_simp; rfl)) (by first | (go_simp; done) | (go_simp; rfl)) (by first | (go_simp; done) | (go_simp; rfl)) _ HV.out).mono ?_; rintro e w' ⟨rfl, rfl⟩))
  have P0 := P0'.alloc (o := (Obj.cells #[.int .i64 (windE k t s), .int .i64 (unlessV (withinB kind 0 2) 15), .int .i64 (unlessV (withinB n 0 11) 2)] 29))
  have R0 := R0'.alloc (o := (Obj.cells #[.int .i64 (windE k t s), .int .i64 (unlessV (withinB kind 0 2) 15), .int .i64 (unlessV (withinB n 0 11) 2)] 29))
  have S0 := pa (o := (Obj.cells #[.int .i64 (windE k t s), .int .i64 (unlessV (withinB kind 0 2) 15), .int .i64 (unlessV (withinB n 0 11) 2)] 29)) S0'
  trace_state
  generalize w0.alloc (Obj.cells #[.int .i64 (windE k t s), .int .i64 (unlessV (withinB kind 0 2) 15), .int .i64 (unlessV (withinB n 0 11) 2)] 29) = v0 at *
  clear P0' R0' S0' hb0 HV
  have p0 := P0.cellAt 0 rfl; have p1 := P0.cellAt 1 rfl; have p2 := P0.cellAt 2 rfl; have p3 := P0.cellAt 3 rfl; have pl := P0.lt
  refine wp_loop_rounds 3 ?_
  cases b1 : (c1 == n)
  · rw [rounds_succ]
    go_wp2
    refine wp_loop_rounds 4 ?_
    rw [rounds_succ]
    go_wp2_with (first
      | (go_at_call 57; refine (K1.out _ (HT.out _ (pa S0)) (HP.out _ (pa S0))).mono ?_; rintro e w1 ⟨rfl, hb1⟩; have P1 := P0.alloc.past hb1; have R1 := R0.alloc.past hb1; have L1 : Blk w1 _ 45 #[.int .i64 kind, .int .i64 t, .int .i64 0, .bool false] := (Blk.new _ _ _).past hb1; have S1 := pt (pa S0) hb1; clear p0 p1 p2 p3 pl; have l0 := L1.cellAt 0 rfl; have l1 := L1.cellAt 1 rfl; have l2 := L1.cellAt 2 rfl; have l3 := L1.cellAt 3 rfl; have ll := L1.lt; have p0 := P1.cellAt 0 rfl; have p1 := P1.cellAt 1 rfl; have p2 := P1.cellAt 2 rfl; have p3 := P1.cellAt 3 rfl; have pl := P1.lt; have r0 := R1.cellAt 0 rfl; have r1 := R1.cellAt 1 rfl; have r2 := R1.cellAt 2 rfl; have r3 := R1.cellAt 3 rfl; have s0 := R1.frozen 0; have s1 := R1.frozen 1; have s2 := R1.frozen 2; have s3 := R1.frozen 3; have rl := R1.lt))
    clear P0 R0 S0 l0 l1 l2 l3 ll L1 r0 r1 r2 r3 s0 s1 s2 s3 rl hb1
    cases b2 : (c2 == n)
    · rw [rounds_succ]
      go_wp2_with (first
        | (go_at_call 57; refine (K2.out _ (HT.out _ (pa S1)) (HP.out _ (pa S1))).mono ?_; rintro e w2 ⟨rfl, hb2⟩; have P2 := P1.alloc.past hb2; have R2 := R1.alloc.past hb2; have L2 : Blk w2 _ 45 #[.int .i64 kind, .int .i64 t, .int .i64 1, .bool false] := (Blk.new _ _ _).past hb2; have S2 := pt (pa S1) hb2; clear p0 p1 p2 p3 pl; have l0 := L2.cellAt 0 rfl; have l1 := L2.cellAt 1 rfl; have l2 := L2.cellAt 2 rfl; have l3 := L2.cellAt 3 rfl; have ll := L2.lt; have p0 := P2.cellAt 0 rfl; have p1 := P2.cellAt 1 rfl; have p2 := P2.cellAt 2 rfl; have p3 := P2.cellAt 3 rfl; have pl := P2.lt; have r0 := R2.cellAt 0 rfl; have r1 := R2.cellAt 1 rfl; have r2 := R2.cellAt 2 rfl; have r3 := R2.cellAt 3 rfl; have s0 := R2.frozen 0; have s1 := R2.frozen 1; have s2 := R2.frozen 2; have s3 := R2.frozen 3; have rl := R2.lt))
      clear P1 R1 S1 l0 l1 l2 l3 ll L2 r0 r1 r2 r3 s0 s1 s2 s3 rl hb2
      cases b3 : (c3 == n)
      · rw [rounds_succ]
        go_wp2_with (first
          | (go_at_call 57; refine (K3.out _ (HT.out _ (pa S2)) (HP.out _ (pa S2))).mono ?_; rintro e w3 ⟨rfl, hb3⟩; have P3 := P2.alloc.past hb3; have R3 := R2.alloc.past hb3; have L3 : Blk w3 _ 45 #[.int .i64 kind, .int .i64 t, .int .i64 2, .bool false] := (Blk.new _ _ _).past hb3; have S3 := pt (pa S2) hb3; clear p0 p1 p2 p3 pl; have l0 := L3.cellAt 0 rfl; have l1 := L3.cellAt 1 rfl; have l2 := L3.cellAt 2 rfl; have l3 := L3.cellAt 3 rfl; have ll := L3.lt; have p0 := P3.cellAt 0 rfl; have p1 := P3.cellAt 1 rfl; have p2 := P3.cellAt 2 rfl; have p3 := P3.cellAt 3 rfl; have pl := P3.lt; have r0 := R3.cellAt 0 rfl; have r1 := R3.cellAt 1 rfl; have r2 := R3.cellAt 2 rfl; have r3 := R3.cellAt 3 rfl; have s0 := R3.frozen 0; have s1 := R3.frozen 1; have s2 := R3.frozen 2; have s3 := R3.frozen 3; have rl := R3.lt))
        clear P2 R2 S2 l0 l1 l2 l3 ll L3 r0 r1 r2 r3 s0 s1 s2 s3 rl hb3
        rw [rounds_succ]
        go_wp2
        cases b4 : (c4 == n)
        · rw [rounds_succ]
          go_wp2
          refine wp_loop_rounds 4 ?_
          rw [rounds_succ]
          go_wp2_with (first
            | (go_at_call 57; refine (K4.out _ (HT.out _ (pa S3)) (HP.out _ (pa S3))).mono ?_; rintro e w4 ⟨rfl, hb4⟩; have P4 := P3.alloc.past hb4; have R4 := R3.alloc.past hb4; have L4 : Blk w4 _ 45 #[.int .i64 kind, .int .i64 t, .int .i64 0, .bool true] := (Blk.new _ _ _).past hb4; have S4 := pt (pa S3) hb4; clear p0 p1 p2 p3 pl; have l0 := L4.cellAt 0 rfl; have l1 := L4.cellAt 1 rfl; have l2 := L4.cellAt 2 rfl; have l3 := L4.cellAt 3 rfl; have ll := L4.lt; have p0 := P4.cellAt 0 rfl; have p1 := P4.cellAt 1 rfl; have p2 := P4.cellAt 2 rfl; have p3 := P4.cellAt 3 rfl; have pl := P4.lt; have r0 := R4.cellAt 0 rfl; have r1 := R4.cellAt 1 rfl; have r2 := R4.cellAt 2 rfl; have r3 := R4.cellAt 3 rfl; have s0 := R4.frozen 0; have s1 := R4.frozen 1; have s2 := R4.frozen 2; have s3 := R4.frozen 3; have rl := R4.lt))
          clear P3 R3 S3 l0 l1 l2 l3 ll L4 r0 r1 r2 r3 s0 s1 s2 s3 rl hb4
          cases b5 : (c5 == n)
          · rw [rounds_succ]
            go_wp2_with (first
              | (go_at_call 57; refine (K5.out _ (HT.out _ (pa S4)) (HP.out _ (pa S4))).mono ?_; rintro e w5 ⟨rfl, hb5⟩; have P5 := P4.alloc.past hb5; have R5 := R4.alloc.past hb5; have L5 : Blk w5 _ 45 #[.int .i64 kind, .int .i64 t, .int .i64 1, .bool true] := (Blk.new _ _ _).past hb5; have S5 := pt (pa S4) hb5; clear p0 p1 p2 p3 pl; have l0 := L5.cellAt 0 rfl; have l1 := L5.cellAt 1 rfl; have l2 := L5.cellAt 2 rfl; have l3 := L5.cellAt 3 rfl; have ll := L5.lt; have p0 := P5.cellAt 0 rfl; have p1 := P5.cellAt 1 rfl; have p2 := P5.cellAt 2 rfl; have p3 := P5.cellAt 3 rfl; have pl := P5.lt; have r0 := R5.cellAt 0 rfl; have r1 := R5.cellAt 1 rfl; have r2 := R5.cellAt 2 rfl; have r3 := R5.cellAt 3 rfl; have s0 := R5.frozen 0; have s1 := R5.frozen 1; have s2 := R5.frozen 2; have s3 := R5.frozen 3; have rl := R5.lt))
            clear P4 R4 S4 l0 l1 l2 l3 ll L5 r0 r1 r2 r3 s0 s1 s2 s3 rl hb5
            cases b6 : (c6 == n)
            · rw [rounds_succ]
              go_wp2_with (first
                | (go_at_call 57; refine (K6.out _ (HT.out _ (pa S5)) (HP.out _ (pa S5))).mono ?_; rintro e w6 ⟨rfl, hb6⟩; have P6 := P5.alloc.past hb6; have R6 := R5.alloc.past hb6; have L6 : Blk w6 _ 45 #[.int .i64 kind, .int .i64 t, .int .i64 2, .bool true] := (Blk.new _ _ _).past hb6; have S6 := pt (pa S5) hb6; clear p0 p1 p2 p3 pl; have l0 := L6.cellAt 0 rfl; have l1 := L6.cellAt 1 rfl; have l2 := L6.cellAt 2 rfl; have l3 := L6.cellAt 3 rfl; have ll := L6.lt; have p0 := P6.cellAt 0 rfl; have p1 := P6.cellAt 1 rfl; have p2 := P6.cellAt 2 rfl; have p3 := P6.cellAt 3 rfl; have pl := P6.lt; have r0 := R6.cellAt 0 rfl; have r1 := R6.cellAt 1 rfl; have r2 := R6.cellAt 2 rfl; have r3 := R6.cellAt 3 rfl; have s0 := R6.frozen 0; have s1 := R6.frozen 1; have s2 := R6.frozen 2; have s3 := R6.frozen 3; have rl := R6.lt))
              clear P5 R5 S5 l0 l1 l2 l3 ll L6 r0 r1 r2 r3 s0 s1 s2 s3 rl hb6
              rw [rounds_succ]
              go_wp2
              have r0 := R6.cellAt 0 rfl; have r1 := R6.cellAt 1 rfl; have r2 := R6.cellAt 2 rfl; have r3 := R6.cellAt 3 rfl; have s0 := R6.frozen 0; have s1 := R6.frozen 1; have s2 := R6.frozen 2; have s3 := R6.frozen 3; have rl := R6.lt
              rw [rounds_succ]
              go_wp2
              have HX : X = none := by rw [HR.out]; simp [lowR, b1, b2, b3, b4, b5, b6]
              rw [HX]
              exact bodyPost_ret (v := lowRes t kind (none)) (by simp [lowRes, results, Tryz.results38, go_sem, r0, r1, r2, r3]) rfl ⟨rfl, by repeat (first | exact S6 | refine pa ?_ | refine ps ?_ (by first | (simp; done) | (simp; omega)) | refine pd ?_)⟩
            · rw [rounds_succ]
              go_wp2_with (first
                | (go_at_call 57; refine (K6.out _ (HT.out _ (pa S5)) (HP.out _ (pa S5))).mono ?_; rintro e w6 ⟨rfl, hb6⟩; have P6 := P5.alloc.past hb6; have R6 := R5.alloc.past hb6; have L6 : Blk w6 _ 45 #[.int .i64 kind, .int .i64 t, .int .i64 2, .bool true] := (Blk.new _ _ _).past hb6; have S6 := pt (pa S5) hb6; clear p0 p1 p2 p3 pl; have l0 := L6.cellAt 0 rfl; have l1 := L6.cellAt 1 rfl; have l2 := L6.cellAt 2 rfl; have l3 := L6.cellAt 3 rfl; have ll := L6.lt; have p0 := P6.cellAt 0 rfl; have p1 := P6.cellAt 1 rfl; have p2 := P6.cellAt 2 rfl; have p3 := P6.cellAt 3 rfl; have pl := P6.lt; have r0 := R6.cellAt 0 rfl; have r1 := R6.cellAt 1 rfl; have r2 := R6.cellAt 2 rfl; have r3 := R6.cellAt 3 rfl; have s0 := R6.frozen 0; have s1 := R6.frozen 1; have s2 := R6.frozen 2; have s3 := R6.frozen 3; have rl := R6.lt))
              have HX : X = some (2, true) := by rw [HR.out]; simp [lowR, b1, b2, b3, b4, b5, b6]
              rw [HX]
              exact bodyPost_ret (v := lowRes t kind (some (2, true))) (by simp [lowRes, results, Tryz.results38, go_sem, r0, r1, r2, r3]) rfl ⟨rfl, by repeat (first | exact S6 | refine pa ?_ | refine ps ?_ (by first | (simp; done) | (simp; omega)) | refine pd ?_)⟩
          · rw [rounds_succ]
            go_wp2_with (first
              | (go_at_call 57; refine (K5.out _ (HT.out _ (pa S4)) (HP.out _ (pa S4))).mono ?_; rintro e w5 ⟨rfl, hb5⟩; have P5 := P4.alloc.past hb5; have R5 := R4.alloc.past hb5; have L5 : Blk w5 _ 45 #[.int .i64 kind, .int .i64 t, .int .i64 1, .bool true] := (Blk.new _ _ _).past hb5; have S5 := pt (pa S4) hb5; clear p0 p1 p2 p3 pl; have l0 := L5.cellAt 0 rfl; have l1 := L5.cellAt 1 rfl; have l2 := L5.cellAt 2 rfl; have l3 := L5.cellAt 3 rfl; have ll := L5.lt; have p0 := P5.cellAt 0 rfl; have p1 := P5.cellAt 1 rfl; have p2 := P5.cellAt 2 rfl; have p3 := P5.cellAt 3 rfl; have pl := P5.lt; have r0 := R5.cellAt 0 rfl; have r1 := R5.cellAt 1 rfl; have r2 := R5.cellAt 2 rfl; have r3 := R5.cellAt 3 rfl; have s0 := R5.frozen 0; have s1 := R5.frozen 1; have s2 := R5.frozen 2; have s3 := R5.frozen 3; have rl := R5.lt))
            have HX : X = some (1, true) := by rw [HR.out]; simp [lowR, b1, b2, b3, b4, b5]
            rw [HX]
            exact bodyPost_ret (v := lowRes t kind (some (1, true))) (by simp [lowRes, results, Tryz.results38, go_sem, r0, r1, r2, r3]) rfl ⟨rfl, by repeat (first | exact S5 | refine pa ?_ | refine ps ?_ (by first | (simp; done) | (simp; omega)) | refine pd ?_)⟩
        · rw [rounds_succ]
          go_wp2
          refine wp_loop_rounds 4 ?_
          rw [rounds_succ]
          go_wp2_with (first
            | (go_at_call 57; refine (K4.out _ (HT.out _ (pa S3)) (HP.out _ (pa S3))).mono ?_; rintro e w4 ⟨rfl, hb4⟩; have P4 := P3.alloc.past hb4; have R4 := R3.alloc.past hb4; have L4 : Blk w4 _ 45 #[.int .i64 kind, .int .i64 t, .int .i64 0, .bool true] := (Blk.new _ _ _).past hb4; have S4 := pt (pa S3) hb4; clear p0 p1 p2 p3 pl; have l0 := L4.cellAt 0 rfl; have l1 := L4.cellAt 1 rfl; have l2 := L4.cellAt 2 rfl; have l3 := L4.cellAt 3 rfl; have ll := L4.lt; have p0 := P4.cellAt 0 rfl; have p1 := P4.cellAt 1 rfl; have p2 := P4.cellAt 2 rfl; have p3 := P4.cellAt 3 rfl; have pl := P4.lt; have r0 := R4.cellAt 0 rfl; have r1 := R4.cellAt 1 rfl; have r2 := R4.cellAt 2 rfl; have r3 := R4.cellAt 3 rfl; have s0 := R4.frozen 0; have s1 := R4.frozen 1; have s2 := R4.frozen 2; have s3 := R4.frozen 3; have rl := R4.lt))
          have HX : X = some (0, true) := by rw [HR.out]; simp [lowR, b1, b2, b3, b4]
          rw [HX]
          exact bodyPost_ret (v := lowRes t kind (some (0, true))) (by simp [lowRes, results, Tryz.results38, go_sem, r0, r1, r2, r3]) rfl ⟨rfl, by repeat (first | exact S4 | refine pa ?_ | refine ps ?_ (by first | (simp; done) | (simp; omega)) | refine pd ?_)⟩
      · rw [rounds_succ]
        go_wp2_with (first
          | (go_at_call 57; refine (K3.out _ (HT.out _ (pa S2)) (HP.out _ (pa S2))).mono ?_; rintro e w3 ⟨rfl, hb3⟩; have P3 := P2.alloc.past hb3; have R3 := R2.alloc.past hb3; have L3 : Blk w3 _ 45 #[.int .i64 kind, .int .i64 t, .int .i64 2, .bool false] := (Blk.new _ _ _).past hb3; have S3 := pt (pa S2) hb3; clear p0 p1 p2 p3 pl; have l0 := L3.cellAt 0 rfl; have l1 := L3.cellAt 1 rfl; have l2 := L3.cellAt 2 rfl; have l3 := L3.cellAt 3 rfl; have ll := L3.lt; have p0 := P3.cellAt 0 rfl; have p1 := P3.cellAt 1 rfl; have p2 := P3.cellAt 2 rfl; have p3 := P3.cellAt 3 rfl; have pl := P3.lt; have r0 := R3.cellAt 0 rfl; have r1 := R3.cellAt 1 rfl; have r2 := R3.cellAt 2 rfl; have r3 := R3.cellAt 3 rfl; have s0 := R3.frozen 0; have s1 := R3.frozen 1; have s2 := R3.frozen 2; have s3 := R3.frozen 3; have rl := R3.lt))
        have HX : X = some (2, false) := by rw [HR.out]; simp [lowR, b1, b2, b3]
        rw [HX]
        exact bodyPost_ret (v := lowRes t kind (some (2, false))) (by simp [lowRes, results, Tryz.results38, go_sem, r0, r1, r2, r3]) rfl ⟨rfl, by repeat (first | exact S3 | refine pa ?_ | refine ps ?_ (by first | (simp; done) | (simp; omega)) | refine pd ?_)⟩
    · rw [rounds_succ]
      go_wp2_with (first
        | (go_at_call 57; refine (K2.out _ (HT.out _ (pa S1)) (HP.out _ (pa S1))).mono ?_; rintro e w2 ⟨rfl, hb2⟩; have P2 := P1.alloc.past hb2; have R2 := R1.alloc.past hb2; have L2 : Blk w2 _ 45 #[.int .i64 kind, .int .i64 t, .int .i64 1, .bool false] := (Blk.new _ _ _).past hb2; have S2 := pt (pa S1) hb2; clear p0 p1 p2 p3 pl; have l0 := L2.cellAt 0 rfl; have l1 := L2.cellAt 1 rfl; have l2 := L2.cellAt 2 rfl; have l3 := L2.cellAt 3 rfl; have ll := L2.lt; have p0 := P2.cellAt 0 rfl; have p1 := P2.cellAt 1 rfl; have p2 := P2.cellAt 2 rfl; have p3 := P2.cellAt 3 rfl; have pl := P2.lt; have r0 := R2.cellAt 0 rfl; have r1 := R2.cellAt 1 rfl; have r2 := R2.cellAt 2 rfl; have r3 := R2.cellAt 3 rfl; have s0 := R2.frozen 0; have s1 := R2.frozen 1; have s2 := R2.frozen 2; have s3 := R2.frozen 3; have rl := R2.lt))
      have HX : X = some (1, false) := by rw [HR.out]; simp [lowR, b1, b2]
      rw [HX]
      exact bodyPost_ret (v := lowRes t kind (some (1, false))) (by simp [lowRes, results, Tryz.results38, go_sem, r0, r1, r2, r3]) rfl ⟨rfl, by repeat (first | exact S2 | refine pa ?_ | refine ps ?_ (by first | (simp; done) | (simp; omega)) | refine pd ?_)⟩
  · rw [rounds_succ]
    go_wp2
    refine wp_loop_rounds 4 ?_
    rw [rounds_succ]
    go_wp2_with (first
      | (go_at_call 57; refine (K1.out _ (HT.out _ (pa S0)) (HP.out _ (pa S0))).mono ?_; rintro e w1 ⟨rfl, hb1⟩; have P1 := P0.alloc.past hb1; have R1 := R0.alloc.past hb1; have L1 : Blk w1 _ 45 #[.int .i64 kind, .int .i64 t, .int .i64 0, .bool false] := (Blk.new _ _ _).past hb1; have S1 := pt (pa S0) hb1; clear p0 p1 p2 p3 pl; have l0 := L1.cellAt 0 rfl; have l1 := L1.cellAt 1 rfl; have l2 := L1.cellAt 2 rfl; have l3 := L1.cellAt 3 rfl; have ll := L1.lt; have p0 := P1.cellAt 0 rfl; have p1 := P1.cellAt 1 rfl; have p2 := P1.cellAt 2 rfl; have p3 := P1.cellAt 3 rfl; have pl := P1.lt; have r0 := R1.cellAt 0 rfl; have r1 := R1.cellAt 1 rfl; have r2 := R1.cellAt 2 rfl; have r3 := R1.cellAt 3 rfl; have s0 := R1.frozen 0; have s1 := R1.frozen 1; have s2 := R1.frozen 2; have s3 := R1.frozen 3; have rl := R1.lt))
    have HX : X = some (0, false) := by rw [HR.out]; simp [lowR, b1]
    rw [HX]
    exact bodyPost_ret (v := lowRes t kind (some (0, false))) (by simp [lowRes, results, Tryz.results38, go_sem, r0, r1, r2, r3]) rfl ⟨rfl, by repeat (first | exact S1 | refine pa ?_ | refine ps ?_ (by first | (simp; done) | (simp; omega)) | refine pd ?_)⟩

end Go.Proofs.YtpdkbhjcpddnpaaGreatDoor
end
