/- Contract of the specification's Lines: the lines of a valid winding. Printed by a program (gen_newlines.py). -/
import Derived.Test.YtnhcamokcggnkaaGreatDoorGBClock
namespace Go.Proofs.YtnhcamokcggnkaaGreatDoor
open Go.RowKit
attribute [local go_sem ↓] Go.wp_at_zero Go.wp_at_succ

theorem cell_far {w : World} {a : Addr} {u : Value} {b o : Nat} (h : b ≠ a.block) : (w.setCell a u).cell? ⟨b, o, none⟩ = w.cell? ⟨b, o, none⟩ := by
  have := Below.heap_setCell w a u b h
  simp [World.cell?, this]

set_option maxHeartbeats 8000000 in
set_option maxRecDepth 100000 in
theorem refLines_core (kd s : Nat) (t G : Int) (r : Bool) (hk : kd < 3) (hs : s < 3) (T : Int) (hT : Sm 2000 T) (hGT : G * t = T) (hS : ∀ w, Calls Tryz.prog 86 #[.agg #[.int .i64 (kd : Int), .int .i64 t, .int .i64 (s : Int), .bool r]] w fun e w' => e = .returned (.int .i64 G) ∧ Below w.heap.size w w') (L : L3) (hL : rowsV T kd s = L) (w : World) :
    Calls Tryz.prog 36 #[.agg #[.int .i64 (kd : Int), .int .i64 t, .int .i64 (s : Int), .bool r]] w fun e w' => e = .returned (.agg #[.int .i64 L.x.a, .int .i64 L.x.b, .int .i64 L.x.c, .int .i64 L.y.a, .int .i64 L.y.b, .int .i64 L.y.c, .int .i64 L.z.a, .int .i64 L.z.b, .int .i64 L.z.c]) ∧ Below w.heap.size w w' := by
  have HEnd := Lib.hid (cells_end T hk hs (fun i => T * patN kd i) (fun i => rfl) L hL)
  have HS := Lib.hid hS
  have s0 : (0 : Int) ≤ (s : Int) := by omega
  have s1 : (s : Int) < 3 := by omega
  have d0 : (0 : Int) ≤ (kd : Int) := by omega
  have d1 : (kd : Int) < 3 := by omega
  clear hS hL
  go_enter Tryz.func36, Tryz.ntmps36
  go_wp2
  have A0 : Blk (((((((w.alloc (.cells #[.int .i64 (kd : Int), .int .i64 t, .int .i64 (s : Int), .bool r] 23)).alloc (.cells #[.int .i64 0, .int .i64 0, .int .i64 0, .int .i64 0, .int .i64 0, .int .i64 0, .int .i64 0, .int .i64 0, .int .i64 0] 81)).alloc (.cells #[.int .i64 1, .int .i64 (-1), .int .i64 0] 3)).alloc (.cells #[.int .i64 1, .int .i64 0, .int .i64 0] 3)).alloc (.cells #[.int .i64 1, .int .i64 (-2), .int .i64 1] 3)).alloc (.cells #[.slice (some ⟨w.heap.size + 1 + 1, 0, none⟩) 3 3, .slice (some ⟨w.heap.size + 1 + 1 + 1, 0, none⟩) 3 3, .slice (some ⟨w.heap.size + 1 + 1 + 1 + 1, 0, none⟩) 3 3] 126)).alloc (.cells #[.int .i64 0, .int .i64 0, .int .i64 0, .int .i64 0, .int .i64 0, .int .i64 0, .int .i64 0, .int .i64 0, .int .i64 0] 81)) (w.heap.size) 23 #[.int .i64 (kd : Int), .int .i64 t, .int .i64 (s : Int), .bool r] := (Blk.newAt (by simp)).alloc.alloc.alloc.alloc.alloc.alloc
  have R0 : Blk (((((((w.alloc (.cells #[.int .i64 (kd : Int), .int .i64 t, .int .i64 (s : Int), .bool r] 23)).alloc (.cells #[.int .i64 0, .int .i64 0, .int .i64 0, .int .i64 0, .int .i64 0, .int .i64 0, .int .i64 0, .int .i64 0, .int .i64 0] 81)).alloc (.cells #[.int .i64 1, .int .i64 (-1), .int .i64 0] 3)).alloc (.cells #[.int .i64 1, .int .i64 0, .int .i64 0] 3)).alloc (.cells #[.int .i64 1, .int .i64 (-2), .int .i64 1] 3)).alloc (.cells #[.slice (some ⟨w.heap.size + 1 + 1, 0, none⟩) 3 3, .slice (some ⟨w.heap.size + 1 + 1 + 1, 0, none⟩) 3 3, .slice (some ⟨w.heap.size + 1 + 1 + 1 + 1, 0, none⟩) 3 3] 126)).alloc (.cells #[.int .i64 0, .int .i64 0, .int .i64 0, .int .i64 0, .int .i64 0, .int .i64 0, .int .i64 0, .int .i64 0, .int .i64 0] 81)) (w.heap.size + 1) 81 #[.int .i64 0, .int .i64 0, .int .i64 0, .int .i64 0, .int .i64 0, .int .i64 0, .int .i64 0, .int .i64 0, .int .i64 0] := (Blk.newAt (by simp)).alloc.alloc.alloc.alloc.alloc
  have F00 : Blk (((((((w.alloc (.cells #[.int .i64 (kd : Int), .int .i64 t, .int .i64 (s : Int), .bool r] 23)).alloc (.cells #[.int .i64 0, .int .i64 0, .int .i64 0, .int .i64 0, .int .i64 0, .int .i64 0, .int .i64 0, .int .i64 0, .int .i64 0] 81)).alloc (.cells #[.int .i64 1, .int .i64 (-1), .int .i64 0] 3)).alloc (.cells #[.int .i64 1, .int .i64 0, .int .i64 0] 3)).alloc (.cells #[.int .i64 1, .int .i64 (-2), .int .i64 1] 3)).alloc (.cells #[.slice (some ⟨w.heap.size + 1 + 1, 0, none⟩) 3 3, .slice (some ⟨w.heap.size + 1 + 1 + 1, 0, none⟩) 3 3, .slice (some ⟨w.heap.size + 1 + 1 + 1 + 1, 0, none⟩) 3 3] 126)).alloc (.cells #[.int .i64 0, .int .i64 0, .int .i64 0, .int .i64 0, .int .i64 0, .int .i64 0, .int .i64 0, .int .i64 0, .int .i64 0] 81)) (w.heap.size + 1 + 1) 3 #[.int .i64 1, .int .i64 (-1), .int .i64 0] := (Blk.newAt (by simp)).alloc.alloc.alloc.alloc
  have F10 : Blk (((((((w.alloc (.cells #[.int .i64 (kd : Int), .int .i64 t, .int .i64 (s : Int), .bool r] 23)).alloc (.cells #[.int .i64 0, .int .i64 0, .int .i64 0, .int .i64 0, .int .i64 0, .int .i64 0, .int .i64 0, .int .i64 0, .int .i64 0] 81)).alloc (.cells #[.int .i64 1, .int .i64 (-1), .int .i64 0] 3)).alloc (.cells #[.int .i64 1, .int .i64 0, .int .i64 0] 3)).alloc (.cells #[.int .i64 1, .int .i64 (-2), .int .i64 1] 3)).alloc (.cells #[.slice (some ⟨w.heap.size + 1 + 1, 0, none⟩) 3 3, .slice (some ⟨w.heap.size + 1 + 1 + 1, 0, none⟩) 3 3, .slice (some ⟨w.heap.size + 1 + 1 + 1 + 1, 0, none⟩) 3 3] 126)).alloc (.cells #[.int .i64 0, .int .i64 0, .int .i64 0, .int .i64 0, .int .i64 0, .int .i64 0, .int .i64 0, .int .i64 0, .int .i64 0] 81)) (w.heap.size + 1 + 1 + 1) 3 #[.int .i64 1, .int .i64 0, .int .i64 0] := (Blk.newAt (by simp)).alloc.alloc.alloc
  have F20 : Blk (((((((w.alloc (.cells #[.int .i64 (kd : Int), .int .i64 t, .int .i64 (s : Int), .bool r] 23)).alloc (.cells #[.int .i64 0, .int .i64 0, .int .i64 0, .int .i64 0, .int .i64 0, .int .i64 0, .int .i64 0, .int .i64 0, .int .i64 0] 81)).alloc (.cells #[.int .i64 1, .int .i64 (-1), .int .i64 0] 3)).alloc (.cells #[.int .i64 1, .int .i64 0, .int .i64 0] 3)).alloc (.cells #[.int .i64 1, .int .i64 (-2), .int .i64 1] 3)).alloc (.cells #[.slice (some ⟨w.heap.size + 1 + 1, 0, none⟩) 3 3, .slice (some ⟨w.heap.size + 1 + 1 + 1, 0, none⟩) 3 3, .slice (some ⟨w.heap.size + 1 + 1 + 1 + 1, 0, none⟩) 3 3] 126)).alloc (.cells #[.int .i64 0, .int .i64 0, .int .i64 0, .int .i64 0, .int .i64 0, .int .i64 0, .int .i64 0, .int .i64 0, .int .i64 0] 81)) (w.heap.size + 1 + 1 + 1 + 1) 3 #[.int .i64 1, .int .i64 (-2), .int .i64 1] := (Blk.newAt (by simp)).alloc.alloc
  have U0 : Blk (((((((w.alloc (.cells #[.int .i64 (kd : Int), .int .i64 t, .int .i64 (s : Int), .bool r] 23)).alloc (.cells #[.int .i64 0, .int .i64 0, .int .i64 0, .int .i64 0, .int .i64 0, .int .i64 0, .int .i64 0, .int .i64 0, .int .i64 0] 81)).alloc (.cells #[.int .i64 1, .int .i64 (-1), .int .i64 0] 3)).alloc (.cells #[.int .i64 1, .int .i64 0, .int .i64 0] 3)).alloc (.cells #[.int .i64 1, .int .i64 (-2), .int .i64 1] 3)).alloc (.cells #[.slice (some ⟨w.heap.size + 1 + 1, 0, none⟩) 3 3, .slice (some ⟨w.heap.size + 1 + 1 + 1, 0, none⟩) 3 3, .slice (some ⟨w.heap.size + 1 + 1 + 1 + 1, 0, none⟩) 3 3] 126)).alloc (.cells #[.int .i64 0, .int .i64 0, .int .i64 0, .int .i64 0, .int .i64 0, .int .i64 0, .int .i64 0, .int .i64 0, .int .i64 0] 81)) (w.heap.size + 1 + 1 + 1 + 1 + 1) 126 #[.slice (some ⟨w.heap.size + 1 + 1, 0, none⟩) 3 3, .slice (some ⟨w.heap.size + 1 + 1 + 1, 0, none⟩) 3 3, .slice (some ⟨w.heap.size + 1 + 1 + 1 + 1, 0, none⟩) 3 3] := (Blk.newAt (by simp)).alloc
  have B0 : Blk (((((((w.alloc (.cells #[.int .i64 (kd : Int), .int .i64 t, .int .i64 (s : Int), .bool r] 23)).alloc (.cells #[.int .i64 0, .int .i64 0, .int .i64 0, .int .i64 0, .int .i64 0, .int .i64 0, .int .i64 0, .int .i64 0, .int .i64 0] 81)).alloc (.cells #[.int .i64 1, .int .i64 (-1), .int .i64 0] 3)).alloc (.cells #[.int .i64 1, .int .i64 0, .int .i64 0] 3)).alloc (.cells #[.int .i64 1, .int .i64 (-2), .int .i64 1] 3)).alloc (.cells #[.slice (some ⟨w.heap.size + 1 + 1, 0, none⟩) 3 3, .slice (some ⟨w.heap.size + 1 + 1 + 1, 0, none⟩) 3 3, .slice (some ⟨w.heap.size + 1 + 1 + 1 + 1, 0, none⟩) 3 3] 126)).alloc (.cells #[.int .i64 0, .int .i64 0, .int .i64 0, .int .i64 0, .int .i64 0, .int .i64 0, .int .i64 0, .int .i64 0, .int .i64 0] 81)) (w.heap.size + 1 + 1 + 1 + 1 + 1 + 1) 81 #[.int .i64 0, .int .i64 0, .int .i64 0, .int .i64 0, .int .i64 0, .int .i64 0, .int .i64 0, .int .i64 0, .int .i64 0] := (Blk.newAt (by simp))
  have S0 : Below w.heap.size w (((((((w.alloc (.cells #[.int .i64 (kd : Int), .int .i64 t, .int .i64 (s : Int), .bool r] 23)).alloc (.cells #[.int .i64 0, .int .i64 0, .int .i64 0, .int .i64 0, .int .i64 0, .int .i64 0, .int .i64 0, .int .i64 0, .int .i64 0] 81)).alloc (.cells #[.int .i64 1, .int .i64 (-1), .int .i64 0] 3)).alloc (.cells #[.int .i64 1, .int .i64 0, .int .i64 0] 3)).alloc (.cells #[.int .i64 1, .int .i64 (-2), .int .i64 1] 3)).alloc (.cells #[.slice (some ⟨w.heap.size + 1 + 1, 0, none⟩) 3 3, .slice (some ⟨w.heap.size + 1 + 1 + 1, 0, none⟩) 3 3, .slice (some ⟨w.heap.size + 1 + 1 + 1 + 1, 0, none⟩) 3 3] 126)).alloc (.cells #[.int .i64 0, .int .i64 0, .int .i64 0, .int .i64 0, .int .i64 0, .int .i64 0, .int .i64 0, .int .i64 0, .int .i64 0] 81)) := pa (pa (pa (pa (pa (pa (pa (pr)))))))
  generalize (((((((w.alloc (.cells #[.int .i64 (kd : Int), .int .i64 t, .int .i64 (s : Int), .bool r] 23)).alloc (.cells #[.int .i64 0, .int .i64 0, .int .i64 0, .int .i64 0, .int .i64 0, .int .i64 0, .int .i64 0, .int .i64 0, .int .i64 0] 81)).alloc (.cells #[.int .i64 1, .int .i64 (-1), .int .i64 0] 3)).alloc (.cells #[.int .i64 1, .int .i64 0, .int .i64 0] 3)).alloc (.cells #[.int .i64 1, .int .i64 (-2), .int .i64 1] 3)).alloc (.cells #[.slice (some ⟨w.heap.size + 1 + 1, 0, none⟩) 3 3, .slice (some ⟨w.heap.size + 1 + 1 + 1, 0, none⟩) 3 3, .slice (some ⟨w.heap.size + 1 + 1 + 1 + 1, 0, none⟩) 3 3] 126)).alloc (.cells #[.int .i64 0, .int .i64 0, .int .i64 0, .int .i64 0, .int .i64 0, .int .i64 0, .int .i64 0, .int .i64 0, .int .i64 0] 81)) = w0 at *
  obtain ⟨fb, hfb, hfu, hfn⟩ : ∃ fb, (∀ i, i < 3 → w0.cell? ⟨fb, i, none⟩ = some (.int .i64 (patN kd i))) ∧ w0.cell? ⟨w.heap.size + 1 + 1 + 1 + 1 + 1, kd, none⟩ = some (.slice (some ⟨fb, 0, none⟩) 3 3) ∧ fb < w.heap.size + 1 + 1 + 1 + 1 + 1 + 1 := by
    rcases three hk with rfl | rfl | rfl
    · exact ⟨_, fun i hi => by rcases three hi with rfl | rfl | rfl <;> exact F00.cellAt _ rfl, U0.cellAt 0 rfl, by omega⟩
    · exact ⟨_, fun i hi => by rcases three hi with rfl | rfl | rfl <;> exact F10.cellAt _ rfl, U0.cellAt 1 rfl, by omega⟩
    · exact ⟨_, fun i hi => by rcases three hi with rfl | rfl | rfl <;> exact F20.cellAt _ rfl, U0.cellAt 2 rfl, by omega⟩
  have hul : w.heap.size + 1 + 1 + 1 + 1 + 1 < w.heap.size + 1 + 1 + 1 + 1 + 1 + 1 := by omega
  rw [← cells_zero (fun i => T * patN kd i) s] at B0
  go_loopw [5] (fun kv wr => ∃ k : Nat, kv = .int .i64 (k : Int) ∧ k ≤ 3 ∧ Blk wr (w.heap.size) 23 #[.int .i64 (kd : Int), .int .i64 t, .int .i64 (s : Int), .bool r] ∧ Blk wr (w.heap.size + 1) 81 #[.int .i64 0, .int .i64 0, .int .i64 0, .int .i64 0, .int .i64 0, .int .i64 0, .int .i64 0, .int .i64 0, .int .i64 0] ∧ Blk wr (w.heap.size + 1 + 1 + 1 + 1 + 1 + 1) 81 (cellsV (fun i => T * patN kd i) s (3 * k)) ∧ Below w.heap.size w wr ∧ (∀ b o, b < w.heap.size + 1 + 1 + 1 + 1 + 1 + 1 → wr.cell? ⟨b, o, none⟩ = w0.cell? ⟨b, o, none⟩)) (fun kv _ => 3 - (intOf kv).toNat)
  case atStart => exact ⟨0, rfl, by omega, A0, R0, B0, S0, fun _ _ _ => rfl⟩
  case round =>
    obtain ⟨k, rfl, hkk, hA, hR, hB, hq, hf⟩ := hrel
    have HF_ := Lib.hid hf
    clear hf
    clear A0 R0 B0 S0 F00 F10 F20 U0
    have k0 : (0 : Int) ≤ (k : Int) := by omega
    by_cases hlt : k < 3
    · have k1 : (k : Int) < 3 := by omega
      have a0 := hA.cellAt 0 rfl
      have a1 := hA.cellAt 1 rfl
      have a2 := hA.cellAt 2 rfl
      have a3 := hA.cellAt 3 rfl
      have al := hA.lt
      go_wp2
      clear a0 a1 a2 a3 al
      have HA_ := Lib.hid hA
      have HR_ := Lib.hid hR
      have HB_ := Lib.hid hB
      have HQ_ := Lib.hid hq
      clear hA hR hB hq
      go_loopw [6] (fun iv wr => ∃ i : Nat, iv = .int .i64 (i : Int) ∧ i ≤ 3 ∧ Blk wr (w.heap.size) 23 #[.int .i64 (kd : Int), .int .i64 t, .int .i64 (s : Int), .bool r] ∧ Blk wr (w.heap.size + 1) 81 #[.int .i64 0, .int .i64 0, .int .i64 0, .int .i64 0, .int .i64 0, .int .i64 0, .int .i64 0, .int .i64 0, .int .i64 0] ∧ Blk wr (w.heap.size + 1 + 1 + 1 + 1 + 1 + 1) 81 (cellsV (fun i => T * patN kd i) s (3 * k + i)) ∧ Below w.heap.size w wr ∧ (∀ b o, b < w.heap.size + 1 + 1 + 1 + 1 + 1 + 1 → wr.cell? ⟨b, o, none⟩ = w0.cell? ⟨b, o, none⟩)) (fun iv _ => 3 - (intOf iv).toNat)
      case atStart => exact ⟨0, rfl, by omega, HA_.out, HR_.out, HB_.out, HQ_.out, HF_.out⟩
      case round =>
        obtain ⟨i, rfl, hii, hA, hR, hB, hq, hf⟩ := hrel
        have HFx := Lib.hid hf
        clear hf HF_
        clear HA_ HR_ HB_ HQ_
        have i0 : (0 : Int) ≤ (i : Int) := by omega
        by_cases hlt2 : i < 3
        · have i1 : (i : Int) < 3 := by omega
          have a0 := hA.cellAt 0 rfl
          have a1 := hA.cellAt 1 rfl
          have a2 := hA.cellAt 2 rfl
          have a3 := hA.cellAt 3 rfl
          have al := hA.lt
          have bc := hB.cellAt _ (cells_at (fun i => T * patN kd i) hlt hlt2 hs)
          have bf := hB.frozen (k * 3 + (k + i + s) % 3)
          have bl := hB.lt
          have HBC := Lib.hid (cells_at (fun i => T * patN kd i) hlt hlt2 hs)
          have HBS := Lib.hid (cells_set (fun i => T * patN kd i) hlt hlt2 hs)
          have hx := patN_range hk hlt2
          have fi := hfb i hlt2
          have fi' := (HFx.out fb i hfn).trans fi
          have fu' := (HFx.out _ kd hul).trans hfu
          have ul : w.heap.size + 1 + 1 + 1 + 1 + 1 < wr.heap.size := by omega
          have fl : fb < wr.heap.size := by omega
          have e1 : IntKind.i64.wrap ((k : Int) + i) = (k : Int) + i := IntWalk.i64_in _ (by omega)
          have e2 : IntKind.i64.wrap ((k : Int) + i + s) = (k : Int) + i + s := IntWalk.i64_in _ (by omega)
          have e3 : ((k : Int) + i + s).tmod 3 = (((k + i + s) % 3 : Nat) : Int) := by rw [Int.tmod_eq_emod_of_nonneg (by omega)]; omega
          have hcm : (k + i + s) % 3 < 3 := Nat.mod_lt _ (by decide)
          generalize (k + i + s) % 3 = c at *
          generalize hpx : patN kd i = x at *
          unfold Sm at hT
          have e4 : IntKind.i64.wrap (G * t) = T := by rw [hGT]; exact IntWalk.i64_in _ (by omega)
          have e5 : IntKind.i64.wrap (T * x) = T * x := IntWalk.i64_in _ (by rcases hx with h | h | h | h <;> rw [h] <;> omega)
          have e6 : wrap64 (T * x) = T * x := (IntWalk.i64_left (T * x)).symm.trans e5
          clear hpx hx
          have c0 : (0 : Int) ≤ (c : Int) := by omega
          have c1 : (c : Int) < 3 := by omega
          go_wp2
          refine region_below 24 follows_mixed (by kernel_rfl) ?_
          intro C hC
          simp only [List.take_succ_cons, List.take_zero, List.drop_succ_cons, List.drop_zero]
          repeat (first
            | ((with_reducible refine quiet_plain rfl (fun K hK => ?_)); (focus (apply quiet_val; (focus (intro w' hw; obtain ⟨hcq, hfq⟩ := bcell ((hC.out _).1 hw); go_simp; (first | done | rfl | (with_reducible exact call_below hC hw (HS.out _))))); (simp only [Act.put, List.setIfInBounds_toArray, List.set_cons_succ, List.set_cons_zero]); (with_reducible refine hK _ ?_); clear hK K)))
            | ((with_reducible refine quiet_skip ?_ ?_); (focus (first | (simp [Region.wanted, yielded]; done) | (simp [Region.wanted, yielded, undef]; done))); simp only [Act.put, List.setIfInBounds_toArray, List.set_cons_succ, List.set_cons_zero])
            | ((with_reducible refine quiet_go ?_ (fun K hK => ?_)); (focus (first | (simp [Region.wanted, yielded]; done) | (simp [Region.wanted, yielded, undef]; done))); (focus (apply quiet_val; (focus (intro w' hw; obtain ⟨hcq, hfq⟩ := bcell ((hC.out _).1 hw); go_simp; (first | done | rfl | (with_reducible exact call_below hC hw (HS.out _))))); (simp only [Act.put, List.setIfInBounds_toArray, List.set_cons_succ, List.set_cons_zero]); (with_reducible refine hK _ ?_); clear hK K))))
          refine wpQuiet_nil ?_
          intro w1 hb1
          replace hb1 := (hC.out _).1 hb1
          clear hC C
          obtain ⟨hc1, hf1⟩ := bcell hb1
          have A1 := hA.past hb1
          have R1 := hR.past hb1
          have B1 := hB.past hb1
          have Q1 := pt hq hb1
          have F1_ := Lib.hid (show ∀ b o, b < w.heap.size + 1 + 1 + 1 + 1 + 1 + 1 → w1.cell? ⟨b, o, none⟩ = w0.cell? ⟨b, o, none⟩ from fun b o h => (hc1 b o (by omega)).trans (HFx.out b o h))
          clear hb1 hc1 hf1 a0 a1 a2 a3 al bc bf bl fi fi' fu'
          have bc := B1.cellAt _ (show (cellsV (fun i => T * patN kd i) s (3 * k + i))[k * 3 + c]? = some (.int .i64 0) from HBC.out)
          have bf := B1.frozen (k * 3 + c)
          have bl := B1.lt
          go_wp2
          go_roundw
          case rel =>
            refine ⟨i + 1, by go_num, by omega, A1.far (by dsimp only; omega), R1.far (by dsimp only; omega), ?_, ps Q1 (by dsimp only; omega), fun b o h => ?_⟩
            · have q := B1.set_ (k * 3 + c) (.int .i64 (T * x))
              rw [HBS.out] at q
              exact q
            · exact (cell_far (by dsimp only; omega)).trans (F1_.out b o h)
          case measure => simp [intOf]; omega
        · have hi3 : i = 3 := by omega
          have HB9 := Lib.hid (show Blk wr (w.heap.size + 1 + 1 + 1 + 1 + 1 + 1) 81 (cellsV (fun i => T * patN kd i) s (3 * (k + 1))) from by rw [show 3 * (k + 1) = 3 * k + i by omega]; exact hB)
          have HA9 := Lib.hid hA
          have HR9 := Lib.hid hR
          have HQ9 := Lib.hid hq
          clear hi3 hA hR hB hq
          go_wp2
          go_roundw
          case rel => exact ⟨k + 1, by go_num, by omega, HA9.out, HR9.out, HB9.out, HQ9.out, HFx.out⟩
          case measure => simp [intOf]; omega
    · have hk3 : 3 * k = 9 := by omega
      rw [hk3, HEnd.out] at hB
      clear hk3
      go_wp2_with (first
        | ((with_reducible refine load_blk (T := 81) (x := .tmp 4) hB Tryz.underlying81 ?_ ?_ ?_ ?_); (focus rfl); (focus exact apiLines_size); (focus rfl))
        | ((with_reducible refine store_blk (T := 81) (x := .tmp 2) (y := .tmp 43) (vs := #[.int .i64 L.x.a, .int .i64 L.x.b, .int .i64 L.x.c, .int .i64 L.y.a, .int .i64 L.y.b, .int .i64 L.y.c, .int .i64 L.z.a, .int .i64 L.z.b, .int .i64 L.z.c]) hR ?_ ?_ ?_ ?_ ?_ ?_); (focus rfl); (focus exact apiLines_size); (focus (simp [Value.oneCell']; done)); (focus rfl); (focus rfl); intro WF RF PF))
      have g0 := RF.cellAt 0 rfl
      have g1 := RF.cellAt 1 rfl
      have g2 := RF.cellAt 2 rfl
      have g3 := RF.cellAt 3 rfl
      have g4 := RF.cellAt 4 rfl
      have g5 := RF.cellAt 5 rfl
      have g6 := RF.cellAt 6 rfl
      have g7 := RF.cellAt 7 rfl
      have g8 := RF.cellAt 8 rfl
      exact bodyPost_ret (v := .agg #[.int .i64 L.x.a, .int .i64 L.x.b, .int .i64 L.x.c, .int .i64 L.y.a, .int .i64 L.y.b, .int .i64 L.y.c, .int .i64 L.z.a, .int .i64 L.z.b, .int .i64 L.z.c]) (by simp [results, Tryz.results36, go_sem, g0, g1, g2, g3, g4, g5, g6, g7, g8]) rfl ⟨rfl, pp hq PF (by omega)⟩

theorem refLines_any (k t s : Int) (r : Bool) (hu : (Wind.mk k t s r).ok) (L : L3) (hL : linesV ⟨k, t, s, r⟩ = L) (w : World) :
    Calls Tryz.prog 36 #[.agg #[.int .i64 k, .int .i64 t, .int .i64 s, .bool r]] w fun e w' => e = .returned (.agg #[.int .i64 L.x.a, .int .i64 L.x.b, .int .i64 L.x.c, .int .i64 L.y.a, .int .i64 L.y.b, .int .i64 L.y.c, .int .i64 L.z.a, .int .i64 L.z.b, .int .i64 L.z.c]) ∧ Below w.heap.size w w' := by
  obtain ⟨h1, h2, h3, h4, h5, h6⟩ := hu
  dsimp only at *
  obtain ⟨kd, rfl⟩ : ∃ n : Nat, k = (n : Int) := ⟨k.toNat, by omega⟩
  obtain ⟨sn, rfl⟩ : ∃ n : Nat, s = (n : Int) := ⟨s.toNat, by omega⟩
  have e : (if r then (-1 : Int) else 1) * t = sgnT t r := by unfold sgnT; cases r <;> simp
  exact refLines_core kd sn t _ r (by omega) (by omega) (sgnT t r) (sgnT_sm r h3 h4) e (sign_any kd t sn r) L hL w

end Go.Proofs.YtnhcamokcggnkaaGreatDoor
