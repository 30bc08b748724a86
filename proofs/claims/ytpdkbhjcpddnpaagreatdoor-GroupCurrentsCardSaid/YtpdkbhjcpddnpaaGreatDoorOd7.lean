/- Contract of group.linesOf: the lines of a valid winding. Printed by a program (gen_newlines.py). -/
import Derived.Test.YtpdkbhjcpddnpaaGreatDoorOc2
import Derived.Test.YtpdkbhjcpddnpaaGreatDoorOa4

section
namespace Go.Proofs.YtpdkbhjcpddnpaaGreatDoor
open Go.RowKit
attribute [local go_sem ↓] Go.wp_at_zero Go.wp_at_succ

/-- What the cell j of lines holds behind n of the nine steps. -/
def cellV (v : Nat → Int) (s n j : Nat) : Int := if 3 * (j / 3) + (j % 3 + 6 - j / 3 - s) % 3 < n then v ((j % 3 + 6 - j / 3 - s) % 3) else 0
def cellsV (v : Nat → Int) (s n : Nat) : Array Value := #[.int .i64 (cellV v s n 0), .int .i64 (cellV v s n 1), .int .i64 (cellV v s n 2), .int .i64 (cellV v s n 3), .int .i64 (cellV v s n 4), .int .i64 (cellV v s n 5), .int .i64 (cellV v s n 6), .int .i64 (cellV v s n 7), .int .i64 (cellV v s n 8)]
theorem three {k : Nat} (h : k < 3) : k = 0 ∨ k = 1 ∨ k = 2 := by omega
theorem cells_zero (v : Nat → Int) (s : Nat) : cellsV v s 0 = #[.int .i64 0, .int .i64 0, .int .i64 0, .int .i64 0, .int .i64 0, .int .i64 0, .int .i64 0, .int .i64 0, .int .i64 0] := by simp [cellsV, cellV]
theorem cells_at (v : Nat → Int) {k i s : Nat} (hk : k < 3) (hi : i < 3) (hs : s < 3) : (cellsV v s (3 * k + i))[k * 3 + (k + i + s) % 3]? = some (.int .i64 0) := by
  rcases three hk with rfl | rfl | rfl <;> rcases three hi with rfl | rfl | rfl <;> rcases three hs with rfl | rfl | rfl <;> rfl
theorem cells_set (v : Nat → Int) {k i s : Nat} (hk : k < 3) (hi : i < 3) (hs : s < 3) : (cellsV v s (3 * k + i)).setIfInBounds (k * 3 + (k + i + s) % 3) (.int .i64 (v i)) = cellsV v s (3 * k + i + 1) := by
  rcases three hk with rfl | rfl | rfl <;> rcases three hi with rfl | rfl | rfl <;> rcases three hs with rfl | rfl | rfl <;> rfl
/-- The turns of a kind on a limb. -/
def patN (kd i : Nat) : Int := if i = 0 then (patV kd).a else if i = 1 then (patV kd).b else (patV kd).c
theorem patN_range {kd i : Nat} (hk : kd < 3) (hi : i < 3) : patN kd i = 1 ∨ patN kd i = -1 ∨ patN kd i = 0 ∨ patN kd i = -2 := by
  rcases three hk with rfl | rfl | rfl <;> rcases three hi with rfl | rfl | rfl <;> simp [patN, patV]
theorem cells_end (T : Int) {kd s : Nat} (hk : kd < 3) (hs : s < 3) (v : Nat → Int) (hv : ∀ i, v i = T * patN kd i) (L : L3) (hL : rowsV T kd s = L) : cellsV v s 9 = #[.int .i64 L.x.a, .int .i64 L.x.b, .int .i64 L.x.c, .int .i64 L.y.a, .int .i64 L.y.b, .int .i64 L.y.c, .int .i64 L.z.a, .int .i64 L.z.b, .int .i64 L.z.c] := by
  subst hL
  rcases three hk with rfl | rfl | rfl <;> rcases three hs with rfl | rfl | rfl <;> simp [cellsV, cellV, hv, patN, rowsV, scaleV, onN, onV, patV]

theorem i3_sym (a b c : Int) {i : Nat} (hi : i < 3) (W : World) : Sem.run Tryz.prog (Instr.index 94 (.agg #[.int .i64 a, .int .i64 b, .int .i64 c]) (.int .i64 (i : Int))) W = .ok (.int .i64 (if i = 0 then a else if i = 1 then b else c)) W := by
  rcases three hi with rfl | rfl | rfl
  · exact i3_at0 a b c W
  · exact i3_at1 a b c W
  · exact i3_at2 a b c W
theorem pat_cells {w : World} (h : PatIn w) {kd : Nat} (hk : kd < 3) : w.cell? ⟨0, kd * 4 + 1, none⟩ = some (.int .i64 (patV kd).a) ∧ w.cell? ⟨0, kd * 4 + 1 + 1, none⟩ = some (.int .i64 (patV kd).b) ∧ w.cell? ⟨0, kd * 4 + 1 + 2, none⟩ = some (.int .i64 (patV kd).c) := by
  rcases three hk with rfl | rfl | rfl <;> exact ⟨h.2 _ (by decide), h.2 _ (by decide), h.2 _ (by decide)⟩

theorem sgnT_sm {t : Int} (r : Bool) (h1 : 1 ≤ t) (h2 : t ≤ 2000) : Sm 2000 (sgnT t r) := by unfold Sm sgnT; split <;> omega

set_option maxHeartbeats 8000000 in
set_option maxRecDepth 100000 in
theorem linesOf_core (kd s : Nat) (t T : Int) (r : Bool) (hk : kd < 3) (hs : s < 3) (hT : Sm 2000 T) (hS : ∀ w, Calls Tryz.prog 121 #[.agg #[.int .i64 (kd : Int), .int .i64 t, .int .i64 (s : Int), .bool r]] w fun e w' => e = .returned (.int .i64 T) ∧ Below w.heap.size w w') (L : L3) (hL : rowsV T kd s = L) (w : World) (hP : PatIn w) :
    Calls Tryz.prog 78 #[.agg #[.int .i64 (kd : Int), .int .i64 t, .int .i64 (s : Int), .bool r]] w fun e w' => e = .returned (.agg #[.int .i64 L.x.a, .int .i64 L.x.b, .int .i64 L.x.c, .int .i64 L.y.a, .int .i64 L.y.b, .int .i64 L.y.c, .int .i64 L.z.a, .int .i64 L.z.b, .int .i64 L.z.c]) ∧ Below w.heap.size w w' := by
  have HEnd := Lib.hid (cells_end T hk hs (fun i => patN kd i * T) (fun i => Int.mul_comm _ _) L hL)
  have HS := Lib.hid hS
  have HP := Lib.hid (fun w' (h : Below w.heap.size w w') => hP.below h)
  have hgp := hP.1
  have s0 : (0 : Int) ≤ (s : Int) := by omega
  have s1 : (s : Int) < 3 := by omega
  have d0 : (0 : Int) ≤ (kd : Int) := by omega
  have d1 : (kd : Int) < 3 := by omega
  clear hS hL hP
  go_enter Tryz.func78, Tryz.ntmps78
  go_wp2
  have A0 : Blk (((w.alloc (.cells #[.int .i64 (kd : Int), .int .i64 t, .int .i64 (s : Int), .bool r] 45)).alloc (.cells #[.int .i64 0, .int .i64 0, .int .i64 0, .int .i64 0, .int .i64 0, .int .i64 0, .int .i64 0, .int .i64 0, .int .i64 0] 154)).alloc (.cells #[.int .i64 0, .int .i64 0, .int .i64 0, .int .i64 0, .int .i64 0, .int .i64 0, .int .i64 0, .int .i64 0, .int .i64 0] 154)) (w.heap.size) 45 #[.int .i64 (kd : Int), .int .i64 t, .int .i64 (s : Int), .bool r] := (Blk.newAt (by simp)).alloc.alloc
  have R0 : Blk (((w.alloc (.cells #[.int .i64 (kd : Int), .int .i64 t, .int .i64 (s : Int), .bool r] 45)).alloc (.cells #[.int .i64 0, .int .i64 0, .int .i64 0, .int .i64 0, .int .i64 0, .int .i64 0, .int .i64 0, .int .i64 0, .int .i64 0] 154)).alloc (.cells #[.int .i64 0, .int .i64 0, .int .i64 0, .int .i64 0, .int .i64 0, .int .i64 0, .int .i64 0, .int .i64 0, .int .i64 0] 154)) (w.heap.size + 1) 154 #[.int .i64 0, .int .i64 0, .int .i64 0, .int .i64 0, .int .i64 0, .int .i64 0, .int .i64 0, .int .i64 0, .int .i64 0] := (Blk.newAt (by simp)).alloc
  have B0 : Blk (((w.alloc (.cells #[.int .i64 (kd : Int), .int .i64 t, .int .i64 (s : Int), .bool r] 45)).alloc (.cells #[.int .i64 0, .int .i64 0, .int .i64 0, .int .i64 0, .int .i64 0, .int .i64 0, .int .i64 0, .int .i64 0, .int .i64 0] 154)).alloc (.cells #[.int .i64 0, .int .i64 0, .int .i64 0, .int .i64 0, .int .i64 0, .int .i64 0, .int .i64 0, .int .i64 0, .int .i64 0] 154)) (w.heap.size + 1 + 1) 154 #[.int .i64 0, .int .i64 0, .int .i64 0, .int .i64 0, .int .i64 0, .int .i64 0, .int .i64 0, .int .i64 0, .int .i64 0] := (Blk.newAt (by simp))
  have S0 : Below w.heap.size w (((w.alloc (.cells #[.int .i64 (kd : Int), .int .i64 t, .int .i64 (s : Int), .bool r] 45)).alloc (.cells #[.int .i64 0, .int .i64 0, .int .i64 0, .int .i64 0, .int .i64 0, .int .i64 0, .int .i64 0, .int .i64 0, .int .i64 0] 154)).alloc (.cells #[.int .i64 0, .int .i64 0, .int .i64 0, .int .i64 0, .int .i64 0, .int .i64 0, .int .i64 0, .int .i64 0, .int .i64 0] 154)) := pa (pa (pa (pr)))
  generalize (((w.alloc (.cells #[.int .i64 (kd : Int), .int .i64 t, .int .i64 (s : Int), .bool r] 45)).alloc (.cells #[.int .i64 0, .int .i64 0, .int .i64 0, .int .i64 0, .int .i64 0, .int .i64 0, .int .i64 0, .int .i64 0, .int .i64 0] 154)).alloc (.cells #[.int .i64 0, .int .i64 0, .int .i64 0, .int .i64 0, .int .i64 0, .int .i64 0, .int .i64 0, .int .i64 0, .int .i64 0] 154)) = w0 at *
  rw [← cells_zero (fun i => patN kd i * T) s] at B0
  go_loopw [7] (fun kv wr => ∃ k : Nat, kv = .int .i64 (k : Int) ∧ k ≤ 3 ∧ Blk wr (w.heap.size) 45 #[.int .i64 (kd : Int), .int .i64 t, .int .i64 (s : Int), .bool r] ∧ Blk wr (w.heap.size + 1) 154 #[.int .i64 0, .int .i64 0, .int .i64 0, .int .i64 0, .int .i64 0, .int .i64 0, .int .i64 0, .int .i64 0, .int .i64 0] ∧ Blk wr (w.heap.size + 1 + 1) 154 (cellsV (fun i => patN kd i * T) s (3 * k)) ∧ Below w.heap.size w wr) (fun kv _ => 3 - (intOf kv).toNat)
  case atStart => exact ⟨0, rfl, by omega, A0, R0, B0, S0⟩
  case round =>
    obtain ⟨k, rfl, hkk, hA, hR, hB, hq⟩ := hrel
    clear A0 R0 B0 S0
    have k0 : (0 : Int) ≤ (k : Int) := by omega
    by_cases hlt : k < 3
    · have k1 : (k : Int) < 3 := by omega
      have a0 := hA.cellAt 0 rfl
      have a1 := hA.cellAt 1 rfl
      have a2 := hA.cellAt 2 rfl
      have a3 := hA.cellAt 3 rfl
      have al := hA.lt
      obtain ⟨q1, q2, q3⟩ := pat_cells (HP.out _ hq) hk
      have ql := (HP.out _ hq).1
      generalize hpa : (patV kd).a = pa_ at *
      generalize hpb : (patV kd).b = pb_ at *
      generalize hpc : (patV kd).c = pc_ at *
      have HPN := Lib.hid (show ∀ i, patN kd i = if i = 0 then pa_ else if i = 1 then pb_ else pc_ from fun i => by unfold patN; rw [hpa, hpb, hpc])
      clear hpa hpb hpc
      go_wp2
      clear q1 q2 q3 ql a0 a1 a2 a3 al
      have HA_ := Lib.hid hA
      have HR_ := Lib.hid hR
      have HB_ := Lib.hid hB
      have HQ_ := Lib.hid hq
      clear hA hR hB hq
      go_loopw [15] (fun iv wr => ∃ i : Nat, iv = .int .i64 (i : Int) ∧ i ≤ 3 ∧ Blk wr (w.heap.size) 45 #[.int .i64 (kd : Int), .int .i64 t, .int .i64 (s : Int), .bool r] ∧ Blk wr (w.heap.size + 1) 154 #[.int .i64 0, .int .i64 0, .int .i64 0, .int .i64 0, .int .i64 0, .int .i64 0, .int .i64 0, .int .i64 0, .int .i64 0] ∧ Blk wr (w.heap.size + 1 + 1) 154 (cellsV (fun i => patN kd i * T) s (3 * k + i)) ∧ Below w.heap.size w wr) (fun iv _ => 3 - (intOf iv).toNat)
      case atStart => exact ⟨0, rfl, by omega, HA_.out, HR_.out, HB_.out, HQ_.out⟩
      case round =>
        obtain ⟨i, rfl, hii, hA, hR, hB, hq⟩ := hrel
        clear HA_ HR_ HB_ HQ_
        have i0 : (0 : Int) ≤ (i : Int) := by omega
        by_cases hlt2 : i < 3
        · have i1 : (i : Int) < 3 := by omega
          have a0 := hA.cellAt 0 rfl
          have a1 := hA.cellAt 1 rfl
          have a2 := hA.cellAt 2 rfl
          have a3 := hA.cellAt 3 rfl
          have al := hA.lt
          have bc := hB.cellAt _ (cells_at (fun i => patN kd i * T) hlt hlt2 hs)
          have bf := hB.frozen (k * 3 + (k + i + s) % 3)
          have bl := hB.lt
          have HBC := Lib.hid (cells_at (fun i => patN kd i * T) hlt hlt2 hs)
          have HBS := Lib.hid (cells_set (fun i => patN kd i * T) hlt hlt2 hs)
          have hx := patN_range hk hlt2
          have hidx := fun W => i3_sym pa_ pb_ pc_ hlt2 W
          rw [← HPN.out i] at hidx
          have e1 : IntKind.i64.wrap ((k : Int) + s) = (k : Int) + s := IntWalk.i64_in _ (by omega)
          have e2 : IntKind.i64.wrap ((k : Int) + s + i) = (k : Int) + s + i := IntWalk.i64_in _ (by omega)
          have e3 : ((k : Int) + s + i).tmod 3 = (((k + i + s) % 3 : Nat) : Int) := by rw [Int.tmod_eq_emod_of_nonneg (by omega)]; omega
          have hcm : (k + i + s) % 3 < 3 := Nat.mod_lt _ (by decide)
          generalize (k + i + s) % 3 = c at *
          generalize hpx : patN kd i = x at *
          unfold Sm at hT
          have e4 : IntKind.i64.wrap (x * T) = x * T := IntWalk.i64_in _ (by rcases hx with h | h | h | h <;> rw [h] <;> omega)
          have e5 : IntKind.i64.wrap (0 + x * T) = x * T := by rw [Int.zero_add]; exact e4
          clear hpx hx
          have c0 : (0 : Int) ≤ (c : Int) := by omega
          have c1 : (c : Int) < 3 := by omega
          go_wp2
          refine region_below 18 follows_mixed (by kernel_rfl) ?_
          intro C hC
          simp only [List.take_succ_cons, List.take_zero, List.drop_succ_cons, List.drop_zero]
          repeat (first
            | ((with_reducible refine quiet_plain rfl (fun K hK => ?_)); (focus (apply quiet_val; (focus (intro w' hw; obtain ⟨hcq, hfq⟩ := bcell ((hC.out _).1 hw); go_simp; (first | done | rfl | (with_reducible exact call_below hC hw (HS.out _))))); (simp only [Act.put, List.setIfInBounds_toArray, List.set_cons_succ, List.set_cons_zero]); (with_reducible refine hK _ ?_); clear hK K)))
            | ((with_reducible refine quiet_skip ?_ ?_); (focus (first | (simp [Region.wanted, yielded]; done) | (simp [Region.wanted, yielded, undef]; done))); simp only [Act.put, List.setIfInBounds_toArray, List.set_cons_succ, List.set_cons_zero])
            | ((with_reducible refine quiet_go ?_ (fun K hK => ?_)); (focus (first | (simp [Region.wanted, yielded]; done) | (simp [Region.wanted, yielded, undef]; done))); (focus (apply quiet_val; (focus (intro w' hw; obtain ⟨hcq, hfq⟩ := bcell ((hC.out _).1 hw); go_simp; (first | done | rfl | (with_reducible exact call_below hC hw (HS.out _))))); (simp only [Act.put, List.setIfInBounds_toArray, List.set_cons_succ, List.set_cons_zero]); (with_reducible refine hK _ ?_); clear hK K))))
          refine wpQuiet_nil ?_
          intro w1 hb1
          replace hb1 := (hC.out _).1 hb1
          clear hC C
          obtain ⟨hc1, hf1⟩ := bcell hb1
          have A1 := hA.past hb1
          have R1 := hR.past hb1
          have B1 := hB.past hb1
          have Q1 := pt hq hb1
          
          clear hb1 hc1 hf1 a0 a1 a2 a3 al bc bf bl
          have bc := B1.cellAt _ (show (cellsV (fun i => patN kd i * T) s (3 * k + i))[k * 3 + c]? = some (.int .i64 0) from HBC.out)
          have bf := B1.frozen (k * 3 + c)
          have bl := B1.lt
          go_wp2
          go_roundw
          case rel =>
            refine ⟨i + 1, by go_num, by omega, A1.far (by dsimp only; omega), R1.far (by dsimp only; omega), ?_, ps Q1 (by dsimp only; omega)⟩
            · have q := B1.set_ (k * 3 + c) (.int .i64 (x * T))
              rw [HBS.out] at q
              exact q
            
          case measure => simp [intOf]; omega
        · have hi3 : i = 3 := by omega
          have HB9 := Lib.hid (show Blk wr (w.heap.size + 1 + 1) 154 (cellsV (fun i => patN kd i * T) s (3 * (k + 1))) from by rw [show 3 * (k + 1) = 3 * k + i by omega]; exact hB)
          have HA9 := Lib.hid hA
          have HR9 := Lib.hid hR
          have HQ9 := Lib.hid hq
          clear hi3 hA hR hB hq
          go_wp2
          go_roundw
          case rel => exact ⟨k + 1, by go_num, by omega, HA9.out, HR9.out, HB9.out, HQ9.out⟩
          case measure => simp [intOf]; omega
    · have hk3 : 3 * k = 9 := by omega
      rw [hk3, HEnd.out] at hB
      clear hk3
      go_wp2_with (first
        | ((with_reducible refine load_blk (T := 154) (x := .tmp 3) hB Tryz.underlying154 ?_ ?_ ?_ ?_); (focus rfl); (focus exact lines_size); (focus rfl))
        | ((with_reducible refine store_blk (T := 154) (x := .tmp 2) (y := .tmp 39) (vs := #[.int .i64 L.x.a, .int .i64 L.x.b, .int .i64 L.x.c, .int .i64 L.y.a, .int .i64 L.y.b, .int .i64 L.y.c, .int .i64 L.z.a, .int .i64 L.z.b, .int .i64 L.z.c]) hR ?_ ?_ ?_ ?_ ?_ ?_); (focus rfl); (focus exact lines_size); (focus (simp [Value.oneCell']; done)); (focus rfl); (focus rfl); intro WF RF PF))
      have g0 := RF.cellAt 0 rfl
      have g1 := RF.cellAt 1 rfl
      have g2 := RF.cellAt 2 rfl
      have g3 := RF.cellAt 3 rfl
      have g4 := RF.cellAt 4 rfl
      have g5 := RF.cellAt 5 rfl
      have g6 := RF.cellAt 6 rfl
      have g7 := RF.cellAt 7 rfl
      have g8 := RF.cellAt 8 rfl
      exact bodyPost_ret (v := .agg #[.int .i64 L.x.a, .int .i64 L.x.b, .int .i64 L.x.c, .int .i64 L.y.a, .int .i64 L.y.b, .int .i64 L.y.c, .int .i64 L.z.a, .int .i64 L.z.b, .int .i64 L.z.c]) (by simp [results, Tryz.results78, go_sem, g0, g1, g2, g3, g4, g5, g6, g7, g8]) rfl ⟨rfl, pp hq PF (by omega)⟩

theorem linesOf_any (k t s : Int) (r : Bool) (hu : (Wind.mk k t s r).ok) (w : World) (hP : PatIn w) :
    Calls Tryz.prog 78 #[.agg #[.int .i64 k, .int .i64 t, .int .i64 s, .bool r]] w fun e w' => e = .returned (.agg #[.int .i64 (linesV ⟨k, t, s, r⟩).x.a, .int .i64 (linesV ⟨k, t, s, r⟩).x.b, .int .i64 (linesV ⟨k, t, s, r⟩).x.c, .int .i64 (linesV ⟨k, t, s, r⟩).y.a, .int .i64 (linesV ⟨k, t, s, r⟩).y.b, .int .i64 (linesV ⟨k, t, s, r⟩).y.c, .int .i64 (linesV ⟨k, t, s, r⟩).z.a, .int .i64 (linesV ⟨k, t, s, r⟩).z.b, .int .i64 (linesV ⟨k, t, s, r⟩).z.c]) ∧ Below w.heap.size w w' := by
  obtain ⟨h1, h2, h3, h4, h5, h6⟩ := hu
  dsimp only at *
  obtain ⟨kd, rfl⟩ : ∃ n : Nat, k = (n : Int) := ⟨k.toNat, by omega⟩
  obtain ⟨sn, rfl⟩ : ∃ n : Nat, s = (n : Int) := ⟨s.toNat, by omega⟩
  exact linesOf_core kd sn t (sgnT t r) r (by omega) (by omega) (sgnT_sm r h3 h4) (signed_any kd t sn r (by unfold Sm; omega)) (linesV ⟨kd, t, sn, r⟩) rfl w hP

theorem linesV_sm {k t s : Int} {r : Bool} (hu : (Wind.mk k t s r).ok) : Sm 4000 (linesV ⟨k, t, s, r⟩).x.a ∧ Sm 4000 (linesV ⟨k, t, s, r⟩).x.b ∧ Sm 4000 (linesV ⟨k, t, s, r⟩).x.c ∧ Sm 4000 (linesV ⟨k, t, s, r⟩).y.a ∧ Sm 4000 (linesV ⟨k, t, s, r⟩).y.b ∧ Sm 4000 (linesV ⟨k, t, s, r⟩).y.c ∧ Sm 4000 (linesV ⟨k, t, s, r⟩).z.a ∧ Sm 4000 (linesV ⟨k, t, s, r⟩).z.b ∧ Sm 4000 (linesV ⟨k, t, s, r⟩).z.c := by
  obtain ⟨h1, h2, h3, h4, h5, h6⟩ := hu
  dsimp only at *
  have hT := sgnT_sm r h3 h4
  have hk : (k = 0 ∨ k = 1 ∨ k = 2) := by omega
  have hs : (s = 0 ∨ s = 1 ∨ s = 2) := by omega
  have e : ∀ k s, linesV ⟨k, t, s, r⟩ = rowsV (sgnT t r) k s := fun k s => rfl
  rw [e]
  generalize sgnT t r = T at *
  unfold Sm at *
  rcases hk with rfl | rfl | rfl <;> rcases hs with rfl | rfl | rfl <;> simp [rowsV, scaleV, onN, onV, patV] <;> omega

end Go.Proofs.YtpdkbhjcpddnpaaGreatDoor
end
