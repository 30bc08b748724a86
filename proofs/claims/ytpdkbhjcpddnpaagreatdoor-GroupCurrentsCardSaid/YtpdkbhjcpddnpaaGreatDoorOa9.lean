/- Contracts: wide numbers: opposite, sign, the number of an int, sum, difference, comparison. Printed by a program (gen_wide.py).
Contracts: the difference of wide numbers, and which one is greater. Printed by a program (gen_widesub.py). -/
import Derived.Test.YtpdkbhjcpddnpaaGreatDoorOa7
import Derived.Test.YtpdkbhjcpddnpaaGreatDoorOa8

section
namespace Go.Proofs.YtpdkbhjcpddnpaaGreatDoor
open Go.RowKit
attribute [local go_sem ↓] Go.wp_at_zero Go.wp_at_succ

theorem sign_bd (n : Int) : -1 ≤ signD n ∧ signD n ≤ 1 := by rcases signD_cases n with ⟨h, _⟩ | ⟨h, _⟩ | ⟨h, _⟩ <;> omega
/-- A wide number as a result. -/
def WideRet (w : World) (n : Int) (e : Ending) (w' : World) : Prop := ∃ (A : Option Addr) (c : Nat), e = .returned (wideV n A c) ∧ WideAt w' A c n ∧ Below w.heap.size w w'
theorem wd_max {a b : Nat} (h : a < wL) (g : b < wL) : max a b + 1 ≤ wL := by omega
theorem eq_facts {a b : Int} (h : a = b) : (a == b) = true := by rw [h]; exact beq_self_eq_true _
theorem neq_facts {a b : Int} (h : a ≠ b) : (a == b) = false := beq_eq_false_iff_ne.2 h

set_option maxHeartbeats 4000000 in
set_option maxRecDepth 100000 in
theorem wideNeg_any (n : Int) (A : Option Addr) (c : Nat) (w : World) :
    Calls Tryz.prog 106 #[wideV n A c] w fun e w' => e = .returned (wideV (-n) A c) ∧ Below w.heap.size w w' := by
  obtain ⟨s0, s1⟩ := sign_bd n
  unfold wideV
  rw [signD_neg, dl_neg]
  generalize signD n = s at *
  generalize dl n = k at *
  go_enter Tryz.func106, Tryz.ntmps106
  go_wp2_with ((with_reducible refine store_blk (T := 53) (x := .tmp 2) (y := .tmp 8) (vs := #[.int .i64 (-s), .slice A k c]) (show Blk _ (w.heap.size + 1) _ #[.int .i64 0, .slice none 0 0] from Blk.newAt (by simp)) ?_ ?_ ?_ ?_ ?_ ?_); (focus rfl); (focus exact wide_size); (focus (simp [Value.oneCell']; done)); (focus rfl); (focus rfl); intro WF RF PF)
  have g0 := RF.cellAt 0 rfl
  have g1 := RF.cellAt 1 rfl
  exact bodyPost_ret (v := .agg #[.int .i64 (-s), .slice A k c]) (by simp [results, Tryz.results106, go_sem, g0, g1]) rfl ⟨rfl, pp (pa (pa pr)) PF (Nat.le_succ _)⟩

set_option maxHeartbeats 4000000 in
set_option maxRecDepth 100000 in
theorem wideSign_any (n : Int) (A : Option Addr) (c : Nat) (w : World) :
    Calls Tryz.prog 105 #[wideV n A c] w fun e w' => e = .returned (.int .i64 (signD n)) ∧ Below w.heap.size w w' := by
  unfold wideV
  go_enter Tryz.func105, Tryz.ntmps105
  go_wp2
  go_ret
  exact ⟨rfl, pa pr⟩


set_option maxHeartbeats 8000000 in
set_option maxRecDepth 100000 in
theorem wideAdd_left (a b : Int) (A A2 : Option Addr) (c c2 : Nat) (w : World) (ha : WideAt w A c a) (hb : WideAt w A2 c2 b) (hla : dl a < wL) (_hlb : dl b < wL) (h : a = 0) :
    Calls Tryz.prog 97 #[wideV a A c, wideV b A2 c2] w (WideRet w (a + b)) := by
  have HAt := Lib.hid hb
  subst h
  have e0 : signD 0 = 0 := rfl
  rw [Int.zero_add]
  unfold wideV
  rw [e0]
  clear ha hb hla _hlb e0
  generalize dl 0 = k at *
  have HV := Lib.hid (show wideV b A2 c2 = .agg #[.int .i64 (signD b), .slice A2 (dl b) c2] from rfl)
  generalize signD b = s at *
  generalize dl b = k2 at *
  go_enter Tryz.func97, Tryz.ntmps97
  go_wp2_with ((with_reducible refine store_blk (T := 53) (x := .tmp 4) (y := .tmp 9) (vs := #[.int .i64 s, .slice A2 k2 c2]) (show Blk _ (w.heap.size + 1 + 1) _ #[.int .i64 0, .slice none 0 0] from Blk.newAt (by simp)) ?_ ?_ ?_ ?_ ?_ ?_); (focus rfl); (focus exact wide_size); (focus (simp [Value.oneCell']; done)); (focus rfl); (focus rfl); intro WF RF PF)
  have g0 := RF.cellAt 0 rfl
  have g1 := RF.cellAt 1 rfl
  have hbw := pp (pa (pa (pa (pr (w := w))))) PF (Nat.le_add_right _ 2)
  exact bodyPost_ret (v := .agg #[.int .i64 s, .slice A2 k2 c2]) (by simp [results, Tryz.results97, go_sem, g0, g1]) rfl ⟨A2, c2, by rw [HV.out], HAt.out.past hbw, hbw⟩

set_option maxHeartbeats 8000000 in
set_option maxRecDepth 100000 in
theorem wideAdd_right (a b : Int) (A A2 : Option Addr) (c c2 : Nat) (w : World) (ha : WideAt w A c a) (hb : WideAt w A2 c2 b) (_hla : dl a < wL) (hlb : dl b < wL) (h0 : a ≠ 0) (h : b = 0) :
    Calls Tryz.prog 97 #[wideV a A c, wideV b A2 c2] w (WideRet w (a + b)) := by
  have HAt := Lib.hid ha
  subst h
  have e9 := neq_facts (fun e => h0 (signD_zero.1 e) : signD a ≠ 0)
  have e0 : signD 0 = 0 := rfl
  rw [Int.add_zero]
  unfold wideV
  rw [e0]
  clear ha hb _hla hlb e0
  generalize dl 0 = k2 at *
  have HV := Lib.hid (show wideV a A c = .agg #[.int .i64 (signD a), .slice A (dl a) c] from rfl)
  clear h0
  generalize signD a = s at *
  generalize dl a = k at *
  go_enter Tryz.func97, Tryz.ntmps97
  go_wp2_with ((with_reducible refine store_blk (T := 53) (x := .tmp 4) (y := .tmp 13) (vs := #[.int .i64 s, .slice A k c]) (show Blk _ (w.heap.size + 1 + 1) _ #[.int .i64 0, .slice none 0 0] from Blk.newAt (by simp)) ?_ ?_ ?_ ?_ ?_ ?_); (focus rfl); (focus exact wide_size); (focus (simp [Value.oneCell']; done)); (focus rfl); (focus rfl); intro WF RF PF)
  have g0 := RF.cellAt 0 rfl
  have g1 := RF.cellAt 1 rfl
  have hbw := pp (pa (pa (pa (pr (w := w))))) PF (Nat.le_add_right _ 2)
  exact bodyPost_ret (v := .agg #[.int .i64 s, .slice A k c]) (by simp [results, Tryz.results97, go_sem, g0, g1]) rfl ⟨A, c, by rw [HV.out], HAt.out.past hbw, hbw⟩

set_option maxHeartbeats 8000000 in
set_option maxRecDepth 100000 in
theorem wideAdd_same (a b : Int) (A A2 : Option Addr) (c c2 : Nat) (w : World) (ha : WideAt w A c a) (hb : WideAt w A2 c2 b) (hla : dl a < wL) (hlb : dl b < wL) (h0 : a ≠ 0) (h1 : b ≠ 0) (h2 : signD a = signD b) :
    Calls Tryz.prog 97 #[wideV a A c, wideV b A2 c2] w (WideRet w (a + b)) := by
  obtain ⟨g1, g2⟩ := add_same h2
  have e1 := neq_facts (fun e => h0 (signD_zero.1 e) : signD a ≠ 0)
  have e2 := neq_facts (fun e => h1 (signD_zero.1 e) : signD b ≠ 0)
  have e3 := eq_facts h2
  have HAd := Lib.hid (fun W (hW : Below w.heap.size w W) => addDigits_any W.heap.size (digD a) (digD b) A A2 c c2 W (ha.past hW).1.ints (hb.past hW).1.ints (Nat.le_refl _) (dig_ok a) (dig_ok b) (Nat.le_of_lt hla) (Nat.le_of_lt hlb))
  have HWo := Lib.hid (show ∀ (W : World) (A6 : Option Addr) (c6 : Nat) (zs : List Int), (okD zs ∧ valD zs = valD (digD a) + valD (digD b) ∧ zs.length ≤ max (digD a).length (digD b).length + 1) → DigAt W A6 zs → zs.length ≤ c6 → SlOk A6 c6 →
      Calls Tryz.prog 104 #[.int .i64 (signD a), .slice A6 zs.length c6] W (fun e w' => e = .returned (wideV (a + b) A6 c6) ∧ Below W.heap.size W w') ∧ WideAt W A6 c6 (a + b) from fun W A6 c6 zs hP hI hc hs => by
    have hv : valD zs = ((a + b).natAbs : Int) := by rw [hP.2.1, dig_val, dig_val, g1]; push_cast; rfl
    exact ⟨wideOf_any W.heap.size zs (a + b) (signD a) A6 c6 W hI.ints (Nat.le_refl _) hP.1 hv (fun _ => g2.symm) hc (Nat.le_trans hP.2.2 (wd_max hla hlb)) hs, (wide_at hI hP.1 hv hc hs).1⟩)
  have HDa := Lib.hid (show (digD a).length = dl a from rfl)
  have HDb := Lib.hid (show (digD b).length = dl b from rfl)
  have HAt0 := Lib.hid ha
  clear ha hb hla hlb h0 h1 g1 g2
  unfold wideV
  rw [HDa.out, HDb.out] at HAd HWo
  clear HDa HDb HAt0
  rw [← h2] at *
  clear h2
  generalize signD a = sa at *
  generalize dl a = ka at *
  generalize dl b = kb at *
  go_enter Tryz.func97, Tryz.ntmps97
  go_wp2
  have X1 : Blk (((w.alloc (Obj.cells #[.int .i64 sa, .slice A ka c] 53)).alloc (Obj.cells #[.int .i64 sa, .slice A2 kb c2] 53)).alloc (Obj.cells #[.int .i64 0, .slice none 0 0] 53)) w.heap.size 53 #[.int .i64 sa, .slice A ka c] := (Blk.newAt rfl).alloc.alloc
  have X2 : Blk (((w.alloc (Obj.cells #[.int .i64 sa, .slice A ka c] 53)).alloc (Obj.cells #[.int .i64 sa, .slice A2 kb c2] 53)).alloc (Obj.cells #[.int .i64 0, .slice none 0 0] 53)) (w.heap.size + 1) 53 #[.int .i64 sa, .slice A2 kb c2] := (Blk.newAt (by simp)).alloc
  have X3 : Blk (((w.alloc (Obj.cells #[.int .i64 sa, .slice A ka c] 53)).alloc (Obj.cells #[.int .i64 sa, .slice A2 kb c2] 53)).alloc (Obj.cells #[.int .i64 0, .slice none 0 0] 53)) (w.heap.size + 1 + 1) 53 #[.int .i64 0, .slice none 0 0] := Blk.newAt (by simp)
  have S3 : Below w.heap.size w (((w.alloc (Obj.cells #[.int .i64 sa, .slice A ka c] 53)).alloc (Obj.cells #[.int .i64 sa, .slice A2 kb c2] 53)).alloc (Obj.cells #[.int .i64 0, .slice none 0 0] 53)) := pa (pa (pa pr))
  generalize (((w.alloc (Obj.cells #[.int .i64 sa, .slice A ka c] 53)).alloc (Obj.cells #[.int .i64 sa, .slice A2 kb c2] 53)).alloc (Obj.cells #[.int .i64 0, .slice none 0 0] 53)) = v at *
  have HSS := Lib.hid (show ∀ W, Below v.heap.size v W → W.cell? ⟨w.heap.size, 0, none⟩ = some (.int .i64 sa) ∧ W.cell? ⟨w.heap.size, 1, none⟩ = some (.slice A ka c) ∧ W.cell? ⟨w.heap.size + 1, 0, none⟩ = some (.int .i64 sa) ∧ W.cell? ⟨w.heap.size + 1, 1, none⟩ = some (.slice A2 kb c2) from fun W hW => ⟨(X1.past hW).cellAt 0 rfl, (X1.past hW).cellAt 1 rfl, (X2.past hW).cellAt 0 rfl, (X2.past hW).cellAt 1 rfl⟩)
  refine wp_region_G 8 follows_mixed (fun W => W.cell? ⟨w.heap.size, 0, none⟩ = some (.int .i64 sa) ∧ W.cell? ⟨w.heap.size, 1, none⟩ = some (.slice A ka c) ∧ W.cell? ⟨w.heap.size + 1, 0, none⟩ = some (.int .i64 sa) ∧ W.cell? ⟨w.heap.size + 1, 1, none⟩ = some (.slice A2 kb c2)) (HSS.out _ (pd pr)) ?_
  intro hSd inv
  have HSd := Lib.hid hSd
  clear hSd
  refine wpAnyG_take (i := 0) (v := ?_) rfl (by kernel_rfl) (by kernel_rfl) (by kernel_rfl) (by kernel_rfl) (by kernel_rfl) (by decide) (by decide) inv (fun _ _ _ h => h) (Or.inl ⟨by rfl, ?_⟩) HSd.out ?_; rotate_left; (focus (intro W y1; obtain ⟨y1, y2, y3, y4⟩ := y1; go_simp; (first | done | with_reducible rfl))); clear inv; intro inv; simp only [List.getElem_toArray, List.getElem_cons_zero, Act.put, List.setIfInBounds_toArray, List.set_cons_zero, List.set_cons_succ]
  refine wpAnyG_take (i := 1) (v := ?_) rfl (by kernel_rfl) (by kernel_rfl) (by kernel_rfl) (by kernel_rfl) (by kernel_rfl) (by decide) (by decide) inv (fun _ _ _ h => h) (Or.inl ⟨by rfl, ?_⟩) HSd.out ?_; rotate_left; (focus (intro W y1; obtain ⟨y1, y2, y3, y4⟩ := y1; go_simp; (first | done | with_reducible rfl))); clear inv; intro inv; simp only [List.getElem_toArray, List.getElem_cons_zero, List.getElem_cons_succ, Act.put, List.setIfInBounds_toArray, List.set_cons_zero, List.set_cons_succ]
  refine wpAnyG_take (i := 2) (v := ?_) rfl (by kernel_rfl) (by kernel_rfl) (by kernel_rfl) (by kernel_rfl) (by kernel_rfl) (by decide) (by decide) inv (fun _ _ _ h => h) (Or.inl ⟨by rfl, ?_⟩) HSd.out ?_; rotate_left; (focus (intro W y1; obtain ⟨y1, y2, y3, y4⟩ := y1; go_simp; (first | done | with_reducible rfl))); clear inv; intro inv; simp only [List.getElem_toArray, List.getElem_cons_zero, List.getElem_cons_succ, Act.put, List.setIfInBounds_toArray, List.set_cons_zero, List.set_cons_succ]
  refine wpAnyG_take (i := 3) (v := ?_) rfl (by kernel_rfl) (by kernel_rfl) (by kernel_rfl) (by kernel_rfl) (by kernel_rfl) (by decide) (by decide) inv (fun _ _ _ h => h) (Or.inl ⟨by rfl, ?_⟩) HSd.out ?_; rotate_left; (focus (intro W y1; obtain ⟨y1, y2, y3, y4⟩ := y1; go_simp; (first | done | with_reducible rfl))); clear inv; intro inv; simp only [List.getElem_toArray, List.getElem_cons_zero, List.getElem_cons_succ, Act.put, List.setIfInBounds_toArray, List.set_cons_zero, List.set_cons_succ]
  refine wpAnyG_take (i := 4) (v := ?_) rfl (by kernel_rfl) (by kernel_rfl) (by kernel_rfl) (by kernel_rfl) (by kernel_rfl) (by decide) (by decide) inv (fun _ _ _ h => h) (Or.inl ⟨by rfl, ?_⟩) HSd.out ?_; rotate_left; (focus (intro W y1; obtain ⟨y1, y2, y3, y4⟩ := y1; go_simp; (first | done | with_reducible rfl))); clear inv; intro inv; simp only [List.getElem_toArray, List.getElem_cons_zero, List.getElem_cons_succ, Act.put, List.setIfInBounds_toArray, List.set_cons_zero, List.set_cons_succ]
  refine wpAnyG_take (i := 5) (v := ?_) rfl (by kernel_rfl) (by kernel_rfl) (by kernel_rfl) (by kernel_rfl) (by kernel_rfl) (by decide) (by decide) inv (fun _ _ _ h => h) (Or.inl ⟨by rfl, ?_⟩) HSd.out ?_; rotate_left; (focus (intro W y1; obtain ⟨y1, y2, y3, y4⟩ := y1; go_simp; (first | done | with_reducible rfl))); clear inv; intro inv; simp only [List.getElem_toArray, List.getElem_cons_zero, List.getElem_cons_succ, Act.put, List.setIfInBounds_toArray, List.set_cons_zero, List.set_cons_succ]
  clear inv
  refine wpAnyG_one (i := 6) (by kernel_rfl) rfl rfl fun K hK => ?_
  go_simp
  refine (HAd.out _ (pd S3)).mono ?_
  rintro e w4 ⟨A6, c6, zs, rfl, hP6, hI6, hc6, hs6, hb6⟩
  replace hP6 := Lib.hid hP6
  replace hc6 := Lib.hid hc6
  have HB4 := Lib.hid (show Below v.heap.size v w4 from pt (pd pr) hb6)
  refine hK.out _ _ (fun _ => HSS.out _ HB4.out) ?_
  clear hK K
  refine wpAnyG_one (i := 7) (by kernel_rfl) rfl rfl fun K hK => ?_
  go_simp
  have hW6 := HWo.out w4 A6 c6 zs hP6.out hI6 hc6.out hs6
  refine hW6.1.mono ?_
  rintro e w5 ⟨rfl, hb5⟩
  have HB5 := Lib.hid (show Below v.heap.size v w5 from pt HB4.out hb5)
  have HAt := Lib.hid (hW6.2.past hb5)
  refine hK.out _ _ (fun _ => HSS.out _ HB5.out) ?_
  clear hK K hW6 hP6 hI6 hb6 hb5
  have X35 := X3.past HB5.out
  have f0 := X35.frozen 0; have f1 := X35.frozen 1; have fl := X35.lt; have h0_ := X35.cellAt 0 rfl; have h1_ := X35.cellAt 1 rfl
  unfold wideV
  refine wpAnyG_one (i := 8) (by kernel_rfl) rfl rfl fun K hK => ?_
  go_simp
  refine hK.out _ _ (fun h => absurd h (by decide)) ?_
  clear hK K
  refine wpAnyG_done (by kernel_rfl) ?_
  have hR := (X35.set_ 0 (.int .i64 (signD (a + b)))).set_ 1 (.slice A6 (dl (a + b)) c6)
  have hAf := (HAt.out.far (p := ⟨w.heap.size + 1 + 1, 0, none⟩) X35 (by decide) (u := .int .i64 (signD (a + b)))).far (p := ⟨w.heap.size + 1 + 1, 1, none⟩) (X35.set_ 0 (.int .i64 (signD (a + b)))) (by decide) (u := .slice A6 (dl (a + b)) c6)
  have hSf := ps (ps (pt S3 HB5.out) (p := ⟨w.heap.size + 1 + 1, 0, none⟩) (u := .int .i64 (signD (a + b))) (Nat.le_add_right _ 2)) (p := ⟨w.heap.size + 1 + 1, 1, none⟩) (u := .slice A6 (dl (a + b)) c6) (Nat.le_add_right _ 2)
  clear f0 f1 fl h0_ h1_ HSS HSd X1 X2 X3 X35 HAt
  generalize (w5.setCell ⟨w.heap.size + 1 + 1, 0, none⟩ (.int .i64 (signD (a + b)))).setCell ⟨w.heap.size + 1 + 1, 1, none⟩ (.slice A6 (dl (a + b)) c6) = wz at *
  have g0 := hR.cellAt 0 rfl
  have g1 := hR.cellAt 1 rfl
  go_wp2
  exact bodyPost_ret (v := .agg #[.int .i64 (signD (a + b)), .slice A6 (dl (a + b)) c6]) (by simp [results, Tryz.results97, go_sem, g0, g1]) rfl ⟨A6, c6, rfl, hAf, hSf⟩

set_option maxHeartbeats 8000000 in
set_option maxRecDepth 100000 in
theorem wideAdd_eq (a b : Int) (A A2 : Option Addr) (c c2 : Nat) (w : World) (ha : WideAt w A c a) (hb : WideAt w A2 c2 b) (hla : dl a < wL) (_hlb : dl b < wL) (h0 : a ≠ 0) (h1 : b ≠ 0) (h2 : signD a ≠ signD b) (h3 : a.natAbs = b.natAbs) :
    Calls Tryz.prog 97 #[wideV a A c, wideV b A2 c2] w (WideRet w (a + b)) := by
  have e1 := neq_facts (fun e => h0 (signD_zero.1 e) : signD a ≠ 0)
  have e2 := neq_facts (fun e => h1 (signD_zero.1 e) : signD b ≠ 0)
  have e3 := neq_facts h2
  have hcm : cmpN a.natAbs b.natAbs = 0 := by rw [h3]; exact cmpN_eq _
  have HCm := Lib.hid (show ∀ W, Below w.heap.size w W → Calls Tryz.prog 131 #[.slice A (dl a) c, .slice A2 (dl b) c2] W fun e w' => e = .returned (.int .i64 0) ∧ Below W.heap.size W w' from fun W hW => by
    have q := cmpDigits_any W.heap.size a.natAbs b.natAbs A A2 c c2 W (ha.past hW).1.ints (hb.past hW).1.ints (Nat.le_refl _) (Nat.le_of_lt hla)
    rw [hcm] at q
    exact q)
  clear hcm
  rw [add_eq h2 h3]
  clear ha hb hla _hlb h0 h1 h2 h3
  unfold wideV
  generalize signD a = sa at *
  generalize signD b = sb at *
  generalize dl a = ka at *
  generalize dl b = kb at *
  go_enter Tryz.func97, Tryz.ntmps97
  go_wp2_with (first
    | (go_at_call 131; (with_reducible refine (HCm.out _ (pa (pa (pa pr)))).mono ?_); rintro e w1 ⟨rfl, hb1⟩; have X1 := (((Blk.newAt (w := w) (t := 53) (cs := #[.int .i64 sa, .slice A ka c]) rfl).alloc (o := (Obj.cells #[.int .i64 sb, .slice A2 kb c2] 53))).alloc (o := (Obj.cells #[.int .i64 0, .slice none 0 0] 53))).past hb1; have X2 := ((Blk.newAt (w := w.alloc (Obj.cells #[.int .i64 sa, .slice A ka c] 53)) (t := 53) (cs := #[.int .i64 sb, .slice A2 kb c2]) (n := w.heap.size + 1) (by simp)).alloc (o := (Obj.cells #[.int .i64 0, .slice none 0 0] 53))).past hb1; have X3 := (Blk.newAt (w := (w.alloc (Obj.cells #[.int .i64 sa, .slice A ka c] 53)).alloc (Obj.cells #[.int .i64 sb, .slice A2 kb c2] 53)) (t := 53) (cs := #[.int .i64 0, .slice none 0 0]) (n := w.heap.size + 1 + 1) (by simp)).past hb1; have S1 := pt (pa (pa (pa (pr (w := w))))) hb1; clear hb1)
    | ((with_reducible refine store_blk (T := 53) (x := .tmp 4) (y := .tmp 34) (vs := #[.int .i64 0, .slice none 0 0]) X3 ?_ ?_ ?_ ?_ ?_ ?_); (focus rfl); (focus exact wide_size); (focus (simp [Value.oneCell']; done)); (focus rfl); (focus rfl); intro WF RF PF))
  have g0 := RF.cellAt 0 rfl
  have g1 := RF.cellAt 1 rfl
  exact bodyPost_ret (v := .agg #[.int .i64 0, .slice none 0 0]) (by simp [results, Tryz.results97, go_sem, g0, g1]) rfl ⟨none, 0, by unfold wideV; rw [dl_zero]; rfl, WideAt.zero, pp S1 PF (Nat.le_add_right _ 2)⟩

set_option maxHeartbeats 8000000 in
set_option maxRecDepth 100000 in
theorem wideAdd_gt (a b : Int) (A A2 : Option Addr) (c c2 : Nat) (w : World) (ha : WideAt w A c a) (hb : WideAt w A2 c2 b) (hla : dl a < wL) (_hlb : dl b < wL) (h0 : a ≠ 0) (h1 : b ≠ 0) (h2 : signD a ≠ signD b) (h3 : b.natAbs < a.natAbs) :
    Calls Tryz.prog 97 #[wideV a A c, wideV b A2 c2] w (WideRet w (a + b)) := by
  have e1 := neq_facts (fun e => h0 (signD_zero.1 e) : signD a ≠ 0)
  have e2 := neq_facts (fun e => h1 (signD_zero.1 e) : signD b ≠ 0)
  have e3 := neq_facts h2
  have hcm : cmpN a.natAbs b.natAbs = 1 := cmpN_gt h3
  have HCm := Lib.hid (show ∀ W, Below w.heap.size w W → Calls Tryz.prog 131 #[.slice A (dl a) c, .slice A2 (dl b) c2] W fun e w' => e = .returned (.int .i64 1) ∧ Below W.heap.size W w' from fun W hW => by
    have q := cmpDigits_any W.heap.size a.natAbs b.natAbs A A2 c c2 W (ha.past hW).1.ints (hb.past hW).1.ints (Nat.le_refl _) (Nat.le_of_lt hla)
    rw [hcm] at q
    exact q)
  clear hcm
  obtain ⟨g1, g2⟩ := add_gt h2 (fun e => h1 (signD_zero.1 e)) h3
  have hvle : valD (digD b) ≤ valD (digD a) := by rw [dig_val, dig_val]; omega
  have hlle : (digD b).length ≤ (digD a).length := canD_le (Nat.le_of_lt h3)
  have hres : canD (valD (digD a) - valD (digD b)).toNat = digD (a + b) := dig_of (by rw [dig_val, dig_val, g1]; omega)
  have HAd := Lib.hid (fun W (hW : Below w.heap.size w W) => subDigits_any W.heap.size (digD a) (digD b) A A2 c c2 W (ha.past hW).1.ints (hb.past hW).1.ints (Nat.le_refl _) (dig_ok a) (dig_ok b) (Nat.le_of_lt hla) hvle hlle)
  have hdl : dl (a + b) ≤ wL := by
    have q : dl (a + b) ≤ dl a := dlen_mono (by rw [g1]; exact Nat.sub_le _ _)
    exact Nat.le_trans q (Nat.le_of_lt hla)
  have HWo := Lib.hid (show ∀ (W : World) (A6 : Option Addr) (c6 : Nat) (zs : List Int), zs = canD (valD (digD a) - valD (digD b)).toNat → DigAt W A6 zs → zs.length ≤ c6 → SlOk A6 c6 →
      Calls Tryz.prog 104 #[.int .i64 (signD a), .slice A6 zs.length c6] W (fun e w' => e = .returned (wideV (a + b) A6 c6) ∧ Below W.heap.size W w') ∧ WideAt W A6 c6 (a + b) from fun W A6 c6 zs hP hI hc hs => by
    rw [hres] at hP
    subst hP
    have hv : valD (digD (a + b)) = ((a + b).natAbs : Int) := dig_val _
    exact ⟨wideOf_any W.heap.size (digD (a + b)) (a + b) (signD a) A6 c6 W hI.ints (Nat.le_refl _) (dig_ok _) hv (fun _ => g2.symm) hc hdl hs, (wide_at hI (dig_ok _) hv hc hs).1⟩)
  have HDa := Lib.hid (show (digD a).length = dl a from rfl)
  have HDb := Lib.hid (show (digD b).length = dl b from rfl)
  clear ha hb hla _hlb h0 h1 g1 g2 h2 h3 hvle hlle hres hdl
  rw [HDa.out, HDb.out] at HAd
  clear HDa HDb
  unfold wideV
  generalize signD a = sa at *
  generalize signD b = sb at *
  generalize dl a = ka at *
  generalize dl b = kb at *
  go_enter Tryz.func97, Tryz.ntmps97
  go_wp2_with (first
    | (go_at_call 131; (with_reducible refine (HCm.out _ (pa (pa (pa pr)))).mono ?_); rintro e w1 ⟨rfl, hb1⟩; have X1 := (((Blk.newAt (w := w) (t := 53) (cs := #[.int .i64 sa, .slice A ka c]) rfl).alloc (o := (Obj.cells #[.int .i64 sb, .slice A2 kb c2] 53))).alloc (o := (Obj.cells #[.int .i64 0, .slice none 0 0] 53))).past hb1; have X2 := ((Blk.newAt (w := w.alloc (Obj.cells #[.int .i64 sa, .slice A ka c] 53)) (t := 53) (cs := #[.int .i64 sb, .slice A2 kb c2]) (n := w.heap.size + 1) (by simp)).alloc (o := (Obj.cells #[.int .i64 0, .slice none 0 0] 53))).past hb1; have X3 := (Blk.newAt (w := (w.alloc (Obj.cells #[.int .i64 sa, .slice A ka c] 53)).alloc (Obj.cells #[.int .i64 sb, .slice A2 kb c2] 53)) (t := 53) (cs := #[.int .i64 0, .slice none 0 0]) (n := w.heap.size + 1 + 1) (by simp)).past hb1; have S1 := pt (pa (pa (pa (pr (w := w))))) hb1; clear hb1))
  have HSS := Lib.hid (show ∀ W, Below w1.heap.size w1 W → W.cell? ⟨w.heap.size, 0, none⟩ = some (.int .i64 sa) ∧ W.cell? ⟨w.heap.size, 1, none⟩ = some (.slice A ka c) ∧ W.cell? ⟨w.heap.size + 1, 0, none⟩ = some (.int .i64 sb) ∧ W.cell? ⟨w.heap.size + 1, 1, none⟩ = some (.slice A2 kb c2) from fun W hW => ⟨(X1.past hW).cellAt 0 rfl, (X1.past hW).cellAt 1 rfl, (X2.past hW).cellAt 0 rfl, (X2.past hW).cellAt 1 rfl⟩)
  refine wp_region_G 8 follows_mixed (fun W => W.cell? ⟨w.heap.size, 0, none⟩ = some (.int .i64 sa) ∧ W.cell? ⟨w.heap.size, 1, none⟩ = some (.slice A ka c) ∧ W.cell? ⟨w.heap.size + 1, 0, none⟩ = some (.int .i64 sb) ∧ W.cell? ⟨w.heap.size + 1, 1, none⟩ = some (.slice A2 kb c2)) (HSS.out _ (pd pr)) ?_
  intro hSd inv
  have HSd := Lib.hid hSd
  clear hSd
  refine wpAnyG_take (i := 0) (v := ?_) rfl (by kernel_rfl) (by kernel_rfl) (by kernel_rfl) (by kernel_rfl) (by kernel_rfl) (by decide) (by decide) inv (fun _ _ _ h => h) (Or.inl ⟨by rfl, ?_⟩) HSd.out ?_; rotate_left; (focus (intro W y1; obtain ⟨y1, y2, y3, y4⟩ := y1; go_simp; (first | done | with_reducible rfl))); clear inv; intro inv; simp only [List.getElem_toArray, List.getElem_cons_zero, Act.put, List.setIfInBounds_toArray, List.set_cons_zero, List.set_cons_succ]
  refine wpAnyG_take (i := 1) (v := ?_) rfl (by kernel_rfl) (by kernel_rfl) (by kernel_rfl) (by kernel_rfl) (by kernel_rfl) (by decide) (by decide) inv (fun _ _ _ h => h) (Or.inl ⟨by rfl, ?_⟩) HSd.out ?_; rotate_left; (focus (intro W y1; obtain ⟨y1, y2, y3, y4⟩ := y1; go_simp; (first | done | with_reducible rfl))); clear inv; intro inv; simp only [List.getElem_toArray, List.getElem_cons_zero, List.getElem_cons_succ, Act.put, List.setIfInBounds_toArray, List.set_cons_zero, List.set_cons_succ]
  refine wpAnyG_take (i := 2) (v := ?_) rfl (by kernel_rfl) (by kernel_rfl) (by kernel_rfl) (by kernel_rfl) (by kernel_rfl) (by decide) (by decide) inv (fun _ _ _ h => h) (Or.inl ⟨by rfl, ?_⟩) HSd.out ?_; rotate_left; (focus (intro W y1; obtain ⟨y1, y2, y3, y4⟩ := y1; go_simp; (first | done | with_reducible rfl))); clear inv; intro inv; simp only [List.getElem_toArray, List.getElem_cons_zero, List.getElem_cons_succ, Act.put, List.setIfInBounds_toArray, List.set_cons_zero, List.set_cons_succ]
  refine wpAnyG_take (i := 3) (v := ?_) rfl (by kernel_rfl) (by kernel_rfl) (by kernel_rfl) (by kernel_rfl) (by kernel_rfl) (by decide) (by decide) inv (fun _ _ _ h => h) (Or.inl ⟨by rfl, ?_⟩) HSd.out ?_; rotate_left; (focus (intro W y1; obtain ⟨y1, y2, y3, y4⟩ := y1; go_simp; (first | done | with_reducible rfl))); clear inv; intro inv; simp only [List.getElem_toArray, List.getElem_cons_zero, List.getElem_cons_succ, Act.put, List.setIfInBounds_toArray, List.set_cons_zero, List.set_cons_succ]
  refine wpAnyG_take (i := 4) (v := ?_) rfl (by kernel_rfl) (by kernel_rfl) (by kernel_rfl) (by kernel_rfl) (by kernel_rfl) (by decide) (by decide) inv (fun _ _ _ h => h) (Or.inl ⟨by rfl, ?_⟩) HSd.out ?_; rotate_left; (focus (intro W y1; obtain ⟨y1, y2, y3, y4⟩ := y1; go_simp; (first | done | with_reducible rfl))); clear inv; intro inv; simp only [List.getElem_toArray, List.getElem_cons_zero, List.getElem_cons_succ, Act.put, List.setIfInBounds_toArray, List.set_cons_zero, List.set_cons_succ]
  refine wpAnyG_take (i := 5) (v := ?_) rfl (by kernel_rfl) (by kernel_rfl) (by kernel_rfl) (by kernel_rfl) (by kernel_rfl) (by decide) (by decide) inv (fun _ _ _ h => h) (Or.inl ⟨by rfl, ?_⟩) HSd.out ?_; rotate_left; (focus (intro W y1; obtain ⟨y1, y2, y3, y4⟩ := y1; go_simp; (first | done | with_reducible rfl))); clear inv; intro inv; simp only [List.getElem_toArray, List.getElem_cons_zero, List.getElem_cons_succ, Act.put, List.setIfInBounds_toArray, List.set_cons_zero, List.set_cons_succ]
  clear inv
  refine wpAnyG_one (i := 6) (by kernel_rfl) rfl rfl fun K hK => ?_
  go_simp
  refine (HAd.out _ (pd S1)).mono ?_
  rintro e w4 ⟨A6, c6, zs, rfl, hP6, hI6, hc6, hs6, hb6⟩
  replace hP6 := Lib.hid hP6
  replace hc6 := Lib.hid hc6
  have HB4 := Lib.hid (show Below w1.heap.size w1 w4 from pt (pd pr) hb6)
  refine hK.out _ _ (fun _ => HSS.out _ HB4.out) ?_
  clear hK K
  refine wpAnyG_one (i := 7) (by kernel_rfl) rfl rfl fun K hK => ?_
  go_simp
  have hW6 := HWo.out w4 A6 c6 zs hP6.out hI6 hc6.out hs6
  refine hW6.1.mono ?_
  rintro e w5 ⟨rfl, hb5⟩
  have HB5 := Lib.hid (show Below w1.heap.size w1 w5 from pt HB4.out hb5)
  have HAt := Lib.hid (hW6.2.past hb5)
  refine hK.out _ _ (fun _ => HSS.out _ HB5.out) ?_
  clear hK K hW6 hP6 hI6 hb6 hb5
  have X35 := X3.past HB5.out
  have f0 := X35.frozen 0; have f1 := X35.frozen 1; have fl := X35.lt; have h0_ := X35.cellAt 0 rfl; have h1_ := X35.cellAt 1 rfl
  unfold wideV
  refine wpAnyG_one (i := 8) (by kernel_rfl) rfl rfl fun K hK => ?_
  go_simp
  refine hK.out _ _ (fun h => absurd h (by decide)) ?_
  clear hK K
  refine wpAnyG_done (by kernel_rfl) ?_
  have hR := (X35.set_ 0 (.int .i64 (signD (a + b)))).set_ 1 (.slice A6 (dl (a + b)) c6)
  have hAf := (HAt.out.far (p := ⟨w.heap.size + 1 + 1, 0, none⟩) X35 (by decide) (u := .int .i64 (signD (a + b)))).far (p := ⟨w.heap.size + 1 + 1, 1, none⟩) (X35.set_ 0 (.int .i64 (signD (a + b)))) (by decide) (u := .slice A6 (dl (a + b)) c6)
  have hSf := ps (ps (pt S1 HB5.out) (p := ⟨w.heap.size + 1 + 1, 0, none⟩) (u := .int .i64 (signD (a + b))) (Nat.le_add_right _ 2)) (p := ⟨w.heap.size + 1 + 1, 1, none⟩) (u := .slice A6 (dl (a + b)) c6) (Nat.le_add_right _ 2)
  clear f0 f1 fl h0_ h1_ HSS HSd X1 X2 X3 X35 HAt
  generalize (w5.setCell ⟨w.heap.size + 1 + 1, 0, none⟩ (.int .i64 (signD (a + b)))).setCell ⟨w.heap.size + 1 + 1, 1, none⟩ (.slice A6 (dl (a + b)) c6) = wz at *
  have g0 := hR.cellAt 0 rfl
  have g1 := hR.cellAt 1 rfl
  go_wp2
  exact bodyPost_ret (v := .agg #[.int .i64 (signD (a + b)), .slice A6 (dl (a + b)) c6]) (by simp [results, Tryz.results97, go_sem, g0, g1]) rfl ⟨A6, c6, rfl, hAf, hSf⟩

set_option maxHeartbeats 8000000 in
set_option maxRecDepth 100000 in
theorem wideAdd_lt (a b : Int) (A A2 : Option Addr) (c c2 : Nat) (w : World) (ha : WideAt w A c a) (hb : WideAt w A2 c2 b) (hla : dl a < wL) (hlb : dl b < wL) (h0 : a ≠ 0) (h1 : b ≠ 0) (h2 : signD a ≠ signD b) (h3 : a.natAbs < b.natAbs) :
    Calls Tryz.prog 97 #[wideV a A c, wideV b A2 c2] w (WideRet w (a + b)) := by
  have e1 := neq_facts (fun e => h0 (signD_zero.1 e) : signD a ≠ 0)
  have e2 := neq_facts (fun e => h1 (signD_zero.1 e) : signD b ≠ 0)
  have e3 := neq_facts h2
  have hcm : cmpN a.natAbs b.natAbs = (-1) := cmpN_lt h3
  have HCm := Lib.hid (show ∀ W, Below w.heap.size w W → Calls Tryz.prog 131 #[.slice A (dl a) c, .slice A2 (dl b) c2] W fun e w' => e = .returned (.int .i64 (-1)) ∧ Below W.heap.size W w' from fun W hW => by
    have q := cmpDigits_any W.heap.size a.natAbs b.natAbs A A2 c c2 W (ha.past hW).1.ints (hb.past hW).1.ints (Nat.le_refl _) (Nat.le_of_lt hla)
    rw [hcm] at q
    exact q)
  clear hcm
  obtain ⟨g1, g2⟩ := add_lt h2 (fun e => h0 (signD_zero.1 e)) h3
  have hvle : valD (digD a) ≤ valD (digD b) := by rw [dig_val, dig_val]; omega
  have hlle : (digD a).length ≤ (digD b).length := canD_le (Nat.le_of_lt h3)
  have hres : canD (valD (digD b) - valD (digD a)).toNat = digD (a + b) := dig_of (by rw [dig_val, dig_val, g1]; omega)
  have HAd := Lib.hid (fun W (hW : Below w.heap.size w W) => subDigits_any W.heap.size (digD b) (digD a) A2 A c2 c W (hb.past hW).1.ints (ha.past hW).1.ints (Nat.le_refl _) (dig_ok b) (dig_ok a) (Nat.le_of_lt hlb) hvle hlle)
  have hdl : dl (a + b) ≤ wL := by
    have q : dl (a + b) ≤ dl b := dlen_mono (by rw [g1]; exact Nat.sub_le _ _)
    exact Nat.le_trans q (Nat.le_of_lt hlb)
  have HWo := Lib.hid (show ∀ (W : World) (A6 : Option Addr) (c6 : Nat) (zs : List Int), zs = canD (valD (digD b) - valD (digD a)).toNat → DigAt W A6 zs → zs.length ≤ c6 → SlOk A6 c6 →
      Calls Tryz.prog 104 #[.int .i64 (signD b), .slice A6 zs.length c6] W (fun e w' => e = .returned (wideV (a + b) A6 c6) ∧ Below W.heap.size W w') ∧ WideAt W A6 c6 (a + b) from fun W A6 c6 zs hP hI hc hs => by
    rw [hres] at hP
    subst hP
    have hv : valD (digD (a + b)) = ((a + b).natAbs : Int) := dig_val _
    exact ⟨wideOf_any W.heap.size (digD (a + b)) (a + b) (signD b) A6 c6 W hI.ints (Nat.le_refl _) (dig_ok _) hv (fun _ => g2.symm) hc hdl hs, (wide_at hI (dig_ok _) hv hc hs).1⟩)
  have HDa := Lib.hid (show (digD a).length = dl a from rfl)
  have HDb := Lib.hid (show (digD b).length = dl b from rfl)
  clear ha hb hla hlb h0 h1 g1 g2 h2 h3 hvle hlle hres hdl
  rw [HDa.out, HDb.out] at HAd
  clear HDa HDb
  unfold wideV
  generalize signD a = sa at *
  generalize signD b = sb at *
  generalize dl a = ka at *
  generalize dl b = kb at *
  go_enter Tryz.func97, Tryz.ntmps97
  go_wp2_with (first
    | (go_at_call 131; (with_reducible refine (HCm.out _ (pa (pa (pa pr)))).mono ?_); rintro e w1 ⟨rfl, hb1⟩; have X1 := (((Blk.newAt (w := w) (t := 53) (cs := #[.int .i64 sa, .slice A ka c]) rfl).alloc (o := (Obj.cells #[.int .i64 sb, .slice A2 kb c2] 53))).alloc (o := (Obj.cells #[.int .i64 0, .slice none 0 0] 53))).past hb1; have X2 := ((Blk.newAt (w := w.alloc (Obj.cells #[.int .i64 sa, .slice A ka c] 53)) (t := 53) (cs := #[.int .i64 sb, .slice A2 kb c2]) (n := w.heap.size + 1) (by simp)).alloc (o := (Obj.cells #[.int .i64 0, .slice none 0 0] 53))).past hb1; have X3 := (Blk.newAt (w := (w.alloc (Obj.cells #[.int .i64 sa, .slice A ka c] 53)).alloc (Obj.cells #[.int .i64 sb, .slice A2 kb c2] 53)) (t := 53) (cs := #[.int .i64 0, .slice none 0 0]) (n := w.heap.size + 1 + 1) (by simp)).past hb1; have S1 := pt (pa (pa (pa (pr (w := w))))) hb1; clear hb1))
  have HSS := Lib.hid (show ∀ W, Below w1.heap.size w1 W → W.cell? ⟨w.heap.size, 0, none⟩ = some (.int .i64 sa) ∧ W.cell? ⟨w.heap.size, 1, none⟩ = some (.slice A ka c) ∧ W.cell? ⟨w.heap.size + 1, 0, none⟩ = some (.int .i64 sb) ∧ W.cell? ⟨w.heap.size + 1, 1, none⟩ = some (.slice A2 kb c2) from fun W hW => ⟨(X1.past hW).cellAt 0 rfl, (X1.past hW).cellAt 1 rfl, (X2.past hW).cellAt 0 rfl, (X2.past hW).cellAt 1 rfl⟩)
  refine wp_region_G 8 follows_mixed (fun W => W.cell? ⟨w.heap.size, 0, none⟩ = some (.int .i64 sa) ∧ W.cell? ⟨w.heap.size, 1, none⟩ = some (.slice A ka c) ∧ W.cell? ⟨w.heap.size + 1, 0, none⟩ = some (.int .i64 sb) ∧ W.cell? ⟨w.heap.size + 1, 1, none⟩ = some (.slice A2 kb c2)) (HSS.out _ (pd pr)) ?_
  intro hSd inv
  have HSd := Lib.hid hSd
  clear hSd
  refine wpAnyG_take (i := 0) (v := ?_) rfl (by kernel_rfl) (by kernel_rfl) (by kernel_rfl) (by kernel_rfl) (by kernel_rfl) (by decide) (by decide) inv (fun _ _ _ h => h) (Or.inl ⟨by rfl, ?_⟩) HSd.out ?_; rotate_left; (focus (intro W y1; obtain ⟨y1, y2, y3, y4⟩ := y1; go_simp; (first | done | with_reducible rfl))); clear inv; intro inv; simp only [List.getElem_toArray, List.getElem_cons_zero, Act.put, List.setIfInBounds_toArray, List.set_cons_zero, List.set_cons_succ]
  refine wpAnyG_take (i := 1) (v := ?_) rfl (by kernel_rfl) (by kernel_rfl) (by kernel_rfl) (by kernel_rfl) (by kernel_rfl) (by decide) (by decide) inv (fun _ _ _ h => h) (Or.inl ⟨by rfl, ?_⟩) HSd.out ?_; rotate_left; (focus (intro W y1; obtain ⟨y1, y2, y3, y4⟩ := y1; go_simp; (first | done | with_reducible rfl))); clear inv; intro inv; simp only [List.getElem_toArray, List.getElem_cons_zero, List.getElem_cons_succ, Act.put, List.setIfInBounds_toArray, List.set_cons_zero, List.set_cons_succ]
  refine wpAnyG_take (i := 2) (v := ?_) rfl (by kernel_rfl) (by kernel_rfl) (by kernel_rfl) (by kernel_rfl) (by kernel_rfl) (by decide) (by decide) inv (fun _ _ _ h => h) (Or.inl ⟨by rfl, ?_⟩) HSd.out ?_; rotate_left; (focus (intro W y1; obtain ⟨y1, y2, y3, y4⟩ := y1; go_simp; (first | done | with_reducible rfl))); clear inv; intro inv; simp only [List.getElem_toArray, List.getElem_cons_zero, List.getElem_cons_succ, Act.put, List.setIfInBounds_toArray, List.set_cons_zero, List.set_cons_succ]
  refine wpAnyG_take (i := 3) (v := ?_) rfl (by kernel_rfl) (by kernel_rfl) (by kernel_rfl) (by kernel_rfl) (by kernel_rfl) (by decide) (by decide) inv (fun _ _ _ h => h) (Or.inl ⟨by rfl, ?_⟩) HSd.out ?_; rotate_left; (focus (intro W y1; obtain ⟨y1, y2, y3, y4⟩ := y1; go_simp; (first | done | with_reducible rfl))); clear inv; intro inv; simp only [List.getElem_toArray, List.getElem_cons_zero, List.getElem_cons_succ, Act.put, List.setIfInBounds_toArray, List.set_cons_zero, List.set_cons_succ]
  refine wpAnyG_take (i := 4) (v := ?_) rfl (by kernel_rfl) (by kernel_rfl) (by kernel_rfl) (by kernel_rfl) (by kernel_rfl) (by decide) (by decide) inv (fun _ _ _ h => h) (Or.inl ⟨by rfl, ?_⟩) HSd.out ?_; rotate_left; (focus (intro W y1; obtain ⟨y1, y2, y3, y4⟩ := y1; go_simp; (first | done | with_reducible rfl))); clear inv; intro inv; simp only [List.getElem_toArray, List.getElem_cons_zero, List.getElem_cons_succ, Act.put, List.setIfInBounds_toArray, List.set_cons_zero, List.set_cons_succ]
  refine wpAnyG_take (i := 5) (v := ?_) rfl (by kernel_rfl) (by kernel_rfl) (by kernel_rfl) (by kernel_rfl) (by kernel_rfl) (by decide) (by decide) inv (fun _ _ _ h => h) (Or.inl ⟨by rfl, ?_⟩) HSd.out ?_; rotate_left; (focus (intro W y1; obtain ⟨y1, y2, y3, y4⟩ := y1; go_simp; (first | done | with_reducible rfl))); clear inv; intro inv; simp only [List.getElem_toArray, List.getElem_cons_zero, List.getElem_cons_succ, Act.put, List.setIfInBounds_toArray, List.set_cons_zero, List.set_cons_succ]
  clear inv
  refine wpAnyG_one (i := 6) (by kernel_rfl) rfl rfl fun K hK => ?_
  go_simp
  refine (HAd.out _ (pd S1)).mono ?_
  rintro e w4 ⟨A6, c6, zs, rfl, hP6, hI6, hc6, hs6, hb6⟩
  replace hP6 := Lib.hid hP6
  replace hc6 := Lib.hid hc6
  have HB4 := Lib.hid (show Below w1.heap.size w1 w4 from pt (pd pr) hb6)
  refine hK.out _ _ (fun _ => HSS.out _ HB4.out) ?_
  clear hK K
  refine wpAnyG_one (i := 7) (by kernel_rfl) rfl rfl fun K hK => ?_
  go_simp
  have hW6 := HWo.out w4 A6 c6 zs hP6.out hI6 hc6.out hs6
  refine hW6.1.mono ?_
  rintro e w5 ⟨rfl, hb5⟩
  have HB5 := Lib.hid (show Below w1.heap.size w1 w5 from pt HB4.out hb5)
  have HAt := Lib.hid (hW6.2.past hb5)
  refine hK.out _ _ (fun _ => HSS.out _ HB5.out) ?_
  clear hK K hW6 hP6 hI6 hb6 hb5
  have X35 := X3.past HB5.out
  have f0 := X35.frozen 0; have f1 := X35.frozen 1; have fl := X35.lt; have h0_ := X35.cellAt 0 rfl; have h1_ := X35.cellAt 1 rfl
  unfold wideV
  refine wpAnyG_one (i := 8) (by kernel_rfl) rfl rfl fun K hK => ?_
  go_simp
  refine hK.out _ _ (fun h => absurd h (by decide)) ?_
  clear hK K
  refine wpAnyG_done (by kernel_rfl) ?_
  have hR := (X35.set_ 0 (.int .i64 (signD (a + b)))).set_ 1 (.slice A6 (dl (a + b)) c6)
  have hAf := (HAt.out.far (p := ⟨w.heap.size + 1 + 1, 0, none⟩) X35 (by decide) (u := .int .i64 (signD (a + b)))).far (p := ⟨w.heap.size + 1 + 1, 1, none⟩) (X35.set_ 0 (.int .i64 (signD (a + b)))) (by decide) (u := .slice A6 (dl (a + b)) c6)
  have hSf := ps (ps (pt S1 HB5.out) (p := ⟨w.heap.size + 1 + 1, 0, none⟩) (u := .int .i64 (signD (a + b))) (Nat.le_add_right _ 2)) (p := ⟨w.heap.size + 1 + 1, 1, none⟩) (u := .slice A6 (dl (a + b)) c6) (Nat.le_add_right _ 2)
  clear f0 f1 fl h0_ h1_ HSS HSd X1 X2 X3 X35 HAt
  generalize (w5.setCell ⟨w.heap.size + 1 + 1, 0, none⟩ (.int .i64 (signD (a + b)))).setCell ⟨w.heap.size + 1 + 1, 1, none⟩ (.slice A6 (dl (a + b)) c6) = wz at *
  have g0 := hR.cellAt 0 rfl
  have g1 := hR.cellAt 1 rfl
  go_wp2
  exact bodyPost_ret (v := .agg #[.int .i64 (signD (a + b)), .slice A6 (dl (a + b)) c6]) (by simp [results, Tryz.results97, go_sem, g0, g1]) rfl ⟨A6, c6, rfl, hAf, hSf⟩

/-- The sum of wide numbers. -/
theorem wideAdd_any (a b : Int) (A A2 : Option Addr) (c c2 : Nat) (w : World) (ha : WideAt w A c a) (hb : WideAt w A2 c2 b) (hla : dl a < wL) (hlb : dl b < wL) :
    Calls Tryz.prog 97 #[wideV a A c, wideV b A2 c2] w (WideRet w (a + b)) := by
  by_cases h0 : a = 0
  · exact wideAdd_left a b A A2 c c2 w ha hb hla hlb h0
  · by_cases h1 : b = 0
    · exact wideAdd_right a b A A2 c c2 w ha hb hla hlb h0 h1
    · by_cases h2 : signD a = signD b
      · exact wideAdd_same a b A A2 c c2 w ha hb hla hlb h0 h1 h2
      · rcases Nat.lt_trichotomy a.natAbs b.natAbs with h | h | h
        · exact wideAdd_lt a b A A2 c c2 w ha hb hla hlb h0 h1 h2 h
        · exact wideAdd_eq a b A A2 c c2 w ha hb hla hlb h0 h1 h2 h
        · exact wideAdd_gt a b A A2 c c2 w ha hb hla hlb h0 h1 h2 h

end Go.Proofs.YtpdkbhjcpddnpaaGreatDoor
end

section
namespace Go.Proofs.YtpdkbhjcpddnpaaGreatDoor
open Go.RowKit
attribute [local go_sem ↓] Go.wp_at_zero Go.wp_at_succ

set_option maxHeartbeats 8000000 in
set_option maxRecDepth 100000 in
theorem wideSub_any (a b : Int) (A A2 : Option Addr) (c c2 : Nat) (w : World) (ha : WideAt w A c a) (hb : WideAt w A2 c2 b) (hla : dl a < wL) (hlb : dl b < wL) :
    Calls Tryz.prog 103 #[wideV a A c, wideV b A2 c2] w (WideRet w (a - b)) := by
  have HNg := Lib.hid (show ∀ W, Calls Tryz.prog 106 #[.agg #[.int .i64 (signD b), .slice A2 (dl b) c2]] W fun e w' => e = .returned (.agg #[.int .i64 (signD (-b)), .slice A2 (dl (-b)) c2]) ∧ Below W.heap.size W w' from fun W => wideNeg_any b A2 c2 W)
  have HAd := Lib.hid (show ∀ W, Below w.heap.size w W → Calls Tryz.prog 97 #[.agg #[.int .i64 (signD a), .slice A (dl a) c], .agg #[.int .i64 (signD (-b)), .slice A2 (dl (-b)) c2]] W (WideRet W (a - b)) from fun W hW => by
    rw [Int.sub_eq_add_neg]
    exact wideAdd_any a (-b) A A2 c c2 W (ha.past hW) (hb.past hW).neg hla (by rw [dl_neg]; exact hlb))
  clear ha hb hla hlb
  unfold wideV
  go_enter Tryz.func103, Tryz.ntmps103
  go_wp2
  have X1 : Blk (((w.alloc (Obj.cells #[.int .i64 (signD a), .slice A (dl a) c] 53)).alloc (Obj.cells #[.int .i64 (signD b), .slice A2 (dl b) c2] 53)).alloc (Obj.cells #[.int .i64 0, .slice none 0 0] 53)) w.heap.size 53 #[.int .i64 (signD a), .slice A (dl a) c] := (Blk.newAt rfl).alloc.alloc
  have X2 : Blk (((w.alloc (Obj.cells #[.int .i64 (signD a), .slice A (dl a) c] 53)).alloc (Obj.cells #[.int .i64 (signD b), .slice A2 (dl b) c2] 53)).alloc (Obj.cells #[.int .i64 0, .slice none 0 0] 53)) (w.heap.size + 1) 53 #[.int .i64 (signD b), .slice A2 (dl b) c2] := (Blk.newAt (by simp)).alloc
  have X3 : Blk (((w.alloc (Obj.cells #[.int .i64 (signD a), .slice A (dl a) c] 53)).alloc (Obj.cells #[.int .i64 (signD b), .slice A2 (dl b) c2] 53)).alloc (Obj.cells #[.int .i64 0, .slice none 0 0] 53)) (w.heap.size + 1 + 1) 53 #[.int .i64 0, .slice none 0 0] := Blk.newAt (by simp)
  have S3 : Below w.heap.size w (((w.alloc (Obj.cells #[.int .i64 (signD a), .slice A (dl a) c] 53)).alloc (Obj.cells #[.int .i64 (signD b), .slice A2 (dl b) c2] 53)).alloc (Obj.cells #[.int .i64 0, .slice none 0 0] 53)) := pa (pa (pa pr))
  generalize (((w.alloc (Obj.cells #[.int .i64 (signD a), .slice A (dl a) c] 53)).alloc (Obj.cells #[.int .i64 (signD b), .slice A2 (dl b) c2] 53)).alloc (Obj.cells #[.int .i64 0, .slice none 0 0] 53)) = v at *
  have HSS := Lib.hid (show ∀ W, Below v.heap.size v W → W.cell? ⟨w.heap.size, 0, none⟩ = some (.int .i64 (signD a)) ∧ W.cell? ⟨w.heap.size, 1, none⟩ = some (.slice A (dl a) c) ∧ W.cell? ⟨w.heap.size + 1, 0, none⟩ = some (.int .i64 (signD b)) ∧ W.cell? ⟨w.heap.size + 1, 1, none⟩ = some (.slice A2 (dl b) c2) from fun W hW => ⟨(X1.past hW).cellAt 0 rfl, (X1.past hW).cellAt 1 rfl, (X2.past hW).cellAt 0 rfl, (X2.past hW).cellAt 1 rfl⟩)
  refine wp_region_G 4 follows_mixed (fun W => W.cell? ⟨w.heap.size, 0, none⟩ = some (.int .i64 (signD a)) ∧ W.cell? ⟨w.heap.size, 1, none⟩ = some (.slice A (dl a) c) ∧ W.cell? ⟨w.heap.size + 1, 0, none⟩ = some (.int .i64 (signD b)) ∧ W.cell? ⟨w.heap.size + 1, 1, none⟩ = some (.slice A2 (dl b) c2)) (HSS.out _ (pd pr)) ?_
  intro hSd inv
  have HSd := Lib.hid hSd
  clear hSd
  refine wpAnyG_take (i := 0) (v := ?_) rfl (by kernel_rfl) (by kernel_rfl) (by kernel_rfl) (by kernel_rfl) (by kernel_rfl) (by decide) (by decide) inv (fun _ _ _ h => h) (Or.inl ⟨by rfl, ?_⟩) HSd.out ?_; rotate_left; (focus (intro W y1; obtain ⟨y1, y2, y3, y4⟩ := y1; go_simp; (first | done | with_reducible rfl))); clear inv; intro inv; simp only [List.getElem_toArray, List.getElem_cons_zero, Act.put, List.setIfInBounds_toArray, List.set_cons_zero, List.set_cons_succ]
  refine wpAnyG_take (i := 1) (v := ?_) rfl (by kernel_rfl) (by kernel_rfl) (by kernel_rfl) (by kernel_rfl) (by kernel_rfl) (by decide) (by decide) inv (fun _ _ _ h => h) (Or.inl ⟨by rfl, ?_⟩) HSd.out ?_; rotate_left; (focus (intro W y1; obtain ⟨y1, y2, y3, y4⟩ := y1; go_simp; (first | done | with_reducible rfl))); clear inv; intro inv; simp only [List.getElem_toArray, List.getElem_cons_zero, List.getElem_cons_succ, Act.put, List.setIfInBounds_toArray, List.set_cons_zero, List.set_cons_succ]
  clear inv
  refine wpAnyG_one (i := 2) (by kernel_rfl) rfl rfl fun K hK => ?_
  go_simp
  refine (HNg.out _).mono ?_
  rintro e w3 ⟨rfl, hb3⟩
  have HB3 := Lib.hid (show Below v.heap.size v w3 from pt (pd pr) hb3)
  refine hK.out _ _ (fun _ => HSS.out _ HB3.out) ?_
  clear hK K hb3
  refine wpAnyG_one (i := 3) (by kernel_rfl) rfl rfl fun K hK => ?_
  go_simp
  refine (HAd.out _ (pt S3 HB3.out)).mono ?_
  rintro e w5 ⟨A6, c6, rfl, hAt, hb5⟩
  have HB5 := Lib.hid (show Below v.heap.size v w5 from pt HB3.out hb5)
  have HAt := Lib.hid hAt
  refine hK.out _ _ (fun _ => HSS.out _ HB5.out) ?_
  clear hK K hb5 hAt
  have X35 := X3.past HB5.out
  have f0 := X35.frozen 0; have f1 := X35.frozen 1; have fl := X35.lt; have h0_ := X35.cellAt 0 rfl; have h1_ := X35.cellAt 1 rfl
  unfold wideV
  refine wpAnyG_one (i := 4) (by kernel_rfl) rfl rfl fun K hK => ?_
  go_simp
  refine hK.out _ _ (fun h => absurd h (by decide)) ?_
  clear hK K
  refine wpAnyG_done (by kernel_rfl) ?_
  have hR := (X35.set_ 0 (.int .i64 (signD (a - b)))).set_ 1 (.slice A6 (dl (a - b)) c6)
  have hAf := (HAt.out.far (p := ⟨w.heap.size + 1 + 1, 0, none⟩) X35 (by decide) (u := .int .i64 (signD (a - b)))).far (p := ⟨w.heap.size + 1 + 1, 1, none⟩) (X35.set_ 0 (.int .i64 (signD (a - b)))) (by decide) (u := .slice A6 (dl (a - b)) c6)
  have hSf := ps (ps (pt S3 HB5.out) (p := ⟨w.heap.size + 1 + 1, 0, none⟩) (u := .int .i64 (signD (a - b))) (Nat.le_add_right _ 2)) (p := ⟨w.heap.size + 1 + 1, 1, none⟩) (u := .slice A6 (dl (a - b)) c6) (Nat.le_add_right _ 2)
  clear f0 f1 fl h0_ h1_ HSS HSd X1 X2 X3 X35 HAt
  generalize (w5.setCell ⟨w.heap.size + 1 + 1, 0, none⟩ (.int .i64 (signD (a - b)))).setCell ⟨w.heap.size + 1 + 1, 1, none⟩ (.slice A6 (dl (a - b)) c6) = wz at *
  have g0 := hR.cellAt 0 rfl
  have g1 := hR.cellAt 1 rfl
  go_wp2
  exact bodyPost_ret (v := .agg #[.int .i64 (signD (a - b)), .slice A6 (dl (a - b)) c6]) (by simp [results, Tryz.results103, go_sem, g0, g1]) rfl ⟨A6, c6, rfl, hAf, hSf⟩

theorem wide_f0 (s : Int) (A : Option Addr) (k c : Nat) (W : World) : Sem.run Tryz.prog (Instr.field 53 (.agg #[.int .i64 s, .slice A k c]) 0) W = .ok (.int .i64 s) W := by kernel_rfl
theorem wide_f1 (s : Int) (A : Option Addr) (k c : Nat) (W : World) : Sem.run Tryz.prog (Instr.field 53 (.agg #[.int .i64 s, .slice A k c]) 1) W = .ok (.slice A k c) W := by kernel_rfl
attribute [local go_sem] wide_f0 wide_f1
set_option maxHeartbeats 8000000 in
set_option maxRecDepth 100000 in
theorem wideCmp_any (a b : Int) (A A2 : Option Addr) (c c2 : Nat) (w : World) (ha : WideAt w A c a) (hb : WideAt w A2 c2 b) (hla : dl a < wL) (hlb : dl b < wL) :
    Calls Tryz.prog 61 #[wideV a A c, wideV b A2 c2] w fun e w' => e = .returned (.int .i64 (signD (a - b))) ∧ Below w.heap.size w w' := by
  have HSb := Lib.hid (show ∀ W, Below w.heap.size w W → Calls Tryz.prog 103 #[.agg #[.int .i64 (signD a), .slice A (dl a) c], .agg #[.int .i64 (signD b), .slice A2 (dl b) c2]] W (WideRet W (a - b)) from fun W hW => wideSub_any a b A A2 c c2 W (ha.past hW) (hb.past hW) hla hlb)
  clear ha hb hla hlb
  unfold wideV
  go_enter Tryz.func61, Tryz.ntmps61
  go_wp2_with (go_at_call 103; (with_reducible refine (HSb.out _ (pa (pa pr))).mono ?_); rintro e w1 ⟨A6, c6, rfl, hAt, hb1⟩; unfold wideV)
  go_ret
  exact ⟨rfl, pt (pa (pa pr)) hb1⟩

end Go.Proofs.YtpdkbhjcpddnpaaGreatDoor
end
