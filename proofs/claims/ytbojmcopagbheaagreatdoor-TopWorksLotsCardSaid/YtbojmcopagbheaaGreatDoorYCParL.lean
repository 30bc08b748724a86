/- Contract: the lot of a string (the walk). Printed by a program (gen_wpl.py). -/
import Derived.Test.YtbojmcopagbheaaGreatDoorYCDefL
namespace Go.Proofs.YtbojmcopagbheaaGreatDoor
open Go.RowKit
attribute [local go_sem ↓] Go.wp_at_zero Go.wp_at_succ

theorem p4_at0 (a b c d : Addr) (W : World) : Sem.run Tryz.prog (Instr.index 115 (.agg #[.pointer (some a), .pointer (some b), .pointer (some c), .pointer (some d)]) (.int .i64 0)) W = .ok (.pointer (some a)) W := by kernel_rfl
attribute [local go_sem ↓ high] p4_at0
theorem p4_at1 (a b c d : Addr) (W : World) : Sem.run Tryz.prog (Instr.index 115 (.agg #[.pointer (some a), .pointer (some b), .pointer (some c), .pointer (some d)]) (.int .i64 1)) W = .ok (.pointer (some b)) W := by kernel_rfl
attribute [local go_sem ↓ high] p4_at1
theorem p4_at2 (a b c d : Addr) (W : World) : Sem.run Tryz.prog (Instr.index 115 (.agg #[.pointer (some a), .pointer (some b), .pointer (some c), .pointer (some d)]) (.int .i64 2)) W = .ok (.pointer (some c)) W := by kernel_rfl
attribute [local go_sem ↓ high] p4_at2
theorem p4_at3 (a b c d : Addr) (W : World) : Sem.run Tryz.prog (Instr.index 115 (.agg #[.pointer (some a), .pointer (some b), .pointer (some c), .pointer (some d)]) (.int .i64 3)) W = .ok (.pointer (some d)) W := by kernel_rfl
attribute [local go_sem ↓ high] p4_at3

set_option maxHeartbeats 4000000 in
set_option maxRecDepth 100000 in
theorem parL_len (l : List UInt8) (hl : l.length ≤ 500) (hs : (splitL 32 l).length ≠ 6) (w : World) (hS : StrIn w) :
    Calls Tryz.prog 23 #[.string ⟨l.toArray⟩] w (LotPost w (([], [], 0, 0, 0, 0), 7)) := by
  have HSp := Lib.hid (fun w' hS' => (splitC_any l 32 (by omega) w' hS').mono fun e w'' (h : _ ∧ _) => (⟨h.1, h.2 ▸ pa pr⟩ : _ ∧ Below w'.heap.size w' w''))
  have HS := Lib.hid (fun w' (h : Below w.heap.size w w') => hS.kept h)
  have hn : (((splitL 32 l).length : Int) != 6) = true := by simp; omega
  generalize (splitL 32 l).length = n at *
  clear hs hS hl
  go_enter Tryz.func23, Tryz.ntmps23
  go_wp2_with (first
    | (go_at_call 50; (with_reducible refine (HSp.out _ (HS.out _ (pa (pr)))).mono ?_); rintro e w1_ ⟨rfl, h1_⟩; have R_1 : Blk w1_ (w.heap.size) 58 #[.string ⟨#[]⟩, .slice none 0 0, .int .i64 0, .int .i64 0, .int .i64 0, .int .i64 0] := (Blk.newAt (by simp)).past h1_; have ge_R : w.heap.size ≤ w.heap.size := (by omega); have S_1 := pt (pa (pr)) h1_; clear h1_)
    | ((with_reducible refine store_sub (T := 58) (x := .tmp 2) (y := .tmp 23) (o := 0) (cs' := #[.string ⟨#[]⟩, .slice none 0 0, .int .i64 0, .int .i64 0, .int .i64 0, .int .i64 0]) (vs := #[.string ⟨#[]⟩, .slice none 0 0, .int .i64 0, .int .i64 0, .int .i64 0, .int .i64 0]) (show Blk _ (w.heap.size) 58 #[.string ⟨#[]⟩, .slice none 0 0, .int .i64 0, .int .i64 0, .int .i64 0, .int .i64 0] from (R_1)) ?_ ?_ ?_ ?_ ?_ ?_ ?_); (focus rfl); (focus rfl); (focus rfl); (focus exact Nat.le_of_ble_eq_true rfl); (focus exact lot_size6); (focus (simp [Value.oneCell']; done)); intro w2_ b2_ h2_; have R_2 : Blk w2_ (w.heap.size) 58 #[.string ⟨#[]⟩, .slice none 0 0, .int .i64 0, .int .i64 0, .int .i64 0, .int .i64 0] := b2_; have S_2 := pp (S_1) h2_ ge_R; clear R_1 S_1; clear h2_ b2_))
  have z0 := R_2.cellAt 0 rfl
  have z1 := R_2.cellAt 1 rfl
  have z2 := R_2.cellAt 2 rfl
  have z3 := R_2.cellAt 3 rfl
  have z4 := R_2.cellAt 4 rfl
  have z5 := R_2.cellAt 5 rfl
  exact bodyPost_ret (v := .tuple #[.agg #[.string ⟨#[]⟩, .slice none 0 0, .int .i64 0, .int .i64 0, .int .i64 0, .int .i64 0], .int .i64 7]) (by simp [results, Tryz.results23, go_sem, z0, z1, z2, z3, z4, z5]) rfl (lotPost_bad S_2)

set_option maxHeartbeats 4000000 in
set_option maxRecDepth 100000 in
theorem parL_nil (l m a b c d : List UInt8) (hl : l.length ≤ 500) (hs : splitL 32 l = [[], m, a, b, c, d]) (w : World) (hS : StrIn w) :
    Calls Tryz.prog 23 #[.string ⟨l.toArray⟩] w (LotPost w (([], [], 0, 0, 0, 0), 7)) := by
  have HS := Lib.hid (fun w' (h : Below w.heap.size w w') => hS.kept h)
  have hSp := fun w' hS' => splitC_any l 32 (by omega) w' hS'
  rw [hs] at hSp
  have HSp := Lib.hid (show ∀ w', StrIn w' → Calls Tryz.prog 50 #[.string ⟨l.toArray⟩, .string ⟨#[32]⟩] w' fun e w'' => ∃ g, e = .returned (.slice (some ⟨g, 0, none⟩) 6 6) ∧ w'.heap.size ≤ g ∧ Blk w'' g 9 #[.string ⟨#[]⟩, .string ⟨m.toArray⟩, .string ⟨a.toArray⟩, .string ⟨b.toArray⟩, .string ⟨c.toArray⟩, .string ⟨d.toArray⟩] ∧ Below w'.heap.size w' w'' from fun w' hS' => (hSp w' hS').mono fun e w'' h => ⟨w'.heap.size, h.1, Nat.le_refl _, h.2 ▸ Blk.new _ _ _, h.2 ▸ pa pr⟩)
  clear hSp hs hS hl
  go_enter Tryz.func23, Tryz.ntmps23
  go_wp2_with (first
    | (go_at_call 50; (with_reducible refine (HSp.out _ (HS.out _ (pa (pr)))).mono ?_); rintro e w1_ ⟨gP, rfl, hgP, kP0, h1_⟩; have R_1 : Blk w1_ (w.heap.size) 58 #[.string ⟨#[]⟩, .slice none 0 0, .int .i64 0, .int .i64 0, .int .i64 0, .int .i64 0] := (Blk.newAt (by simp)).past h1_; have ge_R : w.heap.size ≤ w.heap.size := (by omega); have S_1 := pt (pa (pr)) h1_; clear h1_; have Pc0 := kP0.cellAt 0 rfl; have Pc1 := kP0.cellAt 1 rfl; have Pc2 := kP0.cellAt 2 rfl; have Pc3 := kP0.cellAt 3 rfl; have Pc4 := kP0.cellAt 4 rfl; have Pc5 := kP0.cellAt 5 rfl; have Pl := kP0.lt; have hgP1 : w.heap.size < gP := (by simp at hgP; omega))
    | ((with_reducible refine store_sub (T := 58) (x := .tmp 2) (y := .tmp 23) (o := 0) (cs' := #[.string ⟨#[]⟩, .slice none 0 0, .int .i64 0, .int .i64 0, .int .i64 0, .int .i64 0]) (vs := #[.string ⟨#[]⟩, .slice none 0 0, .int .i64 0, .int .i64 0, .int .i64 0, .int .i64 0]) (show Blk _ (w.heap.size) 58 #[.string ⟨#[]⟩, .slice none 0 0, .int .i64 0, .int .i64 0, .int .i64 0, .int .i64 0] from (R_1)) ?_ ?_ ?_ ?_ ?_ ?_ ?_); (focus rfl); (focus rfl); (focus rfl); (focus exact Nat.le_of_ble_eq_true rfl); (focus exact lot_size6); (focus (simp [Value.oneCell']; done)); intro w2_ b2_ h2_; have R_2 : Blk w2_ (w.heap.size) 58 #[.string ⟨#[]⟩, .slice none 0 0, .int .i64 0, .int .i64 0, .int .i64 0, .int .i64 0] := b2_; have P_2 : Blk w2_ (gP) 9 #[.string ⟨#[]⟩, .string ⟨m.toArray⟩, .string ⟨a.toArray⟩, .string ⟨b.toArray⟩, .string ⟨c.toArray⟩, .string ⟨d.toArray⟩] := (kP0).put h2_ (by omega); have S_2 := pp (S_1) h2_ ge_R; clear R_1 kP0 S_1 Pc0 Pc1 Pc2 Pc3 Pc4 Pc5 Pl; clear h2_ b2_))
  have z0 := R_2.cellAt 0 rfl
  have z1 := R_2.cellAt 1 rfl
  have z2 := R_2.cellAt 2 rfl
  have z3 := R_2.cellAt 3 rfl
  have z4 := R_2.cellAt 4 rfl
  have z5 := R_2.cellAt 5 rfl
  exact bodyPost_ret (v := .tuple #[.agg #[.string ⟨#[]⟩, .slice none 0 0, .int .i64 0, .int .i64 0, .int .i64 0, .int .i64 0], .int .i64 7]) (by simp [results, Tryz.results23, go_sem, z0, z1, z2, z3, z4, z5]) rfl (lotPost_bad S_2)

set_option maxHeartbeats 8000000 in
set_option maxRecDepth 100000 in
theorem parL_main (l nm m a b c d : List UInt8) (hl : l.length ≤ 500) (hm : ∀ x ∈ [nm, m, a, b, c, d], x.length ≤ 500) (hs : splitL 32 l = [nm, m, a, b, c, d]) (hnm : nm ≠ []) (w : World) (hS : StrIn w) :
    Calls Tryz.prog 23 #[.string ⟨l.toArray⟩] w (LotPost w (lotOut (wordsL nm (partsL m) (numberV a 7) (numberV b 7) (numberV c 7) (numberV d 7)))) := by
  have HS := Lib.hid (fun w' (h : Below w.heap.size w w') => hS.kept h)
  have hSp := fun w' hS' => splitC_any l 32 (by omega) w' hS'
  rw [hs] at hSp
  have HSp := Lib.hid (show ∀ w', StrIn w' → Calls Tryz.prog 50 #[.string ⟨l.toArray⟩, .string ⟨#[32]⟩] w' fun e w'' => ∃ g, e = .returned (.slice (some ⟨g, 0, none⟩) 6 6) ∧ w'.heap.size ≤ g ∧ Blk w'' g 9 #[.string ⟨nm.toArray⟩, .string ⟨m.toArray⟩, .string ⟨a.toArray⟩, .string ⟨b.toArray⟩, .string ⟨c.toArray⟩, .string ⟨d.toArray⟩] ∧ Below w'.heap.size w' w'' from fun w' hS' => (hSp w' hS').mono fun e w'' h => ⟨w'.heap.size, h.1, Nat.le_refl _, h.2 ▸ Blk.new _ _ _, h.2 ▸ pa pr⟩)
  have hne1 : (nm == []) = false := by simpa using hnm
  have hne2 : nm.isEmpty = false := by cases nm with
    | nil => exact absurd rfl hnm
    | cons => rfl
  have hne3 : nm.length ≠ 0 := fun h => hnm (List.eq_nil_of_length_eq_zero h)
  have lnm := hm nm (by simp)
  have lm := hm m (by simp)
  have HNa := Lib.hid (show ∀ w', StrIn w' → Calls Tryz.prog 51 #[.string ⟨a.toArray⟩, .bool true] w' fun e w'' => (∃ y : Int, e = .returned (.tuple #[.int .i64 y, .bool (numberV a 7).isSome]) ∧ ∀ k, numberV a 7 = some k → y = k) ∧ Below w'.heap.size w' w'' from fun w' hS' => wnumber_any a (by have := hm a (by simp); omega) true w' hS')
  have HNb := Lib.hid (show ∀ w', StrIn w' → Calls Tryz.prog 51 #[.string ⟨b.toArray⟩, .bool true] w' fun e w'' => (∃ y : Int, e = .returned (.tuple #[.int .i64 y, .bool (numberV b 7).isSome]) ∧ ∀ k, numberV b 7 = some k → y = k) ∧ Below w'.heap.size w' w'' from fun w' hS' => wnumber_any b (by have := hm b (by simp); omega) true w' hS')
  have HNc := Lib.hid (show ∀ w', StrIn w' → Calls Tryz.prog 51 #[.string ⟨c.toArray⟩, .bool true] w' fun e w'' => (∃ y : Int, e = .returned (.tuple #[.int .i64 y, .bool (numberV c 7).isSome]) ∧ ∀ k, numberV c 7 = some k → y = k) ∧ Below w'.heap.size w' w'' from fun w' hS' => wnumber_any c (by have := hm c (by simp); omega) true w' hS')
  have HNd := Lib.hid (show ∀ w', StrIn w' → Calls Tryz.prog 51 #[.string ⟨d.toArray⟩, .bool true] w' fun e w'' => (∃ y : Int, e = .returned (.tuple #[.int .i64 y, .bool (numberV d 7).isSome]) ∧ ∀ k, numberV d 7 = some k → y = k) ∧ Below w'.heap.size w' w'' from fun w' hS' => wnumber_any d (by have := hm d (by simp); omega) true w' hS')
  have HPa := Lib.hid (fun w' hS' => parts_new m (by omega) w' hS')
  have hmem : ∀ x ∈ partsL m, x.length ≤ 500 := fun x hx => Nat.le_trans (parts_mem hx) lm
  have hn1 : (partsL m).length ≤ 501 := Nat.le_trans (parts_len m) (by omega)
  have HBad := Lib.hid (fun h => words_bad (nm := nm) (M := partsL m) (a := numberV a 7) (b := numberV b 7) (c := numberV c 7) (d := numberV d 7) h)
  have HGood := Lib.hid (fun x y z u h0 h1 h2 h3 h4 => words_good (nm := nm) (M := partsL m) (a := numberV a 7) (b := numberV b 7) (c := numberV c 7) (d := numberV d 7) (x := x) (y := y) (z := z) (u := u) h0 h1 h2 h3 h4)
  have HSm := Lib.hid (fun y0 y1 y2 y3 => small_lot (nm := nm) (M := partsL m) lnm hn1 hmem y0 y1 y2 y3)
  have HEm := Lib.hid (empty_any (partsL m))
  generalize lotOut (wordsL nm (partsL m) (numberV a 7) (numberV b 7) (numberV c 7) (numberV d 7)) = R at *
  generalize numberV a 7 = va at *
  generalize numberV b 7 = vb at *
  generalize numberV c 7 = vc at *
  generalize numberV d 7 = vd at *
  generalize partsL m = M at *
  generalize decide ([] ∈ M) = e0 at *
  clear hSp hs hS hl hm hmem hnm
  go_enter Tryz.func23, Tryz.ntmps23
  go_upto_region 4 with (first
    | (go_at_call 50; (with_reducible refine (HSp.out _ (HS.out _ (pa (pr)))).mono ?_); rintro e w1_ ⟨gP, rfl, hgP, kP0, h1_⟩; have R_1 : Blk w1_ (w.heap.size) 58 #[.string ⟨#[]⟩, .slice none 0 0, .int .i64 0, .int .i64 0, .int .i64 0, .int .i64 0] := (Blk.newAt (by simp)).past h1_; have ge_R : w.heap.size ≤ w.heap.size := (by omega); have S_1 := pt (pa (pr)) h1_; clear h1_; have Pc0 := kP0.cellAt 0 rfl; have Pc1 := kP0.cellAt 1 rfl; have Pc2 := kP0.cellAt 2 rfl; have Pc3 := kP0.cellAt 3 rfl; have Pc4 := kP0.cellAt 4 rfl; have Pc5 := kP0.cellAt 5 rfl; have Pl := kP0.lt; have hgP1 : w.heap.size < gP := (by simp at hgP; omega)))
  have hRl := R_1.lt
  have hS1 := S_1
  have hPl := kP0.lt
  have HS4 := Lib.hid (show ∀ W, Hid (Below w1_.heap.size w1_ W) → Hid (Below w1_.heap.size w1_ W) ∧ W.cell? ⟨gP, 0, none⟩ = some (.string ⟨nm.toArray⟩) ∧ W.cell? ⟨gP, 1, none⟩ = some (.string ⟨m.toArray⟩) from fun W hW => ⟨hW, ((bcell hW.out).1 gP _ hPl).trans Pc0, ((bcell hW.out).1 gP _ hPl).trans Pc1⟩)
  have kX0 : Blk (w1_.alloc (.cells #[.string ⟨#[]⟩, .slice none 0 0, .int .i64 0, .int .i64 0, .int .i64 0, .int .i64 0] 58)) w1_.heap.size 58 #[.string ⟨#[]⟩, .slice none 0 0, .int .i64 0, .int .i64 0, .int .i64 0, .int .i64 0] := Blk.new _ _ _
  clear Pc0 Pc1 Pc2 Pc3 Pc4 Pc5 Pl
  go_cut [5] (fun xv wx => ∃ (bx : Nat) (A2 : Option Addr) (c2 : Nat), xv = .pointer (some ⟨bx, 0, none⟩) ∧ w1_.heap.size ≤ bx ∧ M.length ≤ c2 ∧ Blk wx w.heap.size 58 #[.string ⟨#[]⟩, .slice none 0 0, .int .i64 0, .int .i64 0, .int .i64 0, .int .i64 0] ∧ Blk wx gP 9 #[.string ⟨nm.toArray⟩, .string ⟨m.toArray⟩, .string ⟨a.toArray⟩, .string ⟨b.toArray⟩, .string ⟨c.toArray⟩, .string ⟨d.toArray⟩] ∧ Blk wx bx 58 #[.string ⟨nm.toArray⟩, .slice A2 M.length c2, .int .i64 0, .int .i64 0, .int .i64 0, .int .i64 0] ∧ MadeIn w.heap.size bx wx A2 (M.map strV) ∧ Below w.heap.size w wx)
  case first =>
    go_region_held3 (fun w' => Hid (Below w1_.heap.size w1_ w') ∧ w'.cell? ⟨gP, 0, none⟩ = some (.string ⟨nm.toArray⟩) ∧ w'.cell? ⟨gP, 1, none⟩ = some (.string ⟨m.toArray⟩)) ((refine HS4.out _ (Lib.hid ?_); repeat (first | assumption | (with_reducible exact pr) | (with_reducible refine pd ?_) | (with_reducible refine pa ?_) | (with_reducible refine pt ?_ (by assumption)) | (refine ps ?_ (Nat.le_refl _)))))
      (first | (go_at_call 52; (with_reducible refine (HPa.out _ (HS.out _ (pt hS1 (by repeat (first | assumption | (with_reducible exact pr) | (with_reducible refine pd ?_) | (with_reducible refine pa ?_) | (with_reducible refine pt ?_ (by assumption))))))).mono ?_); rintro e w5 ⟨A2, c2, g2, rfl, hc2, hg2, hap, hb5⟩; have KX5 : Blk w5 w1_.heap.size 58 #[.string ⟨#[]⟩, .slice none 0 0, .int .i64 0, .int .i64 0, .int .i64 0, .int .i64 0] := (by first | exact kX0.drew.past hb5 | exact kX0.drew.drew.past hb5 | exact kX0.past hb5); have KR5 : Blk w5 w.heap.size 58 #[.string ⟨#[]⟩, .slice none 0 0, .int .i64 0, .int .i64 0, .int .i64 0, .int .i64 0] := R_1.past (show Below w1_.heap.size w1_ w5 from (by repeat (first | assumption | (with_reducible exact pr) | (with_reducible refine pd ?_) | (with_reducible refine pa ?_) | (with_reducible refine pt ?_ (by assumption))))); have KP5 : Blk w5 gP 9 #[.string ⟨nm.toArray⟩, .string ⟨m.toArray⟩, .string ⟨a.toArray⟩, .string ⟨b.toArray⟩, .string ⟨c.toArray⟩, .string ⟨d.toArray⟩] := kP0.past (show Below w1_.heap.size w1_ w5 from (by repeat (first | assumption | (with_reducible exact pr) | (with_reducible refine pd ?_) | (with_reducible refine pa ?_) | (with_reducible refine pt ?_ (by assumption))))); have hB5 : Below w1_.heap.size w1_ w5 := (by repeat (first | assumption | (with_reducible exact pr) | (with_reducible refine pd ?_) | (with_reducible refine pa ?_) | (with_reducible refine pt ?_ (by assumption)))); have x0 := KX5.cellAt 0 rfl; have x1 := KX5.cellAt 1 rfl; have x2 := KX5.cellAt 2 rfl; have x3 := KX5.cellAt 3 rfl; have x4 := KX5.cellAt 4 rfl; have x5 := KX5.cellAt 5 rfl; have xl := KX5.lt; have xf := KX5.frozen; have HM5 : MadeIn w.heap.size w1_.heap.size w5 A2 (M.map strV) := made_of (s := w1_.heap.size + 1) (fun h => (by obtain ⟨q1, q2, q3⟩ := hap (by simpa using h); exact ⟨q1, by simpa using q2, q3⟩)) (by omega) (fun h => (by have q := (hap (by simpa using h)).2.1; simp at q; omega)); clear hap) | (go_at_call 52; (with_reducible refine (HPa.out _ (HS.out _ (pt hS1 (by repeat (first | assumption | (with_reducible exact pr) | (with_reducible refine pd ?_) | (with_reducible refine pa ?_) | (with_reducible refine pt ?_ (by assumption))))))).mono ?_); rintro e w5 ⟨A2, c2, g2, rfl, hc2, hg2, hap, hb5⟩; have KR5 : Blk w5 w.heap.size 58 #[.string ⟨#[]⟩, .slice none 0 0, .int .i64 0, .int .i64 0, .int .i64 0, .int .i64 0] := R_1.past (show Below w1_.heap.size w1_ w5 from (by repeat (first | assumption | (with_reducible exact pr) | (with_reducible refine pd ?_) | (with_reducible refine pa ?_) | (with_reducible refine pt ?_ (by assumption))))); have KP5 : Blk w5 gP 9 #[.string ⟨nm.toArray⟩, .string ⟨m.toArray⟩, .string ⟨a.toArray⟩, .string ⟨b.toArray⟩, .string ⟨c.toArray⟩, .string ⟨d.toArray⟩] := kP0.past (show Below w1_.heap.size w1_ w5 from (by repeat (first | assumption | (with_reducible exact pr) | (with_reducible refine pd ?_) | (with_reducible refine pa ?_) | (with_reducible refine pt ?_ (by assumption))))); have hB5 : Below w1_.heap.size w1_ w5 := (by repeat (first | assumption | (with_reducible exact pr) | (with_reducible refine pd ?_) | (with_reducible refine pa ?_) | (with_reducible refine pt ?_ (by assumption)))); have HM5 : MadeIn w.heap.size w5.heap.size w5 A2 (M.map strV) := made_of (s := w1_.heap.size) (fun h => (by obtain ⟨q1, q2, q3⟩ := hap (by simpa using h); exact ⟨q1, by simpa using q2, q3⟩)) (by omega) (fun h => by omega); clear hap))
    all_goals
      have hB5s := hB5.size
      go_wp2
      go_meet
      case rel =>
        first
        | (with_reducible exact ⟨w1_.heap.size, A2, c2, rfl, Nat.le_refl _, hc2, far6 KR5 (by omega), far6 KP5 (by omega), blk_set6 KX5, made6 HM5, below6 (pt hS1 hB5) (by omega)⟩)
        | (with_reducible exact ⟨w5.heap.size, A2, c2, rfl, hB5s, hc2, KR5.alloc, KP5.alloc, Blk.new _ _ _, HM5.alloc, pa (pt hS1 hB5)⟩)
        | (with_reducible exact ⟨w5.heap.size, A2, c2, rfl, hB5s, hc2, KR5.drew.alloc, KP5.drew.alloc, Blk.new _ _ _, HM5.alloc, pa (pt hS1 hB5)⟩)
  case rest =>
    obtain ⟨bx, A2, c2, rfl, hbx, hc2, kR, kP, kX, hM, hSx⟩ := hcut
    have hPx : gP ≠ bx := by omega
    have HCon := Lib.hid (show ∀ w', CellsIn w'.heap.size w' A2 (M.map strV) → Calls Tryz.prog 64 #[.slice A2 M.length c2, .string ⟨#[]⟩] w' fun e w'' => e = .returned (.bool e0) ∧ w' = w'' from fun w' h => HEm.out ▸ containsS_any w'.heap.size A2 M.length c2 (M.map bytesL) ⟨#[]⟩ w' (rowIn_of_cells h) (by simp) (by omega))
    have HM := Lib.hid hM
    have hx1 := kX.cellAt 1 rfl
    have hxl := kX.lt
    clear hM HPa HSp HS4 kX0 kP0 hS1
    go_wp2_with (go_at_call 64; (with_reducible refine (HCon.out _ HM.out.cells).mono ?_); rintro e w' ⟨rfl, rfl⟩)
    go_loopw [6, 45] (fun okv iv wr => ∃ (k : Nat) (o : Bool) (y0 y1 y2 y3 : Int), okv = .bool o ∧ iv = .int .i64 (k : Int) ∧ k ≤ 4 ∧ Fit va vb vc vd e0 k o y0 y1 y2 y3 ∧ Blk wr w.heap.size 58 #[.string ⟨#[]⟩, .slice none 0 0, .int .i64 0, .int .i64 0, .int .i64 0, .int .i64 0] ∧ Blk wr gP 9 #[.string ⟨nm.toArray⟩, .string ⟨m.toArray⟩, .string ⟨a.toArray⟩, .string ⟨b.toArray⟩, .string ⟨c.toArray⟩, .string ⟨d.toArray⟩] ∧ Blk wr bx 58 #[.string ⟨nm.toArray⟩, .slice A2 M.length c2, .int .i64 y0, .int .i64 y1, .int .i64 y2, .int .i64 y3] ∧ MadeIn w.heap.size bx wr A2 (M.map strV) ∧ Below w.heap.size w wr) (fun _ iv _ => 4 - (intOf iv).toNat)
    case atStart => exact ⟨0, !e0, 0, 0, 0, 0, rfl, rfl, by omega, fit_start, kR, kP, kX, HM.out, hSx⟩
    case round =>
      obtain ⟨k, o, y0, y1, y2, y3, rfl, rfl, hk4, hfit, kR, kP, kX, hM, hS0⟩ := hrel
      have HFit := Lib.hid hfit
      have HS0 := Lib.hid hS0
      clear hfit hS0 hx1 hxl
      by_cases hlt : k < 4
      · clear HBad HGood HSm HEm HCon
        rcases (show k = 0 ∨ k = 1 ∨ k = 2 ∨ k = 3 by omega) with rfl | rfl | rfl | rfl
        · clear hlt hk4
          cases o
          · have HFit1 := HFit
            have ne_R_X : w.heap.size ≠ bx := (by omega)
            have ne_P_X : gP ≠ bx := hPx
            have ge_X : w.heap.size ≤ bx := (by omega)
            have Pc2 := kP.cellAt 2 rfl
            have Pl := kP.lt
            go_wp2_with (first
              | (go_at_call 51; (with_reducible refine (HNa.out _ (HS.out _ (HS0.out))).mono ?_); rintro e w61_ ⟨⟨x1, rfl, hx1⟩, h61_⟩; have R_61 : Blk w61_ (w.heap.size) 58 #[.string ⟨#[]⟩, .slice none 0 0, .int .i64 0, .int .i64 0, .int .i64 0, .int .i64 0] := (kR).past h61_; have P_61 : Blk w61_ (gP) 9 #[.string ⟨nm.toArray⟩, .string ⟨m.toArray⟩, .string ⟨a.toArray⟩, .string ⟨b.toArray⟩, .string ⟨c.toArray⟩, .string ⟨d.toArray⟩] := (kP).past h61_; have X_61 : Blk w61_ (bx) 58 #[.string ⟨nm.toArray⟩, .slice A2 M.length c2, .int .i64 y0, .int .i64 y1, .int .i64 y2, .int .i64 y3] := (kX).past h61_; have M_61 : MadeIn w.heap.size bx w61_ A2 (M.map strV) := (hM).past h61_; have S_61 := pt (HS0.out) h61_; clear kR kP kX Pc2 Pl; clear h61_)
              | ((with_reducible refine store_sub (T := 3) (x := .tmp 64) (y := .tmp 59) (o := 2) (cs' := #[.string ⟨nm.toArray⟩, .slice A2 M.length c2, .int .i64 x1, .int .i64 y1, .int .i64 y2, .int .i64 y3]) (vs := #[.int .i64 x1]) (show Blk _ (bx) 58 #[.string ⟨nm.toArray⟩, .slice A2 M.length c2, .int .i64 y0, .int .i64 y1, .int .i64 y2, .int .i64 y3] from (X_61)) ?_ ?_ ?_ ?_ ?_ ?_ ?_); (focus rfl); (focus rfl); (focus rfl); (focus exact Nat.le_of_ble_eq_true rfl); (focus exact int_size1); (focus (simp [Value.oneCell']; done)); intro w62_ b62_ h62_; have R_62 : Blk w62_ (w.heap.size) 58 #[.string ⟨#[]⟩, .slice none 0 0, .int .i64 0, .int .i64 0, .int .i64 0, .int .i64 0] := (R_61).put h62_ ne_R_X; have P_62 : Blk w62_ (gP) 9 #[.string ⟨nm.toArray⟩, .string ⟨m.toArray⟩, .string ⟨a.toArray⟩, .string ⟨b.toArray⟩, .string ⟨c.toArray⟩, .string ⟨d.toArray⟩] := (P_61).put h62_ ne_P_X; have X_62 : Blk w62_ (bx) 58 #[.string ⟨nm.toArray⟩, .slice A2 M.length c2, .int .i64 x1, .int .i64 y1, .int .i64 y2, .int .i64 y3] := b62_; have M_62 : MadeIn w.heap.size bx w62_ A2 (M.map strV) := (M_61).put h62_ (.inr rfl); have S_62 := pp (S_61) h62_ ge_X; clear R_61 P_61 X_61 M_61 S_61; clear h62_ b62_))
            go_roundw
            case rel => exact ⟨1, false, x1, y1, y2, y3, rfl, by first | rfl | go_num | simp, by omega, fit0 HFit1.out hx1, R_62, P_62, X_62, M_62, S_62⟩
            case measure => simp [intOf]
          · have HFit1 := HFit
            have ne_R_X : w.heap.size ≠ bx := (by omega)
            have ne_P_X : gP ≠ bx := hPx
            have ge_X : w.heap.size ≤ bx := (by omega)
            have Pc2 := kP.cellAt 2 rfl
            have Pl := kP.lt
            go_wp2_with (first
              | (go_at_call 51; (with_reducible refine (HNa.out _ (HS.out _ (HS0.out))).mono ?_); rintro e w61_ ⟨⟨x1, rfl, hx1⟩, h61_⟩; have R_61 : Blk w61_ (w.heap.size) 58 #[.string ⟨#[]⟩, .slice none 0 0, .int .i64 0, .int .i64 0, .int .i64 0, .int .i64 0] := (kR).past h61_; have P_61 : Blk w61_ (gP) 9 #[.string ⟨nm.toArray⟩, .string ⟨m.toArray⟩, .string ⟨a.toArray⟩, .string ⟨b.toArray⟩, .string ⟨c.toArray⟩, .string ⟨d.toArray⟩] := (kP).past h61_; have X_61 : Blk w61_ (bx) 58 #[.string ⟨nm.toArray⟩, .slice A2 M.length c2, .int .i64 y0, .int .i64 y1, .int .i64 y2, .int .i64 y3] := (kX).past h61_; have M_61 : MadeIn w.heap.size bx w61_ A2 (M.map strV) := (hM).past h61_; have S_61 := pt (HS0.out) h61_; clear kR kP kX Pc2 Pl; clear h61_)
              | ((with_reducible refine store_sub (T := 3) (x := .tmp 64) (y := .tmp 59) (o := 2) (cs' := #[.string ⟨nm.toArray⟩, .slice A2 M.length c2, .int .i64 x1, .int .i64 y1, .int .i64 y2, .int .i64 y3]) (vs := #[.int .i64 x1]) (show Blk _ (bx) 58 #[.string ⟨nm.toArray⟩, .slice A2 M.length c2, .int .i64 y0, .int .i64 y1, .int .i64 y2, .int .i64 y3] from (X_61)) ?_ ?_ ?_ ?_ ?_ ?_ ?_); (focus rfl); (focus rfl); (focus rfl); (focus exact Nat.le_of_ble_eq_true rfl); (focus exact int_size1); (focus (simp [Value.oneCell']; done)); intro w62_ b62_ h62_; have R_62 : Blk w62_ (w.heap.size) 58 #[.string ⟨#[]⟩, .slice none 0 0, .int .i64 0, .int .i64 0, .int .i64 0, .int .i64 0] := (R_61).put h62_ ne_R_X; have P_62 : Blk w62_ (gP) 9 #[.string ⟨nm.toArray⟩, .string ⟨m.toArray⟩, .string ⟨a.toArray⟩, .string ⟨b.toArray⟩, .string ⟨c.toArray⟩, .string ⟨d.toArray⟩] := (P_61).put h62_ ne_P_X; have X_62 : Blk w62_ (bx) 58 #[.string ⟨nm.toArray⟩, .slice A2 M.length c2, .int .i64 x1, .int .i64 y1, .int .i64 y2, .int .i64 y3] := b62_; have M_62 : MadeIn w.heap.size bx w62_ A2 (M.map strV) := (M_61).put h62_ (.inr rfl); have S_62 := pp (S_61) h62_ ge_X; clear R_61 P_61 X_61 M_61 S_61; clear h62_ b62_))
            go_roundw
            case rel => exact ⟨1, va.isSome, x1, y1, y2, y3, rfl, by first | rfl | go_num | simp, by omega, fit0 HFit1.out hx1, R_62, P_62, X_62, M_62, S_62⟩
            case measure => simp [intOf]
        · clear hlt hk4
          cases o
          · have HFit1 := HFit
            have ne_R_X : w.heap.size ≠ bx := (by omega)
            have ne_P_X : gP ≠ bx := hPx
            have ge_X : w.heap.size ≤ bx := (by omega)
            have Pc3 := kP.cellAt 3 rfl
            have Pl := kP.lt
            go_wp2_with (first
              | (go_at_call 51; (with_reducible refine (HNb.out _ (HS.out _ (HS0.out))).mono ?_); rintro e w61_ ⟨⟨x1, rfl, hx1⟩, h61_⟩; have R_61 : Blk w61_ (w.heap.size) 58 #[.string ⟨#[]⟩, .slice none 0 0, .int .i64 0, .int .i64 0, .int .i64 0, .int .i64 0] := (kR).past h61_; have P_61 : Blk w61_ (gP) 9 #[.string ⟨nm.toArray⟩, .string ⟨m.toArray⟩, .string ⟨a.toArray⟩, .string ⟨b.toArray⟩, .string ⟨c.toArray⟩, .string ⟨d.toArray⟩] := (kP).past h61_; have X_61 : Blk w61_ (bx) 58 #[.string ⟨nm.toArray⟩, .slice A2 M.length c2, .int .i64 y0, .int .i64 y1, .int .i64 y2, .int .i64 y3] := (kX).past h61_; have M_61 : MadeIn w.heap.size bx w61_ A2 (M.map strV) := (hM).past h61_; have S_61 := pt (HS0.out) h61_; clear kR kP kX Pc3 Pl; clear h61_)
              | ((with_reducible refine store_sub (T := 3) (x := .tmp 64) (y := .tmp 59) (o := 3) (cs' := #[.string ⟨nm.toArray⟩, .slice A2 M.length c2, .int .i64 y0, .int .i64 x1, .int .i64 y2, .int .i64 y3]) (vs := #[.int .i64 x1]) (show Blk _ (bx) 58 #[.string ⟨nm.toArray⟩, .slice A2 M.length c2, .int .i64 y0, .int .i64 y1, .int .i64 y2, .int .i64 y3] from (X_61)) ?_ ?_ ?_ ?_ ?_ ?_ ?_); (focus rfl); (focus rfl); (focus rfl); (focus exact Nat.le_of_ble_eq_true rfl); (focus exact int_size1); (focus (simp [Value.oneCell']; done)); intro w62_ b62_ h62_; have R_62 : Blk w62_ (w.heap.size) 58 #[.string ⟨#[]⟩, .slice none 0 0, .int .i64 0, .int .i64 0, .int .i64 0, .int .i64 0] := (R_61).put h62_ ne_R_X; have P_62 : Blk w62_ (gP) 9 #[.string ⟨nm.toArray⟩, .string ⟨m.toArray⟩, .string ⟨a.toArray⟩, .string ⟨b.toArray⟩, .string ⟨c.toArray⟩, .string ⟨d.toArray⟩] := (P_61).put h62_ ne_P_X; have X_62 : Blk w62_ (bx) 58 #[.string ⟨nm.toArray⟩, .slice A2 M.length c2, .int .i64 y0, .int .i64 x1, .int .i64 y2, .int .i64 y3] := b62_; have M_62 : MadeIn w.heap.size bx w62_ A2 (M.map strV) := (M_61).put h62_ (.inr rfl); have S_62 := pp (S_61) h62_ ge_X; clear R_61 P_61 X_61 M_61 S_61; clear h62_ b62_))
            go_roundw
            case rel => exact ⟨2, false, y0, x1, y2, y3, rfl, by first | rfl | go_num | simp, by omega, fit1 HFit1.out hx1, R_62, P_62, X_62, M_62, S_62⟩
            case measure => simp [intOf]
          · have HFit1 := HFit
            have ne_R_X : w.heap.size ≠ bx := (by omega)
            have ne_P_X : gP ≠ bx := hPx
            have ge_X : w.heap.size ≤ bx := (by omega)
            have Pc3 := kP.cellAt 3 rfl
            have Pl := kP.lt
            go_wp2_with (first
              | (go_at_call 51; (with_reducible refine (HNb.out _ (HS.out _ (HS0.out))).mono ?_); rintro e w61_ ⟨⟨x1, rfl, hx1⟩, h61_⟩; have R_61 : Blk w61_ (w.heap.size) 58 #[.string ⟨#[]⟩, .slice none 0 0, .int .i64 0, .int .i64 0, .int .i64 0, .int .i64 0] := (kR).past h61_; have P_61 : Blk w61_ (gP) 9 #[.string ⟨nm.toArray⟩, .string ⟨m.toArray⟩, .string ⟨a.toArray⟩, .string ⟨b.toArray⟩, .string ⟨c.toArray⟩, .string ⟨d.toArray⟩] := (kP).past h61_; have X_61 : Blk w61_ (bx) 58 #[.string ⟨nm.toArray⟩, .slice A2 M.length c2, .int .i64 y0, .int .i64 y1, .int .i64 y2, .int .i64 y3] := (kX).past h61_; have M_61 : MadeIn w.heap.size bx w61_ A2 (M.map strV) := (hM).past h61_; have S_61 := pt (HS0.out) h61_; clear kR kP kX Pc3 Pl; clear h61_)
              | ((with_reducible refine store_sub (T := 3) (x := .tmp 64) (y := .tmp 59) (o := 3) (cs' := #[.string ⟨nm.toArray⟩, .slice A2 M.length c2, .int .i64 y0, .int .i64 x1, .int .i64 y2, .int .i64 y3]) (vs := #[.int .i64 x1]) (show Blk _ (bx) 58 #[.string ⟨nm.toArray⟩, .slice A2 M.length c2, .int .i64 y0, .int .i64 y1, .int .i64 y2, .int .i64 y3] from (X_61)) ?_ ?_ ?_ ?_ ?_ ?_ ?_); (focus rfl); (focus rfl); (focus rfl); (focus exact Nat.le_of_ble_eq_true rfl); (focus exact int_size1); (focus (simp [Value.oneCell']; done)); intro w62_ b62_ h62_; have R_62 : Blk w62_ (w.heap.size) 58 #[.string ⟨#[]⟩, .slice none 0 0, .int .i64 0, .int .i64 0, .int .i64 0, .int .i64 0] := (R_61).put h62_ ne_R_X; have P_62 : Blk w62_ (gP) 9 #[.string ⟨nm.toArray⟩, .string ⟨m.toArray⟩, .string ⟨a.toArray⟩, .string ⟨b.toArray⟩, .string ⟨c.toArray⟩, .string ⟨d.toArray⟩] := (P_61).put h62_ ne_P_X; have X_62 : Blk w62_ (bx) 58 #[.string ⟨nm.toArray⟩, .slice A2 M.length c2, .int .i64 y0, .int .i64 x1, .int .i64 y2, .int .i64 y3] := b62_; have M_62 : MadeIn w.heap.size bx w62_ A2 (M.map strV) := (M_61).put h62_ (.inr rfl); have S_62 := pp (S_61) h62_ ge_X; clear R_61 P_61 X_61 M_61 S_61; clear h62_ b62_))
            go_roundw
            case rel => exact ⟨2, vb.isSome, y0, x1, y2, y3, rfl, by first | rfl | go_num | simp, by omega, fit1 HFit1.out hx1, R_62, P_62, X_62, M_62, S_62⟩
            case measure => simp [intOf]
        · clear hlt hk4
          cases o
          · have HFit1 := HFit
            have ne_R_X : w.heap.size ≠ bx := (by omega)
            have ne_P_X : gP ≠ bx := hPx
            have ge_X : w.heap.size ≤ bx := (by omega)
            have Pc4 := kP.cellAt 4 rfl
            have Pl := kP.lt
            go_wp2_with (first
              | (go_at_call 51; (with_reducible refine (HNc.out _ (HS.out _ (HS0.out))).mono ?_); rintro e w61_ ⟨⟨x1, rfl, hx1⟩, h61_⟩; have R_61 : Blk w61_ (w.heap.size) 58 #[.string ⟨#[]⟩, .slice none 0 0, .int .i64 0, .int .i64 0, .int .i64 0, .int .i64 0] := (kR).past h61_; have P_61 : Blk w61_ (gP) 9 #[.string ⟨nm.toArray⟩, .string ⟨m.toArray⟩, .string ⟨a.toArray⟩, .string ⟨b.toArray⟩, .string ⟨c.toArray⟩, .string ⟨d.toArray⟩] := (kP).past h61_; have X_61 : Blk w61_ (bx) 58 #[.string ⟨nm.toArray⟩, .slice A2 M.length c2, .int .i64 y0, .int .i64 y1, .int .i64 y2, .int .i64 y3] := (kX).past h61_; have M_61 : MadeIn w.heap.size bx w61_ A2 (M.map strV) := (hM).past h61_; have S_61 := pt (HS0.out) h61_; clear kR kP kX Pc4 Pl; clear h61_)
              | ((with_reducible refine store_sub (T := 3) (x := .tmp 64) (y := .tmp 59) (o := 4) (cs' := #[.string ⟨nm.toArray⟩, .slice A2 M.length c2, .int .i64 y0, .int .i64 y1, .int .i64 x1, .int .i64 y3]) (vs := #[.int .i64 x1]) (show Blk _ (bx) 58 #[.string ⟨nm.toArray⟩, .slice A2 M.length c2, .int .i64 y0, .int .i64 y1, .int .i64 y2, .int .i64 y3] from (X_61)) ?_ ?_ ?_ ?_ ?_ ?_ ?_); (focus rfl); (focus rfl); (focus rfl); (focus exact Nat.le_of_ble_eq_true rfl); (focus exact int_size1); (focus (simp [Value.oneCell']; done)); intro w62_ b62_ h62_; have R_62 : Blk w62_ (w.heap.size) 58 #[.string ⟨#[]⟩, .slice none 0 0, .int .i64 0, .int .i64 0, .int .i64 0, .int .i64 0] := (R_61).put h62_ ne_R_X; have P_62 : Blk w62_ (gP) 9 #[.string ⟨nm.toArray⟩, .string ⟨m.toArray⟩, .string ⟨a.toArray⟩, .string ⟨b.toArray⟩, .string ⟨c.toArray⟩, .string ⟨d.toArray⟩] := (P_61).put h62_ ne_P_X; have X_62 : Blk w62_ (bx) 58 #[.string ⟨nm.toArray⟩, .slice A2 M.length c2, .int .i64 y0, .int .i64 y1, .int .i64 x1, .int .i64 y3] := b62_; have M_62 : MadeIn w.heap.size bx w62_ A2 (M.map strV) := (M_61).put h62_ (.inr rfl); have S_62 := pp (S_61) h62_ ge_X; clear R_61 P_61 X_61 M_61 S_61; clear h62_ b62_))
            go_roundw
            case rel => exact ⟨3, false, y0, y1, x1, y3, rfl, by first | rfl | go_num | simp, by omega, fit2 HFit1.out hx1, R_62, P_62, X_62, M_62, S_62⟩
            case measure => simp [intOf]
          · have HFit1 := HFit
            have ne_R_X : w.heap.size ≠ bx := (by omega)
            have ne_P_X : gP ≠ bx := hPx
            have ge_X : w.heap.size ≤ bx := (by omega)
            have Pc4 := kP.cellAt 4 rfl
            have Pl := kP.lt
            go_wp2_with (first
              | (go_at_call 51; (with_reducible refine (HNc.out _ (HS.out _ (HS0.out))).mono ?_); rintro e w61_ ⟨⟨x1, rfl, hx1⟩, h61_⟩; have R_61 : Blk w61_ (w.heap.size) 58 #[.string ⟨#[]⟩, .slice none 0 0, .int .i64 0, .int .i64 0, .int .i64 0, .int .i64 0] := (kR).past h61_; have P_61 : Blk w61_ (gP) 9 #[.string ⟨nm.toArray⟩, .string ⟨m.toArray⟩, .string ⟨a.toArray⟩, .string ⟨b.toArray⟩, .string ⟨c.toArray⟩, .string ⟨d.toArray⟩] := (kP).past h61_; have X_61 : Blk w61_ (bx) 58 #[.string ⟨nm.toArray⟩, .slice A2 M.length c2, .int .i64 y0, .int .i64 y1, .int .i64 y2, .int .i64 y3] := (kX).past h61_; have M_61 : MadeIn w.heap.size bx w61_ A2 (M.map strV) := (hM).past h61_; have S_61 := pt (HS0.out) h61_; clear kR kP kX Pc4 Pl; clear h61_)
              | ((with_reducible refine store_sub (T := 3) (x := .tmp 64) (y := .tmp 59) (o := 4) (cs' := #[.string ⟨nm.toArray⟩, .slice A2 M.length c2, .int .i64 y0, .int .i64 y1, .int .i64 x1, .int .i64 y3]) (vs := #[.int .i64 x1]) (show Blk _ (bx) 58 #[.string ⟨nm.toArray⟩, .slice A2 M.length c2, .int .i64 y0, .int .i64 y1, .int .i64 y2, .int .i64 y3] from (X_61)) ?_ ?_ ?_ ?_ ?_ ?_ ?_); (focus rfl); (focus rfl); (focus rfl); (focus exact Nat.le_of_ble_eq_true rfl); (focus exact int_size1); (focus (simp [Value.oneCell']; done)); intro w62_ b62_ h62_; have R_62 : Blk w62_ (w.heap.size) 58 #[.string ⟨#[]⟩, .slice none 0 0, .int .i64 0, .int .i64 0, .int .i64 0, .int .i64 0] := (R_61).put h62_ ne_R_X; have P_62 : Blk w62_ (gP) 9 #[.string ⟨nm.toArray⟩, .string ⟨m.toArray⟩, .string ⟨a.toArray⟩, .string ⟨b.toArray⟩, .string ⟨c.toArray⟩, .string ⟨d.toArray⟩] := (P_61).put h62_ ne_P_X; have X_62 : Blk w62_ (bx) 58 #[.string ⟨nm.toArray⟩, .slice A2 M.length c2, .int .i64 y0, .int .i64 y1, .int .i64 x1, .int .i64 y3] := b62_; have M_62 : MadeIn w.heap.size bx w62_ A2 (M.map strV) := (M_61).put h62_ (.inr rfl); have S_62 := pp (S_61) h62_ ge_X; clear R_61 P_61 X_61 M_61 S_61; clear h62_ b62_))
            go_roundw
            case rel => exact ⟨3, vc.isSome, y0, y1, x1, y3, rfl, by first | rfl | go_num | simp, by omega, fit2 HFit1.out hx1, R_62, P_62, X_62, M_62, S_62⟩
            case measure => simp [intOf]
        · clear hlt hk4
          cases o
          · have HFit1 := HFit
            have ne_R_X : w.heap.size ≠ bx := (by omega)
            have ne_P_X : gP ≠ bx := hPx
            have ge_X : w.heap.size ≤ bx := (by omega)
            have Pc5 := kP.cellAt 5 rfl
            have Pl := kP.lt
            go_wp2_with (first
              | (go_at_call 51; (with_reducible refine (HNd.out _ (HS.out _ (HS0.out))).mono ?_); rintro e w61_ ⟨⟨x1, rfl, hx1⟩, h61_⟩; have R_61 : Blk w61_ (w.heap.size) 58 #[.string ⟨#[]⟩, .slice none 0 0, .int .i64 0, .int .i64 0, .int .i64 0, .int .i64 0] := (kR).past h61_; have P_61 : Blk w61_ (gP) 9 #[.string ⟨nm.toArray⟩, .string ⟨m.toArray⟩, .string ⟨a.toArray⟩, .string ⟨b.toArray⟩, .string ⟨c.toArray⟩, .string ⟨d.toArray⟩] := (kP).past h61_; have X_61 : Blk w61_ (bx) 58 #[.string ⟨nm.toArray⟩, .slice A2 M.length c2, .int .i64 y0, .int .i64 y1, .int .i64 y2, .int .i64 y3] := (kX).past h61_; have M_61 : MadeIn w.heap.size bx w61_ A2 (M.map strV) := (hM).past h61_; have S_61 := pt (HS0.out) h61_; clear kR kP kX Pc5 Pl; clear h61_)
              | ((with_reducible refine store_sub (T := 3) (x := .tmp 64) (y := .tmp 59) (o := 5) (cs' := #[.string ⟨nm.toArray⟩, .slice A2 M.length c2, .int .i64 y0, .int .i64 y1, .int .i64 y2, .int .i64 x1]) (vs := #[.int .i64 x1]) (show Blk _ (bx) 58 #[.string ⟨nm.toArray⟩, .slice A2 M.length c2, .int .i64 y0, .int .i64 y1, .int .i64 y2, .int .i64 y3] from (X_61)) ?_ ?_ ?_ ?_ ?_ ?_ ?_); (focus rfl); (focus rfl); (focus rfl); (focus exact Nat.le_of_ble_eq_true rfl); (focus exact int_size1); (focus (simp [Value.oneCell']; done)); intro w62_ b62_ h62_; have R_62 : Blk w62_ (w.heap.size) 58 #[.string ⟨#[]⟩, .slice none 0 0, .int .i64 0, .int .i64 0, .int .i64 0, .int .i64 0] := (R_61).put h62_ ne_R_X; have P_62 : Blk w62_ (gP) 9 #[.string ⟨nm.toArray⟩, .string ⟨m.toArray⟩, .string ⟨a.toArray⟩, .string ⟨b.toArray⟩, .string ⟨c.toArray⟩, .string ⟨d.toArray⟩] := (P_61).put h62_ ne_P_X; have X_62 : Blk w62_ (bx) 58 #[.string ⟨nm.toArray⟩, .slice A2 M.length c2, .int .i64 y0, .int .i64 y1, .int .i64 y2, .int .i64 x1] := b62_; have M_62 : MadeIn w.heap.size bx w62_ A2 (M.map strV) := (M_61).put h62_ (.inr rfl); have S_62 := pp (S_61) h62_ ge_X; clear R_61 P_61 X_61 M_61 S_61; clear h62_ b62_))
            go_roundw
            case rel => exact ⟨4, false, y0, y1, y2, x1, rfl, by first | rfl | go_num | simp, by omega, fit3 HFit1.out hx1, R_62, P_62, X_62, M_62, S_62⟩
            case measure => simp [intOf]
          · have HFit1 := HFit
            have ne_R_X : w.heap.size ≠ bx := (by omega)
            have ne_P_X : gP ≠ bx := hPx
            have ge_X : w.heap.size ≤ bx := (by omega)
            have Pc5 := kP.cellAt 5 rfl
            have Pl := kP.lt
            go_wp2_with (first
              | (go_at_call 51; (with_reducible refine (HNd.out _ (HS.out _ (HS0.out))).mono ?_); rintro e w61_ ⟨⟨x1, rfl, hx1⟩, h61_⟩; have R_61 : Blk w61_ (w.heap.size) 58 #[.string ⟨#[]⟩, .slice none 0 0, .int .i64 0, .int .i64 0, .int .i64 0, .int .i64 0] := (kR).past h61_; have P_61 : Blk w61_ (gP) 9 #[.string ⟨nm.toArray⟩, .string ⟨m.toArray⟩, .string ⟨a.toArray⟩, .string ⟨b.toArray⟩, .string ⟨c.toArray⟩, .string ⟨d.toArray⟩] := (kP).past h61_; have X_61 : Blk w61_ (bx) 58 #[.string ⟨nm.toArray⟩, .slice A2 M.length c2, .int .i64 y0, .int .i64 y1, .int .i64 y2, .int .i64 y3] := (kX).past h61_; have M_61 : MadeIn w.heap.size bx w61_ A2 (M.map strV) := (hM).past h61_; have S_61 := pt (HS0.out) h61_; clear kR kP kX Pc5 Pl; clear h61_)
              | ((with_reducible refine store_sub (T := 3) (x := .tmp 64) (y := .tmp 59) (o := 5) (cs' := #[.string ⟨nm.toArray⟩, .slice A2 M.length c2, .int .i64 y0, .int .i64 y1, .int .i64 y2, .int .i64 x1]) (vs := #[.int .i64 x1]) (show Blk _ (bx) 58 #[.string ⟨nm.toArray⟩, .slice A2 M.length c2, .int .i64 y0, .int .i64 y1, .int .i64 y2, .int .i64 y3] from (X_61)) ?_ ?_ ?_ ?_ ?_ ?_ ?_); (focus rfl); (focus rfl); (focus rfl); (focus exact Nat.le_of_ble_eq_true rfl); (focus exact int_size1); (focus (simp [Value.oneCell']; done)); intro w62_ b62_ h62_; have R_62 : Blk w62_ (w.heap.size) 58 #[.string ⟨#[]⟩, .slice none 0 0, .int .i64 0, .int .i64 0, .int .i64 0, .int .i64 0] := (R_61).put h62_ ne_R_X; have P_62 : Blk w62_ (gP) 9 #[.string ⟨nm.toArray⟩, .string ⟨m.toArray⟩, .string ⟨a.toArray⟩, .string ⟨b.toArray⟩, .string ⟨c.toArray⟩, .string ⟨d.toArray⟩] := (P_61).put h62_ ne_P_X; have X_62 : Blk w62_ (bx) 58 #[.string ⟨nm.toArray⟩, .slice A2 M.length c2, .int .i64 y0, .int .i64 y1, .int .i64 y2, .int .i64 x1] := b62_; have M_62 : MadeIn w.heap.size bx w62_ A2 (M.map strV) := (M_61).put h62_ (.inr rfl); have S_62 := pp (S_61) h62_ ge_X; clear R_61 P_61 X_61 M_61 S_61; clear h62_ b62_))
            go_roundw
            case rel => exact ⟨4, vd.isSome, y0, y1, y2, x1, rfl, by first | rfl | go_num | simp, by omega, fit3 HFit1.out hx1, R_62, P_62, X_62, M_62, S_62⟩
            case measure => simp [intOf]
      · obtain rfl : k = 4 := by omega
        clear hlt hk4
        have hte := fun w' (hb : Below wr.heap.size wr w') => (show Calls Tryz.prog 65 #[.agg #[.string ⟨nm.toArray⟩, .slice A2 M.length c2, .int .i64 y0, .int .i64 y1, .int .i64 y2, .int .i64 y3]] w' fun e w'' => e = .returned (.int .i64 (lotE (lotB (nm, M, y0, y1, y2, y3)))) ∧ Below w'.heap.size w' w'' from lotErr_any wr.heap.size (lotB (nm, M, y0, y1, y2, y3)) A2 M.length c2 w' (by simp [lotB]) ((rowIn_of_cells hM.cells).below hb) hb.size (HSm.out y0 y1 y2 y3) hc2)
        have HG := Lib.hid (fun h0 h1 h2 h3 h4 => HGood.out y0 y1 y2 y3 h0 h1 h2 h3 h4)
        generalize lotE (lotB (nm, M, y0, y1, y2, y3)) = E at *
        have HTe := Lib.hid hte
        clear hte HNa HNb HNc HNd HSm HEm HCon HGood
        cases o
        · have ne_R_X : w.heap.size ≠ bx := (by omega)
          have ge_R : w.heap.size ≤ w.heap.size := Nat.le_refl _
          have ge_X : w.heap.size ≤ bx := (by omega)
          have hR := HBad.out (HFit.out.2 rfl)
          have HV := Lib.hid (show firstV [unlessV false 7, E] = 7 from rfl)
          subst hR
          clear HFit HBad HG
          have t0 := kX.cellAt 0 rfl
          have t1 := kX.cellAt 1 rfl
          have t2 := kX.cellAt 2 rfl
          have t3 := kX.cellAt 3 rfl
          have t4 := kX.cellAt 4 rfl
          have t5 := kX.cellAt 5 rfl
          have x0 := kX.lt
          go_wp2
          refine region_below 4 follows_mixed (by kernel_rfl) ?_
          intro C hC
          simp only [List.take_succ_cons, List.take_zero, List.drop_succ_cons, List.drop_zero]
          repeat (first
            | ((with_reducible refine quiet_plain rfl (fun K hK => ?_)); (focus (apply quiet_val; (focus (intro w' hw; obtain ⟨hcq, hfq⟩ := bcell ((hC.out _).1 hw); go_simp; (first | done | rfl | (with_reducible exact call_same hw (unless_any _ _ _)) | (with_reducible exact call_below hC hw (HTe.out _ ((hC.out _).1 hw)))))); (simp only [Act.put, List.setIfInBounds_toArray, List.set_cons_succ, List.set_cons_zero]); (with_reducible refine hK _ ?_); clear hK K)))
            | ((with_reducible refine quiet_skip ?_ ?_); (focus (first | (simp [Region.wanted, yielded]; done) | (simp [Region.wanted, yielded, undef]; done))); simp only [Act.put, List.setIfInBounds_toArray, List.set_cons_succ, List.set_cons_zero])
            | ((with_reducible refine quiet_go ?_ (fun K hK => ?_)); (focus (first | (simp [Region.wanted, yielded]; done) | (simp [Region.wanted, yielded, undef]; done))); (focus (apply quiet_val; (focus (intro w' hw; obtain ⟨hcq, hfq⟩ := bcell ((hC.out _).1 hw); go_simp; (first | done | rfl | (with_reducible exact call_same hw (unless_any _ _ _)) | (with_reducible exact call_below hC hw (HTe.out _ ((hC.out _).1 hw)))))); (simp only [Act.put, List.setIfInBounds_toArray, List.set_cons_succ, List.set_cons_zero]); (with_reducible refine hK _ ?_); clear hK K))))
          refine wpQuiet_nil ?_
          intro w1 hb1
          replace hb1 := (hC.out _).1 hb1
          clear hC C
          obtain ⟨hc1, hf1⟩ := bcell hb1
          have R_61 : Blk w1 (w.heap.size) 58 #[.string ⟨#[]⟩, .slice none 0 0, .int .i64 0, .int .i64 0, .int .i64 0, .int .i64 0] := (kR).past hb1
          have X_61 : Blk w1 (bx) 58 #[.string ⟨nm.toArray⟩, .slice A2 M.length c2, .int .i64 y0, .int .i64 y1, .int .i64 y2, .int .i64 y3] := (kX).past hb1
          have M_61 : MadeIn w.heap.size bx w1 A2 (M.map strV) := (hM).past hb1
          have S_61 := pt (HS0.out) hb1
          clear kR kX t0 t1 t2 t3 t4 t5 x0
          have Xc0 := X_61.cellAt 0 rfl
          have Xc1 := X_61.cellAt 1 rfl
          have Xc2 := X_61.cellAt 2 rfl
          have Xc3 := X_61.cellAt 3 rfl
          have Xc4 := X_61.cellAt 4 rfl
          have Xc5 := X_61.cellAt 5 rfl
          have Xl := X_61.lt
          have Rc0 := R_61.cellAt 0 rfl
          have Rc1 := R_61.cellAt 1 rfl
          have Rc2 := R_61.cellAt 2 rfl
          have Rc3 := R_61.cellAt 3 rfl
          have Rc4 := R_61.cellAt 4 rfl
          have Rc5 := R_61.cellAt 5 rfl
          have Rl := R_61.lt
          clear hb1 hc1 hf1
          obtain ⟨w61_, rfl⟩ : ∃ v, v = w1 := ⟨_, rfl⟩
          go_wp2_with (first
            | (go_at_call 45; (with_reducible refine (first2' _ _ _ _ _ (by first | (go_simp; done) | (go_simp; rfl)) (by first | (go_simp; done) | (go_simp; rfl)) _ HV.out).mono ?_); rintro e w' ⟨rfl, rfl⟩)
            | ((with_reducible refine store_sub (T := 58) (x := .tmp 2) (y := .tmp 74) (o := 0) (cs' := #[.string ⟨#[]⟩, .slice none 0 0, .int .i64 0, .int .i64 0, .int .i64 0, .int .i64 0]) (vs := #[.string ⟨#[]⟩, .slice none 0 0, .int .i64 0, .int .i64 0, .int .i64 0, .int .i64 0]) (show Blk _ (w.heap.size) 58 #[.string ⟨#[]⟩, .slice none 0 0, .int .i64 0, .int .i64 0, .int .i64 0, .int .i64 0] from (R_61.alloc)) ?_ ?_ ?_ ?_ ?_ ?_ ?_); (focus rfl); (focus rfl); (focus rfl); (focus exact Nat.le_of_ble_eq_true rfl); (focus exact lot_size6); (focus (simp [Value.oneCell']; done)); intro w63_ b63_ h63_; have R_63 : Blk w63_ (w.heap.size) 58 #[.string ⟨#[]⟩, .slice none 0 0, .int .i64 0, .int .i64 0, .int .i64 0, .int .i64 0] := b63_; have X_63 : Blk w63_ (bx) 58 #[.string ⟨nm.toArray⟩, .slice A2 M.length c2, .int .i64 y0, .int .i64 y1, .int .i64 y2, .int .i64 y3] := (X_61.alloc).put h63_ (Ne.symm ne_R_X); have E_63 : Blk w63_ (w61_.heap.size) 37 #[.int .i64 (unlessV false 7), .int .i64 E] := (Blk.newAt (by simp)).put h63_ (by omega); have ne_R_E : w.heap.size ≠ w61_.heap.size := (by have := R_61.lt; omega); have ne_X_E : bx ≠ w61_.heap.size := (by have := X_61.lt; omega); have M_63 : MadeIn w.heap.size bx w63_ A2 (M.map strV) := (M_61.alloc).put h63_ (.inl rfl); have S_63 := pp (pa (S_61)) h63_ ge_R; clear R_61 X_61 M_61 S_61 Xc0 Xc1 Xc2 Xc3 Xc4 Xc5 Xl Rc0 Rc1 Rc2 Rc3 Rc4 Rc5 Rl; clear h63_ b63_))
          have z0 := R_63.cellAt 0 rfl
          have z1 := R_63.cellAt 1 rfl
          have z2 := R_63.cellAt 2 rfl
          have z3 := R_63.cellAt 3 rfl
          have z4 := R_63.cellAt 4 rfl
          have z5 := R_63.cellAt 5 rfl
          exact bodyPost_ret (v := .tuple #[.agg #[.string ⟨#[]⟩, .slice none 0 0, .int .i64 0, .int .i64 0, .int .i64 0, .int .i64 0], .int .i64 7]) (by simp [results, Tryz.results23, go_sem, z0, z1, z2, z3, z4, z5]) rfl (lotPost_bad S_63)
        · by_cases hE : E = 0
          · have ne_R_X : w.heap.size ≠ bx := (by omega)
            have ge_R : w.heap.size ≤ w.heap.size := Nat.le_refl _
            have ge_X : w.heap.size ≤ bx := (by omega)
            obtain ⟨q0, q1, q2, q3, q4⟩ := HFit.out.1 rfl
            have hR := HG.out q0 (q1 (by omega)) (q2 (by omega)) (q3 (by omega)) (q4 (by omega))
            rw [if_pos hE] at hR
            subst hE
            have HV := Lib.hid (show firstV [unlessV true 7, 0] = 0 from rfl)
            clear q0 q1 q2 q3 q4
            subst hR
            clear HFit HBad HG
            have t0 := kX.cellAt 0 rfl
            have t1 := kX.cellAt 1 rfl
            have t2 := kX.cellAt 2 rfl
            have t3 := kX.cellAt 3 rfl
            have t4 := kX.cellAt 4 rfl
            have t5 := kX.cellAt 5 rfl
            have x0 := kX.lt
            go_wp2
            refine region_below 4 follows_mixed (by kernel_rfl) ?_
            intro C hC
            simp only [List.take_succ_cons, List.take_zero, List.drop_succ_cons, List.drop_zero]
            repeat (first
              | ((with_reducible refine quiet_plain rfl (fun K hK => ?_)); (focus (apply quiet_val; (focus (intro w' hw; obtain ⟨hcq, hfq⟩ := bcell ((hC.out _).1 hw); go_simp; (first | done | rfl | (with_reducible exact call_same hw (unless_any _ _ _)) | (with_reducible exact call_below hC hw (HTe.out _ ((hC.out _).1 hw)))))); (simp only [Act.put, List.setIfInBounds_toArray, List.set_cons_succ, List.set_cons_zero]); (with_reducible refine hK _ ?_); clear hK K)))
              | ((with_reducible refine quiet_skip ?_ ?_); (focus (first | (simp [Region.wanted, yielded]; done) | (simp [Region.wanted, yielded, undef]; done))); simp only [Act.put, List.setIfInBounds_toArray, List.set_cons_succ, List.set_cons_zero])
              | ((with_reducible refine quiet_go ?_ (fun K hK => ?_)); (focus (first | (simp [Region.wanted, yielded]; done) | (simp [Region.wanted, yielded, undef]; done))); (focus (apply quiet_val; (focus (intro w' hw; obtain ⟨hcq, hfq⟩ := bcell ((hC.out _).1 hw); go_simp; (first | done | rfl | (with_reducible exact call_same hw (unless_any _ _ _)) | (with_reducible exact call_below hC hw (HTe.out _ ((hC.out _).1 hw)))))); (simp only [Act.put, List.setIfInBounds_toArray, List.set_cons_succ, List.set_cons_zero]); (with_reducible refine hK _ ?_); clear hK K))))
            refine wpQuiet_nil ?_
            intro w1 hb1
            replace hb1 := (hC.out _).1 hb1
            clear hC C
            obtain ⟨hc1, hf1⟩ := bcell hb1
            have R_61 : Blk w1 (w.heap.size) 58 #[.string ⟨#[]⟩, .slice none 0 0, .int .i64 0, .int .i64 0, .int .i64 0, .int .i64 0] := (kR).past hb1
            have X_61 : Blk w1 (bx) 58 #[.string ⟨nm.toArray⟩, .slice A2 M.length c2, .int .i64 y0, .int .i64 y1, .int .i64 y2, .int .i64 y3] := (kX).past hb1
            have M_61 : MadeIn w.heap.size bx w1 A2 (M.map strV) := (hM).past hb1
            have S_61 := pt (HS0.out) hb1
            clear kR kX t0 t1 t2 t3 t4 t5 x0
            have Xc0 := X_61.cellAt 0 rfl
            have Xc1 := X_61.cellAt 1 rfl
            have Xc2 := X_61.cellAt 2 rfl
            have Xc3 := X_61.cellAt 3 rfl
            have Xc4 := X_61.cellAt 4 rfl
            have Xc5 := X_61.cellAt 5 rfl
            have Xl := X_61.lt
            have Rc0 := R_61.cellAt 0 rfl
            have Rc1 := R_61.cellAt 1 rfl
            have Rc2 := R_61.cellAt 2 rfl
            have Rc3 := R_61.cellAt 3 rfl
            have Rc4 := R_61.cellAt 4 rfl
            have Rc5 := R_61.cellAt 5 rfl
            have Rl := R_61.lt
            clear hb1 hc1 hf1
            obtain ⟨w61_, rfl⟩ : ∃ v, v = w1 := ⟨_, rfl⟩
            go_wp2_with (first
              | (go_at_call 45; (with_reducible refine (first2' _ _ _ _ _ (by first | (go_simp; done) | (go_simp; rfl)) (by first | (go_simp; done) | (go_simp; rfl)) _ HV.out).mono ?_); rintro e w' ⟨rfl, rfl⟩)
              | ((with_reducible refine load_sub (T := 58) (x := .tmp 5) (o := 0) (vs := #[.string ⟨nm.toArray⟩, .slice A2 M.length c2, .int .i64 y0, .int .i64 y1, .int .i64 y2, .int .i64 y3]) (show Blk _ (bx) 58 #[.string ⟨nm.toArray⟩, .slice A2 M.length c2, .int .i64 y0, .int .i64 y1, .int .i64 y2, .int .i64 y3] from (X_61.alloc)) ?_ ?_ Tryz.underlying58 ?_ ?_ ?_); (focus rfl); (focus rfl); (focus rfl); (focus exact lot_size6))
              | ((with_reducible refine store_sub (T := 58) (x := .tmp 2) (y := .tmp 76) (o := 0) (cs' := #[.string ⟨nm.toArray⟩, .slice A2 M.length c2, .int .i64 y0, .int .i64 y1, .int .i64 y2, .int .i64 y3]) (vs := #[.string ⟨nm.toArray⟩, .slice A2 M.length c2, .int .i64 y0, .int .i64 y1, .int .i64 y2, .int .i64 y3]) (show Blk _ (w.heap.size) 58 #[.string ⟨#[]⟩, .slice none 0 0, .int .i64 0, .int .i64 0, .int .i64 0, .int .i64 0] from (R_61.alloc)) ?_ ?_ ?_ ?_ ?_ ?_ ?_); (focus rfl); (focus rfl); (focus rfl); (focus exact Nat.le_of_ble_eq_true rfl); (focus exact lot_size6); (focus (simp [Value.oneCell']; done)); intro w63_ b63_ h63_; have R_63 : Blk w63_ (w.heap.size) 58 #[.string ⟨nm.toArray⟩, .slice A2 M.length c2, .int .i64 y0, .int .i64 y1, .int .i64 y2, .int .i64 y3] := b63_; have X_63 : Blk w63_ (bx) 58 #[.string ⟨nm.toArray⟩, .slice A2 M.length c2, .int .i64 y0, .int .i64 y1, .int .i64 y2, .int .i64 y3] := (X_61.alloc).put h63_ (Ne.symm ne_R_X); have E_63 : Blk w63_ (w61_.heap.size) 37 #[.int .i64 (unlessV true 7), .int .i64 0] := (Blk.newAt (by simp)).put h63_ (by omega); have ne_R_E : w.heap.size ≠ w61_.heap.size := (by have := R_61.lt; omega); have ne_X_E : bx ≠ w61_.heap.size := (by have := X_61.lt; omega); have M_63 : MadeIn w.heap.size bx w63_ A2 (M.map strV) := (M_61.alloc).put h63_ (.inl rfl); have S_63 := pp (pa (S_61)) h63_ ge_R; clear R_61 X_61 M_61 S_61 Xc0 Xc1 Xc2 Xc3 Xc4 Xc5 Xl Rc0 Rc1 Rc2 Rc3 Rc4 Rc5 Rl; clear h63_ b63_))
            have z0 := R_63.cellAt 0 rfl
            have z1 := R_63.cellAt 1 rfl
            have z2 := R_63.cellAt 2 rfl
            have z3 := R_63.cellAt 3 rfl
            have z4 := R_63.cellAt 4 rfl
            have z5 := R_63.cellAt 5 rfl
            exact bodyPost_ret (v := .tuple #[.agg #[.string ⟨nm.toArray⟩, .slice A2 M.length c2, .int .i64 y0, .int .i64 y1, .int .i64 y2, .int .i64 y3], .int .i64 0]) (by simp [results, Tryz.results23, go_sem, z0, z1, z2, z3, z4, z5]) rfl (lotPost_ok rfl hc2 M_63.cells S_63)
          · have ne_R_X : w.heap.size ≠ bx := (by omega)
            have ge_R : w.heap.size ≤ w.heap.size := Nat.le_refl _
            have ge_X : w.heap.size ≤ bx := (by omega)
            obtain ⟨q0, q1, q2, q3, q4⟩ := HFit.out.1 rfl
            have hR := HG.out q0 (q1 (by omega)) (q2 (by omega)) (q3 (by omega)) (q4 (by omega))
            rw [if_neg hE] at hR
            have hne : (E != 0) = true := by simpa using hE
            have HV := Lib.hid (show firstV [unlessV true 7, E] = E from by simp [unlessV, firstV, hE])
            clear q0 q1 q2 q3 q4
            subst hR
            clear HFit HBad HG
            have t0 := kX.cellAt 0 rfl
            have t1 := kX.cellAt 1 rfl
            have t2 := kX.cellAt 2 rfl
            have t3 := kX.cellAt 3 rfl
            have t4 := kX.cellAt 4 rfl
            have t5 := kX.cellAt 5 rfl
            have x0 := kX.lt
            go_wp2
            refine region_below 4 follows_mixed (by kernel_rfl) ?_
            intro C hC
            simp only [List.take_succ_cons, List.take_zero, List.drop_succ_cons, List.drop_zero]
            repeat (first
              | ((with_reducible refine quiet_plain rfl (fun K hK => ?_)); (focus (apply quiet_val; (focus (intro w' hw; obtain ⟨hcq, hfq⟩ := bcell ((hC.out _).1 hw); go_simp; (first | done | rfl | (with_reducible exact call_same hw (unless_any _ _ _)) | (with_reducible exact call_below hC hw (HTe.out _ ((hC.out _).1 hw)))))); (simp only [Act.put, List.setIfInBounds_toArray, List.set_cons_succ, List.set_cons_zero]); (with_reducible refine hK _ ?_); clear hK K)))
              | ((with_reducible refine quiet_skip ?_ ?_); (focus (first | (simp [Region.wanted, yielded]; done) | (simp [Region.wanted, yielded, undef]; done))); simp only [Act.put, List.setIfInBounds_toArray, List.set_cons_succ, List.set_cons_zero])
              | ((with_reducible refine quiet_go ?_ (fun K hK => ?_)); (focus (first | (simp [Region.wanted, yielded]; done) | (simp [Region.wanted, yielded, undef]; done))); (focus (apply quiet_val; (focus (intro w' hw; obtain ⟨hcq, hfq⟩ := bcell ((hC.out _).1 hw); go_simp; (first | done | rfl | (with_reducible exact call_same hw (unless_any _ _ _)) | (with_reducible exact call_below hC hw (HTe.out _ ((hC.out _).1 hw)))))); (simp only [Act.put, List.setIfInBounds_toArray, List.set_cons_succ, List.set_cons_zero]); (with_reducible refine hK _ ?_); clear hK K))))
            refine wpQuiet_nil ?_
            intro w1 hb1
            replace hb1 := (hC.out _).1 hb1
            clear hC C
            obtain ⟨hc1, hf1⟩ := bcell hb1
            have R_61 : Blk w1 (w.heap.size) 58 #[.string ⟨#[]⟩, .slice none 0 0, .int .i64 0, .int .i64 0, .int .i64 0, .int .i64 0] := (kR).past hb1
            have X_61 : Blk w1 (bx) 58 #[.string ⟨nm.toArray⟩, .slice A2 M.length c2, .int .i64 y0, .int .i64 y1, .int .i64 y2, .int .i64 y3] := (kX).past hb1
            have M_61 : MadeIn w.heap.size bx w1 A2 (M.map strV) := (hM).past hb1
            have S_61 := pt (HS0.out) hb1
            clear kR kX t0 t1 t2 t3 t4 t5 x0
            have Xc0 := X_61.cellAt 0 rfl
            have Xc1 := X_61.cellAt 1 rfl
            have Xc2 := X_61.cellAt 2 rfl
            have Xc3 := X_61.cellAt 3 rfl
            have Xc4 := X_61.cellAt 4 rfl
            have Xc5 := X_61.cellAt 5 rfl
            have Xl := X_61.lt
            have Rc0 := R_61.cellAt 0 rfl
            have Rc1 := R_61.cellAt 1 rfl
            have Rc2 := R_61.cellAt 2 rfl
            have Rc3 := R_61.cellAt 3 rfl
            have Rc4 := R_61.cellAt 4 rfl
            have Rc5 := R_61.cellAt 5 rfl
            have Rl := R_61.lt
            clear hb1 hc1 hf1
            obtain ⟨w61_, rfl⟩ : ∃ v, v = w1 := ⟨_, rfl⟩
            go_wp2_with (first
              | (go_at_call 45; (with_reducible refine (first2' _ _ _ _ _ (by first | (go_simp; done) | (go_simp; rfl)) (by first | (go_simp; done) | (go_simp; rfl)) _ HV.out).mono ?_); rintro e w' ⟨rfl, rfl⟩)
              | ((with_reducible refine store_sub (T := 58) (x := .tmp 2) (y := .tmp 74) (o := 0) (cs' := #[.string ⟨#[]⟩, .slice none 0 0, .int .i64 0, .int .i64 0, .int .i64 0, .int .i64 0]) (vs := #[.string ⟨#[]⟩, .slice none 0 0, .int .i64 0, .int .i64 0, .int .i64 0, .int .i64 0]) (show Blk _ (w.heap.size) 58 #[.string ⟨#[]⟩, .slice none 0 0, .int .i64 0, .int .i64 0, .int .i64 0, .int .i64 0] from (R_61.alloc)) ?_ ?_ ?_ ?_ ?_ ?_ ?_); (focus rfl); (focus rfl); (focus rfl); (focus exact Nat.le_of_ble_eq_true rfl); (focus exact lot_size6); (focus (simp [Value.oneCell']; done)); intro w63_ b63_ h63_; have R_63 : Blk w63_ (w.heap.size) 58 #[.string ⟨#[]⟩, .slice none 0 0, .int .i64 0, .int .i64 0, .int .i64 0, .int .i64 0] := b63_; have X_63 : Blk w63_ (bx) 58 #[.string ⟨nm.toArray⟩, .slice A2 M.length c2, .int .i64 y0, .int .i64 y1, .int .i64 y2, .int .i64 y3] := (X_61.alloc).put h63_ (Ne.symm ne_R_X); have E_63 : Blk w63_ (w61_.heap.size) 37 #[.int .i64 (unlessV true 7), .int .i64 E] := (Blk.newAt (by simp)).put h63_ (by omega); have ne_R_E : w.heap.size ≠ w61_.heap.size := (by have := R_61.lt; omega); have ne_X_E : bx ≠ w61_.heap.size := (by have := X_61.lt; omega); have M_63 : MadeIn w.heap.size bx w63_ A2 (M.map strV) := (M_61.alloc).put h63_ (.inl rfl); have S_63 := pp (pa (S_61)) h63_ ge_R; clear R_61 X_61 M_61 S_61 Xc0 Xc1 Xc2 Xc3 Xc4 Xc5 Xl Rc0 Rc1 Rc2 Rc3 Rc4 Rc5 Rl; clear h63_ b63_))
            have z0 := R_63.cellAt 0 rfl
            have z1 := R_63.cellAt 1 rfl
            have z2 := R_63.cellAt 2 rfl
            have z3 := R_63.cellAt 3 rfl
            have z4 := R_63.cellAt 4 rfl
            have z5 := R_63.cellAt 5 rfl
            exact bodyPost_ret (v := .tuple #[.agg #[.string ⟨#[]⟩, .slice none 0 0, .int .i64 0, .int .i64 0, .int .i64 0, .int .i64 0], .int .i64 E]) (by simp [results, Tryz.results23, go_sem, z0, z1, z2, z3, z4, z5]) rfl (lotPost_bad S_63)

theorem ParseLot_any (l : List UInt8) (hl : l.length ≤ 500) (w : World) (hS : StrIn w) :
    Calls Tryz.prog 23 #[.string ⟨l.toArray⟩] w (LotPost w (lotOut (parseL l))) := by
  by_cases h6 : (splitL 32 l).length = 6
  · have hm : ∀ x ∈ splitL 32 l, x.length ≤ 500 := fun x hx => Nat.le_trans (splitM hx) hl
    generalize hs : splitL 32 l = L at *
    match L, hs, hm, h6 with
    | [nm, m, a, b, c, d], hs, hm, _ =>
      by_cases hn : nm = []
      · subst hn
        have e : parseL l = none := by unfold parseL; rw [hs]; exact if_pos (.inl rfl)
        rw [e]
        exact parL_nil l m a b c d hl hs w hS
      · rw [parseL_words hs hn]
        exact parL_main l nm m a b c d hl hm hs hn w hS
  · have e : parseL l = none := by
      unfold parseL
      split
      · rename_i h; rw [h] at h6; exact absurd rfl h6
      · rfl
    rw [e]
    exact parL_len l hl h6 w hS

end Go.Proofs.YtbojmcopagbheaaGreatDoor
