/- Contract: the specification's lot of a string. Printed by a program (gen_wrpl.py). -/
import Derived.Test.YtbojmcopagbheaaGreatDoorYCDefL
import Derived.Test.YtbojmcopagbheaaGreatDoorY6RefPT
import Derived.Test.YtbojmcopagbheaaGreatDoorR6
namespace Go.Proofs.YtbojmcopagbheaaGreatDoor
open Go.RowKit
attribute [local go_sem ↓] Go.wp_at_zero Go.wp_at_succ

theorem strs_size1 : (Tryz.prog.info? 56).map (·.size) = some 1 := by kernel_rfl
/-- From one block's beginning on lie these cells. -/
def CellsAt (g : Nat) (w : World) (cs : List Value) : Prop := cs = [] ∨ (g < w.heap.size ∧ ∀ j, j < cs.length → w.cell? ⟨g, j, none⟩ = cs[j]?)
section
variable {g : Nat} {w w' : World} {cs : List Value}
theorem CellsAt.past (h : CellsAt g w cs) (hb : Below w.heap.size w w') : CellsAt g w' cs := by
  rcases h with h | ⟨hl, hc⟩
  · exact .inl h
  · exact .inr ⟨Nat.lt_of_lt_of_le hl hb.size, fun j hj => ((bcell hb).1 g _ hl).trans (hc j hj)⟩
theorem CellsAt.alloc (h : CellsAt g w cs) {ob : Obj} : CellsAt g (w.alloc ob) cs := h.past (pa pr)
theorem CellsAt.put {b : Nat} (h : CellsAt g w cs) (hp : Put w w' b) (hne : g ≠ b) : CellsAt g w' cs := by
  rcases h with h | ⟨hl, hc⟩
  · exact .inl h
  · exact .inr ⟨by rw [hp.size]; exact hl, fun j hj => (World.cell?_of_block (hp.other g hne)).trans (hc j hj)⟩
theorem CellsAt.set_ (h : CellsAt g w cs) {p : Addr} {u : Value} (hne : g ≠ p.block) : CellsAt g (w.setCell p u) cs := by
  rcases h with h | ⟨hl, hc⟩
  · exact .inl h
  · exact .inr ⟨by simpa using hl, fun j hj => (World.cell?_of_block (Below.heap_setCell w p u g hne)).trans (hc j hj)⟩
theorem CellsAt.at_ (h : CellsAt g w cs) (j : Nat) {v : Value} (hj : cs[j]? = some v) : w.cell? ⟨g, j, none⟩ = some v := by
  have hl := (List.getElem?_eq_some_iff.1 hj).1
  rcases h with h | ⟨_, hc⟩
  · subst h; simp at hl
  · exact (hc j hl).trans hj
theorem CellsAt.lt_ (h : CellsAt g w cs) (hne : cs ≠ []) : g < w.heap.size := h.elim (fun e => absurd e hne) (fun q => q.1)
theorem CellsAt.cells (h : CellsAt g w cs) : CellsIn w.heap.size w (some ⟨g, 0, none⟩) cs := by
  rcases h with h | ⟨hl, hc⟩
  · exact .inl h
  · exact .inr ⟨g, 0, rfl, hl, fun j hj => by rw [Nat.zero_add]; exact hc j hj⟩
end
theorem drew_heap (w : World) (g : Nat) : w.drew.heap[g]? = w.heap[g]? := rfl
theorem mem_of_take {M : List (List UInt8)} {k : Nat} (hk : M.length = k) (h : ∀ x ∈ M.take k, x ≠ []) : decide ([] ∈ M) = false := by
  rw [List.take_of_length_le (by omega)] at h
  simp only [decide_eq_false_iff_not]
  exact fun q => h [] q rfl

set_option maxHeartbeats 4000000 in
set_option maxRecDepth 100000 in
theorem refParL_len (l : List UInt8) (hl : l.length ≤ 500) (hs : (splitL 32 l).length ≠ 6) (w : World) :
    Calls Tryz.prog 34 #[.string ⟨l.toArray⟩] w (LotPost w (([], [], 0, 0, 0, 0), 7)) := by
  have HCut := Lib.hid (show ∀ w', Calls Tryz.prog 79 #[.string ⟨l.toArray⟩, .int .u8 32] w' fun e w'' => ∃ A cap, e = .returned (.slice A (splitL 32 l).length cap) ∧ (splitL 32 l).length ≤ cap ∧ w''.ownsRow w'.heap.size 9 1 (.slice A (splitL 32 l).length cap) (splitL 32 l).length ((splitL 32 l).map strV) ∧ Below w'.heap.size w' w'' from fun w' => refCut_own l (by omega) 32 (by decide) w')
  have hn : (((splitL 32 l).length : Int) != 6) = true := by simp; omega
  generalize (splitL 32 l) = S at *
  clear hs hl
  go_enter Tryz.func34, Tryz.ntmps34
  go_wp2_with (first
    | ((with_reducible refine store_sub (T := 58) (x := .tmp 4) (y := .tmp 13) (o := 0) (cs' := #[.string ⟨#[]⟩, .slice none 0 0, .int .i64 0, .int .i64 0, .int .i64 0, .int .i64 0]) (vs := #[.string ⟨#[]⟩, .slice none 0 0, .int .i64 0, .int .i64 0, .int .i64 0, .int .i64 0]) (show Blk _ (w.heap.size + 1) 58 #[.string ⟨#[]⟩, .slice none 0 0, .int .i64 0, .int .i64 0, .int .i64 0, .int .i64 0] from (Blk.newAt (by simp))) ?_ ?_ ?_ ?_ ?_ ?_ ?_); (focus rfl); (focus rfl); (focus rfl); (focus exact Nat.le_of_ble_eq_true rfl); (focus exact lot_size6); (focus (simp [Value.oneCell']; done)); intro w1_ b1_ h1_; have R_1 : Blk w1_ (w.heap.size) 58 #[.string ⟨#[]⟩, .slice none 0 0, .int .i64 0, .int .i64 0, .int .i64 0, .int .i64 0] := (Blk.newAt (by simp)).alloc.put h1_ (by omega); have N_1 : Blk w1_ (w.heap.size + 1) 58 #[.string ⟨#[]⟩, .slice none 0 0, .int .i64 0, .int .i64 0, .int .i64 0, .int .i64 0] := b1_; have ne_N_R : w.heap.size + 1 ≠ w.heap.size := (by omega); have ge_R : w.heap.size ≤ w.heap.size := (by omega); have ge_N : w.heap.size ≤ w.heap.size + 1 := (by omega); have S_1 := pp (pa (pa (pr))) h1_ (by omega); clear h1_ b1_)
    | (go_at_call 79; (with_reducible refine (HCut.out _).mono ?_); rintro e w2_ ⟨A1, c1, rfl, hc1, hown1, h2_⟩; have R_2 : Blk w2_ (w.heap.size) 58 #[.string ⟨#[]⟩, .slice none 0 0, .int .i64 0, .int .i64 0, .int .i64 0, .int .i64 0] := (R_1).past h2_; have N_2 : Blk w2_ (w.heap.size + 1) 58 #[.string ⟨#[]⟩, .slice none 0 0, .int .i64 0, .int .i64 0, .int .i64 0, .int .i64 0] := (N_1).past h2_; have S_2 := pt (S_1) h2_; clear R_1 N_1 S_1; have Nc0 := N_2.cellAt 0 rfl; have Nc1 := N_2.cellAt 1 rfl; have Nc2 := N_2.cellAt 2 rfl; have Nc3 := N_2.cellAt 3 rfl; have Nc4 := N_2.cellAt 4 rfl; have Nc5 := N_2.cellAt 5 rfl; have Nl := N_2.lt; clear h2_)
    | ((with_reducible refine load_sub (T := 58) (x := .tmp 4) (o := 0) (vs := #[.string ⟨#[]⟩, .slice none 0 0, .int .i64 0, .int .i64 0, .int .i64 0, .int .i64 0]) (show Blk _ (w.heap.size + 1) 58 #[.string ⟨#[]⟩, .slice none 0 0, .int .i64 0, .int .i64 0, .int .i64 0, .int .i64 0] from (N_2)) ?_ ?_ Tryz.underlying58 ?_ ?_ ?_); (focus rfl); (focus rfl); (focus rfl); (focus exact lot_size6))
    | ((with_reducible refine store_sub (T := 58) (x := .tmp 2) (y := .tmp 25) (o := 0) (cs' := #[.string ⟨#[]⟩, .slice none 0 0, .int .i64 0, .int .i64 0, .int .i64 0, .int .i64 0]) (vs := #[.string ⟨#[]⟩, .slice none 0 0, .int .i64 0, .int .i64 0, .int .i64 0, .int .i64 0]) (show Blk _ (w.heap.size) 58 #[.string ⟨#[]⟩, .slice none 0 0, .int .i64 0, .int .i64 0, .int .i64 0, .int .i64 0] from (R_2)) ?_ ?_ ?_ ?_ ?_ ?_ ?_); (focus rfl); (focus rfl); (focus rfl); (focus exact Nat.le_of_ble_eq_true rfl); (focus exact lot_size6); (focus (simp [Value.oneCell']; done)); intro w3_ b3_ h3_; have R_3 : Blk w3_ (w.heap.size) 58 #[.string ⟨#[]⟩, .slice none 0 0, .int .i64 0, .int .i64 0, .int .i64 0, .int .i64 0] := b3_; have N_3 : Blk w3_ (w.heap.size + 1) 58 #[.string ⟨#[]⟩, .slice none 0 0, .int .i64 0, .int .i64 0, .int .i64 0, .int .i64 0] := (N_2).put h3_ ne_N_R; have S_3 := pp (S_2) h3_ ge_R; clear R_2 N_2 S_2 Nc0 Nc1 Nc2 Nc3 Nc4 Nc5 Nl; clear h3_ b3_))
  have z0 := R_3.cellAt 0 rfl
  have z1 := R_3.cellAt 1 rfl
  have z2 := R_3.cellAt 2 rfl
  have z3 := R_3.cellAt 3 rfl
  have z4 := R_3.cellAt 4 rfl
  have z5 := R_3.cellAt 5 rfl
  exact bodyPost_ret (v := .tuple #[.agg #[.string ⟨#[]⟩, .slice none 0 0, .int .i64 0, .int .i64 0, .int .i64 0, .int .i64 0], .int .i64 7]) (by simp [results, Tryz.results34, go_sem, z0, z1, z2, z3, z4, z5]) rfl (lotPost_bad S_3)

set_option maxHeartbeats 4000000 in
set_option maxRecDepth 100000 in
theorem refParL_nil (l m a b c d : List UInt8) (hl : l.length ≤ 500) (hs : splitL 32 l = [[], m, a, b, c, d]) (w : World) :
    Calls Tryz.prog 34 #[.string ⟨l.toArray⟩] w (LotPost w (([], [], 0, 0, 0, 0), 7)) := by
  have hCut := fun w' => refCut_own l (by omega) 32 (by decide) w'
  have hs' : splitL (UInt8.ofNat 32) l = [[], m, a, b, c, d] := hs
  rw [hs'] at hCut
  have HCut := Lib.hid (show ∀ w', Calls Tryz.prog 79 #[.string ⟨l.toArray⟩, .int .u8 32] w' fun e w'' => ∃ A cap, e = .returned (.slice A 6 cap) ∧ 6 ≤ cap ∧ w''.ownsRow w'.heap.size 9 1 (.slice A 6 cap) 6 [strV [], strV m, strV a, strV b, strV c, strV d] ∧ Below w'.heap.size w' w'' from hCut)
  clear hCut hs hs' hl
  go_enter Tryz.func34, Tryz.ntmps34
  go_wp2_with (first
    | ((with_reducible refine store_sub (T := 58) (x := .tmp 4) (y := .tmp 13) (o := 0) (cs' := #[.string ⟨#[]⟩, .slice none 0 0, .int .i64 0, .int .i64 0, .int .i64 0, .int .i64 0]) (vs := #[.string ⟨#[]⟩, .slice none 0 0, .int .i64 0, .int .i64 0, .int .i64 0, .int .i64 0]) (show Blk _ (w.heap.size + 1) 58 #[.string ⟨#[]⟩, .slice none 0 0, .int .i64 0, .int .i64 0, .int .i64 0, .int .i64 0] from (Blk.newAt (by simp))) ?_ ?_ ?_ ?_ ?_ ?_ ?_); (focus rfl); (focus rfl); (focus rfl); (focus exact Nat.le_of_ble_eq_true rfl); (focus exact lot_size6); (focus (simp [Value.oneCell']; done)); intro w1_ b1_ h1_; have R_1 : Blk w1_ (w.heap.size) 58 #[.string ⟨#[]⟩, .slice none 0 0, .int .i64 0, .int .i64 0, .int .i64 0, .int .i64 0] := (Blk.newAt (by simp)).alloc.put h1_ (by omega); have N_1 : Blk w1_ (w.heap.size + 1) 58 #[.string ⟨#[]⟩, .slice none 0 0, .int .i64 0, .int .i64 0, .int .i64 0, .int .i64 0] := b1_; have ne_N_R : w.heap.size + 1 ≠ w.heap.size := (by omega); have ge_R : w.heap.size ≤ w.heap.size := (by omega); have ge_N : w.heap.size ≤ w.heap.size + 1 := (by omega); have S_1 := pp (pa (pa (pr))) h1_ (by omega); clear h1_ b1_)
    | (go_at_call 79; (with_reducible refine (HCut.out _).mono ?_); rintro e w2_ ⟨A1, c1, rfl, hc1, hown1, h2_⟩; have R_2 : Blk w2_ (w.heap.size) 58 #[.string ⟨#[]⟩, .slice none 0 0, .int .i64 0, .int .i64 0, .int .i64 0, .int .i64 0] := (R_1).past h2_; have N_2 : Blk w2_ (w.heap.size + 1) 58 #[.string ⟨#[]⟩, .slice none 0 0, .int .i64 0, .int .i64 0, .int .i64 0, .int .i64 0] := (N_1).past h2_; have S_2 := pt (S_1) h2_; clear R_1 N_1 S_1; have Nc0 := N_2.cellAt 0 rfl; have Nc1 := N_2.cellAt 1 rfl; have Nc2 := N_2.cellAt 2 rfl; have Nc3 := N_2.cellAt 3 rfl; have Nc4 := N_2.cellAt 4 rfl; have Nc5 := N_2.cellAt 5 rfl; have Nl := N_2.lt; clear h2_; obtain ⟨g1, rfl, hg1, hg2, hcl1⟩ := own_some hown1 (by decide); have d0 : w2_.cell? ⟨g1, 0, none⟩ = some (.string ⟨#[]⟩) := hcl1 0 (by decide))
    | ((with_reducible refine load_sub (T := 58) (x := .tmp 4) (o := 0) (vs := #[.string ⟨#[]⟩, .slice none 0 0, .int .i64 0, .int .i64 0, .int .i64 0, .int .i64 0]) (show Blk _ (w.heap.size + 1) 58 #[.string ⟨#[]⟩, .slice none 0 0, .int .i64 0, .int .i64 0, .int .i64 0, .int .i64 0] from (N_2)) ?_ ?_ Tryz.underlying58 ?_ ?_ ?_); (focus rfl); (focus rfl); (focus rfl); (focus exact lot_size6))
    | ((with_reducible refine store_sub (T := 58) (x := .tmp 2) (y := .tmp 25) (o := 0) (cs' := #[.string ⟨#[]⟩, .slice none 0 0, .int .i64 0, .int .i64 0, .int .i64 0, .int .i64 0]) (vs := #[.string ⟨#[]⟩, .slice none 0 0, .int .i64 0, .int .i64 0, .int .i64 0, .int .i64 0]) (show Blk _ (w.heap.size) 58 #[.string ⟨#[]⟩, .slice none 0 0, .int .i64 0, .int .i64 0, .int .i64 0, .int .i64 0] from (R_2)) ?_ ?_ ?_ ?_ ?_ ?_ ?_); (focus rfl); (focus rfl); (focus rfl); (focus exact Nat.le_of_ble_eq_true rfl); (focus exact lot_size6); (focus (simp [Value.oneCell']; done)); intro w3_ b3_ h3_; have R_3 : Blk w3_ (w.heap.size) 58 #[.string ⟨#[]⟩, .slice none 0 0, .int .i64 0, .int .i64 0, .int .i64 0, .int .i64 0] := b3_; have N_3 : Blk w3_ (w.heap.size + 1) 58 #[.string ⟨#[]⟩, .slice none 0 0, .int .i64 0, .int .i64 0, .int .i64 0, .int .i64 0] := (N_2).put h3_ ne_N_R; have S_3 := pp (S_2) h3_ ge_R; clear R_2 N_2 S_2 Nc0 Nc1 Nc2 Nc3 Nc4 Nc5 Nl; clear h3_ b3_))
  have z0 := R_3.cellAt 0 rfl
  have z1 := R_3.cellAt 1 rfl
  have z2 := R_3.cellAt 2 rfl
  have z3 := R_3.cellAt 3 rfl
  have z4 := R_3.cellAt 4 rfl
  have z5 := R_3.cellAt 5 rfl
  exact bodyPost_ret (v := .tuple #[.agg #[.string ⟨#[]⟩, .slice none 0 0, .int .i64 0, .int .i64 0, .int .i64 0, .int .i64 0], .int .i64 7]) (by simp [results, Tryz.results34, go_sem, z0, z1, z2, z3, z4, z5]) rfl (lotPost_bad S_3)

set_option maxHeartbeats 8000000 in
set_option maxRecDepth 100000 in
theorem refParL_a (l nm m a b c d : List UInt8) (hl : l.length ≤ 500) (hm : ∀ x ∈ [nm, m, a, b, c, d], x.length ≤ 500) (hs : splitL 32 l = [nm, m, a, b, c, d]) (hnm : nm ≠ []) (hm45 : m = [45]) (w : World) :
    Calls Tryz.prog 34 #[.string ⟨l.toArray⟩] w (LotPost w (lotOut (wordsL nm (partsL m) (numberV a 7) (numberV b 7) (numberV c 7) (numberV d 7)))) := by
  have hCut := fun w' => refCut_own l (by omega) 32 (by decide) w'
  have hs' : splitL (UInt8.ofNat 32) l = [nm, m, a, b, c, d] := hs
  rw [hs'] at hCut
  have HCut := Lib.hid (show ∀ w', Calls Tryz.prog 79 #[.string ⟨l.toArray⟩, .int .u8 32] w' fun e w'' => ∃ A cap, e = .returned (.slice A 6 cap) ∧ 6 ≤ cap ∧ w''.ownsRow w'.heap.size 9 1 (.slice A 6 cap) 6 [strV nm, strV m, strV a, strV b, strV c, strV d] ∧ Below w'.heap.size w' w'' from hCut)
  have hne1 : (nm == []) = false := by simpa using hnm
  have hne2 : nm.isEmpty = false := by cases nm with
    | nil => exact absurd rfl hnm
    | cons => rfl
  have hne3 : nm.length ≠ 0 := fun h => hnm (List.eq_nil_of_length_eq_zero h)
  have lnm := hm nm (by simp)
  have lm := hm m (by simp)
  have hNa := fun w' => refNumber_any a (by have := hm a (by simp); omega) 7 (by decide) w'
  have hNb := fun w' => refNumber_any b (by have := hm b (by simp); omega) 7 (by decide) w'
  have hNc := fun w' => refNumber_any c (by have := hm c (by simp); omega) 7 (by decide) w'
  have hNd := fun w' => refNumber_any d (by have := hm d (by simp); omega) 7 (by decide) w'
  have hmem : ∀ x ∈ partsL m, x.length ≤ 500 := fun x hx => Nat.le_trans (parts_mem hx) lm
  have hn1 : (partsL m).length ≤ 501 := Nat.le_trans (parts_len m) (by omega)
  subst hm45
  have em : partsL [45] = [] := by unfold partsL; rw [if_pos rfl]
  have HBad := Lib.hid (fun h => words_bad (nm := nm) (M := partsL [45]) (a := numberV a 7) (b := numberV b 7) (c := numberV c 7) (d := numberV d 7) h)
  have HGood := Lib.hid (fun x y z u h0 h1 h2 h3 h4 => words_good (nm := nm) (M := partsL [45]) (a := numberV a 7) (b := numberV b 7) (c := numberV c 7) (d := numberV d 7) (x := x) (y := y) (z := z) (u := u) h0 h1 h2 h3 h4)
  have HSm := Lib.hid (fun y0 y1 y2 y3 => small_lot (nm := nm) (M := partsL [45]) lnm hn1 hmem y0 y1 y2 y3)
  generalize lotOut (wordsL nm (partsL [45]) (numberV a 7) (numberV b 7) (numberV c 7) (numberV d 7)) = R at *
  generalize numberV a 7 = va at *
  generalize numberV b 7 = vb at *
  generalize numberV c 7 = vc at *
  generalize numberV d 7 = vd at *
  have HNa := Lib.hid hNa
  have HNb := Lib.hid hNb
  have HNc := Lib.hid hNc
  have HNd := Lib.hid hNd
  generalize partsL [45] = M at *
  subst em
  clear hCut hs hs' hl hm hmem hnm hNa hNb hNc hNd
  go_enter Tryz.func34, Tryz.ntmps34
  go_wp2_with (first
    | ((with_reducible refine store_sub (T := 58) (x := .tmp 4) (y := .tmp 13) (o := 0) (cs' := #[.string ⟨#[]⟩, .slice none 0 0, .int .i64 0, .int .i64 0, .int .i64 0, .int .i64 0]) (vs := #[.string ⟨#[]⟩, .slice none 0 0, .int .i64 0, .int .i64 0, .int .i64 0, .int .i64 0]) (show Blk _ (w.heap.size + 1) 58 #[.string ⟨#[]⟩, .slice none 0 0, .int .i64 0, .int .i64 0, .int .i64 0, .int .i64 0] from (Blk.newAt (by simp))) ?_ ?_ ?_ ?_ ?_ ?_ ?_); (focus rfl); (focus rfl); (focus rfl); (focus exact Nat.le_of_ble_eq_true rfl); (focus exact lot_size6); (focus (simp [Value.oneCell']; done)); intro w1_ b1_ h1_; have R_1 : Blk w1_ (w.heap.size) 58 #[.string ⟨#[]⟩, .slice none 0 0, .int .i64 0, .int .i64 0, .int .i64 0, .int .i64 0] := (Blk.newAt (by simp)).alloc.put h1_ (by omega); have N_1 : Blk w1_ (w.heap.size + 1) 58 #[.string ⟨#[]⟩, .slice none 0 0, .int .i64 0, .int .i64 0, .int .i64 0, .int .i64 0] := b1_; have ne_N_R : w.heap.size + 1 ≠ w.heap.size := (by omega); have ge_R : w.heap.size ≤ w.heap.size := (by omega); have ge_N : w.heap.size ≤ w.heap.size + 1 := (by omega); have S_1 := pp (pa (pa (pr))) h1_ (by omega); clear h1_ b1_)
    | (go_at_call 79; (with_reducible refine (HCut.out _).mono ?_); rintro e w2_ ⟨A1, c1, rfl, hc1, hown1, h2_⟩; have hRl1 := R_1.lt; have R_2 : Blk w2_ (w.heap.size) 58 #[.string ⟨#[]⟩, .slice none 0 0, .int .i64 0, .int .i64 0, .int .i64 0, .int .i64 0] := (R_1).past h2_; have N_2 : Blk w2_ (w.heap.size + 1) 58 #[.string ⟨#[]⟩, .slice none 0 0, .int .i64 0, .int .i64 0, .int .i64 0, .int .i64 0] := (N_1).past h2_; have S_2 := pt (S_1) h2_; clear R_1 N_1 S_1; clear h2_; obtain ⟨g1, rfl, hg1, hg2, hcl1⟩ := own_some hown1 (by decide); have d0 : w2_.cell? ⟨g1, 0, none⟩ = some (.string ⟨nm.toArray⟩) := hcl1 0 (by decide); have d1 : w2_.cell? ⟨g1, 1, none⟩ = some (.string ⟨#[45]⟩) := hcl1 1 (by decide); have W_2 : CellsAt g1 w2_ [strV nm, strV [45], strV a, strV b, strV c, strV d] := .inr ⟨hg2, fun j hj => hcl1 j hj⟩; have gR : g1 ≠ w.heap.size := (by omega); have gX : g1 < w2_.heap.size := hg2; clear hown1 hcl1))
  have HE0 := Lib.hid (show decide (([] : List UInt8) ∈ ([] : List (List UInt8))) = false from by simp)
  refine wp_loop_rounds 5 ?_
  have d2 : w2_.cell? ⟨g1, 2, none⟩ = some (.string ⟨a.toArray⟩) := W_2.at_ 2 rfl
  have gl0 : g1 < w2_.heap.size := W_2.lt_ (by simp)
  have hnx := HNa.out
  cases hva : va with
  | none =>
    rw [hva] at hnx
    have HNum := Lib.hid (show ∀ w', Calls Tryz.prog 80 #[.string ⟨a.toArray⟩, .int .i64 7] w' fun e w'' => e = .returned (.tuple #[.int .i64 0, .bool false]) ∧ w' = w'' from hnx)
    clear hnx
    rw [rounds_succ]
    go_wp2_with (first
      | (go_at_call 80; (with_reducible refine (HNum.out _).mono ?_); rintro e w' ⟨rfl, rfl⟩)
      | ((with_reducible refine load_sub (T := 58) (x := .tmp 4) (o := 0) (vs := #[.string ⟨#[]⟩, .slice none 0 0, .int .i64 0, .int .i64 0, .int .i64 0, .int .i64 0]) (show Blk _ (w.heap.size + 1) 58 #[.string ⟨#[]⟩, .slice none 0 0, .int .i64 0, .int .i64 0, .int .i64 0, .int .i64 0] from (N_2.alloc.alloc)) ?_ ?_ Tryz.underlying58 ?_ ?_ ?_); (focus rfl); (focus rfl); (focus rfl); (focus exact lot_size6))
      | ((with_reducible refine store_sub (T := 58) (x := .tmp 2) (y := .tmp 68) (o := 0) (cs' := #[.string ⟨#[]⟩, .slice none 0 0, .int .i64 0, .int .i64 0, .int .i64 0, .int .i64 0]) (vs := #[.string ⟨#[]⟩, .slice none 0 0, .int .i64 0, .int .i64 0, .int .i64 0, .int .i64 0]) (show Blk _ (w.heap.size) 58 #[.string ⟨#[]⟩, .slice none 0 0, .int .i64 0, .int .i64 0, .int .i64 0, .int .i64 0] from (R_2.alloc.alloc)) ?_ ?_ ?_ ?_ ?_ ?_ ?_); (focus rfl); (focus rfl); (focus rfl); (focus exact Nat.le_of_ble_eq_true rfl); (focus exact lot_size6); (focus (simp [Value.oneCell']; done)); intro w4_ b4_ h4_; have R_4 : Blk w4_ (w.heap.size) 58 #[.string ⟨#[]⟩, .slice none 0 0, .int .i64 0, .int .i64 0, .int .i64 0, .int .i64 0] := b4_; have N_4 : Blk w4_ (w.heap.size + 1) 58 #[.string ⟨#[]⟩, .slice none 0 0, .int .i64 0, .int .i64 0, .int .i64 0, .int .i64 0] := (N_2.alloc.alloc).put h4_ ne_N_R; have X_4 : Blk w4_ (w2_.heap.size) 58 #[.string ⟨nm.toArray⟩, .slice none 0 0, .int .i64 0, .int .i64 0, .int .i64 0, .int .i64 0] := (Blk.newAt (by simp)).alloc.put h4_ (by omega); have A_4 : Blk w4_ (w2_.heap.size + 1) 107 #[.int .i64 0, .int .i64 0, .int .i64 0, .int .i64 0] := (Blk.newAt (by simp)).put h4_ (by omega); have ne_R_X : w.heap.size ≠ w2_.heap.size := (by have := R_2.lt; omega); have ne_N_X : w.heap.size + 1 ≠ w2_.heap.size := (by have := N_2.lt; omega); have ne_A_X : w2_.heap.size + 1 ≠ w2_.heap.size := (by omega); have ge_X : w.heap.size ≤ w2_.heap.size := (by have := (S_2).size; omega); have ne_R_A : w.heap.size ≠ w2_.heap.size + 1 := (by have := R_2.lt; omega); have ne_N_A : w.heap.size + 1 ≠ w2_.heap.size + 1 := (by have := N_2.lt; omega); have ge_A : w.heap.size ≤ w2_.heap.size + 1 := (by have := (S_2).size; omega); have W_4 : CellsAt g1 w4_ [strV nm, strV [45], strV a, strV b, strV c, strV d] := (W_2.alloc.alloc).put h4_ (by omega); have S_4 := pp (pa (pa (S_2))) h4_ ge_R; clear R_2 N_2 W_2 S_2; clear h4_ b4_))
    have hR := HBad.out (.inr (.inl hva))
    subst hR
    have z0 := R_4.cellAt 0 rfl
    have z1 := R_4.cellAt 1 rfl
    have z2 := R_4.cellAt 2 rfl
    have z3 := R_4.cellAt 3 rfl
    have z4 := R_4.cellAt 4 rfl
    have z5 := R_4.cellAt 5 rfl
    exact bodyPost_ret (v := .tuple #[.agg #[.string ⟨#[]⟩, .slice none 0 0, .int .i64 0, .int .i64 0, .int .i64 0, .int .i64 0], .int .i64 7]) (by simp [results, Tryz.results34, go_sem, z0, z1, z2, z3, z4, z5]) rfl (lotPost_bad S_4)
  | some y0 =>
    rw [hva] at hnx
    have HNum := Lib.hid (show ∀ w', Calls Tryz.prog 80 #[.string ⟨a.toArray⟩, .int .i64 7] w' fun e w'' => e = .returned (.tuple #[.int .i64 y0, .bool true]) ∧ w' = w'' from hnx)
    clear hnx
    have Hva := Lib.hid hva
    clear hva
    rw [rounds_succ]
    go_wp2_with (first
      | (go_at_call 80; (with_reducible refine (HNum.out _).mono ?_); rintro e w' ⟨rfl, rfl⟩)
      | ((with_reducible refine store_sub (T := 3) (x := .tmp 71) (y := .tmp 70) (o := 0) (cs' := #[.int .i64 y0, .int .i64 0, .int .i64 0, .int .i64 0]) (vs := #[.int .i64 y0]) (show Blk _ (w2_.heap.size + 1) 107 #[.int .i64 0, .int .i64 0, .int .i64 0, .int .i64 0] from (Blk.newAt (by simp))) ?_ ?_ ?_ ?_ ?_ ?_ ?_); (focus rfl); (focus rfl); (focus rfl); (focus exact Nat.le_of_ble_eq_true rfl); (focus exact int_size1); (focus (simp [Value.oneCell']; done)); intro w4_ b4_ h4_; have R_4 : Blk w4_ (w.heap.size) 58 #[.string ⟨#[]⟩, .slice none 0 0, .int .i64 0, .int .i64 0, .int .i64 0, .int .i64 0] := (R_2.alloc.alloc).put h4_ (by omega); have N_4 : Blk w4_ (w.heap.size + 1) 58 #[.string ⟨#[]⟩, .slice none 0 0, .int .i64 0, .int .i64 0, .int .i64 0, .int .i64 0] := (N_2.alloc.alloc).put h4_ (by omega); have X_4 : Blk w4_ (w2_.heap.size) 58 #[.string ⟨nm.toArray⟩, .slice none 0 0, .int .i64 0, .int .i64 0, .int .i64 0, .int .i64 0] := (Blk.newAt (by simp)).alloc.put h4_ (by omega); have A_4 : Blk w4_ (w2_.heap.size + 1) 107 #[.int .i64 y0, .int .i64 0, .int .i64 0, .int .i64 0] := b4_; have ne_R_X : w.heap.size ≠ w2_.heap.size := (by have := R_2.lt; omega); have ne_N_X : w.heap.size + 1 ≠ w2_.heap.size := (by have := N_2.lt; omega); have ne_A_X : w2_.heap.size + 1 ≠ w2_.heap.size := (by omega); have ge_X : w.heap.size ≤ w2_.heap.size := (by have := (S_2).size; omega); have ne_R_A : w.heap.size ≠ w2_.heap.size + 1 := (by have := R_2.lt; omega); have ne_N_A : w.heap.size + 1 ≠ w2_.heap.size + 1 := (by have := N_2.lt; omega); have ge_A : w.heap.size ≤ w2_.heap.size + 1 := (by have := (S_2).size; omega); have W_4 : CellsAt g1 w4_ [strV nm, strV [45], strV a, strV b, strV c, strV d] := (W_2.alloc.alloc).put h4_ (by omega); have S_4 := pp (pa (pa (S_2))) h4_ (by have := (S_2).size; omega); clear R_2 N_2 W_2 S_2; clear h4_ b4_))
    clear d2 gl0 HNum
    have d3 : w4_.cell? ⟨g1, 3, none⟩ = some (.string ⟨b.toArray⟩) := W_4.at_ 3 rfl
    have gl1 : g1 < w4_.heap.size := W_4.lt_ (by simp)
    have hnx := HNb.out
    cases hvb : vb with
    | none =>
      rw [hvb] at hnx
      have HNum := Lib.hid (show ∀ w', Calls Tryz.prog 80 #[.string ⟨b.toArray⟩, .int .i64 7] w' fun e w'' => e = .returned (.tuple #[.int .i64 0, .bool false]) ∧ w' = w'' from hnx)
      clear hnx
      rw [rounds_succ]
      go_wp2_with (first
        | (go_at_call 80; (with_reducible refine (HNum.out _).mono ?_); rintro e w' ⟨rfl, rfl⟩)
        | ((with_reducible refine load_sub (T := 58) (x := .tmp 4) (o := 0) (vs := #[.string ⟨#[]⟩, .slice none 0 0, .int .i64 0, .int .i64 0, .int .i64 0, .int .i64 0]) (show Blk _ (w.heap.size + 1) 58 #[.string ⟨#[]⟩, .slice none 0 0, .int .i64 0, .int .i64 0, .int .i64 0, .int .i64 0] from (N_4)) ?_ ?_ Tryz.underlying58 ?_ ?_ ?_); (focus rfl); (focus rfl); (focus rfl); (focus exact lot_size6))
        | ((with_reducible refine store_sub (T := 58) (x := .tmp 2) (y := .tmp 68) (o := 0) (cs' := #[.string ⟨#[]⟩, .slice none 0 0, .int .i64 0, .int .i64 0, .int .i64 0, .int .i64 0]) (vs := #[.string ⟨#[]⟩, .slice none 0 0, .int .i64 0, .int .i64 0, .int .i64 0, .int .i64 0]) (show Blk _ (w.heap.size) 58 #[.string ⟨#[]⟩, .slice none 0 0, .int .i64 0, .int .i64 0, .int .i64 0, .int .i64 0] from (R_4)) ?_ ?_ ?_ ?_ ?_ ?_ ?_); (focus rfl); (focus rfl); (focus rfl); (focus exact Nat.le_of_ble_eq_true rfl); (focus exact lot_size6); (focus (simp [Value.oneCell']; done)); intro w6_ b6_ h6_; have R_6 : Blk w6_ (w.heap.size) 58 #[.string ⟨#[]⟩, .slice none 0 0, .int .i64 0, .int .i64 0, .int .i64 0, .int .i64 0] := b6_; have N_6 : Blk w6_ (w.heap.size + 1) 58 #[.string ⟨#[]⟩, .slice none 0 0, .int .i64 0, .int .i64 0, .int .i64 0, .int .i64 0] := (N_4).put h6_ ne_N_R; have X_6 : Blk w6_ (w2_.heap.size) 58 #[.string ⟨nm.toArray⟩, .slice none 0 0, .int .i64 0, .int .i64 0, .int .i64 0, .int .i64 0] := (X_4).put h6_ (Ne.symm ne_R_X); have A_6 : Blk w6_ (w2_.heap.size + 1) 107 #[.int .i64 y0, .int .i64 0, .int .i64 0, .int .i64 0] := (A_4).put h6_ (Ne.symm ne_R_A); have W_6 : CellsAt g1 w6_ [strV nm, strV [45], strV a, strV b, strV c, strV d] := (W_4).put h6_ (by omega); have S_6 := pp (S_4) h6_ ge_R; clear R_4 N_4 X_4 A_4 W_4 S_4; clear h6_ b6_))
      have hR := HBad.out (.inr (.inr (.inl hvb)))
      subst hR
      have z0 := R_6.cellAt 0 rfl
      have z1 := R_6.cellAt 1 rfl
      have z2 := R_6.cellAt 2 rfl
      have z3 := R_6.cellAt 3 rfl
      have z4 := R_6.cellAt 4 rfl
      have z5 := R_6.cellAt 5 rfl
      exact bodyPost_ret (v := .tuple #[.agg #[.string ⟨#[]⟩, .slice none 0 0, .int .i64 0, .int .i64 0, .int .i64 0, .int .i64 0], .int .i64 7]) (by simp [results, Tryz.results34, go_sem, z0, z1, z2, z3, z4, z5]) rfl (lotPost_bad S_6)
    | some y1 =>
      rw [hvb] at hnx
      have HNum := Lib.hid (show ∀ w', Calls Tryz.prog 80 #[.string ⟨b.toArray⟩, .int .i64 7] w' fun e w'' => e = .returned (.tuple #[.int .i64 y1, .bool true]) ∧ w' = w'' from hnx)
      clear hnx
      have Hvb := Lib.hid hvb
      clear hvb
      rw [rounds_succ]
      go_wp2_with (first
        | (go_at_call 80; (with_reducible refine (HNum.out _).mono ?_); rintro e w' ⟨rfl, rfl⟩)
        | ((with_reducible refine store_sub (T := 3) (x := .tmp 71) (y := .tmp 70) (o := 1) (cs' := #[.int .i64 y0, .int .i64 y1, .int .i64 0, .int .i64 0]) (vs := #[.int .i64 y1]) (show Blk _ (w2_.heap.size + 1) 107 #[.int .i64 y0, .int .i64 0, .int .i64 0, .int .i64 0] from (A_4)) ?_ ?_ ?_ ?_ ?_ ?_ ?_); (focus rfl); (focus rfl); (focus rfl); (focus exact Nat.le_of_ble_eq_true rfl); (focus exact int_size1); (focus (simp [Value.oneCell']; done)); intro w6_ b6_ h6_; have R_6 : Blk w6_ (w.heap.size) 58 #[.string ⟨#[]⟩, .slice none 0 0, .int .i64 0, .int .i64 0, .int .i64 0, .int .i64 0] := (R_4).put h6_ ne_R_A; have N_6 : Blk w6_ (w.heap.size + 1) 58 #[.string ⟨#[]⟩, .slice none 0 0, .int .i64 0, .int .i64 0, .int .i64 0, .int .i64 0] := (N_4).put h6_ ne_N_A; have X_6 : Blk w6_ (w2_.heap.size) 58 #[.string ⟨nm.toArray⟩, .slice none 0 0, .int .i64 0, .int .i64 0, .int .i64 0, .int .i64 0] := (X_4).put h6_ (Ne.symm ne_A_X); have A_6 : Blk w6_ (w2_.heap.size + 1) 107 #[.int .i64 y0, .int .i64 y1, .int .i64 0, .int .i64 0] := b6_; have W_6 : CellsAt g1 w6_ [strV nm, strV [45], strV a, strV b, strV c, strV d] := (W_4).put h6_ (by omega); have S_6 := pp (S_4) h6_ ge_A; clear R_4 N_4 X_4 A_4 W_4 S_4; clear h6_ b6_))
      clear d3 gl1 HNum
      have d4 : w6_.cell? ⟨g1, 4, none⟩ = some (.string ⟨c.toArray⟩) := W_6.at_ 4 rfl
      have gl2 : g1 < w6_.heap.size := W_6.lt_ (by simp)
      have hnx := HNc.out
      cases hvc : vc with
      | none =>
        rw [hvc] at hnx
        have HNum := Lib.hid (show ∀ w', Calls Tryz.prog 80 #[.string ⟨c.toArray⟩, .int .i64 7] w' fun e w'' => e = .returned (.tuple #[.int .i64 0, .bool false]) ∧ w' = w'' from hnx)
        clear hnx
        rw [rounds_succ]
        go_wp2_with (first
          | (go_at_call 80; (with_reducible refine (HNum.out _).mono ?_); rintro e w' ⟨rfl, rfl⟩)
          | ((with_reducible refine load_sub (T := 58) (x := .tmp 4) (o := 0) (vs := #[.string ⟨#[]⟩, .slice none 0 0, .int .i64 0, .int .i64 0, .int .i64 0, .int .i64 0]) (show Blk _ (w.heap.size + 1) 58 #[.string ⟨#[]⟩, .slice none 0 0, .int .i64 0, .int .i64 0, .int .i64 0, .int .i64 0] from (N_6)) ?_ ?_ Tryz.underlying58 ?_ ?_ ?_); (focus rfl); (focus rfl); (focus rfl); (focus exact lot_size6))
          | ((with_reducible refine store_sub (T := 58) (x := .tmp 2) (y := .tmp 68) (o := 0) (cs' := #[.string ⟨#[]⟩, .slice none 0 0, .int .i64 0, .int .i64 0, .int .i64 0, .int .i64 0]) (vs := #[.string ⟨#[]⟩, .slice none 0 0, .int .i64 0, .int .i64 0, .int .i64 0, .int .i64 0]) (show Blk _ (w.heap.size) 58 #[.string ⟨#[]⟩, .slice none 0 0, .int .i64 0, .int .i64 0, .int .i64 0, .int .i64 0] from (R_6)) ?_ ?_ ?_ ?_ ?_ ?_ ?_); (focus rfl); (focus rfl); (focus rfl); (focus exact Nat.le_of_ble_eq_true rfl); (focus exact lot_size6); (focus (simp [Value.oneCell']; done)); intro w8_ b8_ h8_; have R_8 : Blk w8_ (w.heap.size) 58 #[.string ⟨#[]⟩, .slice none 0 0, .int .i64 0, .int .i64 0, .int .i64 0, .int .i64 0] := b8_; have N_8 : Blk w8_ (w.heap.size + 1) 58 #[.string ⟨#[]⟩, .slice none 0 0, .int .i64 0, .int .i64 0, .int .i64 0, .int .i64 0] := (N_6).put h8_ ne_N_R; have X_8 : Blk w8_ (w2_.heap.size) 58 #[.string ⟨nm.toArray⟩, .slice none 0 0, .int .i64 0, .int .i64 0, .int .i64 0, .int .i64 0] := (X_6).put h8_ (Ne.symm ne_R_X); have A_8 : Blk w8_ (w2_.heap.size + 1) 107 #[.int .i64 y0, .int .i64 y1, .int .i64 0, .int .i64 0] := (A_6).put h8_ (Ne.symm ne_R_A); have W_8 : CellsAt g1 w8_ [strV nm, strV [45], strV a, strV b, strV c, strV d] := (W_6).put h8_ (by omega); have S_8 := pp (S_6) h8_ ge_R; clear R_6 N_6 X_6 A_6 W_6 S_6; clear h8_ b8_))
        have hR := HBad.out (.inr (.inr (.inr (.inl hvc))))
        subst hR
        have z0 := R_8.cellAt 0 rfl
        have z1 := R_8.cellAt 1 rfl
        have z2 := R_8.cellAt 2 rfl
        have z3 := R_8.cellAt 3 rfl
        have z4 := R_8.cellAt 4 rfl
        have z5 := R_8.cellAt 5 rfl
        exact bodyPost_ret (v := .tuple #[.agg #[.string ⟨#[]⟩, .slice none 0 0, .int .i64 0, .int .i64 0, .int .i64 0, .int .i64 0], .int .i64 7]) (by simp [results, Tryz.results34, go_sem, z0, z1, z2, z3, z4, z5]) rfl (lotPost_bad S_8)
      | some y2 =>
        rw [hvc] at hnx
        have HNum := Lib.hid (show ∀ w', Calls Tryz.prog 80 #[.string ⟨c.toArray⟩, .int .i64 7] w' fun e w'' => e = .returned (.tuple #[.int .i64 y2, .bool true]) ∧ w' = w'' from hnx)
        clear hnx
        have Hvc := Lib.hid hvc
        clear hvc
        rw [rounds_succ]
        go_wp2_with (first
          | (go_at_call 80; (with_reducible refine (HNum.out _).mono ?_); rintro e w' ⟨rfl, rfl⟩)
          | ((with_reducible refine store_sub (T := 3) (x := .tmp 71) (y := .tmp 70) (o := 2) (cs' := #[.int .i64 y0, .int .i64 y1, .int .i64 y2, .int .i64 0]) (vs := #[.int .i64 y2]) (show Blk _ (w2_.heap.size + 1) 107 #[.int .i64 y0, .int .i64 y1, .int .i64 0, .int .i64 0] from (A_6)) ?_ ?_ ?_ ?_ ?_ ?_ ?_); (focus rfl); (focus rfl); (focus rfl); (focus exact Nat.le_of_ble_eq_true rfl); (focus exact int_size1); (focus (simp [Value.oneCell']; done)); intro w8_ b8_ h8_; have R_8 : Blk w8_ (w.heap.size) 58 #[.string ⟨#[]⟩, .slice none 0 0, .int .i64 0, .int .i64 0, .int .i64 0, .int .i64 0] := (R_6).put h8_ ne_R_A; have N_8 : Blk w8_ (w.heap.size + 1) 58 #[.string ⟨#[]⟩, .slice none 0 0, .int .i64 0, .int .i64 0, .int .i64 0, .int .i64 0] := (N_6).put h8_ ne_N_A; have X_8 : Blk w8_ (w2_.heap.size) 58 #[.string ⟨nm.toArray⟩, .slice none 0 0, .int .i64 0, .int .i64 0, .int .i64 0, .int .i64 0] := (X_6).put h8_ (Ne.symm ne_A_X); have A_8 : Blk w8_ (w2_.heap.size + 1) 107 #[.int .i64 y0, .int .i64 y1, .int .i64 y2, .int .i64 0] := b8_; have W_8 : CellsAt g1 w8_ [strV nm, strV [45], strV a, strV b, strV c, strV d] := (W_6).put h8_ (by omega); have S_8 := pp (S_6) h8_ ge_A; clear R_6 N_6 X_6 A_6 W_6 S_6; clear h8_ b8_))
        clear d4 gl2 HNum
        have d5 : w8_.cell? ⟨g1, 5, none⟩ = some (.string ⟨d.toArray⟩) := W_8.at_ 5 rfl
        have gl3 : g1 < w8_.heap.size := W_8.lt_ (by simp)
        have hnx := HNd.out
        cases hvd : vd with
        | none =>
          rw [hvd] at hnx
          have HNum := Lib.hid (show ∀ w', Calls Tryz.prog 80 #[.string ⟨d.toArray⟩, .int .i64 7] w' fun e w'' => e = .returned (.tuple #[.int .i64 0, .bool false]) ∧ w' = w'' from hnx)
          clear hnx
          rw [rounds_succ]
          go_wp2_with (first
            | (go_at_call 80; (with_reducible refine (HNum.out _).mono ?_); rintro e w' ⟨rfl, rfl⟩)
            | ((with_reducible refine load_sub (T := 58) (x := .tmp 4) (o := 0) (vs := #[.string ⟨#[]⟩, .slice none 0 0, .int .i64 0, .int .i64 0, .int .i64 0, .int .i64 0]) (show Blk _ (w.heap.size + 1) 58 #[.string ⟨#[]⟩, .slice none 0 0, .int .i64 0, .int .i64 0, .int .i64 0, .int .i64 0] from (N_8)) ?_ ?_ Tryz.underlying58 ?_ ?_ ?_); (focus rfl); (focus rfl); (focus rfl); (focus exact lot_size6))
            | ((with_reducible refine store_sub (T := 58) (x := .tmp 2) (y := .tmp 68) (o := 0) (cs' := #[.string ⟨#[]⟩, .slice none 0 0, .int .i64 0, .int .i64 0, .int .i64 0, .int .i64 0]) (vs := #[.string ⟨#[]⟩, .slice none 0 0, .int .i64 0, .int .i64 0, .int .i64 0, .int .i64 0]) (show Blk _ (w.heap.size) 58 #[.string ⟨#[]⟩, .slice none 0 0, .int .i64 0, .int .i64 0, .int .i64 0, .int .i64 0] from (R_8)) ?_ ?_ ?_ ?_ ?_ ?_ ?_); (focus rfl); (focus rfl); (focus rfl); (focus exact Nat.le_of_ble_eq_true rfl); (focus exact lot_size6); (focus (simp [Value.oneCell']; done)); intro w10_ b10_ h10_; have R_10 : Blk w10_ (w.heap.size) 58 #[.string ⟨#[]⟩, .slice none 0 0, .int .i64 0, .int .i64 0, .int .i64 0, .int .i64 0] := b10_; have N_10 : Blk w10_ (w.heap.size + 1) 58 #[.string ⟨#[]⟩, .slice none 0 0, .int .i64 0, .int .i64 0, .int .i64 0, .int .i64 0] := (N_8).put h10_ ne_N_R; have X_10 : Blk w10_ (w2_.heap.size) 58 #[.string ⟨nm.toArray⟩, .slice none 0 0, .int .i64 0, .int .i64 0, .int .i64 0, .int .i64 0] := (X_8).put h10_ (Ne.symm ne_R_X); have A_10 : Blk w10_ (w2_.heap.size + 1) 107 #[.int .i64 y0, .int .i64 y1, .int .i64 y2, .int .i64 0] := (A_8).put h10_ (Ne.symm ne_R_A); have W_10 : CellsAt g1 w10_ [strV nm, strV [45], strV a, strV b, strV c, strV d] := (W_8).put h10_ (by omega); have S_10 := pp (S_8) h10_ ge_R; clear R_8 N_8 X_8 A_8 W_8 S_8; clear h10_ b10_))
          have hR := HBad.out (.inr (.inr (.inr (.inr hvd))))
          subst hR
          have z0 := R_10.cellAt 0 rfl
          have z1 := R_10.cellAt 1 rfl
          have z2 := R_10.cellAt 2 rfl
          have z3 := R_10.cellAt 3 rfl
          have z4 := R_10.cellAt 4 rfl
          have z5 := R_10.cellAt 5 rfl
          exact bodyPost_ret (v := .tuple #[.agg #[.string ⟨#[]⟩, .slice none 0 0, .int .i64 0, .int .i64 0, .int .i64 0, .int .i64 0], .int .i64 7]) (by simp [results, Tryz.results34, go_sem, z0, z1, z2, z3, z4, z5]) rfl (lotPost_bad S_10)
        | some y3 =>
          rw [hvd] at hnx
          have HNum := Lib.hid (show ∀ w', Calls Tryz.prog 80 #[.string ⟨d.toArray⟩, .int .i64 7] w' fun e w'' => e = .returned (.tuple #[.int .i64 y3, .bool true]) ∧ w' = w'' from hnx)
          clear hnx
          have Hvd := Lib.hid hvd
          clear hvd
          rw [rounds_succ]
          go_wp2_with (first
            | (go_at_call 80; (with_reducible refine (HNum.out _).mono ?_); rintro e w' ⟨rfl, rfl⟩)
            | ((with_reducible refine store_sub (T := 3) (x := .tmp 71) (y := .tmp 70) (o := 3) (cs' := #[.int .i64 y0, .int .i64 y1, .int .i64 y2, .int .i64 y3]) (vs := #[.int .i64 y3]) (show Blk _ (w2_.heap.size + 1) 107 #[.int .i64 y0, .int .i64 y1, .int .i64 y2, .int .i64 0] from (A_8)) ?_ ?_ ?_ ?_ ?_ ?_ ?_); (focus rfl); (focus rfl); (focus rfl); (focus exact Nat.le_of_ble_eq_true rfl); (focus exact int_size1); (focus (simp [Value.oneCell']; done)); intro w10_ b10_ h10_; have R_10 : Blk w10_ (w.heap.size) 58 #[.string ⟨#[]⟩, .slice none 0 0, .int .i64 0, .int .i64 0, .int .i64 0, .int .i64 0] := (R_8).put h10_ ne_R_A; have N_10 : Blk w10_ (w.heap.size + 1) 58 #[.string ⟨#[]⟩, .slice none 0 0, .int .i64 0, .int .i64 0, .int .i64 0, .int .i64 0] := (N_8).put h10_ ne_N_A; have X_10 : Blk w10_ (w2_.heap.size) 58 #[.string ⟨nm.toArray⟩, .slice none 0 0, .int .i64 0, .int .i64 0, .int .i64 0, .int .i64 0] := (X_8).put h10_ (Ne.symm ne_A_X); have A_10 : Blk w10_ (w2_.heap.size + 1) 107 #[.int .i64 y0, .int .i64 y1, .int .i64 y2, .int .i64 y3] := b10_; have W_10 : CellsAt g1 w10_ [strV nm, strV [45], strV a, strV b, strV c, strV d] := (W_8).put h10_ (by omega); have S_10 := pp (S_8) h10_ ge_A; clear R_8 N_8 X_8 A_8 W_8 S_8; clear h10_ b10_))
          clear d5 gl3 HNum
          rw [rounds_succ]
          go_wp2
          have a0 := A_10.cellAt 0 rfl
          have a1 := A_10.cellAt 1 rfl
          have a2 := A_10.cellAt 2 rfl
          have a3 := A_10.cellAt 3 rfl
          have Xc0 := X_10.cellAt 0 rfl
          have Xc1 := X_10.cellAt 1 rfl
          have Xc2 := X_10.cellAt 2 rfl
          have Xc3 := X_10.cellAt 3 rfl
          have Xc4 := X_10.cellAt 4 rfl
          have Xc5 := X_10.cellAt 5 rfl
          have Xl := X_10.lt
          have Xf := X_10.frozen
          have HS21 := Lib.hid (show ∀ W : World, Hid (W.heap[w2_.heap.size + 1]? = w10_.heap[w2_.heap.size + 1]?) → Hid (W.heap[w2_.heap.size + 1]? = w10_.heap[w2_.heap.size + 1]?) ∧ W.cell? ⟨w2_.heap.size + 1, 0, none⟩ = some (.int .i64 y0) ∧ W.cell? ⟨w2_.heap.size + 1, 1, none⟩ = some (.int .i64 y1) ∧ W.cell? ⟨w2_.heap.size + 1, 2, none⟩ = some (.int .i64 y2) ∧ W.cell? ⟨w2_.heap.size + 1, 3, none⟩ = some (.int .i64 y3) from fun W hW => ⟨hW, (World.cell?_of_block hW.out).trans a0, (World.cell?_of_block hW.out).trans a1, (World.cell?_of_block hW.out).trans a2, (World.cell?_of_block hW.out).trans a3⟩)
          have neAX : w2_.heap.size + 1 ≠ w2_.heap.size := ne_A_X
          go_cut [] (fun wx => Blk wx (w.heap.size) 58 #[.string ⟨#[]⟩, .slice none 0 0, .int .i64 0, .int .i64 0, .int .i64 0, .int .i64 0] ∧ Blk wx (w.heap.size + 1) 58 #[.string ⟨#[]⟩, .slice none 0 0, .int .i64 0, .int .i64 0, .int .i64 0, .int .i64 0] ∧ Blk wx (w2_.heap.size) 58 #[.string ⟨nm.toArray⟩, .slice none 0 0, .int .i64 y0, .int .i64 y1, .int .i64 y2, .int .i64 y3] ∧ Below w.heap.size w wx)
          case first =>
            go_region_held3 (fun w' => Hid (w'.heap[w2_.heap.size + 1]? = w10_.heap[w2_.heap.size + 1]?) ∧ w'.cell? ⟨w2_.heap.size + 1, 0, none⟩ = some (.int .i64 y0) ∧ w'.cell? ⟨w2_.heap.size + 1, 1, none⟩ = some (.int .i64 y1) ∧ w'.cell? ⟨w2_.heap.size + 1, 2, none⟩ = some (.int .i64 y2) ∧ w'.cell? ⟨w2_.heap.size + 1, 3, none⟩ = some (.int .i64 y3)) ((refine HS21.out _ (Lib.hid ?_); repeat (first | (with_reducible rfl) | (with_reducible assumption) | (with_reducible refine (drew_heap _ _).trans ?_) | (with_reducible refine (Below.heap_setCell _ _ _ _ (by first | (simp; done) | (simp; omega))).trans ?_)))) (fail)
            all_goals
              go_wp2
              go_meet
              case rel => exact ⟨((((R_10.far (by first | (simp; done) | (simp; omega))).far (by first | (simp; done) | (simp; omega))).far (by first | (simp; done) | (simp; omega))).far (by first | (simp; done) | (simp; omega))), ((((N_10.far (by first | (simp; done) | (simp; omega))).far (by first | (simp; done) | (simp; omega))).far (by first | (simp; done) | (simp; omega))).far (by first | (simp; done) | (simp; omega))), ((((X_10.set_ 2 _).set_ 3 _).set_ 4 _).set_ 5 _), by repeat (first | exact S_10 | (with_reducible refine pd ?_) | (refine ps ?_ (by first | exact ge_X | (dsimp only; omega))))⟩
          case rest =>
            obtain ⟨kR, kN, kX, hSc⟩ := hcut
            have hte := fun w' (h : CellsIn w'.heap.size w' none ((([] : List (List UInt8))).map strV)) => (show Calls Tryz.prog 36 #[.agg #[.string ⟨nm.toArray⟩, .slice none 0 0, .int .i64 y0, .int .i64 y1, .int .i64 y2, .int .i64 y3]] w' fun e w'' => e = .returned (.int .i64 (lotE (lotB (nm, ([] : List (List UInt8)), y0, y1, y2, y3)))) ∧ Below w'.heap.size w' w'' from refLotErr_any w'.heap.size (lotB (nm, ([] : List (List UInt8)), y0, y1, y2, y3)) none 0 0 w' (by simp [lotB]) (rowIn_of_cells h) (Nat.le_refl _) (HSm.out y0 y1 y2 y3) (Nat.le_refl _))
            have hR0 := HGood.out y0 y1 y2 y3 HE0.out Hva.out Hvb.out Hvc.out Hvd.out
            have HR0 := Lib.hid hR0
            generalize lotE (lotB (nm, ([] : List (List UInt8)), y0, y1, y2, y3)) = E at *
            have HTe := Lib.hid (fun w' => hte w' (.inl rfl))
            clear hte hR0 HGood HBad
            by_cases hE : E = 0
            · have hG0 := HR0.out
              clear HR0
              rw [if_pos hE] at hG0
              subst hG0
              subst hE
              have ne_R_N : w.heap.size ≠ w.heap.size + 1 := (by omega)
              have ne_R_X9 : w.heap.size ≠ w2_.heap.size := ne_R_X
              have ne_N_X9 : w.heap.size + 1 ≠ w2_.heap.size := ne_N_X
              have ge_R : w.heap.size ≤ w.heap.size := Nat.le_refl _
              have t0 := kX.cellAt 0 rfl
              have t1 := kX.cellAt 1 rfl
              have t2 := kX.cellAt 2 rfl
              have t3 := kX.cellAt 3 rfl
              have t4 := kX.cellAt 4 rfl
              have t5 := kX.cellAt 5 rfl
              have x0 := kX.lt
              go_wp2_with (first
                | ((with_reducible refine load_sub (T := 58) (x := .tmp 6) (o := 0) (vs := #[.string ⟨nm.toArray⟩, .slice none 0 0, .int .i64 y0, .int .i64 y1, .int .i64 y2, .int .i64 y3]) (show Blk _ (w2_.heap.size) 58 #[.string ⟨nm.toArray⟩, .slice none 0 0, .int .i64 y0, .int .i64 y1, .int .i64 y2, .int .i64 y3] from (kX)) ?_ ?_ Tryz.underlying58 ?_ ?_ ?_); (focus rfl); (focus rfl); (focus rfl); (focus exact lot_size6))
                | (go_at_call 36; (with_reducible refine (HTe.out _).mono ?_); rintro e w91_ ⟨rfl, h91_⟩; have R_91 : Blk w91_ (w.heap.size) 58 #[.string ⟨#[]⟩, .slice none 0 0, .int .i64 0, .int .i64 0, .int .i64 0, .int .i64 0] := (kR).past h91_; have N_91 : Blk w91_ (w.heap.size + 1) 58 #[.string ⟨#[]⟩, .slice none 0 0, .int .i64 0, .int .i64 0, .int .i64 0, .int .i64 0] := (kN).past h91_; have X_91 : Blk w91_ (w2_.heap.size) 58 #[.string ⟨nm.toArray⟩, .slice none 0 0, .int .i64 y0, .int .i64 y1, .int .i64 y2, .int .i64 y3] := (kX).past h91_; have S_91 := pt (hSc) h91_; clear kR kN kX t0 t1 t2 t3 t4 t5 x0; clear h91_)
                | ((with_reducible refine load_sub (T := 58) (x := .tmp 6) (o := 0) (vs := #[.string ⟨nm.toArray⟩, .slice none 0 0, .int .i64 y0, .int .i64 y1, .int .i64 y2, .int .i64 y3]) (show Blk _ (w2_.heap.size) 58 #[.string ⟨nm.toArray⟩, .slice none 0 0, .int .i64 y0, .int .i64 y1, .int .i64 y2, .int .i64 y3] from (X_91)) ?_ ?_ Tryz.underlying58 ?_ ?_ ?_); (focus rfl); (focus rfl); (focus rfl); (focus exact lot_size6))
                | ((with_reducible refine store_sub (T := 58) (x := .tmp 2) (y := .tmp 90) (o := 0) (cs' := #[.string ⟨nm.toArray⟩, .slice none 0 0, .int .i64 y0, .int .i64 y1, .int .i64 y2, .int .i64 y3]) (vs := #[.string ⟨nm.toArray⟩, .slice none 0 0, .int .i64 y0, .int .i64 y1, .int .i64 y2, .int .i64 y3]) (show Blk _ (w.heap.size) 58 #[.string ⟨#[]⟩, .slice none 0 0, .int .i64 0, .int .i64 0, .int .i64 0, .int .i64 0] from (R_91)) ?_ ?_ ?_ ?_ ?_ ?_ ?_); (focus rfl); (focus rfl); (focus rfl); (focus exact Nat.le_of_ble_eq_true rfl); (focus exact lot_size6); (focus (simp [Value.oneCell']; done)); intro w92_ b92_ h92_; have R_92 : Blk w92_ (w.heap.size) 58 #[.string ⟨nm.toArray⟩, .slice none 0 0, .int .i64 y0, .int .i64 y1, .int .i64 y2, .int .i64 y3] := b92_; have N_92 : Blk w92_ (w.heap.size + 1) 58 #[.string ⟨#[]⟩, .slice none 0 0, .int .i64 0, .int .i64 0, .int .i64 0, .int .i64 0] := (N_91).put h92_ (by omega); have X_92 : Blk w92_ (w2_.heap.size) 58 #[.string ⟨nm.toArray⟩, .slice none 0 0, .int .i64 y0, .int .i64 y1, .int .i64 y2, .int .i64 y3] := (X_91).put h92_ (by omega); have S_92 := pp (S_91) h92_ ge_R; clear R_91 N_91 X_91 S_91; clear h92_ b92_))
              have z0 := R_92.cellAt 0 rfl
              have z1 := R_92.cellAt 1 rfl
              have z2 := R_92.cellAt 2 rfl
              have z3 := R_92.cellAt 3 rfl
              have z4 := R_92.cellAt 4 rfl
              have z5 := R_92.cellAt 5 rfl
              exact bodyPost_ret (v := .tuple #[.agg #[.string ⟨nm.toArray⟩, .slice none 0 0, .int .i64 y0, .int .i64 y1, .int .i64 y2, .int .i64 y3], .int .i64 0]) (by simp [results, Tryz.results34, go_sem, z0, z1, z2, z3, z4, z5]) rfl (lotPost_ok List.length_nil (Nat.le_refl _) (.inl rfl) S_92)
            · have hG0 := HR0.out
              clear HR0
              rw [if_neg hE] at hG0
              subst hG0
              have hne : (E != 0) = true := by simpa using hE
              have ne_R_N : w.heap.size ≠ w.heap.size + 1 := (by omega)
              have ne_R_X9 : w.heap.size ≠ w2_.heap.size := ne_R_X
              have ne_N_X9 : w.heap.size + 1 ≠ w2_.heap.size := ne_N_X
              have ge_R : w.heap.size ≤ w.heap.size := Nat.le_refl _
              have t0 := kX.cellAt 0 rfl
              have t1 := kX.cellAt 1 rfl
              have t2 := kX.cellAt 2 rfl
              have t3 := kX.cellAt 3 rfl
              have t4 := kX.cellAt 4 rfl
              have t5 := kX.cellAt 5 rfl
              have x0 := kX.lt
              go_wp2_with (first
                | ((with_reducible refine load_sub (T := 58) (x := .tmp 6) (o := 0) (vs := #[.string ⟨nm.toArray⟩, .slice none 0 0, .int .i64 y0, .int .i64 y1, .int .i64 y2, .int .i64 y3]) (show Blk _ (w2_.heap.size) 58 #[.string ⟨nm.toArray⟩, .slice none 0 0, .int .i64 y0, .int .i64 y1, .int .i64 y2, .int .i64 y3] from (kX)) ?_ ?_ Tryz.underlying58 ?_ ?_ ?_); (focus rfl); (focus rfl); (focus rfl); (focus exact lot_size6))
                | (go_at_call 36; (with_reducible refine (HTe.out _).mono ?_); rintro e w91_ ⟨rfl, h91_⟩; have R_91 : Blk w91_ (w.heap.size) 58 #[.string ⟨#[]⟩, .slice none 0 0, .int .i64 0, .int .i64 0, .int .i64 0, .int .i64 0] := (kR).past h91_; have N_91 : Blk w91_ (w.heap.size + 1) 58 #[.string ⟨#[]⟩, .slice none 0 0, .int .i64 0, .int .i64 0, .int .i64 0, .int .i64 0] := (kN).past h91_; have X_91 : Blk w91_ (w2_.heap.size) 58 #[.string ⟨nm.toArray⟩, .slice none 0 0, .int .i64 y0, .int .i64 y1, .int .i64 y2, .int .i64 y3] := (kX).past h91_; have S_91 := pt (hSc) h91_; clear kR kN kX t0 t1 t2 t3 t4 t5 x0; clear h91_)
                | ((with_reducible refine load_sub (T := 58) (x := .tmp 4) (o := 0) (vs := #[.string ⟨#[]⟩, .slice none 0 0, .int .i64 0, .int .i64 0, .int .i64 0, .int .i64 0]) (show Blk _ (w.heap.size + 1) 58 #[.string ⟨#[]⟩, .slice none 0 0, .int .i64 0, .int .i64 0, .int .i64 0, .int .i64 0] from (N_91)) ?_ ?_ Tryz.underlying58 ?_ ?_ ?_); (focus rfl); (focus rfl); (focus rfl); (focus exact lot_size6))
                | ((with_reducible refine store_sub (T := 58) (x := .tmp 2) (y := .tmp 88) (o := 0) (cs' := #[.string ⟨#[]⟩, .slice none 0 0, .int .i64 0, .int .i64 0, .int .i64 0, .int .i64 0]) (vs := #[.string ⟨#[]⟩, .slice none 0 0, .int .i64 0, .int .i64 0, .int .i64 0, .int .i64 0]) (show Blk _ (w.heap.size) 58 #[.string ⟨#[]⟩, .slice none 0 0, .int .i64 0, .int .i64 0, .int .i64 0, .int .i64 0] from (R_91)) ?_ ?_ ?_ ?_ ?_ ?_ ?_); (focus rfl); (focus rfl); (focus rfl); (focus exact Nat.le_of_ble_eq_true rfl); (focus exact lot_size6); (focus (simp [Value.oneCell']; done)); intro w92_ b92_ h92_; have R_92 : Blk w92_ (w.heap.size) 58 #[.string ⟨#[]⟩, .slice none 0 0, .int .i64 0, .int .i64 0, .int .i64 0, .int .i64 0] := b92_; have N_92 : Blk w92_ (w.heap.size + 1) 58 #[.string ⟨#[]⟩, .slice none 0 0, .int .i64 0, .int .i64 0, .int .i64 0, .int .i64 0] := (N_91).put h92_ (by omega); have X_92 : Blk w92_ (w2_.heap.size) 58 #[.string ⟨nm.toArray⟩, .slice none 0 0, .int .i64 y0, .int .i64 y1, .int .i64 y2, .int .i64 y3] := (X_91).put h92_ (by omega); have S_92 := pp (S_91) h92_ ge_R; clear R_91 N_91 X_91 S_91; clear h92_ b92_))
              have z0 := R_92.cellAt 0 rfl
              have z1 := R_92.cellAt 1 rfl
              have z2 := R_92.cellAt 2 rfl
              have z3 := R_92.cellAt 3 rfl
              have z4 := R_92.cellAt 4 rfl
              have z5 := R_92.cellAt 5 rfl
              exact bodyPost_ret (v := .tuple #[.agg #[.string ⟨#[]⟩, .slice none 0 0, .int .i64 0, .int .i64 0, .int .i64 0, .int .i64 0], .int .i64 E]) (by simp [results, Tryz.results34, go_sem, z0, z1, z2, z3, z4, z5]) rfl (lotPost_bad S_92)

set_option maxHeartbeats 8000000 in
set_option maxRecDepth 100000 in
theorem refParL_b (l nm m a b c d : List UInt8) (hl : l.length ≤ 500) (hm : ∀ x ∈ [nm, m, a, b, c, d], x.length ≤ 500) (hs : splitL 32 l = [nm, m, a, b, c, d]) (hnm : nm ≠ []) (hm45 : ¬ m = [45]) (w : World) :
    Calls Tryz.prog 34 #[.string ⟨l.toArray⟩] w (LotPost w (lotOut (wordsL nm (partsL m) (numberV a 7) (numberV b 7) (numberV c 7) (numberV d 7)))) := by
  have hCut := fun w' => refCut_own l (by omega) 32 (by decide) w'
  have hs' : splitL (UInt8.ofNat 32) l = [nm, m, a, b, c, d] := hs
  rw [hs'] at hCut
  have HCut := Lib.hid (show ∀ w', Calls Tryz.prog 79 #[.string ⟨l.toArray⟩, .int .u8 32] w' fun e w'' => ∃ A cap, e = .returned (.slice A 6 cap) ∧ 6 ≤ cap ∧ w''.ownsRow w'.heap.size 9 1 (.slice A 6 cap) 6 [strV nm, strV m, strV a, strV b, strV c, strV d] ∧ Below w'.heap.size w' w'' from hCut)
  have hne1 : (nm == []) = false := by simpa using hnm
  have hne2 : nm.isEmpty = false := by cases nm with
    | nil => exact absurd rfl hnm
    | cons => rfl
  have hne3 : nm.length ≠ 0 := fun h => hnm (List.eq_nil_of_length_eq_zero h)
  have lnm := hm nm (by simp)
  have lm := hm m (by simp)
  have hNa := fun w' => refNumber_any a (by have := hm a (by simp); omega) 7 (by decide) w'
  have hNb := fun w' => refNumber_any b (by have := hm b (by simp); omega) 7 (by decide) w'
  have hNc := fun w' => refNumber_any c (by have := hm c (by simp); omega) 7 (by decide) w'
  have hNd := fun w' => refNumber_any d (by have := hm d (by simp); omega) 7 (by decide) w'
  have hmem : ∀ x ∈ partsL m, x.length ≤ 500 := fun x hx => Nat.le_trans (parts_mem hx) lm
  have hn1 : (partsL m).length ≤ 501 := Nat.le_trans (parts_len m) (by omega)
  have hm1 : (m == [45]) = false := by simpa using hm45
  have em : partsL m = splitL 44 m := by unfold partsL; rw [if_neg hm45]
  have HCut2 := Lib.hid (show ∀ w', Calls Tryz.prog 79 #[.string ⟨m.toArray⟩, .int .u8 44] w' fun e w'' => ∃ A cap, e = .returned (.slice A (partsL m).length cap) ∧ (partsL m).length ≤ cap ∧ w''.ownsRow w'.heap.size 9 1 (.slice A (partsL m).length cap) (partsL m).length ((partsL m).map strV) ∧ Below w'.heap.size w' w'' from by rw [em]; exact fun w' => refCut_own m (by omega) 44 (by decide) w')
  have hM0 : 0 < (partsL m).length := by rw [em]; exact List.length_pos_iff.2 (splitL_ne m)
  clear em hm45
  have HBad := Lib.hid (fun h => words_bad (nm := nm) (M := partsL m) (a := numberV a 7) (b := numberV b 7) (c := numberV c 7) (d := numberV d 7) h)
  have HGood := Lib.hid (fun x y z u h0 h1 h2 h3 h4 => words_good (nm := nm) (M := partsL m) (a := numberV a 7) (b := numberV b 7) (c := numberV c 7) (d := numberV d 7) (x := x) (y := y) (z := z) (u := u) h0 h1 h2 h3 h4)
  have HSm := Lib.hid (fun y0 y1 y2 y3 => small_lot (nm := nm) (M := partsL m) lnm hn1 hmem y0 y1 y2 y3)
  generalize lotOut (wordsL nm (partsL m) (numberV a 7) (numberV b 7) (numberV c 7) (numberV d 7)) = R at *
  generalize numberV a 7 = va at *
  generalize numberV b 7 = vb at *
  generalize numberV c 7 = vc at *
  generalize numberV d 7 = vd at *
  have HNa := Lib.hid hNa
  have HNb := Lib.hid hNb
  have HNc := Lib.hid hNc
  have HNd := Lib.hid hNd
  generalize partsL m = M at *
  clear hCut hs hs' hl hm hmem hnm hNa hNb hNc hNd
  go_enter Tryz.func34, Tryz.ntmps34
  go_wp2_with (first
    | ((with_reducible refine store_sub (T := 58) (x := .tmp 4) (y := .tmp 13) (o := 0) (cs' := #[.string ⟨#[]⟩, .slice none 0 0, .int .i64 0, .int .i64 0, .int .i64 0, .int .i64 0]) (vs := #[.string ⟨#[]⟩, .slice none 0 0, .int .i64 0, .int .i64 0, .int .i64 0, .int .i64 0]) (show Blk _ (w.heap.size + 1) 58 #[.string ⟨#[]⟩, .slice none 0 0, .int .i64 0, .int .i64 0, .int .i64 0, .int .i64 0] from (Blk.newAt (by simp))) ?_ ?_ ?_ ?_ ?_ ?_ ?_); (focus rfl); (focus rfl); (focus rfl); (focus exact Nat.le_of_ble_eq_true rfl); (focus exact lot_size6); (focus (simp [Value.oneCell']; done)); intro w1_ b1_ h1_; have R_1 : Blk w1_ (w.heap.size) 58 #[.string ⟨#[]⟩, .slice none 0 0, .int .i64 0, .int .i64 0, .int .i64 0, .int .i64 0] := (Blk.newAt (by simp)).alloc.put h1_ (by omega); have N_1 : Blk w1_ (w.heap.size + 1) 58 #[.string ⟨#[]⟩, .slice none 0 0, .int .i64 0, .int .i64 0, .int .i64 0, .int .i64 0] := b1_; have ne_N_R : w.heap.size + 1 ≠ w.heap.size := (by omega); have ge_R : w.heap.size ≤ w.heap.size := (by omega); have ge_N : w.heap.size ≤ w.heap.size + 1 := (by omega); have S_1 := pp (pa (pa (pr))) h1_ (by omega); clear h1_ b1_)
    | (go_at_call 79; (with_reducible refine (HCut.out _).mono ?_); rintro e w2_ ⟨A1, c1, rfl, hc1, hown1, h2_⟩; have hRl1 := R_1.lt; have R_2 : Blk w2_ (w.heap.size) 58 #[.string ⟨#[]⟩, .slice none 0 0, .int .i64 0, .int .i64 0, .int .i64 0, .int .i64 0] := (R_1).past h2_; have N_2 : Blk w2_ (w.heap.size + 1) 58 #[.string ⟨#[]⟩, .slice none 0 0, .int .i64 0, .int .i64 0, .int .i64 0, .int .i64 0] := (N_1).past h2_; have S_2 := pt (S_1) h2_; clear R_1 N_1 S_1; clear h2_; obtain ⟨g1, rfl, hg1, hg2, hcl1⟩ := own_some hown1 (by decide); have d0 : w2_.cell? ⟨g1, 0, none⟩ = some (.string ⟨nm.toArray⟩) := hcl1 0 (by decide); have d1 : w2_.cell? ⟨g1, 1, none⟩ = some (.string ⟨m.toArray⟩) := hcl1 1 (by decide); have W_2 : CellsAt g1 w2_ [strV nm, strV m, strV a, strV b, strV c, strV d] := .inr ⟨hg2, fun j hj => hcl1 j hj⟩; have gR : g1 ≠ w.heap.size := (by omega); have gX : g1 < w2_.heap.size := hg2; clear hown1 hcl1)
    | (go_at_call 79; (with_reducible refine (HCut2.out _).mono ?_); rintro e w3_ ⟨A2, c2, rfl, hc2, hown2, h3_⟩; have R_3 : Blk w3_ (w.heap.size) 58 #[.string ⟨#[]⟩, .slice none 0 0, .int .i64 0, .int .i64 0, .int .i64 0, .int .i64 0] := (R_2.alloc).past h3_; have N_3 : Blk w3_ (w.heap.size + 1) 58 #[.string ⟨#[]⟩, .slice none 0 0, .int .i64 0, .int .i64 0, .int .i64 0, .int .i64 0] := (N_2.alloc).past h3_; have X_3 : Blk w3_ (w2_.heap.size) 58 #[.string ⟨nm.toArray⟩, .slice none 0 0, .int .i64 0, .int .i64 0, .int .i64 0, .int .i64 0] := (Blk.newAt (by simp)).past h3_; have ne_R_X : w.heap.size ≠ w2_.heap.size := (by have := R_2.lt; omega); have ne_N_X : w.heap.size + 1 ≠ w2_.heap.size := (by have := N_2.lt; omega); have ge_X : w.heap.size ≤ w2_.heap.size := (by have := (S_2).size; omega); have W_3 : CellsAt g1 w3_ [strV nm, strV m, strV a, strV b, strV c, strV d] := (W_2.alloc).past h3_; have S_3 := pt (pa (S_2)) h3_; clear R_2 N_2 W_2 S_2; clear h3_; obtain ⟨g2, rfl, hg3, hg4, hcl2⟩ := own_some hown2 hM0; have M_3 : CellsAt g2 w3_ (M.map strV) := .inr ⟨hg4, fun j hj => hcl2 j (by simpa using hj)⟩; have gM : w2_.heap.size < g2 := (by simp at hg3; omega); clear hown2 hcl2 d0 d1)
    | ((with_reducible refine store_sub (T := 56) (x := .tmp 38) (y := .tmp 37) (o := 1) (cs' := #[.string ⟨nm.toArray⟩, .slice (some ⟨g2, 0, none⟩) M.length c2, .int .i64 0, .int .i64 0, .int .i64 0, .int .i64 0]) (vs := #[.slice (some ⟨g2, 0, none⟩) M.length c2]) (show Blk _ (w2_.heap.size) 58 #[.string ⟨nm.toArray⟩, .slice none 0 0, .int .i64 0, .int .i64 0, .int .i64 0, .int .i64 0] from (X_3)) ?_ ?_ ?_ ?_ ?_ ?_ ?_); (focus rfl); (focus rfl); (focus rfl); (focus exact Nat.le_of_ble_eq_true rfl); (focus exact strs_size1); (focus (simp [Value.oneCell']; done)); intro w4_ b4_ h4_; have R_4 : Blk w4_ (w.heap.size) 58 #[.string ⟨#[]⟩, .slice none 0 0, .int .i64 0, .int .i64 0, .int .i64 0, .int .i64 0] := (R_3).put h4_ ne_R_X; have N_4 : Blk w4_ (w.heap.size + 1) 58 #[.string ⟨#[]⟩, .slice none 0 0, .int .i64 0, .int .i64 0, .int .i64 0, .int .i64 0] := (N_3).put h4_ ne_N_X; have X_4 : Blk w4_ (w2_.heap.size) 58 #[.string ⟨nm.toArray⟩, .slice (some ⟨g2, 0, none⟩) M.length c2, .int .i64 0, .int .i64 0, .int .i64 0, .int .i64 0] := b4_; have W_4 : CellsAt g1 w4_ [strV nm, strV m, strV a, strV b, strV c, strV d] := (W_3).put h4_ (by omega); have M_4 : CellsAt g2 w4_ (M.map strV) := (M_3).put h4_ (by omega); have S_4 := pp (S_3) h4_ ge_X; clear R_3 N_3 X_3 W_3 M_3 S_3; have Xc0 := X_4.cellAt 0 rfl; have Xc1 := X_4.cellAt 1 rfl; have Xc2 := X_4.cellAt 2 rfl; have Xc3 := X_4.cellAt 3 rfl; have Xc4 := X_4.cellAt 4 rfl; have Xc5 := X_4.cellAt 5 rfl; have Xl := X_4.lt; clear h4_ b4_))
  go_loopw [7] (fun iv wr => ∃ k : Nat, iv = .int .i64 (k : Int) ∧ k ≤ M.length ∧ (∀ x ∈ (M).take k, x ≠ []) ∧ w4_ = wr) (fun iv _ => M.length - (intOf iv).toNat)
  case atStart => exact ⟨0, rfl, Nat.zero_le _, fun x hx => by simp at hx, rfl⟩
  case round =>
    obtain ⟨k, rfl, hkn, hno, hwr⟩ := hrel
    subst hwr
    have Xc0 := X_4.cellAt 0 rfl
    have Xc1 := X_4.cellAt 1 rfl
    have Xc2 := X_4.cellAt 2 rfl
    have Xc3 := X_4.cellAt 3 rfl
    have Xc4 := X_4.cellAt 4 rfl
    have Xc5 := X_4.cellAt 5 rfl
    have Xl := X_4.lt
    have HNo := Lib.hid hno
    have n0 : (0 : Int) ≤ (k : Int) := by omega
    clear hno
    by_cases hlt : k < M.length
    · have n1 : (k : Int) < (M.length : Int) := by omega
      have hcell := M_4.at_ k (v := strV M[k]) (by rw [List.getElem?_map, List.getElem?_eq_getElem hlt]; rfl)
      obtain ⟨x, hx⟩ : ∃ x, M[k] = x := ⟨_, rfl⟩
      rw [hx] at hcell
      by_cases hx0 : x = []
      · subst hx0
        have hmem : [] ∈ M := hx ▸ List.getElem_mem hlt
        clear hx
        go_wp2_with (first
          | ((with_reducible refine load_sub (T := 58) (x := .tmp 4) (o := 0) (vs := #[.string ⟨#[]⟩, .slice none 0 0, .int .i64 0, .int .i64 0, .int .i64 0, .int .i64 0]) (show Blk _ (w.heap.size + 1) 58 #[.string ⟨#[]⟩, .slice none 0 0, .int .i64 0, .int .i64 0, .int .i64 0, .int .i64 0] from (N_4)) ?_ ?_ Tryz.underlying58 ?_ ?_ ?_); (focus rfl); (focus rfl); (focus rfl); (focus exact lot_size6))
          | ((with_reducible refine store_sub (T := 58) (x := .tmp 2) (y := .tmp 52) (o := 0) (cs' := #[.string ⟨#[]⟩, .slice none 0 0, .int .i64 0, .int .i64 0, .int .i64 0, .int .i64 0]) (vs := #[.string ⟨#[]⟩, .slice none 0 0, .int .i64 0, .int .i64 0, .int .i64 0, .int .i64 0]) (show Blk _ (w.heap.size) 58 #[.string ⟨#[]⟩, .slice none 0 0, .int .i64 0, .int .i64 0, .int .i64 0, .int .i64 0] from (R_4)) ?_ ?_ ?_ ?_ ?_ ?_ ?_); (focus rfl); (focus rfl); (focus rfl); (focus exact Nat.le_of_ble_eq_true rfl); (focus exact lot_size6); (focus (simp [Value.oneCell']; done)); intro w5_ b5_ h5_; have R_5 : Blk w5_ (w.heap.size) 58 #[.string ⟨#[]⟩, .slice none 0 0, .int .i64 0, .int .i64 0, .int .i64 0, .int .i64 0] := b5_; have N_5 : Blk w5_ (w.heap.size + 1) 58 #[.string ⟨#[]⟩, .slice none 0 0, .int .i64 0, .int .i64 0, .int .i64 0, .int .i64 0] := (N_4).put h5_ ne_N_R; have X_5 : Blk w5_ (w2_.heap.size) 58 #[.string ⟨nm.toArray⟩, .slice (some ⟨g2, 0, none⟩) M.length c2, .int .i64 0, .int .i64 0, .int .i64 0, .int .i64 0] := (X_4).put h5_ (Ne.symm ne_R_X); have W_5 : CellsAt g1 w5_ [strV nm, strV m, strV a, strV b, strV c, strV d] := (W_4).put h5_ (by omega); have M_5 : CellsAt g2 w5_ (M.map strV) := (M_4).put h5_ (by omega); have S_5 := pp (S_4) h5_ ge_R; clear R_4 N_4 X_4 W_4 M_4 S_4; clear h5_ b5_))
        have hR := HBad.out (.inl (by simpa using hmem))
        subst hR
        have z0 := R_5.cellAt 0 rfl
        have z1 := R_5.cellAt 1 rfl
        have z2 := R_5.cellAt 2 rfl
        have z3 := R_5.cellAt 3 rfl
        have z4 := R_5.cellAt 4 rfl
        have z5 := R_5.cellAt 5 rfl
        exact bodyPost_ret (v := .tuple #[.agg #[.string ⟨#[]⟩, .slice none 0 0, .int .i64 0, .int .i64 0, .int .i64 0, .int .i64 0], .int .i64 7]) (by simp [results, Tryz.results34, go_sem, z0, z1, z2, z3, z4, z5]) rfl (lotPost_bad S_5)
      · have e1 : IntKind.i64.wrap ((k : Int) + 1) = (k : Int) + 1 := IntWalk.i64_in _ (by omega)
        have hx1 : (x == []) = false := by simpa using hx0
        have hx2 : x.isEmpty = false := by cases x with
          | nil => exact absurd rfl hx0
          | cons => rfl
        have HNo2 := Lib.hid (show ∀ y ∈ M.take (k + 1), y ≠ [] from fun y hy => by
          rw [List.take_succ_eq_append_getElem hlt, List.mem_append, List.mem_singleton] at hy
          rcases hy with hy | hy
          · exact HNo.out y hy
          · rw [hy, hx]; exact hx0)
        clear hx
        go_wp2
        go_roundw
        case rel => exact ⟨k + 1, by go_num, by omega, HNo2.out, by first | trivial | rfl⟩
        case measure => simp [intOf]; omega
    · obtain rfl : k = M.length := by omega
      have HE0 := Lib.hid (mem_of_take (by simp) HNo.out)
      clear hlt hkn HNo
      have gMA : g2 < w4_.heap.size := M_4.lt_ (fun e => by rw [List.map_eq_nil_iff] at e; rw [e] at hM0; exact absurd hM0 (by simp))
      have gWA : g1 < w4_.heap.size := W_4.lt_ (by simp)
      go_wp2
      refine wp_loop_rounds 5 ?_
      have d2 : w4_.cell? ⟨g1, 2, none⟩ = some (.string ⟨a.toArray⟩) := W_4.at_ 2 rfl
      have gl0 : g1 < w4_.heap.size := W_4.lt_ (by simp)
      have hnx := HNa.out
      cases hva : va with
      | none =>
        rw [hva] at hnx
        have HNum := Lib.hid (show ∀ w', Calls Tryz.prog 80 #[.string ⟨a.toArray⟩, .int .i64 7] w' fun e w'' => e = .returned (.tuple #[.int .i64 0, .bool false]) ∧ w' = w'' from hnx)
        clear hnx
        rw [rounds_succ]
        go_wp2_with (first
          | (go_at_call 80; (with_reducible refine (HNum.out _).mono ?_); rintro e w' ⟨rfl, rfl⟩)
          | ((with_reducible refine load_sub (T := 58) (x := .tmp 4) (o := 0) (vs := #[.string ⟨#[]⟩, .slice none 0 0, .int .i64 0, .int .i64 0, .int .i64 0, .int .i64 0]) (show Blk _ (w.heap.size + 1) 58 #[.string ⟨#[]⟩, .slice none 0 0, .int .i64 0, .int .i64 0, .int .i64 0, .int .i64 0] from (N_4.alloc)) ?_ ?_ Tryz.underlying58 ?_ ?_ ?_); (focus rfl); (focus rfl); (focus rfl); (focus exact lot_size6))
          | ((with_reducible refine store_sub (T := 58) (x := .tmp 2) (y := .tmp 68) (o := 0) (cs' := #[.string ⟨#[]⟩, .slice none 0 0, .int .i64 0, .int .i64 0, .int .i64 0, .int .i64 0]) (vs := #[.string ⟨#[]⟩, .slice none 0 0, .int .i64 0, .int .i64 0, .int .i64 0, .int .i64 0]) (show Blk _ (w.heap.size) 58 #[.string ⟨#[]⟩, .slice none 0 0, .int .i64 0, .int .i64 0, .int .i64 0, .int .i64 0] from (R_4.alloc)) ?_ ?_ ?_ ?_ ?_ ?_ ?_); (focus rfl); (focus rfl); (focus rfl); (focus exact Nat.le_of_ble_eq_true rfl); (focus exact lot_size6); (focus (simp [Value.oneCell']; done)); intro w6_ b6_ h6_; have R_6 : Blk w6_ (w.heap.size) 58 #[.string ⟨#[]⟩, .slice none 0 0, .int .i64 0, .int .i64 0, .int .i64 0, .int .i64 0] := b6_; have N_6 : Blk w6_ (w.heap.size + 1) 58 #[.string ⟨#[]⟩, .slice none 0 0, .int .i64 0, .int .i64 0, .int .i64 0, .int .i64 0] := (N_4.alloc).put h6_ ne_N_R; have X_6 : Blk w6_ (w2_.heap.size) 58 #[.string ⟨nm.toArray⟩, .slice (some ⟨g2, 0, none⟩) M.length c2, .int .i64 0, .int .i64 0, .int .i64 0, .int .i64 0] := (X_4.alloc).put h6_ (Ne.symm ne_R_X); have A_6 : Blk w6_ (w4_.heap.size) 107 #[.int .i64 0, .int .i64 0, .int .i64 0, .int .i64 0] := (Blk.newAt (by simp)).put h6_ (by omega); have ne_R_A : w.heap.size ≠ w4_.heap.size := (by have := R_4.lt; omega); have ne_N_A : w.heap.size + 1 ≠ w4_.heap.size := (by have := N_4.lt; omega); have ne_X_A : w2_.heap.size ≠ w4_.heap.size := (by have := X_4.lt; omega); have ge_A : w.heap.size ≤ w4_.heap.size := (by have := (S_4).size; omega); have W_6 : CellsAt g1 w6_ [strV nm, strV m, strV a, strV b, strV c, strV d] := (W_4.alloc).put h6_ (by omega); have M_6 : CellsAt g2 w6_ (M.map strV) := (M_4.alloc).put h6_ (by omega); have S_6 := pp (pa (S_4)) h6_ ge_R; clear R_4 N_4 X_4 W_4 M_4 S_4; clear h6_ b6_))
        have hR := HBad.out (.inr (.inl hva))
        subst hR
        have z0 := R_6.cellAt 0 rfl
        have z1 := R_6.cellAt 1 rfl
        have z2 := R_6.cellAt 2 rfl
        have z3 := R_6.cellAt 3 rfl
        have z4 := R_6.cellAt 4 rfl
        have z5 := R_6.cellAt 5 rfl
        exact bodyPost_ret (v := .tuple #[.agg #[.string ⟨#[]⟩, .slice none 0 0, .int .i64 0, .int .i64 0, .int .i64 0, .int .i64 0], .int .i64 7]) (by simp [results, Tryz.results34, go_sem, z0, z1, z2, z3, z4, z5]) rfl (lotPost_bad S_6)
      | some y0 =>
        rw [hva] at hnx
        have HNum := Lib.hid (show ∀ w', Calls Tryz.prog 80 #[.string ⟨a.toArray⟩, .int .i64 7] w' fun e w'' => e = .returned (.tuple #[.int .i64 y0, .bool true]) ∧ w' = w'' from hnx)
        clear hnx
        have Hva := Lib.hid hva
        clear hva
        rw [rounds_succ]
        go_wp2_with (first
          | (go_at_call 80; (with_reducible refine (HNum.out _).mono ?_); rintro e w' ⟨rfl, rfl⟩)
          | ((with_reducible refine store_sub (T := 3) (x := .tmp 71) (y := .tmp 70) (o := 0) (cs' := #[.int .i64 y0, .int .i64 0, .int .i64 0, .int .i64 0]) (vs := #[.int .i64 y0]) (show Blk _ (w4_.heap.size) 107 #[.int .i64 0, .int .i64 0, .int .i64 0, .int .i64 0] from (Blk.newAt (by simp))) ?_ ?_ ?_ ?_ ?_ ?_ ?_); (focus rfl); (focus rfl); (focus rfl); (focus exact Nat.le_of_ble_eq_true rfl); (focus exact int_size1); (focus (simp [Value.oneCell']; done)); intro w6_ b6_ h6_; have R_6 : Blk w6_ (w.heap.size) 58 #[.string ⟨#[]⟩, .slice none 0 0, .int .i64 0, .int .i64 0, .int .i64 0, .int .i64 0] := (R_4.alloc).put h6_ (by omega); have N_6 : Blk w6_ (w.heap.size + 1) 58 #[.string ⟨#[]⟩, .slice none 0 0, .int .i64 0, .int .i64 0, .int .i64 0, .int .i64 0] := (N_4.alloc).put h6_ (by omega); have X_6 : Blk w6_ (w2_.heap.size) 58 #[.string ⟨nm.toArray⟩, .slice (some ⟨g2, 0, none⟩) M.length c2, .int .i64 0, .int .i64 0, .int .i64 0, .int .i64 0] := (X_4.alloc).put h6_ (by omega); have A_6 : Blk w6_ (w4_.heap.size) 107 #[.int .i64 y0, .int .i64 0, .int .i64 0, .int .i64 0] := b6_; have ne_R_A : w.heap.size ≠ w4_.heap.size := (by have := R_4.lt; omega); have ne_N_A : w.heap.size + 1 ≠ w4_.heap.size := (by have := N_4.lt; omega); have ne_X_A : w2_.heap.size ≠ w4_.heap.size := (by have := X_4.lt; omega); have ge_A : w.heap.size ≤ w4_.heap.size := (by have := (S_4).size; omega); have W_6 : CellsAt g1 w6_ [strV nm, strV m, strV a, strV b, strV c, strV d] := (W_4.alloc).put h6_ (by omega); have M_6 : CellsAt g2 w6_ (M.map strV) := (M_4.alloc).put h6_ (by omega); have S_6 := pp (pa (S_4)) h6_ (by have := (S_4).size; omega); clear R_4 N_4 X_4 W_4 M_4 S_4; clear h6_ b6_))
        clear d2 gl0 HNum
        have d3 : w6_.cell? ⟨g1, 3, none⟩ = some (.string ⟨b.toArray⟩) := W_6.at_ 3 rfl
        have gl1 : g1 < w6_.heap.size := W_6.lt_ (by simp)
        have hnx := HNb.out
        cases hvb : vb with
        | none =>
          rw [hvb] at hnx
          have HNum := Lib.hid (show ∀ w', Calls Tryz.prog 80 #[.string ⟨b.toArray⟩, .int .i64 7] w' fun e w'' => e = .returned (.tuple #[.int .i64 0, .bool false]) ∧ w' = w'' from hnx)
          clear hnx
          rw [rounds_succ]
          go_wp2_with (first
            | (go_at_call 80; (with_reducible refine (HNum.out _).mono ?_); rintro e w' ⟨rfl, rfl⟩)
            | ((with_reducible refine load_sub (T := 58) (x := .tmp 4) (o := 0) (vs := #[.string ⟨#[]⟩, .slice none 0 0, .int .i64 0, .int .i64 0, .int .i64 0, .int .i64 0]) (show Blk _ (w.heap.size + 1) 58 #[.string ⟨#[]⟩, .slice none 0 0, .int .i64 0, .int .i64 0, .int .i64 0, .int .i64 0] from (N_6)) ?_ ?_ Tryz.underlying58 ?_ ?_ ?_); (focus rfl); (focus rfl); (focus rfl); (focus exact lot_size6))
            | ((with_reducible refine store_sub (T := 58) (x := .tmp 2) (y := .tmp 68) (o := 0) (cs' := #[.string ⟨#[]⟩, .slice none 0 0, .int .i64 0, .int .i64 0, .int .i64 0, .int .i64 0]) (vs := #[.string ⟨#[]⟩, .slice none 0 0, .int .i64 0, .int .i64 0, .int .i64 0, .int .i64 0]) (show Blk _ (w.heap.size) 58 #[.string ⟨#[]⟩, .slice none 0 0, .int .i64 0, .int .i64 0, .int .i64 0, .int .i64 0] from (R_6)) ?_ ?_ ?_ ?_ ?_ ?_ ?_); (focus rfl); (focus rfl); (focus rfl); (focus exact Nat.le_of_ble_eq_true rfl); (focus exact lot_size6); (focus (simp [Value.oneCell']; done)); intro w8_ b8_ h8_; have R_8 : Blk w8_ (w.heap.size) 58 #[.string ⟨#[]⟩, .slice none 0 0, .int .i64 0, .int .i64 0, .int .i64 0, .int .i64 0] := b8_; have N_8 : Blk w8_ (w.heap.size + 1) 58 #[.string ⟨#[]⟩, .slice none 0 0, .int .i64 0, .int .i64 0, .int .i64 0, .int .i64 0] := (N_6).put h8_ ne_N_R; have X_8 : Blk w8_ (w2_.heap.size) 58 #[.string ⟨nm.toArray⟩, .slice (some ⟨g2, 0, none⟩) M.length c2, .int .i64 0, .int .i64 0, .int .i64 0, .int .i64 0] := (X_6).put h8_ (Ne.symm ne_R_X); have A_8 : Blk w8_ (w4_.heap.size) 107 #[.int .i64 y0, .int .i64 0, .int .i64 0, .int .i64 0] := (A_6).put h8_ (Ne.symm ne_R_A); have W_8 : CellsAt g1 w8_ [strV nm, strV m, strV a, strV b, strV c, strV d] := (W_6).put h8_ (by omega); have M_8 : CellsAt g2 w8_ (M.map strV) := (M_6).put h8_ (by omega); have S_8 := pp (S_6) h8_ ge_R; clear R_6 N_6 X_6 A_6 W_6 M_6 S_6; clear h8_ b8_))
          have hR := HBad.out (.inr (.inr (.inl hvb)))
          subst hR
          have z0 := R_8.cellAt 0 rfl
          have z1 := R_8.cellAt 1 rfl
          have z2 := R_8.cellAt 2 rfl
          have z3 := R_8.cellAt 3 rfl
          have z4 := R_8.cellAt 4 rfl
          have z5 := R_8.cellAt 5 rfl
          exact bodyPost_ret (v := .tuple #[.agg #[.string ⟨#[]⟩, .slice none 0 0, .int .i64 0, .int .i64 0, .int .i64 0, .int .i64 0], .int .i64 7]) (by simp [results, Tryz.results34, go_sem, z0, z1, z2, z3, z4, z5]) rfl (lotPost_bad S_8)
        | some y1 =>
          rw [hvb] at hnx
          have HNum := Lib.hid (show ∀ w', Calls Tryz.prog 80 #[.string ⟨b.toArray⟩, .int .i64 7] w' fun e w'' => e = .returned (.tuple #[.int .i64 y1, .bool true]) ∧ w' = w'' from hnx)
          clear hnx
          have Hvb := Lib.hid hvb
          clear hvb
          rw [rounds_succ]
          go_wp2_with (first
            | (go_at_call 80; (with_reducible refine (HNum.out _).mono ?_); rintro e w' ⟨rfl, rfl⟩)
            | ((with_reducible refine store_sub (T := 3) (x := .tmp 71) (y := .tmp 70) (o := 1) (cs' := #[.int .i64 y0, .int .i64 y1, .int .i64 0, .int .i64 0]) (vs := #[.int .i64 y1]) (show Blk _ (w4_.heap.size) 107 #[.int .i64 y0, .int .i64 0, .int .i64 0, .int .i64 0] from (A_6)) ?_ ?_ ?_ ?_ ?_ ?_ ?_); (focus rfl); (focus rfl); (focus rfl); (focus exact Nat.le_of_ble_eq_true rfl); (focus exact int_size1); (focus (simp [Value.oneCell']; done)); intro w8_ b8_ h8_; have R_8 : Blk w8_ (w.heap.size) 58 #[.string ⟨#[]⟩, .slice none 0 0, .int .i64 0, .int .i64 0, .int .i64 0, .int .i64 0] := (R_6).put h8_ ne_R_A; have N_8 : Blk w8_ (w.heap.size + 1) 58 #[.string ⟨#[]⟩, .slice none 0 0, .int .i64 0, .int .i64 0, .int .i64 0, .int .i64 0] := (N_6).put h8_ ne_N_A; have X_8 : Blk w8_ (w2_.heap.size) 58 #[.string ⟨nm.toArray⟩, .slice (some ⟨g2, 0, none⟩) M.length c2, .int .i64 0, .int .i64 0, .int .i64 0, .int .i64 0] := (X_6).put h8_ ne_X_A; have A_8 : Blk w8_ (w4_.heap.size) 107 #[.int .i64 y0, .int .i64 y1, .int .i64 0, .int .i64 0] := b8_; have W_8 : CellsAt g1 w8_ [strV nm, strV m, strV a, strV b, strV c, strV d] := (W_6).put h8_ (by omega); have M_8 : CellsAt g2 w8_ (M.map strV) := (M_6).put h8_ (by omega); have S_8 := pp (S_6) h8_ ge_A; clear R_6 N_6 X_6 A_6 W_6 M_6 S_6; clear h8_ b8_))
          clear d3 gl1 HNum
          have d4 : w8_.cell? ⟨g1, 4, none⟩ = some (.string ⟨c.toArray⟩) := W_8.at_ 4 rfl
          have gl2 : g1 < w8_.heap.size := W_8.lt_ (by simp)
          have hnx := HNc.out
          cases hvc : vc with
          | none =>
            rw [hvc] at hnx
            have HNum := Lib.hid (show ∀ w', Calls Tryz.prog 80 #[.string ⟨c.toArray⟩, .int .i64 7] w' fun e w'' => e = .returned (.tuple #[.int .i64 0, .bool false]) ∧ w' = w'' from hnx)
            clear hnx
            rw [rounds_succ]
            go_wp2_with (first
              | (go_at_call 80; (with_reducible refine (HNum.out _).mono ?_); rintro e w' ⟨rfl, rfl⟩)
              | ((with_reducible refine load_sub (T := 58) (x := .tmp 4) (o := 0) (vs := #[.string ⟨#[]⟩, .slice none 0 0, .int .i64 0, .int .i64 0, .int .i64 0, .int .i64 0]) (show Blk _ (w.heap.size + 1) 58 #[.string ⟨#[]⟩, .slice none 0 0, .int .i64 0, .int .i64 0, .int .i64 0, .int .i64 0] from (N_8)) ?_ ?_ Tryz.underlying58 ?_ ?_ ?_); (focus rfl); (focus rfl); (focus rfl); (focus exact lot_size6))
              | ((with_reducible refine store_sub (T := 58) (x := .tmp 2) (y := .tmp 68) (o := 0) (cs' := #[.string ⟨#[]⟩, .slice none 0 0, .int .i64 0, .int .i64 0, .int .i64 0, .int .i64 0]) (vs := #[.string ⟨#[]⟩, .slice none 0 0, .int .i64 0, .int .i64 0, .int .i64 0, .int .i64 0]) (show Blk _ (w.heap.size) 58 #[.string ⟨#[]⟩, .slice none 0 0, .int .i64 0, .int .i64 0, .int .i64 0, .int .i64 0] from (R_8)) ?_ ?_ ?_ ?_ ?_ ?_ ?_); (focus rfl); (focus rfl); (focus rfl); (focus exact Nat.le_of_ble_eq_true rfl); (focus exact lot_size6); (focus (simp [Value.oneCell']; done)); intro w10_ b10_ h10_; have R_10 : Blk w10_ (w.heap.size) 58 #[.string ⟨#[]⟩, .slice none 0 0, .int .i64 0, .int .i64 0, .int .i64 0, .int .i64 0] := b10_; have N_10 : Blk w10_ (w.heap.size + 1) 58 #[.string ⟨#[]⟩, .slice none 0 0, .int .i64 0, .int .i64 0, .int .i64 0, .int .i64 0] := (N_8).put h10_ ne_N_R; have X_10 : Blk w10_ (w2_.heap.size) 58 #[.string ⟨nm.toArray⟩, .slice (some ⟨g2, 0, none⟩) M.length c2, .int .i64 0, .int .i64 0, .int .i64 0, .int .i64 0] := (X_8).put h10_ (Ne.symm ne_R_X); have A_10 : Blk w10_ (w4_.heap.size) 107 #[.int .i64 y0, .int .i64 y1, .int .i64 0, .int .i64 0] := (A_8).put h10_ (Ne.symm ne_R_A); have W_10 : CellsAt g1 w10_ [strV nm, strV m, strV a, strV b, strV c, strV d] := (W_8).put h10_ (by omega); have M_10 : CellsAt g2 w10_ (M.map strV) := (M_8).put h10_ (by omega); have S_10 := pp (S_8) h10_ ge_R; clear R_8 N_8 X_8 A_8 W_8 M_8 S_8; clear h10_ b10_))
            have hR := HBad.out (.inr (.inr (.inr (.inl hvc))))
            subst hR
            have z0 := R_10.cellAt 0 rfl
            have z1 := R_10.cellAt 1 rfl
            have z2 := R_10.cellAt 2 rfl
            have z3 := R_10.cellAt 3 rfl
            have z4 := R_10.cellAt 4 rfl
            have z5 := R_10.cellAt 5 rfl
            exact bodyPost_ret (v := .tuple #[.agg #[.string ⟨#[]⟩, .slice none 0 0, .int .i64 0, .int .i64 0, .int .i64 0, .int .i64 0], .int .i64 7]) (by simp [results, Tryz.results34, go_sem, z0, z1, z2, z3, z4, z5]) rfl (lotPost_bad S_10)
          | some y2 =>
            rw [hvc] at hnx
            have HNum := Lib.hid (show ∀ w', Calls Tryz.prog 80 #[.string ⟨c.toArray⟩, .int .i64 7] w' fun e w'' => e = .returned (.tuple #[.int .i64 y2, .bool true]) ∧ w' = w'' from hnx)
            clear hnx
            have Hvc := Lib.hid hvc
            clear hvc
            rw [rounds_succ]
            go_wp2_with (first
              | (go_at_call 80; (with_reducible refine (HNum.out _).mono ?_); rintro e w' ⟨rfl, rfl⟩)
              | ((with_reducible refine store_sub (T := 3) (x := .tmp 71) (y := .tmp 70) (o := 2) (cs' := #[.int .i64 y0, .int .i64 y1, .int .i64 y2, .int .i64 0]) (vs := #[.int .i64 y2]) (show Blk _ (w4_.heap.size) 107 #[.int .i64 y0, .int .i64 y1, .int .i64 0, .int .i64 0] from (A_8)) ?_ ?_ ?_ ?_ ?_ ?_ ?_); (focus rfl); (focus rfl); (focus rfl); (focus exact Nat.le_of_ble_eq_true rfl); (focus exact int_size1); (focus (simp [Value.oneCell']; done)); intro w10_ b10_ h10_; have R_10 : Blk w10_ (w.heap.size) 58 #[.string ⟨#[]⟩, .slice none 0 0, .int .i64 0, .int .i64 0, .int .i64 0, .int .i64 0] := (R_8).put h10_ ne_R_A; have N_10 : Blk w10_ (w.heap.size + 1) 58 #[.string ⟨#[]⟩, .slice none 0 0, .int .i64 0, .int .i64 0, .int .i64 0, .int .i64 0] := (N_8).put h10_ ne_N_A; have X_10 : Blk w10_ (w2_.heap.size) 58 #[.string ⟨nm.toArray⟩, .slice (some ⟨g2, 0, none⟩) M.length c2, .int .i64 0, .int .i64 0, .int .i64 0, .int .i64 0] := (X_8).put h10_ ne_X_A; have A_10 : Blk w10_ (w4_.heap.size) 107 #[.int .i64 y0, .int .i64 y1, .int .i64 y2, .int .i64 0] := b10_; have W_10 : CellsAt g1 w10_ [strV nm, strV m, strV a, strV b, strV c, strV d] := (W_8).put h10_ (by omega); have M_10 : CellsAt g2 w10_ (M.map strV) := (M_8).put h10_ (by omega); have S_10 := pp (S_8) h10_ ge_A; clear R_8 N_8 X_8 A_8 W_8 M_8 S_8; clear h10_ b10_))
            clear d4 gl2 HNum
            have d5 : w10_.cell? ⟨g1, 5, none⟩ = some (.string ⟨d.toArray⟩) := W_10.at_ 5 rfl
            have gl3 : g1 < w10_.heap.size := W_10.lt_ (by simp)
            have hnx := HNd.out
            cases hvd : vd with
            | none =>
              rw [hvd] at hnx
              have HNum := Lib.hid (show ∀ w', Calls Tryz.prog 80 #[.string ⟨d.toArray⟩, .int .i64 7] w' fun e w'' => e = .returned (.tuple #[.int .i64 0, .bool false]) ∧ w' = w'' from hnx)
              clear hnx
              rw [rounds_succ]
              go_wp2_with (first
                | (go_at_call 80; (with_reducible refine (HNum.out _).mono ?_); rintro e w' ⟨rfl, rfl⟩)
                | ((with_reducible refine load_sub (T := 58) (x := .tmp 4) (o := 0) (vs := #[.string ⟨#[]⟩, .slice none 0 0, .int .i64 0, .int .i64 0, .int .i64 0, .int .i64 0]) (show Blk _ (w.heap.size + 1) 58 #[.string ⟨#[]⟩, .slice none 0 0, .int .i64 0, .int .i64 0, .int .i64 0, .int .i64 0] from (N_10)) ?_ ?_ Tryz.underlying58 ?_ ?_ ?_); (focus rfl); (focus rfl); (focus rfl); (focus exact lot_size6))
                | ((with_reducible refine store_sub (T := 58) (x := .tmp 2) (y := .tmp 68) (o := 0) (cs' := #[.string ⟨#[]⟩, .slice none 0 0, .int .i64 0, .int .i64 0, .int .i64 0, .int .i64 0]) (vs := #[.string ⟨#[]⟩, .slice none 0 0, .int .i64 0, .int .i64 0, .int .i64 0, .int .i64 0]) (show Blk _ (w.heap.size) 58 #[.string ⟨#[]⟩, .slice none 0 0, .int .i64 0, .int .i64 0, .int .i64 0, .int .i64 0] from (R_10)) ?_ ?_ ?_ ?_ ?_ ?_ ?_); (focus rfl); (focus rfl); (focus rfl); (focus exact Nat.le_of_ble_eq_true rfl); (focus exact lot_size6); (focus (simp [Value.oneCell']; done)); intro w12_ b12_ h12_; have R_12 : Blk w12_ (w.heap.size) 58 #[.string ⟨#[]⟩, .slice none 0 0, .int .i64 0, .int .i64 0, .int .i64 0, .int .i64 0] := b12_; have N_12 : Blk w12_ (w.heap.size + 1) 58 #[.string ⟨#[]⟩, .slice none 0 0, .int .i64 0, .int .i64 0, .int .i64 0, .int .i64 0] := (N_10).put h12_ ne_N_R; have X_12 : Blk w12_ (w2_.heap.size) 58 #[.string ⟨nm.toArray⟩, .slice (some ⟨g2, 0, none⟩) M.length c2, .int .i64 0, .int .i64 0, .int .i64 0, .int .i64 0] := (X_10).put h12_ (Ne.symm ne_R_X); have A_12 : Blk w12_ (w4_.heap.size) 107 #[.int .i64 y0, .int .i64 y1, .int .i64 y2, .int .i64 0] := (A_10).put h12_ (Ne.symm ne_R_A); have W_12 : CellsAt g1 w12_ [strV nm, strV m, strV a, strV b, strV c, strV d] := (W_10).put h12_ (by omega); have M_12 : CellsAt g2 w12_ (M.map strV) := (M_10).put h12_ (by omega); have S_12 := pp (S_10) h12_ ge_R; clear R_10 N_10 X_10 A_10 W_10 M_10 S_10; clear h12_ b12_))
              have hR := HBad.out (.inr (.inr (.inr (.inr hvd))))
              subst hR
              have z0 := R_12.cellAt 0 rfl
              have z1 := R_12.cellAt 1 rfl
              have z2 := R_12.cellAt 2 rfl
              have z3 := R_12.cellAt 3 rfl
              have z4 := R_12.cellAt 4 rfl
              have z5 := R_12.cellAt 5 rfl
              exact bodyPost_ret (v := .tuple #[.agg #[.string ⟨#[]⟩, .slice none 0 0, .int .i64 0, .int .i64 0, .int .i64 0, .int .i64 0], .int .i64 7]) (by simp [results, Tryz.results34, go_sem, z0, z1, z2, z3, z4, z5]) rfl (lotPost_bad S_12)
            | some y3 =>
              rw [hvd] at hnx
              have HNum := Lib.hid (show ∀ w', Calls Tryz.prog 80 #[.string ⟨d.toArray⟩, .int .i64 7] w' fun e w'' => e = .returned (.tuple #[.int .i64 y3, .bool true]) ∧ w' = w'' from hnx)
              clear hnx
              have Hvd := Lib.hid hvd
              clear hvd
              rw [rounds_succ]
              go_wp2_with (first
                | (go_at_call 80; (with_reducible refine (HNum.out _).mono ?_); rintro e w' ⟨rfl, rfl⟩)
                | ((with_reducible refine store_sub (T := 3) (x := .tmp 71) (y := .tmp 70) (o := 3) (cs' := #[.int .i64 y0, .int .i64 y1, .int .i64 y2, .int .i64 y3]) (vs := #[.int .i64 y3]) (show Blk _ (w4_.heap.size) 107 #[.int .i64 y0, .int .i64 y1, .int .i64 y2, .int .i64 0] from (A_10)) ?_ ?_ ?_ ?_ ?_ ?_ ?_); (focus rfl); (focus rfl); (focus rfl); (focus exact Nat.le_of_ble_eq_true rfl); (focus exact int_size1); (focus (simp [Value.oneCell']; done)); intro w12_ b12_ h12_; have R_12 : Blk w12_ (w.heap.size) 58 #[.string ⟨#[]⟩, .slice none 0 0, .int .i64 0, .int .i64 0, .int .i64 0, .int .i64 0] := (R_10).put h12_ ne_R_A; have N_12 : Blk w12_ (w.heap.size + 1) 58 #[.string ⟨#[]⟩, .slice none 0 0, .int .i64 0, .int .i64 0, .int .i64 0, .int .i64 0] := (N_10).put h12_ ne_N_A; have X_12 : Blk w12_ (w2_.heap.size) 58 #[.string ⟨nm.toArray⟩, .slice (some ⟨g2, 0, none⟩) M.length c2, .int .i64 0, .int .i64 0, .int .i64 0, .int .i64 0] := (X_10).put h12_ ne_X_A; have A_12 : Blk w12_ (w4_.heap.size) 107 #[.int .i64 y0, .int .i64 y1, .int .i64 y2, .int .i64 y3] := b12_; have W_12 : CellsAt g1 w12_ [strV nm, strV m, strV a, strV b, strV c, strV d] := (W_10).put h12_ (by omega); have M_12 : CellsAt g2 w12_ (M.map strV) := (M_10).put h12_ (by omega); have S_12 := pp (S_10) h12_ ge_A; clear R_10 N_10 X_10 A_10 W_10 M_10 S_10; clear h12_ b12_))
              clear d5 gl3 HNum
              rw [rounds_succ]
              go_wp2
              have a0 := A_12.cellAt 0 rfl
              have a1 := A_12.cellAt 1 rfl
              have a2 := A_12.cellAt 2 rfl
              have a3 := A_12.cellAt 3 rfl
              have Xc0 := X_12.cellAt 0 rfl
              have Xc1 := X_12.cellAt 1 rfl
              have Xc2 := X_12.cellAt 2 rfl
              have Xc3 := X_12.cellAt 3 rfl
              have Xc4 := X_12.cellAt 4 rfl
              have Xc5 := X_12.cellAt 5 rfl
              have Xl := X_12.lt
              have Xf := X_12.frozen
              have HS21 := Lib.hid (show ∀ W : World, Hid (W.heap[w4_.heap.size]? = w12_.heap[w4_.heap.size]?) → Hid (W.heap[w4_.heap.size]? = w12_.heap[w4_.heap.size]?) ∧ W.cell? ⟨w4_.heap.size, 0, none⟩ = some (.int .i64 y0) ∧ W.cell? ⟨w4_.heap.size, 1, none⟩ = some (.int .i64 y1) ∧ W.cell? ⟨w4_.heap.size, 2, none⟩ = some (.int .i64 y2) ∧ W.cell? ⟨w4_.heap.size, 3, none⟩ = some (.int .i64 y3) from fun W hW => ⟨hW, (World.cell?_of_block hW.out).trans a0, (World.cell?_of_block hW.out).trans a1, (World.cell?_of_block hW.out).trans a2, (World.cell?_of_block hW.out).trans a3⟩)
              have neAX : w4_.heap.size ≠ w2_.heap.size := (Ne.symm ne_X_A)
              go_cut [] (fun wx => Blk wx (w.heap.size) 58 #[.string ⟨#[]⟩, .slice none 0 0, .int .i64 0, .int .i64 0, .int .i64 0, .int .i64 0] ∧ Blk wx (w.heap.size + 1) 58 #[.string ⟨#[]⟩, .slice none 0 0, .int .i64 0, .int .i64 0, .int .i64 0, .int .i64 0] ∧ Blk wx (w2_.heap.size) 58 #[.string ⟨nm.toArray⟩, .slice (some ⟨g2, 0, none⟩) M.length c2, .int .i64 y0, .int .i64 y1, .int .i64 y2, .int .i64 y3] ∧ CellsAt g2 wx (M.map strV) ∧ Below w.heap.size w wx)
              case first =>
                go_region_held3 (fun w' => Hid (w'.heap[w4_.heap.size]? = w12_.heap[w4_.heap.size]?) ∧ w'.cell? ⟨w4_.heap.size, 0, none⟩ = some (.int .i64 y0) ∧ w'.cell? ⟨w4_.heap.size, 1, none⟩ = some (.int .i64 y1) ∧ w'.cell? ⟨w4_.heap.size, 2, none⟩ = some (.int .i64 y2) ∧ w'.cell? ⟨w4_.heap.size, 3, none⟩ = some (.int .i64 y3)) ((refine HS21.out _ (Lib.hid ?_); repeat (first | (with_reducible rfl) | (with_reducible assumption) | (with_reducible refine (drew_heap _ _).trans ?_) | (with_reducible refine (Below.heap_setCell _ _ _ _ (by first | (simp; done) | (simp; omega))).trans ?_)))) (fail)
                all_goals
                  go_wp2
                  go_meet
                  case rel => exact ⟨((((R_12.far (by first | (simp; done) | (simp; omega))).far (by first | (simp; done) | (simp; omega))).far (by first | (simp; done) | (simp; omega))).far (by first | (simp; done) | (simp; omega))), ((((N_12.far (by first | (simp; done) | (simp; omega))).far (by first | (simp; done) | (simp; omega))).far (by first | (simp; done) | (simp; omega))).far (by first | (simp; done) | (simp; omega))), ((((X_12.set_ 2 _).set_ 3 _).set_ 4 _).set_ 5 _), ((((M_12.set_ (by first | (simp; done) | (simp; omega))).set_ (by first | (simp; done) | (simp; omega))).set_ (by first | (simp; done) | (simp; omega))).set_ (by first | (simp; done) | (simp; omega))), by repeat (first | exact S_12 | (with_reducible refine pd ?_) | (refine ps ?_ (by first | exact ge_X | (dsimp only; omega))))⟩
              case rest =>
                obtain ⟨kR, kN, kX, kM, hSc⟩ := hcut
                have hte := fun w' (h : CellsIn w'.heap.size w' (some ⟨g2, 0, none⟩) ((M).map strV)) => (show Calls Tryz.prog 36 #[.agg #[.string ⟨nm.toArray⟩, .slice (some ⟨g2, 0, none⟩) M.length c2, .int .i64 y0, .int .i64 y1, .int .i64 y2, .int .i64 y3]] w' fun e w'' => e = .returned (.int .i64 (lotE (lotB (nm, M, y0, y1, y2, y3)))) ∧ Below w'.heap.size w' w'' from refLotErr_any w'.heap.size (lotB (nm, M, y0, y1, y2, y3)) (some ⟨g2, 0, none⟩) M.length c2 w' (by simp [lotB]) (rowIn_of_cells h) (Nat.le_refl _) (HSm.out y0 y1 y2 y3) hc2)
                have hR0 := HGood.out y0 y1 y2 y3 HE0.out Hva.out Hvb.out Hvc.out Hvd.out
                have HR0 := Lib.hid hR0
                generalize lotE (lotB (nm, M, y0, y1, y2, y3)) = E at *
                have HTe := Lib.hid hte
                clear hte hR0 HGood HBad
                by_cases hE : E = 0
                · have hG0 := HR0.out
                  clear HR0
                  rw [if_pos hE] at hG0
                  subst hG0
                  subst hE
                  have ne_R_N : w.heap.size ≠ w.heap.size + 1 := (by omega)
                  have ne_R_X9 : w.heap.size ≠ w2_.heap.size := ne_R_X
                  have ne_N_X9 : w.heap.size + 1 ≠ w2_.heap.size := ne_N_X
                  have ge_R : w.heap.size ≤ w.heap.size := Nat.le_refl _
                  have t0 := kX.cellAt 0 rfl
                  have t1 := kX.cellAt 1 rfl
                  have t2 := kX.cellAt 2 rfl
                  have t3 := kX.cellAt 3 rfl
                  have t4 := kX.cellAt 4 rfl
                  have t5 := kX.cellAt 5 rfl
                  have x0 := kX.lt
                  go_wp2_with (first
                    | ((with_reducible refine load_sub (T := 58) (x := .tmp 6) (o := 0) (vs := #[.string ⟨nm.toArray⟩, .slice (some ⟨g2, 0, none⟩) M.length c2, .int .i64 y0, .int .i64 y1, .int .i64 y2, .int .i64 y3]) (show Blk _ (w2_.heap.size) 58 #[.string ⟨nm.toArray⟩, .slice (some ⟨g2, 0, none⟩) M.length c2, .int .i64 y0, .int .i64 y1, .int .i64 y2, .int .i64 y3] from (kX)) ?_ ?_ Tryz.underlying58 ?_ ?_ ?_); (focus rfl); (focus rfl); (focus rfl); (focus exact lot_size6))
                    | (go_at_call 36; (with_reducible refine (HTe.out _ ((kM)).cells).mono ?_); rintro e w91_ ⟨rfl, h91_⟩; have R_91 : Blk w91_ (w.heap.size) 58 #[.string ⟨#[]⟩, .slice none 0 0, .int .i64 0, .int .i64 0, .int .i64 0, .int .i64 0] := (kR).past h91_; have N_91 : Blk w91_ (w.heap.size + 1) 58 #[.string ⟨#[]⟩, .slice none 0 0, .int .i64 0, .int .i64 0, .int .i64 0, .int .i64 0] := (kN).past h91_; have X_91 : Blk w91_ (w2_.heap.size) 58 #[.string ⟨nm.toArray⟩, .slice (some ⟨g2, 0, none⟩) M.length c2, .int .i64 y0, .int .i64 y1, .int .i64 y2, .int .i64 y3] := (kX).past h91_; have M_91 : CellsAt g2 w91_ (M.map strV) := (kM).past h91_; have S_91 := pt (hSc) h91_; clear kR kN kX t0 t1 t2 t3 t4 t5 x0; clear h91_)
                    | ((with_reducible refine load_sub (T := 58) (x := .tmp 6) (o := 0) (vs := #[.string ⟨nm.toArray⟩, .slice (some ⟨g2, 0, none⟩) M.length c2, .int .i64 y0, .int .i64 y1, .int .i64 y2, .int .i64 y3]) (show Blk _ (w2_.heap.size) 58 #[.string ⟨nm.toArray⟩, .slice (some ⟨g2, 0, none⟩) M.length c2, .int .i64 y0, .int .i64 y1, .int .i64 y2, .int .i64 y3] from (X_91)) ?_ ?_ Tryz.underlying58 ?_ ?_ ?_); (focus rfl); (focus rfl); (focus rfl); (focus exact lot_size6))
                    | ((with_reducible refine store_sub (T := 58) (x := .tmp 2) (y := .tmp 90) (o := 0) (cs' := #[.string ⟨nm.toArray⟩, .slice (some ⟨g2, 0, none⟩) M.length c2, .int .i64 y0, .int .i64 y1, .int .i64 y2, .int .i64 y3]) (vs := #[.string ⟨nm.toArray⟩, .slice (some ⟨g2, 0, none⟩) M.length c2, .int .i64 y0, .int .i64 y1, .int .i64 y2, .int .i64 y3]) (show Blk _ (w.heap.size) 58 #[.string ⟨#[]⟩, .slice none 0 0, .int .i64 0, .int .i64 0, .int .i64 0, .int .i64 0] from (R_91)) ?_ ?_ ?_ ?_ ?_ ?_ ?_); (focus rfl); (focus rfl); (focus rfl); (focus exact Nat.le_of_ble_eq_true rfl); (focus exact lot_size6); (focus (simp [Value.oneCell']; done)); intro w92_ b92_ h92_; have R_92 : Blk w92_ (w.heap.size) 58 #[.string ⟨nm.toArray⟩, .slice (some ⟨g2, 0, none⟩) M.length c2, .int .i64 y0, .int .i64 y1, .int .i64 y2, .int .i64 y3] := b92_; have N_92 : Blk w92_ (w.heap.size + 1) 58 #[.string ⟨#[]⟩, .slice none 0 0, .int .i64 0, .int .i64 0, .int .i64 0, .int .i64 0] := (N_91).put h92_ (by omega); have X_92 : Blk w92_ (w2_.heap.size) 58 #[.string ⟨nm.toArray⟩, .slice (some ⟨g2, 0, none⟩) M.length c2, .int .i64 y0, .int .i64 y1, .int .i64 y2, .int .i64 y3] := (X_91).put h92_ (by omega); have M_92 : CellsAt g2 w92_ (M.map strV) := (M_91).put h92_ (by omega); have S_92 := pp (S_91) h92_ ge_R; clear R_91 N_91 X_91 M_91 S_91; clear h92_ b92_))
                  have z0 := R_92.cellAt 0 rfl
                  have z1 := R_92.cellAt 1 rfl
                  have z2 := R_92.cellAt 2 rfl
                  have z3 := R_92.cellAt 3 rfl
                  have z4 := R_92.cellAt 4 rfl
                  have z5 := R_92.cellAt 5 rfl
                  exact bodyPost_ret (v := .tuple #[.agg #[.string ⟨nm.toArray⟩, .slice (some ⟨g2, 0, none⟩) M.length c2, .int .i64 y0, .int .i64 y1, .int .i64 y2, .int .i64 y3], .int .i64 0]) (by simp [results, Tryz.results34, go_sem, z0, z1, z2, z3, z4, z5]) rfl (lotPost_ok rfl hc2 M_92.cells S_92)
                · have hG0 := HR0.out
                  clear HR0
                  rw [if_neg hE] at hG0
                  subst hG0
                  have hne : (E != 0) = true := by simpa using hE
                  have ne_R_N : w.heap.size ≠ w.heap.size + 1 := (by omega)
                  have ne_R_X9 : w.heap.size ≠ w2_.heap.size := ne_R_X
                  have ne_N_X9 : w.heap.size + 1 ≠ w2_.heap.size := ne_N_X
                  have ge_R : w.heap.size ≤ w.heap.size := Nat.le_refl _
                  have t0 := kX.cellAt 0 rfl
                  have t1 := kX.cellAt 1 rfl
                  have t2 := kX.cellAt 2 rfl
                  have t3 := kX.cellAt 3 rfl
                  have t4 := kX.cellAt 4 rfl
                  have t5 := kX.cellAt 5 rfl
                  have x0 := kX.lt
                  go_wp2_with (first
                    | ((with_reducible refine load_sub (T := 58) (x := .tmp 6) (o := 0) (vs := #[.string ⟨nm.toArray⟩, .slice (some ⟨g2, 0, none⟩) M.length c2, .int .i64 y0, .int .i64 y1, .int .i64 y2, .int .i64 y3]) (show Blk _ (w2_.heap.size) 58 #[.string ⟨nm.toArray⟩, .slice (some ⟨g2, 0, none⟩) M.length c2, .int .i64 y0, .int .i64 y1, .int .i64 y2, .int .i64 y3] from (kX)) ?_ ?_ Tryz.underlying58 ?_ ?_ ?_); (focus rfl); (focus rfl); (focus rfl); (focus exact lot_size6))
                    | (go_at_call 36; (with_reducible refine (HTe.out _ ((kM)).cells).mono ?_); rintro e w91_ ⟨rfl, h91_⟩; have R_91 : Blk w91_ (w.heap.size) 58 #[.string ⟨#[]⟩, .slice none 0 0, .int .i64 0, .int .i64 0, .int .i64 0, .int .i64 0] := (kR).past h91_; have N_91 : Blk w91_ (w.heap.size + 1) 58 #[.string ⟨#[]⟩, .slice none 0 0, .int .i64 0, .int .i64 0, .int .i64 0, .int .i64 0] := (kN).past h91_; have X_91 : Blk w91_ (w2_.heap.size) 58 #[.string ⟨nm.toArray⟩, .slice (some ⟨g2, 0, none⟩) M.length c2, .int .i64 y0, .int .i64 y1, .int .i64 y2, .int .i64 y3] := (kX).past h91_; have M_91 : CellsAt g2 w91_ (M.map strV) := (kM).past h91_; have S_91 := pt (hSc) h91_; clear kR kN kX t0 t1 t2 t3 t4 t5 x0; clear h91_)
                    | ((with_reducible refine load_sub (T := 58) (x := .tmp 4) (o := 0) (vs := #[.string ⟨#[]⟩, .slice none 0 0, .int .i64 0, .int .i64 0, .int .i64 0, .int .i64 0]) (show Blk _ (w.heap.size + 1) 58 #[.string ⟨#[]⟩, .slice none 0 0, .int .i64 0, .int .i64 0, .int .i64 0, .int .i64 0] from (N_91)) ?_ ?_ Tryz.underlying58 ?_ ?_ ?_); (focus rfl); (focus rfl); (focus rfl); (focus exact lot_size6))
                    | ((with_reducible refine store_sub (T := 58) (x := .tmp 2) (y := .tmp 88) (o := 0) (cs' := #[.string ⟨#[]⟩, .slice none 0 0, .int .i64 0, .int .i64 0, .int .i64 0, .int .i64 0]) (vs := #[.string ⟨#[]⟩, .slice none 0 0, .int .i64 0, .int .i64 0, .int .i64 0, .int .i64 0]) (show Blk _ (w.heap.size) 58 #[.string ⟨#[]⟩, .slice none 0 0, .int .i64 0, .int .i64 0, .int .i64 0, .int .i64 0] from (R_91)) ?_ ?_ ?_ ?_ ?_ ?_ ?_); (focus rfl); (focus rfl); (focus rfl); (focus exact Nat.le_of_ble_eq_true rfl); (focus exact lot_size6); (focus (simp [Value.oneCell']; done)); intro w92_ b92_ h92_; have R_92 : Blk w92_ (w.heap.size) 58 #[.string ⟨#[]⟩, .slice none 0 0, .int .i64 0, .int .i64 0, .int .i64 0, .int .i64 0] := b92_; have N_92 : Blk w92_ (w.heap.size + 1) 58 #[.string ⟨#[]⟩, .slice none 0 0, .int .i64 0, .int .i64 0, .int .i64 0, .int .i64 0] := (N_91).put h92_ (by omega); have X_92 : Blk w92_ (w2_.heap.size) 58 #[.string ⟨nm.toArray⟩, .slice (some ⟨g2, 0, none⟩) M.length c2, .int .i64 y0, .int .i64 y1, .int .i64 y2, .int .i64 y3] := (X_91).put h92_ (by omega); have M_92 : CellsAt g2 w92_ (M.map strV) := (M_91).put h92_ (by omega); have S_92 := pp (S_91) h92_ ge_R; clear R_91 N_91 X_91 M_91 S_91; clear h92_ b92_))
                  have z0 := R_92.cellAt 0 rfl
                  have z1 := R_92.cellAt 1 rfl
                  have z2 := R_92.cellAt 2 rfl
                  have z3 := R_92.cellAt 3 rfl
                  have z4 := R_92.cellAt 4 rfl
                  have z5 := R_92.cellAt 5 rfl
                  exact bodyPost_ret (v := .tuple #[.agg #[.string ⟨#[]⟩, .slice none 0 0, .int .i64 0, .int .i64 0, .int .i64 0, .int .i64 0], .int .i64 E]) (by simp [results, Tryz.results34, go_sem, z0, z1, z2, z3, z4, z5]) rfl (lotPost_bad S_92)

theorem refParseLot_any (l : List UInt8) (hl : l.length ≤ 500) (w : World) :
    Calls Tryz.prog 34 #[.string ⟨l.toArray⟩] w (LotPost w (lotOut (parseL l))) := by
  by_cases h6 : (splitL 32 l).length = 6
  · have hm : ∀ x ∈ splitL 32 l, x.length ≤ 500 := fun x hx => Nat.le_trans (splitM hx) hl
    generalize hs : splitL 32 l = L at *
    match L, hs, hm, h6 with
    | [nm, m, a, b, c, d], hs, hm, _ =>
      by_cases hn : nm = []
      · subst hn
        have e : parseL l = none := by unfold parseL; rw [hs]; exact if_pos (.inl rfl)
        rw [e]
        exact refParL_nil l m a b c d hl hs w
      · rw [parseL_words hs hn]
        by_cases h45 : m = [45]
        · exact refParL_a l nm m a b c d hl hm hs hn h45 w
        · exact refParL_b l nm m a b c d hl hm hs hn h45 w
  · have e : parseL l = none := by
      unfold parseL
      split
      · rename_i h; rw [h] at h6; exact absurd rfl h6
      · rfl
    rw [e]
    exact refParL_len l hl h6 w

end Go.Proofs.YtbojmcopagbheaaGreatDoor
