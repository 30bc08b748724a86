/- Contract: the specification's task of a string. Printed by a program (gen_wrpt.py). -/
import Derived.Test.YtbojmcopagbheaaGreatDoorQ6
import Derived.Test.YtbojmcopagbheaaGreatDoorQ2
import Derived.Test.YtbojmcopagbheaaGreatDoorY1ParT
import Derived.Test.YtbojmcopagbheaaGreatDoorQT
import Derived.Test.YtbojmcopagbheaaGreatDoorQ8
import Derived.Test.YtbojmcopagbheaaGreatDoorARegionA
import Derived.Laws.OwnMore
import Derived.Deep.DeepCutAuto
namespace Go.Proofs.YtbojmcopagbheaaGreatDoor
open Go.RowKit
attribute [local go_sem ↓] Go.wp_at_zero Go.wp_at_succ

section
variable {P : Program} (w : World)
theorem step_append_cells {ops : Array Oper} {o : Oper} {a : Act} {K : Act → World → Prop} {Q : Exit → Act → World → Prop} {E : Prop} (hgd : o.guard = none) (s x : Operand) (t : TypeId)
    (ho : o.op = .call { callee := .builtin .append, args := #[s, x], argTypes := #[t, t] })
    (base : Nat) (e : TypeId) (i : TypeInfo) (z : Value) (size bytes : Nat) (ht : P.underlying t = some (.slice e)) (hi : P.info? e = some i) (hz : i.zero = some z)
    (hsize : i.size = size) (hby : i.bytes = bytes) (hzs : z.cells.size = size) (hsz : 0 < size)
    (v : Value) (n : Nat) (xs : List Value) (hs : a.eval s = v) (hown : w.ownsRow base e size v n xs)
    (B : Nat) (A : Option Addr) (m c : Nat) (news : List Value) (hx : a.eval x = .slice A m c) (hr : CellsIn B w A news) (hl : news.length = m * size) (h1 : ∀ u ∈ news, u.oneCell' = true)
    (h63 : n + m ≤ maxLen) (hbytes : (n + m) * bytes ≤ 140737488355328) (hbase : base ≤ w.heap.size)
    (h : ∀ v' w', w'.ownsRow base e size v' (n + m) (xs ++ news) → w.grownBy w' v.ownBlock → (v'.ownBlock = v.ownBlock ∨ v'.ownBlock = some w.heap.size) → K (a.put o.dst v') w') :
    if Region.wanted o (yielded ops a.tmps) = true then Oper.wp P o a w K Q else E := by
  have hw : Region.wanted o (yielded ops a.tmps) = true := by simp [Region.wanted, hgd]
  rw [if_pos hw]
  exact wp_append_cells w s x t ho base e i z size bytes ht hi hz hsize hby hzs hsz v n xs hs hown B A m c news hx hr hl h1 h63 hbytes hbase h
end
theorem le_of_below {a b : World} (h : Below a.heap.size a b) : a.heap.size ≤ b.heap.size := h.size
theorem own_some {w : World} {base n c : Nat} {e : TypeId} {A : Option Addr} {cs : List Value} (h : w.ownsRow base e 1 (.slice A n c) n cs) (hn : 0 < n) :
    ∃ g, A = some ⟨g, 0, none⟩ ∧ base ≤ g ∧ g < w.heap.size ∧ ∀ j, j < n → w.cell? ⟨g, j, none⟩ = cs[j]? := by
  rcases h.2 with ⟨_, h2⟩ | ⟨g, cap, cur, hv, hb, hh, _, _, _, ht⟩
  · omega
  · injection hv with hA _ _
    refine ⟨g, hA, hb, (Array.getElem?_eq_some_iff.1 hh).1, fun j hj => ?_⟩
    rw [← ht, List.getElem?_take_of_lt (by omega)]
    simp [World.cell?, hh]
/-- A row of the call's own, behind an append onto a row that lies before it. -/
theorem cells_far {w w' : World} {base n c g : Nat} {e : TypeId} {A : Option Addr} {cs : List Value} (h : w.ownsRow base e 1 (.slice A n c) n cs) (hg : w.grownBy w' (some g)) (hlt : g < base) : CellsIn w'.heap.size w' A cs := by
  rcases cellsIn_of_own h with h0 | ⟨b, off, hA, hb, hc⟩
  · exact .inl h0
  · have hge := (h.lt b (by rw [hA]; rfl)).1
    have hs : b < w'.heap.size := Nat.lt_of_lt_of_le hb hg.size
    refine .inr ⟨b, off, hA, hs, fun j hj => (hg.cell_far _ hb (by simp; omega)).trans (hc j hj)⟩
theorem cells_far2 {B g : Nat} {w w' : World} {A : Option Addr} {cs : List Value} (h : CellsIn B w A cs) (hg : w.grownBy w' (some g)) (hlt : B ≤ g) (hB : B ≤ w.heap.size) : CellsIn w'.heap.size w' A cs := by
  rcases h with h0 | ⟨b, off, hA, hb, hc⟩
  · exact .inl h0
  · refine .inr ⟨b, off, hA, Nat.lt_of_lt_of_le hb (Nat.le_trans hB hg.size), fun j hj => (hg.cell_far _ (Nat.lt_of_lt_of_le hb hB) (by simp; omega)).trans (hc j hj)⟩
/-- From one block's offset on lie these numbers. -/
def IntsAt (g o : Nat) (w : World) (xs : List Int) : Prop := xs = [] ∨ (g < w.heap.size ∧ ∀ j, j < xs.length → w.cell? ⟨g, o + j, none⟩ = some (.int .i64 (xs.getD j 0)))
theorem IntsAt.past {g o : Nat} {w w' : World} {xs : List Int} (h : IntsAt g o w xs) (hb : Below w.heap.size w w') : IntsAt g o w' xs := by
  rcases h with h | ⟨hl, hc⟩
  · exact .inl h
  · exact .inr ⟨Nat.lt_of_lt_of_le hl hb.size, fun j hj => ((bcell hb).1 g _ hl).trans (hc j hj)⟩
theorem IntsAt.alloc {g o : Nat} {w : World} {xs : List Int} (h : IntsAt g o w xs) {ob : Obj} : IntsAt g o (w.alloc ob) xs := h.past (pa pr)
theorem IntsAt.put {g o b : Nat} {w W : World} {xs : List Int} (h : IntsAt g o w xs) (hp : Put w W b) (hne : g ≠ b) : IntsAt g o W xs := by
  rcases h with h | ⟨hl, hc⟩
  · exact .inl h
  · exact .inr ⟨by rw [hp.size]; exact hl, fun j hj => (World.cell?_of_block (hp.other g hne)).trans (hc j hj)⟩
theorem IntsAt.ints {g o : Nat} {w : World} {xs : List Int} (h : IntsAt g o w xs) : IntsIn w.heap.size w (some ⟨g, o, none⟩) xs := by
  rcases h with h | ⟨hl, hc⟩
  · exact .inl h
  · exact .inr ⟨g, o, rfl, hl, hc⟩
/-- What the words of a task say. -/
def wordsT (W : List (List UInt8)) : Option (Int × Int × Int × List Int) := match numsQ 7 W with
  | some (x :: y :: z :: q) => some (x, y, z, q)
  | _ => none
theorem parseT_words {l a b c d : List UInt8} (hs : splitL 32 l = [a, b, c, d]) : parseT l = wordsT (a :: b :: c :: partsL d) := by
  unfold parseT wordsT
  rw [hs]
  simp only [numsQ]
  cases numQ 7 a with
  | none => rfl
  | some x =>
    cases numQ 7 b with
    | none => rfl
    | some y =>
      cases numQ 7 c with
      | none => rfl
      | some z => cases numsQ 7 (partsL d) <;> rfl
theorem numsQ_none {D : Nat} {x : List UInt8} : ∀ {l : List (List UInt8)} {k : Nat}, k < l.length → l.getD k [] = x → numQ D x = none → numsQ D l = none
  | [], _, hk, _, _ => by simp at hk
  | y :: l, 0, _, hx, h => by
    have hx : y = x := hx
    simp only [numsQ]
    rw [hx, h]
    rfl
  | y :: l, k + 1, hk, hx, h => by
    simp only [numsQ]
    rw [numsQ_none (l := l) (k := k) (by simpa using hk) (by simpa using hx) h]
    cases numQ D y <;> rfl
theorem numsQ_next {D : Nat} {W : List (List UInt8)} {k : Nat} {ys : List Int} {x : List UInt8} {v : Int} (h : numsQ D (W.take k) = some ys) (hk : k < W.length) (hx : W.getD k [] = x) (hv : numQ D x = some v) : numsQ D (W.take (k + 1)) = some (ys ++ [v]) := by
  have e : W[k] = x := by rw [← hx]; simp [List.getD, hk]
  rw [List.take_succ_eq_append_getElem hk, numsQ_snoc, h, e, hv]
  rfl
theorem taskOut_none {W : List (List UInt8)} (h : numsQ 7 W = none) : taskOut (wordsT W) = (⟨0, 0, 0, []⟩, 7) := by unfold wordsT; rw [h]; rfl
theorem taskOut_some {W : List (List UInt8)} {x y z : Int} {q : List Int} (h : numsQ 7 W = some (x :: y :: z :: q)) : taskOut (wordsT W) = if taskE ⟨x, y, z, q⟩ = 0 then (⟨x, y, z, q⟩, 0) else (⟨0, 0, 0, []⟩, taskE ⟨x, y, z, q⟩) := by unfold wordsT; rw [h]; rfl
theorem nums_three {ys : List Int} {n : Nat} (h : ys.length = n) (hn : 3 ≤ n) : ∃ x y z q, ys = x :: y :: z :: q ∧ n = q.length + 3 := by
  match ys, h with
  | x :: y :: z :: q, h => exact ⟨x, y, z, q, rfl, by simpa using h.symm⟩
  | [], h => simp at h; omega
  | [_], h => simp at h; omega
  | [_, _], h => simp at h; omega

set_option maxHeartbeats 4000000 in
set_option maxRecDepth 100000 in
theorem refParT_len (l : List UInt8) (hl : l.length ≤ 500) (hs : (splitL 32 l).length ≠ 4) (w : World) :
    Calls Tryz.prog 38 #[.string ⟨l.toArray⟩] w (TaskPost w (⟨0, 0, 0, []⟩, 7)) := by
  have HCut := Lib.hid (show ∀ w', Calls Tryz.prog 79 #[.string ⟨l.toArray⟩, .int .u8 32] w' fun e w'' => ∃ A cap, e = .returned (.slice A (splitL 32 l).length cap) ∧ (splitL 32 l).length ≤ cap ∧ w''.ownsRow w'.heap.size 9 1 (.slice A (splitL 32 l).length cap) (splitL 32 l).length ((splitL 32 l).map strV) ∧ Below w'.heap.size w' w'' from fun w' => refCut_own l (by omega) 32 (by decide) w')
  have hn : (((splitL 32 l).length : Int) != 4) = true := by simp; omega
  generalize (splitL 32 l) = S at *
  clear hs hl
  go_enter Tryz.func38, Tryz.ntmps38
  go_wp2_with (first
    | ((with_reducible refine store_sub (T := 41) (x := .tmp 4) (y := .tmp 13) (o := 0) (cs' := #[.int .i64 0, .int .i64 0, .int .i64 0, .slice none 0 0]) (vs := #[.int .i64 0, .int .i64 0, .int .i64 0, .slice none 0 0]) (show Blk _ (w.heap.size + 1) 41 #[.int .i64 0, .int .i64 0, .int .i64 0, .slice none 0 0] from (Blk.newAt (by simp))) ?_ ?_ ?_ ?_ ?_ ?_ ?_); (focus rfl); (focus rfl); (focus rfl); (focus exact Nat.le_of_ble_eq_true rfl); (focus exact task_size4); (focus (simp [Value.oneCell']; done)); intro w1_ b1_ h1_; have R_1 : Blk w1_ (w.heap.size) 41 #[.int .i64 0, .int .i64 0, .int .i64 0, .slice none 0 0] := (Blk.newAt (by simp)).alloc.put h1_ (by omega); have N_1 : Blk w1_ (w.heap.size + 1) 41 #[.int .i64 0, .int .i64 0, .int .i64 0, .slice none 0 0] := b1_; have ne_N_R : w.heap.size + 1 ≠ w.heap.size := (by omega); have ge_R : w.heap.size ≤ w.heap.size := (by omega); have ge_N : w.heap.size ≤ w.heap.size + 1 := (by omega); have S_1 := pp (pa (pa (pr))) h1_ (by omega); clear h1_ b1_)
    | (go_at_call 79; (with_reducible refine (HCut.out _).mono ?_); rintro e w2_ ⟨A1, c1, rfl, hc1, hown1, h2_⟩; have R_2 : Blk w2_ (w.heap.size) 41 #[.int .i64 0, .int .i64 0, .int .i64 0, .slice none 0 0] := (R_1).past h2_; have N_2 : Blk w2_ (w.heap.size + 1) 41 #[.int .i64 0, .int .i64 0, .int .i64 0, .slice none 0 0] := (N_1).past h2_; have S_2 := pt (S_1) h2_; clear R_1 N_1 S_1; have Nc0 := N_2.cellAt 0 rfl; have Nc1 := N_2.cellAt 1 rfl; have Nc2 := N_2.cellAt 2 rfl; have Nc3 := N_2.cellAt 3 rfl; have Nl := N_2.lt; clear h2_)
    | ((with_reducible refine load_sub (T := 41) (x := .tmp 4) (o := 0) (vs := #[.int .i64 0, .int .i64 0, .int .i64 0, .slice none 0 0]) (show Blk _ (w.heap.size + 1) 41 #[.int .i64 0, .int .i64 0, .int .i64 0, .slice none 0 0] from (N_2)) ?_ ?_ Tryz.underlying41 ?_ ?_ ?_); (focus rfl); (focus rfl); (focus rfl); (focus exact task_size4))
    | ((with_reducible refine store_sub (T := 41) (x := .tmp 2) (y := .tmp 19) (o := 0) (cs' := #[.int .i64 0, .int .i64 0, .int .i64 0, .slice none 0 0]) (vs := #[.int .i64 0, .int .i64 0, .int .i64 0, .slice none 0 0]) (show Blk _ (w.heap.size) 41 #[.int .i64 0, .int .i64 0, .int .i64 0, .slice none 0 0] from (R_2)) ?_ ?_ ?_ ?_ ?_ ?_ ?_); (focus rfl); (focus rfl); (focus rfl); (focus exact Nat.le_of_ble_eq_true rfl); (focus exact task_size4); (focus (simp [Value.oneCell']; done)); intro w3_ b3_ h3_; have R_3 : Blk w3_ (w.heap.size) 41 #[.int .i64 0, .int .i64 0, .int .i64 0, .slice none 0 0] := b3_; have N_3 : Blk w3_ (w.heap.size + 1) 41 #[.int .i64 0, .int .i64 0, .int .i64 0, .slice none 0 0] := (N_2).put h3_ ne_N_R; have S_3 := pp (S_2) h3_ ge_R; clear R_2 N_2 S_2 Nc0 Nc1 Nc2 Nc3 Nl; clear h3_ b3_))
  have z0 := R_3.cellAt 0 rfl
  have z1 := R_3.cellAt 1 rfl
  have z2 := R_3.cellAt 2 rfl
  have z3 := R_3.cellAt 3 rfl
  exact bodyPost_ret (v := .tuple #[.agg #[.int .i64 0, .int .i64 0, .int .i64 0, .slice none 0 0], .int .i64 7]) (by simp [results, Tryz.results38, go_sem, z0, z1, z2, z3]) rfl (taskPost_bad S_3)

set_option maxHeartbeats 8000000 in
set_option maxRecDepth 100000 in
theorem refParT_a (l a b c d : List UInt8) (hl : l.length ≤ 500) (hm : ∀ x ∈ [a, b, c, d], x.length ≤ 500) (hs : splitL 32 l = [a, b, c, d]) (hd1 : d = [45]) (w : World) :
    Calls Tryz.prog 38 #[.string ⟨l.toArray⟩] w (TaskPost w (taskOut (wordsT (a :: b :: c :: partsL d)))) := by
  have hCut := fun w' => refCut_own l (by omega) 32 (by decide) w'
  have hs' : splitL (UInt8.ofNat 32) l = [a, b, c, d] := hs
  rw [hs'] at hCut
  have HCut := Lib.hid (show ∀ w', Calls Tryz.prog 79 #[.string ⟨l.toArray⟩, .int .u8 32] w' fun e w'' => ∃ A cap, e = .returned (.slice A 4 cap) ∧ 4 ≤ cap ∧ w''.ownsRow w'.heap.size 9 1 (.slice A 4 cap) 4 [strV a, strV b, strV c, strV d] ∧ Below w'.heap.size w' w'' from hCut)
  obtain ⟨i0, hi0, hz0, hz1, hz2⟩ := info_parts int_info
  clear hCut hs hs'
  subst hd1
  have e : partsL [45] = [] := by unfold partsL; rw [if_pos rfl]
  rw [e]
  have hml : ∀ k, (([a, b, c] : List (List UInt8)).getD k []).length ≤ 500 := fun k => by
    match k with
    | 0 => exact hm a (by simp)
    | 1 => exact hm b (by simp)
    | 2 => exact hm c (by simp)
    | _ + 3 => simp
  have HML := Lib.hid hml
  have HBad := Lib.hid (fun (h : numsQ 7 [a, b, c] = none) => taskOut_none h)
  have HGood := Lib.hid (fun (x y z : Int) (q : List Int) (h : numsQ 7 [a, b, c] = some (x :: y :: z :: q)) => taskOut_some h)
  generalize taskOut (wordsT [a, b, c]) = R at *
  clear hml hm hl e
  go_enter Tryz.func38, Tryz.ntmps38
  go_wp2_with (first
    | ((with_reducible refine store_sub (T := 41) (x := .tmp 4) (y := .tmp 13) (o := 0) (cs' := #[.int .i64 0, .int .i64 0, .int .i64 0, .slice none 0 0]) (vs := #[.int .i64 0, .int .i64 0, .int .i64 0, .slice none 0 0]) (show Blk _ (w.heap.size + 1) 41 #[.int .i64 0, .int .i64 0, .int .i64 0, .slice none 0 0] from (Blk.newAt (by simp))) ?_ ?_ ?_ ?_ ?_ ?_ ?_); (focus rfl); (focus rfl); (focus rfl); (focus exact Nat.le_of_ble_eq_true rfl); (focus exact task_size4); (focus (simp [Value.oneCell']; done)); intro w1_ b1_ h1_; have R_1 : Blk w1_ (w.heap.size) 41 #[.int .i64 0, .int .i64 0, .int .i64 0, .slice none 0 0] := (Blk.newAt (by simp)).alloc.put h1_ (by omega); have N_1 : Blk w1_ (w.heap.size + 1) 41 #[.int .i64 0, .int .i64 0, .int .i64 0, .slice none 0 0] := b1_; have ne_N_R : w.heap.size + 1 ≠ w.heap.size := (by omega); have ge_R : w.heap.size ≤ w.heap.size := (by omega); have ge_N : w.heap.size ≤ w.heap.size + 1 := (by omega); have S_1 := pp (pa (pa (pr))) h1_ (by omega); clear h1_ b1_)
    | (go_at_call 79; (with_reducible refine (HCut.out _).mono ?_); rintro e w2_ ⟨A1, c1, rfl, hc1, hown1, h2_⟩; have R_2 : Blk w2_ (w.heap.size) 41 #[.int .i64 0, .int .i64 0, .int .i64 0, .slice none 0 0] := (R_1).past h2_; have N_2 : Blk w2_ (w.heap.size + 1) 41 #[.int .i64 0, .int .i64 0, .int .i64 0, .slice none 0 0] := (N_1).past h2_; have S_2 := pt (S_1) h2_; clear R_1 N_1 S_1; clear h2_; obtain ⟨g1, rfl, hg1, hg2, hcl1⟩ := own_some hown1 (by decide); have d3 : w2_.cell? ⟨g1, 3, none⟩ = some (.string ⟨#[45]⟩) := hcl1 3 (by decide)))
  have HCell := Lib.hid (show ∀ k, k < 3 → w2_.cell? ⟨g1, k, none⟩ = some (strV (([a, b, c] : List (List UInt8)).getD k [])) from fun k hk => by
    match k, hk with
    | 0, _ => exact hcl1 0 (by decide)
    | 1, _ => exact hcl1 1 (by decide)
    | 2, _ => exact hcl1 2 (by decide))
  have hWl : ([a, b, c] : List (List UInt8)).length = 3 := rfl
  generalize [a, b, c] = W at *
  clear hown1 hcl1 d3 HCut
  have HS0 := Lib.hid (S_2)
  have hsz0 : w.heap.size ≤ w2_.heap.size := (S_2).size
  have hgN : w.heap.size + 1 < w2_.heap.size := N_2.lt
  go_loopw [6, 8] (fun nv iv wr => ∃ (k : Nat) (A3 : Option Addr) (c3 : Nat) (ys : List Int), nv = .slice A3 k c3 ∧ iv = .int .i64 (k : Int) ∧ k ≤ 3 ∧ numsQ 7 (W.take k) = some ys ∧ ys.length = k ∧ Blk wr w.heap.size 41 #[.int .i64 0, .int .i64 0, .int .i64 0, .slice none 0 0] ∧ Blk wr (w.heap.size + 1) 41 #[.int .i64 0, .int .i64 0, .int .i64 0, .slice none 0 0] ∧ wr.ownsRow w2_.heap.size 3 1 (.slice A3 k c3) k (ys.map (Value.int .i64)) ∧ Below w2_.heap.size w2_ wr) (fun _ iv _ => 3 - (intOf iv).toNat)
  case atStart => exact ⟨0, none, 0, [], rfl, rfl, Nat.zero_le _, rfl, rfl, R_2, N_2, World.ownsRow_nil _ _ _ _, pr⟩
  case round =>
    obtain ⟨k, A3, c3, ys, rfl, rfl, hkn, hys, hyl, kR, kN, hown, hq⟩ := hrel
    have HYs := Lib.hid hys
    have HYl := Lib.hid hyl
    have HQ := Lib.hid hq
    have HQ2 := Lib.hid (show Below w.heap.size w wr from pt HS0.out hq)
    have n0 : (0 : Int) ≤ (k : Int) := by omega
    clear hys hyl hq
    by_cases hlt : k < 3
    · have n1 : (k : Int) < 3 := by omega
      have hlx : k < W.length := by omega
      have hcell : wr.cell? ⟨g1, k, none⟩ = some (strV (W.getD k [])) := ((bcell HQ.out).1 g1 k hg2).trans (HCell.out k (by omega))
      obtain ⟨x, hx⟩ : ∃ x, W.getD k [] = x := ⟨_, rfl⟩
      have hxl : x.length ≤ 500 := hx ▸ HML.out k
      rw [hx] at hcell
      have hNum := fun w' => refNumber_any x (by omega) 7 (by decide) w'
      have HX := Lib.hid hx
      clear hx
      cases hv : numberV x 7 with
      | none =>
        rw [hv] at hNum
        have HV := Lib.hid (show numQ 7 x = none by unfold numQ; rw [hv]; rfl)
        clear hv
        have HNum := Lib.hid (show ∀ w', Calls Tryz.prog 80 #[.string ⟨x.toArray⟩, .int .i64 7] w' fun e w'' => e = .returned (.tuple #[.int .i64 0, .bool false]) ∧ w' = w'' from hNum)
        clear hNum
        have ne_R_N : w.heap.size ≠ w.heap.size + 1 := (by omega)
        have ge_R : w.heap.size ≤ w.heap.size := Nat.le_refl _
        go_wp2_with (first
          | (go_at_call 80; (with_reducible refine (HNum.out _).mono ?_); rintro e w' ⟨rfl, rfl⟩)
          | ((with_reducible refine load_sub (T := 41) (x := .tmp 4) (o := 0) (vs := #[.int .i64 0, .int .i64 0, .int .i64 0, .slice none 0 0]) (show Blk _ (w.heap.size + 1) 41 #[.int .i64 0, .int .i64 0, .int .i64 0, .slice none 0 0] from (kN)) ?_ ?_ Tryz.underlying41 ?_ ?_ ?_); (focus rfl); (focus rfl); (focus rfl); (focus exact task_size4))
          | ((with_reducible refine store_sub (T := 41) (x := .tmp 2) (y := .tmp 54) (o := 0) (cs' := #[.int .i64 0, .int .i64 0, .int .i64 0, .slice none 0 0]) (vs := #[.int .i64 0, .int .i64 0, .int .i64 0, .slice none 0 0]) (show Blk _ (w.heap.size) 41 #[.int .i64 0, .int .i64 0, .int .i64 0, .slice none 0 0] from (kR)) ?_ ?_ ?_ ?_ ?_ ?_ ?_); (focus rfl); (focus rfl); (focus rfl); (focus exact Nat.le_of_ble_eq_true rfl); (focus exact task_size4); (focus (simp [Value.oneCell']; done)); intro w52_ b52_ h52_; have R_52 : Blk w52_ (w.heap.size) 41 #[.int .i64 0, .int .i64 0, .int .i64 0, .slice none 0 0] := b52_; have N_52 : Blk w52_ (w.heap.size + 1) 41 #[.int .i64 0, .int .i64 0, .int .i64 0, .slice none 0 0] := (kN).put h52_ (Ne.symm ne_R_N); have S_52 := pp (HQ2.out) h52_ ge_R; clear kR kN; clear h52_ b52_))
        have hR := HBad.out (numsQ_none hlx HX.out HV.out)
        subst hR
        have z0 := R_52.cellAt 0 rfl
        have z1 := R_52.cellAt 1 rfl
        have z2 := R_52.cellAt 2 rfl
        have z3 := R_52.cellAt 3 rfl
        exact bodyPost_ret (v := .tuple #[.agg #[.int .i64 0, .int .i64 0, .int .i64 0, .slice none 0 0], .int .i64 7]) (by simp [results, Tryz.results38, go_sem, z0, z1, z2, z3]) rfl (taskPost_bad S_52)
      | some v =>
        rw [hv] at hNum
        by_cases hv0 : 0 ≤ v
        · have HV := Lib.hid (show numQ 7 x = some v by unfold numQ; rw [hv]; exact if_pos hv0)
          have HNum := Lib.hid (show ∀ w', Calls Tryz.prog 80 #[.string ⟨x.toArray⟩, .int .i64 7] w' fun e w'' => e = .returned (.tuple #[.int .i64 v, .bool true]) ∧ w' = w'' from hNum)
          have b0 : decide (v < 0) = false := by simp; omega
          have b1 : ¬ v < 0 := by omega
          clear hv hNum
          have HO1 := Lib.hid (hown.alloc (.cells #[.int .i64 v] 3))
          have HC := Lib.hid (cellsIn_one wr 3 (.int .i64 v))
          have hs1 := HQ.out.size
          have kR1 := Lib.hid kR
          have kN1 := Lib.hid kN
          clear hown kR kN
          have e1 : IntKind.i64.wrap ((k : Int) + 1) = (k : Int) + 1 := IntWalk.i64_in _ (by omega)
          go_wp2_with (first
            | (go_at_call 80; (with_reducible refine (HNum.out _).mono ?_); rintro e w' ⟨rfl, rfl⟩)
            | (at_builtin; go_must (refine wpList_append_cells _ rfl (.tmp 55) (.tmp 57) _ rfl w2_.heap.size 3 i0 _ 1 8 Tryz.underlying32 hi0 hz0 hz1 hz2 rfl (by omega) _ k _ rfl HO1.out (wr.heap.size + 1) (some ⟨wr.heap.size, 0, none⟩) 1 1 _ rfl HC.out rfl (by simp [Value.oneCell']) (by simp only [maxLen]; omega) (by omega) (by simp; omega) ?_); intro v4 w4 hown4 hg4 hat4; obtain ⟨A4, c4, rfl, hc4, hm4⟩ := own_form hown4))
          go_roundw
          case rel =>
            refine ⟨k + 1, A4, c4, ys ++ [v], rfl, by go_num, by omega, numsQ_next HYs.out hlx HX.out HV.out, by simp [HYl.out], (kR1.out.alloc).grown hg4 (own_lt HO1.out (by omega)), (kN1.out.alloc).grown hg4 (own_lt HO1.out (by omega)), ?_, pg (pa HQ.out) HO1.out (Nat.le_refl _) hg4⟩
            rw [List.map_append]
            exact hown4
          case measure => simp [intOf]; omega
        · have HV := Lib.hid (show numQ 7 x = none by unfold numQ; rw [hv]; exact if_neg hv0)
          have b0 : decide (v < 0) = true := by simp; omega
          have b1 : v < 0 := by omega
          clear hv
          have HNum := Lib.hid (show ∀ w', Calls Tryz.prog 80 #[.string ⟨x.toArray⟩, .int .i64 7] w' fun e w'' => e = .returned (.tuple #[.int .i64 v, .bool true]) ∧ w' = w'' from hNum)
          clear hNum
          have ne_R_N : w.heap.size ≠ w.heap.size + 1 := (by omega)
          have ge_R : w.heap.size ≤ w.heap.size := Nat.le_refl _
          go_wp2_with (first
            | (go_at_call 80; (with_reducible refine (HNum.out _).mono ?_); rintro e w' ⟨rfl, rfl⟩)
            | ((with_reducible refine load_sub (T := 41) (x := .tmp 4) (o := 0) (vs := #[.int .i64 0, .int .i64 0, .int .i64 0, .slice none 0 0]) (show Blk _ (w.heap.size + 1) 41 #[.int .i64 0, .int .i64 0, .int .i64 0, .slice none 0 0] from (kN)) ?_ ?_ Tryz.underlying41 ?_ ?_ ?_); (focus rfl); (focus rfl); (focus rfl); (focus exact task_size4))
            | ((with_reducible refine store_sub (T := 41) (x := .tmp 2) (y := .tmp 54) (o := 0) (cs' := #[.int .i64 0, .int .i64 0, .int .i64 0, .slice none 0 0]) (vs := #[.int .i64 0, .int .i64 0, .int .i64 0, .slice none 0 0]) (show Blk _ (w.heap.size) 41 #[.int .i64 0, .int .i64 0, .int .i64 0, .slice none 0 0] from (kR)) ?_ ?_ ?_ ?_ ?_ ?_ ?_); (focus rfl); (focus rfl); (focus rfl); (focus exact Nat.le_of_ble_eq_true rfl); (focus exact task_size4); (focus (simp [Value.oneCell']; done)); intro w52_ b52_ h52_; have R_52 : Blk w52_ (w.heap.size) 41 #[.int .i64 0, .int .i64 0, .int .i64 0, .slice none 0 0] := b52_; have N_52 : Blk w52_ (w.heap.size + 1) 41 #[.int .i64 0, .int .i64 0, .int .i64 0, .slice none 0 0] := (kN).put h52_ (Ne.symm ne_R_N); have S_52 := pp (HQ2.out) h52_ ge_R; clear kR kN; clear h52_ b52_))
          have hR := HBad.out (numsQ_none hlx HX.out HV.out)
          subst hR
          have z0 := R_52.cellAt 0 rfl
          have z1 := R_52.cellAt 1 rfl
          have z2 := R_52.cellAt 2 rfl
          have z3 := R_52.cellAt 3 rfl
          exact bodyPost_ret (v := .tuple #[.agg #[.int .i64 0, .int .i64 0, .int .i64 0, .slice none 0 0], .int .i64 7]) (by simp [results, Tryz.results38, go_sem, z0, z1, z2, z3]) rfl (taskPost_bad S_52)
    · obtain rfl : k = 3 := by omega
      clear hlt hkn
      have HAll := Lib.hid (show numsQ 7 W = some ys by rw [← HYs.out, List.take_of_length_le (by omega)])
      obtain ⟨x, y, z, qs, rfl, hqn⟩ := nums_three HYl.out (by omega)
      obtain ⟨A5, c5, e5, hc5, _⟩ := own_form hown
      injection e5 with e5a e5n e5b
      subst e5a e5b
      obtain ⟨g3, rfl, hg3, hg4, hcl3⟩ := own_some hown (by omega)
      have c0 : wr.cell? ⟨g3, 0, none⟩ = some (.int .i64 x) := hcl3 0 (by omega)
      have c1_ : wr.cell? ⟨g3, 1, none⟩ = some (.int .i64 y) := hcl3 1 (by omega)
      have c2_ : wr.cell? ⟨g3, 2, none⟩ = some (.int .i64 z) := hcl3 2 (by omega)
      have hqs : qs.length ≤ 1000 := by omega
      have HAb := Lib.hid (show IntsAt g3 3 wr qs from by
        refine .inr ⟨hg4, fun j hj => ?_⟩
        rw [hcl3 (3 + j) (by omega)]
        simp [Nat.add_comm 3 j, List.getD, hj])
      have HTe := Lib.hid (fun (A6 : Option Addr) (n6 c6 : Nat) w' (h6 : qs.length = n6) (hi : IntsIn w'.heap.size w' A6 qs) => refTaskErr_any w'.heap.size ⟨x, y, z, qs⟩ A6 n6 c6 w' h6 hi (Nat.le_refl _) (by omega))
      have HG := Lib.hid (HGood.out x y z qs HAll.out)
      clear HGood HBad HAll HYs HYl hown hcl3 HML HCell
      generalize taskE ⟨x, y, z, qs⟩ = E at *
      by_cases hc3 : c3 = 3
      · have ne_R_N : w.heap.size ≠ w.heap.size + 1 := (by omega)
        have ge_R : w.heap.size ≤ w.heap.size := Nat.le_refl _
        have hq0 : qs = [] := List.eq_nil_of_length_eq_zero (by omega)
        subst hq0
        subst hc3
        clear hqn
        have rI_0 : IntsAt g3 0 wr [] := .inl rfl
        go_wp2
        refine region_alloc (zc := (.cells #[.int .i64 0, .int .i64 0, .int .i64 0, .slice none 0 0] 41)) 12 follows_mixed (by kernel_rfl) rfl (fun _ _ => by kernel_rfl) ?_
        simp only [List.take_succ_cons, List.take_zero, List.drop_succ_cons, List.drop_zero]
        repeat (first
          | ((with_reducible apply grow_plain); (focus rfl); (focus (intro w' hw; obtain ⟨hcq, hfq⟩ := bcell hw; go_simp; (first | done | rfl))); (simp only [Act.put, List.setIfInBounds_toArray, List.set_cons_succ, List.set_cons_zero]))
          | ((with_reducible apply grow_skip); (focus (first | (simp [Region.wanted, yielded]; done) | (simp [Region.wanted, yielded, undef]; done))); simp only [Act.put, List.setIfInBounds_toArray, List.set_cons_succ, List.set_cons_zero])
          | ((with_reducible apply grow_go); (focus (first | (simp [Region.wanted, yielded]; done) | (simp [Region.wanted, yielded, undef]; done))); (focus (intro w' hw; obtain ⟨hcq, hfq⟩ := bcell hw; go_simp; (first | done | rfl))); (simp only [Act.put, List.setIfInBounds_toArray, List.set_cons_succ, List.set_cons_zero])))
        refine grow_nil ?_
        intro v1 w1 hv1 hb1
        simp only [Act.put, List.setIfInBounds_toArray, List.set_cons_succ, List.set_cons_zero]
        have ne_R_T : w.heap.size ≠ v1.heap.size := by have := (kR.past hv1).lt; omega
        have R_61 : Blk w1 (w.heap.size) 41 #[.int .i64 0, .int .i64 0, .int .i64 0, .slice none 0 0] := ((kR.past hv1).alloc).past hb1
        have ne_N_T : w.heap.size + 1 ≠ v1.heap.size := by have := (kN.past hv1).lt; omega
        have N_61 : Blk w1 (w.heap.size + 1) 41 #[.int .i64 0, .int .i64 0, .int .i64 0, .slice none 0 0] := ((kN.past hv1).alloc).past hb1
        have rI_61 : IntsAt g3 0 w1 [] := ((rI_0.past hv1).alloc).past hb1
        have T_61 : Blk w1 v1.heap.size 41 #[.int .i64 0, .int .i64 0, .int .i64 0, .slice none 0 0] := (Blk.new _ _ _).past hb1
        have ge_T : w.heap.size ≤ v1.heap.size := (pt (HQ2.out) hv1).size
        have S_61 := pt (pa (pt (HQ2.out) hv1)) hb1
        clear kR kN rI_0
        have hgT : g3 < v1.heap.size := Nat.lt_of_lt_of_le hg4 hv1.size
        clear hb1 hv1
        obtain ⟨v61_, rfl⟩ : ∃ v, v = v1 := ⟨_, rfl⟩
        obtain ⟨w61_, rfl⟩ : ∃ v, v = w1 := ⟨_, rfl⟩
        by_cases hE : E = 0
        · have hG0 := HG.out
          clear HG
          rw [if_pos hE] at hG0
          subst hG0
          subst hE
          go_wp2_with (first
            | ((with_reducible refine store_sub (T := 41) (x := .tmp 11) (y := .tmp 70) (o := 0) (cs' := #[.int .i64 x, .int .i64 y, .int .i64 z, .slice (some ⟨g3, 0, none⟩) 0 0]) (vs := #[.int .i64 x, .int .i64 y, .int .i64 z, .slice (some ⟨g3, 0, none⟩) 0 0]) (show Blk _ (v61_.heap.size) 41 #[.int .i64 0, .int .i64 0, .int .i64 0, .slice none 0 0] from (T_61)) ?_ ?_ ?_ ?_ ?_ ?_ ?_); (focus rfl); (focus rfl); (focus rfl); (focus exact Nat.le_of_ble_eq_true rfl); (focus exact task_size4); (focus (simp [Value.oneCell']; done)); intro w62_ b62_ h62_; have R_62 : Blk w62_ (w.heap.size) 41 #[.int .i64 0, .int .i64 0, .int .i64 0, .slice none 0 0] := (R_61).put h62_ ne_R_T; have N_62 : Blk w62_ (w.heap.size + 1) 41 #[.int .i64 0, .int .i64 0, .int .i64 0, .slice none 0 0] := (N_61).put h62_ ne_N_T; have T_62 : Blk w62_ (v61_.heap.size) 41 #[.int .i64 x, .int .i64 y, .int .i64 z, .slice (some ⟨g3, 0, none⟩) 0 0] := b62_; have rI_62 : IntsAt g3 0 w62_ [] := (rI_61).put h62_ (by omega); have S_62 := pp (S_61) h62_ ge_T; clear R_61 N_61 T_61 rI_61 S_61; clear h62_ b62_)
            | ((with_reducible refine load_sub (T := 41) (x := .tmp 11) (o := 0) (vs := #[.int .i64 x, .int .i64 y, .int .i64 z, .slice (some ⟨g3, 0, none⟩) 0 0]) (show Blk _ (v61_.heap.size) 41 #[.int .i64 x, .int .i64 y, .int .i64 z, .slice (some ⟨g3, 0, none⟩) 0 0] from (T_62)) ?_ ?_ Tryz.underlying41 ?_ ?_ ?_); (focus rfl); (focus rfl); (focus rfl); (focus exact task_size4))
            | (go_at_call 41; (with_reducible refine (HTe.out _ _ _ _ List.length_nil ((rI_62).ints)).mono ?_); rintro e w63_ ⟨rfl, h63_⟩; have R_63 : Blk w63_ (w.heap.size) 41 #[.int .i64 0, .int .i64 0, .int .i64 0, .slice none 0 0] := (R_62).past h63_; have N_63 : Blk w63_ (w.heap.size + 1) 41 #[.int .i64 0, .int .i64 0, .int .i64 0, .slice none 0 0] := (N_62).past h63_; have T_63 : Blk w63_ (v61_.heap.size) 41 #[.int .i64 x, .int .i64 y, .int .i64 z, .slice (some ⟨g3, 0, none⟩) 0 0] := (T_62).past h63_; have rI_63 : IntsAt g3 0 w63_ [] := (rI_62).past h63_; have S_63 := pt (S_62) h63_; clear R_62 N_62 T_62 rI_62 S_62; clear h63_)
            | ((with_reducible refine load_sub (T := 41) (x := .tmp 11) (o := 0) (vs := #[.int .i64 x, .int .i64 y, .int .i64 z, .slice (some ⟨g3, 0, none⟩) 0 0]) (show Blk _ (v61_.heap.size) 41 #[.int .i64 x, .int .i64 y, .int .i64 z, .slice (some ⟨g3, 0, none⟩) 0 0] from (T_63)) ?_ ?_ Tryz.underlying41 ?_ ?_ ?_); (focus rfl); (focus rfl); (focus rfl); (focus exact task_size4))
            | ((with_reducible refine store_sub (T := 41) (x := .tmp 2) (y := .tmp 77) (o := 0) (cs' := #[.int .i64 x, .int .i64 y, .int .i64 z, .slice (some ⟨g3, 0, none⟩) 0 0]) (vs := #[.int .i64 x, .int .i64 y, .int .i64 z, .slice (some ⟨g3, 0, none⟩) 0 0]) (show Blk _ (w.heap.size) 41 #[.int .i64 0, .int .i64 0, .int .i64 0, .slice none 0 0] from (R_63)) ?_ ?_ ?_ ?_ ?_ ?_ ?_); (focus rfl); (focus rfl); (focus rfl); (focus exact Nat.le_of_ble_eq_true rfl); (focus exact task_size4); (focus (simp [Value.oneCell']; done)); intro w64_ b64_ h64_; have R_64 : Blk w64_ (w.heap.size) 41 #[.int .i64 x, .int .i64 y, .int .i64 z, .slice (some ⟨g3, 0, none⟩) 0 0] := b64_; have N_64 : Blk w64_ (w.heap.size + 1) 41 #[.int .i64 0, .int .i64 0, .int .i64 0, .slice none 0 0] := (N_63).put h64_ (Ne.symm ne_R_N); have T_64 : Blk w64_ (v61_.heap.size) 41 #[.int .i64 x, .int .i64 y, .int .i64 z, .slice (some ⟨g3, 0, none⟩) 0 0] := (T_63).put h64_ (Ne.symm ne_R_T); have rI_64 : IntsAt g3 0 w64_ [] := (rI_63).put h64_ (by omega); have S_64 := pp (S_63) h64_ ge_R; clear R_63 N_63 T_63 rI_63 S_63; clear h64_ b64_))
          have z0 := R_64.cellAt 0 rfl
          have z1 := R_64.cellAt 1 rfl
          have z2 := R_64.cellAt 2 rfl
          have z3 := R_64.cellAt 3 rfl
          exact bodyPost_ret (v := .tuple #[.agg #[.int .i64 x, .int .i64 y, .int .i64 z, .slice (some ⟨g3, 0, none⟩) 0 0], .int .i64 0]) (by simp [results, Tryz.results38, go_sem, z0, z1, z2, z3]) rfl (taskPost_ok List.length_nil (Nat.le_refl _) (rI_64.ints) S_64)
        · have hG0 := HG.out
          clear HG
          rw [if_neg hE] at hG0
          subst hG0
          have hne : (E != 0) = true := by simpa using hE
          go_wp2_with (first
            | ((with_reducible refine store_sub (T := 41) (x := .tmp 11) (y := .tmp 70) (o := 0) (cs' := #[.int .i64 x, .int .i64 y, .int .i64 z, .slice (some ⟨g3, 0, none⟩) 0 0]) (vs := #[.int .i64 x, .int .i64 y, .int .i64 z, .slice (some ⟨g3, 0, none⟩) 0 0]) (show Blk _ (v61_.heap.size) 41 #[.int .i64 0, .int .i64 0, .int .i64 0, .slice none 0 0] from (T_61)) ?_ ?_ ?_ ?_ ?_ ?_ ?_); (focus rfl); (focus rfl); (focus rfl); (focus exact Nat.le_of_ble_eq_true rfl); (focus exact task_size4); (focus (simp [Value.oneCell']; done)); intro w62_ b62_ h62_; have R_62 : Blk w62_ (w.heap.size) 41 #[.int .i64 0, .int .i64 0, .int .i64 0, .slice none 0 0] := (R_61).put h62_ ne_R_T; have N_62 : Blk w62_ (w.heap.size + 1) 41 #[.int .i64 0, .int .i64 0, .int .i64 0, .slice none 0 0] := (N_61).put h62_ ne_N_T; have T_62 : Blk w62_ (v61_.heap.size) 41 #[.int .i64 x, .int .i64 y, .int .i64 z, .slice (some ⟨g3, 0, none⟩) 0 0] := b62_; have rI_62 : IntsAt g3 0 w62_ [] := (rI_61).put h62_ (by omega); have S_62 := pp (S_61) h62_ ge_T; clear R_61 N_61 T_61 rI_61 S_61; clear h62_ b62_)
            | ((with_reducible refine load_sub (T := 41) (x := .tmp 11) (o := 0) (vs := #[.int .i64 x, .int .i64 y, .int .i64 z, .slice (some ⟨g3, 0, none⟩) 0 0]) (show Blk _ (v61_.heap.size) 41 #[.int .i64 x, .int .i64 y, .int .i64 z, .slice (some ⟨g3, 0, none⟩) 0 0] from (T_62)) ?_ ?_ Tryz.underlying41 ?_ ?_ ?_); (focus rfl); (focus rfl); (focus rfl); (focus exact task_size4))
            | (go_at_call 41; (with_reducible refine (HTe.out _ _ _ _ List.length_nil ((rI_62).ints)).mono ?_); rintro e w63_ ⟨rfl, h63_⟩; have R_63 : Blk w63_ (w.heap.size) 41 #[.int .i64 0, .int .i64 0, .int .i64 0, .slice none 0 0] := (R_62).past h63_; have N_63 : Blk w63_ (w.heap.size + 1) 41 #[.int .i64 0, .int .i64 0, .int .i64 0, .slice none 0 0] := (N_62).past h63_; have T_63 : Blk w63_ (v61_.heap.size) 41 #[.int .i64 x, .int .i64 y, .int .i64 z, .slice (some ⟨g3, 0, none⟩) 0 0] := (T_62).past h63_; have rI_63 : IntsAt g3 0 w63_ [] := (rI_62).past h63_; have S_63 := pt (S_62) h63_; clear R_62 N_62 T_62 rI_62 S_62; clear h63_)
            | ((with_reducible refine load_sub (T := 41) (x := .tmp 4) (o := 0) (vs := #[.int .i64 0, .int .i64 0, .int .i64 0, .slice none 0 0]) (show Blk _ (w.heap.size + 1) 41 #[.int .i64 0, .int .i64 0, .int .i64 0, .slice none 0 0] from (N_63)) ?_ ?_ Tryz.underlying41 ?_ ?_ ?_); (focus rfl); (focus rfl); (focus rfl); (focus exact task_size4))
            | ((with_reducible refine store_sub (T := 41) (x := .tmp 2) (y := .tmp 75) (o := 0) (cs' := #[.int .i64 0, .int .i64 0, .int .i64 0, .slice none 0 0]) (vs := #[.int .i64 0, .int .i64 0, .int .i64 0, .slice none 0 0]) (show Blk _ (w.heap.size) 41 #[.int .i64 0, .int .i64 0, .int .i64 0, .slice none 0 0] from (R_63)) ?_ ?_ ?_ ?_ ?_ ?_ ?_); (focus rfl); (focus rfl); (focus rfl); (focus exact Nat.le_of_ble_eq_true rfl); (focus exact task_size4); (focus (simp [Value.oneCell']; done)); intro w64_ b64_ h64_; have R_64 : Blk w64_ (w.heap.size) 41 #[.int .i64 0, .int .i64 0, .int .i64 0, .slice none 0 0] := b64_; have N_64 : Blk w64_ (w.heap.size + 1) 41 #[.int .i64 0, .int .i64 0, .int .i64 0, .slice none 0 0] := (N_63).put h64_ (Ne.symm ne_R_N); have T_64 : Blk w64_ (v61_.heap.size) 41 #[.int .i64 x, .int .i64 y, .int .i64 z, .slice (some ⟨g3, 0, none⟩) 0 0] := (T_63).put h64_ (Ne.symm ne_R_T); have rI_64 : IntsAt g3 0 w64_ [] := (rI_63).put h64_ (by omega); have S_64 := pp (S_63) h64_ ge_R; clear R_63 N_63 T_63 rI_63 S_63; clear h64_ b64_))
          have z0 := R_64.cellAt 0 rfl
          have z1 := R_64.cellAt 1 rfl
          have z2 := R_64.cellAt 2 rfl
          have z3 := R_64.cellAt 3 rfl
          exact bodyPost_ret (v := .tuple #[.agg #[.int .i64 0, .int .i64 0, .int .i64 0, .slice none 0 0], .int .i64 E]) (by simp [results, Tryz.results38, go_sem, z0, z1, z2, z3]) rfl (taskPost_bad S_64)
      · have ne_R_N : w.heap.size ≠ w.heap.size + 1 := (by omega)
        have ge_R : w.heap.size ≤ w.heap.size := Nat.le_refl _
        have rI_0 := HAb.out
        have HQ0 := Lib.hid (show qs.length = 0 by omega)
        clear hqn
        go_wp2
        refine region_alloc (zc := (.cells #[.int .i64 0, .int .i64 0, .int .i64 0, .slice none 0 0] 41)) 12 follows_mixed (by kernel_rfl) rfl (fun _ _ => by kernel_rfl) ?_
        simp only [List.take_succ_cons, List.take_zero, List.drop_succ_cons, List.drop_zero]
        repeat (first
          | ((with_reducible apply grow_plain); (focus rfl); (focus (intro w' hw; obtain ⟨hcq, hfq⟩ := bcell hw; go_simp; (first | done | rfl))); (simp only [Act.put, List.setIfInBounds_toArray, List.set_cons_succ, List.set_cons_zero]))
          | ((with_reducible apply grow_skip); (focus (first | (simp [Region.wanted, yielded]; done) | (simp [Region.wanted, yielded, undef]; done))); simp only [Act.put, List.setIfInBounds_toArray, List.set_cons_succ, List.set_cons_zero])
          | ((with_reducible apply grow_go); (focus (first | (simp [Region.wanted, yielded]; done) | (simp [Region.wanted, yielded, undef]; done))); (focus (intro w' hw; obtain ⟨hcq, hfq⟩ := bcell hw; go_simp; (first | done | rfl))); (simp only [Act.put, List.setIfInBounds_toArray, List.set_cons_succ, List.set_cons_zero])))
        refine grow_nil ?_
        intro v1 w1 hv1 hb1
        simp only [Act.put, List.setIfInBounds_toArray, List.set_cons_succ, List.set_cons_zero]
        have ne_R_T : w.heap.size ≠ v1.heap.size := by have := (kR.past hv1).lt; omega
        have R_61 : Blk w1 (w.heap.size) 41 #[.int .i64 0, .int .i64 0, .int .i64 0, .slice none 0 0] := ((kR.past hv1).alloc).past hb1
        have ne_N_T : w.heap.size + 1 ≠ v1.heap.size := by have := (kN.past hv1).lt; omega
        have N_61 : Blk w1 (w.heap.size + 1) 41 #[.int .i64 0, .int .i64 0, .int .i64 0, .slice none 0 0] := ((kN.past hv1).alloc).past hb1
        have rI_61 : IntsAt g3 3 w1 qs := ((rI_0.past hv1).alloc).past hb1
        have T_61 : Blk w1 v1.heap.size 41 #[.int .i64 0, .int .i64 0, .int .i64 0, .slice none 0 0] := (Blk.new _ _ _).past hb1
        have ge_T : w.heap.size ≤ v1.heap.size := (pt (HQ2.out) hv1).size
        have S_61 := pt (pa (pt (HQ2.out) hv1)) hb1
        clear kR kN rI_0
        have hgT : g3 < v1.heap.size := Nat.lt_of_lt_of_le hg4 hv1.size
        clear hb1 hv1
        obtain ⟨v61_, rfl⟩ : ∃ v, v = v1 := ⟨_, rfl⟩
        obtain ⟨w61_, rfl⟩ : ∃ v, v = w1 := ⟨_, rfl⟩
        by_cases hE : E = 0
        · have hG0 := HG.out
          clear HG
          rw [if_pos hE] at hG0
          subst hG0
          subst hE
          go_wp2_with (first
            | ((with_reducible refine store_sub (T := 41) (x := .tmp 11) (y := .tmp 70) (o := 0) (cs' := #[.int .i64 x, .int .i64 y, .int .i64 z, .slice (some ⟨g3, 3, none⟩) 0 (c3 - 3)]) (vs := #[.int .i64 x, .int .i64 y, .int .i64 z, .slice (some ⟨g3, 3, none⟩) 0 (c3 - 3)]) (show Blk _ (v61_.heap.size) 41 #[.int .i64 0, .int .i64 0, .int .i64 0, .slice none 0 0] from (T_61)) ?_ ?_ ?_ ?_ ?_ ?_ ?_); (focus rfl); (focus rfl); (focus rfl); (focus exact Nat.le_of_ble_eq_true rfl); (focus exact task_size4); (focus (simp [Value.oneCell']; done)); intro w62_ b62_ h62_; have R_62 : Blk w62_ (w.heap.size) 41 #[.int .i64 0, .int .i64 0, .int .i64 0, .slice none 0 0] := (R_61).put h62_ ne_R_T; have N_62 : Blk w62_ (w.heap.size + 1) 41 #[.int .i64 0, .int .i64 0, .int .i64 0, .slice none 0 0] := (N_61).put h62_ ne_N_T; have T_62 : Blk w62_ (v61_.heap.size) 41 #[.int .i64 x, .int .i64 y, .int .i64 z, .slice (some ⟨g3, 3, none⟩) 0 (c3 - 3)] := b62_; have rI_62 : IntsAt g3 3 w62_ qs := (rI_61).put h62_ (by omega); have S_62 := pp (S_61) h62_ ge_T; clear R_61 N_61 T_61 rI_61 S_61; clear h62_ b62_)
            | ((with_reducible refine load_sub (T := 41) (x := .tmp 11) (o := 0) (vs := #[.int .i64 x, .int .i64 y, .int .i64 z, .slice (some ⟨g3, 3, none⟩) 0 (c3 - 3)]) (show Blk _ (v61_.heap.size) 41 #[.int .i64 x, .int .i64 y, .int .i64 z, .slice (some ⟨g3, 3, none⟩) 0 (c3 - 3)] from (T_62)) ?_ ?_ Tryz.underlying41 ?_ ?_ ?_); (focus rfl); (focus rfl); (focus rfl); (focus exact task_size4))
            | (go_at_call 41; (with_reducible refine (HTe.out _ _ _ _ HQ0.out ((rI_62).ints)).mono ?_); rintro e w63_ ⟨rfl, h63_⟩; have R_63 : Blk w63_ (w.heap.size) 41 #[.int .i64 0, .int .i64 0, .int .i64 0, .slice none 0 0] := (R_62).past h63_; have N_63 : Blk w63_ (w.heap.size + 1) 41 #[.int .i64 0, .int .i64 0, .int .i64 0, .slice none 0 0] := (N_62).past h63_; have T_63 : Blk w63_ (v61_.heap.size) 41 #[.int .i64 x, .int .i64 y, .int .i64 z, .slice (some ⟨g3, 3, none⟩) 0 (c3 - 3)] := (T_62).past h63_; have rI_63 : IntsAt g3 3 w63_ qs := (rI_62).past h63_; have S_63 := pt (S_62) h63_; clear R_62 N_62 T_62 rI_62 S_62; clear h63_)
            | ((with_reducible refine load_sub (T := 41) (x := .tmp 11) (o := 0) (vs := #[.int .i64 x, .int .i64 y, .int .i64 z, .slice (some ⟨g3, 3, none⟩) 0 (c3 - 3)]) (show Blk _ (v61_.heap.size) 41 #[.int .i64 x, .int .i64 y, .int .i64 z, .slice (some ⟨g3, 3, none⟩) 0 (c3 - 3)] from (T_63)) ?_ ?_ Tryz.underlying41 ?_ ?_ ?_); (focus rfl); (focus rfl); (focus rfl); (focus exact task_size4))
            | ((with_reducible refine store_sub (T := 41) (x := .tmp 2) (y := .tmp 77) (o := 0) (cs' := #[.int .i64 x, .int .i64 y, .int .i64 z, .slice (some ⟨g3, 3, none⟩) 0 (c3 - 3)]) (vs := #[.int .i64 x, .int .i64 y, .int .i64 z, .slice (some ⟨g3, 3, none⟩) 0 (c3 - 3)]) (show Blk _ (w.heap.size) 41 #[.int .i64 0, .int .i64 0, .int .i64 0, .slice none 0 0] from (R_63)) ?_ ?_ ?_ ?_ ?_ ?_ ?_); (focus rfl); (focus rfl); (focus rfl); (focus exact Nat.le_of_ble_eq_true rfl); (focus exact task_size4); (focus (simp [Value.oneCell']; done)); intro w64_ b64_ h64_; have R_64 : Blk w64_ (w.heap.size) 41 #[.int .i64 x, .int .i64 y, .int .i64 z, .slice (some ⟨g3, 3, none⟩) 0 (c3 - 3)] := b64_; have N_64 : Blk w64_ (w.heap.size + 1) 41 #[.int .i64 0, .int .i64 0, .int .i64 0, .slice none 0 0] := (N_63).put h64_ (Ne.symm ne_R_N); have T_64 : Blk w64_ (v61_.heap.size) 41 #[.int .i64 x, .int .i64 y, .int .i64 z, .slice (some ⟨g3, 3, none⟩) 0 (c3 - 3)] := (T_63).put h64_ (Ne.symm ne_R_T); have rI_64 : IntsAt g3 3 w64_ qs := (rI_63).put h64_ (by omega); have S_64 := pp (S_63) h64_ ge_R; clear R_63 N_63 T_63 rI_63 S_63; clear h64_ b64_))
          have z0 := R_64.cellAt 0 rfl
          have z1 := R_64.cellAt 1 rfl
          have z2 := R_64.cellAt 2 rfl
          have z3 := R_64.cellAt 3 rfl
          exact bodyPost_ret (v := .tuple #[.agg #[.int .i64 x, .int .i64 y, .int .i64 z, .slice (some ⟨g3, 3, none⟩) 0 (c3 - 3)], .int .i64 0]) (by simp [results, Tryz.results38, go_sem, z0, z1, z2, z3]) rfl (taskPost_ok HQ0.out (Nat.le_sub_of_add_le (by omega)) (rI_64.ints) S_64)
        · have hG0 := HG.out
          clear HG
          rw [if_neg hE] at hG0
          subst hG0
          have hne : (E != 0) = true := by simpa using hE
          go_wp2_with (first
            | ((with_reducible refine store_sub (T := 41) (x := .tmp 11) (y := .tmp 70) (o := 0) (cs' := #[.int .i64 x, .int .i64 y, .int .i64 z, .slice (some ⟨g3, 3, none⟩) 0 (c3 - 3)]) (vs := #[.int .i64 x, .int .i64 y, .int .i64 z, .slice (some ⟨g3, 3, none⟩) 0 (c3 - 3)]) (show Blk _ (v61_.heap.size) 41 #[.int .i64 0, .int .i64 0, .int .i64 0, .slice none 0 0] from (T_61)) ?_ ?_ ?_ ?_ ?_ ?_ ?_); (focus rfl); (focus rfl); (focus rfl); (focus exact Nat.le_of_ble_eq_true rfl); (focus exact task_size4); (focus (simp [Value.oneCell']; done)); intro w62_ b62_ h62_; have R_62 : Blk w62_ (w.heap.size) 41 #[.int .i64 0, .int .i64 0, .int .i64 0, .slice none 0 0] := (R_61).put h62_ ne_R_T; have N_62 : Blk w62_ (w.heap.size + 1) 41 #[.int .i64 0, .int .i64 0, .int .i64 0, .slice none 0 0] := (N_61).put h62_ ne_N_T; have T_62 : Blk w62_ (v61_.heap.size) 41 #[.int .i64 x, .int .i64 y, .int .i64 z, .slice (some ⟨g3, 3, none⟩) 0 (c3 - 3)] := b62_; have rI_62 : IntsAt g3 3 w62_ qs := (rI_61).put h62_ (by omega); have S_62 := pp (S_61) h62_ ge_T; clear R_61 N_61 T_61 rI_61 S_61; clear h62_ b62_)
            | ((with_reducible refine load_sub (T := 41) (x := .tmp 11) (o := 0) (vs := #[.int .i64 x, .int .i64 y, .int .i64 z, .slice (some ⟨g3, 3, none⟩) 0 (c3 - 3)]) (show Blk _ (v61_.heap.size) 41 #[.int .i64 x, .int .i64 y, .int .i64 z, .slice (some ⟨g3, 3, none⟩) 0 (c3 - 3)] from (T_62)) ?_ ?_ Tryz.underlying41 ?_ ?_ ?_); (focus rfl); (focus rfl); (focus rfl); (focus exact task_size4))
            | (go_at_call 41; (with_reducible refine (HTe.out _ _ _ _ HQ0.out ((rI_62).ints)).mono ?_); rintro e w63_ ⟨rfl, h63_⟩; have R_63 : Blk w63_ (w.heap.size) 41 #[.int .i64 0, .int .i64 0, .int .i64 0, .slice none 0 0] := (R_62).past h63_; have N_63 : Blk w63_ (w.heap.size + 1) 41 #[.int .i64 0, .int .i64 0, .int .i64 0, .slice none 0 0] := (N_62).past h63_; have T_63 : Blk w63_ (v61_.heap.size) 41 #[.int .i64 x, .int .i64 y, .int .i64 z, .slice (some ⟨g3, 3, none⟩) 0 (c3 - 3)] := (T_62).past h63_; have rI_63 : IntsAt g3 3 w63_ qs := (rI_62).past h63_; have S_63 := pt (S_62) h63_; clear R_62 N_62 T_62 rI_62 S_62; clear h63_)
            | ((with_reducible refine load_sub (T := 41) (x := .tmp 4) (o := 0) (vs := #[.int .i64 0, .int .i64 0, .int .i64 0, .slice none 0 0]) (show Blk _ (w.heap.size + 1) 41 #[.int .i64 0, .int .i64 0, .int .i64 0, .slice none 0 0] from (N_63)) ?_ ?_ Tryz.underlying41 ?_ ?_ ?_); (focus rfl); (focus rfl); (focus rfl); (focus exact task_size4))
            | ((with_reducible refine store_sub (T := 41) (x := .tmp 2) (y := .tmp 75) (o := 0) (cs' := #[.int .i64 0, .int .i64 0, .int .i64 0, .slice none 0 0]) (vs := #[.int .i64 0, .int .i64 0, .int .i64 0, .slice none 0 0]) (show Blk _ (w.heap.size) 41 #[.int .i64 0, .int .i64 0, .int .i64 0, .slice none 0 0] from (R_63)) ?_ ?_ ?_ ?_ ?_ ?_ ?_); (focus rfl); (focus rfl); (focus rfl); (focus exact Nat.le_of_ble_eq_true rfl); (focus exact task_size4); (focus (simp [Value.oneCell']; done)); intro w64_ b64_ h64_; have R_64 : Blk w64_ (w.heap.size) 41 #[.int .i64 0, .int .i64 0, .int .i64 0, .slice none 0 0] := b64_; have N_64 : Blk w64_ (w.heap.size + 1) 41 #[.int .i64 0, .int .i64 0, .int .i64 0, .slice none 0 0] := (N_63).put h64_ (Ne.symm ne_R_N); have T_64 : Blk w64_ (v61_.heap.size) 41 #[.int .i64 x, .int .i64 y, .int .i64 z, .slice (some ⟨g3, 3, none⟩) 0 (c3 - 3)] := (T_63).put h64_ (Ne.symm ne_R_T); have rI_64 : IntsAt g3 3 w64_ qs := (rI_63).put h64_ (by omega); have S_64 := pp (S_63) h64_ ge_R; clear R_63 N_63 T_63 rI_63 S_63; clear h64_ b64_))
          have z0 := R_64.cellAt 0 rfl
          have z1 := R_64.cellAt 1 rfl
          have z2 := R_64.cellAt 2 rfl
          have z3 := R_64.cellAt 3 rfl
          exact bodyPost_ret (v := .tuple #[.agg #[.int .i64 0, .int .i64 0, .int .i64 0, .slice none 0 0], .int .i64 E]) (by simp [results, Tryz.results38, go_sem, z0, z1, z2, z3]) rfl (taskPost_bad S_64)

set_option maxHeartbeats 8000000 in
set_option maxRecDepth 100000 in
theorem refParT_b (l a b c d : List UInt8) (hl : l.length ≤ 500) (hm : ∀ x ∈ [a, b, c, d], x.length ≤ 500) (hs : splitL 32 l = [a, b, c, d]) (hd1 : ¬ d = [45]) (w : World) :
    Calls Tryz.prog 38 #[.string ⟨l.toArray⟩] w (TaskPost w (taskOut (wordsT (a :: b :: c :: partsL d)))) := by
  have hCut := fun w' => refCut_own l (by omega) 32 (by decide) w'
  have hs' : splitL (UInt8.ofNat 32) l = [a, b, c, d] := hs
  rw [hs'] at hCut
  have HCut := Lib.hid (show ∀ w', Calls Tryz.prog 79 #[.string ⟨l.toArray⟩, .int .u8 32] w' fun e w'' => ∃ A cap, e = .returned (.slice A 4 cap) ∧ 4 ≤ cap ∧ w''.ownsRow w'.heap.size 9 1 (.slice A 4 cap) 4 [strV a, strV b, strV c, strV d] ∧ Below w'.heap.size w' w'' from hCut)
  obtain ⟨i0, hi0, hz0, hz1, hz2⟩ := info_parts int_info
  clear hCut hs hs'
  have hs1 : (d == [45]) = false := by simpa using hd1
  have e : partsL d = splitL 44 d := by unfold partsL; rw [if_neg hd1]
  rw [e]
  have hdl : d.length ≤ 500 := hm d (by simp)
  have HCut2 := Lib.hid (show ∀ w', Calls Tryz.prog 79 #[.string ⟨d.toArray⟩, .int .u8 44] w' fun e w'' => ∃ A cap, e = .returned (.slice A (splitL 44 d).length cap) ∧ (splitL 44 d).length ≤ cap ∧ w''.ownsRow w'.heap.size 9 1 (.slice A (splitL 44 d).length cap) (splitL 44 d).length ((splitL 44 d).map strV) ∧ Below w'.heap.size w' w'' from fun w' => refCut_own d (by omega) 44 (by decide) w')
  have hnl : (splitL 44 d).length ≤ 501 := Nat.le_trans (splitL_len d) (by omega)
  have hml : ∀ k, ((a :: b :: c :: splitL 44 d : List (List UInt8)).getD k []).length ≤ 500 := fun k => by
    match k with
    | 0 => exact hm a (by simp)
    | 1 => exact hm b (by simp)
    | 2 => exact hm c (by simp)
    | k + 3 =>
      show ((splitL 44 d).getD k []).length ≤ 500
      by_cases h : k < (splitL 44 d).length
      · rw [List.getD_eq_getElem?_getD, List.getElem?_eq_getElem h]
        exact Nat.le_trans (splitM (List.getElem_mem h)) hdl
      · rw [List.getD_eq_getElem?_getD, List.getElem?_eq_none (by omega)]
        simp
  obtain ⟨i1, hi1, hy0, hy1, hy2⟩ : ∃ i0, Tryz.prog.info? 9 = some i0 ∧ i0.zero = some (.string ByteArray.empty) ∧ i0.size = 1 ∧ i0.bytes = 16 := by
    have h := string_info
    cases hi : Tryz.prog.info? 9 with
    | none => rw [hi] at h; cases h
    | some i => rw [hi] at h; simp only [Option.map_some, Option.some.injEq, Prod.mk.injEq] at h; exact ⟨i, rfl, h.1, h.2.1, h.2.2⟩
  have HML := Lib.hid hml
  have HBad := Lib.hid (fun (h : numsQ 7 (a :: b :: c :: splitL 44 d) = none) => taskOut_none h)
  have HGood := Lib.hid (fun (x y z : Int) (q : List Int) (h : numsQ 7 (a :: b :: c :: splitL 44 d) = some (x :: y :: z :: q)) => taskOut_some h)
  generalize taskOut (wordsT (a :: b :: c :: splitL 44 d)) = R at *
  clear hml hm hl e hd1 hdl
  go_enter Tryz.func38, Tryz.ntmps38
  go_upto_region 8 with (first
    | ((with_reducible refine store_sub (T := 41) (x := .tmp 4) (y := .tmp 13) (o := 0) (cs' := #[.int .i64 0, .int .i64 0, .int .i64 0, .slice none 0 0]) (vs := #[.int .i64 0, .int .i64 0, .int .i64 0, .slice none 0 0]) (show Blk _ (w.heap.size + 1) 41 #[.int .i64 0, .int .i64 0, .int .i64 0, .slice none 0 0] from (Blk.newAt (by simp))) ?_ ?_ ?_ ?_ ?_ ?_ ?_); (focus rfl); (focus rfl); (focus rfl); (focus exact Nat.le_of_ble_eq_true rfl); (focus exact task_size4); (focus (simp [Value.oneCell']; done)); intro w1_ b1_ h1_; have R_1 : Blk w1_ (w.heap.size) 41 #[.int .i64 0, .int .i64 0, .int .i64 0, .slice none 0 0] := (Blk.newAt (by simp)).alloc.put h1_ (by omega); have N_1 : Blk w1_ (w.heap.size + 1) 41 #[.int .i64 0, .int .i64 0, .int .i64 0, .slice none 0 0] := b1_; have ne_N_R : w.heap.size + 1 ≠ w.heap.size := (by omega); have ge_R : w.heap.size ≤ w.heap.size := (by omega); have ge_N : w.heap.size ≤ w.heap.size + 1 := (by omega); have S_1 := pp (pa (pa (pr))) h1_ (by omega); clear h1_ b1_)
    | (go_at_call 79; (with_reducible refine (HCut.out _).mono ?_); rintro e w2_ ⟨A1, c1, rfl, hc1, hown1, h2_⟩; have R_2 : Blk w2_ (w.heap.size) 41 #[.int .i64 0, .int .i64 0, .int .i64 0, .slice none 0 0] := (R_1).past h2_; have N_2 : Blk w2_ (w.heap.size + 1) 41 #[.int .i64 0, .int .i64 0, .int .i64 0, .slice none 0 0] := (N_1).past h2_; have S_2 := pt (S_1) h2_; clear R_1 N_1 S_1; clear h2_; obtain ⟨g1, rfl, hg1, hg2, hcl1⟩ := own_some hown1 (by decide); have d3 : w2_.cell? ⟨g1, 3, none⟩ = some (.string ⟨d.toArray⟩) := hcl1 3 (by decide)))
  have HS := Lib.hid (show ∀ W, Hid (Below w2_.heap.size w2_ W) → Hid (Below w2_.heap.size w2_ W) ∧ W.cell? ⟨g1, 3, none⟩ = some (.string ⟨d.toArray⟩) from fun W hW => ⟨hW, ((bcell hW.out).1 g1 _ hg2).trans d3⟩)
  have HSrc := Lib.hid (show ∀ W, Below w2_.heap.size w2_ W → CellsIn w2_.heap.size W (some ⟨g1, 0, none⟩) [strV a, strV b, strV c] from fun W hW => .inr ⟨g1, 0, rfl, hg2, fun j hj => by
    rw [Nat.zero_add, (bcell hW).1 g1 _ hg2]
    match j, hj with
    | 0, _ => exact hcl1 0 (by decide)
    | 1, _ => exact hcl1 1 (by decide)
    | 2, _ => exact hcl1 2 (by decide)⟩)
  have HP := Lib.hid (show (splitL 44 d).length = (splitL 44 d).length from rfl)
  have hP1 : 0 < (splitL 44 d).length := List.length_pos_iff.2 (splitL_ne d)
  generalize splitL 44 d = P at *
  clear hown1 hcl1 d3 HCut
  have HLit := Lib.hid (show (w2_.alloc (.cells #[] 9)).ownsRow w2_.heap.size 9 1 (.slice (some ⟨w2_.heap.size, 0, none⟩) 0 0) 0 [] from World.ownsRow_lit w2_ #[] 0 (Nat.le_refl _) (Nat.zero_le _) rfl)
  have HSrc1 := Lib.hid (show CellsIn w2_.heap.size (w2_.alloc (.cells #[] 9)) (some ⟨g1, 0, none⟩) [strV a, strV b, strV c] from HSrc.out _ (pa pr))
  have HOne := Lib.hid (show ∀ u ∈ ([strV a, strV b, strV c] : List Value), u.oneCell' = true by simp [Value.oneCell'])
  have HOne2 := Lib.hid (show ∀ u ∈ P.map strV, u.oneCell' = true by simp [Value.oneCell'])
  have HLen1 := Lib.hid (show ([strV a, strV b, strV c] : List Value).length = 3 * 1 from rfl)
  have HLen2 := Lib.hid (show (P.map strV).length = P.length * 1 by simp)
  have HSz1 := Lib.hid (show w2_.heap.size ≤ (w2_.alloc (.cells #[] 9)).heap.size by simp)
  go_cut [7] (fun wv wx => ∃ g7 c7, wv = .slice (some ⟨g7, 0, none⟩) (P.length + 3) c7 ∧ P.length + 3 ≤ c7 ∧ g7 < wx.heap.size ∧ (∀ k, k < P.length + 3 → wx.cell? ⟨g7, k, none⟩ = some (strV ((a :: b :: c :: P : List (List UInt8)).getD k []))) ∧ Below w2_.heap.size w2_ wx)
  case first =>
    go_region_held3 (fun w' => Hid (Below w2_.heap.size w2_ w') ∧ w'.cell? ⟨g1, 3, none⟩ = some (.string ⟨d.toArray⟩)) ((refine HS.out _ (Lib.hid ?_); repeat (first | assumption | (with_reducible exact pr) | (with_reducible refine pd ?_) | (with_reducible refine pa ?_) | (with_reducible refine pt ?_ (by assumption)))))
      (first | (go_at_call 79; (with_reducible refine (HCut2.out _).mono ?_); rintro e wc ⟨Ac, cc, rfl, hcc, hoc, hbc⟩; have HRow2 := Lib.hid (own_past hoa hbc); have HSrc2 := Lib.hid (cellsIn_of_own hoc); have hba2 : Below w2_.heap.size w2_ wc := pt hba hbc; have HSz2 := Lib.hid (show w2_.heap.size ≤ wc.heap.size from hba2.size); clear hoc hoa) | (refine step_append_cells _ (by rfl) (.tmp 26) (.tmp 27) _ (by rfl) w2_.heap.size 9 i1 _ 1 16 Tryz.underlying56 hi1 hy0 hy1 hy2 rfl (by omega) _ 0 _ (by rfl) HLit.out w2_.heap.size (some ⟨g1, 0, none⟩) 3 c1 _ (by rfl) HSrc1.out HLen1.out HOne.out (by simp only [maxLen]; omega) (by omega) HSz1.out ?_; intro v1 wa hoa hga hata; obtain ⟨Aa, ca, rfl, hca, hma⟩ := own_form hoa; have hba : Below w2_.heap.size w2_ wa := (by first | exact pg (pd (pa pr)) HLit.out (Nat.le_refl _) hga | exact pg (pd (pd (pa pr))) HLit.out (Nat.le_refl _) hga | exact pg (pa pr) HLit.out (Nat.le_refl _) hga)) | (refine step_append_cells _ (by rfl) (.tmp 28) (.tmp 32) _ (by rfl) w2_.heap.size 9 i1 _ 1 16 Tryz.underlying56 hi1 hy0 hy1 hy2 rfl (by omega) _ (0 + 3) _ (by rfl) HRow2.out wc.heap.size Ac P.length cc _ (by rfl) HSrc2.out HLen2.out HOne2.out (by simp only [maxLen]; omega) (by omega) HSz2.out ?_; intro v2 wb hob hgb hatb; obtain ⟨Ab, cb, rfl, hcb, hmb⟩ := own_form hob; have hbb : Below w2_.heap.size w2_ wb := (by first | exact pg hba2 HRow2.out (Nat.le_refl _) hgb | exact pg (pd hba2) HRow2.out (Nat.le_refl _) hgb)))
    all_goals
      obtain ⟨g7, rfl, hg7, hg7l, hc7⟩ := own_some hob (by omega)
      have hlen : 0 + 3 + P.length = P.length + 3 := by omega
      rw [hlen] at hcb
      rw [hlen]
      have HR7 := Lib.hid (show ∀ k, k < P.length + 3 → wb.cell? ⟨g7, k, none⟩ = some (strV ((a :: b :: c :: P : List (List UInt8)).getD k [])) from fun k hk => by
        rw [hc7 k (by omega)]
        show ((a :: b :: c :: P).map strV)[k]? = _
        have hk2 : k < (a :: b :: c :: P).length := by simpa using hk
        rw [List.getElem?_map, List.getElem?_eq_getElem hk2, List.getD_eq_getElem?_getD, List.getElem?_eq_getElem hk2]
        rfl)
      clear hlen hc7
      go_wp2
      go_meet
      case rel => exact ⟨g7, cb, rfl, hcb, hg7l, HR7.out, hbb⟩
  case rest =>
    obtain ⟨g7, c7, rfl, hc7, hg7, hcell7, hb7⟩ := hcut
    have R_7 := R_2.past hb7
    have N_7 := N_2.past hb7
    have S_7 := pt (S_2) hb7
    clear hb7 hg2 HSrc HS HCut2
    have hg2 := hg7
    have HCell := Lib.hid hcell7
    have hWl : (a :: b :: c :: P : List (List UInt8)).length = P.length + 3 := rfl
    have hnb : P.length + 3 ≤ 504 := by omega
    have hn3 : 3 ≤ P.length + 3 := by omega
    clear hcell7 hP1 HP hnl
    generalize (a :: b :: c :: P : List (List UInt8)) = W at *
    generalize P.length + 3 = n at *
    go_wp2
    have HS0 := Lib.hid (S_7)
    have hsz0 : w.heap.size ≤ wc.heap.size := (S_7).size
    have hgN : w.heap.size + 1 < wc.heap.size := N_7.lt
    go_loopw [6, 8] (fun nv iv wr => ∃ (k : Nat) (A3 : Option Addr) (c3 : Nat) (ys : List Int), nv = .slice A3 k c3 ∧ iv = .int .i64 (k : Int) ∧ k ≤ n ∧ numsQ 7 (W.take k) = some ys ∧ ys.length = k ∧ Blk wr w.heap.size 41 #[.int .i64 0, .int .i64 0, .int .i64 0, .slice none 0 0] ∧ Blk wr (w.heap.size + 1) 41 #[.int .i64 0, .int .i64 0, .int .i64 0, .slice none 0 0] ∧ wr.ownsRow wc.heap.size 3 1 (.slice A3 k c3) k (ys.map (Value.int .i64)) ∧ Below wc.heap.size wc wr) (fun _ iv _ => n - (intOf iv).toNat)
    case atStart => exact ⟨0, none, 0, [], rfl, rfl, Nat.zero_le _, rfl, rfl, R_7, N_7, World.ownsRow_nil _ _ _ _, pr⟩
    case round =>
      obtain ⟨k, A3, c3, ys, rfl, rfl, hkn, hys, hyl, kR, kN, hown, hq⟩ := hrel
      have HYs := Lib.hid hys
      have HYl := Lib.hid hyl
      have HQ := Lib.hid hq
      have HQ2 := Lib.hid (show Below w.heap.size w wr from pt HS0.out hq)
      have n0 : (0 : Int) ≤ (k : Int) := by omega
      clear hys hyl hq
      by_cases hlt : k < n
      · have n1 : (k : Int) < n := by omega
        have hlx : k < W.length := by omega
        have hcell : wr.cell? ⟨g7, k, none⟩ = some (strV (W.getD k [])) := ((bcell HQ.out).1 g7 k hg2).trans (HCell.out k (by omega))
        obtain ⟨x, hx⟩ : ∃ x, W.getD k [] = x := ⟨_, rfl⟩
        have hxl : x.length ≤ 500 := hx ▸ HML.out k
        rw [hx] at hcell
        have hNum := fun w' => refNumber_any x (by omega) 7 (by decide) w'
        have HX := Lib.hid hx
        clear hx
        cases hv : numberV x 7 with
        | none =>
          rw [hv] at hNum
          have HV := Lib.hid (show numQ 7 x = none by unfold numQ; rw [hv]; rfl)
          clear hv
          have HNum := Lib.hid (show ∀ w', Calls Tryz.prog 80 #[.string ⟨x.toArray⟩, .int .i64 7] w' fun e w'' => e = .returned (.tuple #[.int .i64 0, .bool false]) ∧ w' = w'' from hNum)
          clear hNum
          have ne_R_N : w.heap.size ≠ w.heap.size + 1 := (by omega)
          have ge_R : w.heap.size ≤ w.heap.size := Nat.le_refl _
          go_wp2_with (first
            | (go_at_call 80; (with_reducible refine (HNum.out _).mono ?_); rintro e w' ⟨rfl, rfl⟩)
            | ((with_reducible refine load_sub (T := 41) (x := .tmp 4) (o := 0) (vs := #[.int .i64 0, .int .i64 0, .int .i64 0, .slice none 0 0]) (show Blk _ (w.heap.size + 1) 41 #[.int .i64 0, .int .i64 0, .int .i64 0, .slice none 0 0] from (kN)) ?_ ?_ Tryz.underlying41 ?_ ?_ ?_); (focus rfl); (focus rfl); (focus rfl); (focus exact task_size4))
            | ((with_reducible refine store_sub (T := 41) (x := .tmp 2) (y := .tmp 54) (o := 0) (cs' := #[.int .i64 0, .int .i64 0, .int .i64 0, .slice none 0 0]) (vs := #[.int .i64 0, .int .i64 0, .int .i64 0, .slice none 0 0]) (show Blk _ (w.heap.size) 41 #[.int .i64 0, .int .i64 0, .int .i64 0, .slice none 0 0] from (kR)) ?_ ?_ ?_ ?_ ?_ ?_ ?_); (focus rfl); (focus rfl); (focus rfl); (focus exact Nat.le_of_ble_eq_true rfl); (focus exact task_size4); (focus (simp [Value.oneCell']; done)); intro w52_ b52_ h52_; have R_52 : Blk w52_ (w.heap.size) 41 #[.int .i64 0, .int .i64 0, .int .i64 0, .slice none 0 0] := b52_; have N_52 : Blk w52_ (w.heap.size + 1) 41 #[.int .i64 0, .int .i64 0, .int .i64 0, .slice none 0 0] := (kN).put h52_ (Ne.symm ne_R_N); have S_52 := pp (HQ2.out) h52_ ge_R; clear kR kN; clear h52_ b52_))
          have hR := HBad.out (numsQ_none hlx HX.out HV.out)
          subst hR
          have z0 := R_52.cellAt 0 rfl
          have z1 := R_52.cellAt 1 rfl
          have z2 := R_52.cellAt 2 rfl
          have z3 := R_52.cellAt 3 rfl
          exact bodyPost_ret (v := .tuple #[.agg #[.int .i64 0, .int .i64 0, .int .i64 0, .slice none 0 0], .int .i64 7]) (by simp [results, Tryz.results38, go_sem, z0, z1, z2, z3]) rfl (taskPost_bad S_52)
        | some v =>
          rw [hv] at hNum
          by_cases hv0 : 0 ≤ v
          · have HV := Lib.hid (show numQ 7 x = some v by unfold numQ; rw [hv]; exact if_pos hv0)
            have HNum := Lib.hid (show ∀ w', Calls Tryz.prog 80 #[.string ⟨x.toArray⟩, .int .i64 7] w' fun e w'' => e = .returned (.tuple #[.int .i64 v, .bool true]) ∧ w' = w'' from hNum)
            have b0 : decide (v < 0) = false := by simp; omega
            have b1 : ¬ v < 0 := by omega
            clear hv hNum
            have HO1 := Lib.hid (hown.alloc (.cells #[.int .i64 v] 3))
            have HC := Lib.hid (cellsIn_one wr 3 (.int .i64 v))
            have hs1 := HQ.out.size
            have kR1 := Lib.hid kR
            have kN1 := Lib.hid kN
            clear hown kR kN
            have e1 : IntKind.i64.wrap ((k : Int) + 1) = (k : Int) + 1 := IntWalk.i64_in _ (by omega)
            go_wp2_with (first
              | (go_at_call 80; (with_reducible refine (HNum.out _).mono ?_); rintro e w' ⟨rfl, rfl⟩)
              | (at_builtin; go_must (refine wpList_append_cells _ rfl (.tmp 55) (.tmp 57) _ rfl wc.heap.size 3 i0 _ 1 8 Tryz.underlying32 hi0 hz0 hz1 hz2 rfl (by omega) _ k _ rfl HO1.out (wr.heap.size + 1) (some ⟨wr.heap.size, 0, none⟩) 1 1 _ rfl HC.out rfl (by simp [Value.oneCell']) (by simp only [maxLen]; omega) (by omega) (by simp; omega) ?_); intro v4 w4 hown4 hg4 hat4; obtain ⟨A4, c4, rfl, hc4, hm4⟩ := own_form hown4))
            go_roundw
            case rel =>
              refine ⟨k + 1, A4, c4, ys ++ [v], rfl, by go_num, by omega, numsQ_next HYs.out hlx HX.out HV.out, by simp [HYl.out], (kR1.out.alloc).grown hg4 (own_lt HO1.out (by omega)), (kN1.out.alloc).grown hg4 (own_lt HO1.out (by omega)), ?_, pg (pa HQ.out) HO1.out (Nat.le_refl _) hg4⟩
              rw [List.map_append]
              exact hown4
            case measure => simp [intOf]; omega
          · have HV := Lib.hid (show numQ 7 x = none by unfold numQ; rw [hv]; exact if_neg hv0)
            have b0 : decide (v < 0) = true := by simp; omega
            have b1 : v < 0 := by omega
            clear hv
            have HNum := Lib.hid (show ∀ w', Calls Tryz.prog 80 #[.string ⟨x.toArray⟩, .int .i64 7] w' fun e w'' => e = .returned (.tuple #[.int .i64 v, .bool true]) ∧ w' = w'' from hNum)
            clear hNum
            have ne_R_N : w.heap.size ≠ w.heap.size + 1 := (by omega)
            have ge_R : w.heap.size ≤ w.heap.size := Nat.le_refl _
            go_wp2_with (first
              | (go_at_call 80; (with_reducible refine (HNum.out _).mono ?_); rintro e w' ⟨rfl, rfl⟩)
              | ((with_reducible refine load_sub (T := 41) (x := .tmp 4) (o := 0) (vs := #[.int .i64 0, .int .i64 0, .int .i64 0, .slice none 0 0]) (show Blk _ (w.heap.size + 1) 41 #[.int .i64 0, .int .i64 0, .int .i64 0, .slice none 0 0] from (kN)) ?_ ?_ Tryz.underlying41 ?_ ?_ ?_); (focus rfl); (focus rfl); (focus rfl); (focus exact task_size4))
              | ((with_reducible refine store_sub (T := 41) (x := .tmp 2) (y := .tmp 54) (o := 0) (cs' := #[.int .i64 0, .int .i64 0, .int .i64 0, .slice none 0 0]) (vs := #[.int .i64 0, .int .i64 0, .int .i64 0, .slice none 0 0]) (show Blk _ (w.heap.size) 41 #[.int .i64 0, .int .i64 0, .int .i64 0, .slice none 0 0] from (kR)) ?_ ?_ ?_ ?_ ?_ ?_ ?_); (focus rfl); (focus rfl); (focus rfl); (focus exact Nat.le_of_ble_eq_true rfl); (focus exact task_size4); (focus (simp [Value.oneCell']; done)); intro w52_ b52_ h52_; have R_52 : Blk w52_ (w.heap.size) 41 #[.int .i64 0, .int .i64 0, .int .i64 0, .slice none 0 0] := b52_; have N_52 : Blk w52_ (w.heap.size + 1) 41 #[.int .i64 0, .int .i64 0, .int .i64 0, .slice none 0 0] := (kN).put h52_ (Ne.symm ne_R_N); have S_52 := pp (HQ2.out) h52_ ge_R; clear kR kN; clear h52_ b52_))
            have hR := HBad.out (numsQ_none hlx HX.out HV.out)
            subst hR
            have z0 := R_52.cellAt 0 rfl
            have z1 := R_52.cellAt 1 rfl
            have z2 := R_52.cellAt 2 rfl
            have z3 := R_52.cellAt 3 rfl
            exact bodyPost_ret (v := .tuple #[.agg #[.int .i64 0, .int .i64 0, .int .i64 0, .slice none 0 0], .int .i64 7]) (by simp [results, Tryz.results38, go_sem, z0, z1, z2, z3]) rfl (taskPost_bad S_52)
      · obtain rfl : k = n := by omega
        clear hlt hkn
        have HAll := Lib.hid (show numsQ 7 W = some ys by rw [← HYs.out, List.take_of_length_le (by omega)])
        obtain ⟨x, y, z, qs, rfl, hqn⟩ := nums_three HYl.out (by omega)
        obtain ⟨A5, c5, e5, hc5, _⟩ := own_form hown
        injection e5 with e5a e5n e5b
        subst e5a e5b
        obtain ⟨g3, rfl, hg3, hg4, hcl3⟩ := own_some hown (by omega)
        have c0 : wr.cell? ⟨g3, 0, none⟩ = some (.int .i64 x) := hcl3 0 (by omega)
        have c1_ : wr.cell? ⟨g3, 1, none⟩ = some (.int .i64 y) := hcl3 1 (by omega)
        have c2_ : wr.cell? ⟨g3, 2, none⟩ = some (.int .i64 z) := hcl3 2 (by omega)
        have hqs : qs.length ≤ 1000 := by omega
        have HAb := Lib.hid (show IntsAt g3 3 wr qs from by
          refine .inr ⟨hg4, fun j hj => ?_⟩
          rw [hcl3 (3 + j) (by omega)]
          simp [Nat.add_comm 3 j, List.getD, hj])
        have HTe := Lib.hid (fun (A6 : Option Addr) (n6 c6 : Nat) w' (h6 : qs.length = n6) (hi : IntsIn w'.heap.size w' A6 qs) => refTaskErr_any w'.heap.size ⟨x, y, z, qs⟩ A6 n6 c6 w' h6 hi (Nat.le_refl _) (by omega))
        have HG := Lib.hid (HGood.out x y z qs HAll.out)
        clear HGood HBad HAll HYs HYl hown hcl3 HML HCell
        generalize taskE ⟨x, y, z, qs⟩ = E at *
        by_cases hc3 : c3 = 3
        · have ne_R_N : w.heap.size ≠ w.heap.size + 1 := (by omega)
          have ge_R : w.heap.size ≤ w.heap.size := Nat.le_refl _
          have hq0 : qs = [] := List.eq_nil_of_length_eq_zero (by omega)
          have hk3 : k = 3 := by omega
          subst hk3
          subst hq0
          subst hc3
          clear hqn
          have rI_0 : IntsAt g3 0 wr [] := .inl rfl
          go_wp2
          refine region_alloc (zc := (.cells #[.int .i64 0, .int .i64 0, .int .i64 0, .slice none 0 0] 41)) 12 follows_mixed (by kernel_rfl) rfl (fun _ _ => by kernel_rfl) ?_
          simp only [List.take_succ_cons, List.take_zero, List.drop_succ_cons, List.drop_zero]
          repeat (first
            | ((with_reducible apply grow_plain); (focus rfl); (focus (intro w' hw; obtain ⟨hcq, hfq⟩ := bcell hw; go_simp; (first | done | rfl))); (simp only [Act.put, List.setIfInBounds_toArray, List.set_cons_succ, List.set_cons_zero]))
            | ((with_reducible apply grow_skip); (focus (first | (simp [Region.wanted, yielded]; done) | (simp [Region.wanted, yielded, undef]; done))); simp only [Act.put, List.setIfInBounds_toArray, List.set_cons_succ, List.set_cons_zero])
            | ((with_reducible apply grow_go); (focus (first | (simp [Region.wanted, yielded]; done) | (simp [Region.wanted, yielded, undef]; done))); (focus (intro w' hw; obtain ⟨hcq, hfq⟩ := bcell hw; go_simp; (first | done | rfl))); (simp only [Act.put, List.setIfInBounds_toArray, List.set_cons_succ, List.set_cons_zero])))
          refine grow_nil ?_
          intro v1 w1 hv1 hb1
          simp only [Act.put, List.setIfInBounds_toArray, List.set_cons_succ, List.set_cons_zero]
          have ne_R_T : w.heap.size ≠ v1.heap.size := by have := (kR.past hv1).lt; omega
          have R_61 : Blk w1 (w.heap.size) 41 #[.int .i64 0, .int .i64 0, .int .i64 0, .slice none 0 0] := ((kR.past hv1).alloc).past hb1
          have ne_N_T : w.heap.size + 1 ≠ v1.heap.size := by have := (kN.past hv1).lt; omega
          have N_61 : Blk w1 (w.heap.size + 1) 41 #[.int .i64 0, .int .i64 0, .int .i64 0, .slice none 0 0] := ((kN.past hv1).alloc).past hb1
          have rI_61 : IntsAt g3 0 w1 [] := ((rI_0.past hv1).alloc).past hb1
          have T_61 : Blk w1 v1.heap.size 41 #[.int .i64 0, .int .i64 0, .int .i64 0, .slice none 0 0] := (Blk.new _ _ _).past hb1
          have ge_T : w.heap.size ≤ v1.heap.size := (pt (HQ2.out) hv1).size
          have S_61 := pt (pa (pt (HQ2.out) hv1)) hb1
          clear kR kN rI_0
          have hgT : g3 < v1.heap.size := Nat.lt_of_lt_of_le hg4 hv1.size
          clear hb1 hv1
          obtain ⟨v61_, rfl⟩ : ∃ v, v = v1 := ⟨_, rfl⟩
          obtain ⟨w61_, rfl⟩ : ∃ v, v = w1 := ⟨_, rfl⟩
          by_cases hE : E = 0
          · have hG0 := HG.out
            clear HG
            rw [if_pos hE] at hG0
            subst hG0
            subst hE
            go_wp2_with (first
              | ((with_reducible refine store_sub (T := 41) (x := .tmp 11) (y := .tmp 70) (o := 0) (cs' := #[.int .i64 x, .int .i64 y, .int .i64 z, .slice (some ⟨g3, 0, none⟩) 0 0]) (vs := #[.int .i64 x, .int .i64 y, .int .i64 z, .slice (some ⟨g3, 0, none⟩) 0 0]) (show Blk _ (v61_.heap.size) 41 #[.int .i64 0, .int .i64 0, .int .i64 0, .slice none 0 0] from (T_61)) ?_ ?_ ?_ ?_ ?_ ?_ ?_); (focus rfl); (focus rfl); (focus rfl); (focus exact Nat.le_of_ble_eq_true rfl); (focus exact task_size4); (focus (simp [Value.oneCell']; done)); intro w62_ b62_ h62_; have R_62 : Blk w62_ (w.heap.size) 41 #[.int .i64 0, .int .i64 0, .int .i64 0, .slice none 0 0] := (R_61).put h62_ ne_R_T; have N_62 : Blk w62_ (w.heap.size + 1) 41 #[.int .i64 0, .int .i64 0, .int .i64 0, .slice none 0 0] := (N_61).put h62_ ne_N_T; have T_62 : Blk w62_ (v61_.heap.size) 41 #[.int .i64 x, .int .i64 y, .int .i64 z, .slice (some ⟨g3, 0, none⟩) 0 0] := b62_; have rI_62 : IntsAt g3 0 w62_ [] := (rI_61).put h62_ (by omega); have S_62 := pp (S_61) h62_ ge_T; clear R_61 N_61 T_61 rI_61 S_61; clear h62_ b62_)
              | ((with_reducible refine load_sub (T := 41) (x := .tmp 11) (o := 0) (vs := #[.int .i64 x, .int .i64 y, .int .i64 z, .slice (some ⟨g3, 0, none⟩) 0 0]) (show Blk _ (v61_.heap.size) 41 #[.int .i64 x, .int .i64 y, .int .i64 z, .slice (some ⟨g3, 0, none⟩) 0 0] from (T_62)) ?_ ?_ Tryz.underlying41 ?_ ?_ ?_); (focus rfl); (focus rfl); (focus rfl); (focus exact task_size4))
              | (go_at_call 41; (with_reducible refine (HTe.out _ _ _ _ List.length_nil ((rI_62).ints)).mono ?_); rintro e w63_ ⟨rfl, h63_⟩; have R_63 : Blk w63_ (w.heap.size) 41 #[.int .i64 0, .int .i64 0, .int .i64 0, .slice none 0 0] := (R_62).past h63_; have N_63 : Blk w63_ (w.heap.size + 1) 41 #[.int .i64 0, .int .i64 0, .int .i64 0, .slice none 0 0] := (N_62).past h63_; have T_63 : Blk w63_ (v61_.heap.size) 41 #[.int .i64 x, .int .i64 y, .int .i64 z, .slice (some ⟨g3, 0, none⟩) 0 0] := (T_62).past h63_; have rI_63 : IntsAt g3 0 w63_ [] := (rI_62).past h63_; have S_63 := pt (S_62) h63_; clear R_62 N_62 T_62 rI_62 S_62; clear h63_)
              | ((with_reducible refine load_sub (T := 41) (x := .tmp 11) (o := 0) (vs := #[.int .i64 x, .int .i64 y, .int .i64 z, .slice (some ⟨g3, 0, none⟩) 0 0]) (show Blk _ (v61_.heap.size) 41 #[.int .i64 x, .int .i64 y, .int .i64 z, .slice (some ⟨g3, 0, none⟩) 0 0] from (T_63)) ?_ ?_ Tryz.underlying41 ?_ ?_ ?_); (focus rfl); (focus rfl); (focus rfl); (focus exact task_size4))
              | ((with_reducible refine store_sub (T := 41) (x := .tmp 2) (y := .tmp 77) (o := 0) (cs' := #[.int .i64 x, .int .i64 y, .int .i64 z, .slice (some ⟨g3, 0, none⟩) 0 0]) (vs := #[.int .i64 x, .int .i64 y, .int .i64 z, .slice (some ⟨g3, 0, none⟩) 0 0]) (show Blk _ (w.heap.size) 41 #[.int .i64 0, .int .i64 0, .int .i64 0, .slice none 0 0] from (R_63)) ?_ ?_ ?_ ?_ ?_ ?_ ?_); (focus rfl); (focus rfl); (focus rfl); (focus exact Nat.le_of_ble_eq_true rfl); (focus exact task_size4); (focus (simp [Value.oneCell']; done)); intro w64_ b64_ h64_; have R_64 : Blk w64_ (w.heap.size) 41 #[.int .i64 x, .int .i64 y, .int .i64 z, .slice (some ⟨g3, 0, none⟩) 0 0] := b64_; have N_64 : Blk w64_ (w.heap.size + 1) 41 #[.int .i64 0, .int .i64 0, .int .i64 0, .slice none 0 0] := (N_63).put h64_ (Ne.symm ne_R_N); have T_64 : Blk w64_ (v61_.heap.size) 41 #[.int .i64 x, .int .i64 y, .int .i64 z, .slice (some ⟨g3, 0, none⟩) 0 0] := (T_63).put h64_ (Ne.symm ne_R_T); have rI_64 : IntsAt g3 0 w64_ [] := (rI_63).put h64_ (by omega); have S_64 := pp (S_63) h64_ ge_R; clear R_63 N_63 T_63 rI_63 S_63; clear h64_ b64_))
            have z0 := R_64.cellAt 0 rfl
            have z1 := R_64.cellAt 1 rfl
            have z2 := R_64.cellAt 2 rfl
            have z3 := R_64.cellAt 3 rfl
            exact bodyPost_ret (v := .tuple #[.agg #[.int .i64 x, .int .i64 y, .int .i64 z, .slice (some ⟨g3, 0, none⟩) 0 0], .int .i64 0]) (by simp [results, Tryz.results38, go_sem, z0, z1, z2, z3]) rfl (taskPost_ok List.length_nil (Nat.le_refl _) (rI_64.ints) S_64)
          · have hG0 := HG.out
            clear HG
            rw [if_neg hE] at hG0
            subst hG0
            have hne : (E != 0) = true := by simpa using hE
            go_wp2_with (first
              | ((with_reducible refine store_sub (T := 41) (x := .tmp 11) (y := .tmp 70) (o := 0) (cs' := #[.int .i64 x, .int .i64 y, .int .i64 z, .slice (some ⟨g3, 0, none⟩) 0 0]) (vs := #[.int .i64 x, .int .i64 y, .int .i64 z, .slice (some ⟨g3, 0, none⟩) 0 0]) (show Blk _ (v61_.heap.size) 41 #[.int .i64 0, .int .i64 0, .int .i64 0, .slice none 0 0] from (T_61)) ?_ ?_ ?_ ?_ ?_ ?_ ?_); (focus rfl); (focus rfl); (focus rfl); (focus exact Nat.le_of_ble_eq_true rfl); (focus exact task_size4); (focus (simp [Value.oneCell']; done)); intro w62_ b62_ h62_; have R_62 : Blk w62_ (w.heap.size) 41 #[.int .i64 0, .int .i64 0, .int .i64 0, .slice none 0 0] := (R_61).put h62_ ne_R_T; have N_62 : Blk w62_ (w.heap.size + 1) 41 #[.int .i64 0, .int .i64 0, .int .i64 0, .slice none 0 0] := (N_61).put h62_ ne_N_T; have T_62 : Blk w62_ (v61_.heap.size) 41 #[.int .i64 x, .int .i64 y, .int .i64 z, .slice (some ⟨g3, 0, none⟩) 0 0] := b62_; have rI_62 : IntsAt g3 0 w62_ [] := (rI_61).put h62_ (by omega); have S_62 := pp (S_61) h62_ ge_T; clear R_61 N_61 T_61 rI_61 S_61; clear h62_ b62_)
              | ((with_reducible refine load_sub (T := 41) (x := .tmp 11) (o := 0) (vs := #[.int .i64 x, .int .i64 y, .int .i64 z, .slice (some ⟨g3, 0, none⟩) 0 0]) (show Blk _ (v61_.heap.size) 41 #[.int .i64 x, .int .i64 y, .int .i64 z, .slice (some ⟨g3, 0, none⟩) 0 0] from (T_62)) ?_ ?_ Tryz.underlying41 ?_ ?_ ?_); (focus rfl); (focus rfl); (focus rfl); (focus exact task_size4))
              | (go_at_call 41; (with_reducible refine (HTe.out _ _ _ _ List.length_nil ((rI_62).ints)).mono ?_); rintro e w63_ ⟨rfl, h63_⟩; have R_63 : Blk w63_ (w.heap.size) 41 #[.int .i64 0, .int .i64 0, .int .i64 0, .slice none 0 0] := (R_62).past h63_; have N_63 : Blk w63_ (w.heap.size + 1) 41 #[.int .i64 0, .int .i64 0, .int .i64 0, .slice none 0 0] := (N_62).past h63_; have T_63 : Blk w63_ (v61_.heap.size) 41 #[.int .i64 x, .int .i64 y, .int .i64 z, .slice (some ⟨g3, 0, none⟩) 0 0] := (T_62).past h63_; have rI_63 : IntsAt g3 0 w63_ [] := (rI_62).past h63_; have S_63 := pt (S_62) h63_; clear R_62 N_62 T_62 rI_62 S_62; clear h63_)
              | ((with_reducible refine load_sub (T := 41) (x := .tmp 4) (o := 0) (vs := #[.int .i64 0, .int .i64 0, .int .i64 0, .slice none 0 0]) (show Blk _ (w.heap.size + 1) 41 #[.int .i64 0, .int .i64 0, .int .i64 0, .slice none 0 0] from (N_63)) ?_ ?_ Tryz.underlying41 ?_ ?_ ?_); (focus rfl); (focus rfl); (focus rfl); (focus exact task_size4))
              | ((with_reducible refine store_sub (T := 41) (x := .tmp 2) (y := .tmp 75) (o := 0) (cs' := #[.int .i64 0, .int .i64 0, .int .i64 0, .slice none 0 0]) (vs := #[.int .i64 0, .int .i64 0, .int .i64 0, .slice none 0 0]) (show Blk _ (w.heap.size) 41 #[.int .i64 0, .int .i64 0, .int .i64 0, .slice none 0 0] from (R_63)) ?_ ?_ ?_ ?_ ?_ ?_ ?_); (focus rfl); (focus rfl); (focus rfl); (focus exact Nat.le_of_ble_eq_true rfl); (focus exact task_size4); (focus (simp [Value.oneCell']; done)); intro w64_ b64_ h64_; have R_64 : Blk w64_ (w.heap.size) 41 #[.int .i64 0, .int .i64 0, .int .i64 0, .slice none 0 0] := b64_; have N_64 : Blk w64_ (w.heap.size + 1) 41 #[.int .i64 0, .int .i64 0, .int .i64 0, .slice none 0 0] := (N_63).put h64_ (Ne.symm ne_R_N); have T_64 : Blk w64_ (v61_.heap.size) 41 #[.int .i64 x, .int .i64 y, .int .i64 z, .slice (some ⟨g3, 0, none⟩) 0 0] := (T_63).put h64_ (Ne.symm ne_R_T); have rI_64 : IntsAt g3 0 w64_ [] := (rI_63).put h64_ (by omega); have S_64 := pp (S_63) h64_ ge_R; clear R_63 N_63 T_63 rI_63 S_63; clear h64_ b64_))
            have z0 := R_64.cellAt 0 rfl
            have z1 := R_64.cellAt 1 rfl
            have z2 := R_64.cellAt 2 rfl
            have z3 := R_64.cellAt 3 rfl
            exact bodyPost_ret (v := .tuple #[.agg #[.int .i64 0, .int .i64 0, .int .i64 0, .slice none 0 0], .int .i64 E]) (by simp [results, Tryz.results38, go_sem, z0, z1, z2, z3]) rfl (taskPost_bad S_64)
        · have ne_R_N : w.heap.size ≠ w.heap.size + 1 := (by omega)
          have ge_R : w.heap.size ≤ w.heap.size := Nat.le_refl _
          have rI_0 := HAb.out
          have HQ0 := Lib.hid (show qs.length = k - 3 by omega)
          clear hqn
          have ki0 : (0 : Int) < (k : Int) := by omega
          have kn0 : 0 < k := by omega
          have ki1 : (1 : Int) < (k : Int) := by omega
          have kn1 : 1 < k := by omega
          have ki2 : (2 : Int) < (k : Int) := by omega
          have kn2 : 2 < k := by omega
          have ki3 : (3 : Int) ≤ (k : Int) := by omega
          go_wp2
          refine region_alloc (zc := (.cells #[.int .i64 0, .int .i64 0, .int .i64 0, .slice none 0 0] 41)) 12 follows_mixed (by kernel_rfl) rfl (fun _ _ => by kernel_rfl) ?_
          simp only [List.take_succ_cons, List.take_zero, List.drop_succ_cons, List.drop_zero]
          repeat (first
            | ((with_reducible apply grow_plain); (focus rfl); (focus (intro w' hw; obtain ⟨hcq, hfq⟩ := bcell hw; go_simp; (first | done | rfl))); (simp only [Act.put, List.setIfInBounds_toArray, List.set_cons_succ, List.set_cons_zero]))
            | ((with_reducible apply grow_skip); (focus (first | (simp [Region.wanted, yielded]; done) | (simp [Region.wanted, yielded, undef]; done))); simp only [Act.put, List.setIfInBounds_toArray, List.set_cons_succ, List.set_cons_zero])
            | ((with_reducible apply grow_go); (focus (first | (simp [Region.wanted, yielded]; done) | (simp [Region.wanted, yielded, undef]; done))); (focus (intro w' hw; obtain ⟨hcq, hfq⟩ := bcell hw; go_simp; (first | done | rfl))); (simp only [Act.put, List.setIfInBounds_toArray, List.set_cons_succ, List.set_cons_zero])))
          refine grow_nil ?_
          intro v1 w1 hv1 hb1
          simp only [Act.put, List.setIfInBounds_toArray, List.set_cons_succ, List.set_cons_zero]
          have ne_R_T : w.heap.size ≠ v1.heap.size := by have := (kR.past hv1).lt; omega
          have R_61 : Blk w1 (w.heap.size) 41 #[.int .i64 0, .int .i64 0, .int .i64 0, .slice none 0 0] := ((kR.past hv1).alloc).past hb1
          have ne_N_T : w.heap.size + 1 ≠ v1.heap.size := by have := (kN.past hv1).lt; omega
          have N_61 : Blk w1 (w.heap.size + 1) 41 #[.int .i64 0, .int .i64 0, .int .i64 0, .slice none 0 0] := ((kN.past hv1).alloc).past hb1
          have rI_61 : IntsAt g3 3 w1 qs := ((rI_0.past hv1).alloc).past hb1
          have T_61 : Blk w1 v1.heap.size 41 #[.int .i64 0, .int .i64 0, .int .i64 0, .slice none 0 0] := (Blk.new _ _ _).past hb1
          have ge_T : w.heap.size ≤ v1.heap.size := (pt (HQ2.out) hv1).size
          have S_61 := pt (pa (pt (HQ2.out) hv1)) hb1
          clear kR kN rI_0
          have hgT : g3 < v1.heap.size := Nat.lt_of_lt_of_le hg4 hv1.size
          clear hb1 hv1
          obtain ⟨v61_, rfl⟩ : ∃ v, v = v1 := ⟨_, rfl⟩
          obtain ⟨w61_, rfl⟩ : ∃ v, v = w1 := ⟨_, rfl⟩
          by_cases hE : E = 0
          · have hG0 := HG.out
            clear HG
            rw [if_pos hE] at hG0
            subst hG0
            subst hE
            go_wp2_with (first
              | ((with_reducible refine store_sub (T := 41) (x := .tmp 11) (y := .tmp 70) (o := 0) (cs' := #[.int .i64 x, .int .i64 y, .int .i64 z, .slice (some ⟨g3, 3, none⟩) (k - 3) (c3 - 3)]) (vs := #[.int .i64 x, .int .i64 y, .int .i64 z, .slice (some ⟨g3, 3, none⟩) (k - 3) (c3 - 3)]) (show Blk _ (v61_.heap.size) 41 #[.int .i64 0, .int .i64 0, .int .i64 0, .slice none 0 0] from (T_61)) ?_ ?_ ?_ ?_ ?_ ?_ ?_); (focus rfl); (focus rfl); (focus rfl); (focus exact Nat.le_of_ble_eq_true rfl); (focus exact task_size4); (focus (simp [Value.oneCell']; done)); intro w62_ b62_ h62_; have R_62 : Blk w62_ (w.heap.size) 41 #[.int .i64 0, .int .i64 0, .int .i64 0, .slice none 0 0] := (R_61).put h62_ ne_R_T; have N_62 : Blk w62_ (w.heap.size + 1) 41 #[.int .i64 0, .int .i64 0, .int .i64 0, .slice none 0 0] := (N_61).put h62_ ne_N_T; have T_62 : Blk w62_ (v61_.heap.size) 41 #[.int .i64 x, .int .i64 y, .int .i64 z, .slice (some ⟨g3, 3, none⟩) (k - 3) (c3 - 3)] := b62_; have rI_62 : IntsAt g3 3 w62_ qs := (rI_61).put h62_ (by omega); have S_62 := pp (S_61) h62_ ge_T; clear R_61 N_61 T_61 rI_61 S_61; clear h62_ b62_)
              | ((with_reducible refine load_sub (T := 41) (x := .tmp 11) (o := 0) (vs := #[.int .i64 x, .int .i64 y, .int .i64 z, .slice (some ⟨g3, 3, none⟩) (k - 3) (c3 - 3)]) (show Blk _ (v61_.heap.size) 41 #[.int .i64 x, .int .i64 y, .int .i64 z, .slice (some ⟨g3, 3, none⟩) (k - 3) (c3 - 3)] from (T_62)) ?_ ?_ Tryz.underlying41 ?_ ?_ ?_); (focus rfl); (focus rfl); (focus rfl); (focus exact task_size4))
              | (go_at_call 41; (with_reducible refine (HTe.out _ _ _ _ HQ0.out ((rI_62).ints)).mono ?_); rintro e w63_ ⟨rfl, h63_⟩; have R_63 : Blk w63_ (w.heap.size) 41 #[.int .i64 0, .int .i64 0, .int .i64 0, .slice none 0 0] := (R_62).past h63_; have N_63 : Blk w63_ (w.heap.size + 1) 41 #[.int .i64 0, .int .i64 0, .int .i64 0, .slice none 0 0] := (N_62).past h63_; have T_63 : Blk w63_ (v61_.heap.size) 41 #[.int .i64 x, .int .i64 y, .int .i64 z, .slice (some ⟨g3, 3, none⟩) (k - 3) (c3 - 3)] := (T_62).past h63_; have rI_63 : IntsAt g3 3 w63_ qs := (rI_62).past h63_; have S_63 := pt (S_62) h63_; clear R_62 N_62 T_62 rI_62 S_62; clear h63_)
              | ((with_reducible refine load_sub (T := 41) (x := .tmp 11) (o := 0) (vs := #[.int .i64 x, .int .i64 y, .int .i64 z, .slice (some ⟨g3, 3, none⟩) (k - 3) (c3 - 3)]) (show Blk _ (v61_.heap.size) 41 #[.int .i64 x, .int .i64 y, .int .i64 z, .slice (some ⟨g3, 3, none⟩) (k - 3) (c3 - 3)] from (T_63)) ?_ ?_ Tryz.underlying41 ?_ ?_ ?_); (focus rfl); (focus rfl); (focus rfl); (focus exact task_size4))
              | ((with_reducible refine store_sub (T := 41) (x := .tmp 2) (y := .tmp 77) (o := 0) (cs' := #[.int .i64 x, .int .i64 y, .int .i64 z, .slice (some ⟨g3, 3, none⟩) (k - 3) (c3 - 3)]) (vs := #[.int .i64 x, .int .i64 y, .int .i64 z, .slice (some ⟨g3, 3, none⟩) (k - 3) (c3 - 3)]) (show Blk _ (w.heap.size) 41 #[.int .i64 0, .int .i64 0, .int .i64 0, .slice none 0 0] from (R_63)) ?_ ?_ ?_ ?_ ?_ ?_ ?_); (focus rfl); (focus rfl); (focus rfl); (focus exact Nat.le_of_ble_eq_true rfl); (focus exact task_size4); (focus (simp [Value.oneCell']; done)); intro w64_ b64_ h64_; have R_64 : Blk w64_ (w.heap.size) 41 #[.int .i64 x, .int .i64 y, .int .i64 z, .slice (some ⟨g3, 3, none⟩) (k - 3) (c3 - 3)] := b64_; have N_64 : Blk w64_ (w.heap.size + 1) 41 #[.int .i64 0, .int .i64 0, .int .i64 0, .slice none 0 0] := (N_63).put h64_ (Ne.symm ne_R_N); have T_64 : Blk w64_ (v61_.heap.size) 41 #[.int .i64 x, .int .i64 y, .int .i64 z, .slice (some ⟨g3, 3, none⟩) (k - 3) (c3 - 3)] := (T_63).put h64_ (Ne.symm ne_R_T); have rI_64 : IntsAt g3 3 w64_ qs := (rI_63).put h64_ (by omega); have S_64 := pp (S_63) h64_ ge_R; clear R_63 N_63 T_63 rI_63 S_63; clear h64_ b64_))
            have z0 := R_64.cellAt 0 rfl
            have z1 := R_64.cellAt 1 rfl
            have z2 := R_64.cellAt 2 rfl
            have z3 := R_64.cellAt 3 rfl
            exact bodyPost_ret (v := .tuple #[.agg #[.int .i64 x, .int .i64 y, .int .i64 z, .slice (some ⟨g3, 3, none⟩) (k - 3) (c3 - 3)], .int .i64 0]) (by simp [results, Tryz.results38, go_sem, z0, z1, z2, z3]) rfl (taskPost_ok HQ0.out (Nat.sub_le_sub_right hc5 3) (rI_64.ints) S_64)
          · have hG0 := HG.out
            clear HG
            rw [if_neg hE] at hG0
            subst hG0
            have hne : (E != 0) = true := by simpa using hE
            go_wp2_with (first
              | ((with_reducible refine store_sub (T := 41) (x := .tmp 11) (y := .tmp 70) (o := 0) (cs' := #[.int .i64 x, .int .i64 y, .int .i64 z, .slice (some ⟨g3, 3, none⟩) (k - 3) (c3 - 3)]) (vs := #[.int .i64 x, .int .i64 y, .int .i64 z, .slice (some ⟨g3, 3, none⟩) (k - 3) (c3 - 3)]) (show Blk _ (v61_.heap.size) 41 #[.int .i64 0, .int .i64 0, .int .i64 0, .slice none 0 0] from (T_61)) ?_ ?_ ?_ ?_ ?_ ?_ ?_); (focus rfl); (focus rfl); (focus rfl); (focus exact Nat.le_of_ble_eq_true rfl); (focus exact task_size4); (focus (simp [Value.oneCell']; done)); intro w62_ b62_ h62_; have R_62 : Blk w62_ (w.heap.size) 41 #[.int .i64 0, .int .i64 0, .int .i64 0, .slice none 0 0] := (R_61).put h62_ ne_R_T; have N_62 : Blk w62_ (w.heap.size + 1) 41 #[.int .i64 0, .int .i64 0, .int .i64 0, .slice none 0 0] := (N_61).put h62_ ne_N_T; have T_62 : Blk w62_ (v61_.heap.size) 41 #[.int .i64 x, .int .i64 y, .int .i64 z, .slice (some ⟨g3, 3, none⟩) (k - 3) (c3 - 3)] := b62_; have rI_62 : IntsAt g3 3 w62_ qs := (rI_61).put h62_ (by omega); have S_62 := pp (S_61) h62_ ge_T; clear R_61 N_61 T_61 rI_61 S_61; clear h62_ b62_)
              | ((with_reducible refine load_sub (T := 41) (x := .tmp 11) (o := 0) (vs := #[.int .i64 x, .int .i64 y, .int .i64 z, .slice (some ⟨g3, 3, none⟩) (k - 3) (c3 - 3)]) (show Blk _ (v61_.heap.size) 41 #[.int .i64 x, .int .i64 y, .int .i64 z, .slice (some ⟨g3, 3, none⟩) (k - 3) (c3 - 3)] from (T_62)) ?_ ?_ Tryz.underlying41 ?_ ?_ ?_); (focus rfl); (focus rfl); (focus rfl); (focus exact task_size4))
              | (go_at_call 41; (with_reducible refine (HTe.out _ _ _ _ HQ0.out ((rI_62).ints)).mono ?_); rintro e w63_ ⟨rfl, h63_⟩; have R_63 : Blk w63_ (w.heap.size) 41 #[.int .i64 0, .int .i64 0, .int .i64 0, .slice none 0 0] := (R_62).past h63_; have N_63 : Blk w63_ (w.heap.size + 1) 41 #[.int .i64 0, .int .i64 0, .int .i64 0, .slice none 0 0] := (N_62).past h63_; have T_63 : Blk w63_ (v61_.heap.size) 41 #[.int .i64 x, .int .i64 y, .int .i64 z, .slice (some ⟨g3, 3, none⟩) (k - 3) (c3 - 3)] := (T_62).past h63_; have rI_63 : IntsAt g3 3 w63_ qs := (rI_62).past h63_; have S_63 := pt (S_62) h63_; clear R_62 N_62 T_62 rI_62 S_62; clear h63_)
              | ((with_reducible refine load_sub (T := 41) (x := .tmp 4) (o := 0) (vs := #[.int .i64 0, .int .i64 0, .int .i64 0, .slice none 0 0]) (show Blk _ (w.heap.size + 1) 41 #[.int .i64 0, .int .i64 0, .int .i64 0, .slice none 0 0] from (N_63)) ?_ ?_ Tryz.underlying41 ?_ ?_ ?_); (focus rfl); (focus rfl); (focus rfl); (focus exact task_size4))
              | ((with_reducible refine store_sub (T := 41) (x := .tmp 2) (y := .tmp 75) (o := 0) (cs' := #[.int .i64 0, .int .i64 0, .int .i64 0, .slice none 0 0]) (vs := #[.int .i64 0, .int .i64 0, .int .i64 0, .slice none 0 0]) (show Blk _ (w.heap.size) 41 #[.int .i64 0, .int .i64 0, .int .i64 0, .slice none 0 0] from (R_63)) ?_ ?_ ?_ ?_ ?_ ?_ ?_); (focus rfl); (focus rfl); (focus rfl); (focus exact Nat.le_of_ble_eq_true rfl); (focus exact task_size4); (focus (simp [Value.oneCell']; done)); intro w64_ b64_ h64_; have R_64 : Blk w64_ (w.heap.size) 41 #[.int .i64 0, .int .i64 0, .int .i64 0, .slice none 0 0] := b64_; have N_64 : Blk w64_ (w.heap.size + 1) 41 #[.int .i64 0, .int .i64 0, .int .i64 0, .slice none 0 0] := (N_63).put h64_ (Ne.symm ne_R_N); have T_64 : Blk w64_ (v61_.heap.size) 41 #[.int .i64 x, .int .i64 y, .int .i64 z, .slice (some ⟨g3, 3, none⟩) (k - 3) (c3 - 3)] := (T_63).put h64_ (Ne.symm ne_R_T); have rI_64 : IntsAt g3 3 w64_ qs := (rI_63).put h64_ (by omega); have S_64 := pp (S_63) h64_ ge_R; clear R_63 N_63 T_63 rI_63 S_63; clear h64_ b64_))
            have z0 := R_64.cellAt 0 rfl
            have z1 := R_64.cellAt 1 rfl
            have z2 := R_64.cellAt 2 rfl
            have z3 := R_64.cellAt 3 rfl
            exact bodyPost_ret (v := .tuple #[.agg #[.int .i64 0, .int .i64 0, .int .i64 0, .slice none 0 0], .int .i64 E]) (by simp [results, Tryz.results38, go_sem, z0, z1, z2, z3]) rfl (taskPost_bad S_64)

theorem refParseTask_any (l : List UInt8) (hl : l.length ≤ 500) (w : World) :
    Calls Tryz.prog 38 #[.string ⟨l.toArray⟩] w (TaskPost w (taskOut (parseT l))) := by
  by_cases h4 : (splitL 32 l).length = 4
  · have hm : ∀ x ∈ splitL 32 l, x.length ≤ 500 := fun x hx => Nat.le_trans (splitM hx) hl
    generalize hs : splitL 32 l = L at *
    match L, hs, hm, h4 with
    | [a, b, c, d], hs, hm, _ =>
      rw [parseT_words hs]
      by_cases hd : d = [45]
      · exact refParT_a l a b c d hl hm hs hd w
      · exact refParT_b l a b c d hl hm hs hd w
  · have e : parseT l = none := by
      unfold parseT
      split
      · rename_i h; rw [h] at h4; exact absurd rfl h4
      · rfl
    rw [e]
    exact refParT_len l hl h4 w

end Go.Proofs.YtbojmcopagbheaaGreatDoor
