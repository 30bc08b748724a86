/- Contract: the task of a string. Printed by a program (gen_wpt.py). -/
import Derived.Test.YtbojmcopagbheaaGreatDoorQS
import Derived.Test.YtbojmcopagbheaaGreatDoorT2Fmt
import Derived.Test.YtbojmcopagbheaaGreatDoorQ4
namespace Go.Proofs.YtbojmcopagbheaaGreatDoor
open Go.RowKit
attribute [local go_sem ↓] Go.wp_at_zero Go.wp_at_succ

theorem p3_at0 (a b c : Addr) (W : World) : Sem.run Tryz.prog (Instr.index 92 (.agg #[.pointer (some a), .pointer (some b), .pointer (some c)]) (.int .i64 0)) W = .ok (.pointer (some a)) W := by kernel_rfl
attribute [local go_sem ↓ high] p3_at0
theorem p3_at1 (a b c : Addr) (W : World) : Sem.run Tryz.prog (Instr.index 92 (.agg #[.pointer (some a), .pointer (some b), .pointer (some c)]) (.int .i64 1)) W = .ok (.pointer (some b)) W := by kernel_rfl
attribute [local go_sem ↓ high] p3_at1
theorem p3_at2 (a b c : Addr) (W : World) : Sem.run Tryz.prog (Instr.index 92 (.agg #[.pointer (some a), .pointer (some b), .pointer (some c)]) (.int .i64 2)) W = .ok (.pointer (some c)) W := by kernel_rfl
attribute [local go_sem ↓ high] p3_at2
theorem task_size4 : (Tryz.prog.info? 41).map (·.size) = some 4 := by kernel_rfl
theorem int_size1 : (Tryz.prog.info? 3).map (·.size) = some 1 := by kernel_rfl
theorem IntsAb.past {B : Nat} {w w' : World} {A : Option Addr} {xs : List Int} (h : IntsAb B w A xs) (hb : Below w.heap.size w w') : IntsAb B w' A xs := h.above (Above.of_below hb)
theorem IntsAb.alloc {B : Nat} {w : World} {A : Option Addr} {xs : List Int} (h : IntsAb B w A xs) {ob : Obj} : IntsAb B (w.alloc ob) A xs := h.past (pa pr)
theorem IntsAb.put {B : Nat} {w W : World} {b : Nat} {A : Option Addr} {xs : List Int} (h : IntsAb B w A xs) (hp : Put w W b) (hb : b < B) : IntsAb B W A xs := h.above ⟨Nat.le_of_eq hp.size.symm, fun k hk _ => hp.other k (by omega)⟩
/-- What a task of a string is, with the error. -/
def taskOut (r : Option (Int × Int × Int × List Int)) : Task × Int := match r with
  | none => (⟨0, 0, 0, []⟩, 7)
  | some (m, le, re, q) => if taskE ⟨m, le, re, q⟩ = 0 then (⟨m, le, re, q⟩, 0) else (⟨0, 0, 0, []⟩, taskE ⟨m, le, re, q⟩)
def TaskPost (w : World) (r : Task × Int) (e : Ending) (w' : World) : Prop := ∃ A c, e = .returned (.tuple #[.agg #[.int .i64 r.1.machine, .int .i64 r.1.length, .int .i64 r.1.release, .slice A r.1.after.length c], .int .i64 r.2]) ∧ r.1.after.length ≤ c ∧ IntsIn w'.heap.size w' A r.1.after ∧ Below w.heap.size w w'
theorem taskPost_bad {w W : World} {E : Int} (h : Below w.heap.size w W) : TaskPost w (⟨0, 0, 0, []⟩, E) (.returned (.tuple #[.agg #[.int .i64 0, .int .i64 0, .int .i64 0, .slice none 0 0], .int .i64 E])) W := ⟨none, 0, rfl, Nat.le_refl _, .inl rfl, h⟩
theorem taskPost_ok {w W : World} {m le re : Int} {q : List Int} {A : Option Addr} {k c : Nat} (hk : q.length = k) (hc : k ≤ c) (hi : IntsIn W.heap.size W A q) (h : Below w.heap.size w W) : TaskPost w (⟨m, le, re, q⟩, 0) (.returned (.tuple #[.agg #[.int .i64 m, .int .i64 le, .int .i64 re, .slice A k c], .int .i64 0])) W := by
  subst hk
  exact ⟨A, c, rfl, hc, hi, h⟩
theorem wn_ex (l : List UInt8) (hl : l.length ≤ 1000) (b : Bool) (h : (numQ 7 l).isSome = b) (w : World) (hS : StrIn w) : Calls Tryz.prog 51 #[.string ⟨l.toArray⟩, .bool false] w fun e w' => (∃ x : Int, e = .returned (.tuple #[.int .i64 x, .bool b])) ∧ Below w.heap.size w w' :=
  (wnumber_any l hl false w hS).mono fun e w' ⟨⟨x, h1, _⟩, h2⟩ => ⟨⟨x, h1.trans (by rw [← h]; rfl)⟩, h2⟩
theorem wn_some (l : List UInt8) (hl : l.length ≤ 1000) (k : Int) (h : numQ 7 l = some k) (w : World) (hS : StrIn w) : Calls Tryz.prog 51 #[.string ⟨l.toArray⟩, .bool false] w fun e w' => e = .returned (.tuple #[.int .i64 k, .bool true]) ∧ Below w.heap.size w w' :=
  (wnumber_any l hl false w hS).mono fun e w' ⟨⟨x, h1, h3⟩, h2⟩ => ⟨by
    have e1 : numB false l = some k := h
    rw [h1, e1, h3 k e1]; rfl, h2⟩
/-- parts, whose words lie in memory of their own. -/
theorem parts_new (l : List UInt8) (hl : l.length ≤ 1000) (w : World) (h : StrIn w) :
    Calls Tryz.prog 52 #[.string ⟨l.toArray⟩] w fun e w' => ∃ A c g, e = .returned (.slice A (partsL l).length c) ∧ (partsL l).length ≤ c ∧ g < w'.heap.size ∧ (0 < (partsL l).length → A = some ⟨g, 0, none⟩ ∧ w.heap.size ≤ g ∧ Blk w' g 9 ((partsL l).map strV).toArray) ∧ Below w.heap.size w w' := by
  obtain ⟨m0, hm0⟩ := h.max
  have hpos : 0 < w.heap.size := Nat.lt_of_le_of_lt (Nat.zero_le _) (World.block_lt_of_cell? w _ hm0)
  by_cases h0 : l = [45]
  · subst h0
    have e : partsL [45] = [] := by unfold partsL; rw [if_pos rfl]
    rw [e]
    clear hm0
    go_enter Tryz.func52, Tryz.ntmps52
    go_wp2
    go_ret
    exact ⟨none, 0, 0, rfl, Nat.le_refl _, hpos, fun h => absurd h (Nat.lt_irrefl _), pr⟩
  · have e : partsL l = splitL 44 l := by unfold partsL; rw [if_neg h0]
    rw [e]
    have hs : (l == [45]) = false := by simpa using h0
    have HS := Lib.hid (splitC_any l 44 hl w h)
    generalize splitL 44 l = S at *
    clear h0 e hm0
    go_enter Tryz.func52, Tryz.ntmps52
    go_wp2_with (go_at_call 50; (with_reducible refine HS.out.mono ?_); rintro e w1 ⟨rfl, rfl⟩)
    go_ret
    exact ⟨_, S.length, w.heap.size, rfl, Nat.le_refl _, by simp, fun _ => ⟨rfl, Nat.le_refl _, Blk.new _ _ _⟩, pa pr⟩
theorem splitM {c : UInt8} : ∀ {l x : List UInt8}, x ∈ splitL c l → x.length ≤ l.length
  | [], x, h => by rw [splitL, List.mem_singleton] at h; subst h; exact Nat.le_refl _
  | b :: l, x, h => by
    rw [splitL] at h
    split at h
    · rcases List.mem_cons.1 h with h | h
      · subst h; exact Nat.zero_le _
      · have := splitM h; simp; omega
    · split at h
      · rw [List.mem_singleton] at h; subst h; simp
      · rename_i y r e
        rcases List.mem_cons.1 h with h | h
        · have := splitM (c := c) (l := l) (x := y) (by rw [e]; exact List.mem_cons_self)
          subst h; simp; omega
        · have := splitM (c := c) (l := l) (x := x) (by rw [e]; exact List.mem_cons_of_mem _ h)
          simp; omega
theorem parts_mem {l x : List UInt8} (h : x ∈ partsL l) : x.length ≤ l.length := by
  unfold partsL at h
  split at h
  · cases h
  · exact splitM h
theorem parts_len (l : List UInt8) : (partsL l).length ≤ l.length + 1 := by
  unfold partsL
  split
  · simp
  · exact splitL_len l
theorem numsQ_at {D : Nat} : ∀ {l : List (List UInt8)} {q : List Int}, numsQ D l = some q → ∀ k, k < l.length → numQ D (l.getD k []) = some (q.getD k 0)
  | [], _, _, k, hk => by simp at hk
  | x :: l, q, h, k, hk => by
    simp only [numsQ] at h
    cases hx : numQ D x with
    | none => rw [hx] at h; cases h
    | some a =>
      cases hl : numsQ D l with
      | none => rw [hx, hl] at h; cases h
      | some r =>
        rw [hx, hl] at h
        have h : a :: r = q := Option.some.inj h
        subst h
        cases k with
        | zero => exact hx
        | succ k => exact numsQ_at hl k (by simpa using hk)
theorem nums_more {D : Nat} {P : List (List UInt8)} {k : Nat} (hk : k < P.length) : (numsQ D (P.take (k + 1))).isSome = ((numsQ D (P.take k)).isSome && (numQ D (P.getD k [])).isSome) := by
  have e : P.getD k [] = P[k] := by simp [List.getD, hk]
  rw [List.take_succ_eq_append_getElem hk, numsQ_snoc, ← e]
  cases numsQ D (P.take k) with
  | none => rfl
  | some r => cases numQ D (P.getD k []) <;> rfl
theorem take_getD {q : List Int} {k : Nat} (h : k < q.length) : q.take (k + 1) = q.take k ++ [q.getD k 0] := by
  have e : q.getD k 0 = q[k] := by simp [List.getD, h]
  rw [List.take_succ_eq_append_getElem h, e]

set_option maxHeartbeats 4000000 in
set_option maxRecDepth 100000 in
theorem parT_len (l : List UInt8) (hl : l.length ≤ 500) (hs : (splitL 32 l).length ≠ 4) (w : World) (hS : StrIn w) :
    Calls Tryz.prog 12 #[.string ⟨l.toArray⟩] w (TaskPost w (⟨0, 0, 0, []⟩, 7)) := by
  have HSp := Lib.hid (fun w' hS' => (splitC_any l 32 (by omega) w' hS').mono fun e w'' (h : _ ∧ _) => (⟨h.1, h.2 ▸ pa pr⟩ : _ ∧ Below w'.heap.size w' w''))
  have HS := Lib.hid (fun w' (h : Below w.heap.size w w') => hS.kept h)
  have hn : (((splitL 32 l).length : Int) != 4) = true := by simp; omega
  generalize (splitL 32 l).length = n at *
  clear hs hS hl
  go_enter Tryz.func12, Tryz.ntmps12
  go_wp2_with (first
    | (go_at_call 50; (with_reducible refine (HSp.out _ (HS.out _ (pa (pa (pa (pr)))))).mono ?_); rintro e w1_ ⟨rfl, h1_⟩; have R_1 : Blk w1_ (w.heap.size) 41 #[.int .i64 0, .int .i64 0, .int .i64 0, .slice none 0 0] := (Blk.newAt (by simp)).alloc.alloc.past h1_; have T_1 : Blk w1_ (w.heap.size + 1) 41 #[.int .i64 0, .int .i64 0, .int .i64 0, .slice none 0 0] := (Blk.newAt (by simp)).alloc.past h1_; have J_1 : Blk w1_ (w.heap.size + 1 + 1) 92 #[.pointer (some ⟨w.heap.size + 1, 0, none⟩), .pointer (some ⟨w.heap.size + 1, 1, none⟩), .pointer (some ⟨w.heap.size + 1, 2, none⟩)] := (Blk.newAt (by simp)).past h1_; have ne_T_R : w.heap.size + 1 ≠ w.heap.size := (by omega); have ne_J_R : w.heap.size + 1 + 1 ≠ w.heap.size := (by omega); have ge_R : w.heap.size ≤ w.heap.size := (by omega); have ne_J_T : w.heap.size + 1 + 1 ≠ w.heap.size + 1 := (by omega); have ge_T : w.heap.size ≤ w.heap.size + 1 := (by omega); have S_1 := pt (pa (pa (pa (pr)))) h1_; clear h1_)
    | ((with_reducible refine store_sub (T := 41) (x := .tmp 2) (y := .tmp 26) (o := 0) (cs' := #[.int .i64 0, .int .i64 0, .int .i64 0, .slice none 0 0]) (vs := #[.int .i64 0, .int .i64 0, .int .i64 0, .slice none 0 0]) (show Blk _ (w.heap.size) 41 #[.int .i64 0, .int .i64 0, .int .i64 0, .slice none 0 0] from (R_1)) ?_ ?_ ?_ ?_ ?_ ?_ ?_); (focus rfl); (focus rfl); (focus rfl); (focus exact Nat.le_of_ble_eq_true rfl); (focus exact task_size4); (focus (simp [Value.oneCell']; done)); intro w2_ b2_ h2_; have R_2 : Blk w2_ (w.heap.size) 41 #[.int .i64 0, .int .i64 0, .int .i64 0, .slice none 0 0] := b2_; have T_2 : Blk w2_ (w.heap.size + 1) 41 #[.int .i64 0, .int .i64 0, .int .i64 0, .slice none 0 0] := (T_1).put h2_ ne_T_R; have J_2 : Blk w2_ (w.heap.size + 1 + 1) 92 #[.pointer (some ⟨w.heap.size + 1, 0, none⟩), .pointer (some ⟨w.heap.size + 1, 1, none⟩), .pointer (some ⟨w.heap.size + 1, 2, none⟩)] := (J_1).put h2_ ne_J_R; have S_2 := pp (S_1) h2_ ge_R; clear R_1 T_1 J_1 S_1; clear h2_ b2_))
  have z0 := R_2.cellAt 0 rfl
  have z1 := R_2.cellAt 1 rfl
  have z2 := R_2.cellAt 2 rfl
  have z3 := R_2.cellAt 3 rfl
  exact bodyPost_ret (v := .tuple #[.agg #[.int .i64 0, .int .i64 0, .int .i64 0, .slice none 0 0], .int .i64 7]) (by simp [results, Tryz.results12, go_sem, z0, z1, z2, z3]) rfl (taskPost_bad S_2)
set_option maxHeartbeats 4000000 in
set_option maxRecDepth 100000 in
theorem parT_1 (l a b c d : List UInt8) (hl : l.length ≤ 500) (ha : a.length ≤ 500) (hb : b.length ≤ 500) (hc : c.length ≤ 500) (hd : d.length ≤ 500) (hs : splitL 32 l = [a, b, c, d]) (hxa : (numQ 7 a).isSome = false) (ob oc : Bool) (hxb : (numQ 7 b).isSome = ob) (hxc : (numQ 7 c).isSome = oc) (w : World) (hS : StrIn w) :
    Calls Tryz.prog 12 #[.string ⟨l.toArray⟩] w (TaskPost w (⟨0, 0, 0, []⟩, 7)) := by
  have HS := Lib.hid (fun w' (h : Below w.heap.size w w') => hS.kept h)
  have HSp := Lib.hid (fun w' hS' => splitC_any l 32 (by omega) w' hS')
  rw [hs] at HSp
  have HSp := Lib.hid (show ∀ w', StrIn w' → Calls Tryz.prog 50 #[.string ⟨l.toArray⟩, .string ⟨#[32]⟩] w' fun e w'' => e = .returned (.slice (some ⟨w'.heap.size, 0, none⟩) 4 4) ∧ w'' = w'.alloc (.cells #[.string ⟨a.toArray⟩, .string ⟨b.toArray⟩, .string ⟨c.toArray⟩, .string ⟨d.toArray⟩] 9) from HSp.out)
  have hparts := fun w' hS' => parts_new d (by omega) w' hS'
  have hmem := fun x (hx : x ∈ partsL d) => Nat.le_trans (parts_mem hx) hd
  have hn1 : (partsL d).length ≤ 501 := Nat.le_trans (parts_len d) (by omega)
  have Ha := Lib.hid (fun w' hS' => wn_ex a (by omega) false hxa w' hS')
  have Hb := Lib.hid (fun w' hS' => wn_ex b (by omega) ob hxb w' hS')
  have Hc := Lib.hid (fun w' hS' => wn_ex c (by omega) oc hxc w' hS')
  generalize partsL d = P at *
  have HPa := Lib.hid hparts
  have HMem := Lib.hid hmem
  generalize hP : P.length = n at *
  have HP := Lib.hid hP
  clear hparts hmem hP hS hs hl ha hb hc hd hxa hxb hxc
  obtain ⟨i0, hi0, hz0, hz1, hz2⟩ := info_parts int_info
  go_enter Tryz.func12, Tryz.ntmps12
  go_wp2_with (first
    | (go_at_call 50; (with_reducible refine (HSp.out _ (HS.out _ (pa (pa (pa (pr)))))).mono ?_); rintro e w' ⟨rfl, rfl⟩))
  refine wp_loop_rounds 4 ?_
  rw [rounds_succ]
  go_wp2_with (first
    | (go_at_call 51; (with_reducible refine (Ha.out _ (HS.out _ (pa (pa (pa (pa (pr))))))).mono ?_); rintro e w1_ ⟨⟨xa, rfl⟩, h1_⟩; have R_1 : Blk w1_ (w.heap.size) 41 #[.int .i64 0, .int .i64 0, .int .i64 0, .slice none 0 0] := (Blk.newAt (by simp)).alloc.alloc.alloc.past h1_; have T_1 : Blk w1_ (w.heap.size + 1) 41 #[.int .i64 0, .int .i64 0, .int .i64 0, .slice none 0 0] := (Blk.newAt (by simp)).alloc.alloc.past h1_; have J_1 : Blk w1_ (w.heap.size + 1 + 1) 92 #[.pointer (some ⟨w.heap.size + 1, 0, none⟩), .pointer (some ⟨w.heap.size + 1, 1, none⟩), .pointer (some ⟨w.heap.size + 1, 2, none⟩)] := (Blk.newAt (by simp)).alloc.past h1_; have P_1 : Blk w1_ (w.heap.size + 1 + 1 + 1) 9 #[.string ⟨a.toArray⟩, .string ⟨b.toArray⟩, .string ⟨c.toArray⟩, .string ⟨d.toArray⟩] := (Blk.newAt (by simp)).past h1_; have ne_T_R : w.heap.size + 1 ≠ w.heap.size := (by omega); have ne_J_R : w.heap.size + 1 + 1 ≠ w.heap.size := (by omega); have ne_P_R : w.heap.size + 1 + 1 + 1 ≠ w.heap.size := (by omega); have ge_R : w.heap.size ≤ w.heap.size := (by omega); have ne_J_T : w.heap.size + 1 + 1 ≠ w.heap.size + 1 := (by omega); have ne_P_T : w.heap.size + 1 + 1 + 1 ≠ w.heap.size + 1 := (by omega); have ge_T : w.heap.size ≤ w.heap.size + 1 := (by omega); have S_1 := pt (pa (pa (pa (pa (pr))))) h1_; have Pc0 := P_1.cellAt 0 rfl; have Pc1 := P_1.cellAt 1 rfl; have Pc2 := P_1.cellAt 2 rfl; have Pc3 := P_1.cellAt 3 rfl; have Pl := P_1.lt; clear h1_)
    | ((with_reducible refine store_sub (T := 3) (x := .tmp 46) (y := .tmp 41) (o := 0) (cs' := #[.int .i64 xa, .int .i64 0, .int .i64 0, .slice none 0 0]) (vs := #[.int .i64 xa]) (show Blk _ (w.heap.size + 1) 41 #[.int .i64 0, .int .i64 0, .int .i64 0, .slice none 0 0] from (T_1)) ?_ ?_ ?_ ?_ ?_ ?_ ?_); (focus rfl); (focus rfl); (focus rfl); (focus exact Nat.le_of_ble_eq_true rfl); (focus exact int_size1); (focus (simp [Value.oneCell']; done)); intro w2_ b2_ h2_; have R_2 : Blk w2_ (w.heap.size) 41 #[.int .i64 0, .int .i64 0, .int .i64 0, .slice none 0 0] := (R_1).put h2_ (Ne.symm ne_T_R); have T_2 : Blk w2_ (w.heap.size + 1) 41 #[.int .i64 xa, .int .i64 0, .int .i64 0, .slice none 0 0] := b2_; have J_2 : Blk w2_ (w.heap.size + 1 + 1) 92 #[.pointer (some ⟨w.heap.size + 1, 0, none⟩), .pointer (some ⟨w.heap.size + 1, 1, none⟩), .pointer (some ⟨w.heap.size + 1, 2, none⟩)] := (J_1).put h2_ ne_J_T; have P_2 : Blk w2_ (w.heap.size + 1 + 1 + 1) 9 #[.string ⟨a.toArray⟩, .string ⟨b.toArray⟩, .string ⟨c.toArray⟩, .string ⟨d.toArray⟩] := (P_1).put h2_ ne_P_T; have S_2 := pp (S_1) h2_ ge_T; clear R_1 T_1 J_1 P_1 S_1 Pc0 Pc1 Pc2 Pc3 Pl; have Pc0 := P_2.cellAt 0 rfl; have Pc1 := P_2.cellAt 1 rfl; have Pc2 := P_2.cellAt 2 rfl; have Pc3 := P_2.cellAt 3 rfl; have Pl := P_2.lt; clear h2_ b2_))
  rw [rounds_succ]
  go_wp2_with (first
    | (go_at_call 51; (with_reducible refine (Hb.out _ (HS.out _ (S_2))).mono ?_); rintro e w3_ ⟨⟨xb, rfl⟩, h3_⟩; have R_3 : Blk w3_ (w.heap.size) 41 #[.int .i64 0, .int .i64 0, .int .i64 0, .slice none 0 0] := (R_2).past h3_; have T_3 : Blk w3_ (w.heap.size + 1) 41 #[.int .i64 xa, .int .i64 0, .int .i64 0, .slice none 0 0] := (T_2).past h3_; have J_3 : Blk w3_ (w.heap.size + 1 + 1) 92 #[.pointer (some ⟨w.heap.size + 1, 0, none⟩), .pointer (some ⟨w.heap.size + 1, 1, none⟩), .pointer (some ⟨w.heap.size + 1, 2, none⟩)] := (J_2).past h3_; have P_3 : Blk w3_ (w.heap.size + 1 + 1 + 1) 9 #[.string ⟨a.toArray⟩, .string ⟨b.toArray⟩, .string ⟨c.toArray⟩, .string ⟨d.toArray⟩] := (P_2).past h3_; have S_3 := pt (S_2) h3_; clear R_2 T_2 J_2 P_2 S_2 Pc0 Pc1 Pc2 Pc3 Pl; have Pc0 := P_3.cellAt 0 rfl; have Pc1 := P_3.cellAt 1 rfl; have Pc2 := P_3.cellAt 2 rfl; have Pc3 := P_3.cellAt 3 rfl; have Pl := P_3.lt; clear h3_)
    | ((with_reducible refine store_sub (T := 3) (x := .tmp 46) (y := .tmp 41) (o := 1) (cs' := #[.int .i64 xa, .int .i64 xb, .int .i64 0, .slice none 0 0]) (vs := #[.int .i64 xb]) (show Blk _ (w.heap.size + 1) 41 #[.int .i64 xa, .int .i64 0, .int .i64 0, .slice none 0 0] from (T_3)) ?_ ?_ ?_ ?_ ?_ ?_ ?_); (focus rfl); (focus rfl); (focus rfl); (focus exact Nat.le_of_ble_eq_true rfl); (focus exact int_size1); (focus (simp [Value.oneCell']; done)); intro w4_ b4_ h4_; have R_4 : Blk w4_ (w.heap.size) 41 #[.int .i64 0, .int .i64 0, .int .i64 0, .slice none 0 0] := (R_3).put h4_ (Ne.symm ne_T_R); have T_4 : Blk w4_ (w.heap.size + 1) 41 #[.int .i64 xa, .int .i64 xb, .int .i64 0, .slice none 0 0] := b4_; have J_4 : Blk w4_ (w.heap.size + 1 + 1) 92 #[.pointer (some ⟨w.heap.size + 1, 0, none⟩), .pointer (some ⟨w.heap.size + 1, 1, none⟩), .pointer (some ⟨w.heap.size + 1, 2, none⟩)] := (J_3).put h4_ ne_J_T; have P_4 : Blk w4_ (w.heap.size + 1 + 1 + 1) 9 #[.string ⟨a.toArray⟩, .string ⟨b.toArray⟩, .string ⟨c.toArray⟩, .string ⟨d.toArray⟩] := (P_3).put h4_ ne_P_T; have S_4 := pp (S_3) h4_ ge_T; clear R_3 T_3 J_3 P_3 S_3 Pc0 Pc1 Pc2 Pc3 Pl; have Pc0 := P_4.cellAt 0 rfl; have Pc1 := P_4.cellAt 1 rfl; have Pc2 := P_4.cellAt 2 rfl; have Pc3 := P_4.cellAt 3 rfl; have Pl := P_4.lt; clear h4_ b4_))
  rw [rounds_succ]
  go_wp2_with (first
    | (go_at_call 51; (with_reducible refine (Hc.out _ (HS.out _ (S_4))).mono ?_); rintro e w5_ ⟨⟨xc, rfl⟩, h5_⟩; have R_5 : Blk w5_ (w.heap.size) 41 #[.int .i64 0, .int .i64 0, .int .i64 0, .slice none 0 0] := (R_4).past h5_; have T_5 : Blk w5_ (w.heap.size + 1) 41 #[.int .i64 xa, .int .i64 xb, .int .i64 0, .slice none 0 0] := (T_4).past h5_; have J_5 : Blk w5_ (w.heap.size + 1 + 1) 92 #[.pointer (some ⟨w.heap.size + 1, 0, none⟩), .pointer (some ⟨w.heap.size + 1, 1, none⟩), .pointer (some ⟨w.heap.size + 1, 2, none⟩)] := (J_4).past h5_; have P_5 : Blk w5_ (w.heap.size + 1 + 1 + 1) 9 #[.string ⟨a.toArray⟩, .string ⟨b.toArray⟩, .string ⟨c.toArray⟩, .string ⟨d.toArray⟩] := (P_4).past h5_; have S_5 := pt (S_4) h5_; clear R_4 T_4 J_4 P_4 S_4 Pc0 Pc1 Pc2 Pc3 Pl; have Pc0 := P_5.cellAt 0 rfl; have Pc1 := P_5.cellAt 1 rfl; have Pc2 := P_5.cellAt 2 rfl; have Pc3 := P_5.cellAt 3 rfl; have Pl := P_5.lt; clear h5_)
    | ((with_reducible refine store_sub (T := 3) (x := .tmp 46) (y := .tmp 41) (o := 2) (cs' := #[.int .i64 xa, .int .i64 xb, .int .i64 xc, .slice none 0 0]) (vs := #[.int .i64 xc]) (show Blk _ (w.heap.size + 1) 41 #[.int .i64 xa, .int .i64 xb, .int .i64 0, .slice none 0 0] from (T_5)) ?_ ?_ ?_ ?_ ?_ ?_ ?_); (focus rfl); (focus rfl); (focus rfl); (focus exact Nat.le_of_ble_eq_true rfl); (focus exact int_size1); (focus (simp [Value.oneCell']; done)); intro w6_ b6_ h6_; have R_6 : Blk w6_ (w.heap.size) 41 #[.int .i64 0, .int .i64 0, .int .i64 0, .slice none 0 0] := (R_5).put h6_ (Ne.symm ne_T_R); have T_6 : Blk w6_ (w.heap.size + 1) 41 #[.int .i64 xa, .int .i64 xb, .int .i64 xc, .slice none 0 0] := b6_; have J_6 : Blk w6_ (w.heap.size + 1 + 1) 92 #[.pointer (some ⟨w.heap.size + 1, 0, none⟩), .pointer (some ⟨w.heap.size + 1, 1, none⟩), .pointer (some ⟨w.heap.size + 1, 2, none⟩)] := (J_5).put h6_ ne_J_T; have P_6 : Blk w6_ (w.heap.size + 1 + 1 + 1) 9 #[.string ⟨a.toArray⟩, .string ⟨b.toArray⟩, .string ⟨c.toArray⟩, .string ⟨d.toArray⟩] := (P_5).put h6_ ne_P_T; have S_6 := pp (S_5) h6_ ge_T; clear R_5 T_5 J_5 P_5 S_5 Pc0 Pc1 Pc2 Pc3 Pl; have Pc0 := P_6.cellAt 0 rfl; have Pc1 := P_6.cellAt 1 rfl; have Pc2 := P_6.cellAt 2 rfl; have Pc3 := P_6.cellAt 3 rfl; have Pl := P_6.lt; clear h6_ b6_))
  rw [rounds_succ]
  go_wp2_with (first
    | (go_at_call 52; (with_reducible refine (HPa.out _ (HS.out _ (S_6))).mono ?_); rintro e w7_ ⟨Ap, cp, gp, rfl, hcp, hgp, hap, h7_⟩; have hgT0 := T_6.lt; have R_7 : Blk w7_ (w.heap.size) 41 #[.int .i64 0, .int .i64 0, .int .i64 0, .slice none 0 0] := (R_6).past h7_; have T_7 : Blk w7_ (w.heap.size + 1) 41 #[.int .i64 xa, .int .i64 xb, .int .i64 xc, .slice none 0 0] := (T_6).past h7_; have J_7 : Blk w7_ (w.heap.size + 1 + 1) 92 #[.pointer (some ⟨w.heap.size + 1, 0, none⟩), .pointer (some ⟨w.heap.size + 1, 1, none⟩), .pointer (some ⟨w.heap.size + 1, 2, none⟩)] := (J_6).past h7_; have P_7 : Blk w7_ (w.heap.size + 1 + 1 + 1) 9 #[.string ⟨a.toArray⟩, .string ⟨b.toArray⟩, .string ⟨c.toArray⟩, .string ⟨d.toArray⟩] := (P_6).past h7_; have S_7 := pt (S_6) h7_; clear R_6 T_6 J_6 P_6 S_6 Pc0 Pc1 Pc2 Pc3 Pl; clear h7_))
  have hgT : w.heap.size + 1 < w7_.heap.size := T_7.lt
  have hwW : w.heap.size ≤ w7_.heap.size := (S_7).size
  go_loopw [7, 53] (fun okv iv wr => ∃ (k : Nat) (A1 : Option Addr) (c1 : Nat) (ys : List Int), okv = .bool false ∧ iv = .int .i64 (k : Int) ∧ k ≤ n ∧ ys.length = k ∧ Blk wr w.heap.size 41 #[.int .i64 0, .int .i64 0, .int .i64 0, .slice none 0 0] ∧ Blk wr (w.heap.size + 1) 41 #[.int .i64 xa, .int .i64 xb, .int .i64 xc, .slice A1 k c1] ∧ wr.ownsRow w7_.heap.size 3 1 (.slice A1 k c1) k (ys.map (Value.int .i64)) ∧ (0 < n → Blk wr gp 9 (P.map strV).toArray) ∧ w7_.heap.size ≤ wr.heap.size ∧ Below w.heap.size w wr) (fun _ iv _ => n - (intOf iv).toNat)
  case atStart => exact ⟨0, none, 0, [], rfl, rfl, Nat.zero_le _, rfl, R_7, T_7, World.ownsRow_nil _ _ _ _, fun h => (hap h).2.2, Nat.le_refl _, S_7⟩
  case round =>
    obtain ⟨k, A1, c1, ys, rfl, rfl, hkn, hys, kR, kT, hown, hpw, hws, hq⟩ := hrel
    have HYs := Lib.hid hys
    have HQ := Lib.hid hq
    have n0 : (0 : Int) ≤ (k : Int) := by omega
    clear hys hq
    by_cases hlt : k < n
    · have n1 : (k : Int) < (n : Int) := by omega
      have hlx : k < P.length := by rw [HP.out]; exact hlt
      obtain ⟨hAp, hgw, _⟩ := hap (by omega)
      subst hAp
      have kP := hpw (by omega)
      have hxm : (P.getD k []).length ≤ 500 := HMem.out _ (by rw [List.getD_eq_getElem?_getD, List.getElem?_eq_getElem hlx]; exact List.getElem_mem hlx)
      have hcell : wr.cell? ⟨gp, k, none⟩ = some (.string ⟨(P.getD k []).toArray⟩) := kP.cellAt k (by rw [List.getElem?_toArray, List.getElem?_map, List.getElem?_eq_getElem hlx, List.getD_eq_getElem?_getD, List.getElem?_eq_getElem hlx]; rfl)
      have e1 : IntKind.i64.wrap ((k : Int) + 1) = (k : Int) + 1 := IntWalk.i64_in _ (by omega)
      have hnum := fun w' hS' => wn_ex (P.getD k []) (by omega) _ rfl w' hS'
      have HNum := Lib.hid hnum
      have HOw := Lib.hid hown
      have HT := Lib.hid kT
      have HR := Lib.hid kR
      have HPk := Lib.hid kP
      have kl := kP.lt
      clear hnum hown kT kR kP hap hpw hcp
      generalize P.getD k [] = x at *
      go_wp2_with (first
        | (go_at_call 51; (with_reducible refine (HNum.out _ (HS.out _ HQ.out)).mono ?_); rintro e w1 ⟨⟨x1, rfl⟩, hb1⟩; have HO1 := Lib.hid ((own_past HOw.out hb1).alloc (.cells #[.int .i64 x1] 3)); have HT1 := HT.out.past hb1; have t3 := HT1.cellAt 3 rfl; have tl := HT1.lt; have HR1 := Lib.hid (HR.out.past hb1); have HP1 := Lib.hid (HPk.out.past hb1); have HQ1 := Lib.hid (pt HQ.out hb1); have HC := Lib.hid (cellsIn_one w1 3 (.int .i64 x1)); have hs1 := HQ1.out.size; have hs2 : w7_.heap.size ≤ w1.heap.size := Nat.le_trans hws hb1.size; clear hb1 hcell)
        | (at_builtin; go_must (refine wpList_append_cells _ rfl (.tmp 63) (.tmp 65) _ rfl w7_.heap.size 3 i0 _ 1 8 Tryz.underlying32 hi0 hz0 hz1 hz2 rfl (by omega) _ k _ rfl HO1.out (w1.heap.size + 1) (some ⟨w1.heap.size, 0, none⟩) 1 1 _ rfl HC.out rfl (by simp [Value.oneCell']) (by simp only [maxLen]; omega) (by omega) (by simp; omega) ?_); intro v4 w4 hown4 hg4 hat4; obtain ⟨A4, c4, rfl, hc4, hm4⟩ := own_form hown4; have HT4 := (HT1.alloc (o := .cells #[.int .i64 x1] 3)).grown hg4 (own_lt HO1.out hgT); have HR4 := Lib.hid ((HR1.out.alloc (o := .cells #[.int .i64 x1] 3)).grown hg4 (own_lt HO1.out (by omega))); have HP4 := Lib.hid ((HP1.out.alloc (o := .cells #[.int .i64 x1] 3)).grown hg4 (own_lt HO1.out (by omega))); have HB4 := Lib.hid (show Below w.heap.size w w4 from pg (pa HQ1.out) HO1.out hwW hg4); have HOwn4 := Lib.hid hown4; have hs4 : w7_.heap.size ≤ w4.heap.size := (by have := hg4.size; simp at this; omega); clear hown4 hg4 hat4 t3 tl; have f3 := HT4.frozen 3; have t3 := HT4.cellAt 3 rfl; have tl := HT4.lt))
      go_roundw
      case rel =>
        refine ⟨k + 1, A4, c4, ys ++ [x1], rfl, by go_num, by omega, by rw [List.length_append, HYs.out]; rfl, HR4.out.far (by simp), HT4.set_ 3 _, ?_, fun _ => HP4.out.far (by simp; omega), by simpa using hs4, ps HB4.out (by simp)⟩
        rw [List.map_append]
        exact ownsRow_setCell_below HOwn4.out (by simp; omega) _
      case measure => simp [intOf]; omega
    · obtain rfl : k = n := by omega
      clear hlt hkn
      obtain ⟨A2, c2, e2, hc2, _⟩ := own_form hown
      injection e2 with e2 e3 e4
      subst e2 e4
      have hyl : ys.length = k := HYs.out
      have HI := Lib.hid (intsIn_of_own hown)
      have HYl := Lib.hid hyl
      have hte := fun w' (hb : Below wr.heap.size wr w') => taskErr_any wr.heap.size ⟨xa, xb, xc, ys⟩ A1 k c1 w' hyl (HI.out.below hb) hb.size (by omega)
      have x0 := kT.lt
      have t0 := kT.cellAt 0 rfl
      have t1 := kT.cellAt 1 rfl
      have t2 := kT.cellAt 2 rfl
      have t3 := kT.cellAt 3 rfl
      generalize taskE ⟨xa, xb, xc, ys⟩ = E1 at *
      have HV := Lib.hid (show firstV [unlessV false 7, E1] = 7 from rfl)
      have HTe := Lib.hid hte
      clear hte hown hyl hap hpw hgp hcp HPa HMem HYs
      go_wp2
      refine region_below 4 follows_mixed (by kernel_rfl) ?_
      intro C hC
      simp only [List.take_succ_cons, List.take_zero, List.drop_succ_cons, List.drop_zero]
      repeat (first
        | ((with_reducible refine quiet_plain rfl (fun K hK => ?_)); (focus (apply quiet_val; (focus (intro w' hw; obtain ⟨hcq, hfq⟩ := bcell ((hC.out _).1 hw); go_simp; (first | done | rfl | (with_reducible exact call_same hw (unless_any _ _ _)) | (with_reducible exact call_below hC hw (HTe.out _ ((hC.out _).1 hw)))))); (simp only [Act.put, List.setIfInBounds_toArray, List.set_cons_succ, List.set_cons_zero]); (with_reducible refine hK _ ?_); clear hK K)))
        | ((with_reducible refine quiet_skip ?_ ?_); (focus (first | (simp [Region.wanted, yielded]; done) | (simp [Region.wanted, yielded, undef]; done))); simp only [Act.put, List.setIfInBounds_toArray, List.set_cons_succ, List.set_cons_zero])
        | ((with_reducible refine quiet_go ?_ (fun K hK => ?_)); (focus (first | (simp [Region.wanted, yielded]; done) | (simp [Region.wanted, yielded, undef]; done))); (focus (apply quiet_val; (focus (intro w' hw; obtain ⟨hcq, hfq⟩ := bcell ((hC.out _).1 hw); go_simp; (first | done | rfl | (with_reducible exact call_same hw (unless_any _ _ _)) | (with_reducible exact call_below hC hw (HTe.out _ ((hC.out _).1 hw)))))); (simp only [Act.put, List.setIfInBounds_toArray, List.set_cons_succ, List.set_cons_zero]); (with_reducible refine hK _ ?_); clear hK K))))
      refine wpQuiet_nil ?_
      intro w1 hb1
      replace hb1 := (hC.out _).1 hb1
      clear hC C
      obtain ⟨hc1, hf1⟩ := bcell hb1
      have R_51 : Blk w1 (w.heap.size) 41 #[.int .i64 0, .int .i64 0, .int .i64 0, .slice none 0 0] := (kR).past hb1
      have T_51 : Blk w1 (w.heap.size + 1) 41 #[.int .i64 xa, .int .i64 xb, .int .i64 xc, .slice A1 k c1] := (kT).past hb1
      have S_51 := pt (HQ.out) hb1
      clear kR kT t0 t1 t2 t3 x0
      have Tc0 := T_51.cellAt 0 rfl
      have Tc1 := T_51.cellAt 1 rfl
      have Tc2 := T_51.cellAt 2 rfl
      have Tc3 := T_51.cellAt 3 rfl
      have Tl := T_51.lt
      have Rc0 := R_51.cellAt 0 rfl
      have Rc1 := R_51.cellAt 1 rfl
      have Rc2 := R_51.cellAt 2 rfl
      have Rc3 := R_51.cellAt 3 rfl
      have Rl := R_51.lt
      clear hb1 hc1 hf1
      obtain ⟨w51_, rfl⟩ : ∃ v, v = w1 := ⟨_, rfl⟩
      go_wp2_with (first
        | (go_at_call 45; (with_reducible refine (first2' _ _ _ _ _ (by first | (go_simp; done) | (go_simp; rfl)) (by first | (go_simp; done) | (go_simp; rfl)) _ HV.out).mono ?_); rintro e w' ⟨rfl, rfl⟩)
        | ((with_reducible refine store_sub (T := 41) (x := .tmp 2) (y := .tmp 81) (o := 0) (cs' := #[.int .i64 0, .int .i64 0, .int .i64 0, .slice none 0 0]) (vs := #[.int .i64 0, .int .i64 0, .int .i64 0, .slice none 0 0]) (show Blk _ (w.heap.size) 41 #[.int .i64 0, .int .i64 0, .int .i64 0, .slice none 0 0] from (R_51.alloc)) ?_ ?_ ?_ ?_ ?_ ?_ ?_); (focus rfl); (focus rfl); (focus rfl); (focus exact Nat.le_of_ble_eq_true rfl); (focus exact task_size4); (focus (simp [Value.oneCell']; done)); intro w53_ b53_ h53_; have R_53 : Blk w53_ (w.heap.size) 41 #[.int .i64 0, .int .i64 0, .int .i64 0, .slice none 0 0] := b53_; have T_53 : Blk w53_ (w.heap.size + 1) 41 #[.int .i64 xa, .int .i64 xb, .int .i64 xc, .slice A1 k c1] := (T_51.alloc).put h53_ (by omega); have E_53 : Blk w53_ (w51_.heap.size) 37 #[.int .i64 (unlessV false 7), .int .i64 E1] := (Blk.newAt (by simp)).put h53_ (by omega); have ne_R_E : w.heap.size ≠ w51_.heap.size := (by have := R_51.lt; omega); have ne_T_E : w.heap.size + 1 ≠ w51_.heap.size := (by have := T_51.lt; omega); have S_53 := pp (pa (S_51)) h53_ ge_R; clear R_51 T_51 S_51 Tc0 Tc1 Tc2 Tc3 Tl Rc0 Rc1 Rc2 Rc3 Rl; clear h53_ b53_))
      have z0 := R_53.cellAt 0 rfl
      have z1 := R_53.cellAt 1 rfl
      have z2 := R_53.cellAt 2 rfl
      have z3 := R_53.cellAt 3 rfl
      exact bodyPost_ret (v := .tuple #[.agg #[.int .i64 0, .int .i64 0, .int .i64 0, .slice none 0 0], .int .i64 7]) (by simp [results, Tryz.results12, go_sem, z0, z1, z2, z3]) rfl (taskPost_bad S_53)
set_option maxHeartbeats 4000000 in
set_option maxRecDepth 100000 in
theorem parT_2 (l a b c d : List UInt8) (hl : l.length ≤ 500) (ha : a.length ≤ 500) (hb : b.length ≤ 500) (hc : c.length ≤ 500) (hd : d.length ≤ 500) (hs : splitL 32 l = [a, b, c, d]) (va : Int) (hxa : numQ 7 a = some va) (hxb : (numQ 7 b).isSome = false) (oc : Bool) (hxc : (numQ 7 c).isSome = oc) (w : World) (hS : StrIn w) :
    Calls Tryz.prog 12 #[.string ⟨l.toArray⟩] w (TaskPost w (⟨0, 0, 0, []⟩, 7)) := by
  have HS := Lib.hid (fun w' (h : Below w.heap.size w w') => hS.kept h)
  have HSp := Lib.hid (fun w' hS' => splitC_any l 32 (by omega) w' hS')
  rw [hs] at HSp
  have HSp := Lib.hid (show ∀ w', StrIn w' → Calls Tryz.prog 50 #[.string ⟨l.toArray⟩, .string ⟨#[32]⟩] w' fun e w'' => e = .returned (.slice (some ⟨w'.heap.size, 0, none⟩) 4 4) ∧ w'' = w'.alloc (.cells #[.string ⟨a.toArray⟩, .string ⟨b.toArray⟩, .string ⟨c.toArray⟩, .string ⟨d.toArray⟩] 9) from HSp.out)
  have hparts := fun w' hS' => parts_new d (by omega) w' hS'
  have hmem := fun x (hx : x ∈ partsL d) => Nat.le_trans (parts_mem hx) hd
  have hn1 : (partsL d).length ≤ 501 := Nat.le_trans (parts_len d) (by omega)
  have Ha := Lib.hid (fun w' hS' => wn_some a (by omega) va hxa w' hS')
  have Hb := Lib.hid (fun w' hS' => wn_ex b (by omega) false hxb w' hS')
  have Hc := Lib.hid (fun w' hS' => wn_ex c (by omega) oc hxc w' hS')
  generalize partsL d = P at *
  have HPa := Lib.hid hparts
  have HMem := Lib.hid hmem
  generalize hP : P.length = n at *
  have HP := Lib.hid hP
  clear hparts hmem hP hS hs hl ha hb hc hd hxa hxb hxc
  obtain ⟨i0, hi0, hz0, hz1, hz2⟩ := info_parts int_info
  go_enter Tryz.func12, Tryz.ntmps12
  go_wp2_with (first
    | (go_at_call 50; (with_reducible refine (HSp.out _ (HS.out _ (pa (pa (pa (pr)))))).mono ?_); rintro e w' ⟨rfl, rfl⟩))
  refine wp_loop_rounds 4 ?_
  rw [rounds_succ]
  go_wp2_with (first
    | (go_at_call 51; (with_reducible refine (Ha.out _ (HS.out _ (pa (pa (pa (pa (pr))))))).mono ?_); rintro e w1_ ⟨rfl, h1_⟩; have R_1 : Blk w1_ (w.heap.size) 41 #[.int .i64 0, .int .i64 0, .int .i64 0, .slice none 0 0] := (Blk.newAt (by simp)).alloc.alloc.alloc.past h1_; have T_1 : Blk w1_ (w.heap.size + 1) 41 #[.int .i64 0, .int .i64 0, .int .i64 0, .slice none 0 0] := (Blk.newAt (by simp)).alloc.alloc.past h1_; have J_1 : Blk w1_ (w.heap.size + 1 + 1) 92 #[.pointer (some ⟨w.heap.size + 1, 0, none⟩), .pointer (some ⟨w.heap.size + 1, 1, none⟩), .pointer (some ⟨w.heap.size + 1, 2, none⟩)] := (Blk.newAt (by simp)).alloc.past h1_; have P_1 : Blk w1_ (w.heap.size + 1 + 1 + 1) 9 #[.string ⟨a.toArray⟩, .string ⟨b.toArray⟩, .string ⟨c.toArray⟩, .string ⟨d.toArray⟩] := (Blk.newAt (by simp)).past h1_; have ne_T_R : w.heap.size + 1 ≠ w.heap.size := (by omega); have ne_J_R : w.heap.size + 1 + 1 ≠ w.heap.size := (by omega); have ne_P_R : w.heap.size + 1 + 1 + 1 ≠ w.heap.size := (by omega); have ge_R : w.heap.size ≤ w.heap.size := (by omega); have ne_J_T : w.heap.size + 1 + 1 ≠ w.heap.size + 1 := (by omega); have ne_P_T : w.heap.size + 1 + 1 + 1 ≠ w.heap.size + 1 := (by omega); have ge_T : w.heap.size ≤ w.heap.size + 1 := (by omega); have S_1 := pt (pa (pa (pa (pa (pr))))) h1_; have Pc0 := P_1.cellAt 0 rfl; have Pc1 := P_1.cellAt 1 rfl; have Pc2 := P_1.cellAt 2 rfl; have Pc3 := P_1.cellAt 3 rfl; have Pl := P_1.lt; clear h1_)
    | ((with_reducible refine store_sub (T := 3) (x := .tmp 46) (y := .tmp 41) (o := 0) (cs' := #[.int .i64 va, .int .i64 0, .int .i64 0, .slice none 0 0]) (vs := #[.int .i64 va]) (show Blk _ (w.heap.size + 1) 41 #[.int .i64 0, .int .i64 0, .int .i64 0, .slice none 0 0] from (T_1)) ?_ ?_ ?_ ?_ ?_ ?_ ?_); (focus rfl); (focus rfl); (focus rfl); (focus exact Nat.le_of_ble_eq_true rfl); (focus exact int_size1); (focus (simp [Value.oneCell']; done)); intro w2_ b2_ h2_; have R_2 : Blk w2_ (w.heap.size) 41 #[.int .i64 0, .int .i64 0, .int .i64 0, .slice none 0 0] := (R_1).put h2_ (Ne.symm ne_T_R); have T_2 : Blk w2_ (w.heap.size + 1) 41 #[.int .i64 va, .int .i64 0, .int .i64 0, .slice none 0 0] := b2_; have J_2 : Blk w2_ (w.heap.size + 1 + 1) 92 #[.pointer (some ⟨w.heap.size + 1, 0, none⟩), .pointer (some ⟨w.heap.size + 1, 1, none⟩), .pointer (some ⟨w.heap.size + 1, 2, none⟩)] := (J_1).put h2_ ne_J_T; have P_2 : Blk w2_ (w.heap.size + 1 + 1 + 1) 9 #[.string ⟨a.toArray⟩, .string ⟨b.toArray⟩, .string ⟨c.toArray⟩, .string ⟨d.toArray⟩] := (P_1).put h2_ ne_P_T; have S_2 := pp (S_1) h2_ ge_T; clear R_1 T_1 J_1 P_1 S_1 Pc0 Pc1 Pc2 Pc3 Pl; have Pc0 := P_2.cellAt 0 rfl; have Pc1 := P_2.cellAt 1 rfl; have Pc2 := P_2.cellAt 2 rfl; have Pc3 := P_2.cellAt 3 rfl; have Pl := P_2.lt; clear h2_ b2_))
  rw [rounds_succ]
  go_wp2_with (first
    | (go_at_call 51; (with_reducible refine (Hb.out _ (HS.out _ (S_2))).mono ?_); rintro e w3_ ⟨⟨xb, rfl⟩, h3_⟩; have R_3 : Blk w3_ (w.heap.size) 41 #[.int .i64 0, .int .i64 0, .int .i64 0, .slice none 0 0] := (R_2).past h3_; have T_3 : Blk w3_ (w.heap.size + 1) 41 #[.int .i64 va, .int .i64 0, .int .i64 0, .slice none 0 0] := (T_2).past h3_; have J_3 : Blk w3_ (w.heap.size + 1 + 1) 92 #[.pointer (some ⟨w.heap.size + 1, 0, none⟩), .pointer (some ⟨w.heap.size + 1, 1, none⟩), .pointer (some ⟨w.heap.size + 1, 2, none⟩)] := (J_2).past h3_; have P_3 : Blk w3_ (w.heap.size + 1 + 1 + 1) 9 #[.string ⟨a.toArray⟩, .string ⟨b.toArray⟩, .string ⟨c.toArray⟩, .string ⟨d.toArray⟩] := (P_2).past h3_; have S_3 := pt (S_2) h3_; clear R_2 T_2 J_2 P_2 S_2 Pc0 Pc1 Pc2 Pc3 Pl; have Pc0 := P_3.cellAt 0 rfl; have Pc1 := P_3.cellAt 1 rfl; have Pc2 := P_3.cellAt 2 rfl; have Pc3 := P_3.cellAt 3 rfl; have Pl := P_3.lt; clear h3_)
    | ((with_reducible refine store_sub (T := 3) (x := .tmp 46) (y := .tmp 41) (o := 1) (cs' := #[.int .i64 va, .int .i64 xb, .int .i64 0, .slice none 0 0]) (vs := #[.int .i64 xb]) (show Blk _ (w.heap.size + 1) 41 #[.int .i64 va, .int .i64 0, .int .i64 0, .slice none 0 0] from (T_3)) ?_ ?_ ?_ ?_ ?_ ?_ ?_); (focus rfl); (focus rfl); (focus rfl); (focus exact Nat.le_of_ble_eq_true rfl); (focus exact int_size1); (focus (simp [Value.oneCell']; done)); intro w4_ b4_ h4_; have R_4 : Blk w4_ (w.heap.size) 41 #[.int .i64 0, .int .i64 0, .int .i64 0, .slice none 0 0] := (R_3).put h4_ (Ne.symm ne_T_R); have T_4 : Blk w4_ (w.heap.size + 1) 41 #[.int .i64 va, .int .i64 xb, .int .i64 0, .slice none 0 0] := b4_; have J_4 : Blk w4_ (w.heap.size + 1 + 1) 92 #[.pointer (some ⟨w.heap.size + 1, 0, none⟩), .pointer (some ⟨w.heap.size + 1, 1, none⟩), .pointer (some ⟨w.heap.size + 1, 2, none⟩)] := (J_3).put h4_ ne_J_T; have P_4 : Blk w4_ (w.heap.size + 1 + 1 + 1) 9 #[.string ⟨a.toArray⟩, .string ⟨b.toArray⟩, .string ⟨c.toArray⟩, .string ⟨d.toArray⟩] := (P_3).put h4_ ne_P_T; have S_4 := pp (S_3) h4_ ge_T; clear R_3 T_3 J_3 P_3 S_3 Pc0 Pc1 Pc2 Pc3 Pl; have Pc0 := P_4.cellAt 0 rfl; have Pc1 := P_4.cellAt 1 rfl; have Pc2 := P_4.cellAt 2 rfl; have Pc3 := P_4.cellAt 3 rfl; have Pl := P_4.lt; clear h4_ b4_))
  rw [rounds_succ]
  go_wp2_with (first
    | (go_at_call 51; (with_reducible refine (Hc.out _ (HS.out _ (S_4))).mono ?_); rintro e w5_ ⟨⟨xc, rfl⟩, h5_⟩; have R_5 : Blk w5_ (w.heap.size) 41 #[.int .i64 0, .int .i64 0, .int .i64 0, .slice none 0 0] := (R_4).past h5_; have T_5 : Blk w5_ (w.heap.size + 1) 41 #[.int .i64 va, .int .i64 xb, .int .i64 0, .slice none 0 0] := (T_4).past h5_; have J_5 : Blk w5_ (w.heap.size + 1 + 1) 92 #[.pointer (some ⟨w.heap.size + 1, 0, none⟩), .pointer (some ⟨w.heap.size + 1, 1, none⟩), .pointer (some ⟨w.heap.size + 1, 2, none⟩)] := (J_4).past h5_; have P_5 : Blk w5_ (w.heap.size + 1 + 1 + 1) 9 #[.string ⟨a.toArray⟩, .string ⟨b.toArray⟩, .string ⟨c.toArray⟩, .string ⟨d.toArray⟩] := (P_4).past h5_; have S_5 := pt (S_4) h5_; clear R_4 T_4 J_4 P_4 S_4 Pc0 Pc1 Pc2 Pc3 Pl; have Pc0 := P_5.cellAt 0 rfl; have Pc1 := P_5.cellAt 1 rfl; have Pc2 := P_5.cellAt 2 rfl; have Pc3 := P_5.cellAt 3 rfl; have Pl := P_5.lt; clear h5_)
    | ((with_reducible refine store_sub (T := 3) (x := .tmp 46) (y := .tmp 41) (o := 2) (cs' := #[.int .i64 va, .int .i64 xb, .int .i64 xc, .slice none 0 0]) (vs := #[.int .i64 xc]) (show Blk _ (w.heap.size + 1) 41 #[.int .i64 va, .int .i64 xb, .int .i64 0, .slice none 0 0] from (T_5)) ?_ ?_ ?_ ?_ ?_ ?_ ?_); (focus rfl); (focus rfl); (focus rfl); (focus exact Nat.le_of_ble_eq_true rfl); (focus exact int_size1); (focus (simp [Value.oneCell']; done)); intro w6_ b6_ h6_; have R_6 : Blk w6_ (w.heap.size) 41 #[.int .i64 0, .int .i64 0, .int .i64 0, .slice none 0 0] := (R_5).put h6_ (Ne.symm ne_T_R); have T_6 : Blk w6_ (w.heap.size + 1) 41 #[.int .i64 va, .int .i64 xb, .int .i64 xc, .slice none 0 0] := b6_; have J_6 : Blk w6_ (w.heap.size + 1 + 1) 92 #[.pointer (some ⟨w.heap.size + 1, 0, none⟩), .pointer (some ⟨w.heap.size + 1, 1, none⟩), .pointer (some ⟨w.heap.size + 1, 2, none⟩)] := (J_5).put h6_ ne_J_T; have P_6 : Blk w6_ (w.heap.size + 1 + 1 + 1) 9 #[.string ⟨a.toArray⟩, .string ⟨b.toArray⟩, .string ⟨c.toArray⟩, .string ⟨d.toArray⟩] := (P_5).put h6_ ne_P_T; have S_6 := pp (S_5) h6_ ge_T; clear R_5 T_5 J_5 P_5 S_5 Pc0 Pc1 Pc2 Pc3 Pl; have Pc0 := P_6.cellAt 0 rfl; have Pc1 := P_6.cellAt 1 rfl; have Pc2 := P_6.cellAt 2 rfl; have Pc3 := P_6.cellAt 3 rfl; have Pl := P_6.lt; clear h6_ b6_))
  rw [rounds_succ]
  go_wp2_with (first
    | (go_at_call 52; (with_reducible refine (HPa.out _ (HS.out _ (S_6))).mono ?_); rintro e w7_ ⟨Ap, cp, gp, rfl, hcp, hgp, hap, h7_⟩; have hgT0 := T_6.lt; have R_7 : Blk w7_ (w.heap.size) 41 #[.int .i64 0, .int .i64 0, .int .i64 0, .slice none 0 0] := (R_6).past h7_; have T_7 : Blk w7_ (w.heap.size + 1) 41 #[.int .i64 va, .int .i64 xb, .int .i64 xc, .slice none 0 0] := (T_6).past h7_; have J_7 : Blk w7_ (w.heap.size + 1 + 1) 92 #[.pointer (some ⟨w.heap.size + 1, 0, none⟩), .pointer (some ⟨w.heap.size + 1, 1, none⟩), .pointer (some ⟨w.heap.size + 1, 2, none⟩)] := (J_6).past h7_; have P_7 : Blk w7_ (w.heap.size + 1 + 1 + 1) 9 #[.string ⟨a.toArray⟩, .string ⟨b.toArray⟩, .string ⟨c.toArray⟩, .string ⟨d.toArray⟩] := (P_6).past h7_; have S_7 := pt (S_6) h7_; clear R_6 T_6 J_6 P_6 S_6 Pc0 Pc1 Pc2 Pc3 Pl; clear h7_))
  have hgT : w.heap.size + 1 < w7_.heap.size := T_7.lt
  have hwW : w.heap.size ≤ w7_.heap.size := (S_7).size
  go_loopw [7, 53] (fun okv iv wr => ∃ (k : Nat) (A1 : Option Addr) (c1 : Nat) (ys : List Int), okv = .bool false ∧ iv = .int .i64 (k : Int) ∧ k ≤ n ∧ ys.length = k ∧ Blk wr w.heap.size 41 #[.int .i64 0, .int .i64 0, .int .i64 0, .slice none 0 0] ∧ Blk wr (w.heap.size + 1) 41 #[.int .i64 va, .int .i64 xb, .int .i64 xc, .slice A1 k c1] ∧ wr.ownsRow w7_.heap.size 3 1 (.slice A1 k c1) k (ys.map (Value.int .i64)) ∧ (0 < n → Blk wr gp 9 (P.map strV).toArray) ∧ w7_.heap.size ≤ wr.heap.size ∧ Below w.heap.size w wr) (fun _ iv _ => n - (intOf iv).toNat)
  case atStart => exact ⟨0, none, 0, [], rfl, rfl, Nat.zero_le _, rfl, R_7, T_7, World.ownsRow_nil _ _ _ _, fun h => (hap h).2.2, Nat.le_refl _, S_7⟩
  case round =>
    obtain ⟨k, A1, c1, ys, rfl, rfl, hkn, hys, kR, kT, hown, hpw, hws, hq⟩ := hrel
    have HYs := Lib.hid hys
    have HQ := Lib.hid hq
    have n0 : (0 : Int) ≤ (k : Int) := by omega
    clear hys hq
    by_cases hlt : k < n
    · have n1 : (k : Int) < (n : Int) := by omega
      have hlx : k < P.length := by rw [HP.out]; exact hlt
      obtain ⟨hAp, hgw, _⟩ := hap (by omega)
      subst hAp
      have kP := hpw (by omega)
      have hxm : (P.getD k []).length ≤ 500 := HMem.out _ (by rw [List.getD_eq_getElem?_getD, List.getElem?_eq_getElem hlx]; exact List.getElem_mem hlx)
      have hcell : wr.cell? ⟨gp, k, none⟩ = some (.string ⟨(P.getD k []).toArray⟩) := kP.cellAt k (by rw [List.getElem?_toArray, List.getElem?_map, List.getElem?_eq_getElem hlx, List.getD_eq_getElem?_getD, List.getElem?_eq_getElem hlx]; rfl)
      have e1 : IntKind.i64.wrap ((k : Int) + 1) = (k : Int) + 1 := IntWalk.i64_in _ (by omega)
      have hnum := fun w' hS' => wn_ex (P.getD k []) (by omega) _ rfl w' hS'
      have HNum := Lib.hid hnum
      have HOw := Lib.hid hown
      have HT := Lib.hid kT
      have HR := Lib.hid kR
      have HPk := Lib.hid kP
      have kl := kP.lt
      clear hnum hown kT kR kP hap hpw hcp
      generalize P.getD k [] = x at *
      go_wp2_with (first
        | (go_at_call 51; (with_reducible refine (HNum.out _ (HS.out _ HQ.out)).mono ?_); rintro e w1 ⟨⟨x1, rfl⟩, hb1⟩; have HO1 := Lib.hid ((own_past HOw.out hb1).alloc (.cells #[.int .i64 x1] 3)); have HT1 := HT.out.past hb1; have t3 := HT1.cellAt 3 rfl; have tl := HT1.lt; have HR1 := Lib.hid (HR.out.past hb1); have HP1 := Lib.hid (HPk.out.past hb1); have HQ1 := Lib.hid (pt HQ.out hb1); have HC := Lib.hid (cellsIn_one w1 3 (.int .i64 x1)); have hs1 := HQ1.out.size; have hs2 : w7_.heap.size ≤ w1.heap.size := Nat.le_trans hws hb1.size; clear hb1 hcell)
        | (at_builtin; go_must (refine wpList_append_cells _ rfl (.tmp 63) (.tmp 65) _ rfl w7_.heap.size 3 i0 _ 1 8 Tryz.underlying32 hi0 hz0 hz1 hz2 rfl (by omega) _ k _ rfl HO1.out (w1.heap.size + 1) (some ⟨w1.heap.size, 0, none⟩) 1 1 _ rfl HC.out rfl (by simp [Value.oneCell']) (by simp only [maxLen]; omega) (by omega) (by simp; omega) ?_); intro v4 w4 hown4 hg4 hat4; obtain ⟨A4, c4, rfl, hc4, hm4⟩ := own_form hown4; have HT4 := (HT1.alloc (o := .cells #[.int .i64 x1] 3)).grown hg4 (own_lt HO1.out hgT); have HR4 := Lib.hid ((HR1.out.alloc (o := .cells #[.int .i64 x1] 3)).grown hg4 (own_lt HO1.out (by omega))); have HP4 := Lib.hid ((HP1.out.alloc (o := .cells #[.int .i64 x1] 3)).grown hg4 (own_lt HO1.out (by omega))); have HB4 := Lib.hid (show Below w.heap.size w w4 from pg (pa HQ1.out) HO1.out hwW hg4); have HOwn4 := Lib.hid hown4; have hs4 : w7_.heap.size ≤ w4.heap.size := (by have := hg4.size; simp at this; omega); clear hown4 hg4 hat4 t3 tl; have f3 := HT4.frozen 3; have t3 := HT4.cellAt 3 rfl; have tl := HT4.lt))
      go_roundw
      case rel =>
        refine ⟨k + 1, A4, c4, ys ++ [x1], rfl, by go_num, by omega, by rw [List.length_append, HYs.out]; rfl, HR4.out.far (by simp), HT4.set_ 3 _, ?_, fun _ => HP4.out.far (by simp; omega), by simpa using hs4, ps HB4.out (by simp)⟩
        rw [List.map_append]
        exact ownsRow_setCell_below HOwn4.out (by simp; omega) _
      case measure => simp [intOf]; omega
    · obtain rfl : k = n := by omega
      clear hlt hkn
      obtain ⟨A2, c2, e2, hc2, _⟩ := own_form hown
      injection e2 with e2 e3 e4
      subst e2 e4
      have hyl : ys.length = k := HYs.out
      have HI := Lib.hid (intsIn_of_own hown)
      have HYl := Lib.hid hyl
      have hte := fun w' (hb : Below wr.heap.size wr w') => taskErr_any wr.heap.size ⟨va, xb, xc, ys⟩ A1 k c1 w' hyl (HI.out.below hb) hb.size (by omega)
      have x0 := kT.lt
      have t0 := kT.cellAt 0 rfl
      have t1 := kT.cellAt 1 rfl
      have t2 := kT.cellAt 2 rfl
      have t3 := kT.cellAt 3 rfl
      generalize taskE ⟨va, xb, xc, ys⟩ = E1 at *
      have HV := Lib.hid (show firstV [unlessV false 7, E1] = 7 from rfl)
      have HTe := Lib.hid hte
      clear hte hown hyl hap hpw hgp hcp HPa HMem HYs
      go_wp2
      refine region_below 4 follows_mixed (by kernel_rfl) ?_
      intro C hC
      simp only [List.take_succ_cons, List.take_zero, List.drop_succ_cons, List.drop_zero]
      repeat (first
        | ((with_reducible refine quiet_plain rfl (fun K hK => ?_)); (focus (apply quiet_val; (focus (intro w' hw; obtain ⟨hcq, hfq⟩ := bcell ((hC.out _).1 hw); go_simp; (first | done | rfl | (with_reducible exact call_same hw (unless_any _ _ _)) | (with_reducible exact call_below hC hw (HTe.out _ ((hC.out _).1 hw)))))); (simp only [Act.put, List.setIfInBounds_toArray, List.set_cons_succ, List.set_cons_zero]); (with_reducible refine hK _ ?_); clear hK K)))
        | ((with_reducible refine quiet_skip ?_ ?_); (focus (first | (simp [Region.wanted, yielded]; done) | (simp [Region.wanted, yielded, undef]; done))); simp only [Act.put, List.setIfInBounds_toArray, List.set_cons_succ, List.set_cons_zero])
        | ((with_reducible refine quiet_go ?_ (fun K hK => ?_)); (focus (first | (simp [Region.wanted, yielded]; done) | (simp [Region.wanted, yielded, undef]; done))); (focus (apply quiet_val; (focus (intro w' hw; obtain ⟨hcq, hfq⟩ := bcell ((hC.out _).1 hw); go_simp; (first | done | rfl | (with_reducible exact call_same hw (unless_any _ _ _)) | (with_reducible exact call_below hC hw (HTe.out _ ((hC.out _).1 hw)))))); (simp only [Act.put, List.setIfInBounds_toArray, List.set_cons_succ, List.set_cons_zero]); (with_reducible refine hK _ ?_); clear hK K))))
      refine wpQuiet_nil ?_
      intro w1 hb1
      replace hb1 := (hC.out _).1 hb1
      clear hC C
      obtain ⟨hc1, hf1⟩ := bcell hb1
      have R_51 : Blk w1 (w.heap.size) 41 #[.int .i64 0, .int .i64 0, .int .i64 0, .slice none 0 0] := (kR).past hb1
      have T_51 : Blk w1 (w.heap.size + 1) 41 #[.int .i64 va, .int .i64 xb, .int .i64 xc, .slice A1 k c1] := (kT).past hb1
      have S_51 := pt (HQ.out) hb1
      clear kR kT t0 t1 t2 t3 x0
      have Tc0 := T_51.cellAt 0 rfl
      have Tc1 := T_51.cellAt 1 rfl
      have Tc2 := T_51.cellAt 2 rfl
      have Tc3 := T_51.cellAt 3 rfl
      have Tl := T_51.lt
      have Rc0 := R_51.cellAt 0 rfl
      have Rc1 := R_51.cellAt 1 rfl
      have Rc2 := R_51.cellAt 2 rfl
      have Rc3 := R_51.cellAt 3 rfl
      have Rl := R_51.lt
      clear hb1 hc1 hf1
      obtain ⟨w51_, rfl⟩ : ∃ v, v = w1 := ⟨_, rfl⟩
      go_wp2_with (first
        | (go_at_call 45; (with_reducible refine (first2' _ _ _ _ _ (by first | (go_simp; done) | (go_simp; rfl)) (by first | (go_simp; done) | (go_simp; rfl)) _ HV.out).mono ?_); rintro e w' ⟨rfl, rfl⟩)
        | ((with_reducible refine store_sub (T := 41) (x := .tmp 2) (y := .tmp 81) (o := 0) (cs' := #[.int .i64 0, .int .i64 0, .int .i64 0, .slice none 0 0]) (vs := #[.int .i64 0, .int .i64 0, .int .i64 0, .slice none 0 0]) (show Blk _ (w.heap.size) 41 #[.int .i64 0, .int .i64 0, .int .i64 0, .slice none 0 0] from (R_51.alloc)) ?_ ?_ ?_ ?_ ?_ ?_ ?_); (focus rfl); (focus rfl); (focus rfl); (focus exact Nat.le_of_ble_eq_true rfl); (focus exact task_size4); (focus (simp [Value.oneCell']; done)); intro w53_ b53_ h53_; have R_53 : Blk w53_ (w.heap.size) 41 #[.int .i64 0, .int .i64 0, .int .i64 0, .slice none 0 0] := b53_; have T_53 : Blk w53_ (w.heap.size + 1) 41 #[.int .i64 va, .int .i64 xb, .int .i64 xc, .slice A1 k c1] := (T_51.alloc).put h53_ (by omega); have E_53 : Blk w53_ (w51_.heap.size) 37 #[.int .i64 (unlessV false 7), .int .i64 E1] := (Blk.newAt (by simp)).put h53_ (by omega); have ne_R_E : w.heap.size ≠ w51_.heap.size := (by have := R_51.lt; omega); have ne_T_E : w.heap.size + 1 ≠ w51_.heap.size := (by have := T_51.lt; omega); have S_53 := pp (pa (S_51)) h53_ ge_R; clear R_51 T_51 S_51 Tc0 Tc1 Tc2 Tc3 Tl Rc0 Rc1 Rc2 Rc3 Rl; clear h53_ b53_))
      have z0 := R_53.cellAt 0 rfl
      have z1 := R_53.cellAt 1 rfl
      have z2 := R_53.cellAt 2 rfl
      have z3 := R_53.cellAt 3 rfl
      exact bodyPost_ret (v := .tuple #[.agg #[.int .i64 0, .int .i64 0, .int .i64 0, .slice none 0 0], .int .i64 7]) (by simp [results, Tryz.results12, go_sem, z0, z1, z2, z3]) rfl (taskPost_bad S_53)
set_option maxHeartbeats 4000000 in
set_option maxRecDepth 100000 in
theorem parT_3 (l a b c d : List UInt8) (hl : l.length ≤ 500) (ha : a.length ≤ 500) (hb : b.length ≤ 500) (hc : c.length ≤ 500) (hd : d.length ≤ 500) (hs : splitL 32 l = [a, b, c, d]) (va vb : Int) (hxa : numQ 7 a = some va) (hxb : numQ 7 b = some vb) (hxc : (numQ 7 c).isSome = false) (w : World) (hS : StrIn w) :
    Calls Tryz.prog 12 #[.string ⟨l.toArray⟩] w (TaskPost w (⟨0, 0, 0, []⟩, 7)) := by
  have HS := Lib.hid (fun w' (h : Below w.heap.size w w') => hS.kept h)
  have HSp := Lib.hid (fun w' hS' => splitC_any l 32 (by omega) w' hS')
  rw [hs] at HSp
  have HSp := Lib.hid (show ∀ w', StrIn w' → Calls Tryz.prog 50 #[.string ⟨l.toArray⟩, .string ⟨#[32]⟩] w' fun e w'' => e = .returned (.slice (some ⟨w'.heap.size, 0, none⟩) 4 4) ∧ w'' = w'.alloc (.cells #[.string ⟨a.toArray⟩, .string ⟨b.toArray⟩, .string ⟨c.toArray⟩, .string ⟨d.toArray⟩] 9) from HSp.out)
  have hparts := fun w' hS' => parts_new d (by omega) w' hS'
  have hmem := fun x (hx : x ∈ partsL d) => Nat.le_trans (parts_mem hx) hd
  have hn1 : (partsL d).length ≤ 501 := Nat.le_trans (parts_len d) (by omega)
  have Ha := Lib.hid (fun w' hS' => wn_some a (by omega) va hxa w' hS')
  have Hb := Lib.hid (fun w' hS' => wn_some b (by omega) vb hxb w' hS')
  have Hc := Lib.hid (fun w' hS' => wn_ex c (by omega) false hxc w' hS')
  generalize partsL d = P at *
  have HPa := Lib.hid hparts
  have HMem := Lib.hid hmem
  generalize hP : P.length = n at *
  have HP := Lib.hid hP
  clear hparts hmem hP hS hs hl ha hb hc hd hxa hxb hxc
  obtain ⟨i0, hi0, hz0, hz1, hz2⟩ := info_parts int_info
  go_enter Tryz.func12, Tryz.ntmps12
  go_wp2_with (first
    | (go_at_call 50; (with_reducible refine (HSp.out _ (HS.out _ (pa (pa (pa (pr)))))).mono ?_); rintro e w' ⟨rfl, rfl⟩))
  refine wp_loop_rounds 4 ?_
  rw [rounds_succ]
  go_wp2_with (first
    | (go_at_call 51; (with_reducible refine (Ha.out _ (HS.out _ (pa (pa (pa (pa (pr))))))).mono ?_); rintro e w1_ ⟨rfl, h1_⟩; have R_1 : Blk w1_ (w.heap.size) 41 #[.int .i64 0, .int .i64 0, .int .i64 0, .slice none 0 0] := (Blk.newAt (by simp)).alloc.alloc.alloc.past h1_; have T_1 : Blk w1_ (w.heap.size + 1) 41 #[.int .i64 0, .int .i64 0, .int .i64 0, .slice none 0 0] := (Blk.newAt (by simp)).alloc.alloc.past h1_; have J_1 : Blk w1_ (w.heap.size + 1 + 1) 92 #[.pointer (some ⟨w.heap.size + 1, 0, none⟩), .pointer (some ⟨w.heap.size + 1, 1, none⟩), .pointer (some ⟨w.heap.size + 1, 2, none⟩)] := (Blk.newAt (by simp)).alloc.past h1_; have P_1 : Blk w1_ (w.heap.size + 1 + 1 + 1) 9 #[.string ⟨a.toArray⟩, .string ⟨b.toArray⟩, .string ⟨c.toArray⟩, .string ⟨d.toArray⟩] := (Blk.newAt (by simp)).past h1_; have ne_T_R : w.heap.size + 1 ≠ w.heap.size := (by omega); have ne_J_R : w.heap.size + 1 + 1 ≠ w.heap.size := (by omega); have ne_P_R : w.heap.size + 1 + 1 + 1 ≠ w.heap.size := (by omega); have ge_R : w.heap.size ≤ w.heap.size := (by omega); have ne_J_T : w.heap.size + 1 + 1 ≠ w.heap.size + 1 := (by omega); have ne_P_T : w.heap.size + 1 + 1 + 1 ≠ w.heap.size + 1 := (by omega); have ge_T : w.heap.size ≤ w.heap.size + 1 := (by omega); have S_1 := pt (pa (pa (pa (pa (pr))))) h1_; have Pc0 := P_1.cellAt 0 rfl; have Pc1 := P_1.cellAt 1 rfl; have Pc2 := P_1.cellAt 2 rfl; have Pc3 := P_1.cellAt 3 rfl; have Pl := P_1.lt; clear h1_)
    | ((with_reducible refine store_sub (T := 3) (x := .tmp 46) (y := .tmp 41) (o := 0) (cs' := #[.int .i64 va, .int .i64 0, .int .i64 0, .slice none 0 0]) (vs := #[.int .i64 va]) (show Blk _ (w.heap.size + 1) 41 #[.int .i64 0, .int .i64 0, .int .i64 0, .slice none 0 0] from (T_1)) ?_ ?_ ?_ ?_ ?_ ?_ ?_); (focus rfl); (focus rfl); (focus rfl); (focus exact Nat.le_of_ble_eq_true rfl); (focus exact int_size1); (focus (simp [Value.oneCell']; done)); intro w2_ b2_ h2_; have R_2 : Blk w2_ (w.heap.size) 41 #[.int .i64 0, .int .i64 0, .int .i64 0, .slice none 0 0] := (R_1).put h2_ (Ne.symm ne_T_R); have T_2 : Blk w2_ (w.heap.size + 1) 41 #[.int .i64 va, .int .i64 0, .int .i64 0, .slice none 0 0] := b2_; have J_2 : Blk w2_ (w.heap.size + 1 + 1) 92 #[.pointer (some ⟨w.heap.size + 1, 0, none⟩), .pointer (some ⟨w.heap.size + 1, 1, none⟩), .pointer (some ⟨w.heap.size + 1, 2, none⟩)] := (J_1).put h2_ ne_J_T; have P_2 : Blk w2_ (w.heap.size + 1 + 1 + 1) 9 #[.string ⟨a.toArray⟩, .string ⟨b.toArray⟩, .string ⟨c.toArray⟩, .string ⟨d.toArray⟩] := (P_1).put h2_ ne_P_T; have S_2 := pp (S_1) h2_ ge_T; clear R_1 T_1 J_1 P_1 S_1 Pc0 Pc1 Pc2 Pc3 Pl; have Pc0 := P_2.cellAt 0 rfl; have Pc1 := P_2.cellAt 1 rfl; have Pc2 := P_2.cellAt 2 rfl; have Pc3 := P_2.cellAt 3 rfl; have Pl := P_2.lt; clear h2_ b2_))
  rw [rounds_succ]
  go_wp2_with (first
    | (go_at_call 51; (with_reducible refine (Hb.out _ (HS.out _ (S_2))).mono ?_); rintro e w3_ ⟨rfl, h3_⟩; have R_3 : Blk w3_ (w.heap.size) 41 #[.int .i64 0, .int .i64 0, .int .i64 0, .slice none 0 0] := (R_2).past h3_; have T_3 : Blk w3_ (w.heap.size + 1) 41 #[.int .i64 va, .int .i64 0, .int .i64 0, .slice none 0 0] := (T_2).past h3_; have J_3 : Blk w3_ (w.heap.size + 1 + 1) 92 #[.pointer (some ⟨w.heap.size + 1, 0, none⟩), .pointer (some ⟨w.heap.size + 1, 1, none⟩), .pointer (some ⟨w.heap.size + 1, 2, none⟩)] := (J_2).past h3_; have P_3 : Blk w3_ (w.heap.size + 1 + 1 + 1) 9 #[.string ⟨a.toArray⟩, .string ⟨b.toArray⟩, .string ⟨c.toArray⟩, .string ⟨d.toArray⟩] := (P_2).past h3_; have S_3 := pt (S_2) h3_; clear R_2 T_2 J_2 P_2 S_2 Pc0 Pc1 Pc2 Pc3 Pl; have Pc0 := P_3.cellAt 0 rfl; have Pc1 := P_3.cellAt 1 rfl; have Pc2 := P_3.cellAt 2 rfl; have Pc3 := P_3.cellAt 3 rfl; have Pl := P_3.lt; clear h3_)
    | ((with_reducible refine store_sub (T := 3) (x := .tmp 46) (y := .tmp 41) (o := 1) (cs' := #[.int .i64 va, .int .i64 vb, .int .i64 0, .slice none 0 0]) (vs := #[.int .i64 vb]) (show Blk _ (w.heap.size + 1) 41 #[.int .i64 va, .int .i64 0, .int .i64 0, .slice none 0 0] from (T_3)) ?_ ?_ ?_ ?_ ?_ ?_ ?_); (focus rfl); (focus rfl); (focus rfl); (focus exact Nat.le_of_ble_eq_true rfl); (focus exact int_size1); (focus (simp [Value.oneCell']; done)); intro w4_ b4_ h4_; have R_4 : Blk w4_ (w.heap.size) 41 #[.int .i64 0, .int .i64 0, .int .i64 0, .slice none 0 0] := (R_3).put h4_ (Ne.symm ne_T_R); have T_4 : Blk w4_ (w.heap.size + 1) 41 #[.int .i64 va, .int .i64 vb, .int .i64 0, .slice none 0 0] := b4_; have J_4 : Blk w4_ (w.heap.size + 1 + 1) 92 #[.pointer (some ⟨w.heap.size + 1, 0, none⟩), .pointer (some ⟨w.heap.size + 1, 1, none⟩), .pointer (some ⟨w.heap.size + 1, 2, none⟩)] := (J_3).put h4_ ne_J_T; have P_4 : Blk w4_ (w.heap.size + 1 + 1 + 1) 9 #[.string ⟨a.toArray⟩, .string ⟨b.toArray⟩, .string ⟨c.toArray⟩, .string ⟨d.toArray⟩] := (P_3).put h4_ ne_P_T; have S_4 := pp (S_3) h4_ ge_T; clear R_3 T_3 J_3 P_3 S_3 Pc0 Pc1 Pc2 Pc3 Pl; have Pc0 := P_4.cellAt 0 rfl; have Pc1 := P_4.cellAt 1 rfl; have Pc2 := P_4.cellAt 2 rfl; have Pc3 := P_4.cellAt 3 rfl; have Pl := P_4.lt; clear h4_ b4_))
  rw [rounds_succ]
  go_wp2_with (first
    | (go_at_call 51; (with_reducible refine (Hc.out _ (HS.out _ (S_4))).mono ?_); rintro e w5_ ⟨⟨xc, rfl⟩, h5_⟩; have R_5 : Blk w5_ (w.heap.size) 41 #[.int .i64 0, .int .i64 0, .int .i64 0, .slice none 0 0] := (R_4).past h5_; have T_5 : Blk w5_ (w.heap.size + 1) 41 #[.int .i64 va, .int .i64 vb, .int .i64 0, .slice none 0 0] := (T_4).past h5_; have J_5 : Blk w5_ (w.heap.size + 1 + 1) 92 #[.pointer (some ⟨w.heap.size + 1, 0, none⟩), .pointer (some ⟨w.heap.size + 1, 1, none⟩), .pointer (some ⟨w.heap.size + 1, 2, none⟩)] := (J_4).past h5_; have P_5 : Blk w5_ (w.heap.size + 1 + 1 + 1) 9 #[.string ⟨a.toArray⟩, .string ⟨b.toArray⟩, .string ⟨c.toArray⟩, .string ⟨d.toArray⟩] := (P_4).past h5_; have S_5 := pt (S_4) h5_; clear R_4 T_4 J_4 P_4 S_4 Pc0 Pc1 Pc2 Pc3 Pl; have Pc0 := P_5.cellAt 0 rfl; have Pc1 := P_5.cellAt 1 rfl; have Pc2 := P_5.cellAt 2 rfl; have Pc3 := P_5.cellAt 3 rfl; have Pl := P_5.lt; clear h5_)
    | ((with_reducible refine store_sub (T := 3) (x := .tmp 46) (y := .tmp 41) (o := 2) (cs' := #[.int .i64 va, .int .i64 vb, .int .i64 xc, .slice none 0 0]) (vs := #[.int .i64 xc]) (show Blk _ (w.heap.size + 1) 41 #[.int .i64 va, .int .i64 vb, .int .i64 0, .slice none 0 0] from (T_5)) ?_ ?_ ?_ ?_ ?_ ?_ ?_); (focus rfl); (focus rfl); (focus rfl); (focus exact Nat.le_of_ble_eq_true rfl); (focus exact int_size1); (focus (simp [Value.oneCell']; done)); intro w6_ b6_ h6_; have R_6 : Blk w6_ (w.heap.size) 41 #[.int .i64 0, .int .i64 0, .int .i64 0, .slice none 0 0] := (R_5).put h6_ (Ne.symm ne_T_R); have T_6 : Blk w6_ (w.heap.size + 1) 41 #[.int .i64 va, .int .i64 vb, .int .i64 xc, .slice none 0 0] := b6_; have J_6 : Blk w6_ (w.heap.size + 1 + 1) 92 #[.pointer (some ⟨w.heap.size + 1, 0, none⟩), .pointer (some ⟨w.heap.size + 1, 1, none⟩), .pointer (some ⟨w.heap.size + 1, 2, none⟩)] := (J_5).put h6_ ne_J_T; have P_6 : Blk w6_ (w.heap.size + 1 + 1 + 1) 9 #[.string ⟨a.toArray⟩, .string ⟨b.toArray⟩, .string ⟨c.toArray⟩, .string ⟨d.toArray⟩] := (P_5).put h6_ ne_P_T; have S_6 := pp (S_5) h6_ ge_T; clear R_5 T_5 J_5 P_5 S_5 Pc0 Pc1 Pc2 Pc3 Pl; have Pc0 := P_6.cellAt 0 rfl; have Pc1 := P_6.cellAt 1 rfl; have Pc2 := P_6.cellAt 2 rfl; have Pc3 := P_6.cellAt 3 rfl; have Pl := P_6.lt; clear h6_ b6_))
  rw [rounds_succ]
  go_wp2_with (first
    | (go_at_call 52; (with_reducible refine (HPa.out _ (HS.out _ (S_6))).mono ?_); rintro e w7_ ⟨Ap, cp, gp, rfl, hcp, hgp, hap, h7_⟩; have hgT0 := T_6.lt; have R_7 : Blk w7_ (w.heap.size) 41 #[.int .i64 0, .int .i64 0, .int .i64 0, .slice none 0 0] := (R_6).past h7_; have T_7 : Blk w7_ (w.heap.size + 1) 41 #[.int .i64 va, .int .i64 vb, .int .i64 xc, .slice none 0 0] := (T_6).past h7_; have J_7 : Blk w7_ (w.heap.size + 1 + 1) 92 #[.pointer (some ⟨w.heap.size + 1, 0, none⟩), .pointer (some ⟨w.heap.size + 1, 1, none⟩), .pointer (some ⟨w.heap.size + 1, 2, none⟩)] := (J_6).past h7_; have P_7 : Blk w7_ (w.heap.size + 1 + 1 + 1) 9 #[.string ⟨a.toArray⟩, .string ⟨b.toArray⟩, .string ⟨c.toArray⟩, .string ⟨d.toArray⟩] := (P_6).past h7_; have S_7 := pt (S_6) h7_; clear R_6 T_6 J_6 P_6 S_6 Pc0 Pc1 Pc2 Pc3 Pl; clear h7_))
  have hgT : w.heap.size + 1 < w7_.heap.size := T_7.lt
  have hwW : w.heap.size ≤ w7_.heap.size := (S_7).size
  go_loopw [7, 53] (fun okv iv wr => ∃ (k : Nat) (A1 : Option Addr) (c1 : Nat) (ys : List Int), okv = .bool false ∧ iv = .int .i64 (k : Int) ∧ k ≤ n ∧ ys.length = k ∧ Blk wr w.heap.size 41 #[.int .i64 0, .int .i64 0, .int .i64 0, .slice none 0 0] ∧ Blk wr (w.heap.size + 1) 41 #[.int .i64 va, .int .i64 vb, .int .i64 xc, .slice A1 k c1] ∧ wr.ownsRow w7_.heap.size 3 1 (.slice A1 k c1) k (ys.map (Value.int .i64)) ∧ (0 < n → Blk wr gp 9 (P.map strV).toArray) ∧ w7_.heap.size ≤ wr.heap.size ∧ Below w.heap.size w wr) (fun _ iv _ => n - (intOf iv).toNat)
  case atStart => exact ⟨0, none, 0, [], rfl, rfl, Nat.zero_le _, rfl, R_7, T_7, World.ownsRow_nil _ _ _ _, fun h => (hap h).2.2, Nat.le_refl _, S_7⟩
  case round =>
    obtain ⟨k, A1, c1, ys, rfl, rfl, hkn, hys, kR, kT, hown, hpw, hws, hq⟩ := hrel
    have HYs := Lib.hid hys
    have HQ := Lib.hid hq
    have n0 : (0 : Int) ≤ (k : Int) := by omega
    clear hys hq
    by_cases hlt : k < n
    · have n1 : (k : Int) < (n : Int) := by omega
      have hlx : k < P.length := by rw [HP.out]; exact hlt
      obtain ⟨hAp, hgw, _⟩ := hap (by omega)
      subst hAp
      have kP := hpw (by omega)
      have hxm : (P.getD k []).length ≤ 500 := HMem.out _ (by rw [List.getD_eq_getElem?_getD, List.getElem?_eq_getElem hlx]; exact List.getElem_mem hlx)
      have hcell : wr.cell? ⟨gp, k, none⟩ = some (.string ⟨(P.getD k []).toArray⟩) := kP.cellAt k (by rw [List.getElem?_toArray, List.getElem?_map, List.getElem?_eq_getElem hlx, List.getD_eq_getElem?_getD, List.getElem?_eq_getElem hlx]; rfl)
      have e1 : IntKind.i64.wrap ((k : Int) + 1) = (k : Int) + 1 := IntWalk.i64_in _ (by omega)
      have hnum := fun w' hS' => wn_ex (P.getD k []) (by omega) _ rfl w' hS'
      have HNum := Lib.hid hnum
      have HOw := Lib.hid hown
      have HT := Lib.hid kT
      have HR := Lib.hid kR
      have HPk := Lib.hid kP
      have kl := kP.lt
      clear hnum hown kT kR kP hap hpw hcp
      generalize P.getD k [] = x at *
      go_wp2_with (first
        | (go_at_call 51; (with_reducible refine (HNum.out _ (HS.out _ HQ.out)).mono ?_); rintro e w1 ⟨⟨x1, rfl⟩, hb1⟩; have HO1 := Lib.hid ((own_past HOw.out hb1).alloc (.cells #[.int .i64 x1] 3)); have HT1 := HT.out.past hb1; have t3 := HT1.cellAt 3 rfl; have tl := HT1.lt; have HR1 := Lib.hid (HR.out.past hb1); have HP1 := Lib.hid (HPk.out.past hb1); have HQ1 := Lib.hid (pt HQ.out hb1); have HC := Lib.hid (cellsIn_one w1 3 (.int .i64 x1)); have hs1 := HQ1.out.size; have hs2 : w7_.heap.size ≤ w1.heap.size := Nat.le_trans hws hb1.size; clear hb1 hcell)
        | (at_builtin; go_must (refine wpList_append_cells _ rfl (.tmp 63) (.tmp 65) _ rfl w7_.heap.size 3 i0 _ 1 8 Tryz.underlying32 hi0 hz0 hz1 hz2 rfl (by omega) _ k _ rfl HO1.out (w1.heap.size + 1) (some ⟨w1.heap.size, 0, none⟩) 1 1 _ rfl HC.out rfl (by simp [Value.oneCell']) (by simp only [maxLen]; omega) (by omega) (by simp; omega) ?_); intro v4 w4 hown4 hg4 hat4; obtain ⟨A4, c4, rfl, hc4, hm4⟩ := own_form hown4; have HT4 := (HT1.alloc (o := .cells #[.int .i64 x1] 3)).grown hg4 (own_lt HO1.out hgT); have HR4 := Lib.hid ((HR1.out.alloc (o := .cells #[.int .i64 x1] 3)).grown hg4 (own_lt HO1.out (by omega))); have HP4 := Lib.hid ((HP1.out.alloc (o := .cells #[.int .i64 x1] 3)).grown hg4 (own_lt HO1.out (by omega))); have HB4 := Lib.hid (show Below w.heap.size w w4 from pg (pa HQ1.out) HO1.out hwW hg4); have HOwn4 := Lib.hid hown4; have hs4 : w7_.heap.size ≤ w4.heap.size := (by have := hg4.size; simp at this; omega); clear hown4 hg4 hat4 t3 tl; have f3 := HT4.frozen 3; have t3 := HT4.cellAt 3 rfl; have tl := HT4.lt))
      go_roundw
      case rel =>
        refine ⟨k + 1, A4, c4, ys ++ [x1], rfl, by go_num, by omega, by rw [List.length_append, HYs.out]; rfl, HR4.out.far (by simp), HT4.set_ 3 _, ?_, fun _ => HP4.out.far (by simp; omega), by simpa using hs4, ps HB4.out (by simp)⟩
        rw [List.map_append]
        exact ownsRow_setCell_below HOwn4.out (by simp; omega) _
      case measure => simp [intOf]; omega
    · obtain rfl : k = n := by omega
      clear hlt hkn
      obtain ⟨A2, c2, e2, hc2, _⟩ := own_form hown
      injection e2 with e2 e3 e4
      subst e2 e4
      have hyl : ys.length = k := HYs.out
      have HI := Lib.hid (intsIn_of_own hown)
      have HYl := Lib.hid hyl
      have hte := fun w' (hb : Below wr.heap.size wr w') => taskErr_any wr.heap.size ⟨va, vb, xc, ys⟩ A1 k c1 w' hyl (HI.out.below hb) hb.size (by omega)
      have x0 := kT.lt
      have t0 := kT.cellAt 0 rfl
      have t1 := kT.cellAt 1 rfl
      have t2 := kT.cellAt 2 rfl
      have t3 := kT.cellAt 3 rfl
      generalize taskE ⟨va, vb, xc, ys⟩ = E1 at *
      have HV := Lib.hid (show firstV [unlessV false 7, E1] = 7 from rfl)
      have HTe := Lib.hid hte
      clear hte hown hyl hap hpw hgp hcp HPa HMem HYs
      go_wp2
      refine region_below 4 follows_mixed (by kernel_rfl) ?_
      intro C hC
      simp only [List.take_succ_cons, List.take_zero, List.drop_succ_cons, List.drop_zero]
      repeat (first
        | ((with_reducible refine quiet_plain rfl (fun K hK => ?_)); (focus (apply quiet_val; (focus (intro w' hw; obtain ⟨hcq, hfq⟩ := bcell ((hC.out _).1 hw); go_simp; (first | done | rfl | (with_reducible exact call_same hw (unless_any _ _ _)) | (with_reducible exact call_below hC hw (HTe.out _ ((hC.out _).1 hw)))))); (simp only [Act.put, List.setIfInBounds_toArray, List.set_cons_succ, List.set_cons_zero]); (with_reducible refine hK _ ?_); clear hK K)))
        | ((with_reducible refine quiet_skip ?_ ?_); (focus (first | (simp [Region.wanted, yielded]; done) | (simp [Region.wanted, yielded, undef]; done))); simp only [Act.put, List.setIfInBounds_toArray, List.set_cons_succ, List.set_cons_zero])
        | ((with_reducible refine quiet_go ?_ (fun K hK => ?_)); (focus (first | (simp [Region.wanted, yielded]; done) | (simp [Region.wanted, yielded, undef]; done))); (focus (apply quiet_val; (focus (intro w' hw; obtain ⟨hcq, hfq⟩ := bcell ((hC.out _).1 hw); go_simp; (first | done | rfl | (with_reducible exact call_same hw (unless_any _ _ _)) | (with_reducible exact call_below hC hw (HTe.out _ ((hC.out _).1 hw)))))); (simp only [Act.put, List.setIfInBounds_toArray, List.set_cons_succ, List.set_cons_zero]); (with_reducible refine hK _ ?_); clear hK K))))
      refine wpQuiet_nil ?_
      intro w1 hb1
      replace hb1 := (hC.out _).1 hb1
      clear hC C
      obtain ⟨hc1, hf1⟩ := bcell hb1
      have R_51 : Blk w1 (w.heap.size) 41 #[.int .i64 0, .int .i64 0, .int .i64 0, .slice none 0 0] := (kR).past hb1
      have T_51 : Blk w1 (w.heap.size + 1) 41 #[.int .i64 va, .int .i64 vb, .int .i64 xc, .slice A1 k c1] := (kT).past hb1
      have S_51 := pt (HQ.out) hb1
      clear kR kT t0 t1 t2 t3 x0
      have Tc0 := T_51.cellAt 0 rfl
      have Tc1 := T_51.cellAt 1 rfl
      have Tc2 := T_51.cellAt 2 rfl
      have Tc3 := T_51.cellAt 3 rfl
      have Tl := T_51.lt
      have Rc0 := R_51.cellAt 0 rfl
      have Rc1 := R_51.cellAt 1 rfl
      have Rc2 := R_51.cellAt 2 rfl
      have Rc3 := R_51.cellAt 3 rfl
      have Rl := R_51.lt
      clear hb1 hc1 hf1
      obtain ⟨w51_, rfl⟩ : ∃ v, v = w1 := ⟨_, rfl⟩
      go_wp2_with (first
        | (go_at_call 45; (with_reducible refine (first2' _ _ _ _ _ (by first | (go_simp; done) | (go_simp; rfl)) (by first | (go_simp; done) | (go_simp; rfl)) _ HV.out).mono ?_); rintro e w' ⟨rfl, rfl⟩)
        | ((with_reducible refine store_sub (T := 41) (x := .tmp 2) (y := .tmp 81) (o := 0) (cs' := #[.int .i64 0, .int .i64 0, .int .i64 0, .slice none 0 0]) (vs := #[.int .i64 0, .int .i64 0, .int .i64 0, .slice none 0 0]) (show Blk _ (w.heap.size) 41 #[.int .i64 0, .int .i64 0, .int .i64 0, .slice none 0 0] from (R_51.alloc)) ?_ ?_ ?_ ?_ ?_ ?_ ?_); (focus rfl); (focus rfl); (focus rfl); (focus exact Nat.le_of_ble_eq_true rfl); (focus exact task_size4); (focus (simp [Value.oneCell']; done)); intro w53_ b53_ h53_; have R_53 : Blk w53_ (w.heap.size) 41 #[.int .i64 0, .int .i64 0, .int .i64 0, .slice none 0 0] := b53_; have T_53 : Blk w53_ (w.heap.size + 1) 41 #[.int .i64 va, .int .i64 vb, .int .i64 xc, .slice A1 k c1] := (T_51.alloc).put h53_ (by omega); have E_53 : Blk w53_ (w51_.heap.size) 37 #[.int .i64 (unlessV false 7), .int .i64 E1] := (Blk.newAt (by simp)).put h53_ (by omega); have ne_R_E : w.heap.size ≠ w51_.heap.size := (by have := R_51.lt; omega); have ne_T_E : w.heap.size + 1 ≠ w51_.heap.size := (by have := T_51.lt; omega); have S_53 := pp (pa (S_51)) h53_ ge_R; clear R_51 T_51 S_51 Tc0 Tc1 Tc2 Tc3 Tl Rc0 Rc1 Rc2 Rc3 Rl; clear h53_ b53_))
      have z0 := R_53.cellAt 0 rfl
      have z1 := R_53.cellAt 1 rfl
      have z2 := R_53.cellAt 2 rfl
      have z3 := R_53.cellAt 3 rfl
      exact bodyPost_ret (v := .tuple #[.agg #[.int .i64 0, .int .i64 0, .int .i64 0, .slice none 0 0], .int .i64 7]) (by simp [results, Tryz.results12, go_sem, z0, z1, z2, z3]) rfl (taskPost_bad S_53)
set_option maxHeartbeats 4000000 in
set_option maxRecDepth 100000 in
theorem parT_4n (l a b c d : List UInt8) (hl : l.length ≤ 500) (ha : a.length ≤ 500) (hb : b.length ≤ 500) (hc : c.length ≤ 500) (hd : d.length ≤ 500) (hs : splitL 32 l = [a, b, c, d]) (va vb vc : Int) (hxa : numQ 7 a = some va) (hxb : numQ 7 b = some vb) (hxc : numQ 7 c = some vc) (hxd : (numsQ 7 (partsL d)).isSome = false) (w : World) (hS : StrIn w) :
    Calls Tryz.prog 12 #[.string ⟨l.toArray⟩] w (TaskPost w (⟨0, 0, 0, []⟩, 7)) := by
  have HS := Lib.hid (fun w' (h : Below w.heap.size w w') => hS.kept h)
  have HSp := Lib.hid (fun w' hS' => splitC_any l 32 (by omega) w' hS')
  rw [hs] at HSp
  have HSp := Lib.hid (show ∀ w', StrIn w' → Calls Tryz.prog 50 #[.string ⟨l.toArray⟩, .string ⟨#[32]⟩] w' fun e w'' => e = .returned (.slice (some ⟨w'.heap.size, 0, none⟩) 4 4) ∧ w'' = w'.alloc (.cells #[.string ⟨a.toArray⟩, .string ⟨b.toArray⟩, .string ⟨c.toArray⟩, .string ⟨d.toArray⟩] 9) from HSp.out)
  have hparts := fun w' hS' => parts_new d (by omega) w' hS'
  have hmem := fun x (hx : x ∈ partsL d) => Nat.le_trans (parts_mem hx) hd
  have hn1 : (partsL d).length ≤ 501 := Nat.le_trans (parts_len d) (by omega)
  have Ha := Lib.hid (fun w' hS' => wn_some a (by omega) va hxa w' hS')
  have Hb := Lib.hid (fun w' hS' => wn_some b (by omega) vb hxb w' hS')
  have Hc := Lib.hid (fun w' hS' => wn_some c (by omega) vc hxc w' hS')
  have HNq := Lib.hid hxd
  clear hxd
  generalize partsL d = P at *
  have HPa := Lib.hid hparts
  have HMem := Lib.hid hmem
  generalize hP : P.length = n at *
  have HP := Lib.hid hP
  clear hparts hmem hP hS hs hl ha hb hc hd hxa hxb hxc
  obtain ⟨i0, hi0, hz0, hz1, hz2⟩ := info_parts int_info
  go_enter Tryz.func12, Tryz.ntmps12
  go_wp2_with (first
    | (go_at_call 50; (with_reducible refine (HSp.out _ (HS.out _ (pa (pa (pa (pr)))))).mono ?_); rintro e w' ⟨rfl, rfl⟩))
  refine wp_loop_rounds 4 ?_
  rw [rounds_succ]
  go_wp2_with (first
    | (go_at_call 51; (with_reducible refine (Ha.out _ (HS.out _ (pa (pa (pa (pa (pr))))))).mono ?_); rintro e w1_ ⟨rfl, h1_⟩; have R_1 : Blk w1_ (w.heap.size) 41 #[.int .i64 0, .int .i64 0, .int .i64 0, .slice none 0 0] := (Blk.newAt (by simp)).alloc.alloc.alloc.past h1_; have T_1 : Blk w1_ (w.heap.size + 1) 41 #[.int .i64 0, .int .i64 0, .int .i64 0, .slice none 0 0] := (Blk.newAt (by simp)).alloc.alloc.past h1_; have J_1 : Blk w1_ (w.heap.size + 1 + 1) 92 #[.pointer (some ⟨w.heap.size + 1, 0, none⟩), .pointer (some ⟨w.heap.size + 1, 1, none⟩), .pointer (some ⟨w.heap.size + 1, 2, none⟩)] := (Blk.newAt (by simp)).alloc.past h1_; have P_1 : Blk w1_ (w.heap.size + 1 + 1 + 1) 9 #[.string ⟨a.toArray⟩, .string ⟨b.toArray⟩, .string ⟨c.toArray⟩, .string ⟨d.toArray⟩] := (Blk.newAt (by simp)).past h1_; have ne_T_R : w.heap.size + 1 ≠ w.heap.size := (by omega); have ne_J_R : w.heap.size + 1 + 1 ≠ w.heap.size := (by omega); have ne_P_R : w.heap.size + 1 + 1 + 1 ≠ w.heap.size := (by omega); have ge_R : w.heap.size ≤ w.heap.size := (by omega); have ne_J_T : w.heap.size + 1 + 1 ≠ w.heap.size + 1 := (by omega); have ne_P_T : w.heap.size + 1 + 1 + 1 ≠ w.heap.size + 1 := (by omega); have ge_T : w.heap.size ≤ w.heap.size + 1 := (by omega); have S_1 := pt (pa (pa (pa (pa (pr))))) h1_; have Pc0 := P_1.cellAt 0 rfl; have Pc1 := P_1.cellAt 1 rfl; have Pc2 := P_1.cellAt 2 rfl; have Pc3 := P_1.cellAt 3 rfl; have Pl := P_1.lt; clear h1_)
    | ((with_reducible refine store_sub (T := 3) (x := .tmp 46) (y := .tmp 41) (o := 0) (cs' := #[.int .i64 va, .int .i64 0, .int .i64 0, .slice none 0 0]) (vs := #[.int .i64 va]) (show Blk _ (w.heap.size + 1) 41 #[.int .i64 0, .int .i64 0, .int .i64 0, .slice none 0 0] from (T_1)) ?_ ?_ ?_ ?_ ?_ ?_ ?_); (focus rfl); (focus rfl); (focus rfl); (focus exact Nat.le_of_ble_eq_true rfl); (focus exact int_size1); (focus (simp [Value.oneCell']; done)); intro w2_ b2_ h2_; have R_2 : Blk w2_ (w.heap.size) 41 #[.int .i64 0, .int .i64 0, .int .i64 0, .slice none 0 0] := (R_1).put h2_ (Ne.symm ne_T_R); have T_2 : Blk w2_ (w.heap.size + 1) 41 #[.int .i64 va, .int .i64 0, .int .i64 0, .slice none 0 0] := b2_; have J_2 : Blk w2_ (w.heap.size + 1 + 1) 92 #[.pointer (some ⟨w.heap.size + 1, 0, none⟩), .pointer (some ⟨w.heap.size + 1, 1, none⟩), .pointer (some ⟨w.heap.size + 1, 2, none⟩)] := (J_1).put h2_ ne_J_T; have P_2 : Blk w2_ (w.heap.size + 1 + 1 + 1) 9 #[.string ⟨a.toArray⟩, .string ⟨b.toArray⟩, .string ⟨c.toArray⟩, .string ⟨d.toArray⟩] := (P_1).put h2_ ne_P_T; have S_2 := pp (S_1) h2_ ge_T; clear R_1 T_1 J_1 P_1 S_1 Pc0 Pc1 Pc2 Pc3 Pl; have Pc0 := P_2.cellAt 0 rfl; have Pc1 := P_2.cellAt 1 rfl; have Pc2 := P_2.cellAt 2 rfl; have Pc3 := P_2.cellAt 3 rfl; have Pl := P_2.lt; clear h2_ b2_))
  rw [rounds_succ]
  go_wp2_with (first
    | (go_at_call 51; (with_reducible refine (Hb.out _ (HS.out _ (S_2))).mono ?_); rintro e w3_ ⟨rfl, h3_⟩; have R_3 : Blk w3_ (w.heap.size) 41 #[.int .i64 0, .int .i64 0, .int .i64 0, .slice none 0 0] := (R_2).past h3_; have T_3 : Blk w3_ (w.heap.size + 1) 41 #[.int .i64 va, .int .i64 0, .int .i64 0, .slice none 0 0] := (T_2).past h3_; have J_3 : Blk w3_ (w.heap.size + 1 + 1) 92 #[.pointer (some ⟨w.heap.size + 1, 0, none⟩), .pointer (some ⟨w.heap.size + 1, 1, none⟩), .pointer (some ⟨w.heap.size + 1, 2, none⟩)] := (J_2).past h3_; have P_3 : Blk w3_ (w.heap.size + 1 + 1 + 1) 9 #[.string ⟨a.toArray⟩, .string ⟨b.toArray⟩, .string ⟨c.toArray⟩, .string ⟨d.toArray⟩] := (P_2).past h3_; have S_3 := pt (S_2) h3_; clear R_2 T_2 J_2 P_2 S_2 Pc0 Pc1 Pc2 Pc3 Pl; have Pc0 := P_3.cellAt 0 rfl; have Pc1 := P_3.cellAt 1 rfl; have Pc2 := P_3.cellAt 2 rfl; have Pc3 := P_3.cellAt 3 rfl; have Pl := P_3.lt; clear h3_)
    | ((with_reducible refine store_sub (T := 3) (x := .tmp 46) (y := .tmp 41) (o := 1) (cs' := #[.int .i64 va, .int .i64 vb, .int .i64 0, .slice none 0 0]) (vs := #[.int .i64 vb]) (show Blk _ (w.heap.size + 1) 41 #[.int .i64 va, .int .i64 0, .int .i64 0, .slice none 0 0] from (T_3)) ?_ ?_ ?_ ?_ ?_ ?_ ?_); (focus rfl); (focus rfl); (focus rfl); (focus exact Nat.le_of_ble_eq_true rfl); (focus exact int_size1); (focus (simp [Value.oneCell']; done)); intro w4_ b4_ h4_; have R_4 : Blk w4_ (w.heap.size) 41 #[.int .i64 0, .int .i64 0, .int .i64 0, .slice none 0 0] := (R_3).put h4_ (Ne.symm ne_T_R); have T_4 : Blk w4_ (w.heap.size + 1) 41 #[.int .i64 va, .int .i64 vb, .int .i64 0, .slice none 0 0] := b4_; have J_4 : Blk w4_ (w.heap.size + 1 + 1) 92 #[.pointer (some ⟨w.heap.size + 1, 0, none⟩), .pointer (some ⟨w.heap.size + 1, 1, none⟩), .pointer (some ⟨w.heap.size + 1, 2, none⟩)] := (J_3).put h4_ ne_J_T; have P_4 : Blk w4_ (w.heap.size + 1 + 1 + 1) 9 #[.string ⟨a.toArray⟩, .string ⟨b.toArray⟩, .string ⟨c.toArray⟩, .string ⟨d.toArray⟩] := (P_3).put h4_ ne_P_T; have S_4 := pp (S_3) h4_ ge_T; clear R_3 T_3 J_3 P_3 S_3 Pc0 Pc1 Pc2 Pc3 Pl; have Pc0 := P_4.cellAt 0 rfl; have Pc1 := P_4.cellAt 1 rfl; have Pc2 := P_4.cellAt 2 rfl; have Pc3 := P_4.cellAt 3 rfl; have Pl := P_4.lt; clear h4_ b4_))
  rw [rounds_succ]
  go_wp2_with (first
    | (go_at_call 51; (with_reducible refine (Hc.out _ (HS.out _ (S_4))).mono ?_); rintro e w5_ ⟨rfl, h5_⟩; have R_5 : Blk w5_ (w.heap.size) 41 #[.int .i64 0, .int .i64 0, .int .i64 0, .slice none 0 0] := (R_4).past h5_; have T_5 : Blk w5_ (w.heap.size + 1) 41 #[.int .i64 va, .int .i64 vb, .int .i64 0, .slice none 0 0] := (T_4).past h5_; have J_5 : Blk w5_ (w.heap.size + 1 + 1) 92 #[.pointer (some ⟨w.heap.size + 1, 0, none⟩), .pointer (some ⟨w.heap.size + 1, 1, none⟩), .pointer (some ⟨w.heap.size + 1, 2, none⟩)] := (J_4).past h5_; have P_5 : Blk w5_ (w.heap.size + 1 + 1 + 1) 9 #[.string ⟨a.toArray⟩, .string ⟨b.toArray⟩, .string ⟨c.toArray⟩, .string ⟨d.toArray⟩] := (P_4).past h5_; have S_5 := pt (S_4) h5_; clear R_4 T_4 J_4 P_4 S_4 Pc0 Pc1 Pc2 Pc3 Pl; have Pc0 := P_5.cellAt 0 rfl; have Pc1 := P_5.cellAt 1 rfl; have Pc2 := P_5.cellAt 2 rfl; have Pc3 := P_5.cellAt 3 rfl; have Pl := P_5.lt; clear h5_)
    | ((with_reducible refine store_sub (T := 3) (x := .tmp 46) (y := .tmp 41) (o := 2) (cs' := #[.int .i64 va, .int .i64 vb, .int .i64 vc, .slice none 0 0]) (vs := #[.int .i64 vc]) (show Blk _ (w.heap.size + 1) 41 #[.int .i64 va, .int .i64 vb, .int .i64 0, .slice none 0 0] from (T_5)) ?_ ?_ ?_ ?_ ?_ ?_ ?_); (focus rfl); (focus rfl); (focus rfl); (focus exact Nat.le_of_ble_eq_true rfl); (focus exact int_size1); (focus (simp [Value.oneCell']; done)); intro w6_ b6_ h6_; have R_6 : Blk w6_ (w.heap.size) 41 #[.int .i64 0, .int .i64 0, .int .i64 0, .slice none 0 0] := (R_5).put h6_ (Ne.symm ne_T_R); have T_6 : Blk w6_ (w.heap.size + 1) 41 #[.int .i64 va, .int .i64 vb, .int .i64 vc, .slice none 0 0] := b6_; have J_6 : Blk w6_ (w.heap.size + 1 + 1) 92 #[.pointer (some ⟨w.heap.size + 1, 0, none⟩), .pointer (some ⟨w.heap.size + 1, 1, none⟩), .pointer (some ⟨w.heap.size + 1, 2, none⟩)] := (J_5).put h6_ ne_J_T; have P_6 : Blk w6_ (w.heap.size + 1 + 1 + 1) 9 #[.string ⟨a.toArray⟩, .string ⟨b.toArray⟩, .string ⟨c.toArray⟩, .string ⟨d.toArray⟩] := (P_5).put h6_ ne_P_T; have S_6 := pp (S_5) h6_ ge_T; clear R_5 T_5 J_5 P_5 S_5 Pc0 Pc1 Pc2 Pc3 Pl; have Pc0 := P_6.cellAt 0 rfl; have Pc1 := P_6.cellAt 1 rfl; have Pc2 := P_6.cellAt 2 rfl; have Pc3 := P_6.cellAt 3 rfl; have Pl := P_6.lt; clear h6_ b6_))
  rw [rounds_succ]
  go_wp2_with (first
    | (go_at_call 52; (with_reducible refine (HPa.out _ (HS.out _ (S_6))).mono ?_); rintro e w7_ ⟨Ap, cp, gp, rfl, hcp, hgp, hap, h7_⟩; have hgT0 := T_6.lt; have R_7 : Blk w7_ (w.heap.size) 41 #[.int .i64 0, .int .i64 0, .int .i64 0, .slice none 0 0] := (R_6).past h7_; have T_7 : Blk w7_ (w.heap.size + 1) 41 #[.int .i64 va, .int .i64 vb, .int .i64 vc, .slice none 0 0] := (T_6).past h7_; have J_7 : Blk w7_ (w.heap.size + 1 + 1) 92 #[.pointer (some ⟨w.heap.size + 1, 0, none⟩), .pointer (some ⟨w.heap.size + 1, 1, none⟩), .pointer (some ⟨w.heap.size + 1, 2, none⟩)] := (J_6).past h7_; have P_7 : Blk w7_ (w.heap.size + 1 + 1 + 1) 9 #[.string ⟨a.toArray⟩, .string ⟨b.toArray⟩, .string ⟨c.toArray⟩, .string ⟨d.toArray⟩] := (P_6).past h7_; have S_7 := pt (S_6) h7_; clear R_6 T_6 J_6 P_6 S_6 Pc0 Pc1 Pc2 Pc3 Pl; clear h7_))
  have hgT : w.heap.size + 1 < w7_.heap.size := T_7.lt
  have hwW : w.heap.size ≤ w7_.heap.size := (S_7).size
  go_loopw [7, 53] (fun okv iv wr => ∃ (k : Nat) (A1 : Option Addr) (c1 : Nat) (ys : List Int), okv = .bool (numsQ 7 (P.take k)).isSome ∧ iv = .int .i64 (k : Int) ∧ k ≤ n ∧ ys.length = k ∧ Blk wr w.heap.size 41 #[.int .i64 0, .int .i64 0, .int .i64 0, .slice none 0 0] ∧ Blk wr (w.heap.size + 1) 41 #[.int .i64 va, .int .i64 vb, .int .i64 vc, .slice A1 k c1] ∧ wr.ownsRow w7_.heap.size 3 1 (.slice A1 k c1) k (ys.map (Value.int .i64)) ∧ (0 < n → Blk wr gp 9 (P.map strV).toArray) ∧ w7_.heap.size ≤ wr.heap.size ∧ Below w.heap.size w wr) (fun _ iv _ => n - (intOf iv).toNat)
  case atStart => exact ⟨0, none, 0, [], rfl, rfl, Nat.zero_le _, rfl, R_7, T_7, World.ownsRow_nil _ _ _ _, fun h => (hap h).2.2, Nat.le_refl _, S_7⟩
  case round =>
    obtain ⟨k, A1, c1, ys, rfl, rfl, hkn, hys, kR, kT, hown, hpw, hws, hq⟩ := hrel
    have HYs := Lib.hid hys
    have HQ := Lib.hid hq
    have n0 : (0 : Int) ≤ (k : Int) := by omega
    clear hys hq
    by_cases hlt : k < n
    · have n1 : (k : Int) < (n : Int) := by omega
      have hlx : k < P.length := by rw [HP.out]; exact hlt
      obtain ⟨hAp, hgw, _⟩ := hap (by omega)
      subst hAp
      have kP := hpw (by omega)
      have hxm : (P.getD k []).length ≤ 500 := HMem.out _ (by rw [List.getD_eq_getElem?_getD, List.getElem?_eq_getElem hlx]; exact List.getElem_mem hlx)
      have hcell : wr.cell? ⟨gp, k, none⟩ = some (.string ⟨(P.getD k []).toArray⟩) := kP.cellAt k (by rw [List.getElem?_toArray, List.getElem?_map, List.getElem?_eq_getElem hlx, List.getD_eq_getElem?_getD, List.getElem?_eq_getElem hlx]; rfl)
      have e1 : IntKind.i64.wrap ((k : Int) + 1) = (k : Int) + 1 := IntWalk.i64_in _ (by omega)
      have HMore := Lib.hid (nums_more (D := 7) hlx)
      have hnum := fun w' hS' b h => wn_ex (P.getD k []) (by omega) b h w' hS'
      have HNum := Lib.hid hnum
      have HOw := Lib.hid hown
      have HT := Lib.hid kT
      have HR := Lib.hid kR
      have HPk := Lib.hid kP
      have kl := kP.lt
      clear hnum hown kT kR kP hap hpw hcp
      generalize P.getD k [] = x at *
      generalize (numsQ 7 (P.take k)).isSome = ok at *
      obtain ⟨o, ho⟩ : ∃ o, (numQ 7 x).isSome = o := ⟨_, rfl⟩
      have HO := Lib.hid ho
      rw [ho] at HMore
      clear ho
      cases ok
      all_goals
        go_wp2_with (first
          | (go_at_call 51; (with_reducible refine (HNum.out _ (HS.out _ HQ.out) _ HO.out).mono ?_); rintro e w1 ⟨⟨x1, rfl⟩, hb1⟩; have HO1 := Lib.hid ((own_past HOw.out hb1).alloc (.cells #[.int .i64 x1] 3)); have HT1 := HT.out.past hb1; have t3 := HT1.cellAt 3 rfl; have tl := HT1.lt; have HR1 := Lib.hid (HR.out.past hb1); have HP1 := Lib.hid (HPk.out.past hb1); have HQ1 := Lib.hid (pt HQ.out hb1); have HC := Lib.hid (cellsIn_one w1 3 (.int .i64 x1)); have hs1 := HQ1.out.size; have hs2 : w7_.heap.size ≤ w1.heap.size := Nat.le_trans hws hb1.size; clear hb1 hcell)
          | (at_builtin; go_must (refine wpList_append_cells _ rfl (.tmp 63) (.tmp 65) _ rfl w7_.heap.size 3 i0 _ 1 8 Tryz.underlying32 hi0 hz0 hz1 hz2 rfl (by omega) _ k _ rfl HO1.out (w1.heap.size + 1) (some ⟨w1.heap.size, 0, none⟩) 1 1 _ rfl HC.out rfl (by simp [Value.oneCell']) (by simp only [maxLen]; omega) (by omega) (by simp; omega) ?_); intro v4 w4 hown4 hg4 hat4; obtain ⟨A4, c4, rfl, hc4, hm4⟩ := own_form hown4; have HT4 := (HT1.alloc (o := .cells #[.int .i64 x1] 3)).grown hg4 (own_lt HO1.out hgT); have HR4 := Lib.hid ((HR1.out.alloc (o := .cells #[.int .i64 x1] 3)).grown hg4 (own_lt HO1.out (by omega))); have HP4 := Lib.hid ((HP1.out.alloc (o := .cells #[.int .i64 x1] 3)).grown hg4 (own_lt HO1.out (by omega))); have HB4 := Lib.hid (show Below w.heap.size w w4 from pg (pa HQ1.out) HO1.out hwW hg4); have HOwn4 := Lib.hid hown4; have hs4 : w7_.heap.size ≤ w4.heap.size := (by have := hg4.size; simp at this; omega); clear hown4 hg4 hat4 t3 tl; have f3 := HT4.frozen 3; have t3 := HT4.cellAt 3 rfl; have tl := HT4.lt))
        go_roundw
        case rel =>
          refine ⟨k + 1, A4, c4, ys ++ [x1], by rw [HMore.out]; rfl, by go_num, by omega, by rw [List.length_append, HYs.out]; rfl, HR4.out.far (by simp), HT4.set_ 3 _, ?_, fun _ => HP4.out.far (by simp; omega), by simpa using hs4, ps HB4.out (by simp)⟩
          rw [List.map_append]
          exact ownsRow_setCell_below HOwn4.out (by simp; omega) _
        case measure => simp [intOf]; omega
    · obtain rfl : k = n := by omega
      clear hlt hkn
      obtain ⟨A2, c2, e2, hc2, _⟩ := own_form hown
      injection e2 with e2 e3 e4
      subst e2 e4
      have hyl : ys.length = k := HYs.out
      have HI := Lib.hid (intsIn_of_own hown)
      have HYl := Lib.hid hyl
      have hte := fun w' (hb : Below wr.heap.size wr w') => taskErr_any wr.heap.size ⟨va, vb, vc, ys⟩ A1 k c1 w' hyl (HI.out.below hb) hb.size (by omega)
      have x0 := kT.lt
      have t0 := kT.cellAt 0 rfl
      have t1 := kT.cellAt 1 rfl
      have t2 := kT.cellAt 2 rfl
      have t3 := kT.cellAt 3 rfl
      have hok : (numsQ 7 (P.take k)).isSome = false := by rw [List.take_of_length_le (by rw [HP.out]; exact Nat.le_refl _)]; exact HNq.out
      rw [hok]
      clear hok
      generalize taskE ⟨va, vb, vc, ys⟩ = E1 at *
      have HV := Lib.hid (show firstV [unlessV false 7, E1] = 7 from rfl)
      have HTe := Lib.hid hte
      clear hte hown hyl hap hpw hgp hcp HPa HMem HYs
      go_wp2
      refine region_below 4 follows_mixed (by kernel_rfl) ?_
      intro C hC
      simp only [List.take_succ_cons, List.take_zero, List.drop_succ_cons, List.drop_zero]
      repeat (first
        | ((with_reducible refine quiet_plain rfl (fun K hK => ?_)); (focus (apply quiet_val; (focus (intro w' hw; obtain ⟨hcq, hfq⟩ := bcell ((hC.out _).1 hw); go_simp; (first | done | rfl | (with_reducible exact call_same hw (unless_any _ _ _)) | (with_reducible exact call_below hC hw (HTe.out _ ((hC.out _).1 hw)))))); (simp only [Act.put, List.setIfInBounds_toArray, List.set_cons_succ, List.set_cons_zero]); (with_reducible refine hK _ ?_); clear hK K)))
        | ((with_reducible refine quiet_skip ?_ ?_); (focus (first | (simp [Region.wanted, yielded]; done) | (simp [Region.wanted, yielded, undef]; done))); simp only [Act.put, List.setIfInBounds_toArray, List.set_cons_succ, List.set_cons_zero])
        | ((with_reducible refine quiet_go ?_ (fun K hK => ?_)); (focus (first | (simp [Region.wanted, yielded]; done) | (simp [Region.wanted, yielded, undef]; done))); (focus (apply quiet_val; (focus (intro w' hw; obtain ⟨hcq, hfq⟩ := bcell ((hC.out _).1 hw); go_simp; (first | done | rfl | (with_reducible exact call_same hw (unless_any _ _ _)) | (with_reducible exact call_below hC hw (HTe.out _ ((hC.out _).1 hw)))))); (simp only [Act.put, List.setIfInBounds_toArray, List.set_cons_succ, List.set_cons_zero]); (with_reducible refine hK _ ?_); clear hK K))))
      refine wpQuiet_nil ?_
      intro w1 hb1
      replace hb1 := (hC.out _).1 hb1
      clear hC C
      obtain ⟨hc1, hf1⟩ := bcell hb1
      have R_51 : Blk w1 (w.heap.size) 41 #[.int .i64 0, .int .i64 0, .int .i64 0, .slice none 0 0] := (kR).past hb1
      have T_51 : Blk w1 (w.heap.size + 1) 41 #[.int .i64 va, .int .i64 vb, .int .i64 vc, .slice A1 k c1] := (kT).past hb1
      have S_51 := pt (HQ.out) hb1
      clear kR kT t0 t1 t2 t3 x0
      have Tc0 := T_51.cellAt 0 rfl
      have Tc1 := T_51.cellAt 1 rfl
      have Tc2 := T_51.cellAt 2 rfl
      have Tc3 := T_51.cellAt 3 rfl
      have Tl := T_51.lt
      have Rc0 := R_51.cellAt 0 rfl
      have Rc1 := R_51.cellAt 1 rfl
      have Rc2 := R_51.cellAt 2 rfl
      have Rc3 := R_51.cellAt 3 rfl
      have Rl := R_51.lt
      clear hb1 hc1 hf1
      obtain ⟨w51_, rfl⟩ : ∃ v, v = w1 := ⟨_, rfl⟩
      go_wp2_with (first
        | (go_at_call 45; (with_reducible refine (first2' _ _ _ _ _ (by first | (go_simp; done) | (go_simp; rfl)) (by first | (go_simp; done) | (go_simp; rfl)) _ HV.out).mono ?_); rintro e w' ⟨rfl, rfl⟩)
        | ((with_reducible refine store_sub (T := 41) (x := .tmp 2) (y := .tmp 81) (o := 0) (cs' := #[.int .i64 0, .int .i64 0, .int .i64 0, .slice none 0 0]) (vs := #[.int .i64 0, .int .i64 0, .int .i64 0, .slice none 0 0]) (show Blk _ (w.heap.size) 41 #[.int .i64 0, .int .i64 0, .int .i64 0, .slice none 0 0] from (R_51.alloc)) ?_ ?_ ?_ ?_ ?_ ?_ ?_); (focus rfl); (focus rfl); (focus rfl); (focus exact Nat.le_of_ble_eq_true rfl); (focus exact task_size4); (focus (simp [Value.oneCell']; done)); intro w53_ b53_ h53_; have R_53 : Blk w53_ (w.heap.size) 41 #[.int .i64 0, .int .i64 0, .int .i64 0, .slice none 0 0] := b53_; have T_53 : Blk w53_ (w.heap.size + 1) 41 #[.int .i64 va, .int .i64 vb, .int .i64 vc, .slice A1 k c1] := (T_51.alloc).put h53_ (by omega); have E_53 : Blk w53_ (w51_.heap.size) 37 #[.int .i64 (unlessV false 7), .int .i64 E1] := (Blk.newAt (by simp)).put h53_ (by omega); have ne_R_E : w.heap.size ≠ w51_.heap.size := (by have := R_51.lt; omega); have ne_T_E : w.heap.size + 1 ≠ w51_.heap.size := (by have := T_51.lt; omega); have S_53 := pp (pa (S_51)) h53_ ge_R; clear R_51 T_51 S_51 Tc0 Tc1 Tc2 Tc3 Tl Rc0 Rc1 Rc2 Rc3 Rl; clear h53_ b53_))
      have z0 := R_53.cellAt 0 rfl
      have z1 := R_53.cellAt 1 rfl
      have z2 := R_53.cellAt 2 rfl
      have z3 := R_53.cellAt 3 rfl
      exact bodyPost_ret (v := .tuple #[.agg #[.int .i64 0, .int .i64 0, .int .i64 0, .slice none 0 0], .int .i64 7]) (by simp [results, Tryz.results12, go_sem, z0, z1, z2, z3]) rfl (taskPost_bad S_53)
set_option maxHeartbeats 4000000 in
set_option maxRecDepth 100000 in
theorem parT_4e (l a b c d : List UInt8) (hl : l.length ≤ 500) (ha : a.length ≤ 500) (hb : b.length ≤ 500) (hc : c.length ≤ 500) (hd : d.length ≤ 500) (hs : splitL 32 l = [a, b, c, d]) (va vb vc : Int) (hxa : numQ 7 a = some va) (hxb : numQ 7 b = some vb) (hxc : numQ 7 c = some vc) (q : List Int) (hxd : numsQ 7 (partsL d) = some q) (E : Int) (hE : taskE ⟨va, vb, vc, q⟩ = E) (hne : (E != 0) = true) (w : World) (hS : StrIn w) :
    Calls Tryz.prog 12 #[.string ⟨l.toArray⟩] w (TaskPost w (⟨0, 0, 0, []⟩, E)) := by
  have HS := Lib.hid (fun w' (h : Below w.heap.size w w') => hS.kept h)
  have HSp := Lib.hid (fun w' hS' => splitC_any l 32 (by omega) w' hS')
  rw [hs] at HSp
  have HSp := Lib.hid (show ∀ w', StrIn w' → Calls Tryz.prog 50 #[.string ⟨l.toArray⟩, .string ⟨#[32]⟩] w' fun e w'' => e = .returned (.slice (some ⟨w'.heap.size, 0, none⟩) 4 4) ∧ w'' = w'.alloc (.cells #[.string ⟨a.toArray⟩, .string ⟨b.toArray⟩, .string ⟨c.toArray⟩, .string ⟨d.toArray⟩] 9) from HSp.out)
  have hparts := fun w' hS' => parts_new d (by omega) w' hS'
  have hmem := fun x (hx : x ∈ partsL d) => Nat.le_trans (parts_mem hx) hd
  have hn1 : (partsL d).length ≤ 501 := Nat.le_trans (parts_len d) (by omega)
  have Ha := Lib.hid (fun w' hS' => wn_some a (by omega) va hxa w' hS')
  have Hb := Lib.hid (fun w' hS' => wn_some b (by omega) vb hxb w' hS')
  have Hc := Lib.hid (fun w' hS' => wn_some c (by omega) vc hxc w' hS')
  have HNq := Lib.hid hxd
  have HQl := Lib.hid (numsQ_len hxd)
  have HE := Lib.hid hE
  clear hxd hE
  generalize partsL d = P at *
  have HPa := Lib.hid hparts
  have HMem := Lib.hid hmem
  generalize hP : P.length = n at *
  have HP := Lib.hid hP
  clear hparts hmem hP hS hs hl ha hb hc hd hxa hxb hxc
  obtain ⟨i0, hi0, hz0, hz1, hz2⟩ := info_parts int_info
  go_enter Tryz.func12, Tryz.ntmps12
  go_wp2_with (first
    | (go_at_call 50; (with_reducible refine (HSp.out _ (HS.out _ (pa (pa (pa (pr)))))).mono ?_); rintro e w' ⟨rfl, rfl⟩))
  refine wp_loop_rounds 4 ?_
  rw [rounds_succ]
  go_wp2_with (first
    | (go_at_call 51; (with_reducible refine (Ha.out _ (HS.out _ (pa (pa (pa (pa (pr))))))).mono ?_); rintro e w1_ ⟨rfl, h1_⟩; have R_1 : Blk w1_ (w.heap.size) 41 #[.int .i64 0, .int .i64 0, .int .i64 0, .slice none 0 0] := (Blk.newAt (by simp)).alloc.alloc.alloc.past h1_; have T_1 : Blk w1_ (w.heap.size + 1) 41 #[.int .i64 0, .int .i64 0, .int .i64 0, .slice none 0 0] := (Blk.newAt (by simp)).alloc.alloc.past h1_; have J_1 : Blk w1_ (w.heap.size + 1 + 1) 92 #[.pointer (some ⟨w.heap.size + 1, 0, none⟩), .pointer (some ⟨w.heap.size + 1, 1, none⟩), .pointer (some ⟨w.heap.size + 1, 2, none⟩)] := (Blk.newAt (by simp)).alloc.past h1_; have P_1 : Blk w1_ (w.heap.size + 1 + 1 + 1) 9 #[.string ⟨a.toArray⟩, .string ⟨b.toArray⟩, .string ⟨c.toArray⟩, .string ⟨d.toArray⟩] := (Blk.newAt (by simp)).past h1_; have ne_T_R : w.heap.size + 1 ≠ w.heap.size := (by omega); have ne_J_R : w.heap.size + 1 + 1 ≠ w.heap.size := (by omega); have ne_P_R : w.heap.size + 1 + 1 + 1 ≠ w.heap.size := (by omega); have ge_R : w.heap.size ≤ w.heap.size := (by omega); have ne_J_T : w.heap.size + 1 + 1 ≠ w.heap.size + 1 := (by omega); have ne_P_T : w.heap.size + 1 + 1 + 1 ≠ w.heap.size + 1 := (by omega); have ge_T : w.heap.size ≤ w.heap.size + 1 := (by omega); have S_1 := pt (pa (pa (pa (pa (pr))))) h1_; have Pc0 := P_1.cellAt 0 rfl; have Pc1 := P_1.cellAt 1 rfl; have Pc2 := P_1.cellAt 2 rfl; have Pc3 := P_1.cellAt 3 rfl; have Pl := P_1.lt; clear h1_)
    | ((with_reducible refine store_sub (T := 3) (x := .tmp 46) (y := .tmp 41) (o := 0) (cs' := #[.int .i64 va, .int .i64 0, .int .i64 0, .slice none 0 0]) (vs := #[.int .i64 va]) (show Blk _ (w.heap.size + 1) 41 #[.int .i64 0, .int .i64 0, .int .i64 0, .slice none 0 0] from (T_1)) ?_ ?_ ?_ ?_ ?_ ?_ ?_); (focus rfl); (focus rfl); (focus rfl); (focus exact Nat.le_of_ble_eq_true rfl); (focus exact int_size1); (focus (simp [Value.oneCell']; done)); intro w2_ b2_ h2_; have R_2 : Blk w2_ (w.heap.size) 41 #[.int .i64 0, .int .i64 0, .int .i64 0, .slice none 0 0] := (R_1).put h2_ (Ne.symm ne_T_R); have T_2 : Blk w2_ (w.heap.size + 1) 41 #[.int .i64 va, .int .i64 0, .int .i64 0, .slice none 0 0] := b2_; have J_2 : Blk w2_ (w.heap.size + 1 + 1) 92 #[.pointer (some ⟨w.heap.size + 1, 0, none⟩), .pointer (some ⟨w.heap.size + 1, 1, none⟩), .pointer (some ⟨w.heap.size + 1, 2, none⟩)] := (J_1).put h2_ ne_J_T; have P_2 : Blk w2_ (w.heap.size + 1 + 1 + 1) 9 #[.string ⟨a.toArray⟩, .string ⟨b.toArray⟩, .string ⟨c.toArray⟩, .string ⟨d.toArray⟩] := (P_1).put h2_ ne_P_T; have S_2 := pp (S_1) h2_ ge_T; clear R_1 T_1 J_1 P_1 S_1 Pc0 Pc1 Pc2 Pc3 Pl; have Pc0 := P_2.cellAt 0 rfl; have Pc1 := P_2.cellAt 1 rfl; have Pc2 := P_2.cellAt 2 rfl; have Pc3 := P_2.cellAt 3 rfl; have Pl := P_2.lt; clear h2_ b2_))
  rw [rounds_succ]
  go_wp2_with (first
    | (go_at_call 51; (with_reducible refine (Hb.out _ (HS.out _ (S_2))).mono ?_); rintro e w3_ ⟨rfl, h3_⟩; have R_3 : Blk w3_ (w.heap.size) 41 #[.int .i64 0, .int .i64 0, .int .i64 0, .slice none 0 0] := (R_2).past h3_; have T_3 : Blk w3_ (w.heap.size + 1) 41 #[.int .i64 va, .int .i64 0, .int .i64 0, .slice none 0 0] := (T_2).past h3_; have J_3 : Blk w3_ (w.heap.size + 1 + 1) 92 #[.pointer (some ⟨w.heap.size + 1, 0, none⟩), .pointer (some ⟨w.heap.size + 1, 1, none⟩), .pointer (some ⟨w.heap.size + 1, 2, none⟩)] := (J_2).past h3_; have P_3 : Blk w3_ (w.heap.size + 1 + 1 + 1) 9 #[.string ⟨a.toArray⟩, .string ⟨b.toArray⟩, .string ⟨c.toArray⟩, .string ⟨d.toArray⟩] := (P_2).past h3_; have S_3 := pt (S_2) h3_; clear R_2 T_2 J_2 P_2 S_2 Pc0 Pc1 Pc2 Pc3 Pl; have Pc0 := P_3.cellAt 0 rfl; have Pc1 := P_3.cellAt 1 rfl; have Pc2 := P_3.cellAt 2 rfl; have Pc3 := P_3.cellAt 3 rfl; have Pl := P_3.lt; clear h3_)
    | ((with_reducible refine store_sub (T := 3) (x := .tmp 46) (y := .tmp 41) (o := 1) (cs' := #[.int .i64 va, .int .i64 vb, .int .i64 0, .slice none 0 0]) (vs := #[.int .i64 vb]) (show Blk _ (w.heap.size + 1) 41 #[.int .i64 va, .int .i64 0, .int .i64 0, .slice none 0 0] from (T_3)) ?_ ?_ ?_ ?_ ?_ ?_ ?_); (focus rfl); (focus rfl); (focus rfl); (focus exact Nat.le_of_ble_eq_true rfl); (focus exact int_size1); (focus (simp [Value.oneCell']; done)); intro w4_ b4_ h4_; have R_4 : Blk w4_ (w.heap.size) 41 #[.int .i64 0, .int .i64 0, .int .i64 0, .slice none 0 0] := (R_3).put h4_ (Ne.symm ne_T_R); have T_4 : Blk w4_ (w.heap.size + 1) 41 #[.int .i64 va, .int .i64 vb, .int .i64 0, .slice none 0 0] := b4_; have J_4 : Blk w4_ (w.heap.size + 1 + 1) 92 #[.pointer (some ⟨w.heap.size + 1, 0, none⟩), .pointer (some ⟨w.heap.size + 1, 1, none⟩), .pointer (some ⟨w.heap.size + 1, 2, none⟩)] := (J_3).put h4_ ne_J_T; have P_4 : Blk w4_ (w.heap.size + 1 + 1 + 1) 9 #[.string ⟨a.toArray⟩, .string ⟨b.toArray⟩, .string ⟨c.toArray⟩, .string ⟨d.toArray⟩] := (P_3).put h4_ ne_P_T; have S_4 := pp (S_3) h4_ ge_T; clear R_3 T_3 J_3 P_3 S_3 Pc0 Pc1 Pc2 Pc3 Pl; have Pc0 := P_4.cellAt 0 rfl; have Pc1 := P_4.cellAt 1 rfl; have Pc2 := P_4.cellAt 2 rfl; have Pc3 := P_4.cellAt 3 rfl; have Pl := P_4.lt; clear h4_ b4_))
  rw [rounds_succ]
  go_wp2_with (first
    | (go_at_call 51; (with_reducible refine (Hc.out _ (HS.out _ (S_4))).mono ?_); rintro e w5_ ⟨rfl, h5_⟩; have R_5 : Blk w5_ (w.heap.size) 41 #[.int .i64 0, .int .i64 0, .int .i64 0, .slice none 0 0] := (R_4).past h5_; have T_5 : Blk w5_ (w.heap.size + 1) 41 #[.int .i64 va, .int .i64 vb, .int .i64 0, .slice none 0 0] := (T_4).past h5_; have J_5 : Blk w5_ (w.heap.size + 1 + 1) 92 #[.pointer (some ⟨w.heap.size + 1, 0, none⟩), .pointer (some ⟨w.heap.size + 1, 1, none⟩), .pointer (some ⟨w.heap.size + 1, 2, none⟩)] := (J_4).past h5_; have P_5 : Blk w5_ (w.heap.size + 1 + 1 + 1) 9 #[.string ⟨a.toArray⟩, .string ⟨b.toArray⟩, .string ⟨c.toArray⟩, .string ⟨d.toArray⟩] := (P_4).past h5_; have S_5 := pt (S_4) h5_; clear R_4 T_4 J_4 P_4 S_4 Pc0 Pc1 Pc2 Pc3 Pl; have Pc0 := P_5.cellAt 0 rfl; have Pc1 := P_5.cellAt 1 rfl; have Pc2 := P_5.cellAt 2 rfl; have Pc3 := P_5.cellAt 3 rfl; have Pl := P_5.lt; clear h5_)
    | ((with_reducible refine store_sub (T := 3) (x := .tmp 46) (y := .tmp 41) (o := 2) (cs' := #[.int .i64 va, .int .i64 vb, .int .i64 vc, .slice none 0 0]) (vs := #[.int .i64 vc]) (show Blk _ (w.heap.size + 1) 41 #[.int .i64 va, .int .i64 vb, .int .i64 0, .slice none 0 0] from (T_5)) ?_ ?_ ?_ ?_ ?_ ?_ ?_); (focus rfl); (focus rfl); (focus rfl); (focus exact Nat.le_of_ble_eq_true rfl); (focus exact int_size1); (focus (simp [Value.oneCell']; done)); intro w6_ b6_ h6_; have R_6 : Blk w6_ (w.heap.size) 41 #[.int .i64 0, .int .i64 0, .int .i64 0, .slice none 0 0] := (R_5).put h6_ (Ne.symm ne_T_R); have T_6 : Blk w6_ (w.heap.size + 1) 41 #[.int .i64 va, .int .i64 vb, .int .i64 vc, .slice none 0 0] := b6_; have J_6 : Blk w6_ (w.heap.size + 1 + 1) 92 #[.pointer (some ⟨w.heap.size + 1, 0, none⟩), .pointer (some ⟨w.heap.size + 1, 1, none⟩), .pointer (some ⟨w.heap.size + 1, 2, none⟩)] := (J_5).put h6_ ne_J_T; have P_6 : Blk w6_ (w.heap.size + 1 + 1 + 1) 9 #[.string ⟨a.toArray⟩, .string ⟨b.toArray⟩, .string ⟨c.toArray⟩, .string ⟨d.toArray⟩] := (P_5).put h6_ ne_P_T; have S_6 := pp (S_5) h6_ ge_T; clear R_5 T_5 J_5 P_5 S_5 Pc0 Pc1 Pc2 Pc3 Pl; have Pc0 := P_6.cellAt 0 rfl; have Pc1 := P_6.cellAt 1 rfl; have Pc2 := P_6.cellAt 2 rfl; have Pc3 := P_6.cellAt 3 rfl; have Pl := P_6.lt; clear h6_ b6_))
  rw [rounds_succ]
  go_wp2_with (first
    | (go_at_call 52; (with_reducible refine (HPa.out _ (HS.out _ (S_6))).mono ?_); rintro e w7_ ⟨Ap, cp, gp, rfl, hcp, hgp, hap, h7_⟩; have hgT0 := T_6.lt; have R_7 : Blk w7_ (w.heap.size) 41 #[.int .i64 0, .int .i64 0, .int .i64 0, .slice none 0 0] := (R_6).past h7_; have T_7 : Blk w7_ (w.heap.size + 1) 41 #[.int .i64 va, .int .i64 vb, .int .i64 vc, .slice none 0 0] := (T_6).past h7_; have J_7 : Blk w7_ (w.heap.size + 1 + 1) 92 #[.pointer (some ⟨w.heap.size + 1, 0, none⟩), .pointer (some ⟨w.heap.size + 1, 1, none⟩), .pointer (some ⟨w.heap.size + 1, 2, none⟩)] := (J_6).past h7_; have P_7 : Blk w7_ (w.heap.size + 1 + 1 + 1) 9 #[.string ⟨a.toArray⟩, .string ⟨b.toArray⟩, .string ⟨c.toArray⟩, .string ⟨d.toArray⟩] := (P_6).past h7_; have S_7 := pt (S_6) h7_; clear R_6 T_6 J_6 P_6 S_6 Pc0 Pc1 Pc2 Pc3 Pl; clear h7_))
  have hgT : w.heap.size + 1 < w7_.heap.size := T_7.lt
  have hwW : w.heap.size ≤ w7_.heap.size := (S_7).size
  go_loopw [7, 53] (fun okv iv wr => ∃ (k : Nat) (A1 : Option Addr) (c1 : Nat) (ys : List Int), okv = .bool true ∧ iv = .int .i64 (k : Int) ∧ k ≤ n ∧ ys = q.take k ∧ Blk wr w.heap.size 41 #[.int .i64 0, .int .i64 0, .int .i64 0, .slice none 0 0] ∧ Blk wr (w.heap.size + 1) 41 #[.int .i64 va, .int .i64 vb, .int .i64 vc, .slice A1 k c1] ∧ wr.ownsRow w7_.heap.size 3 1 (.slice A1 k c1) k (ys.map (Value.int .i64)) ∧ (0 < n → Blk wr gp 9 (P.map strV).toArray) ∧ w7_.heap.size ≤ wr.heap.size ∧ Below w.heap.size w wr) (fun _ iv _ => n - (intOf iv).toNat)
  case atStart => exact ⟨0, none, 0, [], rfl, rfl, Nat.zero_le _, rfl, R_7, T_7, World.ownsRow_nil _ _ _ _, fun h => (hap h).2.2, Nat.le_refl _, S_7⟩
  case round =>
    obtain ⟨k, A1, c1, ys, rfl, rfl, hkn, hys, kR, kT, hown, hpw, hws, hq⟩ := hrel
    have HYs := Lib.hid hys
    have HQ := Lib.hid hq
    have n0 : (0 : Int) ≤ (k : Int) := by omega
    clear hys hq
    by_cases hlt : k < n
    · have n1 : (k : Int) < (n : Int) := by omega
      have hlx : k < P.length := by rw [HP.out]; exact hlt
      obtain ⟨hAp, hgw, _⟩ := hap (by omega)
      subst hAp
      have kP := hpw (by omega)
      have hxm : (P.getD k []).length ≤ 500 := HMem.out _ (by rw [List.getD_eq_getElem?_getD, List.getElem?_eq_getElem hlx]; exact List.getElem_mem hlx)
      have hcell : wr.cell? ⟨gp, k, none⟩ = some (.string ⟨(P.getD k []).toArray⟩) := kP.cellAt k (by rw [List.getElem?_toArray, List.getElem?_map, List.getElem?_eq_getElem hlx, List.getD_eq_getElem?_getD, List.getElem?_eq_getElem hlx]; rfl)
      have e1 : IntKind.i64.wrap ((k : Int) + 1) = (k : Int) + 1 := IntWalk.i64_in _ (by omega)
      have hnum := fun w' hS' => wn_some (P.getD k []) (by omega) (q.getD k 0) (numsQ_at HNq.out k hlx) w' hS'
      have HSt := Lib.hid (take_getD (q := q) (k := k) (by have := HQl.out; omega))
      have HNum := Lib.hid hnum
      have HOw := Lib.hid hown
      have HT := Lib.hid kT
      have HR := Lib.hid kR
      have HPk := Lib.hid kP
      have kl := kP.lt
      clear hnum hown kT kR kP hap hpw hcp
      generalize P.getD k [] = x at *
      go_wp2_with (first
        | (go_at_call 51; (with_reducible refine (HNum.out _ (HS.out _ HQ.out)).mono ?_); rintro e w1 ⟨rfl, hb1⟩; have HO1 := Lib.hid ((own_past HOw.out hb1).alloc (.cells #[.int .i64 (q.getD k 0)] 3)); have HT1 := HT.out.past hb1; have t3 := HT1.cellAt 3 rfl; have tl := HT1.lt; have HR1 := Lib.hid (HR.out.past hb1); have HP1 := Lib.hid (HPk.out.past hb1); have HQ1 := Lib.hid (pt HQ.out hb1); have HC := Lib.hid (cellsIn_one w1 3 (.int .i64 (q.getD k 0))); have hs1 := HQ1.out.size; have hs2 : w7_.heap.size ≤ w1.heap.size := Nat.le_trans hws hb1.size; clear hb1 hcell)
        | (at_builtin; go_must (refine wpList_append_cells _ rfl (.tmp 63) (.tmp 65) _ rfl w7_.heap.size 3 i0 _ 1 8 Tryz.underlying32 hi0 hz0 hz1 hz2 rfl (by omega) _ k _ rfl HO1.out (w1.heap.size + 1) (some ⟨w1.heap.size, 0, none⟩) 1 1 _ rfl HC.out rfl (by simp [Value.oneCell']) (by simp only [maxLen]; omega) (by omega) (by simp; omega) ?_); intro v4 w4 hown4 hg4 hat4; obtain ⟨A4, c4, rfl, hc4, hm4⟩ := own_form hown4; have HT4 := (HT1.alloc (o := .cells #[.int .i64 (q.getD k 0)] 3)).grown hg4 (own_lt HO1.out hgT); have HR4 := Lib.hid ((HR1.out.alloc (o := .cells #[.int .i64 (q.getD k 0)] 3)).grown hg4 (own_lt HO1.out (by omega))); have HP4 := Lib.hid ((HP1.out.alloc (o := .cells #[.int .i64 (q.getD k 0)] 3)).grown hg4 (own_lt HO1.out (by omega))); have HB4 := Lib.hid (show Below w.heap.size w w4 from pg (pa HQ1.out) HO1.out hwW hg4); have HOwn4 := Lib.hid hown4; have hs4 : w7_.heap.size ≤ w4.heap.size := (by have := hg4.size; simp at this; omega); clear hown4 hg4 hat4 t3 tl; have f3 := HT4.frozen 3; have t3 := HT4.cellAt 3 rfl; have tl := HT4.lt))
      go_roundw
      case rel =>
        refine ⟨k + 1, A4, c4, ys ++ [(q.getD k 0)], rfl, by go_num, by omega, by rw [HSt.out, ← HYs.out], HR4.out.far (by simp), HT4.set_ 3 _, ?_, fun _ => HP4.out.far (by simp; omega), by simpa using hs4, ps HB4.out (by simp)⟩
        rw [List.map_append]
        exact ownsRow_setCell_below HOwn4.out (by simp; omega) _
      case measure => simp [intOf]; omega
    · obtain rfl : k = n := by omega
      clear hlt hkn
      obtain ⟨A2, c2, e2, hc2, _⟩ := own_form hown
      injection e2 with e2 e3 e4
      subst e2 e4
      have hyq : ys = q := by rw [HYs.out]; exact List.take_of_length_le (by have := HQl.out; omega)
      subst hyq
      have hyl : ys.length = k := HQl.out
      have HI := Lib.hid (intsIn_of_own hown)
      have HYl := Lib.hid hyl
      have hte := fun w' (hb : Below wr.heap.size wr w') => taskErr_any wr.heap.size ⟨va, vb, vc, ys⟩ A1 k c1 w' hyl (HI.out.below hb) hb.size (by omega)
      have x0 := kT.lt
      have t0 := kT.cellAt 0 rfl
      have t1 := kT.cellAt 1 rfl
      have t2 := kT.cellAt 2 rfl
      have t3 := kT.cellAt 3 rfl
      have hv0 : firstV [unlessV true 7, taskE ⟨va, vb, vc, ys⟩] = taskE ⟨va, vb, vc, ys⟩ := by by_cases h : taskE ⟨va, vb, vc, ys⟩ = 0 <;> simp [unlessV, firstV, h]
      rw [HE.out] at hv0 hte
      have HV := Lib.hid hv0
      have HTe := Lib.hid hte
      clear hte hown hyl hap hpw hgp hcp HPa HMem HYs
      go_wp2
      refine region_below 4 follows_mixed (by kernel_rfl) ?_
      intro C hC
      simp only [List.take_succ_cons, List.take_zero, List.drop_succ_cons, List.drop_zero]
      repeat (first
        | ((with_reducible refine quiet_plain rfl (fun K hK => ?_)); (focus (apply quiet_val; (focus (intro w' hw; obtain ⟨hcq, hfq⟩ := bcell ((hC.out _).1 hw); go_simp; (first | done | rfl | (with_reducible exact call_same hw (unless_any _ _ _)) | (with_reducible exact call_below hC hw (HTe.out _ ((hC.out _).1 hw)))))); (simp only [Act.put, List.setIfInBounds_toArray, List.set_cons_succ, List.set_cons_zero]); (with_reducible refine hK _ ?_); clear hK K)))
        | ((with_reducible refine quiet_skip ?_ ?_); (focus (first | (simp [Region.wanted, yielded]; done) | (simp [Region.wanted, yielded, undef]; done))); simp only [Act.put, List.setIfInBounds_toArray, List.set_cons_succ, List.set_cons_zero])
        | ((with_reducible refine quiet_go ?_ (fun K hK => ?_)); (focus (first | (simp [Region.wanted, yielded]; done) | (simp [Region.wanted, yielded, undef]; done))); (focus (apply quiet_val; (focus (intro w' hw; obtain ⟨hcq, hfq⟩ := bcell ((hC.out _).1 hw); go_simp; (first | done | rfl | (with_reducible exact call_same hw (unless_any _ _ _)) | (with_reducible exact call_below hC hw (HTe.out _ ((hC.out _).1 hw)))))); (simp only [Act.put, List.setIfInBounds_toArray, List.set_cons_succ, List.set_cons_zero]); (with_reducible refine hK _ ?_); clear hK K))))
      refine wpQuiet_nil ?_
      intro w1 hb1
      replace hb1 := (hC.out _).1 hb1
      clear hC C
      obtain ⟨hc1, hf1⟩ := bcell hb1
      have R_51 : Blk w1 (w.heap.size) 41 #[.int .i64 0, .int .i64 0, .int .i64 0, .slice none 0 0] := (kR).past hb1
      have T_51 : Blk w1 (w.heap.size + 1) 41 #[.int .i64 va, .int .i64 vb, .int .i64 vc, .slice A1 k c1] := (kT).past hb1
      have S_51 := pt (HQ.out) hb1
      clear kR kT t0 t1 t2 t3 x0
      have Tc0 := T_51.cellAt 0 rfl
      have Tc1 := T_51.cellAt 1 rfl
      have Tc2 := T_51.cellAt 2 rfl
      have Tc3 := T_51.cellAt 3 rfl
      have Tl := T_51.lt
      have Rc0 := R_51.cellAt 0 rfl
      have Rc1 := R_51.cellAt 1 rfl
      have Rc2 := R_51.cellAt 2 rfl
      have Rc3 := R_51.cellAt 3 rfl
      have Rl := R_51.lt
      clear hb1 hc1 hf1
      obtain ⟨w51_, rfl⟩ : ∃ v, v = w1 := ⟨_, rfl⟩
      go_wp2_with (first
        | (go_at_call 45; (with_reducible refine (first2' _ _ _ _ _ (by first | (go_simp; done) | (go_simp; rfl)) (by first | (go_simp; done) | (go_simp; rfl)) _ HV.out).mono ?_); rintro e w' ⟨rfl, rfl⟩)
        | ((with_reducible refine store_sub (T := 41) (x := .tmp 2) (y := .tmp 81) (o := 0) (cs' := #[.int .i64 0, .int .i64 0, .int .i64 0, .slice none 0 0]) (vs := #[.int .i64 0, .int .i64 0, .int .i64 0, .slice none 0 0]) (show Blk _ (w.heap.size) 41 #[.int .i64 0, .int .i64 0, .int .i64 0, .slice none 0 0] from (R_51.alloc)) ?_ ?_ ?_ ?_ ?_ ?_ ?_); (focus rfl); (focus rfl); (focus rfl); (focus exact Nat.le_of_ble_eq_true rfl); (focus exact task_size4); (focus (simp [Value.oneCell']; done)); intro w53_ b53_ h53_; have R_53 : Blk w53_ (w.heap.size) 41 #[.int .i64 0, .int .i64 0, .int .i64 0, .slice none 0 0] := b53_; have T_53 : Blk w53_ (w.heap.size + 1) 41 #[.int .i64 va, .int .i64 vb, .int .i64 vc, .slice A1 k c1] := (T_51.alloc).put h53_ (by omega); have E_53 : Blk w53_ (w51_.heap.size) 37 #[.int .i64 (unlessV true 7), .int .i64 E] := (Blk.newAt (by simp)).put h53_ (by omega); have ne_R_E : w.heap.size ≠ w51_.heap.size := (by have := R_51.lt; omega); have ne_T_E : w.heap.size + 1 ≠ w51_.heap.size := (by have := T_51.lt; omega); have S_53 := pp (pa (S_51)) h53_ ge_R; clear R_51 T_51 S_51 Tc0 Tc1 Tc2 Tc3 Tl Rc0 Rc1 Rc2 Rc3 Rl; clear h53_ b53_))
      have z0 := R_53.cellAt 0 rfl
      have z1 := R_53.cellAt 1 rfl
      have z2 := R_53.cellAt 2 rfl
      have z3 := R_53.cellAt 3 rfl
      exact bodyPost_ret (v := .tuple #[.agg #[.int .i64 0, .int .i64 0, .int .i64 0, .slice none 0 0], .int .i64 E]) (by simp [results, Tryz.results12, go_sem, z0, z1, z2, z3]) rfl (taskPost_bad S_53)
set_option maxHeartbeats 4000000 in
set_option maxRecDepth 100000 in
theorem parT_4g (l a b c d : List UInt8) (hl : l.length ≤ 500) (ha : a.length ≤ 500) (hb : b.length ≤ 500) (hc : c.length ≤ 500) (hd : d.length ≤ 500) (hs : splitL 32 l = [a, b, c, d]) (va vb vc : Int) (hxa : numQ 7 a = some va) (hxb : numQ 7 b = some vb) (hxc : numQ 7 c = some vc) (q : List Int) (hxd : numsQ 7 (partsL d) = some q) (hE : taskE ⟨va, vb, vc, q⟩ = 0) (w : World) (hS : StrIn w) :
    Calls Tryz.prog 12 #[.string ⟨l.toArray⟩] w (TaskPost w (⟨va, vb, vc, q⟩, 0)) := by
  have HS := Lib.hid (fun w' (h : Below w.heap.size w w') => hS.kept h)
  have HSp := Lib.hid (fun w' hS' => splitC_any l 32 (by omega) w' hS')
  rw [hs] at HSp
  have HSp := Lib.hid (show ∀ w', StrIn w' → Calls Tryz.prog 50 #[.string ⟨l.toArray⟩, .string ⟨#[32]⟩] w' fun e w'' => e = .returned (.slice (some ⟨w'.heap.size, 0, none⟩) 4 4) ∧ w'' = w'.alloc (.cells #[.string ⟨a.toArray⟩, .string ⟨b.toArray⟩, .string ⟨c.toArray⟩, .string ⟨d.toArray⟩] 9) from HSp.out)
  have hparts := fun w' hS' => parts_new d (by omega) w' hS'
  have hmem := fun x (hx : x ∈ partsL d) => Nat.le_trans (parts_mem hx) hd
  have hn1 : (partsL d).length ≤ 501 := Nat.le_trans (parts_len d) (by omega)
  have Ha := Lib.hid (fun w' hS' => wn_some a (by omega) va hxa w' hS')
  have Hb := Lib.hid (fun w' hS' => wn_some b (by omega) vb hxb w' hS')
  have Hc := Lib.hid (fun w' hS' => wn_some c (by omega) vc hxc w' hS')
  have HNq := Lib.hid hxd
  have HQl := Lib.hid (numsQ_len hxd)
  have HE := Lib.hid hE
  clear hxd hE
  generalize partsL d = P at *
  have HPa := Lib.hid hparts
  have HMem := Lib.hid hmem
  generalize hP : P.length = n at *
  have HP := Lib.hid hP
  clear hparts hmem hP hS hs hl ha hb hc hd hxa hxb hxc
  obtain ⟨i0, hi0, hz0, hz1, hz2⟩ := info_parts int_info
  go_enter Tryz.func12, Tryz.ntmps12
  go_wp2_with (first
    | (go_at_call 50; (with_reducible refine (HSp.out _ (HS.out _ (pa (pa (pa (pr)))))).mono ?_); rintro e w' ⟨rfl, rfl⟩))
  refine wp_loop_rounds 4 ?_
  rw [rounds_succ]
  go_wp2_with (first
    | (go_at_call 51; (with_reducible refine (Ha.out _ (HS.out _ (pa (pa (pa (pa (pr))))))).mono ?_); rintro e w1_ ⟨rfl, h1_⟩; have R_1 : Blk w1_ (w.heap.size) 41 #[.int .i64 0, .int .i64 0, .int .i64 0, .slice none 0 0] := (Blk.newAt (by simp)).alloc.alloc.alloc.past h1_; have T_1 : Blk w1_ (w.heap.size + 1) 41 #[.int .i64 0, .int .i64 0, .int .i64 0, .slice none 0 0] := (Blk.newAt (by simp)).alloc.alloc.past h1_; have J_1 : Blk w1_ (w.heap.size + 1 + 1) 92 #[.pointer (some ⟨w.heap.size + 1, 0, none⟩), .pointer (some ⟨w.heap.size + 1, 1, none⟩), .pointer (some ⟨w.heap.size + 1, 2, none⟩)] := (Blk.newAt (by simp)).alloc.past h1_; have P_1 : Blk w1_ (w.heap.size + 1 + 1 + 1) 9 #[.string ⟨a.toArray⟩, .string ⟨b.toArray⟩, .string ⟨c.toArray⟩, .string ⟨d.toArray⟩] := (Blk.newAt (by simp)).past h1_; have ne_T_R : w.heap.size + 1 ≠ w.heap.size := (by omega); have ne_J_R : w.heap.size + 1 + 1 ≠ w.heap.size := (by omega); have ne_P_R : w.heap.size + 1 + 1 + 1 ≠ w.heap.size := (by omega); have ge_R : w.heap.size ≤ w.heap.size := (by omega); have ne_J_T : w.heap.size + 1 + 1 ≠ w.heap.size + 1 := (by omega); have ne_P_T : w.heap.size + 1 + 1 + 1 ≠ w.heap.size + 1 := (by omega); have ge_T : w.heap.size ≤ w.heap.size + 1 := (by omega); have S_1 := pt (pa (pa (pa (pa (pr))))) h1_; have Pc0 := P_1.cellAt 0 rfl; have Pc1 := P_1.cellAt 1 rfl; have Pc2 := P_1.cellAt 2 rfl; have Pc3 := P_1.cellAt 3 rfl; have Pl := P_1.lt; clear h1_)
    | ((with_reducible refine store_sub (T := 3) (x := .tmp 46) (y := .tmp 41) (o := 0) (cs' := #[.int .i64 va, .int .i64 0, .int .i64 0, .slice none 0 0]) (vs := #[.int .i64 va]) (show Blk _ (w.heap.size + 1) 41 #[.int .i64 0, .int .i64 0, .int .i64 0, .slice none 0 0] from (T_1)) ?_ ?_ ?_ ?_ ?_ ?_ ?_); (focus rfl); (focus rfl); (focus rfl); (focus exact Nat.le_of_ble_eq_true rfl); (focus exact int_size1); (focus (simp [Value.oneCell']; done)); intro w2_ b2_ h2_; have R_2 : Blk w2_ (w.heap.size) 41 #[.int .i64 0, .int .i64 0, .int .i64 0, .slice none 0 0] := (R_1).put h2_ (Ne.symm ne_T_R); have T_2 : Blk w2_ (w.heap.size + 1) 41 #[.int .i64 va, .int .i64 0, .int .i64 0, .slice none 0 0] := b2_; have J_2 : Blk w2_ (w.heap.size + 1 + 1) 92 #[.pointer (some ⟨w.heap.size + 1, 0, none⟩), .pointer (some ⟨w.heap.size + 1, 1, none⟩), .pointer (some ⟨w.heap.size + 1, 2, none⟩)] := (J_1).put h2_ ne_J_T; have P_2 : Blk w2_ (w.heap.size + 1 + 1 + 1) 9 #[.string ⟨a.toArray⟩, .string ⟨b.toArray⟩, .string ⟨c.toArray⟩, .string ⟨d.toArray⟩] := (P_1).put h2_ ne_P_T; have S_2 := pp (S_1) h2_ ge_T; clear R_1 T_1 J_1 P_1 S_1 Pc0 Pc1 Pc2 Pc3 Pl; have Pc0 := P_2.cellAt 0 rfl; have Pc1 := P_2.cellAt 1 rfl; have Pc2 := P_2.cellAt 2 rfl; have Pc3 := P_2.cellAt 3 rfl; have Pl := P_2.lt; clear h2_ b2_))
  rw [rounds_succ]
  go_wp2_with (first
    | (go_at_call 51; (with_reducible refine (Hb.out _ (HS.out _ (S_2))).mono ?_); rintro e w3_ ⟨rfl, h3_⟩; have R_3 : Blk w3_ (w.heap.size) 41 #[.int .i64 0, .int .i64 0, .int .i64 0, .slice none 0 0] := (R_2).past h3_; have T_3 : Blk w3_ (w.heap.size + 1) 41 #[.int .i64 va, .int .i64 0, .int .i64 0, .slice none 0 0] := (T_2).past h3_; have J_3 : Blk w3_ (w.heap.size + 1 + 1) 92 #[.pointer (some ⟨w.heap.size + 1, 0, none⟩), .pointer (some ⟨w.heap.size + 1, 1, none⟩), .pointer (some ⟨w.heap.size + 1, 2, none⟩)] := (J_2).past h3_; have P_3 : Blk w3_ (w.heap.size + 1 + 1 + 1) 9 #[.string ⟨a.toArray⟩, .string ⟨b.toArray⟩, .string ⟨c.toArray⟩, .string ⟨d.toArray⟩] := (P_2).past h3_; have S_3 := pt (S_2) h3_; clear R_2 T_2 J_2 P_2 S_2 Pc0 Pc1 Pc2 Pc3 Pl; have Pc0 := P_3.cellAt 0 rfl; have Pc1 := P_3.cellAt 1 rfl; have Pc2 := P_3.cellAt 2 rfl; have Pc3 := P_3.cellAt 3 rfl; have Pl := P_3.lt; clear h3_)
    | ((with_reducible refine store_sub (T := 3) (x := .tmp 46) (y := .tmp 41) (o := 1) (cs' := #[.int .i64 va, .int .i64 vb, .int .i64 0, .slice none 0 0]) (vs := #[.int .i64 vb]) (show Blk _ (w.heap.size + 1) 41 #[.int .i64 va, .int .i64 0, .int .i64 0, .slice none 0 0] from (T_3)) ?_ ?_ ?_ ?_ ?_ ?_ ?_); (focus rfl); (focus rfl); (focus rfl); (focus exact Nat.le_of_ble_eq_true rfl); (focus exact int_size1); (focus (simp [Value.oneCell']; done)); intro w4_ b4_ h4_; have R_4 : Blk w4_ (w.heap.size) 41 #[.int .i64 0, .int .i64 0, .int .i64 0, .slice none 0 0] := (R_3).put h4_ (Ne.symm ne_T_R); have T_4 : Blk w4_ (w.heap.size + 1) 41 #[.int .i64 va, .int .i64 vb, .int .i64 0, .slice none 0 0] := b4_; have J_4 : Blk w4_ (w.heap.size + 1 + 1) 92 #[.pointer (some ⟨w.heap.size + 1, 0, none⟩), .pointer (some ⟨w.heap.size + 1, 1, none⟩), .pointer (some ⟨w.heap.size + 1, 2, none⟩)] := (J_3).put h4_ ne_J_T; have P_4 : Blk w4_ (w.heap.size + 1 + 1 + 1) 9 #[.string ⟨a.toArray⟩, .string ⟨b.toArray⟩, .string ⟨c.toArray⟩, .string ⟨d.toArray⟩] := (P_3).put h4_ ne_P_T; have S_4 := pp (S_3) h4_ ge_T; clear R_3 T_3 J_3 P_3 S_3 Pc0 Pc1 Pc2 Pc3 Pl; have Pc0 := P_4.cellAt 0 rfl; have Pc1 := P_4.cellAt 1 rfl; have Pc2 := P_4.cellAt 2 rfl; have Pc3 := P_4.cellAt 3 rfl; have Pl := P_4.lt; clear h4_ b4_))
  rw [rounds_succ]
  go_wp2_with (first
    | (go_at_call 51; (with_reducible refine (Hc.out _ (HS.out _ (S_4))).mono ?_); rintro e w5_ ⟨rfl, h5_⟩; have R_5 : Blk w5_ (w.heap.size) 41 #[.int .i64 0, .int .i64 0, .int .i64 0, .slice none 0 0] := (R_4).past h5_; have T_5 : Blk w5_ (w.heap.size + 1) 41 #[.int .i64 va, .int .i64 vb, .int .i64 0, .slice none 0 0] := (T_4).past h5_; have J_5 : Blk w5_ (w.heap.size + 1 + 1) 92 #[.pointer (some ⟨w.heap.size + 1, 0, none⟩), .pointer (some ⟨w.heap.size + 1, 1, none⟩), .pointer (some ⟨w.heap.size + 1, 2, none⟩)] := (J_4).past h5_; have P_5 : Blk w5_ (w.heap.size + 1 + 1 + 1) 9 #[.string ⟨a.toArray⟩, .string ⟨b.toArray⟩, .string ⟨c.toArray⟩, .string ⟨d.toArray⟩] := (P_4).past h5_; have S_5 := pt (S_4) h5_; clear R_4 T_4 J_4 P_4 S_4 Pc0 Pc1 Pc2 Pc3 Pl; have Pc0 := P_5.cellAt 0 rfl; have Pc1 := P_5.cellAt 1 rfl; have Pc2 := P_5.cellAt 2 rfl; have Pc3 := P_5.cellAt 3 rfl; have Pl := P_5.lt; clear h5_)
    | ((with_reducible refine store_sub (T := 3) (x := .tmp 46) (y := .tmp 41) (o := 2) (cs' := #[.int .i64 va, .int .i64 vb, .int .i64 vc, .slice none 0 0]) (vs := #[.int .i64 vc]) (show Blk _ (w.heap.size + 1) 41 #[.int .i64 va, .int .i64 vb, .int .i64 0, .slice none 0 0] from (T_5)) ?_ ?_ ?_ ?_ ?_ ?_ ?_); (focus rfl); (focus rfl); (focus rfl); (focus exact Nat.le_of_ble_eq_true rfl); (focus exact int_size1); (focus (simp [Value.oneCell']; done)); intro w6_ b6_ h6_; have R_6 : Blk w6_ (w.heap.size) 41 #[.int .i64 0, .int .i64 0, .int .i64 0, .slice none 0 0] := (R_5).put h6_ (Ne.symm ne_T_R); have T_6 : Blk w6_ (w.heap.size + 1) 41 #[.int .i64 va, .int .i64 vb, .int .i64 vc, .slice none 0 0] := b6_; have J_6 : Blk w6_ (w.heap.size + 1 + 1) 92 #[.pointer (some ⟨w.heap.size + 1, 0, none⟩), .pointer (some ⟨w.heap.size + 1, 1, none⟩), .pointer (some ⟨w.heap.size + 1, 2, none⟩)] := (J_5).put h6_ ne_J_T; have P_6 : Blk w6_ (w.heap.size + 1 + 1 + 1) 9 #[.string ⟨a.toArray⟩, .string ⟨b.toArray⟩, .string ⟨c.toArray⟩, .string ⟨d.toArray⟩] := (P_5).put h6_ ne_P_T; have S_6 := pp (S_5) h6_ ge_T; clear R_5 T_5 J_5 P_5 S_5 Pc0 Pc1 Pc2 Pc3 Pl; have Pc0 := P_6.cellAt 0 rfl; have Pc1 := P_6.cellAt 1 rfl; have Pc2 := P_6.cellAt 2 rfl; have Pc3 := P_6.cellAt 3 rfl; have Pl := P_6.lt; clear h6_ b6_))
  rw [rounds_succ]
  go_wp2_with (first
    | (go_at_call 52; (with_reducible refine (HPa.out _ (HS.out _ (S_6))).mono ?_); rintro e w7_ ⟨Ap, cp, gp, rfl, hcp, hgp, hap, h7_⟩; have hgT0 := T_6.lt; have R_7 : Blk w7_ (w.heap.size) 41 #[.int .i64 0, .int .i64 0, .int .i64 0, .slice none 0 0] := (R_6).past h7_; have T_7 : Blk w7_ (w.heap.size + 1) 41 #[.int .i64 va, .int .i64 vb, .int .i64 vc, .slice none 0 0] := (T_6).past h7_; have J_7 : Blk w7_ (w.heap.size + 1 + 1) 92 #[.pointer (some ⟨w.heap.size + 1, 0, none⟩), .pointer (some ⟨w.heap.size + 1, 1, none⟩), .pointer (some ⟨w.heap.size + 1, 2, none⟩)] := (J_6).past h7_; have P_7 : Blk w7_ (w.heap.size + 1 + 1 + 1) 9 #[.string ⟨a.toArray⟩, .string ⟨b.toArray⟩, .string ⟨c.toArray⟩, .string ⟨d.toArray⟩] := (P_6).past h7_; have S_7 := pt (S_6) h7_; clear R_6 T_6 J_6 P_6 S_6 Pc0 Pc1 Pc2 Pc3 Pl; clear h7_))
  have hgT : w.heap.size + 1 < w7_.heap.size := T_7.lt
  have hwW : w.heap.size ≤ w7_.heap.size := (S_7).size
  go_loopw [7, 53] (fun okv iv wr => ∃ (k : Nat) (A1 : Option Addr) (c1 : Nat) (ys : List Int), okv = .bool true ∧ iv = .int .i64 (k : Int) ∧ k ≤ n ∧ ys = q.take k ∧ Blk wr w.heap.size 41 #[.int .i64 0, .int .i64 0, .int .i64 0, .slice none 0 0] ∧ Blk wr (w.heap.size + 1) 41 #[.int .i64 va, .int .i64 vb, .int .i64 vc, .slice A1 k c1] ∧ wr.ownsRow w7_.heap.size 3 1 (.slice A1 k c1) k (ys.map (Value.int .i64)) ∧ (0 < n → Blk wr gp 9 (P.map strV).toArray) ∧ w7_.heap.size ≤ wr.heap.size ∧ Below w.heap.size w wr) (fun _ iv _ => n - (intOf iv).toNat)
  case atStart => exact ⟨0, none, 0, [], rfl, rfl, Nat.zero_le _, rfl, R_7, T_7, World.ownsRow_nil _ _ _ _, fun h => (hap h).2.2, Nat.le_refl _, S_7⟩
  case round =>
    obtain ⟨k, A1, c1, ys, rfl, rfl, hkn, hys, kR, kT, hown, hpw, hws, hq⟩ := hrel
    have HYs := Lib.hid hys
    have HQ := Lib.hid hq
    have n0 : (0 : Int) ≤ (k : Int) := by omega
    clear hys hq
    by_cases hlt : k < n
    · have n1 : (k : Int) < (n : Int) := by omega
      have hlx : k < P.length := by rw [HP.out]; exact hlt
      obtain ⟨hAp, hgw, _⟩ := hap (by omega)
      subst hAp
      have kP := hpw (by omega)
      have hxm : (P.getD k []).length ≤ 500 := HMem.out _ (by rw [List.getD_eq_getElem?_getD, List.getElem?_eq_getElem hlx]; exact List.getElem_mem hlx)
      have hcell : wr.cell? ⟨gp, k, none⟩ = some (.string ⟨(P.getD k []).toArray⟩) := kP.cellAt k (by rw [List.getElem?_toArray, List.getElem?_map, List.getElem?_eq_getElem hlx, List.getD_eq_getElem?_getD, List.getElem?_eq_getElem hlx]; rfl)
      have e1 : IntKind.i64.wrap ((k : Int) + 1) = (k : Int) + 1 := IntWalk.i64_in _ (by omega)
      have hnum := fun w' hS' => wn_some (P.getD k []) (by omega) (q.getD k 0) (numsQ_at HNq.out k hlx) w' hS'
      have HSt := Lib.hid (take_getD (q := q) (k := k) (by have := HQl.out; omega))
      have HNum := Lib.hid hnum
      have HOw := Lib.hid hown
      have HT := Lib.hid kT
      have HR := Lib.hid kR
      have HPk := Lib.hid kP
      have kl := kP.lt
      clear hnum hown kT kR kP hap hpw hcp
      generalize P.getD k [] = x at *
      go_wp2_with (first
        | (go_at_call 51; (with_reducible refine (HNum.out _ (HS.out _ HQ.out)).mono ?_); rintro e w1 ⟨rfl, hb1⟩; have HO1 := Lib.hid ((own_past HOw.out hb1).alloc (.cells #[.int .i64 (q.getD k 0)] 3)); have HT1 := HT.out.past hb1; have t3 := HT1.cellAt 3 rfl; have tl := HT1.lt; have HR1 := Lib.hid (HR.out.past hb1); have HP1 := Lib.hid (HPk.out.past hb1); have HQ1 := Lib.hid (pt HQ.out hb1); have HC := Lib.hid (cellsIn_one w1 3 (.int .i64 (q.getD k 0))); have hs1 := HQ1.out.size; have hs2 : w7_.heap.size ≤ w1.heap.size := Nat.le_trans hws hb1.size; clear hb1 hcell)
        | (at_builtin; go_must (refine wpList_append_cells _ rfl (.tmp 63) (.tmp 65) _ rfl w7_.heap.size 3 i0 _ 1 8 Tryz.underlying32 hi0 hz0 hz1 hz2 rfl (by omega) _ k _ rfl HO1.out (w1.heap.size + 1) (some ⟨w1.heap.size, 0, none⟩) 1 1 _ rfl HC.out rfl (by simp [Value.oneCell']) (by simp only [maxLen]; omega) (by omega) (by simp; omega) ?_); intro v4 w4 hown4 hg4 hat4; obtain ⟨A4, c4, rfl, hc4, hm4⟩ := own_form hown4; have HT4 := (HT1.alloc (o := .cells #[.int .i64 (q.getD k 0)] 3)).grown hg4 (own_lt HO1.out hgT); have HR4 := Lib.hid ((HR1.out.alloc (o := .cells #[.int .i64 (q.getD k 0)] 3)).grown hg4 (own_lt HO1.out (by omega))); have HP4 := Lib.hid ((HP1.out.alloc (o := .cells #[.int .i64 (q.getD k 0)] 3)).grown hg4 (own_lt HO1.out (by omega))); have HB4 := Lib.hid (show Below w.heap.size w w4 from pg (pa HQ1.out) HO1.out hwW hg4); have HOwn4 := Lib.hid hown4; have hs4 : w7_.heap.size ≤ w4.heap.size := (by have := hg4.size; simp at this; omega); clear hown4 hg4 hat4 t3 tl; have f3 := HT4.frozen 3; have t3 := HT4.cellAt 3 rfl; have tl := HT4.lt))
      go_roundw
      case rel =>
        refine ⟨k + 1, A4, c4, ys ++ [(q.getD k 0)], rfl, by go_num, by omega, by rw [HSt.out, ← HYs.out], HR4.out.far (by simp), HT4.set_ 3 _, ?_, fun _ => HP4.out.far (by simp; omega), by simpa using hs4, ps HB4.out (by simp)⟩
        rw [List.map_append]
        exact ownsRow_setCell_below HOwn4.out (by simp; omega) _
      case measure => simp [intOf]; omega
    · obtain rfl : k = n := by omega
      clear hlt hkn
      obtain ⟨A2, c2, e2, hc2, _⟩ := own_form hown
      injection e2 with e2 e3 e4
      subst e2 e4
      have hyq : ys = q := by rw [HYs.out]; exact List.take_of_length_le (by have := HQl.out; omega)
      subst hyq
      have hyl : ys.length = k := HQl.out
      have HI := Lib.hid (intsIn_of_own hown)
      have rI_0 : IntsAb w7_.heap.size wr A1 ys := intsAb_of_own hown
      have HYl := Lib.hid hyl
      have hte := fun w' (hb : Below wr.heap.size wr w') => taskErr_any wr.heap.size ⟨va, vb, vc, ys⟩ A1 k c1 w' hyl (HI.out.below hb) hb.size (by omega)
      have x0 := kT.lt
      have t0 := kT.cellAt 0 rfl
      have t1 := kT.cellAt 1 rfl
      have t2 := kT.cellAt 2 rfl
      have t3 := kT.cellAt 3 rfl
      have hv0 : firstV [unlessV true 7, taskE ⟨va, vb, vc, ys⟩] = taskE ⟨va, vb, vc, ys⟩ := by by_cases h : taskE ⟨va, vb, vc, ys⟩ = 0 <;> simp [unlessV, firstV, h]
      rw [HE.out] at hv0 hte
      have HV := Lib.hid hv0
      have HTe := Lib.hid hte
      clear hte hown hyl hap hpw hgp hcp HPa HMem HYs
      go_wp2
      refine region_below 4 follows_mixed (by kernel_rfl) ?_
      intro C hC
      simp only [List.take_succ_cons, List.take_zero, List.drop_succ_cons, List.drop_zero]
      repeat (first
        | ((with_reducible refine quiet_plain rfl (fun K hK => ?_)); (focus (apply quiet_val; (focus (intro w' hw; obtain ⟨hcq, hfq⟩ := bcell ((hC.out _).1 hw); go_simp; (first | done | rfl | (with_reducible exact call_same hw (unless_any _ _ _)) | (with_reducible exact call_below hC hw (HTe.out _ ((hC.out _).1 hw)))))); (simp only [Act.put, List.setIfInBounds_toArray, List.set_cons_succ, List.set_cons_zero]); (with_reducible refine hK _ ?_); clear hK K)))
        | ((with_reducible refine quiet_skip ?_ ?_); (focus (first | (simp [Region.wanted, yielded]; done) | (simp [Region.wanted, yielded, undef]; done))); simp only [Act.put, List.setIfInBounds_toArray, List.set_cons_succ, List.set_cons_zero])
        | ((with_reducible refine quiet_go ?_ (fun K hK => ?_)); (focus (first | (simp [Region.wanted, yielded]; done) | (simp [Region.wanted, yielded, undef]; done))); (focus (apply quiet_val; (focus (intro w' hw; obtain ⟨hcq, hfq⟩ := bcell ((hC.out _).1 hw); go_simp; (first | done | rfl | (with_reducible exact call_same hw (unless_any _ _ _)) | (with_reducible exact call_below hC hw (HTe.out _ ((hC.out _).1 hw)))))); (simp only [Act.put, List.setIfInBounds_toArray, List.set_cons_succ, List.set_cons_zero]); (with_reducible refine hK _ ?_); clear hK K))))
      refine wpQuiet_nil ?_
      intro w1 hb1
      replace hb1 := (hC.out _).1 hb1
      clear hC C
      obtain ⟨hc1, hf1⟩ := bcell hb1
      have R_51 : Blk w1 (w.heap.size) 41 #[.int .i64 0, .int .i64 0, .int .i64 0, .slice none 0 0] := (kR).past hb1
      have T_51 : Blk w1 (w.heap.size + 1) 41 #[.int .i64 va, .int .i64 vb, .int .i64 vc, .slice A1 k c1] := (kT).past hb1
      have rI_51 : IntsAb w7_.heap.size w1 A1 ys := (rI_0).past hb1
      have S_51 := pt (HQ.out) hb1
      clear kR kT rI_0 t0 t1 t2 t3 x0
      have Tc0 := T_51.cellAt 0 rfl
      have Tc1 := T_51.cellAt 1 rfl
      have Tc2 := T_51.cellAt 2 rfl
      have Tc3 := T_51.cellAt 3 rfl
      have Tl := T_51.lt
      have Rc0 := R_51.cellAt 0 rfl
      have Rc1 := R_51.cellAt 1 rfl
      have Rc2 := R_51.cellAt 2 rfl
      have Rc3 := R_51.cellAt 3 rfl
      have Rl := R_51.lt
      clear hb1 hc1 hf1
      obtain ⟨w51_, rfl⟩ : ∃ v, v = w1 := ⟨_, rfl⟩
      go_wp2_with (first
        | (go_at_call 45; (with_reducible refine (first2' _ _ _ _ _ (by first | (go_simp; done) | (go_simp; rfl)) (by first | (go_simp; done) | (go_simp; rfl)) _ HV.out).mono ?_); rintro e w' ⟨rfl, rfl⟩)
        | ((with_reducible refine load_sub (T := 41) (x := .tmp 4) (o := 0) (vs := #[.int .i64 va, .int .i64 vb, .int .i64 vc, .slice A1 k c1]) (show Blk _ (w.heap.size + 1) 41 #[.int .i64 va, .int .i64 vb, .int .i64 vc, .slice A1 k c1] from (T_51.alloc)) ?_ ?_ Tryz.underlying41 ?_ ?_ ?_); (focus rfl); (focus rfl); (focus rfl); (focus exact task_size4))
        | ((with_reducible refine store_sub (T := 41) (x := .tmp 2) (y := .tmp 83) (o := 0) (cs' := #[.int .i64 va, .int .i64 vb, .int .i64 vc, .slice A1 k c1]) (vs := #[.int .i64 va, .int .i64 vb, .int .i64 vc, .slice A1 k c1]) (show Blk _ (w.heap.size) 41 #[.int .i64 0, .int .i64 0, .int .i64 0, .slice none 0 0] from (R_51.alloc)) ?_ ?_ ?_ ?_ ?_ ?_ ?_); (focus rfl); (focus rfl); (focus rfl); (focus exact Nat.le_of_ble_eq_true rfl); (focus exact task_size4); (focus (simp [Value.oneCell']; done)); intro w53_ b53_ h53_; have R_53 : Blk w53_ (w.heap.size) 41 #[.int .i64 va, .int .i64 vb, .int .i64 vc, .slice A1 k c1] := b53_; have T_53 : Blk w53_ (w.heap.size + 1) 41 #[.int .i64 va, .int .i64 vb, .int .i64 vc, .slice A1 k c1] := (T_51.alloc).put h53_ (by omega); have E_53 : Blk w53_ (w51_.heap.size) 37 #[.int .i64 (unlessV true 7), .int .i64 0] := (Blk.newAt (by simp)).put h53_ (by omega); have ne_R_E : w.heap.size ≠ w51_.heap.size := (by have := R_51.lt; omega); have ne_T_E : w.heap.size + 1 ≠ w51_.heap.size := (by have := T_51.lt; omega); have rI_53 : IntsAb w7_.heap.size w53_ A1 ys := (rI_51.alloc).put h53_ (by omega); have S_53 := pp (pa (S_51)) h53_ ge_R; clear R_51 T_51 rI_51 S_51 Tc0 Tc1 Tc2 Tc3 Tl Rc0 Rc1 Rc2 Rc3 Rl; clear h53_ b53_))
      have z0 := R_53.cellAt 0 rfl
      have z1 := R_53.cellAt 1 rfl
      have z2 := R_53.cellAt 2 rfl
      have z3 := R_53.cellAt 3 rfl
      exact bodyPost_ret (v := .tuple #[.agg #[.int .i64 va, .int .i64 vb, .int .i64 vc, .slice A1 k c1], .int .i64 0]) (by simp [results, Tryz.results12, go_sem, z0, z1, z2, z3]) rfl (taskPost_ok HYl.out hc2 rI_53.ints S_53)
theorem ParseTask_any (l : List UInt8) (hl : l.length ≤ 500) (w : World) (hS : StrIn w) :
    Calls Tryz.prog 12 #[.string ⟨l.toArray⟩] w (TaskPost w (taskOut (parseT l))) := by
  unfold parseT
  have hm : ∀ x ∈ splitL 32 l, x.length ≤ 500 := fun x hx => Nat.le_trans (splitM hx) hl
  have hlen := parT_len l hl
  generalize hs : splitL 32 l = L at *
  match L, hs, hm, hlen with
  | [a, b, c, d], hs, hm, _ =>
    have ha := hm a (by simp)
    have hb := hm b (by simp)
    have hc := hm c (by simp)
    have hd := hm d (by simp)
    dsimp only
    cases hxa : numQ 7 a with
    | none => exact parT_1 l a b c d hl ha hb hc hd hs (by rw [hxa]; rfl) _ _ rfl rfl w hS
    | some va =>
      cases hxb : numQ 7 b with
      | none => exact parT_2 l a b c d hl ha hb hc hd hs va hxa (by rw [hxb]; rfl) _ rfl w hS
      | some vb =>
        cases hxc : numQ 7 c with
        | none => exact parT_3 l a b c d hl ha hb hc hd hs va vb hxa hxb (by rw [hxc]; rfl) w hS
        | some vc =>
          cases hxd : numsQ 7 (partsL d) with
          | none => exact parT_4n l a b c d hl ha hb hc hd hs va vb vc hxa hxb hxc (by rw [hxd]; rfl) w hS
          | some q =>
            show Calls _ _ _ w (TaskPost w (if taskE ⟨va, vb, vc, q⟩ = 0 then (⟨va, vb, vc, q⟩, 0) else (⟨0, 0, 0, []⟩, taskE ⟨va, vb, vc, q⟩)))
            by_cases hE : taskE ⟨va, vb, vc, q⟩ = 0
            · rw [if_pos hE]
              exact parT_4g l a b c d hl ha hb hc hd hs va vb vc hxa hxb hxc q hxd hE w hS
            · rw [if_neg hE]
              exact parT_4e l a b c d hl ha hb hc hd hs va vb vc hxa hxb hxc q hxd _ rfl (by simpa using hE) w hS
  | [], _, _, h => exact h (by simp) w hS
  | [_], _, _, h => exact h (by simp) w hS
  | [_, _], _, _, h => exact h (by simp) w hS
  | [_, _, _], _, _, h => exact h (by simp) w hS
  | _ :: _ :: _ :: _ :: _ :: _, _, _, h => exact h (by simp) w hS

end Go.Proofs.YtbojmcopagbheaaGreatDoor
