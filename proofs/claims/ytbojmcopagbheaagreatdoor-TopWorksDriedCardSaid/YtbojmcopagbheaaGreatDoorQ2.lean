/- Plain facts for the specification's Cut.
Contract of the specification's Cut: a new slice of the pieces of a string. Strings of at most 1000 bytes.
Plain facts on the strings of tasks and lots: what is parsed, what is written, and that the one undoes the other. No program is in sight.
Contracts: strings.Split at one byte, strings.Join, and the works' lists of words.
Strings added; how long a numeral is; numbers of an int64. -/
import Derived.Test.YtbojmcopagbheaaGreatDoorQS
import Derived.Deep.DrawnRows
import Derived.Test.YtbojmcopagbheaaGreatDoorQ1
import Derived.Test.YtbojmcopagbheaaGreatDoorQ0
import Derived.Laws.Concat

section
namespace Go.Proofs.YtbojmcopagbheaaGreatDoor
open Go.Lib

/-- What stands ahead is put to the first piece. -/
def addHead (x : List UInt8) : List (List UInt8) → List (List UInt8)
  | [] => [x]
  | y :: r => (x ++ y) :: r
theorem splitL_ne {c : UInt8} : ∀ l : List UInt8, splitL c l ≠ []
  | [] => by simp [splitL]
  | b :: l => by
    rw [splitL]
    split
    · simp
    · split <;> simp
theorem splitL_cons {c b : UInt8} {l : List UInt8} (h : b ≠ c) : splitL c (b :: l) = addHead [b] (splitL c l) := by
  rw [splitL, if_neg h]
  cases hs : splitL c l with
  | nil => exact absurd hs (splitL_ne l)
  | cons x r => rfl
theorem addHead_add (x y : List UInt8) (s : List (List UInt8)) : addHead x (addHead y s) = addHead (x ++ y) s := by
  cases s <;> simp [addHead]
theorem addHead_nil {s : List (List UInt8)} (h : s ≠ []) : addHead [] s = s := by
  cases s with
  | nil => exact absurd rfl h
  | cons => rfl
/-- A step over the byte itself: the piece is done. -/
theorem cut_hit {c : UInt8} {l x : List UInt8} : addHead x (splitL c (c :: l)) = x :: splitL c l := by
  rw [splitL, if_pos rfl]
  simp [addHead]
theorem cut_on {c b : UInt8} {l x : List UInt8} (h : b ≠ c) : addHead x (splitL c (b :: l)) = addHead (x ++ [b]) (splitL c l) := by
  rw [splitL_cons h, addHead_add]
theorem splitL_len {c : UInt8} : ∀ l : List UInt8, (splitL c l).length ≤ l.length + 1
  | [] => by simp [splitL]
  | b :: l => by
    have := splitL_len (c := c) l
    rw [splitL]
    split
    · simp; omega
    · split
      · simp
      · rename_i h
        rw [h] at this
        simp at this ⊢
        omega
theorem piece_on {l : List UInt8} {f i : Nat} (hf : f ≤ i) (hi : i < l.length) : (l.drop f).take (i - f) ++ [l.getD i 0] = (l.drop f).take (i + 1 - f) := by
  rw [show i + 1 - f = (i - f) + 1 by omega, List.take_add_one]
  congr 1
  rw [List.getElem?_drop, show f + (i - f) = i by omega, List.getD_eq_getElem?_getD, List.getElem?_eq_getElem hi]
  rfl
theorem extract_list (l : List UInt8) (a b : Nat) : (⟨l.toArray⟩ : ByteArray).extract a b = ⟨((l.drop a).take (b - a)).toArray⟩ := Go.ByteArray.extract_mk l a b

end Go.Proofs.YtbojmcopagbheaaGreatDoor
end

section
namespace Go.Proofs.YtbojmcopagbheaaGreatDoor
open Go.RowKit
attribute [local go_sem ↓] Go.wp_at_zero Go.wp_at_succ

theorem string_info : (Tryz.prog.info? 9).map (fun i => (i.zero, i.size, i.bytes)) = some (some (.string ByteArray.empty), 1, 16) := by kernel_rfl
abbrev strV (l : List UInt8) : Value := .string ⟨l.toArray⟩
/-- A one-cell block holds a list of one. -/
theorem cellsIn_one (w : World) (t : TypeId) (v : Value) : CellsIn (w.heap.size + 1) (w.alloc (.cells #[v] t)) (some ⟨w.heap.size, 0, none⟩) [v] :=
  .inr ⟨w.heap.size, 0, rfl, Nat.lt_succ_self _, fun j hj => by
    have : j = 0 := by simpa using hj
    subst this
    exact (Blk.new w t #[v]).cellAt 0 rfl⟩

set_option maxHeartbeats 4000000 in
set_option maxRecDepth 100000 in
theorem refCut_own (l : List UInt8) (hl : l.length ≤ 1000) (c : Nat) (hc : c < 256) (w : World) :
    Calls Tryz.prog 79 #[.string ⟨l.toArray⟩, .int .u8 (c : Int)] w fun e w' => ∃ A cap, e = .returned (.slice A (splitL (UInt8.ofNat c) l).length cap) ∧ (splitL (UInt8.ofNat c) l).length ≤ cap ∧ w'.ownsRow w.heap.size 9 1 (.slice A (splitL (UInt8.ofNat c) l).length cap) (splitL (UInt8.ofNat c) l).length ((splitL (UInt8.ofNat c) l).map strV) ∧ Below w.heap.size w w' := by
  obtain ⟨i0, hi0, hz0, hz1, hz2⟩ : ∃ i0, Tryz.prog.info? 9 = some i0 ∧ i0.zero = some (.string ByteArray.empty) ∧ i0.size = 1 ∧ i0.bytes = 16 := by
    have h := string_info
    cases hi : Tryz.prog.info? 9 with
    | none => rw [hi] at h; cases h
    | some i => rw [hi] at h; simp only [Option.map_some, Option.some.injEq, Prod.mk.injEq] at h; exact ⟨i, rfl, h.1, h.2.1, h.2.2⟩
  have hbs := bsize l
  have c0 : (0 : Int) ≤ (c : Int) := by omega
  generalize hS : splitL (UInt8.ofNat c) l = S
  have hSl : S.length ≤ 1001 := by rw [← hS]; have := splitL_len (c := UInt8.ofNat c) l; omega
  have HS := Lib.hid hS
  clear hS
  go_enter Tryz.func79, Tryz.ntmps79
  go_wp2
  go_loopw [5, 6, 7] (fun ov fv iv wr => ∃ (i f : Nat) (done : List (List UInt8)) (A : Option Addr) (c' : Nat), ov = .slice A done.length c' ∧ fv = .int .i64 (f : Int) ∧ iv = .int .i64 (i : Int) ∧ f ≤ i ∧ i ≤ l.length ∧ S = done ++ addHead ((l.drop f).take (i - f)) (splitL (UInt8.ofNat c) (l.drop i)) ∧ wr.ownsRow w.heap.size 9 1 (.slice A done.length c') done.length (done.map strV) ∧ Below w.heap.size w wr) (fun _ _ iv _ => l.length - (intOf iv).toNat)
  case atStart => exact ⟨0, 0, [], none, 0, rfl, rfl, rfl, Nat.le_refl _, Nat.zero_le _, by rw [← HS.out]; simp [addHead_nil (splitL_ne l)], World.ownsRow_nil _ _ _ _, pr⟩
  case round =>
    obtain ⟨i, f, done, A, c', rfl, rfl, rfl, hfi, hil, hs, hown, hq⟩ := hrel
    have hdl : done.length ≤ 1001 := by rw [hs] at hSl; simp at hSl; omega
    have HQ := Lib.hid hq
    have HSt := Lib.hid hs
    have n0 : (0 : Int) ≤ (i : Int) := by omega
    have f0 : (0 : Int) ≤ (f : Int) := by omega
    have f1 : (f : Int) ≤ (i : Int) := by omega
    clear hq hs
    by_cases hlt : i < l.length
    · have n1 : (i : Int) < (l.length : Int) := by omega
      have hix := fun W => index_byteL l i hlt W
      have hbd := byteL_bd l i
      have hby := byte_is (l := l) (k := i) hc
      have hdr := drop_byte hlt
      have hpo := piece_on hfi hlt
      have e1 : IntKind.i64.wrap ((i : Int) + 1) = (i : Int) + 1 := IntWalk.i64_in _ (by omega)
      have hex := extract_list l f i
      by_cases hb : byteL l i = (c : Int)
      · have HNext := Lib.hid (show S = (done ++ [(l.drop f).take (i - f)]) ++ addHead ((l.drop (i + 1)).take (i + 1 - (i + 1))) (splitL (UInt8.ofNat c) (l.drop (i + 1))) from by
          rw [HSt.out, hdr, hby.1 hb, cut_hit, Nat.sub_self, List.take_zero, addHead_nil (splitL_ne _), List.append_assoc]; rfl)
        have HBY := Lib.hid hb
        rw [hb] at hix
        have HC := Lib.hid (cellsIn_one wr 9 (strV ((l.drop f).take (i - f))))
        have HO3 := Lib.hid (hown.alloc (.cells #[strV ((l.drop f).take (i - f))] 9))
        have hqs := HQ.out.size
        clear hby hdr hpo hb hown hbd
        go_wp2_with (at_builtin; go_must (refine wpList_append_cells _ rfl (.tmp 19) (.tmp 24) _ rfl w.heap.size 9 i0 _ 1 16 Tryz.underlying56 hi0 hz0 hz1 hz2 rfl (by omega) _ done.length _ rfl HO3.out (wr.heap.size + 1) (some ⟨wr.heap.size, 0, none⟩) 1 1 _ rfl HC.out rfl (by simp [Value.oneCell']) (by simp only [maxLen]; omega) (by omega) (by simp; omega) ?_); intro v4 w4 hown4 hg4 hat4; obtain ⟨A4, c4, rfl, hc4, hm4⟩ := own_form hown4)
        have HB4 := Lib.hid (show Below w.heap.size w w4 from pg (pa HQ.out) HO3.out (Nat.le_refl _) hg4)
        have HOwn4 := Lib.hid hown4
        clear hown4 hg4 hat4
        go_roundw
        case rel => exact ⟨i + 1, i + 1, done ++ [(l.drop f).take (i - f)], A4, c4, by simp, by go_num, by go_num, Nat.le_refl _, by omega, HNext.out, by simpa using HOwn4.out, HB4.out⟩
        case measure => simp [intOf]; omega
      · have hbne : UInt8.ofNat c ≠ l.getD i 0 := fun e => hb (hby.2 e.symm)
        have HNext := Lib.hid (show S = done ++ addHead ((l.drop f).take (i + 1 - f)) (splitL (UInt8.ofNat c) (l.drop (i + 1))) from by
          rw [HSt.out, hdr, cut_on (Ne.symm hbne), hpo])
        have hb1 : (byteL l i == (c : Int)) = false := by simpa using hb
        have HOwn := Lib.hid hown
        generalize byteL l i = b at *
        clear hby hdr hpo hbne hown
        go_wp2
        go_roundw
        case rel => exact ⟨i + 1, f, done, A, c', rfl, rfl, by go_num, by omega, by omega, HNext.out, HOwn.out, HQ.out⟩
        case measure => simp [intOf]; omega
    · have hie : i = l.length := by omega
      have hex := extract_list l f l.length
      have HEnd := Lib.hid (show S = done ++ [l.drop f] from by
        rw [HSt.out, hie, List.drop_length, show splitL (UInt8.ofNat c) [] = [[]] from rfl]
        simp only [addHead, List.append_nil]
        rw [List.take_of_length_le (by simp)])
      have hS2 := HEnd.out
      have HC := Lib.hid (cellsIn_one wr 9 (strV (l.drop f)))
      have HO3 := Lib.hid (hown.alloc (.cells #[strV (l.drop f)] 9))
      have hqs := HQ.out.size
      have HX := Lib.hid (show (⟨l.toArray⟩ : ByteArray).extract f l.length = ⟨(l.drop f).toArray⟩ from by rw [extract_list, List.take_of_length_le (by simp)])
      have hx := HX.out
      subst hS2
      clear HS HSt HEnd hown hex
      go_wp2_with (at_builtin; go_must (refine wpList_append_cells _ rfl (.tmp 28) (.tmp 32) _ rfl w.heap.size 9 i0 _ 1 16 Tryz.underlying56 hi0 hz0 hz1 hz2 rfl (by omega) _ done.length _ rfl HO3.out (wr.heap.size + 1) (some ⟨wr.heap.size, 0, none⟩) 1 1 _ rfl HC.out rfl (by simp [Value.oneCell']) (by simp only [maxLen]; omega) (by omega) (by simp; omega) ?_); intro v4 w4 hown4 hg4 hat4; obtain ⟨A4, c4, rfl, hc4, hm4⟩ := own_form hown4)
      have HB4 := Lib.hid (show Below w.heap.size w w4 from pg (pa HQ.out) HO3.out (Nat.le_refl _) hg4)
      go_ret
      refine ⟨A4, c4, ?_, by simpa using hc4, ?_, HB4.out⟩
      · rw [List.length_append]; rfl
      · rw [List.map_append, List.length_append]
        exact hown4
theorem refCut_any (l : List UInt8) (hl : l.length ≤ 1000) (c : Nat) (hc : c < 256) (w : World) :
    Calls Tryz.prog 79 #[.string ⟨l.toArray⟩, .int .u8 (c : Int)] w fun e w' => ∃ A cap, e = .returned (.slice A (splitL (UInt8.ofNat c) l).length cap) ∧ (splitL (UInt8.ofNat c) l).length ≤ cap ∧ CellsIn w'.heap.size w' A ((splitL (UInt8.ofNat c) l).map strV) ∧ Below w.heap.size w w' :=
  (refCut_own l hl c hc w).mono fun e w' ⟨A, cap, h1, h2, h3, h4⟩ => ⟨A, cap, h1, h2, cellsIn_of_own h3, h4⟩

end Go.Proofs.YtbojmcopagbheaaGreatDoor
end

section
namespace Go.Proofs.YtbojmcopagbheaaGreatDoor
open Go.Lib

theorem join_snoc {c : UInt8} : ∀ (l : List (List UInt8)) (x : List UInt8), l ≠ [] → join (l ++ [x]) [c] = join l [c] ++ c :: x
  | [], _, h => absurd rfl h
  | [y], x, _ => by rw [List.singleton_append, join_cons2, join_one, join_one]
  | y :: z :: l, x, _ => by
    rw [List.cons_append, List.cons_append, join_cons2, ← List.cons_append, join_snoc (z :: l) x (by simp), join_cons2, List.append_assoc]
    rfl
/-- Words behind one another, with commas; nothing: a sign. -/
def listedL (l : List (List UInt8)) : List UInt8 := if l = [] then [45] else join l [44]
def partsL (l : List UInt8) : List (List UInt8) := if l = [45] then [] else splitL 44 l
theorem listedL_snoc {l : List (List UInt8)} (x : List UInt8) (h : l ≠ []) : listedL (l ++ [x]) = listedL l ++ 44 :: x := by
  unfold listedL
  rw [if_neg (by simp), if_neg h, join_snoc l x h]
theorem listedL_one (x : List UInt8) : listedL [x] = x := by unfold listedL; rw [if_neg (by simp), join_one]
theorem join_sign {l : List (List UInt8)} (hl : l ≠ []) (h : ∀ x ∈ l, x ≠ [] ∧ x.head? ≠ some 45) : join l [44] ≠ [45] := by
  match l, hl with
  | [x], _ =>
    rw [join_one]
    intro e
    exact (h x (by simp)).2 (by rw [e]; rfl)
  | x :: y :: l, _ =>
    rw [join_cons2]
    intro e
    have hx := h x (by simp)
    cases x with
    | nil => exact hx.1 rfl
    | cons b r =>
      rw [List.cons_append] at e
      injection e with e1 e2
      exact hx.2 (by rw [e1]; rfl)
theorem parts_listed {l : List (List UInt8)} (h : ∀ x ∈ l, x ≠ [] ∧ x.head? ≠ some 45 ∧ 44 ∉ x) : partsL (listedL l) = l := by
  unfold partsL listedL
  by_cases hl : l = []
  · subst hl
    rw [if_pos rfl, if_pos rfl]
  · rw [if_neg hl, if_neg (join_sign hl fun x hx => ⟨(h x hx).1, (h x hx).2.1⟩), split_join l hl fun x hx => (h x hx).2.2]
theorem listed_space {l : List (List UInt8)} (h : ∀ x ∈ l, 32 ∉ x) : 32 ∉ listedL l := by
  unfold listedL
  split
  · decide
  · exact join_not (by decide) l h

/-! Tasks. -/
def numsQ (D : Nat) : List (List UInt8) → Option (List Int)
  | [] => some []
  | x :: l => (numQ D x).bind fun n => (numsQ D l).map fun r => n :: r
theorem numsQ_snoc (D : Nat) (x : List UInt8) : ∀ l : List (List UInt8), numsQ D (l ++ [x]) = (numsQ D l).bind fun r => (numQ D x).map fun n => r ++ [n]
  | [] => by
    simp only [List.nil_append, numsQ]
    cases numQ D x <;> rfl
  | y :: l => by
    simp only [List.cons_append, numsQ]
    rw [numsQ_snoc D x l]
    cases numQ D y with
    | none => rfl
    | some a =>
      cases numsQ D l with
      | none => rfl
      | some r => cases numQ D x <;> rfl
theorem numsQ_len {D : Nat} : ∀ {l : List (List UInt8)} {r : List Int}, numsQ D l = some r → r.length = l.length
  | [], r, h => by
    simp only [numsQ, Option.some.injEq] at h
    subst h; rfl
  | x :: l, r, h => by
    simp only [numsQ] at h
    cases hx : numQ D x with
    | none => rw [hx] at h; cases h
    | some a =>
      cases hl : numsQ D l with
      | none => rw [hx, hl] at h; cases h
      | some q =>
        rw [hx, hl] at h
        have h : a :: q = r := Option.some.inj h
        subst h
        simp [numsQ_len hl]
def parseT (l : List UInt8) : Option (Int × Int × Int × List Int) := match splitL 32 l with
  | [a, b, c, d] => (numQ 7 a).bind fun x => (numQ 7 b).bind fun y => (numQ 7 c).bind fun z => (numsQ 7 (partsL d)).map fun q => (x, y, z, q)
  | _ => none
def fmtT (m le re : Int) (q : List Int) : List UInt8 := join [itoa m, itoa le, itoa re, listedL (q.map itoa)] [32]
theorem head_itoa {k : Int} (h : 0 ≤ k) : (itoa k).head? ≠ some 45 := by rw [itoa_nat h]; exact nat_head
theorem numsQ_itoa : ∀ {q : List Int}, (∀ n ∈ q, 0 ≤ n ∧ n < 10000000) → numsQ 7 (q.map itoa) = some q
  | [], _ => rfl
  | n :: q, h => by
    rw [List.map_cons, numsQ, numQ_itoa (by decide) (h n (by simp)).1 (h n (by simp)).2, numsQ_itoa fun m hm => h m (List.mem_cons_of_mem _ hm)]
    rfl
theorem parse_task {m le re : Int} {q : List Int} (h1 : 0 ≤ m ∧ m < 10000000) (h2 : 0 ≤ le ∧ le < 10000000) (h3 : 0 ≤ re ∧ re < 10000000) (hq : ∀ n ∈ q, 0 ≤ n ∧ n < 10000000) : parseT (fmtT m le re q) = some (m, le, re, q) := by
  unfold parseT fmtT
  rw [split_join _ (by simp) (by
    intro x hx
    simp only [List.mem_cons, List.not_mem_nil, or_false] at hx
    rcases hx with rfl | rfl | rfl | rfl
    · exact not_in_itoa _ (by decide) (by decide)
    · exact not_in_itoa _ (by decide) (by decide)
    · exact not_in_itoa _ (by decide) (by decide)
    · refine listed_space fun x hx => ?_
      obtain ⟨n, _, rfl⟩ := List.mem_map.1 hx
      exact not_in_itoa _ (by decide) (by decide))]
  dsimp only
  rw [numQ_itoa (by decide) h1.1 h1.2, numQ_itoa (by decide) h2.1 h2.2, numQ_itoa (by decide) h3.1 h3.2, parts_listed (by
    intro x hx
    obtain ⟨n, hn, rfl⟩ := List.mem_map.1 hx
    exact ⟨itoa_ne n, head_itoa (hq n hn).1, not_in_itoa _ (by decide) (by decide)⟩), numsQ_itoa hq]
  rfl

/-! Lots. -/
def parseL (l : List UInt8) : Option (List UInt8 × List (List UInt8) × Int × Int × Int × Int) := match splitL 32 l with
  | [n, m, a, b, c, d] => if n = [] ∨ [] ∈ partsL m then none else
      (numberV a 7).bind fun x => (numberV b 7).bind fun y => (numberV c 7).bind fun z => (numberV d 7).map fun u => (n, partsL m, x, y, z, u)
  | _ => none
def fmtL (n : List UInt8) (made : List (List UInt8)) (a b c d : Int) : List UInt8 := join [n, listedL made, itoa a, itoa b, itoa c, itoa d] [32]
theorem parse_lot {n : List UInt8} {made : List (List UInt8)} {a b c d : Int} (hn : n ≠ [] ∧ 32 ∉ n) (hm : ∀ x ∈ made, x ≠ [] ∧ x.head? ≠ some 45 ∧ 44 ∉ x ∧ 32 ∉ x)
    (ha : -10000000 < a ∧ a < 10000000) (hb : -10000000 < b ∧ b < 10000000) (hc : -10000000 < c ∧ c < 10000000) (hd : -10000000 < d ∧ d < 10000000) : parseL (fmtL n made a b c d) = some (n, made, a, b, c, d) := by
  unfold parseL fmtL
  rw [split_join _ (by simp) (by
    intro x hx
    simp only [List.mem_cons, List.not_mem_nil, or_false] at hx
    rcases hx with rfl | rfl | rfl | rfl | rfl | rfl
    · exact hn.2
    · exact listed_space fun x hx => (hm x hx).2.2.2
    · exact not_in_itoa _ (by decide) (by decide)
    · exact not_in_itoa _ (by decide) (by decide)
    · exact not_in_itoa _ (by decide) (by decide)
    · exact not_in_itoa _ (by decide) (by decide))]
  dsimp only
  rw [parts_listed fun x hx => ⟨(hm x hx).1, (hm x hx).2.1, (hm x hx).2.2.1⟩, if_neg (by
    rintro (h | h)
    · exact hn.1 h
    · exact (hm [] h).1 rfl), numV_itoa (by decide) ha.1 ha.2, numV_itoa (by decide) hb.1 hb.2, numV_itoa (by decide) hc.1 hc.2, numV_itoa (by decide) hd.1 hd.2]
  rfl

end Go.Proofs.YtbojmcopagbheaaGreatDoor
end

section
namespace Go.Proofs.YtbojmcopagbheaaGreatDoor
open Go.RowKit
attribute [local go_sem ↓] Go.wp_at_zero Go.wp_at_succ
attribute [local go_sem] ByteArray.toList_mk

theorem splitB_at (l : List UInt8) (c : UInt8) : Lib.splitB ⟨#[c]⟩ 0 (Lib.countB ⟨l.toArray⟩ ⟨#[c]⟩) ⟨l.toArray⟩ = (splitL c l).map fun x => ⟨x.toArray⟩ := by
  have h := Lib.splitB_data ⟨#[c]⟩ 0 (Lib.countB ⟨l.toArray⟩ ⟨#[c]⟩) ⟨l.toArray⟩
  have h2 : Lib.splitK [c] 0 (Lib.countB ⟨l.toArray⟩ ⟨#[c]⟩) l = splitL c l := lib_split l c
  have h3 : ((⟨l.toArray⟩ : ByteArray)).data.toList = l := rfl
  rw [h3] at h
  have h := h.trans h2
  rw [← h, List.map_map]
  exact (List.map_id _).symm
theorem splitC_any (l : List UInt8) (c : UInt8) (hl : l.length ≤ 1000) (w : World) (h : StrIn w) : Calls Tryz.prog 50 #[.string ⟨l.toArray⟩, .string ⟨#[c]⟩] w fun e w' => e = .returned (.slice (some ⟨w.heap.size, 0, none⟩) (splitL c l).length (splitL c l).length) ∧ w' = w.alloc (.cells ((splitL c l).map strV).toArray 9) := by
  obtain ⟨m, hm⟩ := h.max
  refine (Tryz.strings_Split ⟨l.toArray⟩ ⟨#[c]⟩ m w (by rw [bsize]; omega) hm (Nat.le_refl 1)).mono ?_
  rintro e w' ⟨rfl, rfl⟩
  have hlen := Lib.splitB_all ⟨#[c]⟩ (Nat.le_refl 1) 0 _ (⟨l.toArray⟩ : ByteArray) rfl
  rw [splitB_at] at hlen ⊢
  rw [List.length_map] at hlen
  rw [← hlen, List.map_map]
  exact ⟨rfl, rfl⟩
theorem cells_new (w : World) (t : TypeId) (L : List Value) : CellsIn (w.heap.size + 1) (w.alloc (.cells L.toArray t)) (some ⟨w.heap.size, 0, none⟩) L :=
  .inr ⟨w.heap.size, 0, rfl, Nat.lt_succ_self _, fun j hj => by
    rw [Nat.zero_add, List.getElem?_eq_getElem hj]
    refine (Blk.new w t L.toArray).cellAt j ?_
    rw [List.getElem?_toArray]
    exact List.getElem?_eq_getElem hj⟩
theorem own_past {w w' : World} {base : Nat} {e : TypeId} {size n : Nat} {v : Value} {xs : List Value} (h : w.ownsRow base e size v n xs) (hb : Below w.heap.size w w') : w'.ownsRow base e size v n xs := by
  refine ⟨h.1, ?_⟩
  rcases h.2 with h2 | ⟨g, cap, cur, h2, h3, h4, h5⟩
  · exact .inl h2
  · exact .inr ⟨g, cap, cur, h2, h3, (hb.block g (Array.getElem?_eq_some_iff.1 h4).1).trans h4, h5⟩
theorem size_alloc1 (w : World) (ob : Obj) : (w.alloc ob).heap.size = w.heap.size + 1 := by simp
theorem splitC_cells (l : List UInt8) (c : UInt8) (hl : l.length ≤ 1000) (w : World) (h : StrIn w) : Calls Tryz.prog 50 #[.string ⟨l.toArray⟩, .string ⟨#[c]⟩] w fun e w' => ∃ A, e = .returned (.slice A (splitL c l).length (splitL c l).length) ∧ CellsIn w'.heap.size w' A ((splitL c l).map strV) ∧ Below w.heap.size w w' :=
  (splitC_any l c hl w h).mono fun e w'' ⟨h1, h2⟩ => ⟨_, h1, by subst h2; rw [size_alloc1]; exact cells_new w _ _, h2 ▸ pa pr⟩

/-- strings.Join of words that lie in a slice. -/
theorem joinC_any (L : List (List UInt8)) (d : UInt8) (A : Option Addr) (n c : Nat) (w : World) (hn : L.length = n) (hA : CellsIn w.heap.size w A (L.map strV)) (hc : n ≤ c) (hN : n ≤ 100000) (hlen : (Lib.join L [d]).length ≤ 1000000) :
    Calls Tryz.prog 55 #[.slice A n c, .string ⟨#[d]⟩] w fun e w' => e = .returned (strV (Lib.join L [d])) ∧ Below w.heap.size w w' := by
  subst hn
  rcases hA with hA | ⟨b, off, rfl, hb, hcell⟩
  · have hL : L = [] := by simpa using hA
    subst hL
    exact (Tryz.strings_Join_none A c ⟨#[d]⟩ w).mono fun e w' ⟨h1, h2⟩ => ⟨h1, h2 ▸ pr⟩
  · have e1 : (L.map fun x => (⟨x.toArray⟩ : ByteArray)).map (·.data.toList) = L := by rw [List.map_map]; exact List.map_id _
    have e2 : (L.map fun x => (⟨x.toArray⟩ : ByteArray)).length = L.length := by rw [List.length_map]
    have q := Tryz.strings_Join b off c (L.map fun x => (⟨x.toArray⟩ : ByteArray)) ⟨#[d]⟩ w (fun j x hx => by
      have hj : j < L.length := by rw [← e2]; exact (List.getElem?_eq_some_iff.1 hx).1
      rw [hcell j (by simpa using hj)]
      simp only [List.getElem?_map] at hx ⊢
      rw [List.getElem?_eq_getElem hj] at hx ⊢
      simp only [Option.map_some, Option.some.injEq] at hx ⊢
      rw [← hx]) hb (by rw [e2]; omega) (by rw [e2]; exact hc) (by rw [e1]; exact Nat.le_trans hlen (by decide))
    rw [e1, e2] at q
    exact q

set_option maxHeartbeats 1000000 in
theorem listed_any (L : List (List UInt8)) (A : Option Addr) (n c : Nat) (w : World) (hn : L.length = n) (hA : CellsIn w.heap.size w A (L.map strV)) (hc : n ≤ c) (hN : n ≤ 100000) (hlen : (Lib.join L [44]).length ≤ 1000000) :
    Calls Tryz.prog 56 #[.slice A n c] w fun e w' => e = .returned (strV (listedL L)) ∧ Below w.heap.size w w' := by
  by_cases h0 : L = []
  · subst h0
    have hn : n = 0 := hn.symm
    subst hn
    clear hA
    go_enter Tryz.func56, Tryz.ntmps56
    go_wp2
    go_ret
    exact ⟨rfl, pr⟩
  · have hpos : 0 < n := by rw [← hn]; exact List.length_pos_iff.2 h0
    have HJ := Lib.hid (joinC_any L 44 A n c w hn hA hc hN hlen)
    have HL := Lib.hid (show listedL L = Lib.join L [44] by unfold listedL; rw [if_neg h0])
    have hz : ((n : Int) == 0) = false := by simp; omega
    clear hA hlen h0 hn
    go_enter Tryz.func56, Tryz.ntmps56
    go_wp2_with (go_at_call 55; (with_reducible refine HJ.out.mono ?_); rintro e w1 ⟨rfl, hB1⟩)
    go_ret
    exact ⟨by rw [HL.out]; rfl, hB1⟩

set_option maxHeartbeats 1000000 in
theorem parts_any (l : List UInt8) (hl : l.length ≤ 1000) (w : World) (h : StrIn w) :
    Calls Tryz.prog 52 #[.string ⟨l.toArray⟩] w fun e w' => ∃ A c, e = .returned (.slice A (partsL l).length c) ∧ (partsL l).length ≤ c ∧ CellsIn w'.heap.size w' A ((partsL l).map strV) ∧ Below w.heap.size w w' := by
  by_cases h0 : l = [45]
  · subst h0
    have e : partsL [45] = [] := by unfold partsL; rw [if_pos rfl]
    rw [e]
    go_enter Tryz.func52, Tryz.ntmps52
    go_wp2
    go_ret
    exact ⟨none, 0, rfl, Nat.le_refl _, .nil, pr⟩
  · have e : partsL l = splitL 44 l := by unfold partsL; rw [if_neg h0]
    rw [e]
    have hs : (l == [45]) = false := by simpa using h0
    have HS := Lib.hid (splitC_cells l 44 hl w h)
    generalize splitL 44 l = S at *
    clear h0 e
    go_enter Tryz.func52, Tryz.ntmps52
    go_wp2_with (go_at_call 50; (with_reducible refine HS.out.mono ?_); rintro e w1 ⟨A1, rfl, hc1, hB1⟩)
    go_ret
    exact ⟨A1, S.length, rfl, Nat.le_refl _, hc1, hB1⟩

end Go.Proofs.YtbojmcopagbheaaGreatDoor
end

section
namespace Go.Proofs.YtbojmcopagbheaaGreatDoor
open Go.RowKit

theorem add_list (a b : List UInt8) (h : a.length + b.length ≤ 1000) (w : World) : (Op.stringOp .add ⟨a.toArray⟩ ⟨b.toArray⟩).run Tryz.prog w = .ok (.string ⟨(a ++ b).toArray⟩) w := by
  have e : (⟨a.toArray⟩ : ByteArray) ++ (⟨b.toArray⟩ : ByteArray) = ⟨(a ++ b).toArray⟩ := by
    apply ByteArray.ext
    simp
  rw [← e]
  exact run_string_add_sum (P := Tryz.prog) w _ _ (by rw [bsize, bsize]; omega)
theorem itoa_len {k : Int} (h0 : -9223372036854775808 ≤ k) (h1 : k ≤ 9223372036854775807) : (Lib.itoa k).length ≤ 21 := by
  have h := digits_len k.natAbs 20 (by decide) (by have : (10 : Nat) ^ 20 = 100000000000000000000 := by decide
                                                   omega)
  unfold Lib.itoa
  split
  · simp; omega
  · have e : k.toNat = k.natAbs := by omega
    rw [e]
    omega
def I64 (k : Int) : Prop := -9223372036854775808 ≤ k ∧ k ≤ 9223372036854775807

end Go.Proofs.YtbojmcopagbheaaGreatDoor
end
