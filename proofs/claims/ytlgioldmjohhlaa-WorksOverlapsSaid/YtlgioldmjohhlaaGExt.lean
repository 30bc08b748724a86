/- Contract: the recursive iterator over all stacks that overlap. -/
import Derived.Test.YtlgioldmjohhlaaFClone
import Derived.Test.YtlgioldmjohhlaaARange
import Derived.Maps.OwnIn
namespace Go.Proofs.Ytlgioldmjohhlaa
open Go.RowKit Go.Shelf
attribute [local go_sem] Oper.semAt_some undef

theorem roundIn_any {m m' : Nat} {P : Program} {l : Nat} {f : FuncId} {tmps : Array Value} {assign body : Code} {w : World} {R : Ending → World → Prop}
    (h : RoundIn Fence.wide m P l f tmps assign body w R) : RoundIn Fence.wide m' P l f tmps assign body w R := ⟨h.1, fun c cs _ => h.2 c cs (room_wide _)⟩

/-- From block B on, what was there is as it was. -/
structure Above (B : Nat) (w w' : World) : Prop where
  size : w.heap.size ≤ w'.heap.size
  block : ∀ k, B ≤ k → k < w.heap.size → w'.heap[k]? = w.heap[k]?
theorem Above.refl (B : Nat) (w : World) : Above B w w := ⟨Nat.le_refl _, fun _ _ _ => rfl⟩
theorem Above.trans {B : Nat} {a b c : World} (h : Above B a b) (k : Above B b c) : Above B a c :=
  ⟨Nat.le_trans h.size k.size, fun i hi h2 => (k.block i hi (Nat.lt_of_lt_of_le h2 h.size)).trans (h.block i hi h2)⟩
theorem Above.of_below {B : Nat} {a b : World} (h : Below a.heap.size a b) : Above B a b := ⟨h.size, fun k _ hk => h.block k hk⟩

/-- A slice at A reads as xs; its cells lie in blocks from B on. -/
def IntsAb (B : Nat) (w : World) (A : Option Addr) (xs : List Int) : Prop :=
  xs = [] ∨ ∃ b off, A = some ⟨b, off, none⟩ ∧ B ≤ b ∧ b < w.heap.size ∧ ∀ j, j < xs.length → w.cell? ⟨b, off + j, none⟩ = some (.int .i64 (xs.getD j 0))
theorem IntsAb.ints {B : Nat} {w : World} {A : Option Addr} {xs : List Int} (h : IntsAb B w A xs) : IntsIn w.heap.size w A xs := by
  rcases h with h | ⟨b, off, hA, _, hb, hc⟩
  · exact .inl h
  · exact .inr ⟨b, off, hA, hb, hc⟩
theorem IntsAb.above {B : Nat} {w w' : World} {A : Option Addr} {xs : List Int} (h : IntsAb B w A xs) (hk : Above B w w') : IntsAb B w' A xs := by
  rcases h with h | ⟨b, off, hA, hB, hb, hc⟩
  · exact .inl h
  · exact .inr ⟨b, off, hA, hB, Nat.lt_of_lt_of_le hb hk.size, fun j hj => (World.cell?_of_block (w := w) (hk.block b hB hb)).trans (hc j hj)⟩
theorem intsAb_of_own {w : World} {base : Nat} {e : TypeId} {n c : Nat} {A : Option Addr} {xs : List Int} (h : w.ownsRow base e 1 (.slice A n c) n (xs.map (Value.int .i64))) : IntsAb base w A xs := by
  rcases intsIn_of_own h with h1 | ⟨b, off, hA, hb, hc⟩
  · exact .inl h1
  · exact .inr ⟨b, off, hA, by have := h.lt b (by rw [hA]; rfl); exact this.1, hb, hc⟩

/-- The number that stands last is nearer to i than the overlap. -/
def nearB (xs : List Int) (overlap i : Int) : Bool := decide (0 < xs.length) && decide (sizeV (i - xs.getD (xs.length - 1) 0) < overlap)

/-- All stacks that overlap and begin with xs; d more offsets are wanted. -/
def stacksV (count : Nat) (overlap : Int) : Nat → List Int → List (List Int)
  | 0, xs => if (checkStackV xs overlap).2 = 0 then [xs] else []
  | d + 1, xs => (List.range count).flatMap fun (i : Nat) => if hasB xs (i : Int) || nearB xs overlap (i : Int) then [] else stacksV count overlap d (xs ++ [(i : Int)])

def stacksUpto (count : Nat) (overlap : Int) (d : Nat) (xs : List Int) (k : Nat) : List (List Int) :=
  (List.range k).flatMap fun (i : Nat) => if hasB xs (i : Int) || nearB xs overlap (i : Int) then [] else stacksV count overlap d (xs ++ [(i : Int)])
theorem stacksUpto_succ (count : Nat) (overlap : Int) (d : Nat) (xs : List Int) (k : Nat) :
    stacksUpto count overlap d xs (k + 1) = stacksUpto count overlap d xs k ++ (if hasB xs (k : Int) || nearB xs overlap k then [] else stacksV count overlap d (xs ++ [(k : Int)])) := by
  unfold stacksUpto
  rw [List.range_succ, List.flatMap_append]
  simp

theorem stacksUpto_prefix (count : Nat) (overlap : Int) (d : Nat) (xs : List Int) : ∀ {k m : Nat}, k ≤ m → stacksUpto count overlap d xs k <+: stacksUpto count overlap d xs m
  | k, 0, h => by obtain rfl : k = 0 := by omega
                  exact List.prefix_refl _
  | k, m + 1, h => by
    rcases Nat.lt_or_ge k (m + 1) with h' | h'
    · exact (stacksUpto_prefix count overlap d xs (k := k) (m := m) (by omega)).trans (by rw [stacksUpto_succ]; exact List.prefix_append _ _)
    · obtain rfl : k = m + 1 := by omega
      exact List.prefix_refl _

/-- What a round is handed: where the slice lies, its capacity, its numbers. -/
abbrev Stk := (Option Addr × Nat) × List Int

/-- What the iterator comes to: all have come, or a part of them, a round having said no more. -/
def ExtPost (B0 : Nat) (J Jx : List Stk → World → Prop) (pre : List Stk) (l : List (List Int)) (W : World) (e : Ending) (W' : World) : Prop :=
  (e = .returned (.bool true) ∧ (∃ q : List Stk, q.map (·.2) = l ∧ J (pre ++ q) W') ∧ Above B0 W W') ∨
  (e = .returned (.bool false) ∧ ∃ q : List Stk, q ≠ [] ∧ q.map (·.2) <+: l ∧ Jx (pre ++ q) W')

theorem IntsAb.mono {B B' : Nat} {w : World} {A : Option Addr} {xs : List Int} (h : IntsAb B w A xs) (hB : B' ≤ B) : IntsAb B' w A xs := by
  rcases h with h | ⟨b, off, hA, hb, r⟩
  · exact .inl h
  · exact .inr ⟨b, off, hA, by omega, r⟩
theorem ext_count {pre q : List Stk} {U U' V F : List (List Int)} {N : Nat} (hq : q.map (·.2) = U) (hG : U' = U ++ V) (hp : U' <+: F) (hN : pre.length + F.length ≤ N) : (pre ++ q).length + V.length ≤ N := by
  have h1 : q.length = U.length := by rw [← hq]; simp
  have h2 := hp.length_le
  rw [hG] at h2
  simp only [List.length_append] at h2 ⊢
  omega
theorem ext_prefix {q q2 : List Stk} {U U' V F : List (List Int)} (hq : q.map (·.2) = U) (hG : U' = U ++ V) (hp : U' <+: F) (h2 : q2.map (·.2) <+: V) : (q ++ q2).map (·.2) <+: F := by
  rw [List.map_append, hq]
  refine List.IsPrefix.trans ?_ hp
  rw [hG]
  exact (List.prefix_append_right_inj _).2 h2
theorem getD_snoc {xs : List Int} {y : Int} (h0 : 0 ≤ y) (h8 : y ≤ 8) (h : ∀ j, j < xs.length → 0 ≤ xs.getD j 0 ∧ xs.getD j 0 ≤ 8) : ∀ j, j < (xs ++ [y]).length → 0 ≤ (xs ++ [y]).getD j 0 ∧ (xs ++ [y]).getD j 0 ≤ 8 := by
  intro j hj
  rcases Nat.lt_or_ge j xs.length with h' | h'
  · have := h j h'
    simpa [List.getD, List.getElem?_append_left h'] using this
  · have e : j = xs.length := by simp at hj; omega
    subst e
    simp [List.getD]
    omega

set_option maxRecDepth 100000 in
set_option maxHeartbeats 2000000 in
theorem extended_any (count : Nat) (overlap : Int) (hcount : count ≤ 8) (l B0 N m : Nat) (J Jx : List Stk → World → Prop) (hJ : AbidesFrom B0 J)
    (hY : ∀ pre (x : Stk) W, J pre W → B0 ≤ W.heap.size → IntsAb B0 W x.1.1 x.2 ∧ x.2.length = count ∧ count ≤ x.1.2 → pre.length < N →
      YieldAt Fence.wide m Try.prog l #[.slice x.1.1 count x.1.2] W fun e W' => (e = .returned (.bool true) ∧ J (pre ++ [x]) W' ∧ Above B0 W W') ∨ (e = .returned (.bool false) ∧ Jx (pre ++ [x]) W')) :
    ∀ (d : Nat) (xs : List Int) (A : Option Addr) (n c k : Nat) (pre : List Stk) (W : World), xs.length = n → n + d = count → n ≤ c → J pre W → B0 ≤ W.heap.size → IntsAb B0 W A xs → pre.length + (stacksV count overlap d xs).length ≤ N → (∀ j, j < xs.length → 0 ≤ xs.getD j 0 ∧ xs.getD j 0 ≤ 8) →
      CallsIn Fence.wide k Try.prog 135 #[.slice A n c, .int .i64 (count : Int), .int .i64 overlap, .func (.yield l) #[] #[]] W (ExtPost B0 J Jx pre (stacksV count overlap d xs) W) := by
  intro d
  induction d with
  | zero =>
    intro xs A n c k pre W hn hd hc hj hB hr hN hb
    obtain rfl : n = count := by omega
    subst hn
    have hck := checkStack_any W.heap.size A c xs overlap W hr.ints (Nat.le_refl _) (by omega) hc
    by_cases h0 : (checkStackV xs overlap).2 = 0
    · have hs : stacksV xs.length overlap 0 xs = [xs] := by simp [stacksV, h0]
      have HS := Lib.hid hs
      have HR := Lib.hid hr
      have hlt : pre.length < N := by rw [hs] at hN; simp at hN; omega
      clear hs hN hb hr
      have HY := Lib.hid hY
      clear hY
      refine callsIn_of_wp Try.func135 rfl trivial ?_ rfl
      simp only [undef, Try.ntmps135, List.size_toArray, List.length_cons, List.length_nil, Nat.reduceAdd, Nat.reduceSub, Array.replicate_succ, Array.replicate_zero, List.push_toArray, List.append_toArray, List.nil_append, List.cons_append]
      gi_wp2_with (refine ⟨trivial, (fun h => nomatch h), ?_⟩; gi_at_call 23; refine (callsIn_wide.2 hck).mono ?_; rintro e w1 ⟨rfl, hb⟩; have hj1 := hJ pre W w1 none hj ⟨hb.os, hb.tape, hb.output, hb.size, fun i hi _ => hb.block i hi⟩ (fun r e => by cases e); obtain ⟨fn, tmps, assign, body, hy, hR⟩ := HY.out pre ((A, c), xs) w1 hj1 (Nat.le_trans hB hb.size) ⟨HR.out.above (Above.of_below hb), rfl, hc⟩ hlt; dsimp only at hy)
      refine ⟨(fun h => nomatch h), (roundIn_any hR).mono ?_⟩
      rintro e W3 (⟨rfl, hJ3, hk3⟩ | ⟨rfl, hJx3⟩)
      · gi_wp2
        go_ret
        exact .inl ⟨rfl, ⟨[((A, c), xs)], by rw [HS.out]; rfl, hJ3⟩, (Above.of_below hb).trans hk3⟩
      · gi_wp2
        go_ret
        exact .inr ⟨rfl, [((A, c), xs)], by simp, by rw [HS.out]; exact ⟨[], by simp⟩, hJx3⟩
    · have h00 : ((checkStackV xs overlap).2 == 0) = false := by simpa using h0
      have hpost : ∀ W', Below W.heap.size W W' → ExtPost B0 J Jx pre (stacksV xs.length overlap 0 xs) W (.returned (.bool true)) W' := fun W' hw =>
        .inl ⟨rfl, ⟨[], by simp [stacksV, h0], by simpa using hJ pre W W' none hj ⟨hw.os, hw.tape, hw.output, hw.size, fun i hi _ => hw.block i hi⟩ (fun r e => by cases e)⟩, Above.of_below hw⟩
      have HP := Lib.hid hpost
      clear hpost h0 hj hN hr hb
      refine callsIn_of_wp Try.func135 rfl trivial ?_ rfl
      simp only [undef, Try.ntmps135, List.size_toArray, List.length_cons, List.length_nil, Nat.reduceAdd, Nat.reduceSub, Array.replicate_succ, Array.replicate_zero, List.push_toArray, List.append_toArray, List.nil_append, List.cons_append]
      gi_wp2_with (refine ⟨trivial, (fun h => nomatch h), ?_⟩; gi_at_call 23; refine (callsIn_wide.2 hck).mono ?_; rintro e w1 ⟨rfl, hb⟩)
      go_ret
      exact HP.out _ hb
  | succ d ih =>
    intro xs A n c k pre W hn hd hc hj hB hr hN hb
    obtain ⟨i0, hi0, hz0, hz1, hz2⟩ := info_parts int_info
    have hne : ((n : Int) == (count : Int)) = false := by
      have : ¬ (n : Int) = (count : Int) := by omega
      simpa using this
    have hfull : stacksV count overlap (d + 1) xs = stacksUpto count overlap d xs count := rfl
    have HFull := Lib.hid hfull
    have HN := Lib.hid hN
    have HR := Lib.hid hr
    have HB := Lib.hid hb
    have HJ := Lib.hid hJ
    have IH := Lib.hid ih
    have HX := Lib.hid hn
    have HD := Lib.hid hd
    have hn8 : n < count := by omega
    clear hfull hN hr hb ih hY hn hd
    refine callsIn_of_wp Try.func135 rfl trivial ?_ rfl
    simp only [undef, Try.ntmps135, List.size_toArray, List.length_cons, List.length_nil, Nat.reduceAdd, Nat.reduceSub, Array.replicate_succ, Array.replicate_zero, List.push_toArray, List.append_toArray, List.nil_append, List.cons_append]
    gi_wp2
    gi_loopw [28] (fun i wr => ∃ (j : Nat) (q : List Stk), j ≤ count ∧ i = .int .i64 (j : Int) ∧ q.map (·.2) = stacksUpto count overlap d xs j ∧ J (pre ++ q) wr ∧ Above B0 W wr) (fun i _ => count - (intOf i).toNat)
    case atStart => exact ⟨0, [], Nat.zero_le _, rfl, rfl, by simpa using hj, Above.refl _ _⟩
    case round =>
      obtain ⟨j, q, hjc, rfl, hq, hjq, hab⟩ := hrel
      clear hj
      have hB2 := Nat.le_trans hB hab.size
      have HR2 := Lib.hid (HR.out.above hab)
      have HQ := Lib.hid hq
      clear hq
      by_cases hlt : j < count
      · have HG := Lib.hid (stacksUpto_succ count overlap d xs j)
        have hcase : hasB xs (j : Int) = true ∨ (hasB xs (j : Int) = false ∧ 0 < n ∧ sizeV ((j : Int) - xs.getD (n - 1) 0) < overlap) ∨ (hasB xs (j : Int) = false ∧ 0 < n ∧ ¬ sizeV ((j : Int) - xs.getD (n - 1) 0) < overlap) ∨ (hasB xs (j : Int) = false ∧ n = 0) := by
          cases hasB xs (j : Int)
          · by_cases h1 : 0 < n
            · by_cases h2 : sizeV ((j : Int) - xs.getD (n - 1) 0) < overlap
              · exact .inr (.inl ⟨rfl, h1, h2⟩)
              · exact .inr (.inr (.inl ⟨rfl, h1, h2⟩))
            · exact .inr (.inr (.inr ⟨rfl, by omega⟩))
          · exact .inl rfl
        have hcont := contains_n n wr.heap.size A c xs (j : Int) wr HR2.out.ints HX.out (by omega)
        rcases hcase with hh | ⟨hh, h1, h2⟩ | ⟨hh, h1, h2⟩ | ⟨hh, h1⟩
        · have HG2 := Lib.hid (show stacksUpto count overlap d xs (j + 1) = stacksUpto count overlap d xs j by rw [HG.out, hh]; simp)
          gi_wp2_with (first | (refine ⟨trivial, (fun h => nomatch h), ?_⟩; gi_at_call 89; refine (callsIn_wide.2 hcont).mono ?_; rintro e w1 ⟨rfl, rfl⟩) | (refine ⟨(trivial : Fence.wide.fn 90), ?_⟩; fail_if_success (refine ⟨(fun h => nomatch h), ?_⟩)))
          go_roundw
          case rel => exact ⟨j + 1, q, by omega, by go_num, by rw [HG2.out]; exact HQ.out, hjq, hab⟩
          case measure => simp [intOf]; omega
        · have hnear : nearB xs overlap (j : Int) = true := by simp only [nearB, HX.out]; simp; exact ⟨h1, h2⟩
          have HG2 := Lib.hid (show stacksUpto count overlap d xs (j + 1) = stacksUpto count overlap d xs j by rw [HG.out, hnear]; simp)
          clear hnear
          rcases HR2.out with hx | ⟨b, off, hA, hb1, hb2, hcell⟩
          · exfalso; have := HX.out; rw [hx] at this; simp at this; omega
          · subst hA
            have hc1 := hcell (n - 1) (by rw [HX.out]; omega)
            have hbd := HB.out (n - 1) (by rw [HX.out]; omega)
            have q0 : (0 : Int) ≤ (n : Int) - 1 := by omega
            have q1 : (1 : Int) ≤ (n : Int) := by omega
            have q2 : ((n : Int) - 1).toNat = n - 1 := by omega
            have q3 : (n : Int) ≤ 8 := by omega
            have q4 : (0 : Int) < (n : Int) := by omega
            clear hcell
            generalize xs.getD (n - 1) 0 = y at *
            gi_wp2_with (first | (refine ⟨trivial, (fun h => nomatch h), ?_⟩; gi_at_call 89; refine (callsIn_wide.2 hcont).mono ?_; rintro e w1 ⟨rfl, rfl⟩) | (refine ⟨trivial, (fun h => nomatch h), ?_⟩; gi_at_call 90; refine (callsIn_wide.2 (size_any _ _ (by omega) (by omega))).mono ?_; rintro e w1 ⟨rfl, rfl⟩))
            go_roundw
            case rel => exact ⟨j + 1, q, by omega, by go_num, by rw [HG2.out]; exact HQ.out, hjq, hab⟩
            case measure => simp [intOf]; omega
        · have hnear : nearB xs overlap (j : Int) = false := by simp only [nearB, HX.out, decide_eq_false h2, Bool.and_false]
          have hclone := clone_any wr.heap.size A n c xs wr HR2.out.ints HX.out (Nat.le_refl _) (by omega)
          rcases HR2.out with hx | ⟨b, off, hA, hb1, hb2, hcell⟩
          · exfalso; have := HX.out; rw [hx] at this; simp at this; omega
          · subst hA
            have hc1 := hcell (n - 1) (by rw [HX.out]; omega)
            have hbd := HB.out (n - 1) (by rw [HX.out]; omega)
            have q0 : (0 : Int) ≤ (n : Int) - 1 := by omega
            have q1 : (1 : Int) ≤ (n : Int) := by omega
            have q2 : ((n : Int) - 1).toNat = n - 1 := by omega
            have q3 : (n : Int) ≤ 8 := by omega
            have q4 : (0 : Int) < (n : Int) := by omega
            clear hcell
            have HG2 := Lib.hid (show stacksUpto count overlap d xs (j + 1) = stacksUpto count overlap d xs j ++ stacksV count overlap d (xs ++ [(j : Int)]) by rw [HG.out, hh, hnear]; rfl)
            clear hnear
            generalize xs.getD (n - 1) 0 = y at *
            gi_wp2_with (first | (refine ⟨trivial, (fun h => nomatch h), ?_⟩; gi_at_call 89; refine (callsIn_wide.2 hcont).mono ?_; rintro e w1 ⟨rfl, rfl⟩) | (refine ⟨trivial, (fun h => nomatch h), ?_⟩; gi_at_call 90; refine (callsIn_wide.2 (size_any _ _ (by omega) (by omega))).mono ?_; rintro e w1 ⟨rfl, rfl⟩) | (refine ⟨(trivial : Fence.wide.fn 90), ?_⟩; fail_if_success (refine ⟨(fun h => nomatch h), ?_⟩)) | (refine ⟨trivial, (fun h => nomatch h), ?_⟩; gi_at_call 129; refine (callsIn_wide.2 hclone).mono ?_; rintro e w2 ⟨v2, rfl, hown, hbw⟩; obtain ⟨A2, c2, rfl, hc2, hm2⟩ := own_form hown; rw [HX.out] at hown hc2; rw [HX.out]) | (gi_at_builtin; go_must (refine wpListIn_append_own_at (w := w2.alloc (.cells #[.int .i64 (j : Int)] 3)) rfl (.tmp 53) (.tmp 55) _ rfl wr.heap.size 3 i0 _ 1 8 Try.underlying28 hi0 hz0 hz1 hz2 rfl (by omega) _ n _ rfl (hown.alloc _) ⟨w2.heap.size, 0, none⟩ 1 1 [.int .i64 (j : Int)] rfl rfl (cell_one_new _ _ _) (by simp [Value.oneCell']) (by simp only [maxLen]; omega) (by omega) (by have := hbw.size; simp; omega) ?_); intro v3 w3 hown3 hg3 _ hat3; obtain ⟨A3, c3, rfl, hc3, hm3⟩ := own_form hown3))
            have hbel := pg (pa hbw) (hown.alloc _) (Nat.le_refl _) hg3
            have hrec := IH.out (xs ++ [(j : Int)]) A3 (n + 1) c3 (k - 1) (pre ++ q) w3 (by simp [HX.out]) (by have := HD.out; omega) hc3 (HJ.out _ _ _ none hjq ⟨hbel.os, hbel.tape, hbel.output, hbel.size, fun i hi _ => hbel.block i hi⟩ (fun r e => by cases e)) (Nat.le_trans hB2 hbel.size) ((intsAb_of_own (by simpa using hown3)).mono hB2)
              (ext_count HQ.out HG2.out (by rw [HFull.out]; exact stacksUpto_prefix count overlap d xs (by omega)) HN.out) (getD_snoc (by omega) (by omega) HB.out)
            refine ⟨trivial, (fun h => nomatch h), hrec.mono ?_⟩
            rintro e W4 (⟨rfl, ⟨q2, hq2, hJ4⟩, hab4⟩ | ⟨rfl, q2, hne2, hq2, hJ4⟩)
            · have HQ2 := Lib.hid hq2
              clear hq2
              gi_wp2
              go_roundw
              case rel => exact ⟨j + 1, q ++ q2, by omega, by go_num, by rw [HG2.out, List.map_append, HQ.out, HQ2.out], by rw [← List.append_assoc]; exact hJ4, hab.trans ((Above.of_below hbel).trans hab4)⟩
              case measure => simp [intOf]; omega
            · gi_wp2
              go_ret
              exact .inr ⟨rfl, q ++ q2, by simp [hne2], ext_prefix HQ.out HG2.out (by rw [HFull.out]; exact stacksUpto_prefix count overlap d xs (by omega)) hq2, by rw [← List.append_assoc]; exact hJ4⟩
        · have hnear : nearB xs overlap (j : Int) = false := by simp only [nearB, HX.out, h1]; simp
          have hclone := clone_any wr.heap.size A n c xs wr HR2.out.ints HX.out (Nat.le_refl _) (by omega)
          have q4 : decide ((0 : Int) < (n : Int)) = false := by simp; omega
          have q5 : n ≤ 0 := by omega
          clear h1
          have HG2 := Lib.hid (show stacksUpto count overlap d xs (j + 1) = stacksUpto count overlap d xs j ++ stacksV count overlap d (xs ++ [(j : Int)]) by rw [HG.out, hh, hnear]; rfl)
          clear hnear
          gi_wp2_with (first | (refine ⟨trivial, (fun h => nomatch h), ?_⟩; gi_at_call 89; refine (callsIn_wide.2 hcont).mono ?_; rintro e w1 ⟨rfl, rfl⟩) | (refine ⟨trivial, (fun h => nomatch h), ?_⟩; gi_at_call 90; refine (callsIn_wide.2 (size_any _ _ (by omega) (by omega))).mono ?_; rintro e w1 ⟨rfl, rfl⟩) | (refine ⟨(trivial : Fence.wide.fn 90), ?_⟩; fail_if_success (refine ⟨(fun h => nomatch h), ?_⟩)) | (refine ⟨trivial, (fun h => nomatch h), ?_⟩; gi_at_call 129; refine (callsIn_wide.2 hclone).mono ?_; rintro e w2 ⟨v2, rfl, hown, hbw⟩; obtain ⟨A2, c2, rfl, hc2, hm2⟩ := own_form hown; rw [HX.out] at hown hc2; rw [HX.out]) | (gi_at_builtin; go_must (refine wpListIn_append_own_at (w := w2.alloc (.cells #[.int .i64 (j : Int)] 3)) rfl (.tmp 53) (.tmp 55) _ rfl wr.heap.size 3 i0 _ 1 8 Try.underlying28 hi0 hz0 hz1 hz2 rfl (by omega) _ n _ rfl (hown.alloc _) ⟨w2.heap.size, 0, none⟩ 1 1 [.int .i64 (j : Int)] rfl rfl (cell_one_new _ _ _) (by simp [Value.oneCell']) (by simp only [maxLen]; omega) (by omega) (by have := hbw.size; simp; omega) ?_); intro v3 w3 hown3 hg3 _ hat3; obtain ⟨A3, c3, rfl, hc3, hm3⟩ := own_form hown3))
          have hbel := pg (pa hbw) (hown.alloc _) (Nat.le_refl _) hg3
          have hrec := IH.out (xs ++ [(j : Int)]) A3 (n + 1) c3 (k - 1) (pre ++ q) w3 (by simp [HX.out]) (by have := HD.out; omega) hc3 (HJ.out _ _ _ none hjq ⟨hbel.os, hbel.tape, hbel.output, hbel.size, fun i hi _ => hbel.block i hi⟩ (fun r e => by cases e)) (Nat.le_trans hB2 hbel.size) ((intsAb_of_own (by simpa using hown3)).mono hB2)
            (ext_count HQ.out HG2.out (by rw [HFull.out]; exact stacksUpto_prefix count overlap d xs (by omega)) HN.out) (getD_snoc (by omega) (by omega) HB.out)
          refine ⟨trivial, (fun h => nomatch h), hrec.mono ?_⟩
          rintro e W4 (⟨rfl, ⟨q2, hq2, hJ4⟩, hab4⟩ | ⟨rfl, q2, hne2, hq2, hJ4⟩)
          · have HQ2 := Lib.hid hq2
            clear hq2
            gi_wp2
            go_roundw
            case rel => exact ⟨j + 1, q ++ q2, by omega, by go_num, by rw [HG2.out, List.map_append, HQ.out, HQ2.out], by rw [← List.append_assoc]; exact hJ4, hab.trans ((Above.of_below hbel).trans hab4)⟩
            case measure => simp [intOf]; omega
          · gi_wp2
            go_ret
            exact .inr ⟨rfl, q ++ q2, by simp [hne2], ext_prefix HQ.out HG2.out (by rw [HFull.out]; exact stacksUpto_prefix count overlap d xs (by omega)) hq2, by rw [← List.append_assoc]; exact hJ4⟩
      · obtain rfl : j = count := by omega
        gi_wp2
        go_ret
        exact .inl ⟨rfl, ⟨q, by rw [HFull.out]; exact HQ.out, hjq⟩, hab⟩

end Go.Proofs.Ytlgioldmjohhlaa
