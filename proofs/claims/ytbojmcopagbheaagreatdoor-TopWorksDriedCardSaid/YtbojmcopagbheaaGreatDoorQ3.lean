/- Contracts of the small functions of package works: first, unless, within, isSized. Each computes just what its name says; nothing is written that was there.
Laws for a region that draws its order: its head, which only reads, or calls functions that leave what is there as it is, is walked once, in the order of the text; then its tail. No condition.
Contracts of the functions of package works that check and dry an oven.
Contracts: a number's index in a slice, whether a slice has a number, a slice's copy, the size of a number; which stacks overlap.
Plans: how they lie in memory; contracts of the functions that look through a slice with a callback, and of those that check a task.
Contract: the error of a task alone. -/
import Derived.Test.YtbojmcopagbheaaGreatDoorQ1
import Derived.StillTailTactics
import Derived.Deep.QuietTactic
import Derived.Deep.RegionHeld3
import Derived.BigQuiet
import Derived.Deep.DrawnRows

section
namespace Go.Proofs.YtbojmcopagbheaaGreatDoor
open Go.RowKit

/-- The first number that is not 0. -/
def firstV : List Int → Int
  | [] => 0
  | x :: l => if x = 0 then firstV l else x

def unlessV (ok : Bool) (e : Int) : Int := if ok then 0 else e
def withinB (n lo hi : Int) : Bool := decide (lo ≤ n) && decide (n ≤ hi)

theorem firstV_drop (xs : List Int) (k : Nat) (h : k < xs.length) : firstV (xs.drop k) = if xs.getD k 0 = 0 then firstV (xs.drop (k + 1)) else xs.getD k 0 := by
  rw [List.drop_eq_getElem_cons h, firstV]
  simp [List.getD, h]

set_option maxHeartbeats 400000 in
theorem first_any (B : Nat) (A : Option Addr) (c : Nat) (xs : List Int) (w : World) (hr : IntsIn B w A xs) (hm : xs.length ≤ 1000) :
    Calls Tryz.prog 45 #[.slice A xs.length c] w fun e w' => e = .returned (.int .i64 (firstV xs)) ∧ w = w' := by
  go_enter Tryz.func45, Tryz.ntmps45
  go_wp2
  go_loop [7] (fun i => ∃ k : Nat, k ≤ xs.length ∧ i = .int .i64 k ∧ firstV (xs.drop k) = firstV xs) (fun i => xs.length - (intOf i).toNat)
  case atStart => exact ⟨0, Nat.zero_le _, rfl, rfl⟩
  case round =>
    obtain ⟨k, hk, rfl, hf⟩ := hrel
    by_cases hlt : k < xs.length
    · obtain ⟨b, off, rfl, hb, hc⟩ := hr.at_ hlt
      have hcell := hc k hlt
      have HF := Lib.hid (hf.symm.trans (firstV_drop xs k hlt))
      clear hc hf hr
      generalize xs.getD k 0 = x at *
      go_wp2
      · go_ret
        exact ⟨ret_int (by rw [HF.out, if_neg (by simp_all)]), rfl⟩
      · go_round
        case rel => exact ⟨k + 1, by omega, by go_num, by rw [HF.out, if_pos (by simp_all)]⟩
        case measure => simp [intOf]; omega
    · have hk' : k = xs.length := by omega
      have HF := Lib.hid (show firstV xs = 0 by rw [← hf, hk']; simp [firstV])
      clear hf hk'
      go_wp2
      go_ret
      exact ⟨ret_int HF.out.symm, rfl⟩

theorem unless_any (ok : Bool) (e : Int) (w : World) :
    Calls Tryz.prog 47 #[.bool ok, .int .i64 e] w fun r w' => r = .returned (.int .i64 (unlessV ok e)) ∧ w = w' := by
  cases ok
  all_goals
    go_enter Tryz.func47, Tryz.ntmps47
    go_wp2
    go_ret
    exact ⟨rfl, rfl⟩

theorem within_any (n lo hi : Int) (w : World) :
    Calls Tryz.prog 61 #[.int .i64 n, .int .i64 lo, .int .i64 hi] w fun r w' => r = .returned (.bool (withinB n lo hi)) ∧ w = w' := by
  by_cases h : lo ≤ n
  all_goals
    go_enter Tryz.func61, Tryz.ntmps61
    go_wp2
    all_goals
      go_ret
      exact ⟨ret_bool (by simp [withinB]; try omega), rfl⟩

end Go.Proofs.YtbojmcopagbheaaGreatDoor
end

section
namespace Go.Proofs.YtbojmcopagbheaaGreatDoor
open Go.RowKit

theorem follows_mixed : Tryz.prog.follows .mixedOrders = true := by kernel_rfl

section
variable {P : Program} {ops : Array Oper} {md : Region.Mode} {C : World → Prop} {Q : Act → Prop} {a : Act} {o : Oper} {rest : List Oper}

/-- f operations of the head come up, in whatever order; then L. -/
def headQ (P : Program) (md : Region.Mode) (ops : Array Oper) (C : World → Prop) (n : Nat) (L : Array Bool → Act → Prop) : Nat → Array Bool → Act → Prop
  | 0, listed, a => L listed a
  | f + 1, listed, a =>
    Region.ready md ops listed ≠ [] ∧ ∀ i ∈ Region.ready md ops listed, i < n ∧ qOp P ops C i (headQ P md ops C n L f (listed.setIfInBounds i true)) a

theorem any_of_headQ {n g : Nat} {L : Array Bool → Act → Prop} {Q' : Exit → Act → World → Prop} (hL : ∀ listed a w, C w → L listed a → wpAny P md ops Q' g listed a w) :
    ∀ (f : Nat) (listed : Array Bool) (a : Act) (w : World), C w → headQ P md ops C n L f listed a → wpAny P md ops Q' (f + g) listed a w
  | 0, listed, a, w, hC, h => by rw [Nat.zero_add]; exact hL _ _ _ hC h
  | f + 1, listed, a, w, hC, h => by
    rw [show f + 1 + g = (f + g) + 1 by omega]
    exact ⟨fun h0 => absurd h0 h.1, fun i hi => wpOp_of_qOp hC (fun a' w' hC' h' => any_of_headQ hL f _ a' w' hC' h') (h.2 i hi).2⟩

/-- What may come up now, and is apart from all others that have not, may be taken first. -/
theorem headQ_first {n i : Nat} {oi : Oper} {v : Value} {L : Array Bool → Act → Prop} (hi : ops[i]? = some oi) (hsel : ∀ (j : Nat) (o : Oper) cs b, ops[j]? = some o → o.op ≠ .select cs b)
    (hs : Region.sinkB md ops n = true) (hc : Region.chainB md ops n = true) (hn : n < ops.size) (hin : i < n)
    (hdone : ∀ listed a, L listed a → ∀ j ∈ Region.ready md ops listed, n ≤ j) :
    ∀ (f : Nat) (listed : Array Bool) (a : Act), HeadInv md ops n listed →
      (∀ j oj, ops[j]? = some oj → j ≠ i → listed.getD j true = false → (∀ e ∈ oj.after, Region.binds md e = true → e.on ≠ i) → oi.apart ops oj = true) →
      i ∈ Region.ready md ops listed → YieldsIn P ops C oi v a →
      headQ P md ops C n L f (listed.setIfInBounds i true) (a.put oi.dst v) → headQ P md ops C n L (f + 1) listed a := by
  intro f
  induction f with
  | zero =>
    intro listed a inv _ hr hy H
    have hun := (mem_ready.1 hr).1
    refine ⟨fun h => (by rw [h] at hr; cases hr), fun j hj => ?_⟩
    have hjn : j < n := (Nat.lt_or_ge j n).resolve_right fun h => tail_waits hs hc hn inv _ i rfl hin hun j h hj
    refine ⟨hjn, ?_⟩
    by_cases hji : j = i
    · subst hji; exact hy.qOp hi H
    · have := hdone _ _ H j (ready_mono hj hji)
      omega
  | succ f ih =>
    intro listed a inv hfree hr hy H
    have hun := (mem_ready.1 hr).1
    refine ⟨fun h => (by rw [h] at hr; cases hr), fun j hj => ?_⟩
    have hjn : j < n := (Nat.lt_or_ge j n).resolve_right fun h => tail_waits hs hc hn inv _ i rfl hin hun j h hj
    refine ⟨hjn, ?_⟩
    by_cases hji : j = i
    · subst hji; exact hy.qOp hi H
    · have h1 := (H.2 j (ready_mono hj hji)).2
      obtain ⟨hjun, oj, hoj, hall⟩ := mem_ready.1 hj
      have hnot : ∀ e ∈ oj.after, Region.binds md e = true → e.on ≠ i := fun e he hb heq => by
        have h2 := hall e he hb
        rw [heq, getD_both hun] at h2
        cases h2
      have h2 := qOp_put hoj (hfree j oj hoj hji hjun hnot) (fun cs b => hsel i oi cs b hi) (fun cs b => hsel j oj cs b hoj) hy h1
      refine qOp_mono (fun a' h3 => ih (listed.setIfInBounds j true) a' (inv.set hj hjn) (fun k ok hk hki hu hno => hfree k ok hk hki ?_ hno) (ready_mono hr (Ne.symm hji)) h3.1 ?_) h2
      · by_cases hjk : j = k
        · subst hjk; exact hjun
        · rw [getD_set_ne true hjk] at hu; exact hu
      · rw [Array.setIfInBounds_comm _ _ hji]
        exact h3.2

theorem headQ_lex {n g : Nat} {Lq : Act → Prop} (hsel : Region.noSelect ops = true) (hs : Region.sinkB md ops n = true) (hc : Region.chainB md ops n = true) (hn : n < ops.size) :
    ∀ (l : List Oper) (k : Nat) (listed : Array Bool) (a : Act), (∀ j, j < l.length → l[j]? = ops[k + j]?) → k + l.length = n → HeadInv md ops n listed →
    Region.lexHead md ops g l.length k listed = true → wpQuiet P ops C Lq l a →
    headQ P md ops C n (fun listed' a' => Region.seqB md ops g n listed' = true ∧ Lq a') l.length listed a
  | [], k, listed, a, _, hk, _, hB, h => by
    obtain rfl : k = n := by simpa using hk
    exact ⟨by simpa [Region.lexHead] using hB, h⟩
  | o :: l, k, listed, a, hl, hk, inv, hB, h => by
    have h0 : ops[k]? = some o := by simpa using (hl 0 (by simp)).symm
    simp only [List.length_cons, Region.lexHead, Bool.and_eq_true] at hB
    obtain ⟨⟨hr, hf⟩, hB'⟩ := hB
    have hkn : k < n := by simp only [List.length_cons] at hk; omega
    have hr' : k ∈ Region.ready md ops listed := by simpa using hr
    have hst : qOp P ops C k (wpQuiet P ops C Lq l) a := by unfold qOp; simp only [h0]; exact h
    obtain ⟨v, hy, hK⟩ := yieldsIn_of_qOp h0 hst
    exact headQ_first h0 (Region.noSelect_spec hsel) hs hc hn hkn (fun listed' a' hL => seqB_ready hL.1) l.length listed a inv (Region.free_spec h0 hf) hr' hy
      (headQ_lex hsel hs hc hn l (k + 1) _ _ (fun j hj => by have := hl (j + 1) (by simp; omega); simpa [Nat.add_assoc, Nat.add_comm 1 j] using this) (by simp only [List.length_cons] at hk; omega) (inv.set hr' hkn) hB' hK)

/-- A region that draws its order: its operations but the last ones (from number n on, which come in one order) each yield one value in every world of a class, and keep to the class. -/
theorem region_class {id : Nat} {Q : Exit → Act → World → Prop} {a : Act} {w : World} {l : List Oper} (C : World → Prop) (n : Nat) (hm : P.follows .mixedOrders = true) (hB : Region.lexTailB .any l.toArray n = true) (hC : C w.drew)
    (h : wpQuiet P l.toArray C (fun a' => ∀ w', C w' → wpList P l.toArray Q (l.drop n) a' w') (l.take n) a) : (Code.region id l.toArray true).wp P Q a w := by
  simp only [Region.lexTailB, Bool.and_eq_true, decide_eq_true_eq] at hB
  obtain ⟨⟨⟨⟨hsel, hn⟩, hs⟩, hc⟩, hlex⟩ := hB
  have hn' : n < l.length := by simpa using hn
  have htl : (l.take n).length = n := by simp; omega
  have hdl : (l.drop n).length = l.toArray.size - n := by simp
  have inv0 : HeadInv .any l.toArray n (Array.replicate l.toArray.size false) :=
    ⟨by simp, fun j oj _ hl => (by rw [getD_replicate_false] at hl; cases hl), fun t _ ht => getD_in (by simpa using ht) (getD_replicate_false _ _)⟩
  have H := headQ_lex (md := .any) (g := l.toArray.size - n) hsel hs hc hn (l.take n) 0 _ a (fun j hj => by
    have hj' : j < n := by rw [htl] at hj; exact hj
    simp [hj']) (by simpa using htl) inv0 (by rw [htl]; exact hlex) h
  refine wp_region_any hm ?_
  have H2 := any_of_headQ (Q' := Q) (g := l.toArray.size - n) (fun listed a' w' hC' hL => by
    have := wpAny_of_seq (md := .any) (Q' := Q) (l.drop n) n listed a' w' (fun j => by simp [List.getElem?_drop]) (by rw [hdl]; exact hL.1) (hL.2 w' hC')
    rwa [hdl] at this) _ _ _ w.drew hC H
  rw [htl, show n + (l.toArray.size - n) = l.toArray.size by omega] at H2
  exact H2

/-- .. the class: below the heap's size at the region's beginning the world is as it was. -/
theorem region_below {id : Nat} {Q : Exit → Act → World → Prop} {a : Act} {w : World} {l : List Oper} (n : Nat) (hm : P.follows .mixedOrders = true) (hB : Region.lexTailB .any l.toArray n = true)
    (h : ∀ C : World → Prop, Hid (∀ w', C w' ↔ Below w.heap.size w w') → wpQuiet P l.toArray C (fun a' => ∀ w', C w' → wpList P l.toArray Q (l.drop n) a' w') (l.take n) a) : (Code.region id l.toArray true).wp P Q a w :=
  region_class _ n hm hB (Below.refl _ _).drew (h _ fun _ => Iff.rfl)

theorem quiet_plain (hg : o.guard = none) (h : ∀ K : Act → Prop, (∀ a, wpQuiet P ops C Q rest a → K a) → o.quiet P a C K) : wpQuiet P ops C Q (o :: rest) a :=
  wpQuiet_step fun K hK => by
    have hw : Region.wanted o (yielded ops a.tmps) = true := by simp [Region.wanted, hg]
    rw [if_pos hw]; exact h K hK
theorem quiet_go (hw : Region.wanted o (yielded ops a.tmps) = true) (h : ∀ K : Act → Prop, (∀ a, wpQuiet P ops C Q rest a → K a) → o.quiet P a C K) : wpQuiet P ops C Q (o :: rest) a :=
  wpQuiet_step fun K hK => by rw [if_pos hw]; exact h K hK
theorem quiet_skip (hw : Region.wanted o (yielded ops a.tmps) = false) (h : wpQuiet P ops C Q rest (a.put o.dst undef)) : wpQuiet P ops C Q (o :: rest) a :=
  wpQuiet_step fun K hK => by rw [if_neg (by rw [hw]; exact Bool.false_ne_true)]; exact hK _ h
/-- One operation: its value; what follows. -/
theorem quiet_val {K : Act → Prop} (v : Value) (h : ∀ w, C w → o.quietAt P a C w v) (hK : K (a.put o.dst v)) : o.quiet P a C K := ⟨v, h, hK⟩

/-- A callee that writes nothing, or only what is new, among the class' worlds. -/
theorem call_same {f : FuncId} {args : Array Value} {w : World} {v : Value} (hw : C w) (h : Calls P f args w fun e w' => e = .returned v ∧ w = w') :
    Calls P f args w fun e w' => e = .returned v ∧ C w' := h.mono fun _ _ ⟨he, hw'⟩ => ⟨he, hw' ▸ hw⟩
theorem call_below {W : World} (hC : Hid (∀ w', C w' ↔ Below W.heap.size W w')) {f : FuncId} {args : Array Value} {w : World} {v : Value} (hw : C w) (h : Calls P f args w fun e w' => e = .returned v ∧ Below w.heap.size w w') :
    Calls P f args w fun e w' => e = .returned v ∧ C w' := h.mono fun _ _ ⟨he, hw'⟩ => ⟨he, (hC.out _).2 (((hC.out _).1 hw).trans (hw'.mono ((hC.out _).1 hw).size))⟩
end

end Go.Proofs.YtbojmcopagbheaaGreatDoor
end

section
namespace Go.Proofs.YtbojmcopagbheaaGreatDoor
open Go.RowKit
attribute [local go_sem ↓] Go.wp_at_zero Go.wp_at_succ

theorem first2 (b c : Nat) (x y : Int) (w : World) (h0 : w.cell? ⟨b, 0, none⟩ = some (.int .i64 x)) (h1 : w.cell? ⟨b, 1, none⟩ = some (.int .i64 y)) :
    Calls Tryz.prog 45 #[.slice (some ⟨b, 0, none⟩) 2 c] w fun e w' => e = .returned (.int .i64 (firstV [x, y])) ∧ w = w' :=
  first_any (b + 1) _ c [x, y] w (.inr ⟨b, 0, rfl, by omega, fun j hj => by
    have : j = 0 ∨ j = 1 := by simp at hj; omega
    rcases this with rfl | rfl
    · simpa using h0
    · simpa using h1⟩) (by simp)

def waterB (n : Int) : Bool := withinB n 0 1000000

theorem isWater_any (n : Int) (w : World) :
    Calls Tryz.prog 48 #[.int .i64 n] w fun r w' => r = .returned (.bool (waterB n)) ∧ w = w' := by
  go_enter Tryz.func48, Tryz.ntmps48
  go_wp2_with (go_at_call 61; refine (within_any _ _ _ _).mono ?_; rintro e w' ⟨rfl, rfl⟩)
  go_ret
  exact ⟨rfl, rfl⟩

def rateB (n : Int) : Bool := withinB n 0 1000
def valueB (n : Int) : Bool := withinB n (-1000000) 1000000

theorem isSized_any (n m : Int) (hm : -1000000000 ≤ m) (hm' : m ≤ 1000000000) (w : World) :
    Calls Tryz.prog 106 #[.int .i64 n, .int .i64 m] w fun r w' => r = .returned (.bool (withinB n (-m) m)) ∧ w = w' := by
  go_enter Tryz.func106, Tryz.ntmps106
  go_wp2_with (go_at_call 61; refine (within_any _ _ _ _).mono ?_; rintro e w' ⟨rfl, rfl⟩)
  go_ret
  exact ⟨rfl, rfl⟩

theorem lotValue_any (n : Int) (w : World) :
    Calls Tryz.prog 105 #[.int .i64 n] w fun r w' => r = .returned (.bool (valueB n)) ∧ w = w' := by
  go_enter Tryz.func105, Tryz.ntmps105
  go_wp2_with (go_at_call 106; refine (isSized_any _ _ (by decide) (by decide) _).mono ?_; rintro e w' ⟨rfl, rfl⟩)
  go_ret
  exact ⟨rfl, rfl⟩

theorem ovenRate_any (n : Int) (w : World) :
    Calls Tryz.prog 112 #[.int .i64 n] w fun r w' => r = .returned (.bool (rateB n)) ∧ w = w' := by
  go_enter Tryz.func112, Tryz.ntmps112
  go_wp2_with (go_at_call 61; refine (within_any _ _ _ _).mono ?_; rintro e w' ⟨rfl, rfl⟩)
  go_ret
  exact ⟨rfl, rfl⟩

def rangeErrV (p : Int → Bool) (lo hi : Int) : Int := firstV [unlessV (p lo && p hi) 2, unlessV (decide (lo ≤ hi)) 9]

set_option maxRecDepth 100000 in
set_option maxHeartbeats 1000000 in
theorem rangeErr_water (lo hi : Int) (w : World) :
    Calls Tryz.prog 85 #[.agg #[.int .i64 lo, .int .i64 hi], .func (.func 48) #[] #[]] w fun r w' => r = .returned (.int .i64 (rangeErrV waterB lo hi)) ∧ Below w.heap.size w w' := by
  cases hp : waterB lo
  all_goals
    go_enter Tryz.func85, Tryz.ntmps85
    go_wp2
    refine region_below 17 follows_mixed (by kernel_rfl) ?_
    intro C hC
    simp only [List.take_succ_cons, List.take_zero, List.drop_succ_cons, List.drop_zero]
    repeat (first
      | ((with_reducible refine quiet_plain rfl (fun K hK => ?_)); (focus (apply quiet_val; (focus (intro w' hw; obtain ⟨hcq, hfq⟩ := bcell ((hC.out _).1 hw); go_simp; (first | done | rfl | (with_reducible exact call_same hw (isWater_any _ _)) | (with_reducible exact call_same hw (unless_any _ _ _))))); (simp only [Act.put, List.setIfInBounds_toArray, List.set_cons_succ, List.set_cons_zero]); (with_reducible refine hK _ ?_); clear hK K)))
      | ((with_reducible refine quiet_skip ?_ ?_); (focus (first | (simp [Region.wanted, yielded]; done) | (simp [Region.wanted, yielded, undef]; done))); simp only [Act.put, List.setIfInBounds_toArray, List.set_cons_succ, List.set_cons_zero])
      | ((with_reducible refine quiet_go ?_ (fun K hK => ?_)); (focus (first | (simp [Region.wanted, yielded]; done) | (simp [Region.wanted, yielded, undef]; done))); (focus (apply quiet_val; (focus (intro w' hw; obtain ⟨hcq, hfq⟩ := bcell ((hC.out _).1 hw); go_simp; (first | done | rfl | (with_reducible exact call_same hw (isWater_any _ _)) | (with_reducible exact call_same hw (unless_any _ _ _))))); (simp only [Act.put, List.setIfInBounds_toArray, List.set_cons_succ, List.set_cons_zero]); (with_reducible refine hK _ ?_); clear hK K))))
    refine wpQuiet_nil ?_
    intro w1 hb1
    replace hb1 := (hC.out _).1 hb1
    clear hC C
    obtain ⟨hc1, hf1⟩ := bcell hb1
    go_wp2_with (go_at_call 45; refine (first2 _ _ _ _ _ (by go_simp; rfl) (by go_simp; rfl)).mono ?_; rintro e w' ⟨rfl, rfl⟩)
    go_ret
    exact ⟨ret_int (by simp [rangeErrV, hp]), (((Below.refl _ _).alloc (Nat.le_refl _) _).trans (hb1.mono (by simp))).alloc (by have := hb1.size; simp at this; omega) _⟩
set_option maxRecDepth 100000 in
set_option maxHeartbeats 1000000 in
theorem rangeErr_rate (lo hi : Int) (w : World) :
    Calls Tryz.prog 85 #[.agg #[.int .i64 lo, .int .i64 hi], .func (.func 112) #[] #[]] w fun r w' => r = .returned (.int .i64 (rangeErrV rateB lo hi)) ∧ Below w.heap.size w w' := by
  cases hp : rateB lo
  all_goals
    go_enter Tryz.func85, Tryz.ntmps85
    go_wp2
    refine region_below 17 follows_mixed (by kernel_rfl) ?_
    intro C hC
    simp only [List.take_succ_cons, List.take_zero, List.drop_succ_cons, List.drop_zero]
    repeat (first
      | ((with_reducible refine quiet_plain rfl (fun K hK => ?_)); (focus (apply quiet_val; (focus (intro w' hw; obtain ⟨hcq, hfq⟩ := bcell ((hC.out _).1 hw); go_simp; (first | done | rfl | (with_reducible exact call_same hw (ovenRate_any _ _)) | (with_reducible exact call_same hw (unless_any _ _ _))))); (simp only [Act.put, List.setIfInBounds_toArray, List.set_cons_succ, List.set_cons_zero]); (with_reducible refine hK _ ?_); clear hK K)))
      | ((with_reducible refine quiet_skip ?_ ?_); (focus (first | (simp [Region.wanted, yielded]; done) | (simp [Region.wanted, yielded, undef]; done))); simp only [Act.put, List.setIfInBounds_toArray, List.set_cons_succ, List.set_cons_zero])
      | ((with_reducible refine quiet_go ?_ (fun K hK => ?_)); (focus (first | (simp [Region.wanted, yielded]; done) | (simp [Region.wanted, yielded, undef]; done))); (focus (apply quiet_val; (focus (intro w' hw; obtain ⟨hcq, hfq⟩ := bcell ((hC.out _).1 hw); go_simp; (first | done | rfl | (with_reducible exact call_same hw (ovenRate_any _ _)) | (with_reducible exact call_same hw (unless_any _ _ _))))); (simp only [Act.put, List.setIfInBounds_toArray, List.set_cons_succ, List.set_cons_zero]); (with_reducible refine hK _ ?_); clear hK K))))
    refine wpQuiet_nil ?_
    intro w1 hb1
    replace hb1 := (hC.out _).1 hb1
    clear hC C
    obtain ⟨hc1, hf1⟩ := bcell hb1
    go_wp2_with (go_at_call 45; refine (first2 _ _ _ _ _ (by go_simp; rfl) (by go_simp; rfl)).mono ?_; rintro e w' ⟨rfl, rfl⟩)
    go_ret
    exact ⟨ret_int (by simp [rangeErrV, hp]), (((Below.refl _ _).alloc (Nat.le_refl _) _).trans (hb1.mono (by simp))).alloc (by have := hb1.size; simp at this; omega) _⟩
set_option maxRecDepth 100000 in
set_option maxHeartbeats 1000000 in
theorem rangeErr_value (lo hi : Int) (w : World) :
    Calls Tryz.prog 85 #[.agg #[.int .i64 lo, .int .i64 hi], .func (.func 105) #[] #[]] w fun r w' => r = .returned (.int .i64 (rangeErrV valueB lo hi)) ∧ Below w.heap.size w w' := by
  cases hp : valueB lo
  all_goals
    go_enter Tryz.func85, Tryz.ntmps85
    go_wp2
    refine region_below 17 follows_mixed (by kernel_rfl) ?_
    intro C hC
    simp only [List.take_succ_cons, List.take_zero, List.drop_succ_cons, List.drop_zero]
    repeat (first
      | ((with_reducible refine quiet_plain rfl (fun K hK => ?_)); (focus (apply quiet_val; (focus (intro w' hw; obtain ⟨hcq, hfq⟩ := bcell ((hC.out _).1 hw); go_simp; (first | done | rfl | (with_reducible exact call_same hw (lotValue_any _ _)) | (with_reducible exact call_same hw (unless_any _ _ _))))); (simp only [Act.put, List.setIfInBounds_toArray, List.set_cons_succ, List.set_cons_zero]); (with_reducible refine hK _ ?_); clear hK K)))
      | ((with_reducible refine quiet_skip ?_ ?_); (focus (first | (simp [Region.wanted, yielded]; done) | (simp [Region.wanted, yielded, undef]; done))); simp only [Act.put, List.setIfInBounds_toArray, List.set_cons_succ, List.set_cons_zero])
      | ((with_reducible refine quiet_go ?_ (fun K hK => ?_)); (focus (first | (simp [Region.wanted, yielded]; done) | (simp [Region.wanted, yielded, undef]; done))); (focus (apply quiet_val; (focus (intro w' hw; obtain ⟨hcq, hfq⟩ := bcell ((hC.out _).1 hw); go_simp; (first | done | rfl | (with_reducible exact call_same hw (lotValue_any _ _)) | (with_reducible exact call_same hw (unless_any _ _ _))))); (simp only [Act.put, List.setIfInBounds_toArray, List.set_cons_succ, List.set_cons_zero]); (with_reducible refine hK _ ?_); clear hK K))))
    refine wpQuiet_nil ?_
    intro w1 hb1
    replace hb1 := (hC.out _).1 hb1
    clear hC C
    obtain ⟨hc1, hf1⟩ := bcell hb1
    go_wp2_with (go_at_call 45; refine (first2 _ _ _ _ _ (by go_simp; rfl) (by go_simp; rfl)).mono ?_; rintro e w' ⟨rfl, rfl⟩)
    go_ret
    exact ⟨ret_int (by simp [rangeErrV, hp]), (((Below.refl _ _).alloc (Nat.le_refl _) _).trans (hb1.mono (by simp))).alloc (by have := hb1.size; simp at this; omega) _⟩

end Go.Proofs.YtbojmcopagbheaaGreatDoor
end

section
namespace Go.Proofs.YtbojmcopagbheaaGreatDoor
open Go.RowKit

/-- The first place of a number, or -1. -/
def idxFrom (xs : List Int) (x : Int) (k : Nat) : Int :=
  match (xs.drop k).findIdx? (· == x) with
  | some i => ((k + i : Nat) : Int)
  | none => -1

theorem idxFrom_step (xs : List Int) (x : Int) (k : Nat) (h : k < xs.length) : idxFrom xs x k = if xs.getD k 0 = x then (k : Int) else idxFrom xs x (k + 1) := by
  unfold idxFrom
  rw [List.drop_eq_getElem_cons h, List.findIdx?_cons]
  have e : xs.getD k 0 = xs[k] := by simp [List.getD, h]
  rw [e]
  by_cases hx : xs[k] = x
  · simp [hx]
  · simp only [beq_iff_eq, hx, if_false]
    cases (List.drop (k + 1) xs).findIdx? (· == x) with
    | none => rfl
    | some i => simp; omega

theorem idxFrom_end (xs : List Int) (x : Int) (k : Nat) (h : xs.length ≤ k) : idxFrom xs x k = -1 := by
  unfold idxFrom
  rw [List.drop_eq_nil_of_le h]
  rfl

set_option maxHeartbeats 400000 in
theorem index_any (B : Nat) (A : Option Addr) (c : Nat) (xs : List Int) (x : Int) (w : World) (hr : IntsIn B w A xs) (hm : xs.length ≤ 1000) :
    Calls Tryz.prog 161 #[.slice A xs.length c, .int .i64 x] w fun e w' => e = .returned (.int .i64 (idxFrom xs x 0)) ∧ w = w' := by
  go_enter Tryz.func161, Tryz.ntmps161
  go_wp2
  go_loop [8] (fun i => ∃ k : Nat, k ≤ xs.length ∧ i = .int .i64 k ∧ idxFrom xs x 0 = idxFrom xs x k) (fun i => xs.length - (intOf i).toNat)
  case atStart => exact ⟨0, Nat.zero_le _, rfl, rfl⟩
  case round =>
    obtain ⟨k, hk, rfl, hf⟩ := hrel
    by_cases hlt : k < xs.length
    · obtain ⟨b, off, rfl, hb, hc⟩ := hr.at_ hlt
      have hcell := hc k hlt
      have HF := Lib.hid (hf.trans (idxFrom_step xs x k hlt))
      clear hc hf hr
      generalize xs.getD k 0 = y at *
      by_cases hxy : y = x
      · subst hxy
        go_wp2
        go_ret
        exact ⟨ret_int (by rw [HF.out]; simp), rfl⟩
      · have hne : (x == y) = false := by simpa using fun e : x = y => hxy e.symm
        have HN := Lib.hid hxy
        clear hxy
        go_wp2
        go_round
        case rel => exact ⟨k + 1, by omega, by go_num, by rw [HF.out, if_neg HN.out]⟩
        case measure => simp [intOf]; omega
    · have HF := Lib.hid (show idxFrom xs x 0 = -1 by rw [hf]; exact idxFrom_end _ _ _ (by omega))
      clear hf
      go_wp2
      go_ret
      exact ⟨ret_int HF.out.symm, rfl⟩

/-- Whether a slice has a number. -/
def hasB (xs : List Int) (x : Int) : Bool := xs.contains x

theorem idxFrom_has (xs : List Int) (x : Int) : decide (0 ≤ idxFrom xs x 0) = hasB xs x := by
  unfold idxFrom hasB
  simp only [List.drop_zero]
  cases h : xs.findIdx? (· == x) with
  | none =>
    have h2 := List.findIdx?_eq_none_iff.1 h
    have h3 : ¬ x ∈ xs := fun hm => by simpa using h2 x hm
    simp [h3]
  | some i =>
    obtain ⟨h1, h2, _⟩ := List.findIdx?_eq_some_iff_getElem.1 h
    have h3 : x ∈ xs := by
      have : xs[i] = x := by simpa using h2
      exact this ▸ List.getElem_mem h1
    simp [h3]

theorem contains_any (B : Nat) (A : Option Addr) (c : Nat) (xs : List Int) (x : Int) (w : World) (hr : IntsIn B w A xs) (hm : xs.length ≤ 1000) :
    Calls Tryz.prog 146 #[.slice A xs.length c, .int .i64 x] w fun e w' => e = .returned (.bool (hasB xs x)) ∧ w = w' := by
  have H := Lib.hid (idxFrom_has xs x)
  go_enter Tryz.func146, Tryz.ntmps146
  go_wp2_with (go_at_call 161; refine (index_any _ _ _ _ _ _ hr hm).mono ?_; rintro e w' ⟨rfl, rfl⟩)
  go_ret
  exact ⟨ret_bool H.out, rfl⟩

def sizeV (n : Int) : Int := max n (-n)
theorem size_any (n : Int) (w : World) (h : -1000000000000000000 ≤ n) (h2 : n ≤ 1000000000000000000) :
    Calls Tryz.prog 147 #[.int .i64 n] w fun e w' => e = .returned (.int .i64 (sizeV n)) ∧ w = w' := by
  rcases Int.lt_or_le n 0 with hn | hn
  all_goals
    go_enter Tryz.func147, Tryz.ntmps147
    go_wp2
    all_goals
      go_ret
      exact ⟨ret_int (by unfold sizeV; omega), rfl⟩

def stackE (count overlap : Int) : Int := unlessV (withinB count 1 8 && withinB overlap 0 8) 2

theorem stackErr_any (count overlap : Int) (w : World) :
    Calls Tryz.prog 109 #[.int .i64 count, .int .i64 overlap] w fun e w' => e = .returned (.int .i64 (stackE count overlap)) ∧ w = w' := by
  cases h : withinB count 1 8
  all_goals
    go_enter Tryz.func109, Tryz.ntmps109
    go_wp2_with (first
      | (go_at_call 61; refine (within_any _ _ _ _).mono ?_; rintro e w' ⟨rfl, rfl⟩)
      | (go_at_call 47; refine (unless_any _ _ _).mono ?_; rintro e w' ⟨rfl, rfl⟩))
    go_ret
    exact ⟨ret_int (by simp [stackE, h]), rfl⟩

theorem contains_n (n : Nat) (B : Nat) (A : Option Addr) (c : Nat) (xs : List Int) (x : Int) (w : World) (hr : IntsIn B w A xs) (hn : xs.length = n) (hm : n ≤ 1000) :
    Calls Tryz.prog 146 #[.slice A n c, .int .i64 x] w fun e w' => e = .returned (.bool (hasB xs x)) ∧ w = w' := by
  subst hn
  exact contains_any B A c xs x w hr hm

theorem IntsIn.take {B : Nat} {w : World} {A : Option Addr} {xs : List Int} (h : IntsIn B w A xs) (k : Nat) : IntsIn B w A (xs.take k) := by
  rcases h with h | ⟨b, off, hA, hb, hc⟩
  · exact .inl (by rw [h]; simp)
  · exact .inr ⟨b, off, hA, hb, fun j hj => by
      have hj1 : j < k := by simp at hj; omega
      have hj2 : j < xs.length := by simp at hj; omega
      rw [hc j hj2]
      simp [List.getD, hj1]⟩

/-- The first index from k on (below n) at which f is not 0, with its value; (0, 0) if there is none. -/
def scanF (f : Nat → Int) : Nat → Nat → Nat × Int
  | 0, _ => (0, 0)
  | m + 1, k => if f k = 0 then scanF f m (k + 1) else (k, f k)
def scan (f : Nat → Int) (n k : Nat) : Nat × Int := scanF f (n - k) k
theorem scan_step {f : Nat → Int} {n k : Nat} (h : k < n) : scan f n k = if f k = 0 then scan f n (k + 1) else (k, f k) := by
  unfold scan
  rw [show n - k = (n - (k + 1)) + 1 by omega, scanF]
theorem scan_end {f : Nat → Int} {n k : Nat} (h : n ≤ k) : scan f n k = (0, 0) := by
  unfold scan
  rw [show n - k = 0 by omega, scanF]

def offErr (xs : List Int) (i : Nat) : Int := firstV [unlessV (withinB (xs.getD i 0) 0 (xs.length - 1)) 2, unlessV (!(hasB (xs.take i) (xs.getD i 0))) 23]
def gapErr (xs : List Int) (overlap : Int) (i : Nat) : Int :=
  if (decide (1 < xs.length) && decide (sizeV (xs.getD i 0 - xs.getD ((i + xs.length - 1) % xs.length) 0) < overlap)) = true then 14 else 0
def checkStackV (xs : List Int) (overlap : Int) : Nat × Int :=
  if stackE xs.length overlap ≠ 0 then (0, stackE xs.length overlap)
  else if (scan (offErr xs) xs.length 0).2 ≠ 0 then scan (offErr xs) xs.length 0
  else scan (gapErr xs overlap) xs.length 0

theorem unless_ne {b : Bool} {e : Int} (he : e ≠ 0) : unlessV b e = 0 ↔ b = true := by cases b <;> simp [unlessV, he]
theorem firstV_zero {x : Int} {l : List Int} : firstV (x :: l) = 0 ↔ x = 0 ∧ firstV l = 0 := by
  simp only [firstV]
  by_cases h : x = 0 <;> simp [h]
theorem offErr_in {xs : List Int} {k : Nat} (h : offErr xs k = 0) : 0 ≤ xs.getD k 0 ∧ xs.getD k 0 ≤ xs.length - 1 := by
  have h1 := (unless_ne (by decide)).1 (firstV_zero.1 h).1
  simp only [withinB, Bool.and_eq_true, decide_eq_true_eq] at h1
  exact h1

set_option maxHeartbeats 1000000 in
set_option maxRecDepth 100000 in
theorem checkStack_any (B : Nat) (A : Option Addr) (c : Nat) (xs : List Int) (overlap : Int) (w : World) (hr : IntsIn B w A xs) (hB : B ≤ w.heap.size) (hm : xs.length ≤ 1000) (hcap : xs.length ≤ c) :
    Calls Tryz.prog 145 #[.slice A xs.length c, .int .i64 overlap] w fun e w' =>
      e = .returned (.tuple #[.int .i64 ((checkStackV xs overlap).1 : Int), .int .i64 (checkStackV xs overlap).2]) ∧ Below w.heap.size w w' := by
  by_cases h0 : stackE xs.length overlap = 0
  · have H0 := Lib.hid h0
    clear h0
    have h00 : stackE xs.length overlap = 0 := H0.out
    go_enter Tryz.func145, Tryz.ntmps145
    go_wp2_with (go_at_call 109; refine (stackErr_any _ _ _).mono ?_; rintro e w' ⟨rfl, rfl⟩)
    clear h00
    go_loopw [23] (fun i wr => ∃ k : Nat, k ≤ xs.length ∧ i = .int .i64 k ∧ scan (offErr xs) xs.length 0 = scan (offErr xs) xs.length k ∧ (∀ j, j < k → 0 ≤ xs.getD j 0 ∧ xs.getD j 0 ≤ xs.length - 1) ∧ Below w.heap.size w wr) (fun i _ => xs.length - (intOf i).toNat)
    case atStart => exact ⟨0, Nat.zero_le _, rfl, rfl, fun j hj => by omega, pr⟩
    case round =>
      obtain ⟨k, hk, rfl, hf, hin, hb⟩ := hrel
      by_cases hlt : k < xs.length
      · have hrw := hr.below (hb.mono hB)
        obtain ⟨b, off, rfl, hbB, hc⟩ := hrw.at_ hlt
        have hcell := hc k hlt
        have hbw := Nat.lt_of_lt_of_le hbB (Nat.le_trans hB hb.size)
        have HR := Lib.hid (hrw.more (Nat.le_trans hB hb.size))
        have HF := Lib.hid (hf.trans (scan_step hlt))
        have HI := Lib.hid (show offErr xs k = 0 → ∀ j, j < k + 1 → 0 ≤ xs.getD j 0 ∧ xs.getD j 0 ≤ xs.length - 1 from fun h j hj => by
          rcases Nat.lt_or_ge j k with h' | h'
          · exact hin j h'
          · obtain rfl : j = k := by omega
            exact offErr_in h)
        have HE := Lib.hid (show offErr xs k = firstV [unlessV (withinB (xs.getD k 0) 0 (xs.length - 1)) 2, unlessV (!(hasB (xs.take k) (xs.getD k 0))) 23] from rfl)
        have i0 : (0 : Int) ≤ (k : Int) := by omega
        have i1 : (k : Int) ≤ (c : Int) := by omega
        have hk1000 : k ≤ 1000 := by omega
        have HT := Lib.hid (show (xs.take k).length = k by simp; omega)
        clear hf hc hin hr hrw
        generalize xs.getD k 0 = x at *
        have hw1 : IntKind.i64.wrap ((xs.length : Int) - 1) = (xs.length : Int) - 1 := IntWalk.i64_in _ (by omega)
        go_wp2
        refine region_below 12 follows_mixed (by kernel_rfl) ?_
        intro C hC
        simp only [List.take_succ_cons, List.take_zero, List.drop_succ_cons, List.drop_zero]
        repeat (first
          | ((with_reducible refine quiet_plain rfl (fun K hK => ?_)); (focus (apply quiet_val; (focus (intro w' hw; obtain ⟨hcq, hfq⟩ := bcell ((hC.out _).1 hw); go_simp; (first | done | rfl | (with_reducible exact call_same hw (within_any _ _ _ _)) | (with_reducible exact call_same hw (unless_any _ _ _)) | (with_reducible exact call_same hw (contains_n k _ _ c (xs.take k) _ _ ((HR.out.below ((hC.out _).1 hw)).take k) HT.out hk1000))))); (simp only [Act.put, List.setIfInBounds_toArray, List.set_cons_succ, List.set_cons_zero]); (with_reducible refine hK _ ?_); clear hK K)))
          | ((with_reducible refine quiet_skip ?_ ?_); (focus (first | (simp [Region.wanted, yielded]; done) | (simp [Region.wanted, yielded, undef]; done))); simp only [Act.put, List.setIfInBounds_toArray, List.set_cons_succ, List.set_cons_zero])
          | ((with_reducible refine quiet_go ?_ (fun K hK => ?_)); (focus (first | (simp [Region.wanted, yielded]; done) | (simp [Region.wanted, yielded, undef]; done))); (focus (apply quiet_val; (focus (intro w' hw; obtain ⟨hcq, hfq⟩ := bcell ((hC.out _).1 hw); go_simp; (first | done | rfl | (with_reducible exact call_same hw (within_any _ _ _ _)) | (with_reducible exact call_same hw (unless_any _ _ _)) | (with_reducible exact call_same hw (contains_n k _ _ c (xs.take k) _ _ ((HR.out.below ((hC.out _).1 hw)).take k) HT.out hk1000))))); (simp only [Act.put, List.setIfInBounds_toArray, List.set_cons_succ, List.set_cons_zero]); (with_reducible refine hK _ ?_); clear hK K))))
        refine wpQuiet_nil ?_
        intro w1 hb1
        replace hb1 := (hC.out _).1 hb1
        clear hC C
        obtain ⟨hc1, hf1⟩ := bcell hb1
        by_cases hz : offErr xs k = 0
        · have HZ := Lib.hid hz
          clear hz
          go_wp2_with (go_at_call 45; refine (first2 _ _ _ _ _ (by go_simp; rfl) (by go_simp; rfl)).mono ?_; rintro e w' ⟨rfl, rfl⟩; rw [← HE.out, HZ.out])
          go_roundw
          case rel =>
            exact ⟨k + 1, by omega, by go_num, by rw [HF.out, if_pos HZ.out], HI.out HZ.out, pa (pt hb hb1)⟩
          case measure => simp [intOf]; omega
        · have hz1 : (offErr xs k == 0) = false := by simpa using hz
          have HZ := Lib.hid hz
          clear hz
          have HV := Lib.hid (show checkStackV xs overlap = (k, offErr xs k) by
            have e : scan (offErr xs) xs.length 0 = (k, offErr xs k) := by rw [HF.out, if_neg HZ.out]
            simp only [checkStackV, e, H0.out]
            rw [if_neg (by simp), if_pos HZ.out])
          go_wp2_with (go_at_call 45; refine (first2 _ _ _ _ _ (by go_simp; rfl) (by go_simp; rfl)).mono ?_; rintro e w' ⟨rfl, rfl⟩; rw [← HE.out])
          go_ret2
          exact ⟨ret_ii (by rw [HV.out]) (by rw [HV.out]), pa (pt hb hb1)⟩
      · have hkn : k = xs.length := by omega
        subst hkn
        have HF := Lib.hid (show scan (offErr xs) xs.length 0 = (0, 0) by rw [hf]; exact scan_end (Nat.le_refl _))
        have HI := Lib.hid hin
        have HR := Lib.hid hr
        clear hf hin hr
        go_wp2
        go_loopw [49] (fun i wr2 => ∃ k : Nat, k ≤ xs.length ∧ i = .int .i64 k ∧ scan (gapErr xs overlap) xs.length 0 = scan (gapErr xs overlap) xs.length k ∧ Below w.heap.size w wr2) (fun i _ => xs.length - (intOf i).toNat)
        case atStart => exact ⟨0, Nat.zero_le _, rfl, rfl, hb⟩
        case round =>
          obtain ⟨k, hk, rfl, hf, hb2⟩ := hrel
          by_cases hlt2 : k < xs.length
          · obtain ⟨b, off, rfl, hbB, hc⟩ := (HR.out.below (hb2.mono hB)).at_ hlt2
            have hcell := hc k hlt2
            have hcell2 := hc ((k + xs.length - 1) % xs.length) (Nat.mod_lt _ (by omega))
            have hb1 := HI.out k hlt2
            have hb3 := HI.out ((k + xs.length - 1) % xs.length) (Nat.mod_lt _ (by omega))
            have HF2 := Lib.hid (hf.trans (scan_step hlt2))
            have HG := Lib.hid (show gapErr xs overlap k = if (decide (1 < xs.length) && decide (sizeV (xs.getD k 0 - xs.getD ((k + xs.length - 1) % xs.length) 0) < overlap)) = true then 14 else 0 from rfl)
            clear hf hc
            generalize xs.getD k 0 = x at *
            generalize xs.getD ((k + xs.length - 1) % xs.length) 0 = y at *
            by_cases h1 : 1 < xs.length
            · have e0 : ((k : Int) + (xs.length : Int) - 1) % (xs.length : Int) = (((k + xs.length - 1) % xs.length : Nat) : Int) := by
                rw [show (k : Int) + (xs.length : Int) - 1 = ((k + xs.length - 1 : Nat) : Int) by omega]
                exact (Int.natCast_emod _ _).symm
              have q0 : (0 : Int) ≤ ((k : Int) + (xs.length : Int) - 1) % (xs.length : Int) := by rw [e0]; exact Int.natCast_nonneg _
              have q1 : ((k : Int) + (xs.length : Int) - 1) % (xs.length : Int) < (xs.length : Int) := by rw [e0]; exact Int.ofNat_lt.2 (Nat.mod_lt _ (by omega))
              have q2 : (((k : Int) + (xs.length : Int) - 1) % (xs.length : Int)).toNat = (k + xs.length - 1) % xs.length := by rw [e0]; exact Int.toNat_natCast _
              clear e0
              go_wp2_with (go_at_call 147; refine (size_any _ _ (by omega) (by omega)).mono ?_; rintro e w' ⟨rfl, rfl⟩)
              · go_ret2
                have hg : gapErr xs overlap k = 14 := by rw [HG.out, if_pos (by simp; omega)]
                have hv : checkStackV xs overlap = (k, 14) := by
                  simp only [checkStackV, H0.out, HF.out, HF2.out, hg]
                  simp
                exact ⟨ret_ii (by rw [hv]) (by rw [hv]), hb2⟩
              · go_roundw
                case rel => exact ⟨k + 1, by omega, by go_num, by rw [HF2.out, if_pos (by rw [HG.out, if_neg (by simp; omega)])], hb2⟩
                case measure => simp [intOf]; omega
            · have h1' : decide (1 < xs.length) = false := by simpa using h1
              have h1'' : decide ((1 : Int) < (xs.length : Int)) = false := by simp; omega
              go_wp2
              go_roundw
              case rel => exact ⟨k + 1, by omega, by go_num, by rw [HF2.out, if_pos (by rw [HG.out, if_neg (by simp; omega)])], hb2⟩
              case measure => simp [intOf]; omega
          · have hv : checkStackV xs overlap = (0, 0) := by
              have e : scan (gapErr xs overlap) xs.length 0 = (0, 0) := by rw [hf]; exact scan_end (by omega)
              simp only [checkStackV, H0.out, HF.out, e]
              simp
            have HV := Lib.hid hv
            clear hv hf
            go_wp2
            go_ret2
            exact ⟨ret_ii (by rw [HV.out]; rfl) (by rw [HV.out]), hb2⟩
  · have h00 : (stackE xs.length overlap == 0) = false := by simpa using h0
    have hv : checkStackV xs overlap = (0, stackE xs.length overlap) := by simp [checkStackV, h0]
    have HV := Lib.hid hv
    clear hv h0
    go_enter Tryz.func145, Tryz.ntmps145
    go_wp2_with (go_at_call 109; refine (stackErr_any _ _ _).mono ?_; rintro e w' ⟨rfl, rfl⟩)
    go_ret2
    exact ⟨ret_ii (by rw [HV.out]; rfl) (by rw [HV.out]), pr⟩

end Go.Proofs.YtbojmcopagbheaaGreatDoor
end

section
namespace Go.Proofs.YtbojmcopagbheaaGreatDoor
open Go.RowKit

structure Task where
  machine : Int
  length : Int
  release : Int
  after : List Int

instance : Inhabited Task := ⟨⟨0, 0, 0, []⟩⟩

/-- A task at an address: four cells; its list below block B. -/
def TaskAt (B : Nat) (w : World) (b off : Nat) (t : Task) : Prop :=
  w.cell? ⟨b, off, none⟩ = some (.int .i64 t.machine) ∧ w.cell? ⟨b, off + 1, none⟩ = some (.int .i64 t.length) ∧ w.cell? ⟨b, off + 2, none⟩ = some (.int .i64 t.release) ∧
  ∃ A c, w.cell? ⟨b, off + 3, none⟩ = some (.slice A t.after.length c) ∧ IntsIn B w A t.after ∧ t.after.length ≤ c

/-- A slice of tasks. -/
def TasksIn (B : Nat) (w : World) (A : Option Addr) (ts : List Task) : Prop :=
  ts = [] ∨ ∃ b off, A = some ⟨b, off, none⟩ ∧ b < B ∧ ∀ i, i < ts.length → TaskAt B w b (off + i * 4) (ts.getD i default)

theorem TaskAt.keep {B : Nat} {w w' : World} {b off : Nat} {t : Task} (h : TaskAt B w b off t) (hb : b < B) (hk : ∀ b o, b < B → w'.cell? ⟨b, o, none⟩ = w.cell? ⟨b, o, none⟩) : TaskAt B w' b off t := by
  obtain ⟨h0, h1, h2, A, c, h3, h4, h5⟩ := h
  exact ⟨(hk _ _ hb).trans h0, (hk _ _ hb).trans h1, (hk _ _ hb).trans h2, A, c, (hk _ _ hb).trans h3, h4.keep hk, h5⟩
theorem TasksIn.keep {B : Nat} {w w' : World} {A : Option Addr} {ts : List Task} (h : TasksIn B w A ts) (hk : ∀ b o, b < B → w'.cell? ⟨b, o, none⟩ = w.cell? ⟨b, o, none⟩) : TasksIn B w' A ts := by
  rcases h with h | ⟨b, off, hA, hb, hc⟩
  · exact .inl h
  · exact .inr ⟨b, off, hA, hb, fun i hi => (hc i hi).keep hb hk⟩
theorem TasksIn.below {B : Nat} {w w' : World} {A : Option Addr} {ts : List Task} (h : TasksIn B w A ts) (hb : Below B w w') : TasksIn B w' A ts := h.keep (bcell hb).1
theorem TaskAt.more {B B' : Nat} {w : World} {b off : Nat} {t : Task} (h : TaskAt B w b off t) (hB : B ≤ B') : TaskAt B' w b off t := by
  obtain ⟨h0, h1, h2, A, c, h3, h4, h5⟩ := h
  exact ⟨h0, h1, h2, A, c, h3, h4.more hB, h5⟩
theorem TasksIn.more {B B' : Nat} {w : World} {A : Option Addr} {ts : List Task} (h : TasksIn B w A ts) (hB : B ≤ B') : TasksIn B' w A ts := by
  rcases h with h | ⟨b, off, hA, hb, hc⟩
  · exact .inl h
  · exact .inr ⟨b, off, hA, by omega, fun i hi => (hc i hi).more hB⟩
theorem TasksIn.at_ {B : Nat} {w : World} {A : Option Addr} {ts : List Task} {k : Nat} (h : TasksIn B w A ts) (hk : k < ts.length) : ∃ b off, A = some ⟨b, off, none⟩ ∧ b < B ∧ ∀ i, i < ts.length → TaskAt B w b (off + i * 4) (ts.getD i default) := by
  rcases h with h | h
  · subst h; simp at hk
  · exact h

/-- The first place from k on at which p holds, or -1. -/
def findFrom (p : Int → Bool) (xs : List Int) (k : Nat) : Int :=
  match (xs.drop k).findIdx? p with
  | some i => ((k + i : Nat) : Int)
  | none => -1
def anyB (p : Int → Bool) (xs : List Int) : Bool := xs.any p

theorem findFrom_step (p : Int → Bool) (xs : List Int) (k : Nat) (h : k < xs.length) : findFrom p xs k = if p (xs.getD k 0) = true then (k : Int) else findFrom p xs (k + 1) := by
  unfold findFrom
  rw [List.drop_eq_getElem_cons h, List.findIdx?_cons]
  have e : xs.getD k 0 = xs[k] := by simp [List.getD, h]
  rw [e]
  by_cases hx : p xs[k] = true
  · simp [hx]
  · simp only [hx]
    cases (List.drop (k + 1) xs).findIdx? p with
    | none => rfl
    | some i => simp; omega
theorem findFrom_end (p : Int → Bool) (xs : List Int) (k : Nat) (h : xs.length ≤ k) : findFrom p xs k = -1 := by
  unfold findFrom
  rw [List.drop_eq_nil_of_le h]
  rfl
theorem findFrom_any (p : Int → Bool) (xs : List Int) : decide (0 ≤ findFrom p xs 0) = anyB p xs := by
  unfold findFrom anyB
  simp only [List.drop_zero]
  cases h : xs.findIdx? p with
  | none =>
    have h2 := List.findIdx?_eq_none_iff.1 h
    have h3 : xs.any p = false := by rw [List.any_eq_false]; intro x hx; simp [h2 x hx]
    simp [h3]
  | some i =>
    obtain ⟨h1, h2, _⟩ := List.findIdx?_eq_some_iff_getElem.1 h
    have h3 : xs.any p = true := by rw [List.any_eq_true]; exact ⟨xs[i], List.getElem_mem h1, h2⟩
    simp [h3]

set_option maxHeartbeats 400000 in
theorem indexFunc_open (B : Nat) (A : Option Addr) (n c : Nat) (xs : List Int) (p : Int → Bool) (q : Value) (w : World) (hr : IntsIn B w A xs) (hn : xs.length = n) (hm : n ≤ 1000)
    (hcb : ∀ x, Calls Tryz.prog 123 #[.int .i64 x, q] w fun e w' => e = .returned (.bool (p x)) ∧ w = w') :
    Calls Tryz.prog 144 #[.slice A n c, .func (.func 123) #[] #[q]] w fun e w' => e = .returned (.int .i64 (findFrom p xs 0)) ∧ w = w' := by
  subst hn
  have HC := Lib.hid hcb
  clear hcb
  go_enter Tryz.func144, Tryz.ntmps144
  go_wp2
  go_loop [8] (fun i => ∃ k : Nat, k ≤ xs.length ∧ i = .int .i64 k ∧ findFrom p xs 0 = findFrom p xs k) (fun i => xs.length - (intOf i).toNat)
  case atStart => exact ⟨0, Nat.zero_le _, rfl, rfl⟩
  case round =>
    obtain ⟨k, hk, rfl, hf⟩ := hrel
    by_cases hlt : k < xs.length
    · obtain ⟨b, off, rfl, hb, hc⟩ := hr.at_ hlt
      have hcell := hc k hlt
      have HF := Lib.hid (hf.trans (findFrom_step p xs k hlt))
      clear hc hf hr
      generalize xs.getD k 0 = y at *
      cases hxy : p y
      · have HX := Lib.hid hxy
        go_wp2_with (go_at_call 123; refine (HC.out _).mono ?_; rintro e w' ⟨rfl, rfl⟩)
        go_round
        case rel => exact ⟨k + 1, by omega, by go_num, by rw [HF.out, HX.out]; simp⟩
        case measure => simp [intOf]; omega
      · have HX := Lib.hid hxy
        go_wp2_with (go_at_call 123; refine (HC.out _).mono ?_; rintro e w' ⟨rfl, rfl⟩)
        go_ret
        exact ⟨ret_int (by rw [HF.out, HX.out]; simp), rfl⟩
    · have HF := Lib.hid (show findFrom p xs 0 = -1 by rw [hf]; exact findFrom_end _ _ _ (by omega))
      clear hf
      go_wp2
      go_ret
      exact ⟨ret_int HF.out.symm, rfl⟩

theorem containsFunc_open (B : Nat) (A : Option Addr) (n c : Nat) (xs : List Int) (p : Int → Bool) (q : Value) (w : World) (hr : IntsIn B w A xs) (hn : xs.length = n) (hm : n ≤ 1000)
    (hcb : ∀ x, Calls Tryz.prog 123 #[.int .i64 x, q] w fun e w' => e = .returned (.bool (p x)) ∧ w = w') :
    Calls Tryz.prog 122 #[.slice A n c, .func (.func 123) #[] #[q]] w fun e w' => e = .returned (.bool (anyB p xs)) ∧ w = w' := by
  have H := Lib.hid (findFrom_any p xs)
  have HI := Lib.hid (indexFunc_open B A n c xs p q w hr hn hm hcb)
  clear hcb hr hn
  go_enter Tryz.func122, Tryz.ntmps122
  go_wp2_with (go_at_call 144; refine HI.out.mono ?_; rintro e w' ⟨rfl, rfl⟩)
  go_ret
  exact ⟨ret_bool H.out, rfl⟩

def geB (n : Nat) (x : Int) : Bool := decide ((n : Int) ≤ x)

theorem open1_any (x : Int) (b : Nat) (A : Option Addr) (n c : Nat) (w : World) (h : w.cell? ⟨b, 1, none⟩ = some (.slice A n c)) :
    Calls Tryz.prog 123 #[.int .i64 x, .pointer (some ⟨b, 0, none⟩)] w fun e w' => e = .returned (.bool (geB n x)) ∧ w = w' := by
  go_enter Tryz.func123, Tryz.ntmps123
  go_wp2
  go_ret
  exact ⟨ret_bool (by simp [geB]), rfl⟩

def afterErr (xs : List Int) (i : Nat) : Int := firstV [unlessV (withinB (xs.getD i 0) 0 6) 2, unlessV (decide (i = 0) || decide (xs.getD (i - 1) 0 < xs.getD i 0)) 9]
def taskE1 (t : Task) : Int := firstV [unlessV (withinB t.machine 0 3 && withinB t.length 1 10000 && withinB t.release 0 10000) 2, unlessV (decide ((t.after.length : Int) ≤ 7)) 8]
def taskE (t : Task) : Int := if taskE1 t ≠ 0 then taskE1 t else (scan (afterErr t.after) t.after.length 0).2

end Go.Proofs.YtbojmcopagbheaaGreatDoor
end

section
namespace Go.Proofs.YtbojmcopagbheaaGreatDoor
open Go.RowKit

theorem first2' (b c : Nat) (x y : Int) (w : World) (h0 : w.cell? ⟨b, 0, none⟩ = some (.int .i64 x)) (h1 : w.cell? ⟨b, 1, none⟩ = some (.int .i64 y)) (v : Int) (hv : firstV [x, y] = v) :
    Calls Tryz.prog 45 #[.slice (some ⟨b, 0, none⟩) 2 c] w fun e w' => e = .returned (.int .i64 v) ∧ w = w' := hv ▸ first2 b c x y w h0 h1

theorem afterErr_in {xs : List Int} {k : Nat} (h : afterErr xs k = 0) : 0 ≤ xs.getD k 0 ∧ xs.getD k 0 ≤ 6 := by
  have h1 := (unless_ne (by decide)).1 (firstV_zero.1 h).1
  simp only [withinB, Bool.and_eq_true, decide_eq_true_eq] at h1
  exact h1

set_option maxHeartbeats 1000000 in
set_option maxRecDepth 100000 in
theorem taskErr_any (B : Nat) (t : Task) (A : Option Addr) (n c : Nat) (w : World) (hn : t.after.length = n) (hr : IntsIn B w A t.after) (hB : B ≤ w.heap.size) (hm : n ≤ 1000) :
    Calls Tryz.prog 53 #[.agg #[.int .i64 t.machine, .int .i64 t.length, .int .i64 t.release, .slice A n c]] w fun e w' => e = .returned (.int .i64 (taskE t)) ∧ Below w.heap.size w w' := by
  obtain ⟨m, l, r, xs⟩ := t
  dsimp only at *
  have HT := Lib.hid (show taskE ⟨m, l, r, xs⟩ = if taskE1 ⟨m, l, r, xs⟩ ≠ 0 then taskE1 ⟨m, l, r, xs⟩ else (scan (afterErr xs) xs.length 0).2 from rfl)
  have h1 : firstV [unlessV (withinB m 0 3 && withinB l 1 10000 && withinB r 0 10000) 2, unlessV (decide ((n : Int) ≤ 7)) 8] = taskE1 ⟨m, l, r, xs⟩ := by rw [← hn]; rfl
  generalize taskE ⟨m, l, r, xs⟩ = E at *
  generalize taskE1 ⟨m, l, r, xs⟩ = E1 at *
  have hE : E1 = 0 ∨ (E1 == 0) = false := by
    by_cases h : E1 = 0
    · exact .inl h
    · exact .inr (by simpa using h)
  rcases hE with hE | hE
  · subst hE
    have hR := (unless_ne (by decide)).1 (firstV_zero.1 h1).1
    simp only [Bool.and_eq_true] at hR
    obtain ⟨⟨hm1, hl1⟩, hr1⟩ := hR
    have HV := Lib.hid (show firstV [unlessV true 2, unlessV (decide ((n : Int) ≤ 7)) 8] = 0 by rw [hm1, hl1, hr1] at h1; exact h1)
    have HN := Lib.hid hn
    have HR := Lib.hid hr
    clear hn hr h1
    go_enter Tryz.func53, Tryz.ntmps53
    go_wp2_with (go_at_call 61; refine (within_any _ _ _ _).mono ?_; rintro e w' ⟨rfl, rfl⟩)
    refine region_below 7 follows_mixed (by kernel_rfl) ?_
    intro C hC
    simp only [List.take_succ_cons, List.take_zero, List.drop_succ_cons, List.drop_zero]
    repeat (first
      | ((with_reducible refine quiet_plain rfl (fun K hK => ?_)); (focus (apply quiet_val; (focus (intro w' hw; obtain ⟨hcq, hfq⟩ := bcell ((hC.out _).1 hw); go_simp; (first | done | rfl | (with_reducible exact call_same hw (unless_any _ _ _))))); (simp only [Act.put, List.setIfInBounds_toArray, List.set_cons_succ, List.set_cons_zero]); (with_reducible refine hK _ ?_); clear hK K)))
      | ((with_reducible refine quiet_skip ?_ ?_); (focus (first | (simp [Region.wanted, yielded]; done) | (simp [Region.wanted, yielded, undef]; done))); simp only [Act.put, List.setIfInBounds_toArray, List.set_cons_succ, List.set_cons_zero])
      | ((with_reducible refine quiet_go ?_ (fun K hK => ?_)); (focus (first | (simp [Region.wanted, yielded]; done) | (simp [Region.wanted, yielded, undef]; done))); (focus (apply quiet_val; (focus (intro w' hw; obtain ⟨hcq, hfq⟩ := bcell ((hC.out _).1 hw); go_simp; (first | done | rfl | (with_reducible exact call_same hw (unless_any _ _ _))))); (simp only [Act.put, List.setIfInBounds_toArray, List.set_cons_succ, List.set_cons_zero]); (with_reducible refine hK _ ?_); clear hK K))))
    refine wpQuiet_nil ?_
    intro w1 hb1
    replace hb1 := (hC.out _).1 hb1
    clear hC C
    obtain ⟨hc1, hf1⟩ := bcell hb1
    have r0 : Blk w1 w.heap.size 41 #[.int .i64 m, .int .i64 l, .int .i64 r, .slice A n c] := (Blk.newAt rfl).past hb1
    have c3 := r0.cellAt 3 rfl
    have z0 := r0.lt
    go_wp2_with (go_at_call 45; refine (first2' _ _ _ _ _ (by first | (go_simp; done) | (go_simp; rfl)) (by first | (go_simp; done) | (go_simp; rfl)) _ HV.out).mono ?_; rintro e w' ⟨rfl, rfl⟩)
    have hb2 := pa (o := (Obj.cells #[.int .i64 (unlessV true 2), .int .i64 (unlessV (decide ((n : Int) ≤ 7)) 8)] 37)) (pt (pa (o := (Obj.cells #[.int .i64 m, .int .i64 l, .int .i64 r, .slice A n c] 41)) (Below.refl w.heap.size w)) hb1)
    have HTE := Lib.hid (show E = (scan (afterErr xs) xs.length 0).2 by rw [HT.out]; simp)
    clear HT HV
    go_loopw [36] (fun i wr => ∃ k : Nat, k ≤ n ∧ i = .int .i64 (k : Int) ∧ scan (afterErr xs) xs.length 0 = scan (afterErr xs) xs.length k ∧ Blk wr w.heap.size 41 #[.int .i64 m, .int .i64 l, .int .i64 r, .slice A n c] ∧ Below w.heap.size w wr) (fun i _ => n - (intOf i).toNat)
    case atStart => exact ⟨0, Nat.zero_le _, rfl, rfl, r0.alloc, hb2⟩
    case round =>
      obtain ⟨k, hk, rfl, hf, q0, hq⟩ := hrel
      clear r0 c3 z0 hb1 hb2 hc1 hf1
      have c3 := q0.cellAt 3 rfl
      have z0 := q0.lt
      by_cases hlt : k < n
      · obtain ⟨b, off, hA, hbB, hcell⟩ := (HR.out.below (hq.mono hB)).at_ (k := k) (by rw [HN.out]; exact hlt)
        subst hA
        have hbw := Nat.lt_of_lt_of_le hbB (Nat.le_trans hB hq.size)
        have d0 := hcell k (by rw [HN.out]; exact hlt)
        have HF := Lib.hid (hf.trans (scan_step (by rw [HN.out]; exact hlt)))
        have HE := Lib.hid (show afterErr xs k = firstV [unlessV (withinB (xs.getD k 0) 0 6) 2, unlessV (decide (k = 0) || decide (xs.getD (k - 1) 0 < xs.getD k 0)) 9] from rfl)
        have hF : afterErr xs k = 0 ∨ (afterErr xs k == 0) = false := by
          by_cases h : afterErr xs k = 0
          · exact .inl h
          · exact .inr (by simpa using h)
        have hmore := pa (o := (Obj.cells #[] 37)) hq
        clear hmore hf
        by_cases hk0 : k = 0
        · have hv : firstV [unlessV (withinB (xs.getD k 0) 0 6) 2, unlessV true 9] = afterErr xs k := by rw [HE.out, hk0]; rfl
          have hb : ((k : Int) == 0) = true := by simpa using hk0
          have HV := Lib.hid hv
          clear hv hk0 hcell
          generalize xs.getD k 0 = x at *
          rcases hF with hF | hF
          · have HG := Lib.hid (show scan (afterErr xs) xs.length 0 = scan (afterErr xs) xs.length (k + 1) by rw [HF.out, if_pos hF])
            have HV2 := Lib.hid (HV.out.trans hF)
            clear HV hF HE HF
            have HV := HV2
            clear HV2
            go_wp2_with (first | (go_at_call 61; refine (within_any _ _ _ _).mono ?_; rintro e w' ⟨rfl, rfl⟩) | (go_at_call 47; refine (unless_any _ _ _).mono ?_; rintro e w' ⟨rfl, rfl⟩) | (go_at_call 45; refine (first2' _ _ _ _ _ (by first | (go_simp; done) | (go_simp; rfl)) (by first | (go_simp; done) | (go_simp; rfl)) _ HV.out).mono ?_; rintro e w' ⟨rfl, rfl⟩))
            go_roundw
            case rel => exact ⟨k + 1, by omega, by go_num, HG.out, q0.alloc, pa hq⟩
            case measure => simp [intOf]; omega
          · have HG := Lib.hid (show scan (afterErr xs) xs.length 0 = (k, afterErr xs k) by rw [HF.out, if_neg (by simpa using hF)])
            clear HE HF
            generalize afterErr xs k = F at *
            go_wp2_with (first | (go_at_call 61; refine (within_any _ _ _ _).mono ?_; rintro e w' ⟨rfl, rfl⟩) | (go_at_call 47; refine (unless_any _ _ _).mono ?_; rintro e w' ⟨rfl, rfl⟩) | (go_at_call 45; refine (first2' _ _ _ _ _ (by first | (go_simp; done) | (go_simp; rfl)) (by first | (go_simp; done) | (go_simp; rfl)) _ HV.out).mono ?_; rintro e w' ⟨rfl, rfl⟩))
            go_ret
            exact ⟨ret_int (by rw [HTE.out, HG.out]), pa hq⟩
        · have d1 := hcell (k - 1) (by rw [HN.out]; omega)
          have hv : firstV [unlessV (withinB (xs.getD k 0) 0 6) 2, unlessV (decide (xs.getD (k - 1) 0 < xs.getD k 0)) 9] = afterErr xs k := by rw [HE.out, decide_eq_false hk0, Bool.false_or]
          have hb : ((k : Int) == 0) = false := by simpa using hk0
          have i0 : (0 : Int) ≤ (k : Int) - 1 := by omega
          have i1 : (1 : Int) ≤ (k : Int) := by omega
          have i2 : (k : Int) - 1 < (n : Int) := by omega
          have i3 : ((k : Int) - 1).toNat = k - 1 := by omega
          have HV := Lib.hid hv
          clear hv hk0 hcell
          generalize xs.getD k 0 = x at *
          generalize xs.getD (k - 1) 0 = y at *
          rcases hF with hF | hF
          · have HG := Lib.hid (show scan (afterErr xs) xs.length 0 = scan (afterErr xs) xs.length (k + 1) by rw [HF.out, if_pos hF])
            have HV2 := Lib.hid (HV.out.trans hF)
            clear HV hF HE HF
            have HV := HV2
            clear HV2
            go_wp2_with (first | (go_at_call 61; refine (within_any _ _ _ _).mono ?_; rintro e w' ⟨rfl, rfl⟩) | (go_at_call 47; refine (unless_any _ _ _).mono ?_; rintro e w' ⟨rfl, rfl⟩) | (go_at_call 45; refine (first2' _ _ _ _ _ (by first | (go_simp; done) | (go_simp; rfl)) (by first | (go_simp; done) | (go_simp; rfl)) _ HV.out).mono ?_; rintro e w' ⟨rfl, rfl⟩))
            go_roundw
            case rel => exact ⟨k + 1, by omega, by go_num, HG.out, q0.alloc, pa hq⟩
            case measure => simp [intOf]; omega
          · have HG := Lib.hid (show scan (afterErr xs) xs.length 0 = (k, afterErr xs k) by rw [HF.out, if_neg (by simpa using hF)])
            clear HE HF
            generalize afterErr xs k = F at *
            go_wp2_with (first | (go_at_call 61; refine (within_any _ _ _ _).mono ?_; rintro e w' ⟨rfl, rfl⟩) | (go_at_call 47; refine (unless_any _ _ _).mono ?_; rintro e w' ⟨rfl, rfl⟩) | (go_at_call 45; refine (first2' _ _ _ _ _ (by first | (go_simp; done) | (go_simp; rfl)) (by first | (go_simp; done) | (go_simp; rfl)) _ HV.out).mono ?_; rintro e w' ⟨rfl, rfl⟩))
            go_ret
            exact ⟨ret_int (by rw [HTE.out, HG.out]), pa hq⟩
      · have hkn : k = n := by omega
        have HF := Lib.hid (show scan (afterErr xs) xs.length 0 = (0, 0) by rw [hf]; exact scan_end (by rw [HN.out]; omega))
        clear hkn hf
        go_wp2
        go_ret
        exact ⟨ret_int (by rw [HTE.out, HF.out]), hq⟩
  · have hv : ∃ R : Bool, firstV [unlessV R 2, unlessV (decide ((n : Int) ≤ 7)) 8] = E1 ∧ ((withinB m 0 3 = false ∧ R = false) ∨ (withinB m 0 3 = true ∧ withinB l 1 10000 = false ∧ R = false) ∨ (withinB m 0 3 = true ∧ withinB l 1 10000 = true ∧ R = withinB r 0 10000)) := by
      refine ⟨_, h1, ?_⟩
      cases withinB m 0 3 <;> cases withinB l 1 10000 <;> simp
    have HT2 := Lib.hid (show E = E1 by rw [HT.out, if_pos (by simpa using hE)])
    clear HT h1 hn hr
    obtain ⟨R, hv, hR⟩ := hv
    have HV := Lib.hid hv
    clear hv
    rcases hR with ⟨hm1, rfl⟩ | ⟨hm1, hl1, rfl⟩ | ⟨hm1, hl1, rfl⟩
    all_goals
      go_enter Tryz.func53, Tryz.ntmps53
      go_wp2_with (go_at_call 61; refine (within_any _ _ _ _).mono ?_; rintro e w' ⟨rfl, rfl⟩)
      refine region_below 7 follows_mixed (by kernel_rfl) ?_
      intro C hC
      simp only [List.take_succ_cons, List.take_zero, List.drop_succ_cons, List.drop_zero]
      repeat (first
        | ((with_reducible refine quiet_plain rfl (fun K hK => ?_)); (focus (apply quiet_val; (focus (intro w' hw; obtain ⟨hcq, hfq⟩ := bcell ((hC.out _).1 hw); go_simp; (first | done | rfl | (with_reducible exact call_same hw (unless_any _ _ _))))); (simp only [Act.put, List.setIfInBounds_toArray, List.set_cons_succ, List.set_cons_zero]); (with_reducible refine hK _ ?_); clear hK K)))
        | ((with_reducible refine quiet_skip ?_ ?_); (focus (first | (simp [Region.wanted, yielded]; done) | (simp [Region.wanted, yielded, undef]; done))); simp only [Act.put, List.setIfInBounds_toArray, List.set_cons_succ, List.set_cons_zero])
        | ((with_reducible refine quiet_go ?_ (fun K hK => ?_)); (focus (first | (simp [Region.wanted, yielded]; done) | (simp [Region.wanted, yielded, undef]; done))); (focus (apply quiet_val; (focus (intro w' hw; obtain ⟨hcq, hfq⟩ := bcell ((hC.out _).1 hw); go_simp; (first | done | rfl | (with_reducible exact call_same hw (unless_any _ _ _))))); (simp only [Act.put, List.setIfInBounds_toArray, List.set_cons_succ, List.set_cons_zero]); (with_reducible refine hK _ ?_); clear hK K))))
      refine wpQuiet_nil ?_
      intro w1 hb1
      replace hb1 := (hC.out _).1 hb1
      clear hC C
      obtain ⟨hc1, hf1⟩ := bcell hb1
      go_wp2_with (go_at_call 45; refine (first2' _ _ _ _ _ (by first | (go_simp; done) | (go_simp; rfl)) (by first | (go_simp; done) | (go_simp; rfl)) _ HV.out).mono ?_; rintro e w' ⟨rfl, rfl⟩)
      go_ret
      exact ⟨ret_int HT2.out.symm, pa (pt (pa pr) hb1)⟩

end Go.Proofs.YtbojmcopagbheaaGreatDoor
end
