/- A law for a region that draws its order ('x, e := f(..)' with a box for x and something that is read besides): its head only reads or calls functions that leave old memory alone; its last operation may come up behind the store into the new variable. The head is walked once, in the order of the text. No condition. -/
import Derived.Test.YtnhcamokcggnkaaGreatDoorN1
import Derived.Test.YtnhcamokcggnkaaGreatDoorHAStore
namespace Go.Proofs.YtnhcamokcggnkaaGreatDoor
open Go.RowKit

section
variable {P : Program} {ops : Array Oper} {md : Region.Mode} {W : World}

/-- All up to n but number q are waited for, by others than q, up to n + 1; behind that each waits for the one ahead of it, and number n + 2 for q. -/
def lateB (md : Region.Mode) (ops : Array Oper) (n q : Nat) : Bool :=
  ((List.range (n + 1)).all fun i => decide (i = q) || (List.range (n + 1 + 1)).any fun j => decide (i < j) && decide (j ≠ q) && Region.waitsFor md ops j i) &&
  ((List.range ops.size).all fun t => decide (t ≤ n + 1) || Region.waitsFor md ops t (t - 1)) && Region.waitsFor md ops (n + 1 + 1) q

theorem late_waits {n q : Nat} {listed : Array Bool} (hs : lateB md ops n q = true) (hn : n + 1 < ops.size) (inv : HeadInv md ops (n + 1) listed) :
    ∀ (d i : Nat), n + 1 - i = d → i ≤ n → i ≠ q → listed.getD i true = false → ∀ t, n + 1 ≤ t → t ∉ Region.ready md ops listed := by
  simp only [lateB, Bool.and_eq_true] at hs
  intro d
  induction d using Nat.strongRecOn with
  | _ d ih =>
    intro i hd hi hiq hun t ht hr
    obtain ⟨_, ot, hot, hall⟩ := mem_ready.1 hr
    have htlt : t < ops.size := (Array.getElem?_eq_some_iff.1 hot).1
    by_cases htn : t = n + 1
    · have h1 := List.all_eq_true.1 hs.1.1 i (List.mem_range.2 (by omega))
      simp only [Bool.or_eq_true, decide_eq_true_eq, hiq, false_or] at h1
      obtain ⟨j, hj, hj2⟩ := List.any_eq_true.1 h1
      simp only [Bool.and_eq_true, decide_eq_true_eq] at hj2
      obtain ⟨oj, hoj, e, he, hb, hon⟩ := Region.waitsFor_spec hj2.2
      have hjle : j ≤ n + 1 := by have := List.mem_range.1 hj; omega
      by_cases hjt : j = t
      · subst hjt
        have : oj = ot := Option.some.inj (hoj.symm.trans hot)
        subst this
        have h2 := hall e he hb
        rw [hon, getD_both hun] at h2
        cases h2
      · cases hl : listed.getD j false with
        | true =>
          have h2 := inv.closed j oj hoj hl e he hb
          rw [hon, getD_both hun] at h2
          cases h2
        | false =>
          have hjs : j < listed.size := by rw [inv.size]; omega
          exact ih (n + 1 - j) (by omega) j rfl (by omega) hj2.1.2 (getD_in hjs hl) t ht hr
    · have h1 := List.all_eq_true.1 hs.1.2 t (List.mem_range.2 htlt)
      simp only [Bool.or_eq_true, decide_eq_true_eq] at h1
      rcases h1 with h1 | h1
      · omega
      · obtain ⟨o', ho', e, he, hb, hon⟩ := Region.waitsFor_spec h1
        have : o' = ot := Option.some.inj (ho'.symm.trans hot)
        subst this
        have h2 := hall e he hb
        rw [hon, getD_both (inv.tail (t - 1) (by omega) (by omega))] at h2
        cases h2

/-- The head but for number n are listed in whatever order; number q may be the last one. (Number n is listed already.) -/
def headL (P : Program) (md : Region.Mode) (ops : Array Oper) (W : World) (n q : Nat) (L : Array Bool → Act → Prop) : Nat → Array Bool → Act → Prop
  | 0, listed, a => L listed a
  | f + 1, listed, a =>
    (f = 0 ∧ (∀ j, j < n → j ≠ q → listed.getD j true = true) ∧ q ∈ Region.ready md ops listed ∧ gOp P ops W q (fun a' => L (listed.setIfInBounds q true) a') a) ∨
    (Region.ready md ops listed ≠ [] ∧ ∀ i ∈ Region.ready md ops listed, i < n ∧ gOp P ops W i (headL P md ops W n q L f (listed.setIfInBounds i true)) a)

theorem headL_first {n q i : Nat} {oi : Oper} {v : Value} {L : Array Bool → Act → Prop} (hi : ops[i]? = some oi) (hsel : ∀ (j : Nat) (o : Oper) cs b, ops[j]? = some o → o.op ≠ .select cs b)
    (hs : lateB md ops n q = true) (hn : n + 1 < ops.size) (hin : i < n) (hiq : i ≠ q) (hdone : ∀ listed a, L listed a → ∀ j ∈ Region.ready md ops listed, n < j) :
    ∀ (f : Nat) (listed : Array Bool) (a : Act), HeadInv md ops (n + 1) listed → listed.getD n true = true →
      (∀ j oj, ops[j]? = some oj → j ≠ i → listed.getD j true = false → (∀ e ∈ oj.after, Region.binds md e = true → e.on ≠ i) → oi.apart ops oj = true) →
      i ∈ Region.ready md ops listed → GrowsIn P ops W oi v a →
      headL P md ops W n q L f (listed.setIfInBounds i true) (a.put oi.dst v) → headL P md ops W n q L (f + 1) listed a := by
  intro f
  induction f with
  | zero =>
    intro listed a inv hnl _ hr hy H
    have hun := (mem_ready.1 hr).1
    refine .inr ⟨fun h => (by rw [h] at hr; cases hr), fun j hj => ?_⟩
    have hjm : j ≤ n := (Nat.lt_or_ge n j).elim (fun h => absurd hj (late_waits hs hn inv _ i rfl (by omega) hiq hun j h)) id
    have hjn : j ≠ n := fun e => by subst e; rw [(mem_ready.1 hj).1] at hnl; cases hnl
    refine ⟨by omega, ?_⟩
    by_cases hji : j = i
    · subst hji; exact ⟨oi, v, hi, hy, H⟩
    · have := hdone _ _ H j (ready_mono hj hji)
      omega
  | succ f ih =>
    intro listed a inv hnl hfree hr hy H
    have hun := (mem_ready.1 hr).1
    refine .inr ⟨fun h => (by rw [h] at hr; cases hr), fun j hj => ?_⟩
    have hjm : j ≤ n := (Nat.lt_or_ge n j).elim (fun h => absurd hj (late_waits hs hn inv _ i rfl (by omega) hiq hun j h)) id
    have hjn : j ≠ n := fun e => by subst e; rw [(mem_ready.1 hj).1] at hnl; cases hnl
    refine ⟨by omega, ?_⟩
    by_cases hji : j = i
    · subst hji; exact ⟨oi, v, hi, hy, H⟩
    · have h1 : gOp P ops W j (headL P md ops W n q L f ((listed.setIfInBounds i true).setIfInBounds j true)) (a.put oi.dst v) := by
        rcases H with ⟨h0, hall, hq, hg⟩ | H
        · have : j = q := by
            rcases Classical.em (j = q) with h | h
            · exact h
            · have := hall j (by omega) h
              rw [getD_set_ne true (Ne.symm hji), (mem_ready.1 hj).1] at this
              cases this
          subst this
          subst h0
          exact hg
        · exact (H.2 j (ready_mono hj hji)).2
      obtain ⟨hjun, oj, hoj, hall⟩ := mem_ready.1 hj
      have hnot : ∀ e ∈ oj.after, Region.binds md e = true → e.on ≠ i := fun e he hb heq => by
        have h2 := hall e he hb
        rw [heq, getD_both hun] at h2
        cases h2
      have h2 := gOp_put hoj (hfree j oj hoj hji hjun hnot) (fun cs b => hsel i oi cs b hi) (fun cs b => hsel j oj cs b hoj) hy h1
      refine gOp_mono (fun a' h3 => ih (listed.setIfInBounds j true) a' (inv.set hj (by omega)) (by rw [getD_set_ne true hjn]; exact hnl) (fun k ok hk hki hu hno => hfree k ok hk hki ?_ hno) (ready_mono hr (Ne.symm hji)) h3.1 ?_) h2
      · by_cases hjk : j = k
        · subst hjk; exact hjun
        · rw [getD_set_ne true hjk] at hu; exact hu
      · rw [Array.setIfInBounds_comm _ _ hji]
        exact h3.2

def lexHeadL (md : Region.Mode) (ops : Array Oper) (g n : Nat) : Nat → Nat → Array Bool → Bool
  | 0, _, listed => Region.seqB md ops g (n + 1) listed
  | f + 1, k, listed => (Region.ready md ops listed).contains k && (f == 0 || Region.free md ops listed k) && lexHeadL md ops g n f (k + 1) (listed.setIfInBounds k true)

theorem headL_lex {n q g : Nat} {Lq : Act → Prop} (hsel : Region.noSelect ops = true) (hs : lateB md ops n q = true) (hn : n + 1 < ops.size) (hq : q + 1 = n) :
    ∀ (l : List Oper) (k : Nat) (listed : Array Bool) (a : Act), l ≠ [] → (∀ j, j < l.length → l[j]? = ops[k + j]?) → k + l.length = n → HeadInv md ops (n + 1) listed → listed.getD n true = true → (∀ j, j < k → listed.getD j true = true) →
    lexHeadL md ops g n l.length k listed = true → wpGrow P ops W Lq l a →
    headL P md ops W n q (fun listed' a' => Region.seqB md ops g (n + 1) listed' = true ∧ Lq a') l.length listed a
  | [], _, _, _, h, _, _, _, _, _, _, _ => absurd rfl h
  | o :: l, k, listed, a, _, hl, hk, inv, hnl, hlo, hB, h => by
    have h0 : ops[k]? = some o := by simpa using (hl 0 (by simp)).symm
    simp only [List.length_cons, lexHeadL, Bool.and_eq_true] at hB
    obtain ⟨⟨hr, hf⟩, hB'⟩ := hB
    have hkn : k < n := by simp only [List.length_cons] at hk; omega
    have hr' : k ∈ Region.ready md ops listed := by simpa using hr
    obtain ⟨v, hy, hK⟩ := h
    cases l with
    | nil =>
      simp only [List.length_cons, List.length_nil] at hk hB' ⊢
      have : k = q := by omega
      subst this
      exact .inl ⟨rfl, fun j hj hjq => hlo j (by omega), hr', o, v, h0, hy, by simpa [lexHeadL] using hB', hK⟩
    | cons o2 l =>
      have hkq : k ≠ q := by simp only [List.length_cons] at hk; omega
      have hf' : Region.free md ops listed k = true := by simpa using hf
      exact headL_first h0 (Region.noSelect_spec hsel) hs hn hkn hkq (fun listed' a' hL j hj => by have := seqB_ready hL.1 j hj; omega) (o2 :: l).length listed a inv hnl (Region.free_spec h0 hf') hr' hy
        (headL_lex hsel hs hn hq (o2 :: l) (k + 1) _ _ (by simp) (fun j hj => by have := hl (j + 1) (by simp at hj ⊢; omega); simpa [Nat.add_assoc, Nat.add_comm 1 j] using this) (by simp only [List.length_cons] at hk ⊢; omega) (inv.set hr' (by omega)) (by rw [getD_set_ne true (by omega)]; exact hnl)
          (fun j hj => by
            by_cases hjk : k = j
            · subst hjk
              exact getD_set_self k
            · rw [getD_set_ne true hjk]; exact hlo j (by omega)) hB' hK)

/-- What the walk's end has to show: what is stored, and the rest behind the store. -/
def Stored (P : Program) (ops : Array Oper) (Q : Exit → Act → World → Prop) (W : World) (dst sd : Option Tmp) (T : TypeId) (x y : Operand) (zs : Array Value) (rest : List Oper) (a : Act) : Prop :=
  ∃ vs : Array Value, (∀ p, (a.put dst p).eval x = p) ∧ (∀ p, ((a.put dst p).eval y).cells = vs) ∧ zs.size = vs.size ∧ (P.info? T).map (·.size) = some vs.size ∧ vs.all (·.oneCell') = true ∧
    ∀ b W', W.heap.size ≤ b → Blk W' b T vs → Below W.heap.size W W' → wpList P ops Q rest ((a.put dst (.pointer (some ⟨b, 0, none⟩))).put sd undef) W'

theorem store_wp {Q : Exit → Act → World → Prop} {K : Act → World → Prop} {A A2 : Act} {w : World} {sd : Option Tmp} {T ty : TypeId} {x y : Operand} {pos : String} {af : Array Edge} {b : Nat} {zs vs : Array Value}
    (hE : execOp A.eval { dst := sd, op := .store T x y, type := ty, pos := pos, after := af, guard := none } = execOp A2.eval { dst := sd, op := .store T x y, type := ty, pos := pos, after := af, guard := none })
    (hx : A2.eval x = .pointer (some ⟨b, 0, none⟩)) (hy : (A2.eval y).cells = vs) (hB : Blk w b T zs) (hz : zs.size = vs.size) (hi : (P.info? T).map (·.size) = some vs.size) (h1 : vs.all (·.oneCell') = true)
    (hK : ∀ W', Blk W' b T vs → Put w W' b → K (A.put sd undef) W') : ({ dst := sd, op := .store T x y, type := ty, pos := pos, after := af, guard := none } : Oper).wp P A w K Q := by
  unfold Oper.wp
  rw [hE]
  unfold execOp
  have ht : w.there b 0 vs.size := there_sub hB (by omega)
  simp only [hx, Instr.storeAt, Instr.sureAddr, Sem.run_bind, Sem.run_pure, Result.andThen_ok, run_storeVar_sub w b 0 T (A2.eval y) vs hy ht hi h1]
  obtain ⟨hp, hb⟩ := put_sub vs.toList 0 w zs hB (by simp; omega)
  exact hK _ (by
    have h0 : zs.toList.drop (0 + vs.toList.length) = [] := List.drop_eq_nil_of_le (by simp; omega)
    rw [h0] at hb
    simpa using hb) hp

theorem any_of_headL {n q : Nat} {Lq : Act → Prop} {Q : Exit → Act → World → Prop} {al oq : Oper} {sd : Option Tmp} {T ty : TypeId} {x y : Operand} {pos : String} {af : Array Edge} {zs : Array Value} {rest : List Oper} (hsel : Region.noSelect ops = true)
    (hs : lateB md ops n q = true) (hn : n + 1 < ops.size) (hq : q < n) (hoq : ops[q]? = some oq)
    (hst : ops[n + 1]? = some { dst := sd, op := .store T x y, type := ty, pos := pos, after := af, guard := none })
    (hap : ∀ i o, i < n → ops[i]? = some o → al.apart ops o = true) (hqs : oq.apart ops { dst := sd, op := .store T x y, type := ty, pos := pos, after := af, guard := none } = true) (hrest : ∀ j, rest[j]? = ops[n + 1 + 1 + j]?)
    (hLq : ∀ a, Lq a → Stored P ops Q W al.dst sd T x y zs rest a)
    {w0 : World} (hw0 : Below W.heap.size W w0) {b : Nat} (hb : W.heap.size ≤ b) (hblk : Blk w0 b T zs) (hbl : b < w0.heap.size) :
    ∀ (f : Nat) (listed : Array Bool) (a : Act) (w : World), Below w0.heap.size w0 w → HeadInv md ops (n + 1) listed → listed.getD n true = true →
      headL P md ops W n q (fun l' a' => Region.seqB md ops (rest.length + 1) (n + 1) l' = true ∧ Lq a') f listed a → wpAny P md ops Q (f + (rest.length + 1)) listed (a.put al.dst (.pointer (some ⟨b, 0, none⟩))) w
  | 0, listed, a, w, hw, inv, hnl, H => by
    obtain ⟨hB, hl⟩ := H
    obtain ⟨vs, hx, hy, hz, hi, h1, hK⟩ := hLq a hl
    have hbw : Blk w b T zs := hblk.past hw
    have hWw := hw0.trans (hw.mono hw0.size)
    rw [Nat.zero_add]
    refine wpAny_of_seq (md := md) (Q' := Q) ({ dst := sd, op := .store T x y, type := ty, pos := pos, after := af, guard := none } :: rest) (n + 1) listed _ w (fun j => ?_) hB ?_
    · cases j with
      | zero => simpa using hst.symm
      | succ j => rw [List.getElem?_cons_succ, hrest, show n + 1 + 1 + j = n + 1 + (j + 1) by omega]
    · refine wpList_plain rfl fun K2 hK2 => store_wp rfl (hx _) (hy _) hbw hz hi h1 fun W' hB' hp => hK2 _ _ ?_
      exact hK b W' hb hB' (hWw.trans (hp.below _ hb))
  | f + 1, listed, a, w, hw, inv, hnl, H => by
    rw [show f + 1 + (rest.length + 1) = (f + (rest.length + 1)) + 1 by omega]
    have step : ∀ i, i < n → i ∈ Region.ready md ops listed → gOp P ops W i (headL P md ops W n q (fun l' a' => Region.seqB md ops (rest.length + 1) (n + 1) l' = true ∧ Lq a') f (listed.setIfInBounds i true)) a →
        wpOp P ops Q i (wpAny P md ops Q (f + (rest.length + 1)) (listed.setIfInBounds i true)) (a.put al.dst (.pointer (some ⟨b, 0, none⟩))) w := fun i hin hi hg => by
      obtain ⟨o, v, ho, hy, hK⟩ := hg
      obtain ⟨h1, h2, h3⟩ := Oper.apart_spec (hap i o hin ho)
      have hso : ∀ cs b, o.op ≠ .select cs b := fun cs b => Region.noSelect_spec hsel i o cs b ho
      refine wpOp_of_grows ho (below_step hw0 hw) (hy.of_same (execOp_put o hso a al.dst _ h1) (wanted_put o a al.dst _ h1)) fun w' hw' => ?_
      rw [Act.put_comm a _ v h2]
      exact any_of_headL hsel hs hn hq hoq hst hap hqs hrest hLq hw0 hb hblk hbl f _ _ w' (below_step hw hw') (inv.set hi (by omega)) (by rw [getD_set_ne true (by omega)]; exact hnl) hK
    rcases H with ⟨hf, hall, hqr, hg⟩ | H
    · subst hf
      refine ⟨fun h0 => (by rw [h0] at hqr; cases hqr), fun i hi => ?_⟩
      by_cases hiq : i = q
      · subst hiq
        exact step i hq hi hg
      · have hun := (mem_ready.1 hi).1
        have hge : n + 1 ≤ i := by
          rcases Nat.lt_or_ge i n with h | h
          · have := hall i h hiq; rw [hun] at this; cases this
          · rcases Nat.eq_or_lt_of_le h with h | h
            · subst h; rw [hun] at hnl; cases hnl
            · exact h
        have hs' := hs
        simp only [lateB, Bool.and_eq_true] at hs'
        have chain : ∀ (L2 : Array Bool), (∀ t, n + 1 < t → t < ops.size → L2.getD t true = false) → ∀ t, n + 1 + 1 < t → t ∉ Region.ready md ops L2 := fun L2 hL2 t ht hr => by
          obtain ⟨_, ot, hot, hall2⟩ := mem_ready.1 hr
          have htlt : t < ops.size := (Array.getElem?_eq_some_iff.1 hot).1
          have h1 := List.all_eq_true.1 hs'.1.2 t (List.mem_range.2 htlt)
          simp only [Bool.or_eq_true, decide_eq_true_eq] at h1
          rcases h1 with h1 | h1
          · omega
          · obtain ⟨o', ho', e, he, hbd, hon⟩ := Region.waitsFor_spec h1
            have : o' = ot := Option.some.inj (ho'.symm.trans hot)
            subst this
            have h2 := hall2 e he hbd
            rw [hon, getD_both (hL2 (t - 1) (by omega) (by omega))] at h2
            cases h2
        have second : ∀ (L2 : Array Bool), L2.getD q true = false → n + 1 + 1 ∉ Region.ready md ops L2 := fun L2 hL2 hr => by
          obtain ⟨_, ot, hot, hall2⟩ := mem_ready.1 hr
          obtain ⟨o', ho', e, he, hbd, hon⟩ := Region.waitsFor_spec hs'.2
          have : o' = ot := Option.some.inj (ho'.symm.trans hot)
          subst this
          have h2 := hall2 e he hbd
          rw [hon, getD_both hL2] at h2
          cases h2
        have hqun := (mem_ready.1 hqr).1
        have hin : i = n + 1 := by
          rcases Nat.lt_or_ge (n + 1) i with h | h
          · exfalso
            rcases Nat.lt_or_ge (n + 1 + 1) i with h2 | h2
            · exact chain listed (fun t h3 h4 => inv.tail t (by omega) h4) i h2 hi
            · have : i = n + 1 + 1 := by omega
              subst this
              exact second listed hqun hi
          · omega
        subst hin
        obtain ⟨o', v, ho', hyq, hBq, hlq⟩ := hg
        obtain rfl : oq = o' := Option.some.inj (hoq.symm.trans ho')
        obtain ⟨vs, hx, hy, hz, hi2, h1, hK⟩ := hLq _ hlq
        have hbw : Blk w b T zs := hblk.past hw
        have hWw := hw0.trans (hw.mono hw0.size)
        obtain ⟨a1, a2, a3⟩ := Oper.apart_spec hqs
        obtain ⟨c1, c2, c3⟩ := Oper.apart_spec (hap q oq hq hoq)
        have hss : ∀ cs b, ({ dst := sd, op := .store T x y, type := ty, pos := pos, after := af, guard := none } : Oper).op ≠ .select cs b := fun cs b h => by cases h
        have hsq : ∀ cs b, oq.op ≠ .select cs b := fun cs b => Region.noSelect_spec hsel q oq cs b hoq
        unfold wpOp
        simp only [hst]
        rw [if_pos (by simp [Region.wanted])]
        refine .inl (store_wp (A2 := (a.put oq.dst v).put al.dst (.pointer (some ⟨b, 0, none⟩))) ?_ (hx _) (hy _) hbw hz hi2 h1 fun W' hB' hp => ?_)
        · rw [← Act.put_comm a (.pointer (some ⟨b, 0, none⟩)) v c2]
          exact (execOp_put _ hss _ oq.dst v a1).symm
        · have hWW := hWw.trans (hp.below _ hb)
          have hne : q ≠ n + 1 := by omega
          refine ⟨fun h0 => ?_, fun j hj => ?_⟩
          · have := ready_mono hqr hne
            rw [h0] at this; cases this
          · have hjq : j = q := by
              have hjun := (mem_ready.1 hj).1
              rcases Nat.lt_or_ge j n with h | h
              · rcases Classical.em (j = q) with h2 | h2
                · exact h2
                · rw [getD_set_ne true (by omega), hall j h h2] at hjun; cases hjun
              · exfalso
                by_cases e1 : j = n
                · subst e1; rw [getD_set_ne true (by omega), hnl] at hjun; cases hjun
                · by_cases e2 : j = n + 1
                  · subst e2; rw [getD_set_self] at hjun; cases hjun
                  · by_cases e3 : j = n + 1 + 1
                    · subst e3
                      exact second _ (by rw [getD_set_ne true (by omega)]; exact hqun) hj
                    · exact chain _ (fun t h3 h4 => by rw [getD_set_ne true (by omega)]; exact inv.tail t (by omega) h4) j (by omega) hj
            subst hjq
            have y1 := hyq.of_same (execOp_put oq hsq a al.dst (.pointer (some ⟨b, 0, none⟩)) c1) (wanted_put oq a al.dst _ c1)
            have y2 := y1.of_same (execOp_put oq hsq _ sd undef a3) (wanted_put oq _ sd undef a3)
            refine wpOp_of_grows hoq hWW y2 fun w'' hw'' => ?_
            have e1 : (((a.put al.dst (.pointer (some ⟨b, 0, none⟩))).put sd undef).put oq.dst v) = (((a.put oq.dst v).put al.dst (.pointer (some ⟨b, 0, none⟩))).put sd undef) := by
              rw [Act.put_comm _ undef v (fun d h1 h2 => a2 d h2 h1), Act.put_comm a _ v c2]
            rw [e1, show Nat.add 0 rest.length = rest.length from Nat.zero_add _]
            simp only [Region.seqB, Bool.and_eq_true] at hBq
            refine wpAny_of_seq (md := md) (Q' := Q) rest (n + 1 + 1) _ _ w'' hrest ?_ (hK b w'' hb (hB'.past hw'') (below_step hWW hw''))
            rw [Array.setIfInBounds_comm _ _ (Ne.symm hne)]
            exact hBq.2
    · exact ⟨fun h0 => absurd h0 H.1, fun i hi => step i (H.2 i hi).1 hi (H.2 i hi).2⟩
/-- The variable is not there yet. -/
theorem any_of_headLA {n q : Nat} {Lq : Act → Prop} {Q : Exit → Act → World → Prop} {al oq : Oper} {sd : Option Tmp} {T ty : TypeId} {x y : Operand} {pos : String} {af : Array Edge} {zs : Array Value} {rest : List Oper} (hsel : Region.noSelect ops = true)
    (hs : lateB md ops n q = true) (hn : n + 1 < ops.size) (hq : q < n) (hoq : ops[q]? = some oq)
    (hal : ops[n]? = some al) (hgd : al.guard = none) (haf : al.after.all (fun e => !Region.binds md e) = true)
    (hex : ∀ (ev : Operand → Value) (w : World), (execOp ev al).run P w = .ok (.value (.pointer (some ⟨w.heap.size, 0, none⟩))) (w.alloc (.cells zs T)))
    (hst : ops[n + 1]? = some { dst := sd, op := .store T x y, type := ty, pos := pos, after := af, guard := none })
    (hap : ∀ i o, i < n → ops[i]? = some o → al.apart ops o = true) (hqs : oq.apart ops { dst := sd, op := .store T x y, type := ty, pos := pos, after := af, guard := none } = true) (hrest : ∀ j, rest[j]? = ops[n + 1 + 1 + j]?)
    (hLq : ∀ a, Lq a → Stored P ops Q W al.dst sd T x y zs rest a) :
    ∀ (f : Nat) (listed : Array Bool) (a : Act) (w : World), Below W.heap.size W w → HeadInv md ops (n + 1) listed → listed.getD n true = false →
      headL P md ops W n q (fun l' a' => Region.seqB md ops (rest.length + 1) (n + 1) l' = true ∧ Lq a') f (listed.setIfInBounds n true) a → wpAny P md ops Q (f + 1 + (rest.length + 1)) listed a w := by
  intro f
  induction f with
  | zero =>
    intro listed a w hw inv hun H
    have hrn : n ∈ Region.ready md ops listed := mem_ready.2 ⟨hun, al, hal, fun e he hb => by
      have := (Array.all_eq_true_iff_forall_mem.1 haf) e he
      simp [hb] at this⟩
    rw [show 0 + 1 + (rest.length + 1) = (0 + (rest.length + 1)) + 1 by omega]
    refine ⟨fun h => (by rw [h] at hrn; cases hrn), fun i hi => ?_⟩
    have hin : i ≤ n := (Nat.lt_or_ge n i).elim (fun h => absurd hi (late_waits hs hn inv _ n rfl (Nat.le_refl _) (by omega) hun i h)) id
    by_cases hne : i = n
    · subst hne
      unfold wpOp
      simp only [hal]
      rw [if_pos (by simp [Region.wanted, hgd])]
      refine .inl ?_
      unfold Oper.wp
      rw [hex]
      exact any_of_headL hsel hs hn hq hoq hst hap hqs hrest hLq (w0 := w.alloc (.cells zs T)) (hw.alloc hw.size _) hw.size (Blk.new _ _ _) (by simp) 0 _ a _ (Below.refl _ _) (inv.set hrn (by omega)) (getD_set_self _) H
    · have := seqB_ready H.1 i (ready_mono hi hne)
      omega
  | succ f ih =>
    intro listed a w hw inv hun H
    have hrn : n ∈ Region.ready md ops listed := mem_ready.2 ⟨hun, al, hal, fun e he hb => by
      have := (Array.all_eq_true_iff_forall_mem.1 haf) e he
      simp [hb] at this⟩
    rw [show f + 1 + 1 + (rest.length + 1) = (f + 1 + (rest.length + 1)) + 1 by omega]
    refine ⟨fun h => (by rw [h] at hrn; cases hrn), fun i hi => ?_⟩
    have hin : i ≤ n := (Nat.lt_or_ge n i).elim (fun h => absurd hi (late_waits hs hn inv _ n rfl (Nat.le_refl _) (by omega) hun i h)) id
    by_cases hne : i = n
    · subst hne
      unfold wpOp
      simp only [hal]
      rw [if_pos (by simp [Region.wanted, hgd])]
      refine .inl ?_
      unfold Oper.wp
      rw [hex]
      exact any_of_headL hsel hs hn hq hoq hst hap hqs hrest hLq (w0 := w.alloc (.cells zs T)) (hw.alloc hw.size _) hw.size (Blk.new _ _ _) (by simp) (f + 1) _ a _ (Below.refl _ _) (inv.set hrn (by omega)) (getD_set_self _) H
    · have hg : gOp P ops W i (headL P md ops W n q (fun l' a' => Region.seqB md ops (rest.length + 1) (n + 1) l' = true ∧ Lq a') f ((listed.setIfInBounds n true).setIfInBounds i true)) a := by
        rcases H with ⟨h0, hall, hqr, hg⟩ | H
        · have : i = q := by
            rcases Classical.em (i = q) with h | h
            · exact h
            · have := hall i (by omega) h
              rw [getD_set_ne true (Ne.symm hne), (mem_ready.1 hi).1] at this
              cases this
          subst this
          subst h0
          exact hg
        · exact (H.2 i (ready_mono hi hne)).2
      obtain ⟨o, v, ho, hy, hK⟩ := hg
      refine wpOp_of_grows ho hw hy fun w' hw' => ?_
      refine ih _ _ w' (below_step hw hw') (inv.set hi (by omega)) (by rw [getD_set_ne true hne]; exact hun) ?_
      rw [Array.setIfInBounds_comm _ _ hne]
      exact hK

/-- What is asked of the region, as one Bool: its head are the operations up to q, then the variable, then the store. -/
def allocBL (md : Region.Mode) (ops : Array Oper) (q : Nat) : Bool :=
  Region.noSelect ops && decide (q + 1 + 1 < ops.size) && lateB md ops (q + 1) q && lexHeadL md ops (ops.size - (q + 1 + 1)) (q + 1) (q + 1) 0 ((Array.replicate ops.size false).setIfInBounds (q + 1) true) && newB md ops (q + 1) (q + 1) && apartB ops q (q + 1 + 1)

theorem region_alloc_late {id : Nat} {Q : Exit → Act → World → Prop} {a : Act} {w : World} {l : List Oper} {dst sd : Option Tmp} {T ta ty : TypeId} {x y : Operand} {pos pos' : String} {af af' : Array Edge} {zs : Array Value} (q : Nat) (hm : P.follows .mixedOrders = true) (hB : allocBL .any l.toArray q = true)
    (hal : l[q + 1]? = some { dst := dst, op := .alloc T, type := ta, pos := pos, after := af, guard := none })
    (hst : l[q + 1 + 1]? = some { dst := sd, op := .store T x y, type := ty, pos := pos', after := af', guard := none })
    (hex : ∀ (ev : Operand → Value) (w : World), (execOp ev { dst := dst, op := .alloc T, type := ta, pos := pos, after := af, guard := none }).run P w = .ok (.value (.pointer (some ⟨w.heap.size, 0, none⟩))) (w.alloc (.cells zs T)))
    (h : wpGrow P l.toArray w (fun a' => Stored P l.toArray Q w dst sd T x y zs (l.drop (q + 3)) a') (l.take (q + 1)) a) : (Code.region id l.toArray true).wp P Q a w := by
  simp only [allocBL, Bool.and_eq_true, decide_eq_true_eq] at hB
  obtain ⟨⟨⟨⟨⟨hsel, hn⟩, hs⟩, hlex⟩, hnew⟩, hqs⟩ := hB
  have hn' : q + 1 + 1 < l.length := by simpa using hn
  have htl : (l.take (q + 1)).length = q + 1 := by simp; omega
  have hdl : (l.drop (q + 3)).length + 1 = l.toArray.size - (q + 1 + 1) := by simp; omega
  have hal' : l.toArray[q + 1]? = some { dst := dst, op := .alloc T, type := ta, pos := pos, after := af, guard := none } := by simpa using hal
  have hst' : l.toArray[q + 1 + 1]? = some { dst := sd, op := .store T x y, type := ty, pos := pos', after := af', guard := none } := by simpa using hst
  obtain ⟨oq, hoq⟩ : ∃ oq, l.toArray[q]? = some oq := ⟨l[q]'(by omega), by simp [show q < l.length by omega]⟩
  have e := mkNew (P := P) (md := .any) (n := q + 1) (m := q + 1) (i := q + 1) (Nat.le_refl _) (Nat.le_refl _) hal' rfl hnew hex
  have haf : af.all (fun e => !Region.binds .any e) = true := by
    unfold newB at hnew; rw [hal'] at hnew; simp only [Bool.and_eq_true] at hnew; exact hnew.1
  have hap : ∀ i o, i < q + 1 → l.toArray[i]? = some o → ({ dst := dst, op := .alloc T, type := ta, pos := pos, after := af, guard := none } : Oper).apart l.toArray o = true := fun i o hi ho => by
    unfold newB at hnew; rw [hal'] at hnew; simp only [Bool.and_eq_true] at hnew
    have := List.all_eq_true.1 hnew.2 i (List.mem_range.2 hi)
    rw [ho] at this
    simpa using this
  have hqs' : oq.apart l.toArray { dst := sd, op := .store T x y, type := ty, pos := pos', after := af', guard := none } = true := by
    unfold apartB at hqs; rw [hoq, hst'] at hqs; exact hqs
  have inv0 : HeadInv .any l.toArray (q + 1 + 1) (Array.replicate l.toArray.size false) := ⟨by simp, fun j oj _ hl => (by rw [getD_replicate_false] at hl; cases hl), fun t _ ht => getD_in (by simpa using ht) (getD_replicate_false _ _)⟩
  have hun0 : (Array.replicate l.toArray.size false).getD (q + 1) true = false := getD_in (by simp; omega) (getD_replicate_false _ _)
  have r1 : q + 1 ∈ Region.ready .any l.toArray (Array.replicate l.toArray.size false) := mem_ready.2 ⟨hun0, _, hal', fun e he hb => by
    have := (Array.all_eq_true_iff_forall_mem.1 haf) e he
    simp [hb] at this⟩
  have hne : l.take (q + 1) ≠ [] := fun h0 => by rw [h0] at htl; simp at htl
  have H := headL_lex (P := P) (W := w) (n := q + 1) (q := q) (md := .any) (g := l.toArray.size - (q + 1 + 1)) hsel hs hn rfl (l.take (q + 1)) 0 _ a hne (fun j hj => by
    have hj' : j < q + 1 := by rw [htl] at hj; exact hj
    simp [hj']) (by simpa using htl) (inv0.set r1 (by omega)) (getD_set_self _) (fun j hj => absurd hj (Nat.not_lt_zero _)) (by rw [htl]; exact hlex) h
  refine wp_region_any hm ?_
  rw [← hdl] at H
  have H2 := any_of_headLA (md := .any) (n := q + 1) (q := q) (Q := Q) (W := w) (rest := l.drop (q + 3)) hsel hs hn (by omega) hoq hal' rfl haf hex hst' hap hqs' (fun j => by
    simp [List.getElem?_drop]) (fun _ h => h) (l.take (q + 1)).length _ a w.drew (Below.refl _ _).drew inv0 hun0 H
  rw [htl, show q + 1 + 1 + ((l.drop (q + 3)).length + 1) = l.toArray.size by rw [hdl]; omega] at H2
  exact H2
end

end Go.Proofs.YtnhcamokcggnkaaGreatDoor
