/- Words on maps: a map from strings to bools that is used as a set; a map from strings to such maps; the laws for them at the operations. -/
import Derived.Test.YtbojmcopagbheaaGreatDoorQB
import Derived.Maps.OwnSet
import Derived.Maps.RangeWalk
import Derived.Maps.Ext
import Derived.Sort.MapsRangeIn
namespace Go.Proofs.YtbojmcopagbheaaGreatDoor
open Go.RowKit Go.Maps

def klit (s : ByteArray) : Lit := .string s.data.toList
theorem klit_inj {a b : ByteArray} (h : klit a = klit b) : a = b := by
  cases a with | mk a => cases b with | mk b =>
    simp only [klit, Lit.string.injEq] at h
    have : a = b := by
      cases a with | mk a => cases b with | mk b => simpa using h
    rw [this]
theorem klit_key (s : ByteArray) : WideAt.IsKeyLit (klit s) := trivial
theorem klit_same (z x : ByteArray) : (klit z).sameKey (klit x) = sameS z x := by
  cases h : sameS z x with
  | true => rw [sameS_iff.1 h]; exact WideAt.sameKey_self (klit_key x)
  | false =>
    refine sameKey_ne fun e => ?_
    rw [sameS_iff.2 (klit_inj e)] at h
    cases h

theorem strKeyed : Keyed Tryz.prog 9 := string_keyed Tryz.underlying9

/-- Block b is a map of at most k entries that is used as a set of strings: own says which are in it. -/
def SetIs (w : World) (b : Nat) (own : ByteArray → Bool) (k : Nat) : Prop :=
  ∃ D : DataW Unit, w.ownsMap Tryz.prog 9 (plainElem Tryz.prog 4) b k D ∧ ∀ z, has D (klit z) = own z ∧ D.atKey (klit z) (.lit (.bool false)) = .lit (.bool (own z))

/-- How a map's element that is a map reads: the number of its block. -/
def mapElem : Value → Option (DataW Unit × List MemPlace)
  | .map (some b) => some (.lit (.int .i64 (b : Int)), [])
  | .map none => some (.nil, [])
  | _ => none
theorem mapElem_some {v : Value} {b : Nat} {ps : List MemPlace} (h : mapElem v = some (.lit (.int .i64 (b : Int)), ps)) : v = .map (some b) := by
  unfold mapElem at h
  split at h
  · simp only [Option.some.injEq, Prod.mk.injEq, DataW.lit.injEq, Lit.int.injEq, true_and] at h
    rename_i b'
    obtain ⟨h, _⟩ := h
    obtain rfl : b' = b := by omega
    rfl
  · simp at h
  · cases h
theorem mapElem_nil {v : Value} {ps : List MemPlace} (h : mapElem v = some (.nil, ps)) : v = .map none := by
  unfold mapElem at h
  split at h
  · simp at h
  · rfl
  · cases h

abbrev Fam := ByteArray → Option (ByteArray → Bool)

/-- Block fm is a map from strings to sets, each of at most cap entries; all blocks lie below B. -/
def FromIs (B : Nat) (w : World) (fm : Nat) (F : Fam) (k cap : Nat) : Prop :=
  ∃ D : DataW Unit, w.ownsMap Tryz.prog 9 mapElem fm k D ∧ fm < B ∧
    ∀ z, (F z = none → ∀ d, D.atKey (klit z) d = d) ∧ ∀ own, F z = some own → ∃ b : Nat, (∀ d, D.atKey (klit z) d = .lit (.int .i64 (b : Int))) ∧ SetIs w b own cap ∧ b < B ∧ b ≠ fm

theorem World.ownsMap.under {w w' : World} {k : TypeId} {R : Value → Option (DataW Unit × List MemPlace)} {b n B : Nat} {D : DataW Unit} (h : w.ownsMap Tryz.prog k R b n D) (hb : Below B w w') (hlt : b < B) : w'.ownsMap Tryz.prog k R b n D := by
  obtain ⟨es, clock, h1, r⟩ := h
  exact ⟨es, clock, (hb.block b hlt).trans h1, r⟩

section
variable {w w' : World} {b k cap fm B : Nat} {own : ByteArray → Bool} {F : Fam}

theorem SetIs.lt (h : SetIs w b own k) : b < w.heap.size := by
  obtain ⟨D, h1, _⟩ := h
  exact h1.lt
theorem SetIs.below (h : SetIs w b own k) (hb : Below B w w') (hlt : b < B) : SetIs w' b own k := by
  obtain ⟨D, h1, h2⟩ := h
  exact ⟨D, World.ownsMap.under h1 hb hlt, h2⟩
theorem SetIs.kept {row : Option Nat} (h : SetIs w b own k) (hg : w.grownBy w' row) (hne : some b ≠ row) : SetIs w' b own k := by
  obtain ⟨D, h1, h2⟩ := h
  exact ⟨D, h1.kept hg hne, h2⟩
theorem SetIs.mono (h : SetIs w b own k) {k' : Nat} (hk : k ≤ k') : SetIs w b own k' := by
  obtain ⟨D, h1, h2⟩ := h
  exact ⟨D, h1.mono hk, h2⟩
theorem SetIs.congr (h : SetIs w b own k) {own' : ByteArray → Bool} (he : ∀ z, own' z = own z) : SetIs w b own' k := by
  rw [show own' = own from funext he]; exact h
theorem SetIs.made (w : World) : SetIs (w.alloc (.map #[] 0)) w.heap.size (fun _ => false) 0 :=
  ⟨.map [], World.ownsMap_made w _ _ _, fun _ => ⟨rfl, rfl⟩⟩

theorem FromIs.below (h : FromIs B w fm F k cap) (hb : Below B w w') : FromIs B w' fm F k cap := by
  obtain ⟨D, h1, h2, h3⟩ := h
  refine ⟨D, World.ownsMap.under h1 hb h2, h2, fun z => ⟨(h3 z).1, fun own ho => ?_⟩⟩
  obtain ⟨b, g1, g2, g3, g4⟩ := (h3 z).2 own ho
  exact ⟨b, g1, g2.below hb g3, g3, g4⟩
theorem FromIs.more (h : FromIs B w fm F k cap) {B' : Nat} (hB : B ≤ B') : FromIs B' w fm F k cap := by
  obtain ⟨D, h1, h2, h3⟩ := h
  refine ⟨D, h1, by omega, fun z => ⟨(h3 z).1, fun own ho => ?_⟩⟩
  obtain ⟨b, g1, g2, g3, g4⟩ := (h3 z).2 own ho
  exact ⟨b, g1, g2, by omega, g4⟩
theorem FromIs.mono (h : FromIs B w fm F k cap) {cap' : Nat} (hc : cap ≤ cap') : FromIs B w fm F k cap' := by
  obtain ⟨D, h1, h2, h3⟩ := h
  refine ⟨D, h1, h2, fun z => ⟨(h3 z).1, fun own ho => ?_⟩⟩
  obtain ⟨b, g1, g2, g3, g4⟩ := (h3 z).2 own ho
  exact ⟨b, g1, g2.mono hc, g3, g4⟩
theorem FromIs.past (h : FromIs B w fm F k cap) (hB : B ≤ w.heap.size) (hb : Below w.heap.size w w') : FromIs B w' fm F k cap := h.below (hb.mono hB)
theorem FromIs.kept {row : Nat} (h : FromIs B w fm F k cap) (hg : w.grownBy w' (some row)) (hr : B ≤ row) : FromIs B w' fm F k cap := by
  obtain ⟨D, h1, h2, h3⟩ := h
  refine ⟨D, h1.kept hg (by simp; omega), h2, fun z => ⟨(h3 z).1, fun own ho => ?_⟩⟩
  obtain ⟨b, g1, g2, g3, g4⟩ := (h3 z).2 own ho
  exact ⟨b, g1, g2.kept hg (by simp; omega), g3, g4⟩
theorem FromIs.grown {row : Option Nat} (h : FromIs B w fm F k cap) (hg : w.grownBy w' row) (hr : ∀ j, row = some j → B ≤ j) : FromIs B w' fm F k cap := by
  have hne : ∀ b, b < B → some b ≠ row := fun b hb e => by have := hr b e.symm; omega
  obtain ⟨D, h1, h2, h3⟩ := h
  refine ⟨D, h1.kept hg (hne _ h2), h2, fun z => ⟨(h3 z).1, fun own ho => ?_⟩⟩
  obtain ⟨b, g1, g2, g3, g4⟩ := (h3 z).2 own ho
  exact ⟨b, g1, g2.kept hg (hne _ g3), g3, g4⟩
theorem FromIs.made (w : World) : FromIs (w.heap.size + 1) (w.alloc (.map #[] 0)) w.heap.size (fun _ => none) 0 cap :=
  ⟨.map [], World.ownsMap_made w _ _ _, by omega, fun _ => ⟨fun _ d => rfl, fun own ho => nomatch ho⟩⟩

theorem zero_bool (w : World) : (zeroValue 4).run Tryz.prog w = .ok (.bool false) w := by kernel_rfl
theorem zero_map (w : World) : (zeroValue 125).run Tryz.prog w = .ok (.map none) w := by kernel_rfl

theorem plainElem_bool_inv' {P : Program} {e : TypeId} (he : P.underlying e = some .bool) {v : Value} {z : DataW Unit × List MemPlace} (h : plainElem P e v = some z) : ∃ c, v = .bool c ∧ z = (.lit (.bool c), []) := by
  unfold plainElem at h
  rw [he] at h
  cases v <;> simp at h
  exact ⟨_, rfl, h.symm⟩
theorem plainElem_bool_inv {v : Value} {z : DataW Unit × List MemPlace} (h : plainElem Tryz.prog 4 v = some z) : ∃ c, v = .bool c ∧ z = (.lit (.bool c), []) := plainElem_bool_inv' Tryz.underlying4 h

/-- s[z] at a set. -/
theorem SetIs.look (h : SetIs w b own k) {z : ByteArray} (hz : z.size ≤ 1000) : (Instr.lookup 125 (.map (some b)) (.string z) false).run Tryz.prog w = .ok (.bool (own z)) w := by
  obtain ⟨D, h1, h2⟩ := h
  obtain ⟨v, ps, hrun, hv⟩ := h1.lookup strKeyed Tryz.underlying125 (zero_bool w) (plainElem_bool Tryz.underlying4 false) (WideMaps.keyOf_string_mk Tryz.underlying9 (s := z) (by unfold maxLen; omega))
  obtain ⟨c, rfl, hc⟩ := plainElem_bool_inv hv
  simp only [Prod.mk.injEq] at hc
  have := (h2 z).2
  unfold klit at this
  rw [hc.1] at this
  simp only [DataW.lit.injEq, Lit.bool.injEq] at this
  rw [hrun, this]
theorem FromIs.look_none (h : FromIs B w fm F k cap) {z : ByteArray} (hz : z.size ≤ 1000) (hF : F z = none) : (Instr.lookup 118 (.map (some fm)) (.string z) false).run Tryz.prog w = .ok (.map none) w := by
  obtain ⟨D, h1, _, h2⟩ := h
  obtain ⟨v, ps, hrun, hv⟩ := h1.lookup (z := .map none) (zd := .nil) (zp := []) strKeyed Tryz.underlying118 (zero_map w) rfl (WideMaps.keyOf_string_mk Tryz.underlying9 (s := z) (by unfold maxLen; omega))
  have := (h2 z).1 hF .nil
  unfold klit at this
  rw [this] at hv
  rw [hrun, mapElem_nil hv]
theorem FromIs.look_some (h : FromIs B w fm F k cap) {z : ByteArray} (hz : z.size ≤ 1000) {own : ByteArray → Bool} (hF : F z = some own) :
    ∃ b : Nat, (∀ W, Below B w W → (Instr.lookup 118 (.map (some fm)) (.string z) false).run Tryz.prog W = .ok (.map (some b)) W) ∧ SetIs w b own cap ∧ b < B ∧ b ≠ fm := by
  obtain ⟨D, h1, hfB, h2⟩ := h
  obtain ⟨b, g1, g2, g3, g4⟩ := (h2 z).2 own hF
  refine ⟨b, fun W hW => ?_, g2, g3, g4⟩
  obtain ⟨v, ps, hrun, hv⟩ := (World.ownsMap.under h1 hW hfB).lookup (z := .map none) (zd := .nil) (zp := []) strKeyed Tryz.underlying118 (zero_map W) rfl (WideMaps.keyOf_string_mk Tryz.underlying9 (s := z) (by unfold maxLen; omega))
  have := g1 .nil
  unfold klit at this
  rw [this] at hv
  rw [hrun, mapElem_some hv]

/-- The outer map gets one entry more. -/
theorem FromIs.put {D : DataW Unit} (h : FromIs B w fm F k cap) {x : ByteArray} {ob : Nat} (ho : SetIs w ob own cap) (hob : ob < B) (hne : ob ≠ fm)
    (hD : w.ownsMap Tryz.prog 9 mapElem fm k D) (hw : w'.ownsMap Tryz.prog 9 mapElem fm (k + 1) (D.put (klit x) (.lit (.int .i64 (ob : Int))))) (hg : w.grownBy w' (some fm))
    (hsame : ∀ z, (F z = none → ∀ d, D.atKey (klit z) d = d) ∧ ∀ own, F z = some own → ∃ b : Nat, (∀ d, D.atKey (klit z) d = .lit (.int .i64 (b : Int))) ∧ SetIs w b own cap ∧ b < B ∧ b ≠ fm) :
    FromIs B w' fm (fun z => if sameS z x then some own else F z) (k + 1) cap := by
  have hfB : fm < B := by obtain ⟨_, _, h, _⟩ := h; exact h
  refine ⟨_, hw, hfB, fun z => ?_⟩
  dsimp only
  cases hs : sameS z x with
  | true =>
    rw [sameS_iff.1 hs]
    refine ⟨fun h => (by simp at h), fun own' ho' => ?_⟩
    simp only [if_true, Option.some.injEq] at ho'
    subst ho'
    exact ⟨ob, fun d => atKey_put_same (World.ownsMap.isMap hD) (klit_key x) _ d, ho.kept hg (by simpa using hne), hob, hne⟩
  | false =>
    have hk : klit z ≠ klit x := fun e => by rw [sameS_iff.2 (klit_inj e)] at hs; cases hs
    simp only [Bool.false_eq_true, if_false]
    refine ⟨fun h d => by rw [atKey_put_other hk]; exact (hsame z).1 h d, fun own' ho' => ?_⟩
    obtain ⟨b, g1, g2, g3, g4⟩ := (hsame z).2 own' ho'
    exact ⟨b, fun d => by rw [atKey_put_other hk]; exact g1 d, g2.kept hg (by simpa using g4), g3, g4⟩
end

theorem keyOf_string_inv' {P : Program} {k : TypeId} (hk : P.underlying k = some .string) {x : ByteArray} {kl : Lit} (h : keyOf P k (.string x) = some kl) : kl = klit x ∧ x.size ≤ maxLen := by
  simp [keyOf, hk, mapKey] at h
  exact ⟨h.2.symm, h.1⟩

section
variable (w : World) {ops : Array Oper} {rest : List Oper} {o : Oper} {a : Act} {Q : Exit → Act → World → Prop}

/-- s[z] = true. -/
theorem wpList_set_add (hg : o.guard = none) (m x v : Operand) (hop : o.op = Op.mapUpdate 125 m x v) (b k : Nat) (own : ByteArray → Bool) (hm : a.eval m = .map (some b)) (h : SetIs w b own k) (hn : k < 1000000000000000000)
    (z : ByteArray) (hx : a.eval x = .string z) (hv : a.eval v = .bool true) (hz : z.size ≤ maxLen)
    (hK : ∀ w', SetIs w' b (fun y => own y || sameS y z) (k + 1) → w.grownBy w' (some b) → wpList Tryz.prog ops Q rest (a.put o.dst undef) w') :
    wpList Tryz.prog ops Q (o :: rest) a w := by
  obtain ⟨D, h1, h2⟩ := h
  refine wpList_mapUpdate_own w hg m x v _ hop 9 4 strKeyed Tryz.underlying125 _ b k D hm h1 (by unfold maxLen; omega) _ _ (klit z) hx hv (WideMaps.keyOf_string_mk Tryz.underlying9 hz) (.lit (.bool true)) [] (plainElem_bool Tryz.underlying4 true) ?_
  intro w' hw hg'
  refine hK w' ⟨_, hw, fun y => ?_⟩ hg'
  dsimp only
  cases hs : sameS y z with
  | true =>
    rw [sameS_iff.1 hs]
    simp only [Bool.or_true]
    exact ⟨has_put_same (World.ownsMap.isMap h1) (klit_key z) _, atKey_put_same (World.ownsMap.isMap h1) (klit_key z) _ _⟩
  | false =>
    have hk : klit y ≠ klit z := fun e => by rw [sameS_iff.2 (klit_inj e)] at hs; cases hs
    rw [has_put_other hk, atKey_put_other hk]
    simpa using h2 y

/-- f[x] = a set. -/
theorem wpList_from_put (hg : o.guard = none) (m x v : Operand) (hop : o.op = Op.mapUpdate 118 m x v) (B fm k cap ob : Nat) (F : Fam) (own : ByteArray → Bool) (hm : a.eval m = .map (some fm)) (h : FromIs B w fm F k cap) (hn : k < 1000000000000000000)
    (z : ByteArray) (hx : a.eval x = .string z) (hv : a.eval v = .map (some ob)) (hz : z.size ≤ 1000) (ho : SetIs w ob own cap) (hob : ob < B) (hne : ob ≠ fm)
    (hK : ∀ w', FromIs B w' fm (fun y => if sameS y z then some own else F y) (k + 1) cap → w.grownBy w' (some fm) → wpList Tryz.prog ops Q rest (a.put o.dst undef) w') :
    wpList Tryz.prog ops Q (o :: rest) a w := by
  have h' := h
  obtain ⟨D, h1, h2, h3⟩ := h
  refine wpList_mapUpdate_own w hg m x v _ hop 9 125 strKeyed Tryz.underlying118 _ fm k D hm h1 (by unfold maxLen; omega) _ _ (klit z) hx hv (WideMaps.keyOf_string_mk Tryz.underlying9 (by unfold maxLen; omega)) (.lit (.int .i64 (ob : Int))) [] rfl ?_
  intro w' hw hg'
  exact hK w' (h'.put ho hob hne h1 hw hg' h3) hg'

/-- The step of a range over a set. -/
theorem wpList_next_set (hg : o.guard = none) (it : Operand) (hop : o.op = Op.next it false) (b r n : Nat) (D : DataW Unit) (left : Lit → Bool) (cnt : Nat) (hit : a.eval it = .pointer (some ⟨r, 0, none⟩)) (h : w.ranges Tryz.prog 9 (plainElem Tryz.prog 4) b r n D left cnt)
    (hDone : cnt = 0 → (∀ kl, left kl = false) → wpList Tryz.prog ops Q rest (a.put o.dst (.tuple #[.bool false])) w)
    (hMore : ∀ (x : ByteArray) (c : Bool) (w' : World) (cnt' : Nat), x.size ≤ maxLen → left (klit x) = true → has D (klit x) = true → w'.ranges Tryz.prog 9 (plainElem Tryz.prog 4) b r n D (fun z => left z && !z.sameKey (klit x)) cnt' → cnt' < cnt →
      w.grownBy w' (some r) → w'.heap.size = w.heap.size → (Instr.entry (.pointer (some ⟨r, 0, none⟩))).run Tryz.prog w' = .ok (.tuple #[.string x, .bool c]) w' → wpList Tryz.prog ops Q rest (a.put o.dst (.tuple #[.bool true, .string x, .bool c])) w') :
    wpList Tryz.prog ops Q (o :: rest) a w :=
  wpList_next_ranges w hg it hop 9 strKeyed (plainElem Tryz.prog 4) Value.string Value.bool (fun key kl hkey => Maps.keyOf_string_inv Tryz.underlying9 hkey) (fun v y hv => by obtain ⟨c, rfl, _⟩ := plainElem_bool_inv hv; exact ⟨c, rfl⟩)
    b r n D left cnt hit h hDone (fun x c kl y w' cnt' hkey hlk hv hat hrg hlt hgr hsz hen => by
      obtain ⟨hkl, hsz'⟩ := keyOf_string_inv' Tryz.underlying9 hkey
      subst hkl
      exact hMore x c w' cnt' hsz' hlk (has_true_of_atKey hat) hrg hlt hgr hsz hen)
end

end Go.Proofs.YtbojmcopagbheaaGreatDoor
