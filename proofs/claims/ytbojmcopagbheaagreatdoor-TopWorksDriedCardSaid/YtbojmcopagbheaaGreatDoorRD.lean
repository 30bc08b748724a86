/- Plain facts for the law on dried loads: its plan is valid; an order of loads is a possible schedule, and some order is the best one; the bound of one machine's tasks; water under any rates.
Plain facts for the law on dried loads: one machine's tasks and their bound; water under any rates; the plan's numbers.
Loads in memory. -/
import Derived.Test.YtbojmcopagbheaaGreatDoorRG
import Derived.Test.YtbojmcopagbheaaGreatDoorU4BusyBound
import Derived.Test.YtbojmcopagbheaaGreatDoorQV
import Derived.Test.YtbojmcopagbheaaGreatDoorYLShown
import Derived.Test.YtbojmcopagbheaaGreatDoorRE

section
namespace Go.Proofs.YtbojmcopagbheaaGreatDoor
open Go.RowKit

/-- A load: its oven, its water, its target, the numbers that choose. -/
structure Load where
  rlo : Int
  rhi : Int
  fl : Int
  wlo : Int
  whi : Int
  tgt : Int
  num : Int
  rates : List Int
instance : Inhabited Load := ⟨⟨0, 0, 0, 0, 0, 0, 0, []⟩⟩

/-- The number of its steps. -/
def stepsN (x : Load) : Int := optN (stepsO x.rlo x.fl x.whi x.tgt)
def loadT (ov : Int) (xs : List Load) (i : Nat) : Task := ⟨(i : Int).tmod ov, stepsN (xs.getD i default) + 1, (i : Int), []⟩
def loadTs (ov : Int) (xs : List Load) (k : Nat) : List Task := (List.range k).map (loadT ov xs)
theorem loadTs_len (ov : Int) (xs : List Load) (k : Nat) : (loadTs ov xs k).length = k := by simp [loadTs]
theorem loadTs_get (ov : Int) (xs : List Load) {k i : Nat} (hi : i < k) : (loadTs ov xs k).getD i default = loadT ov xs i := by
  simp [loadTs, List.getD, hi]
theorem loadTs_succ (ov : Int) (xs : List Load) (k : Nat) : loadTs ov xs (k + 1) = loadTs ov xs k ++ [loadT ov xs k] := by
  simp [loadTs, List.range_succ]

/-- What the loads' plan is like. -/
structure DriedOk (ov : Int) (xs : List Load) (n : Nat) : Prop where
  pos : 1 ≤ n
  five : n ≤ 5
  ov1 : 1 ≤ ov
  ov2 : ov ≤ 2
  steps : ∀ i, i < n → 0 ≤ stepsN (xs.getD i default) ∧ stepsN (xs.getD i default) ≤ 60

theorem tmod_bd {ov : Int} (h1 : 1 ≤ ov) (i : Nat) : 0 ≤ (i : Int).tmod ov ∧ (i : Int).tmod ov < ov :=
  ⟨Int.tmod_nonneg _ (by omega), Int.tmod_lt_of_pos _ (by omega)⟩

theorem needs_none {ts : List Task} (h7 : ts.length ≤ 7) (ha : ∀ i, i < ts.length → (ts.getD i default).after = []) {i : Nat} (hi : i < ts.length) (j : Nat) : (needsV ts i).testBit j = false := by
  have hp : PlanOk ts := ⟨h7, fun k hk => by rw [ha k hk]; exact ⟨Nat.zero_le _, fun j hj => by simp at hj⟩⟩
  cases hb : (needsV ts i).testBit j with
  | false => rfl
  | true => exact (needs_least hp hi (fun _ => False) (fun x hx => by rw [ha i hi] at hx; simp at hx) (fun k _ h => h.elim) j hb).elim

theorem dried_open {ov : Int} {xs : List Load} {n : Nat} (h : DriedOk ov xs n) : (openV ov (loadTs ov xs n)).2 = 0 := by
  obtain ⟨h1, h5, v1, v2, hs⟩ := h
  have hl := loadTs_len ov xs n
  have e0 : openE0 ov (loadTs ov xs n).length = 0 := by
    rw [hl]
    refine firstV_zero.2 ⟨(unless_ne (by decide)).2 ?_, firstV_zero.2 ⟨(unless_ne (by decide)).2 (decide_eq_true (by omega)), rfl⟩⟩
    unfold withinB
    rw [decide_eq_true (by omega), decide_eq_true (by omega)]
    rfl
  have e1 : scan (openE1 ov (loadTs ov xs n)) (loadTs ov xs n).length 0 = (0, 0) := scan_all _ 0 rfl fun i _ hi => by
    rw [hl] at hi
    have hg := loadTs_get ov xs hi
    obtain ⟨m1, m2⟩ := tmod_bd v1 i
    obtain ⟨s1, s2⟩ := hs i hi
    unfold openE1
    rw [hg]
    refine firstV_zero.2 ⟨?_, firstV_zero.2 ⟨(unless_ne (by decide)).2 ?_, rfl⟩⟩
    · have ht : taskE1 (loadT ov xs i) = 0 := by
        refine firstV_zero.2 ⟨(unless_ne (by decide)).2 ?_, firstV_zero.2 ⟨(unless_ne (by decide)).2 (decide_eq_true (by simp [loadT])), rfl⟩⟩
        unfold withinB loadT
        dsimp only
        rw [decide_eq_true (by omega), decide_eq_true (by omega), decide_eq_true (by omega), decide_eq_true (by omega), decide_eq_true (by omega), decide_eq_true (by omega)]
        rfl
      unfold taskE
      rw [if_neg (by rw [ht]; simp)]
      exact congrArg Prod.snd (scan_all _ 0 rfl fun j _ hj => by simp [loadT] at hj)
    · rw [Bool.and_eq_true]
      exact ⟨decide_eq_true (by unfold loadT; exact m2), by simp [loadT, anyB]⟩
  have e2 : scan (openE2 (loadTs ov xs n)) (loadTs ov xs n).length 0 = (0, 0) := scan_all _ 0 rfl fun i _ hi => by
    unfold openE2
    rw [needs_none (by omega) (fun j hj => by rw [hl] at hj; rw [loadTs_get ov xs hj]; rfl) hi i]
    rfl
  unfold openV
  rw [if_neg (by simpa using e0), if_neg (by rw [e1]; simp), e2]

/-! Orders of all tasks. -/
theorem mx_comm (a b : Int) : mx a b = mx b a := by unfold mx; split <;> split <;> omega
/-- The end behind the tasks that are left, in the order that the number tells. -/
def ordR (ts : List Task) : Nat → Nat → List Int → List Int → Int → Int
  | 0, _, _, _, last => last
  | k + 1, rest, left, fr, last => ordR ts k (rest / (k + 1)) (left.eraseIdx (rest % (k + 1)))
      (fr.set (ts.getD (left.getD (rest % (k + 1)) 0).toNat default).machine.toNat (mx (fr.getD (ts.getD (left.getD (rest % (k + 1)) 0).toNat default).machine.toNat 0) (ts.getD (left.getD (rest % (k + 1)) 0).toNat default).release + (ts.getD (left.getD (rest % (k + 1)) 0).toNat default).length))
      (mx last (mx (fr.getD (ts.getD (left.getD (rest % (k + 1)) 0).toNat default).machine.toNat 0) (ts.getD (left.getD (rest % (k + 1)) 0).toNat default).release + (ts.getD (left.getD (rest % (k + 1)) 0).toNat default).length))
def fct : Nat → Nat
  | 0 => 1
  | n + 1 => fct n * (n + 1)
theorem fct_pos : ∀ n, 0 < fct n
  | 0 => by decide
  | n + 1 => Nat.mul_pos (fct_pos n) (Nat.succ_pos n)
def idxs (n : Nat) : List Int := (List.range n).map (Int.ofNat)
theorem idxs_len (n : Nat) : (idxs n).length = n := by simp [idxs]
theorem idxs_succ (n : Nat) : idxs (n + 1) = idxs n ++ [(n : Int)] := by simp [idxs, List.range_succ]
theorem idxs_mem {n : Nat} {x : Int} : x ∈ idxs n ↔ ∃ i : Nat, i < n ∧ x = (i : Int) := by
  unfold idxs
  rw [List.mem_map]
  constructor
  · rintro ⟨i, h, rfl⟩; exact ⟨i, by simpa using h, rfl⟩
  · rintro ⟨i, h, rfl⟩; exact ⟨i, by simpa using h, rfl⟩
def ordEnd (ts : List Task) (ov : Nat) (r : Nat) : Int := ordR ts ts.length r (idxs ts.length) (List.replicate ov 0) 0

/-- What has been started, what is left, and what the two sides hold. -/
structure Mid (ts : List Task) (ov : Nat) (k d : Nat) (ss fr : List Int) (left fo : List Int) (last : Int) : Prop where
  k : left.length = k
  dlt : d < 2 ^ ts.length
  mem : ∀ x, x ∈ left ↔ ∃ j : Nat, x = (j : Int) ∧ j < ts.length ∧ d.testBit j = false
  nd : left.Nodup
  lss : ss.length = ts.length
  lfr : fr.length = 4
  lfo : fo.length = ov
  same : ∀ m, m < ov → fo.getD m 0 = fr.getD m 0
  last : ∀ U, last ≤ U ↔ 0 ≤ U ∧ ∀ j, j < ts.length → d.testBit j = true → endAt ts ss j ≤ U

structure Free (ts : List Task) (ov : Nat) : Prop where
  ha : AcyOk ts
  aft : ∀ i, i < ts.length → (ts.getD i default).after = []
  mac : ∀ i, i < ts.length → 0 ≤ (ts.getD i default).machine ∧ (ts.getD i default).machine.toNat < ov
  four : ov ≤ 4

theorem Mid.done {ts : List Task} {ov d : Nat} {ss fr left fo : List Int} {last : Int} (hF : Free ts ov) (h : Mid ts ov 0 d ss fr left fo last) : d = 2 ^ ts.length - 1 ∧ lastV ts ss = last := by
  have hl : left = [] := List.eq_nil_of_length_eq_zero h.k
  have hb : ∀ j, j < ts.length → d.testBit j = true := fun j hj => by
    cases hq : d.testBit j with
    | true => rfl
    | false =>
      have := (h.mem (j : Int)).2 ⟨j, rfl, hj, hq⟩
      rw [hl] at this
      cases this
  refine ⟨?_, ?_⟩
  · by_cases hd : d = 2 ^ ts.length - 1
    · exact hd
    · obtain ⟨i, hi, hr⟩ := some_ready hF.ha h.dlt hd
      have := ready_self hr
      rw [hb i hi] at this
      cases this
  · have q : ∀ U, lastV ts ss ≤ U ↔ last ≤ U := fun U => by
      rw [lastV_le, h.last, h.lss]
      exact ⟨fun q => ⟨q.1, fun j hj _ => q.2 j hj⟩, fun q => ⟨q.1, fun j hj => q.2 j hj (hb j hj)⟩⟩
    exact Int.le_antisymm ((q _).2 (Int.le_refl _)) ((q _).1 (Int.le_refl _))

theorem Mid.more {ts : List Task} {ov k d : Nat} {ss fr left fo : List Int} {last : Int} (h : Mid ts ov (k + 1) d ss fr left fo last) : d ≠ 2 ^ ts.length - 1 := fun e => by
  have hk := h.k
  obtain ⟨j, _, hj, hb⟩ := (h.mem _).1 (List.getElem_mem (show 0 < left.length by omega))
  rw [full_bit e hj] at hb
  cases hb

theorem strt_free {ts : List Task} {ov : Nat} (hF : Free ts ov) {ss fr : List Int} {i : Nat} (hi : i < ts.length) : strt ts ss fr i = mx (ts.getD i default).release (fr.getD (ts.getD i default).machine.toNat 0) := by
  unfold strt
  rw [hF.aft i hi]
  rfl
theorem ready_free {ts : List Task} {ov : Nat} (hF : Free ts ov) {d i : Nat} (hi : i < ts.length) (hb : d.testBit i = false) : readyB ts d i = true :=
  readyB_iff.2 ⟨hb, fun j hj => by rw [needs_none hF.ha.1.1 hF.aft hi j] at hj; cases hj⟩

theorem mem_eraseIdx_nd {l : List Int} (h : l.Nodup) {p : Nat} (hp : p < l.length) (x : Int) : x ∈ l.eraseIdx p ↔ x ∈ l ∧ x ≠ l.getD p 0 := by
  have e : l.getD p 0 = l[p] := by simp [List.getD, hp]
  rw [e]
  have hdec : l = l.take p ++ l[p] :: l.drop (p + 1) := by
    rw [← List.drop_eq_getElem_cons hp, List.take_append_drop]
  have hne : ∀ y ∈ l.eraseIdx p, y ≠ l[p] := by
    intro y hy e
    rw [List.eraseIdx_eq_take_drop_succ] at hy
    rw [hdec] at h
    rw [List.nodup_append] at h
    obtain ⟨_, h2, h3⟩ := h
    rw [List.nodup_cons] at h2
    rcases List.mem_append.1 hy with hy | hy
    · exact h3 y hy _ List.mem_cons_self e
    · exact h2.1 (e ▸ hy)
  constructor
  · intro hx
    exact ⟨List.mem_of_mem_eraseIdx hx, hne x hx⟩
  · rintro ⟨hx, hn⟩
    rw [List.eraseIdx_eq_take_drop_succ]
    rw [hdec] at hx
    rcases List.mem_append.1 hx with hx | hx
    · exact List.mem_append_left _ hx
    · rcases List.mem_cons.1 hx with hx | hx
      · exact absurd hx hn
      · exact List.mem_append_right _ hx

theorem Mid.step {ts : List Task} {ov k d : Nat} {ss fr left fo : List Int} {last : Int} (hF : Free ts ov) (h : Mid ts ov (k + 1) d ss fr left fo last) {p i : Nat} (hp : p < k + 1) (hi : left.getD p 0 = (i : Int)) (hlt : i < ts.length) (hb : d.testBit i = false) :
    Mid ts ov k (d ||| 2 ^ i) (ss.set i (strt ts ss fr i)) (fr.set (ts.getD i default).machine.toNat (strt ts ss fr i + (ts.getD i default).length)) (left.eraseIdx p)
      (fo.set (ts.getD i default).machine.toNat (mx (fo.getD (ts.getD i default).machine.toNat 0) (ts.getD i default).release + (ts.getD i default).length))
      (mx last (mx (fo.getD (ts.getD i default).machine.toNat 0) (ts.getD i default).release + (ts.getD i default).length)) := by
  have hk := h.k
  obtain ⟨m0, m1⟩ := hF.mac i hlt
  have hst : strt ts ss fr i = mx (fo.getD (ts.getD i default).machine.toNat 0) (ts.getD i default).release := by
    rw [strt_free hF hlt, mx_comm, h.same _ m1]
  rw [← hst]
  have hne : ∀ j, d.testBit j = true → i ≠ j := fun j hj e => by rw [e, hj] at hb; cases hb
  have hfour := hF.four
  have hfr := h.lfr
  have hfo := h.lfo
  have hss := h.lss
  refine ⟨?_, Nat.or_lt_two_pow h.dlt (Nat.pow_lt_pow_right (by decide) hlt), fun x => ?_, h.nd.sublist (List.eraseIdx_sublist _ _), by simpa using hss, by simpa using hfr, by simpa using hfo, fun m hm => ?_, fun U => ?_⟩
  · rw [List.length_eraseIdx, if_pos (by omega)]; omega
  · rw [mem_eraseIdx_nd h.nd (by omega), h.mem, hi]
    constructor
    · rintro ⟨⟨j, rfl, hj, hj2⟩, hn⟩
      refine ⟨j, rfl, hj, ?_⟩
      cases hq : (d ||| 2 ^ i).testBit j with
      | false => rfl
      | true =>
        rcases orb_iff.1 hq with hq | rfl
        · rw [hq] at hj2; cases hj2
        · exact absurd rfl hn
    · rintro ⟨j, rfl, hj, hj2⟩
      have h1 : d.testBit j = false := by
        cases hq : d.testBit j with
        | false => rfl
        | true => rw [orb_iff.2 (.inl hq)] at hj2; cases hj2
      refine ⟨⟨j, rfl, hj, h1⟩, fun e => ?_⟩
      have e : j = i := by omega
      subst e
      rw [orb_iff.2 (.inr rfl)] at hj2
      cases hj2
  · rw [getD_set, getD_set, hfr, hfo]
    by_cases e : (ts.getD i default).machine.toNat = m
    · rw [if_pos ⟨e, hm⟩, if_pos ⟨e, by omega⟩]
    · rw [if_neg (fun q => e q.1), if_neg (fun q => e q.1)]
      exact h.same m hm
  · rw [mx_le, h.last U]
    have e0 : endAt ts (ss.set i (strt ts ss fr i)) i = strt ts ss fr i + (ts.getD i default).length := by
      unfold endAt
      rw [getD_set_eq _ (by omega)]
    constructor
    · rintro ⟨⟨h1, h2⟩, h3⟩
      refine ⟨h1, fun j hj hjb => ?_⟩
      by_cases e : i = j
      · subst e; rw [e0]; exact h3
      · rw [endAt_set _ e]
        rcases orb_iff.1 hjb with hjb | hjb
        · exact h2 j hj hjb
        · exact absurd hjb e
    · rintro ⟨h1, h2⟩
      refine ⟨⟨h1, fun j hj hjb => ?_⟩, ?_⟩
      · have := h2 j hj (orb_iff.2 (.inl hjb))
        rwa [endAt_set _ (hne j hjb)] at this
      · have := h2 i hlt (orb_iff.2 (.inr rfl))
        rwa [e0] at this

theorem Mid.pick {ts : List Task} {ov k d : Nat} {ss fr left fo : List Int} {last : Int} (h : Mid ts ov (k + 1) d ss fr left fo last) {p : Nat} (hp : p < k + 1) : ∃ i : Nat, left.getD p 0 = (i : Int) ∧ i < ts.length ∧ d.testBit i = false := by
  have hk := h.k
  have hm : left.getD p 0 ∈ left := getD_mem (by omega)
  obtain ⟨j, e, hj, hb⟩ := (h.mem _).1 hm
  exact ⟨j, e, hj, hb⟩

theorem ord_leaf {ts : List Task} {ov : Nat} (hF : Free ts ov) : ∀ (k f d : Nat) (ss fr left fo : List Int) (last : Int) (rest : Nat), k < f → Mid ts ov k d ss fr left fo last → ∃ b, Leaf ts f d ss fr b ∧ lastV ts b = ordR ts k rest left fo last
  | _, 0, _, _, _, _, _, _, _, hf, _ => by omega
  | 0, f + 1, d, ss, fr, left, fo, last, rest, _, h => by
    obtain ⟨h1, h2⟩ := h.done hF
    exact ⟨ss, .inl ⟨h1, rfl⟩, h2⟩
  | k + 1, f + 1, d, ss, fr, left, fo, last, rest, hf, h => by
    have hp : rest % (k + 1) < k + 1 := Nat.mod_lt _ (Nat.succ_pos k)
    obtain ⟨i, e, hi, hb⟩ := h.pick hp
    obtain ⟨b, h1, h2⟩ := ord_leaf hF k f _ _ _ _ _ _ (rest / (k + 1)) (by omega) (h.step hF hp e hi hb)
    refine ⟨b, .inr ⟨h.more, i, hi, ready_free hF hi hb, h1⟩, ?_⟩
    rw [h2, ordR, e, Int.toNat_natCast]

theorem leaf_ord {ts : List Task} {ov : Nat} (hF : Free ts ov) : ∀ (f k d : Nat) (ss fr left fo : List Int) (last : Int) (b : List Int), Mid ts ov k d ss fr left fo last → Leaf ts f d ss fr b → ∃ rest, rest < fct k ∧ lastV ts b = ordR ts k rest left fo last
  | 0, _, _, _, _, _, _, _, _, _, h => h.elim
  | f + 1, 0, d, ss, fr, left, fo, last, b, h, hL => by
    obtain ⟨h1, h2⟩ := h.done hF
    rcases hL with ⟨_, rfl⟩ | ⟨hn, _⟩
    · exact ⟨0, by decide, h2⟩
    · exact absurd h1 hn
  | f + 1, k + 1, d, ss, fr, left, fo, last, b, h, hL => by
    rcases hL with ⟨hd, _⟩ | ⟨_, i, hi, hr, hL⟩
    · exact absurd hd h.more
    · have hb := ready_self hr
      have hm := (h.mem (i : Int)).2 ⟨i, rfl, hi, hb⟩
      obtain ⟨p, hp, he⟩ := List.getElem_of_mem hm
      have e : left.getD p 0 = (i : Int) := by simp [List.getD, hp, he]
      rw [h.k] at hp
      obtain ⟨r, h1, h2⟩ := leaf_ord hF f k _ _ _ _ _ _ b (h.step hF hp e hi hb) hL
      have e1 : (r * (k + 1) + p) % (k + 1) = p := by rw [Nat.mul_comm, Nat.mul_add_mod, Nat.mod_eq_of_lt hp]
      have e2 : (r * (k + 1) + p) / (k + 1) = r := by
        rw [Nat.mul_comm, Nat.mul_add_div (Nat.succ_pos k), Nat.div_eq_of_lt hp, Nat.add_zero]
      refine ⟨r * (k + 1) + p, ?_, ?_⟩
      · have : (r + 1) * (k + 1) ≤ fct k * (k + 1) := Nat.mul_le_mul_right _ h1
        rw [fct]
        rw [Nat.add_mul] at this
        omega
      · rw [h2, ordR, e1, e2, e, Int.toNat_natCast]

theorem mid_zero {ts : List Task} {ov : Nat} (h4 : ov ≤ 4) : Mid ts ov ts.length 0 (List.replicate ts.length 0) [0, 0, 0, 0] (idxs ts.length) (List.replicate ov 0) 0 := by
  refine ⟨idxs_len _, Nat.two_pow_pos _, fun x => ?_, ?_, by simp, rfl, by simp, fun m hm => ?_, fun U => ?_⟩
  · rw [idxs_mem]
    constructor
    · rintro ⟨i, h, rfl⟩; exact ⟨i, rfl, h, Nat.zero_testBit i⟩
    · rintro ⟨i, rfl, h, _⟩; exact ⟨i, h, rfl⟩
  · unfold idxs
    refine List.Pairwise.map _ (fun a b hab e => hab ?_) List.nodup_range
    exact Int.ofNat.inj e
  · rw [getD_rep]
    match m, (show m < 4 by omega) with
    | 0, _ => rfl
    | 1, _ => rfl
    | 2, _ => rfl
    | 3, _ => rfl
  · exact ⟨fun h => ⟨h, fun j _ hb => by simp at hb⟩, fun h => h.1⟩

/-- No order ends earlier than the best schedule, and some order ends with it. -/
theorem ord_best {ts : List Task} {ov : Nat} (hF : Free ts ov) (hl : LenOk ts) (hm : MachOk ts) (hp : PosOk ts) : (∀ r, (bestV ts).last ≤ ordEnd ts ov r) ∧ ∃ r, r < fct ts.length ∧ ordEnd ts ov r = (bestV ts).last := by
  obtain ⟨b, _, _, h3, _, _, h6, h7⟩ := best_min hF.ha hl hm hp
  have h0 := mid_zero (ts := ts) hF.four
  refine ⟨fun r => ?_, ?_⟩
  · have hn := hF.ha.1.1
    obtain ⟨q, h1, h2⟩ := ord_leaf hF _ 8 _ _ _ _ _ _ r (by omega) h0
    unfold ordEnd
    rw [← h2]
    exact h7 q h1
  · obtain ⟨r, h1, h2⟩ := leaf_ord hF 8 _ _ _ _ _ _ _ b h0 h6
    exact ⟨r, h1, by unfold ordEnd; rw [← h2, h3]⟩

end Go.Proofs.YtbojmcopagbheaaGreatDoor
end

section
namespace Go.Proofs.YtbojmcopagbheaaGreatDoor
open Go.RowKit

def Asc (l : List Int) : Prop := l.Pairwise (· < ·)
def InR (n : Nat) (l : List Int) : Prop := ∀ x ∈ l, 0 ≤ x ∧ x < (n : Int)

theorem asc_getD {l : List Int} : Asc l ↔ ∀ i, 0 < i → i < l.length → l.getD (i - 1) 0 < l.getD i 0 := by
  constructor
  · intro h i h0 hi
    have := List.pairwise_iff_getElem.1 h (i - 1) i (by omega) hi (by omega)
    simpa [List.getD, hi, show i - 1 < l.length by omega] using this
  · intro h
    have key : ∀ d i, i + d < l.length → 0 < d → l.getD i 0 < l.getD (i + d) 0 := by
      intro d
      induction d with
      | zero => intro i _ h0; omega
      | succ d ih =>
        intro i hi _
        have h1 := h (i + d + 1) (by omega) (by omega)
        rw [show i + d + 1 - 1 = i + d by omega] at h1
        rw [show i + (d + 1) = i + d + 1 by omega]
        by_cases hd : d = 0
        · subst hd; simpa using h1
        · have := ih i (by omega) (by omega); omega
    refine List.pairwise_iff_getElem.2 fun i j hi hj hij => ?_
    have := key (j - i) i (by omega) (by omega)
    rw [show i + (j - i) = j by omega] at this
    simpa [List.getD, hi, hj] using this

/-! Errors of tasks. -/
theorem taskOne_zero {ts : List Task} {l : List Int} {i : Nat} : taskOne ts l i = 0 ↔ (0 ≤ l.getD i 0 ∧ l.getD i 0 < (ts.length : Int)) ∧ (0 < i → l.getD (i - 1) 0 < l.getD i 0) ∧ (ts.getD (l.getD i 0).toNat default).machine = (ts.getD (l.getD 0 0).toNat default).machine := by
  unfold taskOne
  cases hw : withinB (l.getD i 0) 0 ((ts.length : Int) - 1) with
  | false =>
    rw [if_pos rfl]
    constructor
    · intro h; cases h
    · rintro ⟨h, _⟩
      have : withinB (l.getD i 0) 0 ((ts.length : Int) - 1) = true := by
        unfold withinB
        rw [decide_eq_true h.1, decide_eq_true (by omega)]
        rfl
      rw [hw] at this
      cases this
  | true =>
    have hw2 : 0 ≤ l.getD i 0 ∧ l.getD i 0 ≤ (ts.length : Int) - 1 := by
      unfold withinB at hw
      rw [Bool.and_eq_true, decide_eq_true_eq, decide_eq_true_eq] at hw
      exact hw
    rw [if_neg (by simp)]
    constructor
    · intro h
      obtain ⟨h1, h2⟩ := firstV_zero.1 h
      obtain ⟨h3, _⟩ := firstV_zero.1 h2
      have h4 := (unless_ne (by decide)).1 h1
      have h5 := (unless_ne (by decide)).1 h3
      rw [Bool.or_eq_true, decide_eq_true_eq, decide_eq_true_eq] at h4
      rw [decide_eq_true_eq] at h5
      exact ⟨by omega, fun h0 => by rcases h4 with h4 | h4; · omega
                                    · exact h4, h5⟩
    · rintro ⟨_, h2, h3⟩
      refine firstV_zero.2 ⟨(unless_ne (by decide)).2 ?_, firstV_zero.2 ⟨(unless_ne (by decide)).2 (decide_eq_true h3), rfl⟩⟩
      rw [Bool.or_eq_true, decide_eq_true_eq, decide_eq_true_eq]
      by_cases h0 : i = 0
      · exact .inl h0
      · exact .inr (h2 (by omega))
theorem tasksE_zero {ts : List Task} {l : List Int} : tasksE ts l = 0 ↔ l ≠ [] ∧ Asc l ∧ InR ts.length l ∧ ∀ x ∈ l, (ts.getD x.toNat default).machine = (ts.getD (l.getD 0 0).toNat default).machine := by
  unfold tasksE
  by_cases h0 : l.length = 0
  · rw [if_pos h0]
    constructor
    · intro h; cases h
    · rintro ⟨h, _⟩; exact absurd (List.eq_nil_of_length_eq_zero h0) h
  · rw [if_neg h0]
    have hmem : ∀ {x : Int}, x ∈ l → ∃ i, i < l.length ∧ l.getD i 0 = x := fun {x} hx => by
      obtain ⟨i, hi, rfl⟩ := List.getElem_of_mem hx
      exact ⟨i, hi, by simp [List.getD, hi]⟩
    constructor
    · intro h
      have h1 := fun i hi => taskOne_zero.1 (scan_zero h i hi)
      refine ⟨fun e => h0 (by rw [e]; rfl), asc_getD.2 fun i h2 h3 => (h1 i h3).2.1 h2, fun x hx => ?_, fun x hx => ?_⟩
      · obtain ⟨i, hi, rfl⟩ := hmem hx
        exact (h1 i hi).1
      · obtain ⟨i, hi, rfl⟩ := hmem hx
        exact (h1 i hi).2.2
    · rintro ⟨_, h2, h3, h4⟩
      rw [scan_all _ 0 rfl fun i _ hi => taskOne_zero.2 ⟨h3 _ (getD_mem hi), fun h => asc_getD.1 h2 i h hi, h4 _ (getD_mem hi)⟩]
def sumL (ts : List Task) : List Int → Int
  | [] => 0
  | x :: l => (ts.getD x.toNat default).length + sumL ts l
def minL (f : Int → Int) : List Int → Int → Int
  | [], a => a
  | x :: l, a => minL f l (min a (f x))
theorem minL_le {f : Int → Int} : ∀ (l : List Int) (a : Int), minL f l a ≤ a ∧ ∀ x ∈ l, minL f l a ≤ f x
  | [], a => ⟨Int.le_refl _, fun x hx => by cases hx⟩
  | y :: l, a => by
    obtain ⟨h1, h2⟩ := minL_le (f := f) l (min a (f y))
    rw [minL]
    refine ⟨by omega, fun x hx => ?_⟩
    rcases List.mem_cons.1 hx with rfl | hx
    · omega
    · exact h2 x hx
theorem busyR_eq {ts : List Task} {hs tl : List Int} : ∀ (l : List Int) (h t s : Int), busyR ts hs tl l h t s = minL (fun x => hs.getD x.toNat 0) l h + (s + sumL ts l) + minL (fun x => tl.getD x.toNat 0) l t
  | [], h, t, s => by simp [busyR, minL, sumL]
  | x :: l, h, t, s => by
    rw [busyR, busyR_eq l, minL, minL, sumL]
    omega
theorem sumL_filter {ts : List Task} {k : Int} : ∀ l : List Int, Asc l → k ∈ l → sumL ts l = (ts.getD k.toNat default).length + sumL ts (l.filter fun x => decide (x ≠ k))
  | [], _, h => by cases h
  | x :: l, ha, h => by
    have ha' := List.pairwise_cons.1 ha
    rcases List.mem_cons.1 h with rfl | h
    · have : (k :: l).filter (fun x => decide (x ≠ k)) = l := by
        rw [List.filter_cons, if_neg (by simp), List.filter_eq_self]
        intro y hy
        have := ha'.1 y hy
        simp
        omega
      rw [this, sumL]
    · have hne : x ≠ k := fun e => by have := ha'.1 k h; omega
      rw [List.filter_cons, if_pos (by simpa using hne), sumL, sumL, sumL_filter l ha'.2 h]
      omega
theorem arg_max {g : Int → Int} : ∀ l : List Int, l ≠ [] → ∃ k ∈ l, ∀ x ∈ l, g x ≤ g k
  | [], h => absurd rfl h
  | x :: l, _ => by
    by_cases hl : l = []
    · subst hl
      exact ⟨x, by simp, fun y hy => by simp at hy; subst hy; exact Int.le_refl _⟩
    · obtain ⟨k, hk, hmax⟩ := arg_max (g := g) l hl
      by_cases h : g x ≤ g k
      · exact ⟨k, by simp [hk], fun y hy => by
          rcases List.mem_cons.1 hy with rfl | hy
          · exact h
          · exact hmax y hy⟩
      · exact ⟨x, by simp, fun y hy => by
          rcases List.mem_cons.1 hy with rfl | hy
          · exact Int.le_refl _
          · have := hmax y hy; omega⟩

/-- Tasks of one machine cannot all end before the sum of their lengths has passed. -/
theorem pack {ts : List Task} (hp : PosOk ts) {s : List Int} (hf : Feas ts s) {h mq : Int} : ∀ (n : Nat) (l : List Int), l.length = n → l ≠ [] → Asc l → InR ts.length l → (∀ x ∈ l, (ts.getD x.toNat default).machine = mq) → (∀ x ∈ l, h ≤ s.getD x.toNat 0) → ∃ j ∈ l, h + sumL ts l ≤ endAt ts s j.toNat
  | 0, l, hn, hne, _, _, _, _ => absurd (List.eq_nil_of_length_eq_zero hn) hne
  | n + 1, l, hn, hne, ha, hr, hm, hh => by
    obtain ⟨k, hk, hmax⟩ := arg_max (g := fun x => s.getD x.toNat 0) l hne
    refine ⟨k, hk, ?_⟩
    have hsum := sumL_filter (ts := ts) l ha hk
    have hsub : ∀ x ∈ l.filter (fun x => decide (x ≠ k)), x ∈ l ∧ x ≠ k := fun x hx => by simpa using List.mem_filter.1 hx
    by_cases he : l.filter (fun x => decide (x ≠ k)) = []
    · rw [he] at hsum
      have := hh k hk
      rw [hsum]
      unfold endAt
      simp only [sumL]
      omega
    · have hlen : (l.filter fun x => decide (x ≠ k)).length < l.length := by
        rcases Nat.lt_or_ge (l.filter fun x => decide (x ≠ k)).length l.length with h | h
        · exact h
        · have h1 := List.length_filter_eq_length_iff.1 (Nat.le_antisymm (List.length_filter_le _ _) h) k hk
          simp at h1
      have hrec : ∀ n' (l' : List Int), n' ≤ n → l'.length = n' → l' ≠ [] → Asc l' → InR ts.length l' → (∀ x ∈ l', (ts.getD x.toNat default).machine = mq) → (∀ x ∈ l', h ≤ s.getD x.toNat 0) → ∃ j ∈ l', h + sumL ts l' ≤ endAt ts s j.toNat := fun n' l' hn' => pack hp hf n' l'
      obtain ⟨j, hj, hle⟩ := hrec _ _ (by omega) rfl he (List.Pairwise.filter _ ha) (fun x hx => hr x (hsub x hx).1) (fun x hx => hm x (hsub x hx).1) (fun x hx => hh x (hsub x hx).1)
      obtain ⟨hj1, hj2⟩ := hsub j hj
      have hjr := hr j hj1
      have hkr := hr k hk
      have hjk := hmax j hj1
      have hmm : (ts.getD j.toNat default).machine = (ts.getD k.toNat default).machine := by rw [hm j hj1, hm k hk]
      have hd : endAt ts s j.toNat ≤ s.getD k.toNat 0 ∨ endAt ts s k.toNat ≤ s.getD j.toNat 0 := by
        rcases Nat.lt_or_ge j.toNat k.toNat with hlt | hge
        · exact hf.mac k.toNat j.toNat (by omega) hlt hmm
        · exact (hf.mac j.toNat k.toNat (by omega) (by omega) hmm.symm).symm
      have hpk := hp k.toNat (by omega)
      rw [hsum]
      unfold endAt at hd hle ⊢
      omega

theorem busy_le {ts : List Task} (ha : AcyOk ts) (hl : LenOk ts) (hp : PosOk ts) {l : List Int} (hE : tasksE ts l = 0) {s : List Int} (hf : Feas ts s) : busyV ts l ≤ lastV ts s := by
  obtain ⟨h1, h2, h3, h4⟩ := tasksE_zero.1 hE
  unfold busyV
  rw [busyR_eq]
  obtain ⟨_, m2⟩ := minL_le (f := fun x => (headsV ts).getD x.toNat 0) l ((headsV ts).getD (l.getD 0 0).toNat 0)
  obtain ⟨_, m4⟩ := minL_le (f := fun x => (tailsV ts).getD x.toNat 0) l ((tailsV ts).getD (l.getD 0 0).toNat 0)
  generalize minL (fun x => (headsV ts).getD x.toNat 0) l ((headsV ts).getD (l.getD 0 0).toNat 0) = h at *
  generalize minL (fun x => (tailsV ts).getD x.toNat 0) l ((tailsV ts).getD (l.getD 0 0).toNat 0) = t at *
  obtain ⟨j, hj, hle⟩ := pack hp hf (h := h) l.length l rfl h1 h2 h3 h4 fun x hx => by
    have := m2 x hx
    have hxr := h3 x hx
    have := feas_heads ha hl hp hf (j := x.toNat) (by omega)
    omega
  have hjr := h3 j hj
  have h5 := feas_tails ha hp hf (j := j.toNat) (by omega)
  have h6 := m4 j hj
  omega

theorem dried_mono {fl w w' r : Int} (h : w ≤ w') (h5 : 0 ≤ r) (h6 : r ≤ 1000) : driedV fl w r ≤ driedV fl w' r := by
  unfold driedV
  obtain ⟨m, hm⟩ : ∃ m, m = max 0 (w - fl) := ⟨_, rfl⟩
  obtain ⟨m', hm'⟩ : ∃ m', m' = max 0 (w' - fl) := ⟨_, rfl⟩
  rw [← hm, ← hm']
  have h1 : m ≤ m' := by omega
  have h2 : m' - m ≤ w' - w := by omega
  have h3 : m * r ≤ m' * r := Int.mul_le_mul_of_nonneg_right h1 h5
  have h4 : (m' - m) * r ≤ (m' - m) * 1000 := Int.mul_le_mul_of_nonneg_left h6 (by omega)
  rw [Int.sub_mul] at h4
  generalize m * r = x at *
  generalize m' * r = y at *
  omega
theorem dried_anti {fl w r r' : Int} (h : r ≤ r') : driedV fl w r' ≤ driedV fl w r := by
  unfold driedV
  have h3 : max 0 (w - fl) * r ≤ max 0 (w - fl) * r' := Int.mul_le_mul_of_nonneg_left h (by omega)
  generalize max 0 (w - fl) * r = x at *
  generalize max 0 (w - fl) * r' = y at *
  omega

theorem stepsF_some {g : Nat → Int} {t : Int} : ∀ (m k n : Nat), stepsF g t m k = some n → k ≤ n ∧ n < k + m ∧ g n ≤ t ∧ ∀ j, k ≤ j → j < n → t < g j
  | 0, k, n, h => by cases h
  | m + 1, k, n, h => by
    unfold stepsF at h
    by_cases hk : g k ≤ t
    · rw [if_pos hk] at h
      injection h with h
      subst h
      exact ⟨Nat.le_refl _, by omega, hk, fun j h1 h2 => by omega⟩
    · rw [if_neg hk] at h
      obtain ⟨h1, h2, h3, h4⟩ := stepsF_some m (k + 1) n h
      refine ⟨by omega, by omega, h3, fun j h5 h6 => ?_⟩
      by_cases hj : j = k
      · subst hj; omega
      · exact h4 j (by omega) h6

/-! The plan of loads. -/
section
variable {ov : Int} {xs : List Load} {n : Nat}
theorem dried_free (h : DriedOk ov xs n) : Free (loadTs ov xs n) ov.toNat := by
  obtain ⟨ha, _⟩ := open_ok (dried_open h)
  have hl := loadTs_len ov xs n
  obtain ⟨h1, h5, v1, v2, hs⟩ := h
  refine ⟨ha, fun i hi => ?_, fun i hi => ?_, by omega⟩
  · rw [hl] at hi
    rw [loadTs_get ov xs hi]
    rfl
  · rw [hl] at hi
    rw [loadTs_get ov xs hi]
    obtain ⟨m1, m2⟩ := tmod_bd v1 i
    refine ⟨m1, ?_⟩
    show ((i : Int).tmod ov).toNat < _
    omega
theorem dried_pos (h : DriedOk ov xs n) : PosOk (loadTs ov xs n) := by
  obtain ⟨_, _, _, _, _, hp⟩ := open_ok (dried_open h)
  exact fun i hi => (hp i hi).2
theorem dried_ord (h : DriedOk ov xs n) : (∀ r, (bestV (loadTs ov xs n)).last ≤ ordEnd (loadTs ov xs n) ov.toNat r) ∧ ∃ r, r < fct n ∧ ordEnd (loadTs ov xs n) ov.toNat r = (bestV (loadTs ov xs n)).last := by
  obtain ⟨ha, hl, hm, _⟩ := open_ok (dried_open h)
  have q := ord_best (dried_free h) hl hm (dried_pos h)
  rw [loadTs_len] at q
  exact q
/-- The best schedule is possible, and its end is the one said. -/
theorem dried_best (h : DriedOk ov xs n) : ∃ b, (bestV (loadTs ov xs n)).best = some b ∧ b.length = n ∧ schedV (loadTs ov xs n) b = (0, 0) ∧ lastV (loadTs ov xs n) b = (bestV (loadTs ov xs n)).last ∧ StartsOk (loadTs ov xs n) b := by
  obtain ⟨ha, hl, hm, _⟩ := open_ok (dried_open h)
  obtain ⟨b, h1, h2, h3, h4, _⟩ := best_min ha hl hm (dried_pos h)
  have hs := sched_of_feas h2 fun j _ => by have := h4 j; omega
  refine ⟨b, h1, by rw [h2.len, loadTs_len], hs, h3, starts_ok (by rw [hs])⟩
theorem dried_end (h : DriedOk ov xs n) : 0 ≤ (bestV (loadTs ov xs n)).last ∧ (bestV (loadTs ov xs n)).last ≤ 1000000 := by
  obtain ⟨b, h1, h2, _, h3, h4⟩ := dried_best h
  obtain ⟨ha, hl, hm, _⟩ := open_ok (dried_open h)
  rw [← h3]
  refine ⟨lastV_nn, lastV_le.2 ⟨by omega, fun j hj => ?_⟩⟩
  have q := h4.2 j hj
  have q2 := hl j (by rw [loadTs_len]; omega)
  unfold endAt
  omega
end

/-- The tasks of one machine, among the first k. -/
def ownTs (ts : List Task) (m : Int) (k : Nat) : List Int := ((List.range k).filter fun i => decide ((ts.getD i default).machine = m)).map Int.ofNat
theorem ownTs_succ (ts : List Task) (m : Int) (k : Nat) : ownTs ts m (k + 1) = if (ts.getD k default).machine = m then ownTs ts m k ++ [(k : Int)] else ownTs ts m k := by
  unfold ownTs
  rw [List.range_succ, List.filter_append]
  by_cases h : (ts.getD k default).machine = m
  · rw [if_pos h, List.filter_cons_of_pos (by simpa using h), List.map_append]
    rfl
  · rw [if_neg h, List.filter_cons_of_neg (by simpa using h), List.filter_nil, List.append_nil]
theorem ownTs_len (ts : List Task) (m : Int) (k : Nat) : (ownTs ts m k).length ≤ k := by
  unfold ownTs
  rw [List.length_map]
  exact Nat.le_trans (List.length_filter_le _ _) (by simp)
theorem own_tasks {ts : List Task} {m : Int} (hne : ownTs ts m ts.length ≠ []) : tasksE ts (ownTs ts m ts.length) = 0 := by
  have hmem : ∀ x ∈ ownTs ts m ts.length, ∃ i : Nat, x = (i : Int) ∧ i < ts.length ∧ (ts.getD i default).machine = m := fun x hx => by
    unfold ownTs at hx
    obtain ⟨i, h1, rfl⟩ := List.mem_map.1 hx
    obtain ⟨h2, h3⟩ := List.mem_filter.1 h1
    exact ⟨i, rfl, by simpa using h2, by simpa using h3⟩
  have hfirst : (ownTs ts m ts.length).getD 0 0 ∈ ownTs ts m ts.length := getD_mem (List.length_pos_iff.2 hne)
  refine tasksE_zero.2 ⟨hne, ?_, fun x hx => ?_, fun x hx => ?_⟩
  · unfold ownTs Asc
    refine List.Pairwise.map _ (fun a b hab => ?_) (List.Pairwise.filter _ List.pairwise_lt_range)
    exact Int.ofNat_lt.2 hab
  · obtain ⟨i, rfl, h, _⟩ := hmem x hx
    omega
  · obtain ⟨i, rfl, _, h⟩ := hmem x hx
    obtain ⟨j, e, _, h2⟩ := hmem _ hfirst
    rw [e, Int.toNat_natCast, Int.toNat_natCast, h, h2]
theorem own_busy {ov : Int} {xs : List Load} {n : Nat} (h : DriedOk ov xs n) {m : Int} (hne : ownTs (loadTs ov xs n) m n ≠ []) : tasksE (loadTs ov xs n) (ownTs (loadTs ov xs n) m n) = 0 ∧ busyV (loadTs ov xs n) (ownTs (loadTs ov xs n) m n) ≤ (bestV (loadTs ov xs n)).last := by
  have hl := loadTs_len ov xs n
  have ht : tasksE (loadTs ov xs n) (ownTs (loadTs ov xs n) m n) = 0 := by
    have q := own_tasks (ts := loadTs ov xs n) (m := m)
    rw [hl] at q
    exact q hne
  refine ⟨ht, ?_⟩
  obtain ⟨ha, hlk, hm, _⟩ := open_ok (dried_open h)
  obtain ⟨b, _, h2, h3, _⟩ := best_min ha hlk hm (dried_pos h)
  rw [← h3]
  exact busy_le ha hlk (dried_pos h) ht h2

/-! Water. -/
theorem dry_bd {rlo fl whi w r : Int} {k : Nat} (f0 : 0 ≤ fl) (r0 : 0 ≤ rlo) (r1 : rlo ≤ r) (r2 : r ≤ 1000) (w0 : 0 ≤ w) (w1 : w ≤ hiN rlo fl whi k) (w2 : w ≤ 1000000) (hlt : fl < w) :
    (0 ≤ (w - fl) * r ∧ (w - fl) * r ≤ 1000000000) ∧ 0 ≤ ((w - fl) * r).tdiv 1000 ∧ ((w - fl) * r).tdiv 1000 ≤ 1000000 ∧ 0 ≤ w - ((w - fl) * r).tdiv 1000 ∧ w - ((w - fl) * r).tdiv 1000 ≤ 1000000 ∧ w - ((w - fl) * r).tdiv 1000 ≤ hiN rlo fl whi (k + 1) := by
  have h1 : driedV fl w r = w - ((w - fl) * r).tdiv 1000 := by
    unfold driedV
    rw [Int.max_eq_right (by omega), Int.tdiv_eq_ediv_of_nonneg (Int.mul_nonneg (by omega) (by omega))]
  have h2 := driedV_bd (fl := fl) (rate := r) w0 w2 f0 (by omega) r2
  have h3 : driedV fl w r ≤ driedV fl w rlo := dried_anti r1
  have h4 : driedV fl w rlo ≤ hiN rlo fl whi (k + 1) := dried_mono w1 r0 (by omega)
  have h5 : 0 ≤ (w - fl) * r := Int.mul_nonneg (by omega) (by omega)
  have h6 : (w - fl) * r ≤ 1000000 * 1000 := Int.mul_le_mul (by omega) r2 (by omega) (by omega)
  rw [h1] at h2 h3
  generalize ((w - fl) * r) = z at *
  omega
theorem dry_stay {rlo fl whi w : Int} {k : Nat} (r0 : 0 ≤ rlo) (r2 : rlo ≤ 1000) (w1 : w ≤ hiN rlo fl whi k) (hle : w ≤ fl) : w ≤ hiN rlo fl whi (k + 1) := by
  have h1 : driedV fl w rlo = w := by
    unfold driedV
    rw [Int.max_eq_left (by omega), Int.zero_mul]
    simp
  rw [← h1]
  exact dried_mono w1 r0 r2
theorem steps_low {x : Load} {k : Nat} (h : stepsO x.rlo x.fl x.whi x.tgt = some k) : hiN x.rlo x.fl x.whi k ≤ x.tgt := (stepsF_some _ _ _ h).2.2.1

end Go.Proofs.YtbojmcopagbheaaGreatDoor
end

section
namespace Go.Proofs.YtbojmcopagbheaaGreatDoor
open Go.RowKit

/-- A load at an address: eight cells; its numbers below block B. -/
def LoadAt (B : Nat) (w : World) (b off : Nat) (x : Load) : Prop :=
  w.cell? ⟨b, off, none⟩ = some (.int .i64 x.rlo) ∧ w.cell? ⟨b, off + 1, none⟩ = some (.int .i64 x.rhi) ∧ w.cell? ⟨b, off + 2, none⟩ = some (.int .i64 x.fl) ∧ w.cell? ⟨b, off + 3, none⟩ = some (.int .i64 x.wlo) ∧
  w.cell? ⟨b, off + 4, none⟩ = some (.int .i64 x.whi) ∧ w.cell? ⟨b, off + 5, none⟩ = some (.int .i64 x.tgt) ∧ w.cell? ⟨b, off + 6, none⟩ = some (.int .i64 x.num) ∧
  ∃ A c, w.cell? ⟨b, off + 7, none⟩ = some (.slice A x.rates.length c) ∧ IntsIn B w A x.rates ∧ x.rates.length ≤ maxLen
/-- A slice of loads. -/
def LoadsIn (B : Nat) (w : World) (A : Option Addr) (xs : List Load) : Prop :=
  xs = [] ∨ ∃ b off, A = some ⟨b, off, none⟩ ∧ b < B ∧ ∀ i, i < xs.length → LoadAt B w b (off + i * 8) (xs.getD i default)
theorem LoadAt.keep {B : Nat} {w w' : World} {b off : Nat} {x : Load} (h : LoadAt B w b off x) (hb : b < B) (hk : ∀ b o, b < B → w'.cell? ⟨b, o, none⟩ = w.cell? ⟨b, o, none⟩) : LoadAt B w' b off x := by
  obtain ⟨h0, h1, h2, h3, h4, h5, h6, A, c, h7, h8, h9⟩ := h
  exact ⟨(hk _ _ hb).trans h0, (hk _ _ hb).trans h1, (hk _ _ hb).trans h2, (hk _ _ hb).trans h3, (hk _ _ hb).trans h4, (hk _ _ hb).trans h5, (hk _ _ hb).trans h6, A, c, (hk _ _ hb).trans h7, h8.keep hk, h9⟩
theorem LoadsIn.below {B : Nat} {w w' : World} {A : Option Addr} {xs : List Load} (h : LoadsIn B w A xs) (hb : Below B w w') : LoadsIn B w' A xs := by
  rcases h with h | ⟨b, off, hA, hlt, hc⟩
  · exact .inl h
  · exact .inr ⟨b, off, hA, hlt, fun i hi => (hc i hi).keep hlt (bcell hb).1⟩
theorem LoadsIn.at_ {B : Nat} {w : World} {A : Option Addr} {xs : List Load} {i : Nat} (h : LoadsIn B w A xs) (hi : i < xs.length) : ∃ b off, A = some ⟨b, off, none⟩ ∧ b < B ∧ ∀ i, i < xs.length → LoadAt B w b (off + i * 8) (xs.getD i default) := by
  rcases h with h | h
  · rw [h] at hi; simp at hi
  · exact h

end Go.Proofs.YtbojmcopagbheaaGreatDoor
end
