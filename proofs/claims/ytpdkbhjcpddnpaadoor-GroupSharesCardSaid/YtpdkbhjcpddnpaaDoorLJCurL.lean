/- Plain facts on currents as fractions: what the currents of sources are, and which ones are accepted. No program is in sight. -/
import Derived.Test.YtpdkbhjcpddnpaaDoorLASrcP
namespace Go.Proofs.YtpdkbhjcpddnpaaDoor
open Go.RowKit

def loN (a b : Int) : Int := a.tdiv (gcdI a b)
def loD (a b : Int) : Int := b.tdiv (gcdI a b)
theorem lo_rat (a : Int) {b : Int} (hb : 0 < b) : loN a b = (Rat.divInt a b).num ∧ loD a b = ((Rat.divInt a b).den : Int) := by
  unfold loN loD gcdI
  rw [Rat.num_divInt, Rat.den_divInt, if_neg (by omega), Int.sign_eq_one_of_pos hb, Int.gcd_comm b a, Int.one_mul]
  constructor
  · exact Int.tdiv_eq_ediv_of_dvd (Int.gcd_dvd_left a b)
  · rw [Int.tdiv_eq_ediv_of_dvd (Int.gcd_dvd_right a b), Int.natCast_ediv]
    congr 1
    omega
theorem lowest_rat {n d : Int} (h : lowestB n d = true) : 0 < d ∧ n = (Rat.divInt n d).num ∧ d = ((Rat.divInt n d).den : Int) := by
  unfold lowestB at h
  simp only [Bool.and_eq_true, decide_eq_true_eq] at h
  obtain ⟨h1, h2⟩ := h
  obtain ⟨h3, h4⟩ := lo_rat n h1
  unfold loN at h3
  unfold loD at h4
  rw [h2, Int.tdiv_one] at h3 h4
  exact ⟨h1, h3, h4⟩
theorem rat_lowest (x : Rat) : lowestB x.num x.den = true := by
  unfold lowestB gcdI
  have h1 := x.den_nz
  have h2 := x.reduced
  simp only [Bool.and_eq_true, decide_eq_true_eq]
  refine ⟨by omega, ?_⟩
  have : Int.gcd x.num (x.den : Int) = Nat.gcd x.num.natAbs x.den := by unfold Int.gcd; rw [Int.natAbs_natCast]
  rw [this]
  unfold Nat.Coprime at h2
  omega
theorem rden_nz (r : Rat) : (r.den : Int) ≠ 0 := by have := r.den_nz; omega
theorem rat_self (x : Rat) : Rat.divInt x.num (x.den : Int) = x := Rat.num_divInt_den x

/-- A current: two fractions as they stand. -/
structure Cu where
  pn : Int
  pd : Int
  qn : Int
  qd : Int
instance : Inhabited Cu := ⟨⟨0, 0, 0, 0⟩⟩
def Cu64 (c : Cu) : Prop := W64 c.pn ∧ W64 c.pd ∧ W64 c.qn ∧ W64 c.qd
def frE (n d : Int) : Int := unlessV (lowestB n d) 3
def frR (n d : Int) : Int := unlessV (withinB n (-1000000000) 1000000000 && decide (d ≤ 1000000000)) 2
def FrOk (n d : Int) : Prop := lowestB n d = true ∧ (-1000000000 ≤ n ∧ n ≤ 1000000000) ∧ 0 < d ∧ d ≤ 1000000000
def CuOk (c : Cu) : Prop := FrOk c.pn c.pd ∧ FrOk c.qn c.qd
/-- The voltage of the bus by a current, as a fraction; its parts. -/
def busN (v : Int) (s : Src) (n d : Int) : Int := v * (s.d * d) - s.n * n
def busD (s : Src) (d : Int) : Int := s.d * d
def busF (v : Int) (s : Src) (n d : Int) : Rat := Rat.divInt (busN v s n d) (busD s d)
def curE (s t : Src) (c b : Cu) : Int :=
  firstV [firstV [frE c.pn c.pd, frE c.qn c.qd], firstV [frR c.pn c.pd, frR c.qn c.qd], if busF s.p s c.pn c.pd = busF t.p t b.pn b.pd then 0 else 19, if busF s.q s c.qn c.qd = busF t.q t b.qn b.qd then 0 else 19]
def scanC (E : Nat → Int) : Nat → Nat → Int × Int
  | 0, _ => (0, 0)
  | k + 1, i => if E i = 0 then scanC E k (i + 1) else (i, E i)
def curEs (ls : List Src) (cs : List Cu) (i : Nat) : Int := curE (ls.getD i default) (ls.getD 0 default) (cs.getD i default) (cs.getD 0 default)
def crossB (ls : List Src) (f : Src → Int) (load n d : Int) : Bool := decide ((busF (f (ls.getD 0 default)) (ls.getD 0 default) n d).num * sumV (allV ls) ls = (-load * allV ls + dropV (allV ls) f ls) * ((busF (f (ls.getD 0 default)) (ls.getD 0 default) n d).den : Int))
def openB (ls : List Src) (p q : Int) (c : Cu) : Bool := crossB ls Src.p p c.pn c.pd && crossB ls Src.q q c.qn c.qd
/-- The index and the error of currents, for valid sources. -/
def checkC (ls : List Src) (p q : Int) (cs : List Cu) : Int × Int :=
  if (scanC (curEs ls cs) cs.length 0).2 = 0 then (if openB ls p q (cs.getD 0 default) = true then (0, 0) else (0, 21)) else scanC (curEs ls cs) cs.length 0
def checkV (ls : List Src) (p q : Int) (cs : List Cu) : Int × Int :=
  if firstV [loadE ls p q, unlessV (decide (cs.length = ls.length)) 10] = 0 then checkC ls p q cs else (0, firstV [loadE ls p q, unlessV (decide (cs.length = ls.length)) 10])

theorem scan_zero {E : Nat → Int} : ∀ {k i : Nat}, (scanC E k i).2 = 0 ↔ ∀ j, i ≤ j → j < i + k → E j = 0
  | 0, i => by simp only [scanC, true_iff]; omega
  | k + 1, i => by
    rw [scanC]
    split
    · rename_i h
      rw [scan_zero]
      constructor
      · intro q j h1 h2
        rcases Nat.eq_or_lt_of_le h1 with rfl | h3
        · exact h
        · exact q j h3 (by omega)
      · intro q j h1 h2
        exact q j (by omega) (by omega)
    · rename_i h
      constructor
      · intro q; exact absurd q h
      · intro q; exact absurd (q i (Nat.le_refl _) (by omega)) h
theorem fr_ok {n d : Int} (h1 : frE n d = 0) (h2 : frR n d = 0) : FrOk n d := by
  have g1 := (unless_ne (by decide)).1 h1
  have g2 := (unless_ne (by decide)).1 h2
  have g3 := (lowest_rat g1).1
  simp only [withinB, Bool.and_eq_true, decide_eq_true_eq] at g2
  exact ⟨g1, g2.1, g3, g2.2⟩
theorem ok_fr {n d : Int} (h : FrOk n d) : frE n d = 0 ∧ frR n d = 0 := by
  obtain ⟨h1, h2, h3, h4⟩ := h
  refine ⟨(unless_ne (by decide)).2 h1, (unless_ne (by decide)).2 ?_⟩
  simp only [withinB, Bool.and_eq_true, decide_eq_true_eq]
  exact ⟨h2, h4⟩
theorem busF_uR {f : Src → Int} {s : Src} {n d : Int} (hs : s.d ≠ 0) (hd : d ≠ 0) : busF (f s) s n d = uR f s (Rat.divInt n d) := by
  have h1 := cast_ne hs
  have h2 := cast_ne hd
  unfold busF busN busD uR
  rw [Rat.divInt_eq_div, Rat.divInt_eq_div, Rat.intCast_sub, Rat.intCast_mul, Rat.intCast_mul, Rat.intCast_mul]
  grind
theorem curE_ok {s t : Src} {c b : Cu} (h : curE s t c b = 0) : CuOk c ∧ busF s.p s c.pn c.pd = busF t.p t b.pn b.pd ∧ busF s.q s c.qn c.qd = busF t.q t b.qn b.qd := by
  unfold curE at h
  obtain ⟨h1, h2⟩ := firstV_zero.1 h
  obtain ⟨h3, h4⟩ := firstV_zero.1 h2
  obtain ⟨h5, h6⟩ := firstV_zero.1 h4
  obtain ⟨h7, _⟩ := firstV_zero.1 h6
  obtain ⟨a1, a2⟩ := firstV_zero.1 h1
  obtain ⟨a3, _⟩ := firstV_zero.1 a2
  obtain ⟨b1, b2⟩ := firstV_zero.1 h3
  obtain ⟨b3, _⟩ := firstV_zero.1 b2
  refine ⟨⟨fr_ok a1 b1, fr_ok a3 b3⟩, ?_, ?_⟩
  · split at h5
    · assumption
    · exact absurd h5 (by decide)
  · split at h7
    · assumption
    · exact absurd h7 (by decide)
theorem curE_of {s t : Src} {c b : Cu} (h : CuOk c) (h1 : busF s.p s c.pn c.pd = busF t.p t b.pn b.pd) (h2 : busF s.q s c.qn c.qd = busF t.q t b.qn b.qd) : curE s t c b = 0 := by
  obtain ⟨⟨a1, a2⟩, ⟨b1, b2⟩⟩ := And.intro (ok_fr h.1) (ok_fr h.2)
  unfold curE
  rw [a1, a2, b1, b2, if_pos h1, if_pos h2]
  rfl

/-! The currents, for both parts. -/
def curC (ls : List Src) (p q : Int) (s : Src) : Cu := ⟨(curR ls Src.p p s).num, ((curR ls Src.p p s).den : Int), (curR ls Src.q q s).num, ((curR ls Src.q q s).den : Int)⟩
def curCs (ls : List Src) (p q : Int) : List Cu := ls.map (curC ls p q)
def smallR (x : Rat) : Bool := withinB x.num (-1000000000) 1000000000 && decide ((x.den : Int) ≤ 1000000000)
def allSmall (ls : List Src) (p q : Int) : Prop := ∀ s ∈ ls, smallR (curR ls Src.p p s) = true ∧ smallR (curR ls Src.q q s) = true
theorem curN_rat {l : List Src} (h : SrcsOk l) (f : Src → Int) (load : Int) {s : Src} (hs : s ∈ l) : 0 < curD l s ∧ loN (curN l f load s) (curD l s) = (curR l f load s).num ∧ loD (curN l f load s) (curD l s) = ((curR l f load s).den : Int) := by
  have h1 := (sum_pos h).1
  have h2 := (h.2 s hs).2.2.1.1
  have h3 : 0 < curD l s := Int.mul_pos (by omega) (by omega)
  refine ⟨h3, ?_⟩
  rw [curR_eq h f load hs, ← Rat.divInt_eq_div]
  exact lo_rat _ h3
theorem cur_mem {ls : List Src} {i : Nat} (h : i < ls.length) : ls.getD i default ∈ ls := by
  rw [List.getD_eq_getElem?_getD, List.getElem?_eq_getElem h]
  exact List.getElem_mem h
theorem curCs_at {ls : List Src} {p q : Int} {i : Nat} (h : i < ls.length) : (curCs ls p q).getD i default = curC ls p q (ls.getD i default) := by
  unfold curCs
  rw [List.getD_eq_getElem?_getD, List.getD_eq_getElem?_getD, List.getElem?_map, List.getElem?_eq_getElem h]
  rfl
theorem small_ok {x : Rat} (h : smallR x = true) : FrOk x.num (x.den : Int) := by
  unfold smallR at h
  simp only [withinB, Bool.and_eq_true, decide_eq_true_eq] at h
  have := x.den_nz
  exact ⟨rat_lowest x, h.1, by omega, h.2⟩
theorem curC_ok {ls : List Src} {p q : Int} (h : allSmall ls p q) {s : Src} (hs : s ∈ ls) : CuOk (curC ls p q s) := ⟨small_ok (h s hs).1, small_ok (h s hs).2⟩
theorem cross_iff {ls : List Src} (h : SrcsOk ls) {f : Src → Int} {load n d : Int} (hd : d ≠ 0) : crossB ls f load n d = true ↔ uR f (ls.getD 0 default) (Rat.divInt n d) = busR ls f load := by
  have hs := (src_ne h _ (cur_mem h.1.1)).2
  unfold crossB
  rw [decide_eq_true_eq, ← busF_uR hs hd, bus_cross h]
theorem bus_self {ls : List Src} (h : SrcsOk ls) (f : Src → Int) (load : Int) {s : Src} (hs : s ∈ ls) : busF (f s) s (curR ls f load s).num ((curR ls f load s).den : Int) = busR ls f load := by
  rw [busF_uR (src_ne h s hs).2 (rden_nz _), rat_self]
  exact curR_uR h f load hs
/-- The currents are accepted. -/
theorem check_self {ls : List Src} {p q : Int} (h : SrcsOk ls) (hs : allSmall ls p q) : checkC ls p q (curCs ls p q) = (0, 0) := by
  have hz : (scanC (curEs ls (curCs ls p q)) (curCs ls p q).length 0).2 = 0 := scan_zero.2 fun j _ hj => by
    have hj : j < ls.length := by unfold curCs at hj; rw [List.length_map] at hj; omega
    unfold curEs
    rw [curCs_at hj, curCs_at h.1.1]
    exact curE_of (curC_ok hs (cur_mem hj)) ((bus_self h Src.p p (cur_mem hj)).trans (bus_self h Src.p p (cur_mem h.1.1)).symm) ((bus_self h Src.q q (cur_mem hj)).trans (bus_self h Src.q q (cur_mem h.1.1)).symm)
  unfold checkC
  rw [if_pos hz, if_pos]
  unfold openB
  rw [curCs_at h.1.1, Bool.and_eq_true]
  constructor
  · exact (cross_iff h (rden_nz _)).2 ((congrArg (uR Src.p _) (rat_self _)).trans (curR_uR h Src.p p (cur_mem h.1.1)))
  · exact (cross_iff h (rden_nz _)).2 ((congrArg (uR Src.q _) (rat_self _)).trans (curR_uR h Src.q q (cur_mem h.1.1)))
theorem check_zero {ls : List Src} {p q : Int} {cs : List Cu} (h : (checkC ls p q cs).2 = 0) : (∀ i, i < cs.length → curEs ls cs i = 0) ∧ openB ls p q (cs.getD 0 default) = true := by
  unfold checkC at h
  split at h
  · rename_i h1
    split at h
    · rename_i h2
      exact ⟨fun i hi => scan_zero.1 h1 i (Nat.zero_le _) (by omega), h2⟩
    · exact absurd h (by decide)
  · rename_i h1
    exact absurd h h1
/-- What is accepted are the currents. -/
theorem check_only {ls : List Src} {p q : Int} {cs : List Cu} (h : SrcsOk ls) (hl : cs.length = ls.length) (hc : (checkC ls p q cs).2 = 0) : ∀ i, i < ls.length → cs.getD i default = curC ls p q (ls.getD i default) := fun i hi => by
  obtain ⟨h1, h2⟩ := check_zero hc
  have hok : ∀ j, j < ls.length → CuOk (cs.getD j default) := fun j hj => (curE_ok (h1 j (by omega))).1
  have hb : ∀ j, j < ls.length → uR Src.p (ls.getD j default) (Rat.divInt (cs.getD j default).pn (cs.getD j default).pd) = uR Src.p (ls.getD 0 default) (Rat.divInt (cs.getD 0 default).pn (cs.getD 0 default).pd) ∧ uR Src.q (ls.getD j default) (Rat.divInt (cs.getD j default).qn (cs.getD j default).qd) = uR Src.q (ls.getD 0 default) (Rat.divInt (cs.getD 0 default).qn (cs.getD 0 default).qd) := fun j hj => by
    obtain ⟨_, q2, q3⟩ := curE_ok (h1 j (by omega))
    have s1 := (src_ne h _ (cur_mem hj)).2
    have s2 := (src_ne h _ (cur_mem h.1.1)).2
    have k1 := hok j hj
    have k2 := hok 0 h.1.1
    rw [busF_uR s1 (by have := k1.1.2.2.1; omega), busF_uR s2 (by have := k2.1.2.2.1; omega)] at q2
    rw [busF_uR s1 (by have := k1.2.2.2.1; omega), busF_uR s2 (by have := k2.2.2.2.1; omega)] at q3
    exact ⟨q2, q3⟩
  unfold openB at h2
  rw [Bool.and_eq_true] at h2
  have z := hok 0 h.1.1
  have o1 := (cross_iff h (by have := z.1.2.2.1; omega)).1 h2.1
  have o2 := (cross_iff h (by have := z.2.2.2.1; omega)).1 h2.2
  have b1 := (hb i hi).1.trans o1
  have b2 := (hb i hi).2.trans o2
  obtain ⟨n1, n2⟩ := src_ne h _ (cur_mem hi)
  have e1 : Rat.divInt (cs.getD i default).pn (cs.getD i default).pd = curR ls Src.p p (ls.getD i default) := by
    rw [uR_cur n1 n2 b1, uR_cur n1 n2 (curR_uR h Src.p p (cur_mem hi))]
  have e2 : Rat.divInt (cs.getD i default).qn (cs.getD i default).qd = curR ls Src.q q (ls.getD i default) := by
    rw [uR_cur n1 n2 b2, uR_cur n1 n2 (curR_uR h Src.q q (cur_mem hi))]
  obtain ⟨k1, k2⟩ := hok i hi
  obtain ⟨_, m1, m2⟩ := lowest_rat k1.1
  obtain ⟨_, m3, m4⟩ := lowest_rat k2.1
  rw [e1] at m1 m2
  rw [e2] at m3 m4
  unfold curC
  generalize cs.getD i default = c at *
  obtain ⟨a, b, c, d⟩ := c
  dsimp only at m1 m2 m3 m4
  rw [← m1, ← m2, ← m3, ← m4]

end Go.Proofs.YtpdkbhjcpddnpaaDoor
