/- Plain facts: the rows of the equations and the fluxes, number by number (chapter 3). No condition.
Plain facts: bounds of the potentials, the common divisor of a solution (chapter 3). No condition. -/
import Derived.Test.YtapegimghfflhaaMo
import Derived.Test.YtapegimghfflhaaMm

section
namespace Go.Proofs.Ytapegimghfflhaa

/-- The number k of the row for the loop l. -/
def matE (L : List (List Int)) (r : List Int) (i k : Nat) : Int := matTo (L.getD i []) (L.getD k []) r r.length
/-- The row i of the equations while it is made: the first k numbers stand. -/
def rowP (L : List (List Int)) (r : List Int) (i k : Nat) : List Int := partL (matE L r i) (List.replicate (L.length + 1) 0) k
theorem rowP_len (L : List (List Int)) (r : List Int) (i k : Nat) : (rowP L r i k).length = L.length + 1 := by
  unfold rowP
  rw [partL_len, List.length_replicate]
theorem rep_getD (n q : Nat) : (List.replicate n (0 : Int)).getD q 0 = 0 := by
  simp only [List.getD, List.getElem?_replicate]
  split <;> rfl
theorem rowP_at (L : List (List Int)) (r : List Int) (i k : Nat) (hk : k ≤ L.length) : (rowP L r i k).getD k 0 = 0 := by
  unfold rowP
  rw [partL_at _ _ _ _ (by rw [List.length_replicate]; omega), if_neg (Nat.lt_irrefl _)]
  exact rep_getD _ _
theorem set_same (l : List Int) (k : Nat) {x : Int} (h : l.getD k 0 = x) (hk : k < l.length) : l.set k x = l := by
  refine List.ext_getElem? fun q => ?_
  rw [List.getElem?_set]
  by_cases e : k = q
  · subst e
    rw [if_pos rfl, if_pos hk, ← h, List.getD_eq_getElem?_getD, List.getElem?_eq_getElem hk]
    rfl
  · rw [if_neg e]
theorem rowP_start (L : List (List Int)) (r : List Int) (i k : Nat) (hk : k ≤ L.length) : (rowP L r i k).set k (matTo (L.getD i []) (L.getD k []) r 0) = rowP L r i k :=
  set_same _ _ (rowP_at L r i k hk) (by rw [rowP_len]; omega)
theorem rowP_done (L : List (List Int)) (r : List Int) (i k : Nat) : (rowP L r i k).set k (matTo (L.getD i []) (L.getD k []) r r.length) = rowP L r i (k + 1) := rfl
theorem rowP_all (L : List (List Int)) (r t : List Int) (i : Nat) : (rowP L r i L.length).set L.length (dotV (L.getD i []) t) = eqV L r t i := by
  refine List.ext_getElem (by rw [List.length_set, rowP_len, eqV_len]) fun q h1 h2 => ?_
  have h3 : q < L.length + 1 := by rw [List.length_set, rowP_len] at h1; exact h1
  have e : ((rowP L r i L.length).set L.length (dotV (L.getD i []) t)).getD q 0 = (eqV L r t i).getD q 0 := by
    rw [getD_set]
    unfold eqV
    by_cases e : L.length = q
    · subst e
      rw [if_pos ⟨rfl, by rw [rowP_len]; omega⟩]
      simp [List.getD]
    · have hq : q < L.length := by omega
      rw [if_neg fun h => e h.1]
      unfold rowP
      rw [partL_at _ _ _ _ (by rw [List.length_replicate]; omega), if_pos hq]
      simp [List.getD, hq, matE, List.getElem?_append_left]
  generalize (rowP L r i L.length).set L.length (dotV (L.getD i []) t) = X at *
  rw [List.getD_eq_getElem?_getD, List.getD_eq_getElem?_getD, List.getElem?_eq_getElem h1, List.getElem?_eq_getElem h2] at e
  exact e
theorem mul3 {a b c : Int} (ha : -11 ≤ a ∧ a ≤ 11) (hb : -11 ≤ b ∧ b ≤ 11) (hc : 0 ≤ c ∧ c ≤ 20) : -2420 ≤ a * b * c ∧ a * b * c ≤ 2420 := by
  have h1 : -121 ≤ a * b ∧ a * b ≤ 121 := by
    have := Int.mul_le_mul_of_nonneg_left (show b ≤ 11 from hb.2) (show 0 ≤ 11 - a by omega)
    have := Int.mul_le_mul_of_nonneg_left (show -11 ≤ b from hb.1) (show 0 ≤ 11 - a by omega)
    have := Int.mul_le_mul_of_nonneg_left (show b ≤ 11 from hb.2) (show 0 ≤ 11 + a by omega)
    have := Int.mul_le_mul_of_nonneg_left (show -11 ≤ b from hb.1) (show 0 ≤ 11 + a by omega)
    simp only [Int.sub_mul, Int.add_mul] at *
    omega
  have := Int.mul_le_mul_of_nonneg_left (show c ≤ 20 from hc.2) (show 0 ≤ 121 - a * b by omega)
  have := Int.mul_le_mul_of_nonneg_left (show 0 ≤ c from hc.1) (show 0 ≤ 121 - a * b by omega)
  have := Int.mul_le_mul_of_nonneg_left (show c ≤ 20 from hc.2) (show 0 ≤ 121 + a * b by omega)
  have := Int.mul_le_mul_of_nonneg_left (show 0 ≤ c from hc.1) (show 0 ≤ 121 + a * b by omega)
  simp only [Int.sub_mul, Int.add_mul] at *
  omega
theorem mul2 {a b : Int} {C : Int} (ha : -11 ≤ a ∧ a ≤ 11) (hb : -C ≤ b ∧ b ≤ C) : -(11 * C) ≤ a * b ∧ a * b ≤ 11 * C := by
  have := Int.mul_le_mul_of_nonneg_left (show b ≤ C from hb.2) (show 0 ≤ 11 - a by omega)
  have := Int.mul_le_mul_of_nonneg_left (show -C ≤ b from hb.1) (show 0 ≤ 11 - a by omega)
  have := Int.mul_le_mul_of_nonneg_left (show b ≤ C from hb.2) (show 0 ≤ 11 + a by omega)
  have := Int.mul_le_mul_of_nonneg_left (show -C ≤ b from hb.1) (show 0 ≤ 11 + a by omega)
  simp only [Int.sub_mul, Int.add_mul, Int.mul_neg] at *
  have e := Int.mul_comm a C
  omega
theorem mat_bd {l m r : List Int} (hl : ∀ j, -11 ≤ l.getD j 0 ∧ l.getD j 0 ≤ 11) (hm : ∀ j, -11 ≤ m.getD j 0 ∧ m.getD j 0 ≤ 11) (hr : ∀ j, 0 ≤ r.getD j 0 ∧ r.getD j 0 ≤ 20) : ∀ j : Nat, -(2420 * (j : Int)) ≤ matTo l m r j ∧ matTo l m r j ≤ 2420 * (j : Int)
  | 0 => by rw [matTo]; omega
  | j + 1 => by
    have h1 := mat_bd hl hm hr j
    have h2 := mul3 (hl j) (hm j) (hr j)
    rw [matTo]
    omega
theorem dot_bd {l t : List Int} (hl : ∀ j, -11 ≤ l.getD j 0 ∧ l.getD j 0 ≤ 11) (ht : ∀ j, -50 ≤ t.getD j 0 ∧ t.getD j 0 ≤ 50) : ∀ j : Nat, -(550 * (j : Int)) ≤ dotTo l t j ∧ dotTo l t j ≤ 550 * (j : Int)
  | 0 => by rw [dotTo]; omega
  | j + 1 => by
    have h1 := dot_bd hl ht j
    have h2 := mul2 (C := 50) (hl j) (ht j)
    rw [dotTo]
    omega
theorem flow_bd {L M : List (List Int)} {c : Nat} (hL : ∀ i j, -11 ≤ (L.getD i []).getD j 0 ∧ (L.getD i []).getD j 0 ≤ 11) {n : Nat} (hM : ∀ i, i < n → -1000000000000 ≤ (M.getD i []).getD c 0 ∧ (M.getD i []).getD c 0 ≤ 1000000000000) (j : Nat) : ∀ i : Nat, i ≤ n → -(11000000000000 * (i : Int)) ≤ flowTo L M c j i ∧ flowTo L M c j i ≤ 11000000000000 * (i : Int)
  | 0, _ => by rw [flowTo]; omega
  | i + 1, hi => by
    have h1 := flow_bd hL hM j i (by omega)
    have h2 := mul2 (C := 1000000000000) (hL i j) (hM i (by omega))
    rw [flowTo]
    omega
/-- The fluxes while they are summed: loop after loop. -/
def flowsT (L M : List (List Int)) (c m i : Nat) : List Int := (List.range m).map fun j => flowTo L M c j i
theorem flowsT_len (L M : List (List Int)) (c m i : Nat) : (flowsT L M c m i).length = m := by simp [flowsT]
theorem flowsT_at (L M : List (List Int)) (c i : Nat) {m j : Nat} (hj : j < m) : (flowsT L M c m i).getD j 0 = flowTo L M c j i := by simp [flowsT, hj]
theorem flowsT_zero (L M : List (List Int)) (c m : Nat) : flowsT L M c m 0 = List.replicate m 0 := by
  refine List.ext_getElem (by simp [flowsT]) fun q h1 h2 => ?_
  simp [flowsT, flowTo]
theorem flowsT_all (L M : List (List Int)) (c m i : Nat) : partL (fun j => flowTo L M c j (i + 1)) (flowsT L M c m i) m = flowsT L M c m (i + 1) := by
  have h := partL_all (fun j => flowTo L M c j (i + 1)) (flowsT L M c m i)
  rw [flowsT_len] at h
  exact h
theorem flowsT_part (L M : List (List Int)) (c i : Nat) {m j : Nat} (hj : j < m) : (partL (fun j => flowTo L M c j (i + 1)) (flowsT L M c m i) j).getD j 0 = flowTo L M c j i := by
  rw [partL_at _ _ _ _ (by rw [flowsT_len]; exact hj), if_neg (Nat.lt_irrefl _), flowsT_at _ _ _ _ hj]
theorem fluxes_is (L : List (List Int)) (r t : List Int) : fluxesV L r t = (flowsT L (elimV (eqsV L r t)).1 L.length t.length L.length, (elimV (eqsV L r t)).2) := rfl
theorem eqs_row (L : List (List Int)) (r t : List Int) {i : Nat} (hi : i < L.length) : (eqsV L r t).getD i [] = eqV L r t i := by simp [eqsV, hi]
end Go.Proofs.Ytapegimghfflhaa
end

section
namespace Go.Proofs.Ytapegimghfflhaa

/-- Numbers of a branch are small, also beyond the last one. -/
theorem br_small {N : Nat} {bs : List FBr} (hn : NetOk N bs) (j : Nat) : (0 ≤ (bs.getD j default).r ∧ (bs.getD j default).r ≤ 20) ∧ -50 ≤ (bs.getD j default).t ∧ (bs.getD j default).t ≤ 50 := by
  by_cases hj : j < bs.length
  · obtain ⟨_, _, _, h1, h2⟩ := hn.br _ (getD_memF hj)
    exact ⟨⟨by omega, by omega⟩, by omega, by omega⟩
  · have e : bs.getD j default = default := by simp [List.getD, Nat.le_of_not_lt hj]
    rw [e]
    decide
def dropP (bs : List FBr) (fl : List Int) (den : Int) (i : Nat) : Int := (bs.getD i default).r * fl.getD i 0 - (bs.getD i default).t * den
theorem dropP_bd {N : Nat} {bs : List FBr} (hn : NetOk N bs) {fl : List Int} {den : Int} (hf : ∀ j, -100000000000000 ≤ fl.getD j 0 ∧ fl.getD j 0 ≤ 100000000000000) (hd : 0 ≤ den ∧ den ≤ 10000000000) (i : Nat) : (-2000000000000000 ≤ (bs.getD i default).r * fl.getD i 0 ∧ (bs.getD i default).r * fl.getD i 0 ≤ 2000000000000000) ∧ (-500000000000 ≤ (bs.getD i default).t * den ∧ (bs.getD i default).t * den ≤ 500000000000) ∧ -2001000000000000 ≤ dropP bs fl den i ∧ dropP bs fl den i ≤ 2001000000000000 := by
  obtain ⟨h1, h2⟩ := br_small hn i
  have h3 := hf i
  unfold dropP
  generalize (bs.getD i default).r = r at *
  generalize (bs.getD i default).t = t at *
  generalize fl.getD i 0 = x at *
  have := Int.mul_le_mul_of_nonneg_left h3.2 (show 0 ≤ r from h1.1)
  have := Int.mul_le_mul_of_nonneg_left h3.1 (show 0 ≤ r from h1.1)
  have := Int.mul_le_mul_of_nonneg_left h2.2 (show 0 ≤ den from hd.1)
  have := Int.mul_le_mul_of_nonneg_left h2.1 (show 0 ≤ den from hd.1)
  have e := Int.mul_comm t den
  omega
theorem pot_len (bs : List FBr) (N : Nat) (hs fl : List Int) (den : Int) (od : List Nat) : ∀ k, (potTo bs N hs fl den od k).length = N
  | 0 => by rw [potTo, List.length_replicate]
  | k + 1 => by
    rw [potTo, potStep]
    have ih := pot_len bs N hs fl den od k
    split
    · exact ih
    · split <;> (rw [List.length_set]; exact ih)
theorem pot_bd {N : Nat} {bs : List FBr} (hn : NetOk N bs) {hs fl : List Int} {den : Int} (od : List Nat) (hf : ∀ j, -100000000000000 ≤ fl.getD j 0 ∧ fl.getD j 0 ≤ 100000000000000) (hd : 0 ≤ den ∧ den ≤ 10000000000) : ∀ (k j : Nat), -(2001000000000000 * (k : Int)) ≤ (potTo bs N hs fl den od k).getD j 0 ∧ (potTo bs N hs fl den od k).getD j 0 ≤ 2001000000000000 * (k : Int)
  | 0, j => by rw [potTo, rep_getD]; omega
  | k + 1, j => by
    have ih := pot_bd hn (hs := hs) od hf hd k
    rw [potTo, potStep]
    have h1 := (dropP_bd hn hf hd (hs.getD (od.getD k 0) 0).toNat).2.2
    unfold dropP at h1
    have h2 := ih j
    have h3 := ih (bs.getD (hs.getD (od.getD k 0) 0).toNat default).b.toNat
    have h4 := ih (bs.getD (hs.getD (od.getD k 0) 0).toNat default).a.toNat
    split
    · omega
    · split
      · rw [getD_set]; split <;> omega
      · rw [getD_set]; split <;> omega
theorem gcd_posL {a b : Int} (h : 0 < a) : 0 < gcdI a b ∧ gcdI a b ≤ a := by
  unfold gcdI
  have h1 := Int.gcd_pos_of_ne_zero_left b (show a ≠ 0 by omega)
  have h2 : Int.gcd a b ≤ a.natAbs := Nat.le_of_dvd (by omega) (Int.gcd_dvd_natAbs_left ..)
  omega
theorem gcdTo_pos {g : Int} (hg : 0 < g) (l : List Int) : ∀ k, 0 < gcdTo g l k ∧ gcdTo g l k ≤ g
  | 0 => ⟨hg, Int.le_refl _⟩
  | k + 1 => by
    have h := gcdTo_pos hg l k
    have h2 := gcd_posL (b := l.getD k 0) h.1
    rw [gcdTo]
    exact ⟨h2.1, Int.le_trans h2.2 h.2⟩
theorem quot_bd {x g : Int} {C : Int} (h : -C ≤ x ∧ x ≤ C) : -C ≤ x.tdiv g ∧ x.tdiv g ≤ C := by
  have h1 : (x.tdiv g).natAbs ≤ x.natAbs := by rw [Int.natAbs_tdiv]; exact Nat.div_le_self _ _
  omega
theorem flx_bdL {N : Nat} {bs : List FBr} (hn : NetOk N bs) {t : List Int} (hs : FlxSm (loopsV bs N) (relV bs) t) : (0 ≤ (fluxesV (loopsV bs N) (relV bs) t).2 ∧ (fluxesV (loopsV bs N) (relV bs) t).2 ≤ 10000000000) ∧ ∀ j, -100000000000000 ≤ (fluxesV (loopsV bs N) (relV bs) t).1.getD j 0 ∧ (fluxesV (loopsV bs N) (relV bs) t).1.getD j 0 ≤ 100000000000000 := by
  have hL := loopsV_ok hn
  have hl : ∀ i j, -11 ≤ ((loopsV bs N).getD i []).getD j 0 ∧ ((loopsV bs N).getD i []).getD j 0 ≤ 11 := fun i j => by
    by_cases hi : i < (loopsV bs N).length
    · exact hL.bd _ (by rw [List.getD_eq_getElem?_getD, List.getElem?_eq_getElem hi]; exact List.getElem_mem hi) j
    · rw [show (loopsV bs N).getD i [] = [] by simp [List.getD, Nat.le_of_not_lt hi]]
      simp
  rw [fluxes_is]
  refine ⟨⟨Int.le_trans (by decide) hs.den.1, hs.den.2⟩, fun j => ?_⟩
  by_cases hj : j < t.length
  · rw [flowsT_at _ _ _ _ hj]
    have h := flow_bd (L := loopsV bs N) (M := (elimV (eqsV (loopsV bs N) (relV bs) t)).1) (c := (loopsV bs N).length) hl (n := (loopsV bs N).length) hs.sol j _ (Nat.le_refl _)
    have := hL.cnt
    omega
  · have e : (flowsT (loopsV bs N) (elimV (eqsV (loopsV bs N) (relV bs) t)).1 (loopsV bs N).length t.length (loopsV bs N).length).getD j 0 = 0 := by
      rw [List.getD_eq_getElem?_getD, List.getElem?_eq_none (by rw [flowsT_len]; omega)]; rfl
    rw [e]
    decide
end Go.Proofs.Ytapegimghfflhaa
end
