/- Plain facts on the currents of parallel sources: exactly one distribution. No program is in sight. -/
import Derived.Test.YtpdkbhjcpddnpaaGreatDoorOa1

section
namespace Go.Proofs.YtpdkbhjcpddnpaaGreatDoor

/-- A source: voltage (P, Q), impedance n / d. -/
structure Src where
  p : Int
  q : Int
  n : Int
  d : Int
instance : Inhabited Src := ⟨⟨0, 0, 1, 1⟩⟩
def allV : List Src → Int
  | [] => 1
  | s :: l => s.n * allV l
def admV (A : Int) (s : Src) : Int := A / s.n * s.d
def sumV (A : Int) : List Src → Int
  | [] => 0
  | s :: l => admV A s + sumV A l
def dropV (A : Int) (f : Src → Int) : List Src → Int
  | [] => 0
  | s :: l => f s * admV A s + dropV A f l
def SrcOk (s : Src) : Prop := (-1000000 ≤ s.p ∧ s.p ≤ 1000000) ∧ (-1000000 ≤ s.q ∧ s.q ≤ 1000000) ∧ (1 ≤ s.n ∧ s.n ≤ 100) ∧ (1 ≤ s.d ∧ s.d ≤ 100)
def SrcsOk (l : List Src) : Prop := (0 < l.length ∧ l.length ≤ 4) ∧ ∀ s ∈ l, SrcOk s

theorem allV_app (a b : List Src) : allV (a ++ b) = allV a * allV b := by
  induction a with
  | nil => simp [allV]
  | cons s l ih => simp only [List.cons_append, allV, ih, Int.mul_assoc]
theorem sumV_app (A : Int) (a b : List Src) : sumV A (a ++ b) = sumV A a + sumV A b := by
  induction a with
  | nil => simp [sumV]
  | cons s l ih => simp only [List.cons_append, sumV, ih, Int.add_assoc]
theorem dropV_app (A : Int) (f : Src → Int) (a b : List Src) : dropV A f (a ++ b) = dropV A f a + dropV A f b := by
  induction a with
  | nil => simp [dropV]
  | cons s l ih => simp only [List.cons_append, dropV, ih, Int.add_assoc]
theorem src_take {l : List Src} {i : Nat} (hi : i < l.length) : l.take (i + 1) = l.take i ++ [l.getD i default] := by
  rw [List.take_add_one, List.getElem?_eq_getElem hi, List.getD_eq_getElem?_getD, List.getElem?_eq_getElem hi]
  rfl
theorem allV_step {l : List Src} {i : Nat} (hi : i < l.length) : allV (l.take (i + 1)) = allV (l.take i) * (l.getD i default).n := by
  rw [src_take hi, allV_app]
  simp [allV]
theorem sumV_step {A : Int} {l : List Src} {i : Nat} (hi : i < l.length) : sumV A (l.take (i + 1)) = sumV A (l.take i) + admV A (l.getD i default) := by
  rw [src_take hi, sumV_app]
  simp [sumV]
theorem dropV_step {A : Int} {f : Src → Int} {l : List Src} {i : Nat} (hi : i < l.length) : dropV A f (l.take (i + 1)) = dropV A f (l.take i) + f (l.getD i default) * admV A (l.getD i default) := by
  rw [src_take hi, dropV_app]
  simp [dropV]
theorem SrcsOk.at_ {l : List Src} (h : SrcsOk l) {i : Nat} (hi : i < l.length) : SrcOk (l.getD i default) := by
  rw [List.getD_eq_getElem?_getD, List.getElem?_eq_getElem hi]
  exact h.2 _ (List.getElem_mem hi)
theorem allV_bd : ∀ {l : List Src}, (∀ s ∈ l, SrcOk s) → 1 ≤ allV l ∧ allV l ≤ 100 ^ l.length
  | [], _ => by simp [allV]
  | s :: l, h => by
    obtain ⟨h1, h2⟩ := allV_bd (l := l) fun s hs => h s (List.mem_cons_of_mem _ hs)
    obtain ⟨_, _, h3, _⟩ := h s (List.mem_cons_self ..)
    rw [allV, List.length_cons, Int.pow_succ]
    constructor
    · have := Int.mul_le_mul (show (1 : Int) ≤ s.n by omega) h1 (by decide) (by omega)
      omega
    · have := Int.mul_le_mul (show s.n ≤ (100 : Int) by omega) h2 (by omega) (by decide)
      rw [Int.mul_comm (100 ^ l.length)]
      exact this
theorem allV_mem : ∀ {l : List Src} {s : Src}, (∀ s ∈ l, SrcOk s) → s ∈ l → ∃ k, allV l = k * s.n ∧ 1 ≤ k ∧ k * 100 ≤ 100 ^ l.length
  | [], _, _, hs => by cases hs
  | t :: l, s, h, hs => by
    have hl : ∀ s ∈ l, SrcOk s := fun s hs => h s (List.mem_cons_of_mem _ hs)
    rcases List.mem_cons.1 hs with rfl | hs
    · obtain ⟨h1, h2⟩ := allV_bd hl
      exact ⟨allV l, by rw [allV, Int.mul_comm], h1, by rw [List.length_cons, Int.pow_succ]; omega⟩
    · obtain ⟨k, h1, h2, h3⟩ := allV_mem hl hs
      obtain ⟨_, _, h4, _⟩ := h t (List.mem_cons_self ..)
      refine ⟨t.n * k, by rw [allV, h1, Int.mul_assoc], ?_, ?_⟩
      · have := Int.mul_le_mul (show (1 : Int) ≤ t.n by omega) h2 (by decide) (by omega)
        omega
      · have := Int.mul_le_mul (show t.n ≤ (100 : Int) by omega) h3 (by omega) (by decide)
        rw [List.length_cons, Int.pow_succ, Int.mul_comm (100 ^ l.length), Int.mul_assoc]
        exact this
theorem pow100 {n : Nat} (h : n ≤ 4) : (100 : Int) ^ n ≤ 100000000 := by
  rcases n with _ | _ | _ | _ | _ | n
  · decide
  · decide
  · decide
  · decide
  · decide
  · omega
theorem admV_bd {l : List Src} (h : SrcsOk l) {s : Src} (hs : s ∈ l) : 1 ≤ admV (allV l) s ∧ admV (allV l) s ≤ 100000000 ∧ 1 ≤ allV l / s.n ∧ allV l / s.n ≤ 1000000 ∧ admV (allV l) s * s.n = allV l * s.d := by
  obtain ⟨_, _, h3, h4⟩ := h.2 s hs
  obtain ⟨k, h1, h2, h5⟩ := allV_mem h.2 hs
  have h6 := pow100 h.1.2
  have e : allV l / s.n = k := by rw [h1]; exact Int.mul_ediv_cancel _ (by omega)
  unfold admV
  rw [e]
  have hk : k ≤ 1000000 := by omega
  have q1 := Int.mul_le_mul h2 (show (1 : Int) ≤ s.d by omega) (by decide) (by omega)
  have q2 := Int.mul_le_mul hk (show s.d ≤ (100 : Int) by omega) (by omega) (by decide)
  refine ⟨by omega, by omega, h2, hk, ?_⟩
  rw [h1, Int.mul_assoc, Int.mul_assoc, Int.mul_comm s.d]
theorem sumV_bd {A : Int} : ∀ {l : List Src}, (∀ s ∈ l, 1 ≤ admV A s ∧ admV A s ≤ 100000000) → (l.length : Int) ≤ sumV A l ∧ sumV A l ≤ l.length * 100000000
  | [], _ => by simp [sumV]
  | s :: l, h => by
    obtain ⟨h1, h2⟩ := sumV_bd (l := l) fun s hs => h s (List.mem_cons_of_mem _ hs)
    have h3 := h s (List.mem_cons_self ..)
    rw [sumV, List.length_cons]
    omega
theorem prod_bd1 {v a : Int} (h : -1000000 ≤ v ∧ v ≤ 1000000) (g : 0 ≤ a) {M : Int} (hM : a ≤ M) : -(1000000 * M) ≤ v * a ∧ v * a ≤ 1000000 * M := by
  have h1 := Int.mul_le_mul h.2 hM g (by decide)
  have h2 := Int.mul_le_mul (show -v ≤ 1000000 by omega) hM g (by decide)
  rw [Int.neg_mul] at h2
  omega
theorem dropV_bd {A : Int} {f : Src → Int} : ∀ {l : List Src}, (∀ s ∈ l, 1 ≤ admV A s ∧ admV A s ≤ 100000000) → (∀ s ∈ l, -1000000 ≤ f s ∧ f s ≤ 1000000) → -(l.length * 100000000000000) ≤ dropV A f l ∧ dropV A f l ≤ l.length * 100000000000000
  | [], _, _ => by simp [dropV]
  | s :: l, h, g => by
    obtain ⟨h1, h2⟩ := dropV_bd (l := l) (fun s hs => h s (List.mem_cons_of_mem _ hs)) (fun s hs => g s (List.mem_cons_of_mem _ hs))
    have h3 := h s (List.mem_cons_self ..)
    have h4 := prod_bd1 (g s (List.mem_cons_self ..)) (by omega) h3.2
    rw [dropV, List.length_cons]
    omega
/-- The reference's sums. -/
def yR (s : Src) : Rat := (s.d : Rat) / (s.n : Rat)
def bySum : List Src → Rat
  | [] => 0
  | s :: l => yR s + bySum l
def voSum (f : Src → Int) : List Src → Rat
  | [] => 0
  | s :: l => (f s : Rat) * yR s + voSum f l
theorem bySum_app (a b : List Src) : bySum (a ++ b) = bySum a + bySum b := by
  induction a with
  | nil => simp [bySum, Rat.zero_add]
  | cons s l ih => simp only [List.cons_append, bySum, ih, Rat.add_assoc]
theorem voSum_app (f : Src → Int) (a b : List Src) : voSum f (a ++ b) = voSum f a + voSum f b := by
  induction a with
  | nil => simp [voSum, Rat.zero_add]
  | cons s l ih => simp only [List.cons_append, voSum, ih, Rat.add_assoc]
theorem bySum_step {l : List Src} {i : Nat} (hi : i < l.length) : bySum (l.take (i + 1)) = bySum (l.take i) + yR (l.getD i default) := by
  rw [src_take hi, bySum_app]
  simp [bySum, Rat.add_zero]
theorem voSum_step {f : Src → Int} {l : List Src} {i : Nat} (hi : i < l.length) : voSum f (l.take (i + 1)) = voSum f (l.take i) + (f (l.getD i default) : Rat) * yR (l.getD i default) := by
  rw [src_take hi, voSum_app]
  simp [voSum, Rat.add_zero]
theorem cast_ne {n : Int} (h : n ≠ 0) : (n : Rat) ≠ 0 := fun e => h (by exact_mod_cast e)
theorem admV_rat {A : Int} {s : Src} (hn : s.n ≠ 0) (h : admV A s * s.n = A * s.d) : (admV A s : Rat) = (A : Rat) * yR s := by
  have h1 : (admV A s : Rat) * (s.n : Rat) = (A : Rat) * (s.d : Rat) := by exact_mod_cast h
  have h2 := cast_ne hn
  unfold yR
  grind
theorem sumV_rat {A : Int} : ∀ {l : List Src}, (∀ s ∈ l, s.n ≠ 0 ∧ admV A s * s.n = A * s.d) → (sumV A l : Rat) = (A : Rat) * bySum l
  | [], _ => by simp [sumV, bySum, Rat.mul_zero]
  | s :: l, h => by
    have h1 := sumV_rat (l := l) fun s hs => h s (List.mem_cons_of_mem _ hs)
    have h2 := h s (List.mem_cons_self ..)
    rw [sumV, bySum, Rat.intCast_add, h1, admV_rat h2.1 h2.2]
    grind
theorem dropV_rat {A : Int} {f : Src → Int} : ∀ {l : List Src}, (∀ s ∈ l, s.n ≠ 0 ∧ admV A s * s.n = A * s.d) → (dropV A f l : Rat) = (A : Rat) * voSum f l
  | [], _ => by simp [dropV, voSum, Rat.mul_zero]
  | s :: l, h => by
    have h1 := dropV_rat (f := f) (l := l) fun s hs => h s (List.mem_cons_of_mem _ hs)
    have h2 := h s (List.mem_cons_self ..)
    rw [dropV, voSum, Rat.intCast_add, Rat.intCast_mul, h1, admV_rat h2.1 h2.2]
    grind
/-- The current of a source for one part: as the program computes it, and as the reference says it. -/
def curN (l : List Src) (f : Src → Int) (load : Int) (s : Src) : Int := (f s * sumV (allV l) l - (-load * allV l + dropV (allV l) f l)) * s.d
def curD (l : List Src) (s : Src) : Int := sumV (allV l) l * s.n
def busR (l : List Src) (f : Src → Int) (load : Int) : Rat := (-(load : Rat) + voSum f l) / bySum l
def curR (l : List Src) (f : Src → Int) (load : Int) (s : Src) : Rat := ((f s : Rat) - busR l f load) / ((s.n : Rat) / (s.d : Rat))
theorem adm_all {l : List Src} (h : SrcsOk l) : ∀ s ∈ l, s.n ≠ 0 ∧ admV (allV l) s * s.n = allV l * s.d := fun s hs => ⟨by have := (h.2 s hs).2.2.1; omega, (admV_bd h hs).2.2.2.2⟩
theorem sum_pos {l : List Src} (h : SrcsOk l) : 1 ≤ sumV (allV l) l ∧ sumV (allV l) l ≤ 400000000 := by
  have h1 := sumV_bd (A := allV l) (l := l) fun s hs => ⟨(admV_bd h hs).1, (admV_bd h hs).2.1⟩
  have h2 := h.1
  omega
theorem all_pos {l : List Src} (h : SrcsOk l) : 1 ≤ allV l ∧ allV l ≤ 100000000 := by
  have h1 := allV_bd h.2
  have h2 := pow100 h.1.2
  omega
theorem by_ne {l : List Src} (h : SrcsOk l) : bySum l ≠ 0 := fun e => by
  have h1 := sumV_rat (adm_all h)
  rw [e, Rat.mul_zero] at h1
  have h2 : sumV (allV l) l = 0 := by exact_mod_cast h1
  have := (sum_pos h).1
  omega
theorem bus_rat {l : List Src} (h : SrcsOk l) (f : Src → Int) (load : Int) : busR l f load = ((-load * allV l + dropV (allV l) f l : Int) : Rat) / ((sumV (allV l) l : Int) : Rat) := by
  have h1 := sumV_rat (adm_all h)
  have h2 := dropV_rat (f := f) (adm_all h)
  have h3 := by_ne h
  have h4 : (allV l : Rat) ≠ 0 := cast_ne (by have := (all_pos h).1; omega)
  unfold busR
  rw [Rat.intCast_add, Rat.intCast_mul, Rat.intCast_neg, h1, h2]
  grind
theorem curR_eq {l : List Src} (h : SrcsOk l) (f : Src → Int) (load : Int) {s : Src} (hs : s ∈ l) : curR l f load s = (curN l f load s : Rat) / (curD l s : Rat) := by
  have h1 := bus_rat h f load
  have h3 := cast_ne (n := sumV (allV l) l) (by have := (sum_pos h).1; omega)
  have h5 := h.2 s hs
  have h6 := cast_ne (n := s.n) (by have := h5.2.2.1; omega)
  have h7 := cast_ne (n := s.d) (by have := h5.2.2.2; omega)
  unfold curR curN curD
  rw [h1]
  generalize hz : -load * allV l + dropV (allV l) f l = z
  rw [Rat.intCast_mul, Rat.intCast_mul, Rat.intCast_sub, Rat.intCast_mul]
  grind
/-- The voltage of the bus by a current of a source. -/
def uR (f : Src → Int) (s : Src) (x : Rat) : Rat := (f s : Rat) - (s.n : Rat) / (s.d : Rat) * x
def sumR : List Rat → Rat
  | [] => 0
  | x :: l => x + sumR l
theorem sumR_app (a b : List Rat) : sumR (a ++ b) = sumR a + sumR b := by
  induction a with
  | nil => simp [sumR, Rat.zero_add]
  | cons s l ih => simp only [List.cons_append, sumR, ih, Rat.add_assoc]
theorem uR_cur {f : Src → Int} {s : Src} {x U : Rat} (hn : s.n ≠ 0) (hd : s.d ≠ 0) (h : uR f s x = U) : x = ((f s : Rat) - U) * yR s := by
  have h1 := cast_ne hn
  have h2 := cast_ne hd
  unfold uR at h
  unfold yR
  grind
theorem sum_cur {f : Src → Int} {U : Rat} : ∀ {l : List Src} {c : List Rat}, (∀ s ∈ l, s.n ≠ 0 ∧ s.d ≠ 0) → c.length = l.length → (∀ i, i < l.length → uR f (l.getD i default) (c.getD i 0) = U) → sumR c = voSum f l - U * bySum l
  | [], c, _, hl, _ => by
    obtain rfl : c = [] := List.eq_nil_of_length_eq_zero hl
    simp only [sumR, voSum, bySum]
    grind
  | s :: l, [], _, hl, _ => by simp at hl
  | s :: l, x :: c, h, hl, hu => by
    have h1 := sum_cur (l := l) (c := c) (fun s hs => h s (List.mem_cons_of_mem _ hs)) (by simpa using hl) fun i hi => by
      have := hu (i + 1) (by simpa using hi)
      simpa using this
    have h2 := hu 0 (by simp)
    have h3 := h s (List.mem_cons_self ..)
    have h4 := uR_cur h3.1 h3.2 (by simpa using h2)
    rw [sumR, voSum, bySum, h1, h4]
    grind
theorem src_ne {l : List Src} (h : SrcsOk l) : ∀ s ∈ l, s.n ≠ 0 ∧ s.d ≠ 0 := fun s hs => by
  obtain ⟨_, _, h3, h4⟩ := h.2 s hs
  exact ⟨by omega, by omega⟩
/-- Currents that all give one bus add up to the load exactly if it is the bus of the load. -/
theorem open_iff {l : List Src} (h : SrcsOk l) {f : Src → Int} {load : Int} {U : Rat} {c : List Rat} (hl : c.length = l.length) (hu : ∀ i, i < l.length → uR f (l.getD i default) (c.getD i 0) = U) :
    sumR c = (load : Rat) ↔ U = busR l f load := by
  have h1 := sum_cur (src_ne h) hl hu
  have h2 := by_ne h
  rw [h1]
  unfold busR
  grind
theorem bus_cross {l : List Src} (h : SrcsOk l) {f : Src → Int} {load : Int} {U : Rat} : U = busR l f load ↔ U.num * sumV (allV l) l = (-load * allV l + dropV (allV l) f l) * U.den := by
  rw [bus_rat h]
  have h1 := cast_ne (n := sumV (allV l) l) (by have := (sum_pos h).1; omega)
  have h2 : (U.den : Rat) ≠ 0 := by exact_mod_cast U.den_nz
  have h3 : U = (U.num : Rat) / (U.den : Rat) := by
    have e := Rat.num_divInt_den U
    rw [Rat.divInt_eq_div] at e
    exact e.symm
  generalize -load * allV l + dropV (allV l) f l = z at *
  generalize sumV (allV l) l = s at *
  constructor
  · intro e
    have : (U.num : Rat) * (s : Rat) = (z : Rat) * (U.den : Rat) := by
      rw [h3] at e
      grind
    exact_mod_cast this
  · intro e
    have : (U.num : Rat) * (s : Rat) = (z : Rat) * (U.den : Rat) := by exact_mod_cast e
    rw [h3]
    grind
/-- With n times the voltages and the load each current is n times as great. -/
def times (n : Int) (s : Src) : Src := ⟨n * s.p, n * s.q, s.n, s.d⟩
end Go.Proofs.YtpdkbhjcpddnpaaGreatDoor
end
