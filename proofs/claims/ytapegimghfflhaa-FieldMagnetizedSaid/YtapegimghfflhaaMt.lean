/- Contracts: slices.Index, slices.Contains for rows of numbers.
Plain facts on determinants: by columns, over chosen rows. No program is in sight.
Plain facts on elimination: Gauss and Jordan's over Rat, and without fractions. No program is in sight. -/
import Derived.Test.YtapegimghfflhaaMn
import Derived.Test.YtapegimghfflhaaRows

section
namespace Go.Proofs.Ytapegimghfflhaa
open Go.RowKit

/-- The first place of a number from k on, or -1. -/
def idxI (l : List Int) (v : Int) (k : Nat) : Int := if h : k < l.length then (if l.getD k 0 = v then (k : Int) else idxI l v (k + 1)) else -1
termination_by l.length - k
theorem idxI_has (l : List Int) (v : Int) : ∀ d k, l.length - k = d → (decide (0 ≤ idxI l v k) = hasC (l.drop k) v)
  | 0, k, hd => by
    rw [idxI, dif_neg (by omega), List.drop_eq_nil_of_le (by omega)]
    rfl
  | d + 1, k, hd => by
    have hk : k < l.length := by omega
    have e : l.drop k = l.getD k 0 :: l.drop (k + 1) := by
      rw [List.drop_eq_getElem_cons hk]
      simp [List.getD, hk]
    rw [idxI, dif_pos hk, e]
    by_cases h : l.getD k 0 = v
    · rw [if_pos h, h]
      have : (0 : Int) ≤ (k : Int) := by omega
      simp [hasC, this]
    · rw [if_neg h, idxI_has l v d (k + 1) (by omega)]
      have h2 : (l.getD k 0 == v) = false := by simpa using h
      unfold hasC
      rw [List.any_cons, h2, Bool.false_or]
set_option maxHeartbeats 2000000 in
theorem indexInt_any (B : Nat) (l : List Int) (A : Option Addr) (n c : Nat) (v : Int) (w : World) (hr : IntsIn B w A l) (hn : l.length = n) (hm : n ≤ 1000) :
    Calls Try.prog 66 #[.slice A n c, .int .i64 v] w fun e w' => e = .returned (.int .i64 (idxI l v 0)) ∧ w = w' := by
  have HR := Lib.hid hr
  have HN := Lib.hid hn
  clear hr hn
  go_enter Try.func66, Try.ntmps66
  go_wp2
  go_loopw [8] (fun iv wr => ∃ k : Nat, iv = .int .i64 (k : Int) ∧ k ≤ n ∧ idxI l v 0 = idxI l v k ∧ wr = w) (fun iv _ => n - (intOf iv).toNat)
  case atStart => exact ⟨0, rfl, Nat.zero_le _, rfl, rfl⟩
  case round =>
    obtain ⟨k, rfl, hk, hx, rfl⟩ := hrel
    by_cases hlt : k < n
    · have hk' : k < l.length := by rw [HN.out]; exact hlt
      obtain ⟨b, o, rfl, hb, hc⟩ := HR.out.at_ hk'
      have x0 := hc k hk'
      have HU := Lib.hid (show idxI l v 0 = if l.getD k 0 = v then (k : Int) else idxI l v (k + 1) from by rw [hx, idxI, dif_pos hk'])
      have k0 : (0 : Int) ≤ (k : Int) := by omega
      have k1 : (k : Int) < (n : Int) := by omega
      clear hc hx
      generalize l.getD k 0 = y at *
      by_cases hy : y = v
      · have HE := Lib.hid (show idxI l v 0 = (k : Int) by rw [HU.out, if_pos hy])
        have z1 : (v == y) = true := by simp [hy]
        clear hy HU
        go_wp2
        go_ret
        exact ⟨ret_int HE.out.symm, (by first | trivial | rfl)⟩
      · have HE := Lib.hid (show idxI l v 0 = idxI l v (k + 1) by rw [HU.out, if_neg hy])
        have z1 : (v == y) = false := by
          rw [beq_eq_false_iff_ne]
          exact fun e => hy e.symm
        clear hy HU
        go_wp2
        go_roundw
        case rel => exact ⟨k + 1, by go_num, by omega, HE.out, (by first | trivial | rfl)⟩
        case measure => simp [intOf]; omega
    · have HE := Lib.hid (show idxI l v 0 = -1 by rw [hx, idxI, dif_neg (by rw [HN.out]; exact hlt)])
      clear hx
      go_wp2
      go_ret
      exact ⟨ret_int HE.out.symm, (by first | trivial | rfl)⟩
theorem containsInt_any (B : Nat) (l : List Int) (A : Option Addr) (n c : Nat) (v : Int) (w : World) (hr : IntsIn B w A l) (hn : l.length = n) (hm : n ≤ 1000) :
    Calls Try.prog 52 #[.slice A n c, .int .i64 v] w fun e w' => e = .returned (.bool (hasC l v)) ∧ w = w' := by
  have H := Lib.hid (show decide (0 ≤ idxI l v 0) = hasC l v from by have h := idxI_has l v _ 0 rfl; rwa [List.drop_zero] at h)
  have HI := Lib.hid (indexInt_any B l A n c v w hr hn hm)
  clear hr hn
  go_enter Try.func52, Try.ntmps52
  go_wp2_with (go_at_call 66; refine HI.out.mono ?_; rintro e w' ⟨rfl, rfl⟩)
  go_ret
  exact ⟨ret_bool H.out, rfl⟩
end Go.Proofs.Ytapegimghfflhaa
end

section
namespace Go.Proofs.Ytapegimghfflhaa
/-- The signed sum over all ways to take one out of a list. -/
def pickO {α : Type} : List α → (α → List α → Rat) → Rat
  | [], _ => 0
  | x :: l, f => f x l - pickO l (fun y r => f y (x :: r))
theorem pickO_congr {α : Type} : ∀ {l : List α} {f g : α → List α → Rat}, (∀ x r, f x r = g x r) → pickO l f = pickO l g
  | [], _, _, _ => rfl
  | x :: l, f, g, h => by
    rw [pickO, pickO, h x l, pickO_congr (l := l) fun y r => h y (x :: r)]
theorem pickO_lin {α : Type} : ∀ (l : List α) (a b : Rat) (f g : α → List α → Rat), pickO l (fun x r => a * f x r + b * g x r) = a * pickO l f + b * pickO l g
  | [], a, b, _, _ => by simp only [pickO]; grind
  | x :: l, a, b, f, g => by
    simp only [pickO]
    rw [pickO_lin l a b]
    grind
theorem pickO_zero {α : Type} : ∀ (l : List α) {f : α → List α → Rat}, (∀ x r, f x r = 0) → pickO l f = 0
  | [], _, _ => rfl
  | x :: l, f, h => by
    rw [pickO, h, pickO_zero l fun y r => h y _]
    grind
theorem pickO_sub {α : Type} (l : List α) (f g : α → List α → Rat) : pickO l (fun x r => f x r - g x r) = pickO l f - pickO l g := by
  have h := pickO_lin l 1 (-1) f g
  rw [pickO_congr (g := fun x r => 1 * f x r + -1 * g x r) fun x r => by grind, h]
  grind
/-- Two taken one after the other, alike in both: nothing remains. -/
theorem pickO_alt {α : Type} : ∀ (l : List α) {g : α → α → List α → Rat}, (∀ x y r, g x y r = g y x r) → pickO l (fun x r => pickO r (fun y r' => g x y r')) = 0
  | [], _, _ => rfl
  | z :: l, g, h => by
    simp only [pickO]
    rw [pickO_sub, pickO_alt l (g := fun x y r => g x y (z :: r)) fun x y r => h x y _, pickO_congr (f := fun x r => g x z r) (g := fun x r => g z x r) fun x r => h x z r]
    grind
/-- The determinant of the columns from j on, n of them, over rows. -/
def detC (c : Nat → Nat → Rat) : Nat → List Nat → Nat → Rat
  | 0, _, _ => 1
  | n + 1, rows, j => pickO rows (fun x r => c j x * detC c n r (j + 1))
def updC (c : Nat → Nat → Rat) (i : Nat) (v : Nat → Rat) : Nat → Nat → Rat := fun k => if k = i then v else c k
theorem detC_congr {c d : Nat → Nat → Rat} : ∀ {n : Nat} {rows : List Nat} {j : Nat}, (∀ k, j ≤ k → k < j + n → c k = d k) → detC c n rows j = detC d n rows j
  | 0, _, _, _ => rfl
  | n + 1, rows, j, h => by
    simp only [detC]
    refine pickO_congr fun x r => ?_
    rw [h j (Nat.le_refl _) (by omega), detC_congr fun k h1 h2 => h k (by omega) (by omega)]
theorem detC_lin {c : Nat → Nat → Rat} {i : Nat} (a b : Rat) (u v : Nat → Rat) : ∀ {n : Nat} {rows : List Nat} {j : Nat}, j ≤ i → i < j + n →
    detC (updC c i (fun x => a * u x + b * v x)) n rows j = a * detC (updC c i u) n rows j + b * detC (updC c i v) n rows j
  | 0, _, _, h1, h2 => by omega
  | n + 1, rows, j, h1, h2 => by
    simp only [detC]
    by_cases e : i = j
    · subst e
      rw [← pickO_lin]
      refine pickO_congr fun x r => ?_
      have e1 : ∀ w, detC (updC c i w) n r (i + 1) = detC c n r (i + 1) := fun w => detC_congr fun k h3 _ => by unfold updC; rw [if_neg (by omega)]
      rw [e1, e1, e1]
      unfold updC
      simp only [if_true]
      grind
    · rw [← pickO_lin]
      refine pickO_congr fun x r => ?_
      rw [detC_lin a b u v (n := n) (rows := r) (j := j + 1) (by omega) (by omega)]
      have e2 : ∀ w, updC c i w j = c j := fun w => by unfold updC; rw [if_neg (by omega)]
      rw [e2, e2, e2]
      grind
theorem detC_adj {c : Nat → Nat → Rat} {i : Nat} (hc : c i = c (i + 1)) : ∀ {n : Nat} {rows : List Nat} {j : Nat}, j ≤ i → i + 1 < j + n → detC c n rows j = 0
  | 0, _, _, h1, h2 => by omega
  | 1, _, _, h1, h2 => by omega
  | n + 2, rows, j, h1, h2 => by
    by_cases e : i = j
    · subst e
      have h3 := pickO_alt rows (g := fun x y r => c i x * (c (i + 1) y * detC c n r (i + 1 + 1))) fun x y r => by rw [← hc]; grind
      rw [← h3]
      simp only [detC]
      refine pickO_congr fun x r => ?_
      have h4 := pickO_lin r (c i x) 0 (fun y r' => c (i + 1) y * detC c n r' (i + 1 + 1)) (fun _ _ => 0)
      rw [show c i x * pickO r (fun y r' => c (i + 1) y * detC c n r' (i + 1 + 1)) = c i x * pickO r (fun y r' => c (i + 1) y * detC c n r' (i + 1 + 1)) + 0 * pickO r (fun _ _ => 0) from by grind, ← h4]
      exact pickO_congr fun y r' => by grind
    · rw [detC]
      refine pickO_zero _ fun x r => ?_
      rw [detC_adj hc (n := n + 1) (rows := r) (j := j + 1) (by omega) (by omega)]
      grind
theorem updC_same (c : Nat → Nat → Rat) (i : Nat) : updC c i (c i) = c := by
  funext k
  unfold updC
  split
  · rename_i h; rw [h]
  · rfl
theorem updC_at (c : Nat → Nat → Rat) (i : Nat) (v : Nat → Rat) : updC c i v i = v := if_pos rfl
theorem updC_ne {c : Nat → Nat → Rat} {i k : Nat} (v : Nat → Rat) (h : k ≠ i) : updC c i v k = c k := if_neg h
theorem updC_comm {c : Nat → Nat → Rat} {i k : Nat} (u v : Nat → Rat) (h : k ≠ i) : updC (updC c i u) k v = updC (updC c k v) i u := by
  funext x
  unfold updC
  by_cases h1 : x = k <;> by_cases h2 : x = i <;> simp_all
theorem detC_sum {c : Nat → Nat → Rat} {i : Nat} (u v : Nat → Rat) {n : Nat} {rows : List Nat} {j : Nat} (h1 : j ≤ i) (h2 : i < j + n) : detC (updC c i (fun x => u x + v x)) n rows j = detC (updC c i u) n rows j + detC (updC c i v) n rows j := by
  have h := detC_lin (c := c) (i := i) 1 1 u v (n := n) (rows := rows) (j := j) h1 h2
  have e : (fun x => 1 * u x + 1 * v x) = fun x => u x + v x := by funext x; grind
  rw [e] at h
  rw [h]
  grind
/-- Two neighbours exchanged: the sign turns. -/
theorem detC_swap {c : Nat → Nat → Rat} {i : Nat} (u v : Nat → Rat) {n : Nat} {rows : List Nat} {j : Nat} (h1 : j ≤ i) (h2 : i + 1 < j + n) : detC (updC (updC c i u) (i + 1) v) n rows j = - detC (updC (updC c i v) (i + 1) u) n rows j := by
  have key : ∀ w : Nat → Rat, detC (updC (updC c i w) (i + 1) w) n rows j = 0 := fun w => detC_adj (i := i) (by rw [updC_ne _ (by omega), updC_at, updC_at]) h1 h2
  have k0 := key (fun x => u x + v x)
  rw [detC_sum (i := i + 1) u v (by omega) h2] at k0
  rw [updC_comm (k := i + 1) (i := i) _ _ (by omega), updC_comm (k := i + 1) (i := i) _ _ (by omega), detC_sum (i := i) u v h1 (by omega), detC_sum (i := i) u v h1 (by omega)] at k0
  rw [← updC_comm (k := i + 1) (i := i) u u (by omega), ← updC_comm (k := i + 1) (i := i) v u (by omega), ← updC_comm (k := i + 1) (i := i) u v (by omega), ← updC_comm (k := i + 1) (i := i) v v (by omega), key u, key v] at k0
  grind
/-- Two equal columns: nothing. -/
theorem detC_two : ∀ (d : Nat) {c : Nat → Nat → Rat} {p n : Nat} {rows : List Nat} {j : Nat}, c p = c (p + d + 1) → j ≤ p → p + d + 1 < j + n → detC c n rows j = 0
  | 0, c, p, n, rows, j, h, h1, h2 => detC_adj h h1 h2
  | d + 1, c, p, n, rows, j, h, h1, h2 => by
    have h3 := detC_swap (c := c) (i := p + d + 1) (c (p + d + 1)) (c (p + d + 1 + 1)) (n := n) (rows := rows) (j := j) (by omega) (by omega)
    rw [updC_same, updC_same] at h3
    rw [h3, detC_two d (p := p) (by
      rw [updC_ne _ (by omega), updC_ne _ (by omega), updC_ne _ (by omega), updC_at]
      exact h) h1 (by omega)]
    grind
/-- The sum of columns times numbers. -/
def sumC (c : Nat → Nat → Rat) (t : Nat → Rat) : Nat → Nat → Rat
  | 0, _ => 0
  | n + 1, x => sumC c t n x + t n * c n x
theorem detC_zero {c : Nat → Nat → Rat} {i : Nat} {n : Nat} {rows : List Nat} {j : Nat} (h1 : j ≤ i) (h2 : i < j + n) : detC (updC c i (fun _ => 0)) n rows j = 0 := by
  have h := detC_lin (c := c) (i := i) 0 0 (fun _ => 0) (fun _ => 0) (n := n) (rows := rows) (j := j) h1 h2
  have e : (fun _ : Nat => (0 : Rat) * 0 + 0 * 0) = fun _ => 0 := by funext x; grind
  rw [e] at h
  rw [h]
  grind
theorem detC_comb {c : Nat → Nat → Rat} {t : Nat → Rat} {i n : Nat} {rows : List Nat} (hi : i < n) : ∀ m : Nat, m ≤ n → detC (updC c i (sumC c t m)) n rows 0 = if i < m then t i * detC c n rows 0 else 0
  | 0, _ => by
    have e : sumC c t 0 = fun _ => 0 := by funext x; rfl
    rw [if_neg (by omega), e, detC_zero (Nat.zero_le _) (by omega)]
  | m + 1, hm => by
    have ih := detC_comb (c := c) (t := t) (rows := rows) hi m (by omega)
    have e : sumC c t (m + 1) = fun x => 1 * sumC c t m x + t m * c m x := by funext x; simp only [sumC]; grind
    rw [e, detC_lin (i := i) 1 (t m) (sumC c t m) (c m) (Nat.zero_le _) (by omega), ih]
    by_cases e2 : i = m
    · subst e2
      rw [updC_same, if_neg (by omega), if_pos (by omega)]
      grind
    · have e3 : detC (updC c i (c m)) n rows 0 = 0 := by
        rcases Nat.lt_or_ge i m with h3 | h3
        · exact detC_two (m - i - 1) (p := i) (by rw [updC_at, updC_ne _ (by omega)]; congr 1; omega) (Nat.zero_le _) (by omega)
        · exact detC_two (i - m - 1) (p := m) (by rw [updC_ne _ (by omega), show m + (i - m - 1) + 1 = i by omega, updC_at]) (Nat.zero_le _) (by omega)
      rw [e3]
      by_cases h4 : i < m
      · rw [if_pos h4, if_pos (by omega)]; grind
      · rw [if_neg h4, if_neg (by omega)]; grind
/-- Cramer's rule: what is replaced by a sum of the columns. -/
theorem cramer {c : Nat → Nat → Rat} {t : Nat → Rat} {i n : Nat} {rows : List Nat} (hi : i < n) : detC (updC c i (sumC c t n)) n rows 0 = t i * detC c n rows 0 := by
  rw [detC_comb hi n (Nat.le_refl _), if_pos hi]
def IsWhole (r : Rat) : Prop := ∃ z : Int, r = (z : Rat)
theorem whole_mul {a b : Rat} (h : IsWhole a) (g : IsWhole b) : IsWhole (a * b) := by
  obtain ⟨x, rfl⟩ := h
  obtain ⟨y, rfl⟩ := g
  exact ⟨x * y, by rw [Rat.intCast_mul]⟩
theorem whole_sub {a b : Rat} (h : IsWhole a) (g : IsWhole b) : IsWhole (a - b) := by
  obtain ⟨x, rfl⟩ := h
  obtain ⟨y, rfl⟩ := g
  exact ⟨x - y, by rw [Rat.intCast_sub]⟩
theorem pickO_whole {α : Type} : ∀ {l : List α} {f : α → List α → Rat}, (∀ x ∈ l, ∀ r, (∀ y ∈ r, y ∈ l) → IsWhole (f x r)) → IsWhole (pickO l f)
  | [], _, _ => ⟨0, rfl⟩
  | x :: l, f, h => by
    rw [pickO]
    refine whole_sub (h x (List.mem_cons_self ..) l fun y hy => List.mem_cons_of_mem _ hy) (pickO_whole fun y hy r hr => h y (List.mem_cons_of_mem _ hy) _ fun z hz => ?_)
    rcases List.mem_cons.1 hz with rfl | hz
    · exact List.mem_cons_self ..
    · exact List.mem_cons_of_mem _ (hr z hz)
theorem detC_whole {c : Nat → Nat → Rat} : ∀ {n : Nat} {rows : List Nat} {j : Nat}, (∀ k, j ≤ k → k < j + n → ∀ x ∈ rows, IsWhole (c k x)) → IsWhole (detC c n rows j)
  | 0, _, _, _ => ⟨1, rfl⟩
  | n + 1, rows, j, h => by
    simp only [detC]
    exact pickO_whole fun x hx r hr => whole_mul (h j (Nat.le_refl _) (by omega) x hx) (detC_whole fun k h1 h2 y hy => h k (by omega) (by omega) y (hr y hy))
end Go.Proofs.Ytapegimghfflhaa
end

section
namespace Go.Proofs.Ytapegimghfflhaa
theorem pickO_congrM {α : Type} : ∀ {l : List α} {f g : α → List α → Rat}, (∀ x ∈ l, ∀ r, (∀ y ∈ r, y ∈ l) → f x r = g x r) → pickO l f = pickO l g
  | [], _, _, _ => rfl
  | x :: l, f, g, h => by
    rw [pickO, pickO, h x (List.mem_cons_self ..) l fun y hy => List.mem_cons_of_mem _ hy, pickO_congrM (l := l) fun y hy r hr => h y (List.mem_cons_of_mem _ hy) _ fun z hz => ?_]
    rcases List.mem_cons.1 hz with rfl | hz
    · exact List.mem_cons_self ..
    · exact List.mem_cons_of_mem _ (hr z hz)
theorem detC_congrM {c d : Nat → Nat → Rat} : ∀ {n : Nat} {rows : List Nat} {j : Nat}, (∀ k, j ≤ k → k < j + n → ∀ x ∈ rows, c k x = d k x) → detC c n rows j = detC d n rows j
  | 0, _, _, _ => rfl
  | n + 1, rows, j, h => by
    simp only [detC]
    refine pickO_congrM fun x hx r hr => ?_
    rw [h j (Nat.le_refl _) (by omega) x hx, detC_congrM fun k h1 h2 y hy => h k (by omega) (by omega) y (hr y hy)]
theorem pickO_last {α : Type} {z : α} : ∀ {l : List α} {f : α → List α → Rat}, f z l = 0 → pickO (l ++ [z]) f = pickO l (fun x r => f x (r ++ [z]))
  | [], f, h => by
    show f z [] - 0 = 0
    rw [h]; grind
  | x :: l, f, h => by
    rw [List.cons_append, pickO, pickO, pickO_last (l := l) (f := fun y r => f y (x :: r)) h]
    rfl
theorem detC_last0 {c : Nat → Nat → Rat} : ∀ {n : Nat} {rows : List Nat} {j : Nat}, (∀ x ∈ rows, c (j + n) x = 0) → detC c (n + 1) rows j = 0
  | 0, rows, j, h => by
    simp only [detC]
    rw [pickO_congrM (g := fun _ _ => 0) fun x hx r _ => by
      have h2 := h x hx
      rw [Nat.add_zero] at h2
      rw [h2]; grind]
    exact pickO_zero _ fun _ _ => rfl
  | n + 1, rows, j, h => by
    rw [detC, pickO_congrM (g := fun _ _ => 0) fun x hx r hr => by
      rw [detC_last0 (n := n) (rows := r) (j := j + 1) fun y hy => by rw [show j + 1 + n = j + (n + 1) by omega]; exact h y (hr y hy)]
      grind]
    exact pickO_zero _ fun _ _ => rfl
/-- The last column is 0 but in the last row. -/
theorem detC_corner {c : Nat → Nat → Rat} {z : Nat} : ∀ {n : Nat} {rows : List Nat} {j : Nat}, (∀ x ∈ rows, c (j + n) x = 0) → rows.length = n → detC c (n + 1) (rows ++ [z]) j = detC c n rows j * c (j + n) z
  | 0, rows, j, h, hl => by
    obtain rfl := List.eq_nil_of_length_eq_zero hl
    show c j z * 1 - 0 = 1 * c (j + 0) z
    rw [Nat.add_zero]; grind
  | n + 1, rows, j, h, hl => by
    rw [detC, pickO_last (by rw [detC_last0 (n := n) (rows := rows) (j := j + 1) fun y hy => by rw [show j + 1 + n = j + (n + 1) by omega]; exact h y hy]; grind)]
    have key : ∀ {l : List Nat} {m : Nat} {f g : Nat → List Nat → Rat} {s : Rat}, l.length = m + 1 → (∀ x ∈ l, ∀ r, (∀ y ∈ r, y ∈ l) → r.length = m → f x r = g x r * s) → pickO l f = pickO l g * s := by
      intro l
      induction l with
      | nil => intro m f g s h; simp at h
      | cons x l ih =>
        intro m f g s h h2
        rw [pickO, pickO, h2 x (List.mem_cons_self ..) l (fun y hy => List.mem_cons_of_mem _ hy) (by simpa using h)]
        cases m with
        | zero =>
          obtain rfl := List.eq_nil_of_length_eq_zero (by simpa using h : l.length = 0)
          simp only [pickO]; grind
        | succ m =>
          rw [ih (m := m) (f := fun y r => f y (x :: r)) (g := fun y r => g y (x :: r)) (s := s) (by simpa using h) fun y hy r hr hl => h2 y (List.mem_cons_of_mem _ hy) _ (fun z hz => by
            rcases List.mem_cons.1 hz with rfl | hz
            · exact List.mem_cons_self ..
            · exact List.mem_cons_of_mem _ (hr z hz)) (by simpa using hl)]
          grind
    rw [detC]
    refine key hl fun x hx r hr hrl => ?_
    rw [detC_corner (n := n) (rows := r) (j := j + 1) (fun y hy => by rw [show j + 1 + n = j + (n + 1) by omega]; exact h y (hr y hy)) hrl, show j + 1 + n = j + (n + 1) by omega]
    grind
/-- Gauss and Jordan's elimination: k columns are done. -/
def gj (A : Nat → Nat → Rat) : Nat → Nat → Nat → Rat
  | 0, i, j => A i j
  | k + 1, i, j => if i = k then gj A k k j / gj A k k k else gj A k i j - gj A k i k * (gj A k k j / gj A k k k)
/-- The product of the pivots. -/
def piv (A : Nat → Nat → Rat) : Nat → Rat
  | 0 => 1
  | k + 1 => piv A k * gj A k k k
/-- The sum of the first k columns times what stands in a column. -/
def sumR (f : Nat → Rat) : Nat → Rat
  | 0 => 0
  | n + 1 => sumR f n + f n
theorem sumR_congr {f g : Nat → Rat} : ∀ {n : Nat}, (∀ k, k < n → f k = g k) → sumR f n = sumR g n
  | 0, _ => rfl
  | n + 1, h => by rw [sumR, sumR, sumR_congr fun k hk => h k (by omega), h n (by omega)]
theorem sumR_lin (a b : Rat) (f g : Nat → Rat) : ∀ n : Nat, sumR (fun k => a * f k + b * g k) n = a * sumR f n + b * sumR g n
  | 0 => by simp only [sumR]; grind
  | n + 1 => by simp only [sumR]; rw [sumR_lin a b f g n]; grind
theorem gj_all {A : Nat → Nat → Rat} (j : Nat) : ∀ {k : Nat} (i : Nat), (∀ p, p < k → gj A p p p ≠ 0) → A i j = sumR (fun p => A i p * gj A k p j) k + (if i < k then 0 else gj A k i j)
  | 0, i, _ => by rw [if_neg (by omega)]; simp only [sumR, gj]; grind
  | k + 1, i, h => by
    have h1 := gj_all (A := A) j (k := k) i fun p hp => h p (by omega)
    have h2 := gj_all (A := A) k (k := k) i fun p hp => h p (by omega)
    have hn := h k (by omega)
    generalize hc : gj A k k j / gj A k k k = c
    have e : sumR (fun p => A i p * gj A (k + 1) p j) k = sumR (fun p => 1 * (A i p * gj A k p j) + (-c) * (A i p * gj A k p k)) k := sumR_congr fun p hp => by
      simp only [gj]
      rw [if_neg (by omega), hc]
      grind
    have e3 : gj A (k + 1) k j = c := by simp only [gj]; rw [if_pos trivial, hc]
    rw [sumR, e, sumR_lin, e3]
    have e4 : c * gj A k k k = gj A k k j := by rw [← hc]; grind
    rcases Nat.lt_trichotomy i k with h3 | h3 | h3
    · rw [if_pos h3] at h1 h2
      rw [if_pos (by omega)]
      grind
    · subst h3
      rw [if_neg (by omega)] at h1 h2
      rw [if_pos (by omega)]
      grind
    · rw [if_neg (by omega)] at h1 h2
      rw [if_neg (by omega)]
      have e5 : gj A (k + 1) i j = gj A k i j - gj A k i k * c := by simp only [gj]; rw [if_neg (by omega), hc]
      rw [e5]
      grind
theorem sumC_sumR (c : Nat → Nat → Rat) (t : Nat → Rat) (x : Nat) : ∀ n : Nat, sumC c t n x = sumR (fun p => c p x * t p) n
  | 0 => rfl
  | n + 1 => by rw [sumC, sumR, sumC_sumR c t x n]; grind
theorem piv_det {A : Nat → Nat → Rat} : ∀ {k : Nat}, (∀ p, p < k → gj A p p p ≠ 0) → piv A k = detC (fun j x => A x j) k (List.range k) 0
  | 0, _ => rfl
  | k + 1, h => by
    have hp : ∀ p, p < k → gj A p p p ≠ 0 := fun p hp => h p (by omega)
    rw [piv, piv_det hp]
    generalize hC : (fun j x => A x j) = C
    have hC2 : ∀ j x, C j x = A x j := fun j x => by rw [← hC]
    -- the last column without the sum of the others
    have e1 : detC C (k + 1) (List.range (k + 1)) 0 = detC (updC C k (fun x => sumC C (fun p => gj A k p k) k x + (if x < k then 0 else gj A k x k))) (k + 1) (List.range (k + 1)) 0 := detC_congrM fun q _ hq x hx => by
      by_cases e : q = k
      · subst e
        rw [updC_at, sumC_sumR, hC2, gj_all q x hp]
        congr 1
        exact sumR_congr fun p hp => by rw [hC2]
      · rw [updC_ne _ e]
    have e2 : detC (updC C k (sumC C (fun p => gj A k p k) k)) (k + 1) (List.range (k + 1)) 0 = 0 := by
      rw [detC_comb (by omega) k (by omega), if_neg (by omega)]
    rw [e1, detC_sum _ _ (by omega) (by omega), e2, List.range_succ, detC_corner (fun x hx => by
      rw [Nat.zero_add, updC_at, if_pos (List.mem_range.1 hx)]) List.length_range]
    rw [Nat.zero_add, updC_at, if_neg (by omega), detC_congr (c := updC C k _) (d := C) fun q _ hq => updC_ne _ (by omega)]
    grind
theorem whole_zero : IsWhole 0 := ⟨0, rfl⟩
theorem whole_add {a b : Rat} (h : IsWhole a) (g : IsWhole b) : IsWhole (a + b) := by
  obtain ⟨x, rfl⟩ := h
  obtain ⟨y, rfl⟩ := g
  exact ⟨x + y, by rw [Rat.intCast_add]⟩
theorem whole_sumR {f : Nat → Rat} : ∀ {n : Nat}, (∀ k, k < n → IsWhole (f k)) → IsWhole (sumR f n)
  | 0, _ => whole_zero
  | n + 1, h => whole_add (whole_sumR fun k hk => h k (by omega)) (h n (by omega))
theorem piv_whole {A : Nat → Nat → Rat} (hA : ∀ i j, IsWhole (A i j)) {k : Nat} (h : ∀ p, p < k → gj A p p p ≠ 0) : IsWhole (piv A k) := by
  rw [piv_det h]
  exact detC_whole fun q _ _ x _ => hA x q
/-- All numbers of the elimination without fractions are whole. -/
theorem gj_whole {A : Nat → Nat → Rat} (hA : ∀ i j, IsWhole (A i j)) {k : Nat} (h : ∀ p, p < k → gj A p p p ≠ 0) (i j : Nat) : IsWhole (piv A k * gj A k i j) := by
  have low : ∀ p, p < k → IsWhole (piv A k * gj A k p j) := fun p hp => by
    have e := cramer (c := fun j x => A x j) (t := fun p => gj A k p j) (rows := List.range k) hp
    rw [← piv_det h] at e
    rw [show piv A k * gj A k p j = gj A k p j * piv A k by grind, ← e]
    rw [detC_congrM (d := updC (fun j x => A x j) p (fun x => A x j)) fun q _ _ x hx => ?_]
    · exact detC_whole fun q _ _ x _ => by
        unfold updC
        split
        · exact hA _ _
        · exact hA _ _
    · by_cases e2 : q = p
      · subst e2
        rw [updC_at, updC_at, sumC_sumR]
        have e3 := gj_all (A := A) j x h
        rw [if_pos (List.mem_range.1 hx)] at e3
        rw [e3]
        grind
      · rw [updC_ne _ e2, updC_ne _ e2]
  rcases Nat.lt_or_ge i k with h1 | h1
  · exact low i h1
  · have e3 := gj_all (A := A) j i h
    rw [if_neg (by omega)] at e3
    have e4 : piv A k * gj A k i j = piv A k * A i j - sumR (fun p => piv A k * (A i p * gj A k p j) + 0 * 0) k := by
      have e5 := sumR_lin (piv A k) 0 (fun p => A i p * gj A k p j) (fun _ => 0) k
      rw [e5]
      grind
    rw [e4]
    refine whole_sub (whole_mul (piv_whole hA h) (hA _ _)) (whole_sumR fun p hp => ?_)
    rw [show piv A k * (A i p * gj A k p j) + 0 * 0 = A i p * (piv A k * gj A k p j) by grind]
    exact whole_mul (hA _ _) (low p hp)
/-- One step without fractions. -/
theorem gj_step {A : Nat → Nat → Rat} {k : Nat} (h : ∀ p, p < k + 1 → gj A p p p ≠ 0) (i j : Nat) (hi : i ≠ k) : piv A (k + 1) * (piv A k * gj A k i j) - (piv A k * gj A k i k) * (piv A k * gj A k k j) = piv A k * (piv A (k + 1) * gj A (k + 1) i j) := by
  have hn := h k (by omega)
  simp only [gj, piv]
  rw [if_neg hi]
  generalize hc : gj A k k j / gj A k k k = c
  have e4 : c * gj A k k k = gj A k k j := by rw [← hc]; grind
  rw [← e4]
  grind
theorem gj_row {A : Nat → Nat → Rat} {k : Nat} (h : ∀ p, p < k + 1 → gj A p p p ≠ 0) (j : Nat) : piv A (k + 1) * gj A (k + 1) k j = piv A k * gj A k k j := by
  have hn := h k (by omega)
  simp only [gj, piv]
  rw [if_pos trivial]
  grind
end Go.Proofs.Ytapegimghfflhaa
end
