/- Small facts for the walk of TopWorksDried. -/
import Derived.Test.YtbojmcopagbheaaGreatDoorRD
import Derived.Test.YtbojmcopagbheaaGreatDoorYLShown
import Derived.Test.YtbojmcopagbheaaGreatDoorY8LawT
import Derived.Test.YtbojmcopagbheaaGreatDoorXBest
import Derived.Test.YtbojmcopagbheaaGreatDoorRF
import Derived.Test.YtbojmcopagbheaaGreatDoorZTRefStack
namespace Go.Proofs.YtbojmcopagbheaaGreatDoor
open Go.RowKit

theorem baseMod_int (a b : Int) (w : World) (h1 : 1 ≤ b) (h2 : b ≤ 1000000000000) :
    Calls Tryz.prog 14 #[.int .i64 a, .int .i64 b] w fun e w' => e = .returned (.int .i64 (a % b)) ∧ w = w' := by
  obtain ⟨n, rfl⟩ := Int.eq_ofNat_of_zero_le (show 0 ≤ b by omega)
  refine (baseMod_any a n w (by omega) (by omega)).mono ?_
  rintro e w' ⟨rfl, rfl⟩
  refine ⟨?_, rfl⟩
  unfold modV
  rw [Int.toNat_of_nonneg (Int.emod_nonneg a (by omega))]

theorem load_task {m le re : Int} (h1 : 0 ≤ m ∧ m ≤ 1) (h2 : 1 ≤ le ∧ le ≤ 61) (h3 : 0 ≤ re ∧ re ≤ 4) : taskOut (parseT (fmtT m le re [])) = (⟨m, le, re, []⟩, 0) := by
  rw [parse_task (by omega) (by omega) (by omega) (fun n hn => by cases hn)]
  have ht : taskE1 ⟨m, le, re, []⟩ = 0 := by
    refine firstV_zero.2 ⟨(unless_ne (by decide)).2 ?_, firstV_zero.2 ⟨(unless_ne (by decide)).2 (decide_eq_true (by simp)), rfl⟩⟩
    unfold withinB
    dsimp only
    rw [decide_eq_true (by omega), decide_eq_true (by omega), decide_eq_true (by omega), decide_eq_true (by omega), decide_eq_true (by omega), decide_eq_true (by omega)]
    rfl
  have hE : taskE ⟨m, le, re, []⟩ = 0 := by
    unfold taskE
    rw [if_neg (by rw [ht]; simp)]
    exact congrArg Prod.snd (scan_all _ 0 rfl fun j _ hj => by simp at hj)
  unfold taskOut
  dsimp only
  rw [if_pos hE]
theorem load_len {m le re : Int} (h1 : 0 ≤ m ∧ m ≤ 1) (h2 : 1 ≤ le ∧ le ≤ 61) (h3 : 0 ≤ re ∧ re ≤ 4) : (fmtT m le re []).length ≤ 500 :=
  fmtT_len m le re [] (by unfold I64; omega) (by unfold I64; omega) (by unfold I64; omega) (fun x hx => by cases hx) (by simp)

theorem dr_oven {lo hi fl : Int} (h : ovenE lo hi fl = 0) : 0 ≤ fl ∧ fl ≤ 1000000 ∧ 0 ≤ lo ∧ lo ≤ 1000 ∧ 0 ≤ hi ∧ hi ≤ 1000 ∧ lo ≤ hi := by
  obtain ⟨h1, h2⟩ := firstV_zero.1 h
  have h3 := (unless_ne (by decide)).1 (firstV_zero.1 h2).1
  have h4 := (unless_ne (by decide)).1 (firstV_zero.1 h1).1
  have h5 := (unless_ne (by decide)).1 (firstV_zero.1 (firstV_zero.1 h1).2).1
  simp only [waterB, rateB, withinB, Bool.and_eq_true, decide_eq_true_eq] at h3 h4 h5
  omega
theorem dr_water {lo hi : Int} (h : rangeErrV waterB lo hi = 0) : 0 ≤ lo ∧ lo ≤ 1000000 ∧ 0 ≤ hi ∧ hi ≤ 1000000 ∧ lo ≤ hi := by
  have h4 := (unless_ne (by decide)).1 (firstV_zero.1 h).1
  have h5 := (unless_ne (by decide)).1 (firstV_zero.1 (firstV_zero.1 h).2).1
  simp only [waterB, withinB, Bool.and_eq_true, decide_eq_true_eq] at h4 h5
  omega
theorem dr_steps {lo hi fl wlo whi t : Int} (h1 : ovenE lo hi fl = 0) (h2 : rangeErrV waterB wlo whi = 0) (h3 : withinB t 0 1000000 = true) : stepsErrV lo hi fl wlo whi t = 0 :=
  firstV_zero.2 ⟨firstV_zero.2 ⟨h1, firstV_zero.2 ⟨h2, rfl⟩⟩, firstV_zero.2 ⟨(unless_ne (by decide)).2 h3, rfl⟩⟩
theorem dr_ov {ov : Int} (h : withinB ov 1 2 = true) : 1 ≤ ov ∧ ov ≤ 2 := by
  simp only [withinB, Bool.and_eq_true, decide_eq_true_eq] at h
  exact h
theorem TaskRow.put1 {w : World} {us : List Value} {ts : List Task} (h : TaskRow w us ts) {m le re : Int} : TaskRow w (us ++ [.int .i64 m, .int .i64 le, .int .i64 re, .slice none 0 0]) (ts ++ [⟨m, le, re, []⟩]) :=
  h.snoc (x := ⟨m, le, re, []⟩) (A := none) (c := 0) (.inl rfl) (Nat.le_refl _)

/-- A block of another kind is none of the own row. -/
theorem own_apart {w : World} {base size g n : Nat} {e t : TypeId} {v : Value} {xs : List Value} {cs : Array Value} (ho : w.ownsRow base e size v n xs) (hb : Blk w g t cs) (hne : e ≠ t) : some g ≠ v.ownBlock := fun h => by
  rcases ho.2 with ⟨h1, _⟩ | ⟨g', cap, cur, h1, _, hh, _⟩
  · rw [h1] at h; cases h
  · rw [h1] at h
    have : g = g' := by simpa [Value.ownBlock] using h
    subst this
    unfold Blk at hb
    rw [hb] at hh
    injection hh with hh
    injection hh with _ hh
    exact hne hh.symm


/-- Where the walk over one order of all tasks stands. -/
structure OrdAt (ts : List Task) (o : Nat) (T : Int) (k rest : Nat) (left fr : List Int) (last : Int) : Prop where
  lk : left.length = k
  kn : k ≤ ts.length
  lf : fr.length = o
  mem : ∀ x ∈ left, ∃ i : Nat, x = (i : Int) ∧ i < ts.length
  bf : ∀ m, 0 ≤ fr.getD m 0 ∧ fr.getD m 0 ≤ 100 * ((ts.length - k : Nat) : Int)
  bl : 0 ≤ last ∧ last ≤ 100 * ((ts.length - k : Nat) : Int)
  eq : ordR ts k rest left fr last = T
/-- Tasks of a few ovens, with small numbers. -/
def SmallT (ts : List Task) (o : Nat) : Prop := ts.length ≤ 5 ∧ ∀ i, i < ts.length → (∃ q : Nat, (ts.getD i default).machine = (q : Int) ∧ q < o) ∧ 0 ≤ (ts.getD i default).release ∧ (ts.getD i default).release ≤ 4 ∧ 1 ≤ (ts.getD i default).length ∧ (ts.getD i default).length ≤ 61
theorem OrdAt.step {ts : List Task} {o : Nat} {T : Int} {k rest : Nat} {left fr : List Int} {last : Int} (hs : SmallT ts o) (h : OrdAt ts o T (k + 1) rest left fr last) :
    ∃ i q : Nat, left.getD (rest % (k + 1)) 0 = (i : Int) ∧ i < ts.length ∧ (ts.getD i default).machine = (q : Int) ∧ q < o ∧
      0 ≤ max (fr.getD q 0) (ts.getD i default).release + (ts.getD i default).length ∧ max (fr.getD q 0) (ts.getD i default).release + (ts.getD i default).length ≤ 1000 ∧
      OrdAt ts o T k (rest / (k + 1)) (left.eraseIdx (rest % (k + 1))) (fr.set q (max (fr.getD q 0) (ts.getD i default).release + (ts.getD i default).length)) (max last (max (fr.getD q 0) (ts.getD i default).release + (ts.getD i default).length)) := by
  obtain ⟨lk, kn, lf, mem, bf, bl, eq⟩ := h
  have hp : rest % (k + 1) < k + 1 := Nat.mod_lt _ (Nat.succ_pos k)
  obtain ⟨i, e, hi⟩ := mem _ (getD_mem (show rest % (k + 1) < left.length by omega))
  obtain ⟨h5, hs⟩ := hs
  obtain ⟨⟨q, em, hq⟩, r0, r1, l0, l1⟩ := hs i hi
  have b := bf q
  have hE0 : 0 ≤ max (fr.getD q 0) (ts.getD i default).release + (ts.getD i default).length := by omega
  have hE1 : max (fr.getD q 0) (ts.getD i default).release + (ts.getD i default).length ≤ 100 * ((ts.length - k : Nat) : Int) := by omega
  refine ⟨i, q, e, hi, em, hq, hE0, by omega, ⟨?_, by omega, by simpa using lf, fun x hx => mem x (List.mem_of_mem_eraseIdx hx), fun m => ?_, by omega, ?_⟩⟩
  · rw [List.length_eraseIdx, if_pos (by omega)]; omega
  · rw [getD_set]
    split
    · exact ⟨hE0, hE1⟩
    · have := bf m; omega
  · rw [← eq, ordR, e, Int.toNat_natCast, em, Int.toNat_natCast]
    simp only [mx_max]
theorem OrdAt.step1 {ts : List Task} {o : Nat} {T : Int} {k rest : Nat} {left fr : List Int} {last : Int} (hs : SmallT ts o) (h : OrdAt ts o T k rest left fr last) (hk : 0 < k) :
    ∃ i q : Nat, left.getD (rest % k) 0 = (i : Int) ∧ i < ts.length ∧ (ts.getD i default).machine = (q : Int) ∧ q < o ∧
      0 ≤ max (fr.getD q 0) (ts.getD i default).release + (ts.getD i default).length ∧ max (fr.getD q 0) (ts.getD i default).release + (ts.getD i default).length ≤ 1000 ∧
      OrdAt ts o T (k - 1) (rest / k) (left.eraseIdx (rest % k)) (fr.set q (max (fr.getD q 0) (ts.getD i default).release + (ts.getD i default).length)) (max last (max (fr.getD q 0) (ts.getD i default).release + (ts.getD i default).length)) := by
  obtain ⟨j, rfl⟩ : ∃ j, k = j + 1 := ⟨k - 1, by omega⟩
  exact h.step hs
theorem cellsIn_cells (w : World) (t : TypeId) (cs : Array Value) : CellsIn (w.heap.size + 1) (w.alloc (.cells cs t)) (some ⟨w.heap.size, 0, none⟩) cs.toList := cellsIn_blk w t cs
theorem dried_small {ov : Nat} {xs : List Load} {n : Nat} (h : DriedOk (ov : Int) xs n) : SmallT (loadTs (ov : Int) xs n) ov := by
  obtain ⟨h1, h5, v1, v2, hs⟩ := h
  refine ⟨by rw [loadTs_len]; exact h5, fun i hi => ?_⟩
  rw [loadTs_len] at hi
  rw [loadTs_get _ xs hi]
  obtain ⟨m1, m2⟩ := tmod_bd v1 i
  obtain ⟨s1, s2⟩ := hs i hi
  unfold loadT
  dsimp only
  refine ⟨⟨((i : Int).tmod (ov : Int)).toNat, by omega, by omega⟩, by omega, by omega, by omega, by omega⟩
theorem ord_start {ts : List Task} {o : Nat} (r : Nat) : OrdAt ts o (ordEnd ts o r) ts.length r (idxs ts.length) (List.replicate o 0) 0 := by
  refine ⟨idxs_len _, Nat.le_refl _, by simp, fun x hx => ?_, fun m => ?_, by omega, rfl⟩
  · obtain ⟨i, hi, e⟩ := idxs_mem.1 hx
    exact ⟨i, e, hi⟩
  · have : (List.replicate o (0 : Int)).getD m 0 = 0 := by
      simp only [List.getD, List.getElem?_replicate]
      split <;> rfl
    rw [this]
    omega
theorem OrdAt.end_ {ts : List Task} {o : Nat} {T : Int} {rest : Nat} {left fr : List Int} {last : Int} (h : OrdAt ts o T 0 rest left fr last) : last = T := by
  rw [← h.eq]; rfl
theorem fct_le : ∀ {n : Nat}, n ≤ 5 → fct n ≤ 120
  | 0, _ => by decide
  | 1, _ => by decide
  | 2, _ => by decide
  | 3, _ => by decide
  | 4, _ => by decide
  | 5, _ => by decide
  | n + 6, h => by omega
theorem count_step {j : Nat} (h : j + 1 ≤ 5) : IntKind.i64.wrap ((fct j : Int) * ((j : Int) + 1)) = (fct (j + 1) : Int) := by
  have h1 : (fct j : Int) * ((j : Int) + 1) = (fct (j + 1) : Int) := by rw [fct]; push_cast; rfl
  rw [h1]
  have := fct_le h
  exact IntWalk.i64_in _ (by omega)
theorem blk_int {w : World} {g : Nat} {xs : List Int} (h : Blk w g 3 (iarr xs)) {j : Nat} (hj : j < xs.length) : w.cell? ⟨g, j, none⟩ = some (.int .i64 (xs.getD j 0)) := h.cellAt j (iarr_get xs j hj)
theorem blk_set {w : World} {g : Nat} {xs : List Int} (h : Blk w g 3 (iarr xs)) (j : Nat) (x : Int) : Blk (w.setCell ⟨g, j, none⟩ (.int .i64 x)) g 3 (iarr (xs.set j x)) := by
  rw [← iarr_set]
  exact h.set_ j _
theorem slice_nums {p k c s : Nat} (h1 : p < k) (h2 : k ≤ c) (h3 : k ≤ 5) (hs : s = p + 1) : (p : Int) ≤ (c : Int) ∧ IntKind.i64.wrap ((p : Int) + 1) = (s : Int) ∧ RowKit.wrap64 ((p : Int) + 1) = (s : Int) ∧ (s : Int) ≤ (k : Int) ∧ (0 : Int) ≤ (s : Int) ∧ ¬ c = 0 ∧ p + (k - s) = k - 1 ∧ s ≤ k ∧ p + (k - s) ≤ maxLen ∧ (p + (k - s)) * 8 ≤ 140737488355328 ∧ (s : Int) ≤ (c : Int) := by
  have a2 : IntKind.i64.wrap ((p : Int) + 1) = (s : Int) := (IntWalk.i64_in _ (by omega)).trans (by omega)
  exact ⟨by omega, a2, (IntWalk.i64_left _).symm.trans a2, by omega, by omega, by omega, by omega, by omega, by simp only [maxLen]; omega, by omega, by omega⟩
theorem lt_meas {F n : Nat} (h : n < F) : F - (n + 1) < F - n := by omega
theorem meas8 {p k s : Nat} (h : p + (k - s) = k - 1) (hk : 0 < k) : p + (k - s) < k := by omega
theorem eq_last {r n : Nat} (h1 : r < n + 1) (h : n ≤ r) : r = n := by omega
theorem vint_succ (n : Nat) : Value.int .i64 ((n : Int) + 1) = Value.int .i64 ((n + 1 : Nat) : Int) := by push_cast; rfl
theorem om1 {m : Nat} (h : (m : Int) ≤ 2) : m ≤ 2 := by omega
theorem om2 {j n : Nat} (h : j < n) : (j : Int) + 1 ≤ (n : Int) := by omega
theorem om3 {j n : Nat} (h : j < n) (h1 : n ≤ 5) : j + 1 ≤ 5 := by omega
theorem om4 {j n : Nat} (h : j < n) (h1 : n ≤ 5) : IntKind.i64.wrap ((j : Int) + 1 + 1) = (j : Int) + 1 + 1 := IntWalk.i64_in _ (by omega)
theorem om5 {j n : Nat} (h : j < n) : n + 2 - ((j : Int) + 1 + 1).toNat < n + 2 - ((j : Int) + 1).toNat := by omega
theorem om6 {j n : Nat} (h : ¬ j < n) : ¬ (j : Int) + 1 ≤ (n : Int) := by omega
theorem om9 {j n : Nat} (h : j ≤ n) (h1 : n ≤ 5) : j + 1 ≤ maxLen ∧ (j + 1) * 8 ≤ 140737488355328 := ⟨by simp only [maxLen]; omega, by omega⟩
theorem om12 {j n : Nat} (h : j < n) : n - ((j : Int) + 1).toNat < n - (j : Int).toNat := by omega
theorem om13 {m : Nat} (h : m ≤ 2) : 8 * m ≤ 281474976710656 ∧ m ≤ 9223372036854775807 := ⟨by omega, by omega⟩
theorem nn_cast (n : Nat) : (0 : Int) ≤ (n : Int) := by omega
theorem lt_cast {a b : Nat} (h : a < b) : (a : Int) < (b : Int) := by omega
theorem ne_zero_facts {k : Nat} (h : 0 < k) : ((k : Int) == 0) = false ∧ ¬ (k : Int) = 0 ∧ ¬ (k : Int) = -1 ∧ (0 : Int) < (k : Int) := ⟨beq_eq_false_iff_ne.2 (by omega), by omega, by omega, by omega⟩
theorem max_wraps {f re le : Int} (b0 : 0 ≤ max f re + le) (b1 : max f re + le ≤ 1000) : IntKind.i64.wrap (max f re + le) = max f re + le ∧ RowKit.wrap64 (max f re + le) = max f re + le := by
  have h : IntKind.i64.wrap (max f re + le) = max f re + le := IntWalk.i64_in _ (by omega)
  exact ⟨h, (IntWalk.i64_left _).symm.trans h⟩
theorem small_wrap {z : Nat} (hz : z ≤ 120) : RowKit.wrap64 (z : Int) = (z : Int) := (IntWalk.i64_left _).symm.trans (IntWalk.i64_in _ (by omega))
theorem set_size (w : World) (p : Addr) (u : Value) : ((w.setCell p u).drew).heap.size = w.heap.size := by simp
theorem set_size' (w : World) (p : Addr) (u : Value) : (w.setCell p u).heap.size = w.heap.size := by simp
theorem own_addr {w : World} {base size n c : Nat} {e : TypeId} {A : Option Addr} {xs : List Value} (h : w.ownsRow base e size (.slice A n c) n xs) {b off : Nat} (hA : A = some ⟨b, off, none⟩) : base ≤ b := by
  rcases h.2 with ⟨h1, _⟩ | ⟨g, cap, cur, h1, hb, _⟩
  · injection h1 with h1 _ _; rw [hA] at h1; cases h1
  · injection h1 with h1 _ _; rw [hA] at h1; injection h1 with h1; injection h1 with h1 _; omega
theorem intsIn_far {B : Nat} {w : World} {b off : Nat} {xs : List Int} (h : IntsIn B w (some ⟨b, off, none⟩) xs) {p : Addr} (hp : p.block ≠ b) {u : Value} : IntsIn B (w.setCell p u) (some ⟨b, off, none⟩) xs := by
  rcases h with h | ⟨b', off', hA, hb, hc⟩
  · exact .inl h
  · injection hA with hA
    injection hA with e1 e2
    subst e1 e2
    exact .inr ⟨_, _, rfl, hb, fun j hj => (World.cell?_setCell_other w p _ u (fun e => by subst e; simp at hp)).trans (hc j hj)⟩
theorem intsIn_drop {B : Nat} {w : World} {b off : Nat} {xs : List Int} (h : IntsIn B w (some ⟨b, off, none⟩) xs) (d : Nat) : IntsIn B w (some ⟨b, off + d, none⟩) (xs.drop d) := by
  rcases h with h | ⟨b', off', hA, hb, hc⟩
  · left; rw [h]; simp
  · injection hA with hA
    injection hA with e1 e2
    subst e1 e2
    refine .inr ⟨_, _, rfl, hb, fun j hj => ?_⟩
    have hj' : d + j < xs.length := by simp at hj; omega
    rw [Nat.add_assoc, hc _ hj']
    simp [List.getD]
theorem erase_split (l : List Int) (p : Nat) : (l.take p).map (Value.int .i64) ++ (l.drop (p + 1)).map (Value.int .i64) = (l.eraseIdx p).map (Value.int .i64) := by
  rw [List.eraseIdx_eq_take_drop_succ, List.map_append]

end Go.Proofs.YtbojmcopagbheaaGreatDoor
