/- Contracts: greatest common divisors and lowest terms of any numbers, the second one above 0: the program's and the specification's.
Plain facts on the errors of sources; where sources lie in memory. No program is in sight.
Plain facts on currents as fractions: what the currents of sources are, and which ones are accepted. No program is in sight.
Where sources and currents lie: their cells, one behind the other. Contracts: the specification's copies of them. -/
import Derived.Test.YtpdkbhjcpddnpaaGreatDoorOc4
import Derived.Test.YtpdkbhjcpddnpaaGreatDoorOb8
import Derived.Test.YtpdkbhjcpddnpaaGreatDoorOa3
import Derived.Test.YtpdkbhjcpddnpaaGreatDoorOa6

section
namespace Go.Proofs.YtpdkbhjcpddnpaaGreatDoor
open Go.RowKit
attribute [local go_sem ↓] Go.wp_at_zero Go.wp_at_succ

def W64 (n : Int) : Prop := -9223372036854775808 ≤ n ∧ n ≤ 9223372036854775807
theorem tmod_w64 {a b : Int} (h0 : b ≠ 0) (hb : W64 b) : Sm 9223372036854775807 (a.tmod b) := by
  unfold Sm
  unfold W64 at hb
  have h1 := Int.natAbs_tmod a b
  have h2 : a.natAbs % b.natAbs < b.natAbs := Nat.mod_lt _ (by omega)
  omega

set_option maxHeartbeats 1000000 in
theorem divisor_all (a b : Int) (ha : W64 a) (hb : Sm 9223372036854775807 b) (hz : b ≠ 0) (w : World) :
    Calls Tryz.prog 90 #[.int .i64 a, .int .i64 b] w fun e w' => e = .returned (.int .i64 (gcdI a b)) ∧ Below w.heap.size w w' := by
  go_enter Tryz.func90, Tryz.ntmps90
  go_wp2
  go_loopw [0, 1] (fun x y wr => ∃ a' b' : Int, x = .int .i64 a' ∧ y = .int .i64 b' ∧ W64 a' ∧ Sm 9223372036854775807 b' ∧ (b' = 0 → Sm 9223372036854775807 a') ∧ gcdI a b = gcdI a' b' ∧ Below w.heap.size w wr) (fun _ y _ => (intOf y).natAbs)
  case atStart => exact ⟨a, b, rfl, rfl, ha, hb, fun e => absurd e hz, rfl, pr⟩
  case round =>
    obtain ⟨a', b', rfl, rfl, h1, h2, h3, hg, hS⟩ := hrel
    have HG := Lib.hid hg
    have HS := Lib.hid hS
    have H1 := Lib.hid h1
    have H2 := Lib.hid h2
    clear hg hS ha hb hz
    unfold W64 at h1
    unfold Sm at h2 h3
    by_cases h0 : b' = 0
    · subst h0
      have h4 := h3 rfl
      clear h3
      go_wp2
      all_goals
        go_ret
        refine ⟨ret_int ?_, HS.out⟩
        rw [HG.out, gcd_end]
        first | omega | (split <;> omega)
    · clear h3
      have hm := tmod_w64 (a := a') h0 (by unfold W64; omega)
      have hlt : (a'.tmod b').natAbs < b'.natAbs := by
        rw [Int.natAbs_tmod]; exact Nat.mod_lt _ (by omega)
      have hm2 := hm
      unfold Sm at hm2
      have hw : IntKind.i64.wrap (a'.tmod b') = a'.tmod b' := IntWalk.i64_in _ (by omega)
      have hw2 : (b' != 0) = true := by simpa using h0
      have hw3 : (b' == 0) = false := by simpa using h0
      go_wp2
      go_quiet (fail)
      go_wp2
      go_roundw
      case rel => exact ⟨b', a'.tmod b', rfl, by first | rfl | simp [hw], ⟨by omega, by omega⟩, hm, fun _ => H2.out, HG.out.trans (gcd_step a' b').symm, by first | exact HS.out | exact pd HS.out | exact below_drewN' HS.out _⟩
      case measure => first | exact hlt | (simp only [intOf]; rw [hw]; exact hlt) | (simp only [intOf, hw]; exact hlt)

set_option maxHeartbeats 1000000 in
theorem size_w64 (n : Int) (h : Sm 9223372036854775807 n) (w : World) : Calls Tryz.prog 102 #[.int .i64 n] w fun e w' => e = .returned (.int .i64 (n.natAbs : Int)) ∧ w = w' := by
  unfold Sm at h
  have e1 : IntKind.i64.wrap (-n) = -n := IntWalk.i64_in _ (by omega)
  go_enter Tryz.func102, Tryz.ntmps102
  go_wp2
  all_goals
    go_ret
    refine ⟨ret_int ?_, rfl⟩
    first | omega | (split <;> omega)

set_option maxHeartbeats 1000000 in
theorem refGcd_all (a b : Int) (ha : W64 a) (hb : Sm 9223372036854775807 b) (hz : b ≠ 0) (w : World) :
    Calls Tryz.prog 59 #[.int .i64 a, .int .i64 b] w fun e w' => e = .returned (.int .i64 (gcdI a b)) ∧ Below w.heap.size w w' := by
  go_enter Tryz.func59, Tryz.ntmps59
  go_wp2
  go_loopw [0, 1] (fun x y wr => ∃ a' b' : Int, x = .int .i64 a' ∧ y = .int .i64 b' ∧ W64 a' ∧ Sm 9223372036854775807 b' ∧ (b' = 0 → Sm 9223372036854775807 a') ∧ gcdI a b = gcdI a' b' ∧ Below w.heap.size w wr) (fun _ y _ => (intOf y).natAbs)
  case atStart => exact ⟨a, b, rfl, rfl, ha, hb, fun e => absurd e hz, rfl, pr⟩
  case round =>
    obtain ⟨a', b', rfl, rfl, h1, h2, h3, hg, hS⟩ := hrel
    have HG := Lib.hid hg
    have HS := Lib.hid hS
    have H2 := Lib.hid h2
    have H3 := Lib.hid h3
    clear hg hS ha hb hz h3
    unfold W64 at h1
    unfold Sm at h2
    by_cases h0 : b' = 0
    · subst h0
      go_wp2_with (go_at_call 102; refine (size_w64 _ (H3.out rfl) _).mono ?_; rintro e w' ⟨rfl, rfl⟩)
      go_ret
      refine ⟨ret_int ?_, HS.out⟩
      rw [HG.out, gcd_end]
    · have hm := tmod_w64 (a := a') h0 (by unfold W64; omega)
      have hlt : (a'.tmod b').natAbs < b'.natAbs := by
        rw [Int.natAbs_tmod]; exact Nat.mod_lt _ (by omega)
      have hm2 := hm
      unfold Sm at hm2
      have hw : IntKind.i64.wrap (a'.tmod b') = a'.tmod b' := IntWalk.i64_in _ (by omega)
      have hw2 : (b' != 0) = true := by simpa using h0
      have hw3 : (b' == 0) = false := by simpa using h0
      go_wp2
      go_quiet (fail)
      go_wp2
      go_roundw
      case rel => exact ⟨b', a'.tmod b', rfl, by first | rfl | simp [hw], ⟨by omega, by omega⟩, hm, fun _ => H2.out, HG.out.trans (gcd_step a' b').symm, by first | exact HS.out | exact pd HS.out | exact below_drewN' HS.out _⟩
      case measure => first | exact hlt | (simp only [intOf]; rw [hw]; exact hlt) | (simp only [intOf, hw]; exact hlt)

set_option maxHeartbeats 1000000 in
theorem isLowest_all (n d : Int) (hn : W64 n) (hd : W64 d) (w : World) :
    Calls Tryz.prog 85 #[.agg #[.int .i64 n, .int .i64 d]] w fun e w' => e = .returned (.bool (lowestB n d)) ∧ Below w.heap.size w w' := by
  have hv : lowestB n d = (decide (0 < d) && decide (gcdI n d = 1)) := rfl
  by_cases h : 0 < d
  · have HD := Lib.hid (divisor_all n d hn (by unfold W64 at hd; unfold Sm; omega) (by omega))
    have HV := Lib.hid (show lowestB n d = decide (gcdI n d = 1) by rw [hv]; simp [h])
    clear hv hn hd
    generalize lowestB n d = X at *
    generalize gcdI n d = g at *
    go_enter Tryz.func85, Tryz.ntmps85
    go_wp2_with (go_at_call 90; refine (HD.out _).mono ?_; rintro e w1 ⟨rfl, hb1⟩)
    go_ret
    refine ⟨ret_bool ?_, pt (pa pr) hb1⟩
    rw [HV.out]
    first | rfl | (by_cases hg : g = 1 <;> simp [hg])
  · have HV := Lib.hid (show lowestB n d = false by rw [hv]; simp [h])
    clear hv hn hd
    generalize lowestB n d = X at *
    go_enter Tryz.func85, Tryz.ntmps85
    go_wp2
    go_ret
    exact ⟨ret_bool HV.out.symm, pa pr⟩

set_option maxHeartbeats 1000000 in
theorem refIsLowest_all (n d : Int) (hn : W64 n) (hd : W64 d) (w : World) :
    Calls Tryz.prog 21 #[.agg #[.int .i64 n, .int .i64 d]] w fun e w' => e = .returned (.bool (lowestB n d)) ∧ Below w.heap.size w w' := by
  have hv : lowestB n d = (decide (0 < d) && decide (gcdI n d = 1)) := rfl
  by_cases h : 0 < d
  · have HD := Lib.hid (refGcd_all n d hn (by unfold W64 at hd; unfold Sm; omega) (by omega))
    have HV := Lib.hid (show lowestB n d = decide (gcdI n d = 1) by rw [hv]; simp [h])
    clear hv hn hd
    generalize lowestB n d = X at *
    generalize gcdI n d = g at *
    go_enter Tryz.func21, Tryz.ntmps21
    go_wp2_with (go_at_call 59; refine (HD.out _).mono ?_; rintro e w1 ⟨rfl, hb1⟩)
    go_ret
    refine ⟨ret_bool ?_, pt (pa pr) hb1⟩
    rw [HV.out]
    first | rfl | (by_cases hg : g = 1 <;> simp [hg])
  · have HV := Lib.hid (show lowestB n d = false by rw [hv]; simp [h])
    clear hv hn hd
    generalize lowestB n d = X at *
    go_enter Tryz.func21, Tryz.ntmps21
    go_wp2
    go_ret
    exact ⟨ret_bool HV.out.symm, pa pr⟩

end Go.Proofs.YtpdkbhjcpddnpaaGreatDoor
end

section
namespace Go.Proofs.YtpdkbhjcpddnpaaGreatDoor
open Go.RowKit

theorem src_cast (n : Nat) : (0 : Int) ≤ (n : Int) := by omega
theorem src_lt {a b : Nat} (h : a < b) : (a : Int) < (b : Int) := by omega
theorem src_meas {j n : Nat} (h : j < n) : n - ((j : Int) + 1).toNat < n - (j : Int).toNat := by omega
theorem src_succ (n : Nat) : Value.int .i64 ((n : Int) + 1) = Value.int .i64 ((n + 1 : Nat) : Int) := by push_cast; rfl
def srcE (s : Src) : Int := firstV [phE s.p s.q, unlessV (lowestB s.n s.d) 3, unlessV (withinB s.n 1 100 && decide (s.d ≤ 100)) 2]
def srcsE : List Src → Int
  | [] => 0
  | s :: l => if srcE s = 0 then srcsE l else srcE s
def countE (n : Nat) : Int := firstV [unlessV (decide (0 < n)) 10, unlessV (decide (n ≤ 4)) 8]
/-- The error of sources; with a load. -/
def sourcesE (ls : List Src) : Int := if countE ls.length = 0 then srcsE ls else countE ls.length
def loadE (ls : List Src) (p q : Int) : Int := if sourcesE ls = 0 then phE p q else sourcesE ls
def Src64 (s : Src) : Prop := W64 s.p ∧ W64 s.q ∧ W64 s.n ∧ W64 s.d
/-- The cells of sources. -/
def srcU (s : Src) : List Value := [.int .i64 s.p, .int .i64 s.q, .int .i64 s.n, .int .i64 s.d]
def SrcsIn (B : Nat) (w : World) (A : Option Addr) (ls : List Src) : Prop :=
  ls = [] ∨ ∃ b off, A = some ⟨b, off, none⟩ ∧ b < B ∧ ∀ j, j < ls.length → w.cell? ⟨b, off + j * 4, none⟩ = some (.int .i64 (ls.getD j default).p) ∧ w.cell? ⟨b, off + j * 4 + 1, none⟩ = some (.int .i64 (ls.getD j default).q) ∧ w.cell? ⟨b, off + j * 4 + 2, none⟩ = some (.int .i64 (ls.getD j default).n) ∧ w.cell? ⟨b, off + j * 4 + 3, none⟩ = some (.int .i64 (ls.getD j default).d)
theorem SrcsIn.at_ {B : Nat} {w : World} {A : Option Addr} {ls : List Src} {k : Nat} (h : SrcsIn B w A ls) (hk : k < ls.length) : ∃ b off, A = some ⟨b, off, none⟩ ∧ b < B ∧ ∀ j, j < ls.length → w.cell? ⟨b, off + j * 4, none⟩ = some (.int .i64 (ls.getD j default).p) ∧ w.cell? ⟨b, off + j * 4 + 1, none⟩ = some (.int .i64 (ls.getD j default).q) ∧ w.cell? ⟨b, off + j * 4 + 2, none⟩ = some (.int .i64 (ls.getD j default).n) ∧ w.cell? ⟨b, off + j * 4 + 3, none⟩ = some (.int .i64 (ls.getD j default).d) := by
  rcases h with h | h
  · subst h; simp at hk
  · exact h
theorem SrcsIn.keep {B : Nat} {w w' : World} {A : Option Addr} {ls : List Src} (h : SrcsIn B w A ls) (hk : ∀ b o, b < B → w'.cell? ⟨b, o, none⟩ = w.cell? ⟨b, o, none⟩) : SrcsIn B w' A ls := by
  rcases h with h | ⟨b, off, hA, hb, hc⟩
  · exact .inl h
  · exact .inr ⟨b, off, hA, hb, fun j hj => by
      obtain ⟨h1, h2, h3, h4⟩ := hc j hj
      exact ⟨(hk _ _ hb).trans h1, (hk _ _ hb).trans h2, (hk _ _ hb).trans h3, (hk _ _ hb).trans h4⟩⟩
theorem SrcsIn.below {B : Nat} {w w' : World} {A : Option Addr} {ls : List Src} (h : SrcsIn B w A ls) (hb : Below B w w') : SrcsIn B w' A ls := h.keep (bcell hb).1
theorem SrcsIn.more {B B' : Nat} {w : World} {A : Option Addr} {ls : List Src} (h : SrcsIn B w A ls) (hB : B ≤ B') : SrcsIn B' w A ls := by
  rcases h with h | ⟨b, off, hA, hb, hc⟩
  · exact .inl h
  · exact .inr ⟨b, off, hA, by omega, hc⟩

theorem srcsE_at : ∀ {ls : List Src} {i : Nat}, i < ls.length → srcsE (ls.drop i) = if srcE (ls.getD i default) = 0 then srcsE (ls.drop (i + 1)) else srcE (ls.getD i default)
  | [], i, h => by simp at h
  | s :: l, 0, _ => by simp [srcsE]
  | s :: l, i + 1, h => by
    have := srcsE_at (ls := l) (i := i) (by simpa using h)
    simpa using this
theorem srcE_ok {s : Src} (h : srcE s = 0) : SrcOk s ∧ gcdI s.n s.d = 1 := by
  obtain ⟨h1, h2⟩ := firstV_zero.1 h
  obtain ⟨h3, h4⟩ := firstV_zero.1 h2
  obtain ⟨h5, _⟩ := firstV_zero.1 h4
  have g1 := phE_sm h1
  have g2 := (unless_ne (by decide)).1 h3
  have g3 := (unless_ne (by decide)).1 h5
  unfold lowestB at g2
  simp only [withinB, Bool.and_eq_true, decide_eq_true_eq] at g2 g3
  unfold Sm at g1
  exact ⟨⟨g1.1, g1.2, by omega, by omega⟩, g2.2⟩
theorem srcsE_ok : ∀ {ls : List Src}, srcsE ls = 0 → ∀ s ∈ ls, SrcOk s ∧ gcdI s.n s.d = 1
  | [], _, s, h => by cases h
  | t :: l, h, s, hs => by
    rw [srcsE] at h
    split at h
    · rename_i h1
      rcases List.mem_cons.1 hs with rfl | hs
      · exact srcE_ok h1
      · exact srcsE_ok h s hs
    · rename_i h1
      exact absurd h h1
theorem countE_ok {n : Nat} : countE n = 0 ↔ 0 < n ∧ n ≤ 4 := by
  unfold countE
  rw [firstV_zero, firstV_zero, unless_ne (by decide), unless_ne (by decide)]
  simp [firstV]
theorem sourcesE_ok {ls : List Src} (h : sourcesE ls = 0) : SrcsOk ls ∧ ∀ s ∈ ls, gcdI s.n s.d = 1 := by
  unfold sourcesE at h
  split at h
  · rename_i h1
    have h2 := srcsE_ok h
    exact ⟨⟨countE_ok.1 h1, fun s hs => (h2 s hs).1⟩, fun s hs => (h2 s hs).2⟩
  · rename_i h1
    exact absurd h h1

end Go.Proofs.YtpdkbhjcpddnpaaGreatDoor
end

section
namespace Go.Proofs.YtpdkbhjcpddnpaaGreatDoor
open Go.RowKit

def loN (a b : Int) : Int := a.tdiv (gcdI a b)
def loD (a b : Int) : Int := b.tdiv (gcdI a b)
theorem lo_rat (a : Int) {b : Int} (hb : 0 < b) : loN a b = (Rat.divInt a b).num ∧ loD a b = ((Rat.divInt a b).den : Int) := by
  unfold loN loD gcdI
  rw [Rat.num_divInt, Rat.den_divInt, if_neg (by omega), Int.sign_eq_one_of_pos hb, Int.gcd_comm b a, Int.one_mul]
  constructor
  · exact Int.tdiv_eq_ediv_of_dvd (Int.gcd_dvd_left a b)
  · rw [Int.tdiv_eq_ediv_of_dvd (Int.gcd_dvd_right a b), Int.natCast_ediv]
    congr 1
    omega
theorem lowest_rat {n d : Int} (h : lowestB n d = true) : 0 < d ∧ n = (Rat.divInt n d).num ∧ d = ((Rat.divInt n d).den : Int) := by
  unfold lowestB at h
  simp only [Bool.and_eq_true, decide_eq_true_eq] at h
  obtain ⟨h1, h2⟩ := h
  obtain ⟨h3, h4⟩ := lo_rat n h1
  unfold loN at h3
  unfold loD at h4
  rw [h2, Int.tdiv_one] at h3 h4
  exact ⟨h1, h3, h4⟩
/-- A current: two fractions as they stand. -/
structure Cu where
  pn : Int
  pd : Int
  qn : Int
  qd : Int
instance : Inhabited Cu := ⟨⟨0, 0, 0, 0⟩⟩
def Cu64 (c : Cu) : Prop := W64 c.pn ∧ W64 c.pd ∧ W64 c.qn ∧ W64 c.qd
def frE (n d : Int) : Int := unlessV (lowestB n d) 3
def frR (n d : Int) : Int := unlessV (withinB n (-1000000000) 1000000000 && decide (d ≤ 1000000000)) 2
def FrOk (n d : Int) : Prop := lowestB n d = true ∧ (-1000000000 ≤ n ∧ n ≤ 1000000000) ∧ 0 < d ∧ d ≤ 1000000000
def CuOk (c : Cu) : Prop := FrOk c.pn c.pd ∧ FrOk c.qn c.qd
/-- The voltage of the bus by a current, as a fraction; its parts. -/
def busN (v : Int) (s : Src) (n d : Int) : Int := v * (s.d * d) - s.n * n
def busD (s : Src) (d : Int) : Int := s.d * d
def busF (v : Int) (s : Src) (n d : Int) : Rat := Rat.divInt (busN v s n d) (busD s d)
def curE (s t : Src) (c b : Cu) : Int :=
  firstV [firstV [frE c.pn c.pd, frE c.qn c.qd], firstV [frR c.pn c.pd, frR c.qn c.qd], if busF s.p s c.pn c.pd = busF t.p t b.pn b.pd then 0 else 19, if busF s.q s c.qn c.qd = busF t.q t b.qn b.qd then 0 else 19]
def scanC (E : Nat → Int) : Nat → Nat → Int × Int
  | 0, _ => (0, 0)
  | k + 1, i => if E i = 0 then scanC E k (i + 1) else (i, E i)
def curEs (ls : List Src) (cs : List Cu) (i : Nat) : Int := curE (ls.getD i default) (ls.getD 0 default) (cs.getD i default) (cs.getD 0 default)
def crossB (ls : List Src) (f : Src → Int) (load n d : Int) : Bool := decide ((busF (f (ls.getD 0 default)) (ls.getD 0 default) n d).num * sumV (allV ls) ls = (-load * allV ls + dropV (allV ls) f ls) * ((busF (f (ls.getD 0 default)) (ls.getD 0 default) n d).den : Int))
def openB (ls : List Src) (p q : Int) (c : Cu) : Bool := crossB ls Src.p p c.pn c.pd && crossB ls Src.q q c.qn c.qd
/-- The index and the error of currents, for valid sources. -/
def checkC (ls : List Src) (p q : Int) (cs : List Cu) : Int × Int :=
  if (scanC (curEs ls cs) cs.length 0).2 = 0 then (if openB ls p q (cs.getD 0 default) = true then (0, 0) else (0, 21)) else scanC (curEs ls cs) cs.length 0
def checkV (ls : List Src) (p q : Int) (cs : List Cu) : Int × Int :=
  if firstV [loadE ls p q, unlessV (decide (cs.length = ls.length)) 10] = 0 then checkC ls p q cs else (0, firstV [loadE ls p q, unlessV (decide (cs.length = ls.length)) 10])

theorem scan_zero {E : Nat → Int} : ∀ {k i : Nat}, (scanC E k i).2 = 0 ↔ ∀ j, i ≤ j → j < i + k → E j = 0
  | 0, i => by simp only [scanC, true_iff]; omega
  | k + 1, i => by
    rw [scanC]
    split
    · rename_i h
      rw [scan_zero]
      constructor
      · intro q j h1 h2
        rcases Nat.eq_or_lt_of_le h1 with rfl | h3
        · exact h
        · exact q j h3 (by omega)
      · intro q j h1 h2
        exact q j (by omega) (by omega)
    · rename_i h
      constructor
      · intro q; exact absurd q h
      · intro q; exact absurd (q i (Nat.le_refl _) (by omega)) h
theorem fr_ok {n d : Int} (h1 : frE n d = 0) (h2 : frR n d = 0) : FrOk n d := by
  have g1 := (unless_ne (by decide)).1 h1
  have g2 := (unless_ne (by decide)).1 h2
  have g3 := (lowest_rat g1).1
  simp only [withinB, Bool.and_eq_true, decide_eq_true_eq] at g2
  exact ⟨g1, g2.1, g3, g2.2⟩
theorem ok_fr {n d : Int} (h : FrOk n d) : frE n d = 0 ∧ frR n d = 0 := by
  obtain ⟨h1, h2, h3, h4⟩ := h
  refine ⟨(unless_ne (by decide)).2 h1, (unless_ne (by decide)).2 ?_⟩
  simp only [withinB, Bool.and_eq_true, decide_eq_true_eq]
  exact ⟨h2, h4⟩
theorem busF_uR {f : Src → Int} {s : Src} {n d : Int} (hs : s.d ≠ 0) (hd : d ≠ 0) : busF (f s) s n d = uR f s (Rat.divInt n d) := by
  have h1 := cast_ne hs
  have h2 := cast_ne hd
  unfold busF busN busD uR
  rw [Rat.divInt_eq_div, Rat.divInt_eq_div, Rat.intCast_sub, Rat.intCast_mul, Rat.intCast_mul, Rat.intCast_mul]
  grind
theorem curE_ok {s t : Src} {c b : Cu} (h : curE s t c b = 0) : CuOk c ∧ busF s.p s c.pn c.pd = busF t.p t b.pn b.pd ∧ busF s.q s c.qn c.qd = busF t.q t b.qn b.qd := by
  unfold curE at h
  obtain ⟨h1, h2⟩ := firstV_zero.1 h
  obtain ⟨h3, h4⟩ := firstV_zero.1 h2
  obtain ⟨h5, h6⟩ := firstV_zero.1 h4
  obtain ⟨h7, _⟩ := firstV_zero.1 h6
  obtain ⟨a1, a2⟩ := firstV_zero.1 h1
  obtain ⟨a3, _⟩ := firstV_zero.1 a2
  obtain ⟨b1, b2⟩ := firstV_zero.1 h3
  obtain ⟨b3, _⟩ := firstV_zero.1 b2
  refine ⟨⟨fr_ok a1 b1, fr_ok a3 b3⟩, ?_, ?_⟩
  · split at h5
    · assumption
    · exact absurd h5 (by decide)
  · split at h7
    · assumption
    · exact absurd h7 (by decide)
theorem curE_of {s t : Src} {c b : Cu} (h : CuOk c) (h1 : busF s.p s c.pn c.pd = busF t.p t b.pn b.pd) (h2 : busF s.q s c.qn c.qd = busF t.q t b.qn b.qd) : curE s t c b = 0 := by
  obtain ⟨⟨a1, a2⟩, ⟨b1, b2⟩⟩ := And.intro (ok_fr h.1) (ok_fr h.2)
  unfold curE
  rw [a1, a2, b1, b2, if_pos h1, if_pos h2]
  rfl

/-! The currents, for both parts. -/
def curC (ls : List Src) (p q : Int) (s : Src) : Cu := ⟨(curR ls Src.p p s).num, ((curR ls Src.p p s).den : Int), (curR ls Src.q q s).num, ((curR ls Src.q q s).den : Int)⟩
def curCs (ls : List Src) (p q : Int) : List Cu := ls.map (curC ls p q)
def smallR (x : Rat) : Bool := withinB x.num (-1000000000) 1000000000 && decide ((x.den : Int) ≤ 1000000000)
def allSmall (ls : List Src) (p q : Int) : Prop := ∀ s ∈ ls, smallR (curR ls Src.p p s) = true ∧ smallR (curR ls Src.q q s) = true
theorem curN_rat {l : List Src} (h : SrcsOk l) (f : Src → Int) (load : Int) {s : Src} (hs : s ∈ l) : 0 < curD l s ∧ loN (curN l f load s) (curD l s) = (curR l f load s).num ∧ loD (curN l f load s) (curD l s) = ((curR l f load s).den : Int) := by
  have h1 := (sum_pos h).1
  have h2 := (h.2 s hs).2.2.1.1
  have h3 : 0 < curD l s := Int.mul_pos (by omega) (by omega)
  refine ⟨h3, ?_⟩
  rw [curR_eq h f load hs, ← Rat.divInt_eq_div]
  exact lo_rat _ h3
theorem cur_mem {ls : List Src} {i : Nat} (h : i < ls.length) : ls.getD i default ∈ ls := by
  rw [List.getD_eq_getElem?_getD, List.getElem?_eq_getElem h]
  exact List.getElem_mem h
theorem curCs_at {ls : List Src} {p q : Int} {i : Nat} (h : i < ls.length) : (curCs ls p q).getD i default = curC ls p q (ls.getD i default) := by
  unfold curCs
  rw [List.getD_eq_getElem?_getD, List.getD_eq_getElem?_getD, List.getElem?_map, List.getElem?_eq_getElem h]
  rfl
theorem cross_iff {ls : List Src} (h : SrcsOk ls) {f : Src → Int} {load n d : Int} (hd : d ≠ 0) : crossB ls f load n d = true ↔ uR f (ls.getD 0 default) (Rat.divInt n d) = busR ls f load := by
  have hs := (src_ne h _ (cur_mem h.1.1)).2
  unfold crossB
  rw [decide_eq_true_eq, ← busF_uR hs hd, bus_cross h]
end Go.Proofs.YtpdkbhjcpddnpaaGreatDoor
end

section
namespace Go.Proofs.YtpdkbhjcpddnpaaGreatDoor
open Go.RowKit
attribute [local go_sem ↓] Go.wp_at_zero Go.wp_at_succ

def srcCells (ls : List Src) : List Value := ls.flatMap srcU
def cuC (c : Cu) : List Value := [.int .i64 c.pn, .int .i64 c.pd, .int .i64 c.qn, .int .i64 c.qd]
def cuCells (cs : List Cu) : List Value := cs.flatMap cuC
theorem flat4_len {α : Type} {f : α → List Value} (hf : ∀ x, (f x).length = 4) : ∀ l : List α, (l.flatMap f).length = l.length * 4
  | [] => rfl
  | x :: l => by rw [List.flatMap_cons, List.length_append, hf, flat4_len hf l, List.length_cons]; omega
theorem flat4_at {α : Type} [Inhabited α] {f : α → List Value} (hf : ∀ x, (f x).length = 4) : ∀ {l : List α} {j k : Nat}, j < l.length → k < 4 → (l.flatMap f)[j * 4 + k]? = (f (l.getD j default))[k]?
  | [], j, k, hj, _ => by simp at hj
  | x :: l, 0, k, _, hk => by
    rw [List.flatMap_cons, Nat.zero_mul, Nat.zero_add, List.getElem?_append_left (by rw [hf]; exact hk)]
    rfl
  | x :: l, j + 1, k, hj, hk => by
    rw [List.flatMap_cons, List.getElem?_append_right (by rw [hf]; omega), hf, show (j + 1) * 4 + k - 4 = j * 4 + k by omega, flat4_at hf (by simpa using hj) hk]
    rfl
theorem src_len (s : Src) : (srcU s).length = 4 := rfl
theorem cu_len (c : Cu) : (cuC c).length = 4 := rfl
theorem CellsIn.srcs {B : Nat} {w : World} {A : Option Addr} {ls : List Src} (h : CellsIn B w A (srcCells ls)) : SrcsIn B w A ls := by
  rcases h with h | ⟨b, off, hA, hb, hc⟩
  · refine .inl ?_
    have := congrArg List.length h
    unfold srcCells at this
    rw [flat4_len src_len] at this
    exact List.eq_nil_of_length_eq_zero (by simp at this; omega)
  · refine .inr ⟨b, off, hA, hb, fun j hj => ?_⟩
    have hl : (srcCells ls).length = ls.length * 4 := flat4_len src_len ls
    have q : ∀ k, k < 4 → w.cell? ⟨b, off + j * 4 + k, none⟩ = (srcU (ls.getD j default))[k]? := fun k hk => by
      rw [Nat.add_assoc, hc _ (by omega)]
      exact flat4_at src_len hj hk
    exact ⟨q 0 (by decide), q 1 (by decide), q 2 (by decide), q 3 (by decide)⟩
/-- A slice at A reads as these currents. -/
def CusIn (B : Nat) (w : World) (A : Option Addr) (cs : List Cu) : Prop :=
  cs = [] ∨ ∃ b off, A = some ⟨b, off, none⟩ ∧ b < B ∧ ∀ j, j < cs.length → w.cell? ⟨b, off + j * 4, none⟩ = some (.int .i64 (cs.getD j default).pn) ∧ w.cell? ⟨b, off + j * 4 + 1, none⟩ = some (.int .i64 (cs.getD j default).pd) ∧ w.cell? ⟨b, off + j * 4 + 2, none⟩ = some (.int .i64 (cs.getD j default).qn) ∧ w.cell? ⟨b, off + j * 4 + 3, none⟩ = some (.int .i64 (cs.getD j default).qd)
theorem CusIn.at_ {B : Nat} {w : World} {A : Option Addr} {cs : List Cu} {k : Nat} (h : CusIn B w A cs) (hk : k < cs.length) : ∃ b off, A = some ⟨b, off, none⟩ ∧ b < B ∧ ∀ j, j < cs.length → w.cell? ⟨b, off + j * 4, none⟩ = some (.int .i64 (cs.getD j default).pn) ∧ w.cell? ⟨b, off + j * 4 + 1, none⟩ = some (.int .i64 (cs.getD j default).pd) ∧ w.cell? ⟨b, off + j * 4 + 2, none⟩ = some (.int .i64 (cs.getD j default).qn) ∧ w.cell? ⟨b, off + j * 4 + 3, none⟩ = some (.int .i64 (cs.getD j default).qd) := by
  rcases h with h | h
  · subst h; simp at hk
  · exact h
theorem CusIn.keep {B : Nat} {w w' : World} {A : Option Addr} {cs : List Cu} (h : CusIn B w A cs) (hk : ∀ b o, b < B → w'.cell? ⟨b, o, none⟩ = w.cell? ⟨b, o, none⟩) : CusIn B w' A cs := by
  rcases h with h | ⟨b, off, hA, hb, hc⟩
  · exact .inl h
  · exact .inr ⟨b, off, hA, hb, fun j hj => by
      obtain ⟨h1, h2, h3, h4⟩ := hc j hj
      exact ⟨(hk _ _ hb).trans h1, (hk _ _ hb).trans h2, (hk _ _ hb).trans h3, (hk _ _ hb).trans h4⟩⟩
theorem CusIn.below {B : Nat} {w w' : World} {A : Option Addr} {cs : List Cu} (h : CusIn B w A cs) (hb : Below B w w') : CusIn B w' A cs := h.keep (bcell hb).1
theorem CusIn.more {B B' : Nat} {w : World} {A : Option Addr} {cs : List Cu} (h : CusIn B w A cs) (hB : B ≤ B') : CusIn B' w A cs := by
  rcases h with h | ⟨b, off, hA, hb, hc⟩
  · exact .inl h
  · exact .inr ⟨b, off, hA, by omega, hc⟩
theorem CellsIn.cus {B : Nat} {w : World} {A : Option Addr} {cs : List Cu} (h : CellsIn B w A (cuCells cs)) : CusIn B w A cs := by
  rcases h with h | ⟨b, off, hA, hb, hc⟩
  · refine .inl ?_
    have := congrArg List.length h
    unfold cuCells at this
    rw [flat4_len cu_len] at this
    exact List.eq_nil_of_length_eq_zero (by simp at this; omega)
  · refine .inr ⟨b, off, hA, hb, fun j hj => ?_⟩
    have hl : (cuCells cs).length = cs.length * 4 := flat4_len cu_len cs
    have q : ∀ k, k < 4 → w.cell? ⟨b, off + j * 4 + k, none⟩ = (cuC (cs.getD j default))[k]? := fun k hk => by
      rw [Nat.add_assoc, hc _ (by omega)]
      exact flat4_at cu_len hj hk
    exact ⟨q 0 (by decide), q 1 (by decide), q 2 (by decide), q 3 (by decide)⟩
theorem flat4_one {α : Type} {f : α → List Value} (hf : ∀ x, ∀ u ∈ f x, u.oneCell' = true) (l : List α) : ∀ u ∈ l.flatMap f, u.oneCell' = true := fun u hu => by
  obtain ⟨x, _, h⟩ := List.mem_flatMap.1 hu
  exact hf x u h
theorem src_one (s : Src) : ∀ u ∈ srcU s, u.oneCell' = true := by simp [srcU, Value.oneCell']
theorem cu_one (c : Cu) : ∀ u ∈ cuC c, u.oneCell' = true := by simp [cuC, Value.oneCell']
theorem source_info : (Tryz.prog.info? 87).map (fun i => (i.zero, i.size, i.bytes)) = some (some (.agg #[.int .i64 0, .int .i64 0, .int .i64 0, .int .i64 0]), 4, 32) := by kernel_rfl
theorem current_info : (Tryz.prog.info? 90).map (fun i => (i.zero, i.size, i.bytes)) = some (some (.agg #[.int .i64 0, .int .i64 0, .int .i64 0, .int .i64 0]), 4, 32) := by kernel_rfl
/-- Cells in a row of the callee's own as a result. -/
def CellsRet (w : World) (n : Nat) (us : List Value) (e : Ending) (w' : World) : Prop := ∃ (A : Option Addr) (c : Nat), e = .returned (.slice A n c) ∧ CellsIn w'.heap.size w' A us ∧ n ≤ c ∧ Below w.heap.size w w'
theorem app_len4 {n : Nat} (h : n ≤ 1000000) : 0 + n ≤ maxLen ∧ (0 + n) * 32 ≤ 140737488355328 := ⟨by simp only [maxLen]; omega, by omega⟩

set_option maxRecDepth 100000 in
set_option maxHeartbeats 1000000 in
theorem copySources_any (B : Nat) (A : Option Addr) (c : Nat) (xs : List Src) (w : World) (hr : CellsIn B w A (srcCells xs)) (hB : B ≤ w.heap.size) (hm : xs.length ≤ 1000000) :
    Calls Tryz.prog 8 #[.slice A xs.length c] w (CellsRet w xs.length (srcCells xs)) := by
  obtain ⟨i0, hi0, hz0, hz1, hz2⟩ := info_parts source_info
  go_enter Tryz.func8, Tryz.ntmps8
  have HO := Lib.hid (show (w.alloc (.cells #[] 87)).ownsRow w.heap.size 87 4 (.slice (some ⟨w.heap.size, 0, none⟩) 0 0) 0 [] from World.ownsRow_lit w #[] 0 (Nat.le_refl _) (Nat.zero_le _) rfl)
  have HC := Lib.hid (show CellsIn B (w.alloc (.cells #[] 87)) A (srcCells xs) from hr.below ((pa (Below.refl _ w)).mono hB))
  have H1 := Lib.hid (show ∀ u ∈ srcCells xs, u.oneCell' = true from flat4_one src_one xs)
  have HL := Lib.hid (show (srcCells xs).length = xs.length * 4 from flat4_len src_len xs)
  have HM := Lib.hid (app_len4 hm)
  clear hr hm
  generalize srcCells xs = us at *
  generalize xs.length = n at *
  go_wp2_with (at_builtin; go_must (refine wpList_append_cells _ rfl (.tmp 3) (.tmp 4) _ rfl w.heap.size 87 i0 _ 4 32 Tryz.underlying22 hi0 hz0 hz1 hz2 rfl (by decide) (.slice (some ⟨w.heap.size, 0, none⟩) 0 0) 0 [] rfl HO.out B A n c us rfl HC.out HL.out H1.out HM.out.1 HM.out.2 (by simp) ?_); intro v1 w1 hown1 hg1 hat1)
  go_ret
  rw [Nat.zero_add, List.nil_append] at hown1
  obtain ⟨A1, c1, rfl, hc1, _⟩ := own_form hown1
  exact ⟨A1, c1, rfl, cellsIn_of_own hown1, hc1, pg (pa pr) HO.out (Nat.le_refl _) hg1⟩
set_option maxRecDepth 100000 in
set_option maxHeartbeats 1000000 in
theorem copyCurrents_any (B : Nat) (A : Option Addr) (c : Nat) (xs : List Cu) (w : World) (hr : CellsIn B w A (cuCells xs)) (hB : B ≤ w.heap.size) (hm : xs.length ≤ 1000000) :
    Calls Tryz.prog 10 #[.slice A xs.length c] w (CellsRet w xs.length (cuCells xs)) := by
  obtain ⟨i0, hi0, hz0, hz1, hz2⟩ := info_parts current_info
  go_enter Tryz.func10, Tryz.ntmps10
  have HO := Lib.hid (show (w.alloc (.cells #[] 90)).ownsRow w.heap.size 90 4 (.slice (some ⟨w.heap.size, 0, none⟩) 0 0) 0 [] from World.ownsRow_lit w #[] 0 (Nat.le_refl _) (Nat.zero_le _) rfl)
  have HC := Lib.hid (show CellsIn B (w.alloc (.cells #[] 90)) A (cuCells xs) from hr.below ((pa (Below.refl _ w)).mono hB))
  have H1 := Lib.hid (show ∀ u ∈ cuCells xs, u.oneCell' = true from flat4_one cu_one xs)
  have HL := Lib.hid (show (cuCells xs).length = xs.length * 4 from flat4_len cu_len xs)
  have HM := Lib.hid (app_len4 hm)
  clear hr hm
  generalize cuCells xs = us at *
  generalize xs.length = n at *
  go_wp2_with (at_builtin; go_must (refine wpList_append_cells _ rfl (.tmp 3) (.tmp 4) _ rfl w.heap.size 90 i0 _ 4 32 Tryz.underlying27 hi0 hz0 hz1 hz2 rfl (by decide) (.slice (some ⟨w.heap.size, 0, none⟩) 0 0) 0 [] rfl HO.out B A n c us rfl HC.out HL.out H1.out HM.out.1 HM.out.2 (by simp) ?_); intro v1 w1 hown1 hg1 hat1)
  go_ret
  rw [Nat.zero_add, List.nil_append] at hown1
  obtain ⟨A1, c1, rfl, hc1, _⟩ := own_form hown1
  exact ⟨A1, c1, rfl, cellsIn_of_own hown1, hc1, pg (pa pr) HO.out (Nat.le_refl _) hg1⟩

end Go.Proofs.YtpdkbhjcpddnpaaGreatDoor
end
