/- Contracts: a number's index in a slice, whether a slice has a number, a slice's copy, the size of a number; which stacks overlap. -/
import Derived.Test.YtlgioldmjohhlaaCOven
import Derived.Test.YtlgioldmjohhlaaAArith
namespace Go.Proofs.Ytlgioldmjohhlaa
open Go.RowKit

/-- The first place of a number, or -1. -/
def idxFrom (xs : List Int) (x : Int) (k : Nat) : Int :=
  match (xs.drop k).findIdx? (· == x) with
  | some i => ((k + i : Nat) : Int)
  | none => -1

theorem idxFrom_step (xs : List Int) (x : Int) (k : Nat) (h : k < xs.length) : idxFrom xs x k = if xs.getD k 0 = x then (k : Int) else idxFrom xs x (k + 1) := by
  unfold idxFrom
  rw [List.drop_eq_getElem_cons h, List.findIdx?_cons]
  have e : xs.getD k 0 = xs[k] := by simp [List.getD, h]
  rw [e]
  by_cases hx : xs[k] = x
  · simp [hx]
  · simp only [beq_iff_eq, hx, if_false]
    cases (List.drop (k + 1) xs).findIdx? (· == x) with
    | none => rfl
    | some i => simp; omega

theorem idxFrom_end (xs : List Int) (x : Int) (k : Nat) (h : xs.length ≤ k) : idxFrom xs x k = -1 := by
  unfold idxFrom
  rw [List.drop_eq_nil_of_le h]
  rfl

set_option maxHeartbeats 400000 in
theorem index_any (B : Nat) (A : Option Addr) (c : Nat) (xs : List Int) (x : Int) (w : World) (hr : IntsIn B w A xs) (hm : xs.length ≤ 1000) :
    Calls Try.prog 133 #[.slice A xs.length c, .int .i64 x] w fun e w' => e = .returned (.int .i64 (idxFrom xs x 0)) ∧ w = w' := by
  go_enter Try.func133, Try.ntmps133
  go_wp2
  go_loop [8] (fun i => ∃ k : Nat, k ≤ xs.length ∧ i = .int .i64 k ∧ idxFrom xs x 0 = idxFrom xs x k) (fun i => xs.length - (intOf i).toNat)
  case atStart => exact ⟨0, Nat.zero_le _, rfl, rfl⟩
  case round =>
    obtain ⟨k, hk, rfl, hf⟩ := hrel
    by_cases hlt : k < xs.length
    · obtain ⟨b, off, rfl, hb, hc⟩ := hr.at_ hlt
      have hcell := hc k hlt
      have HF := Lib.hid (hf.trans (idxFrom_step xs x k hlt))
      clear hc hf hr
      generalize xs.getD k 0 = y at *
      by_cases hxy : y = x
      · subst hxy
        go_wp2
        go_ret
        exact ⟨ret_int (by rw [HF.out]; simp), rfl⟩
      · have hne : (x == y) = false := by simpa using fun e : x = y => hxy e.symm
        have HN := Lib.hid hxy
        clear hxy
        go_wp2
        go_round
        case rel => exact ⟨k + 1, by omega, by go_num, by rw [HF.out, if_neg HN.out]⟩
        case measure => simp [intOf]; omega
    · have HF := Lib.hid (show idxFrom xs x 0 = -1 by rw [hf]; exact idxFrom_end _ _ _ (by omega))
      clear hf
      go_wp2
      go_ret
      exact ⟨ret_int HF.out.symm, rfl⟩

/-- Whether a slice has a number. -/
def hasB (xs : List Int) (x : Int) : Bool := xs.contains x

theorem idxFrom_has (xs : List Int) (x : Int) : decide (0 ≤ idxFrom xs x 0) = hasB xs x := by
  unfold idxFrom hasB
  simp only [List.drop_zero]
  cases h : xs.findIdx? (· == x) with
  | none =>
    have h2 := List.findIdx?_eq_none_iff.1 h
    have h3 : ¬ x ∈ xs := fun hm => by simpa using h2 x hm
    simp [h3]
  | some i =>
    obtain ⟨h1, h2, _⟩ := List.findIdx?_eq_some_iff_getElem.1 h
    have h3 : x ∈ xs := by
      have : xs[i] = x := by simpa using h2
      exact this ▸ List.getElem_mem h1
    simp [h3]

theorem contains_any (B : Nat) (A : Option Addr) (c : Nat) (xs : List Int) (x : Int) (w : World) (hr : IntsIn B w A xs) (hm : xs.length ≤ 1000) :
    Calls Try.prog 89 #[.slice A xs.length c, .int .i64 x] w fun e w' => e = .returned (.bool (hasB xs x)) ∧ w = w' := by
  have H := Lib.hid (idxFrom_has xs x)
  go_enter Try.func89, Try.ntmps89
  go_wp2_with (go_at_call 133; refine (index_any _ _ _ _ _ _ hr hm).mono ?_; rintro e w' ⟨rfl, rfl⟩)
  go_ret
  exact ⟨ret_bool H.out, rfl⟩

def sizeV (n : Int) : Int := max n (-n)
theorem size_any (n : Int) (w : World) (h : -1000000000000000000 ≤ n) (h2 : n ≤ 1000000000000000000) :
    Calls Try.prog 90 #[.int .i64 n] w fun e w' => e = .returned (.int .i64 (sizeV n)) ∧ w = w' := by
  rcases Int.lt_or_le n 0 with hn | hn
  all_goals
    go_enter Try.func90, Try.ntmps90
    go_wp2
    all_goals
      go_ret
      exact ⟨ret_int (by unfold sizeV; omega), rfl⟩

def stackE (count overlap : Int) : Int := unlessV (withinB count 1 8 && withinB overlap 0 8) 2

theorem stackErr_any (count overlap : Int) (w : World) :
    Calls Try.prog 85 #[.int .i64 count, .int .i64 overlap] w fun e w' => e = .returned (.int .i64 (stackE count overlap)) ∧ w = w' := by
  cases h : withinB count 1 8
  all_goals
    go_enter Try.func85, Try.ntmps85
    go_wp2_with (first
      | (go_at_call 88; refine (within_any _ _ _ _).mono ?_; rintro e w' ⟨rfl, rfl⟩)
      | (go_at_call 87; refine (unless_any _ _ _).mono ?_; rintro e w' ⟨rfl, rfl⟩))
    go_ret
    exact ⟨ret_int (by simp [stackE, h]), rfl⟩

theorem contains_n (n : Nat) (B : Nat) (A : Option Addr) (c : Nat) (xs : List Int) (x : Int) (w : World) (hr : IntsIn B w A xs) (hn : xs.length = n) (hm : n ≤ 1000) :
    Calls Try.prog 89 #[.slice A n c, .int .i64 x] w fun e w' => e = .returned (.bool (hasB xs x)) ∧ w = w' := by
  subst hn
  exact contains_any B A c xs x w hr hm

theorem IntsIn.take {B : Nat} {w : World} {A : Option Addr} {xs : List Int} (h : IntsIn B w A xs) (k : Nat) : IntsIn B w A (xs.take k) := by
  rcases h with h | ⟨b, off, hA, hb, hc⟩
  · exact .inl (by rw [h]; simp)
  · exact .inr ⟨b, off, hA, hb, fun j hj => by
      have hj1 : j < k := by simp at hj; omega
      have hj2 : j < xs.length := by simp at hj; omega
      rw [hc j hj2]
      simp [List.getD, hj1]⟩

/-- The first index from k on (below n) at which f is not 0, with its value; (0, 0) if there is none. -/
def scanF (f : Nat → Int) : Nat → Nat → Nat × Int
  | 0, _ => (0, 0)
  | m + 1, k => if f k = 0 then scanF f m (k + 1) else (k, f k)
def scan (f : Nat → Int) (n k : Nat) : Nat × Int := scanF f (n - k) k
theorem scan_step {f : Nat → Int} {n k : Nat} (h : k < n) : scan f n k = if f k = 0 then scan f n (k + 1) else (k, f k) := by
  unfold scan
  rw [show n - k = (n - (k + 1)) + 1 by omega, scanF]
theorem scan_end {f : Nat → Int} {n k : Nat} (h : n ≤ k) : scan f n k = (0, 0) := by
  unfold scan
  rw [show n - k = 0 by omega, scanF]

def offErr (xs : List Int) (i : Nat) : Int := firstV [unlessV (withinB (xs.getD i 0) 0 (xs.length - 1)) 2, unlessV (!(hasB (xs.take i) (xs.getD i 0))) 23]
def gapErr (xs : List Int) (overlap : Int) (i : Nat) : Int :=
  if (decide (1 < xs.length) && decide (sizeV (xs.getD i 0 - xs.getD ((i + xs.length - 1) % xs.length) 0) < overlap)) = true then 14 else 0
def checkStackV (xs : List Int) (overlap : Int) : Nat × Int :=
  if stackE xs.length overlap ≠ 0 then (0, stackE xs.length overlap)
  else if (scan (offErr xs) xs.length 0).2 ≠ 0 then scan (offErr xs) xs.length 0
  else scan (gapErr xs overlap) xs.length 0

theorem unless_ne {b : Bool} {e : Int} (he : e ≠ 0) : unlessV b e = 0 ↔ b = true := by cases b <;> simp [unlessV, he]
theorem firstV_zero {x : Int} {l : List Int} : firstV (x :: l) = 0 ↔ x = 0 ∧ firstV l = 0 := by
  simp only [firstV]
  by_cases h : x = 0 <;> simp [h]
theorem offErr_in {xs : List Int} {k : Nat} (h : offErr xs k = 0) : 0 ≤ xs.getD k 0 ∧ xs.getD k 0 ≤ xs.length - 1 := by
  have h1 := (unless_ne (by decide)).1 (firstV_zero.1 h).1
  simp only [withinB, Bool.and_eq_true, decide_eq_true_eq] at h1
  exact h1

set_option maxHeartbeats 1000000 in
set_option maxRecDepth 100000 in
theorem checkStack_any (B : Nat) (A : Option Addr) (c : Nat) (xs : List Int) (overlap : Int) (w : World) (hr : IntsIn B w A xs) (hB : B ≤ w.heap.size) (hm : xs.length ≤ 1000) (hcap : xs.length ≤ c) :
    Calls Try.prog 23 #[.slice A xs.length c, .int .i64 overlap] w fun e w' =>
      e = .returned (.tuple #[.int .i64 ((checkStackV xs overlap).1 : Int), .int .i64 (checkStackV xs overlap).2]) ∧ Below w.heap.size w w' := by
  by_cases h0 : stackE xs.length overlap = 0
  · have H0 := Lib.hid h0
    clear h0
    have h00 : stackE xs.length overlap = 0 := H0.out
    go_enter Try.func23, Try.ntmps23
    go_wp2_with (go_at_call 85; refine (stackErr_any _ _ _).mono ?_; rintro e w' ⟨rfl, rfl⟩)
    clear h00
    go_loopw [23] (fun i wr => ∃ k : Nat, k ≤ xs.length ∧ i = .int .i64 k ∧ scan (offErr xs) xs.length 0 = scan (offErr xs) xs.length k ∧ (∀ j, j < k → 0 ≤ xs.getD j 0 ∧ xs.getD j 0 ≤ xs.length - 1) ∧ Below w.heap.size w wr) (fun i _ => xs.length - (intOf i).toNat)
    case atStart => exact ⟨0, Nat.zero_le _, rfl, rfl, fun j hj => by omega, pr⟩
    case round =>
      obtain ⟨k, hk, rfl, hf, hin, hb⟩ := hrel
      by_cases hlt : k < xs.length
      · have hrw := hr.below (hb.mono hB)
        obtain ⟨b, off, rfl, hbB, hc⟩ := hrw.at_ hlt
        have hcell := hc k hlt
        have hbw := Nat.lt_of_lt_of_le hbB (Nat.le_trans hB hb.size)
        have HR := Lib.hid (hrw.more (Nat.le_trans hB hb.size))
        have HF := Lib.hid (hf.trans (scan_step hlt))
        have HI := Lib.hid (show offErr xs k = 0 → ∀ j, j < k + 1 → 0 ≤ xs.getD j 0 ∧ xs.getD j 0 ≤ xs.length - 1 from fun h j hj => by
          rcases Nat.lt_or_ge j k with h' | h'
          · exact hin j h'
          · obtain rfl : j = k := by omega
            exact offErr_in h)
        have HE := Lib.hid (show offErr xs k = firstV [unlessV (withinB (xs.getD k 0) 0 (xs.length - 1)) 2, unlessV (!(hasB (xs.take k) (xs.getD k 0))) 23] from rfl)
        have i0 : (0 : Int) ≤ (k : Int) := by omega
        have i1 : (k : Int) ≤ (c : Int) := by omega
        have hk1000 : k ≤ 1000 := by omega
        have HT := Lib.hid (show (xs.take k).length = k by simp; omega)
        clear hf hc hin hr hrw
        generalize xs.getD k 0 = x at *
        have hw1 : IntKind.i64.wrap ((xs.length : Int) - 1) = (xs.length : Int) - 1 := IntWalk.i64_in _ (by omega)
        go_wp2
        refine region_below 12 follows_mixed (by kernel_rfl) ?_
        intro C hC
        simp only [List.take_succ_cons, List.take_zero, List.drop_succ_cons, List.drop_zero]
        repeat (first
          | ((with_reducible refine quiet_plain rfl (fun K hK => ?_)); (focus (apply quiet_val; (focus (intro w' hw; obtain ⟨hcq, hfq⟩ := bcell ((hC.out _).1 hw); go_simp; (first | done | rfl | (with_reducible exact call_same hw (within_any _ _ _ _)) | (with_reducible exact call_same hw (unless_any _ _ _)) | (with_reducible exact call_same hw (contains_n k _ _ c (xs.take k) _ _ ((HR.out.below ((hC.out _).1 hw)).take k) HT.out hk1000))))); (simp only [Act.put, List.setIfInBounds_toArray, List.set_cons_succ, List.set_cons_zero]); (with_reducible refine hK _ ?_); clear hK K)))
          | ((with_reducible refine quiet_skip ?_ ?_); (focus (simp [Region.wanted, yielded]; done)); simp only [Act.put, List.setIfInBounds_toArray, List.set_cons_succ, List.set_cons_zero])
          | ((with_reducible refine quiet_go ?_ (fun K hK => ?_)); (focus (simp [Region.wanted, yielded]; done)); (focus (apply quiet_val; (focus (intro w' hw; obtain ⟨hcq, hfq⟩ := bcell ((hC.out _).1 hw); go_simp; (first | done | rfl | (with_reducible exact call_same hw (within_any _ _ _ _)) | (with_reducible exact call_same hw (unless_any _ _ _)) | (with_reducible exact call_same hw (contains_n k _ _ c (xs.take k) _ _ ((HR.out.below ((hC.out _).1 hw)).take k) HT.out hk1000))))); (simp only [Act.put, List.setIfInBounds_toArray, List.set_cons_succ, List.set_cons_zero]); (with_reducible refine hK _ ?_); clear hK K))))
        refine wpQuiet_nil ?_
        intro w1 hb1
        replace hb1 := (hC.out _).1 hb1
        clear hC C
        obtain ⟨hc1, hf1⟩ := bcell hb1
        by_cases hz : offErr xs k = 0
        · have HZ := Lib.hid hz
          clear hz
          go_wp2_with (go_at_call 86; refine (first2 _ _ _ _ _ (by go_simp; rfl) (by go_simp; rfl)).mono ?_; rintro e w' ⟨rfl, rfl⟩; rw [← HE.out, HZ.out])
          go_roundw
          case rel =>
            exact ⟨k + 1, by omega, by go_num, by rw [HF.out, if_pos HZ.out], HI.out HZ.out, pa (pt hb hb1)⟩
          case measure => simp [intOf]; omega
        · have hz1 : (offErr xs k == 0) = false := by simpa using hz
          have HZ := Lib.hid hz
          clear hz
          have HV := Lib.hid (show checkStackV xs overlap = (k, offErr xs k) by
            have e : scan (offErr xs) xs.length 0 = (k, offErr xs k) := by rw [HF.out, if_neg HZ.out]
            simp only [checkStackV, e, H0.out]
            rw [if_neg (by simp), if_pos HZ.out])
          go_wp2_with (go_at_call 86; refine (first2 _ _ _ _ _ (by go_simp; rfl) (by go_simp; rfl)).mono ?_; rintro e w' ⟨rfl, rfl⟩; rw [← HE.out])
          go_ret2
          exact ⟨ret_ii (by rw [HV.out]) (by rw [HV.out]), pa (pt hb hb1)⟩
      · have hkn : k = xs.length := by omega
        subst hkn
        have HF := Lib.hid (show scan (offErr xs) xs.length 0 = (0, 0) by rw [hf]; exact scan_end (Nat.le_refl _))
        have HI := Lib.hid hin
        have HR := Lib.hid hr
        clear hf hin hr
        go_wp2
        go_loopw [49] (fun i wr2 => ∃ k : Nat, k ≤ xs.length ∧ i = .int .i64 k ∧ scan (gapErr xs overlap) xs.length 0 = scan (gapErr xs overlap) xs.length k ∧ Below w.heap.size w wr2) (fun i _ => xs.length - (intOf i).toNat)
        case atStart => exact ⟨0, Nat.zero_le _, rfl, rfl, hb⟩
        case round =>
          obtain ⟨k, hk, rfl, hf, hb2⟩ := hrel
          by_cases hlt2 : k < xs.length
          · obtain ⟨b, off, rfl, hbB, hc⟩ := (HR.out.below (hb2.mono hB)).at_ hlt2
            have hcell := hc k hlt2
            have hcell2 := hc ((k + xs.length - 1) % xs.length) (Nat.mod_lt _ (by omega))
            have hb1 := HI.out k hlt2
            have hb3 := HI.out ((k + xs.length - 1) % xs.length) (Nat.mod_lt _ (by omega))
            have HF2 := Lib.hid (hf.trans (scan_step hlt2))
            have HG := Lib.hid (show gapErr xs overlap k = if (decide (1 < xs.length) && decide (sizeV (xs.getD k 0 - xs.getD ((k + xs.length - 1) % xs.length) 0) < overlap)) = true then 14 else 0 from rfl)
            clear hf hc
            generalize xs.getD k 0 = x at *
            generalize xs.getD ((k + xs.length - 1) % xs.length) 0 = y at *
            by_cases h1 : 1 < xs.length
            · have e0 : ((k : Int) + (xs.length : Int) - 1) % (xs.length : Int) = (((k + xs.length - 1) % xs.length : Nat) : Int) := by
                rw [show (k : Int) + (xs.length : Int) - 1 = ((k + xs.length - 1 : Nat) : Int) by omega]
                exact (Int.natCast_emod _ _).symm
              have q0 : (0 : Int) ≤ ((k : Int) + (xs.length : Int) - 1) % (xs.length : Int) := by rw [e0]; exact Int.natCast_nonneg _
              have q1 : ((k : Int) + (xs.length : Int) - 1) % (xs.length : Int) < (xs.length : Int) := by rw [e0]; exact Int.ofNat_lt.2 (Nat.mod_lt _ (by omega))
              have q2 : (((k : Int) + (xs.length : Int) - 1) % (xs.length : Int)).toNat = (k + xs.length - 1) % xs.length := by rw [e0]; exact Int.toNat_natCast _
              clear e0
              go_wp2_with (go_at_call 90; refine (size_any _ _ (by omega) (by omega)).mono ?_; rintro e w' ⟨rfl, rfl⟩)
              · go_ret2
                have hg : gapErr xs overlap k = 14 := by rw [HG.out, if_pos (by simp; omega)]
                have hv : checkStackV xs overlap = (k, 14) := by
                  simp only [checkStackV, H0.out, HF.out, HF2.out, hg]
                  simp
                exact ⟨ret_ii (by rw [hv]) (by rw [hv]), hb2⟩
              · go_roundw
                case rel => exact ⟨k + 1, by omega, by go_num, by rw [HF2.out, if_pos (by rw [HG.out, if_neg (by simp; omega)])], hb2⟩
                case measure => simp [intOf]; omega
            · have h1' : decide (1 < xs.length) = false := by simpa using h1
              have h1'' : decide ((1 : Int) < (xs.length : Int)) = false := by simp; omega
              go_wp2
              go_roundw
              case rel => exact ⟨k + 1, by omega, by go_num, by rw [HF2.out, if_pos (by rw [HG.out, if_neg (by simp; omega)])], hb2⟩
              case measure => simp [intOf]; omega
          · have hv : checkStackV xs overlap = (0, 0) := by
              have e : scan (gapErr xs overlap) xs.length 0 = (0, 0) := by rw [hf]; exact scan_end (by omega)
              simp only [checkStackV, H0.out, HF.out, e]
              simp
            have HV := Lib.hid hv
            clear hv hf
            go_wp2
            go_ret2
            exact ⟨ret_ii (by rw [HV.out]; rfl) (by rw [HV.out]), hb2⟩
  · have h00 : (stackE xs.length overlap == 0) = false := by simpa using h0
    have hv : checkStackV xs overlap = (0, stackE xs.length overlap) := by simp [checkStackV, h0]
    have HV := Lib.hid hv
    clear hv h0
    go_enter Try.func23, Try.ntmps23
    go_wp2_with (go_at_call 85; refine (stackErr_any _ _ _).mono ?_; rintro e w' ⟨rfl, rfl⟩)
    go_ret2
    exact ⟨ret_ii (by rw [HV.out]; rfl) (by rw [HV.out]), pr⟩

end Go.Proofs.Ytlgioldmjohhlaa
