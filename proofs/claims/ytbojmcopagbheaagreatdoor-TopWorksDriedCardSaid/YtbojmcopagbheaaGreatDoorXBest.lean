/- Contract: a best schedule of a plan, or the error. -/
import Derived.Test.YtbojmcopagbheaaGreatDoorWTry
namespace Go.Proofs.YtbojmcopagbheaaGreatDoor
open Go.RowKit Go.Shelf

theorem try_any (B : Nat) (ts : List Task) (sb rb tb c : Nat) (m : Int) (A : Option Addr) (tails : List Int) (ha : AcyOk ts) (hl : LenOk ts) (hmach : MachOk ts) (hsb : B ≤ sb) (hrb : B ≤ rb) (hne : sb ≠ rb) (hts : tb ≠ sb) (htr : tb ≠ rb)
    (htl : tails.length = ts.length) (htb : ∀ j, 0 ≤ tails.getD j 0 ∧ tails.getD j 0 ≤ 1000000) : ∀ f, f ≤ 8 → TryAt B ts sb rb tb c m A tails f
  | 0, _ => fun d st bv w _ hu => by omega
  | f + 1, hf => fun d st bv w hd hu hok hS hr hn => by
    by_cases hdone : d = 2 ^ ts.length - 1
    · have h := try_leaf B ts sb rb tb c m A tails (f + 1) d ha.1 hl hsb hne hts htr st bv w hdone hok hS hr hn
      rw [show tryF ts tails (f + 1) d st = leafV ts st by unfold tryF; rw [if_pos hdone]]
      exact h
    · have h := try_loop B ts sb rb tb c m A tails f d ha hl hmach hsb hrb hne hts htr hf htl htb (try_any B ts sb rb tb c m A tails ha hl hmach hsb hrb hne hts htr htl htb f (by omega)) st bv w hd hdone hu hok hS hr hn
      rw [show tryF ts tails (f + 1) d st = uptoV ts tails f d st ts.length by unfold tryF uptoV; rw [if_neg hdone]]
      exact h

theorem taskE_range {t : Task} (h : taskE t = 0) : 0 ≤ t.machine ∧ t.machine ≤ 3 ∧ 1 ≤ t.length ∧ t.length ≤ 10000 ∧ 0 ≤ t.release ∧ t.release ≤ 10000 := by
  unfold taskE at h
  by_cases h1 : taskE1 t = 0
  · have h2 := (unless_ne (by decide)).1 (firstV_zero.1 h1).1
    simp only [withinB, Bool.and_eq_true, decide_eq_true_eq] at h2
    omega
  · rw [if_pos h1] at h
    exact absurd h h1

/-- What a valid plan is. -/
theorem open_ok {m : Int} {ts : List Task} (h : (openV m ts).2 = 0) : AcyOk ts ∧ LenOk ts ∧ MachOk ts ∧ 1 ≤ m ∧ m ≤ 4 ∧ (∀ i, i < ts.length → (ts.getD i default).machine < m ∧ 1 ≤ (ts.getD i default).length) := by
  unfold openV at h
  by_cases h0 : openE0 m ts.length = 0
  · rw [if_neg (by simpa using h0)] at h
    by_cases h1 : (scan (openE1 m ts) ts.length 0).2 = 0
    · rw [if_neg (by simpa using h1)] at h
      have hp := planOk_of h0 h1
      have hm := (unless_ne (by decide)).1 (firstV_zero.1 h0).1
      simp only [withinB, Bool.and_eq_true, decide_eq_true_eq] at hm
      have he : ∀ i, i < ts.length → taskE (ts.getD i default) = 0 ∧ (ts.getD i default).machine < m := fun i hi => by
        obtain ⟨h4, h5⟩ := firstV_zero.1 (scan_zero h1 i hi)
        have h6 := (unless_ne (by decide)).1 (firstV_zero.1 h5).1
        simp only [Bool.and_eq_true, decide_eq_true_eq] at h6
        exact ⟨h4, h6.1⟩
      refine ⟨⟨hp, fun i hi => ?_⟩, fun i hi => ?_, fun i hi => ?_, hm.1, hm.2, fun i hi => ?_⟩
      · have := scan_zero h i hi
        unfold openE2 at this
        cases hb : (needsV ts i).testBit i with
        | false => rfl
        | true => rw [hb] at this; simp at this
      · have := taskE_range (he i hi).1; omega
      · have := taskE_range (he i hi).1; omega
      · have := taskE_range (he i hi).1
        exact ⟨(he i hi).2, by omega⟩
    · rw [if_pos h1] at h; exact absurd h h1
  · rw [if_pos h0] at h; exact absurd h h0

def srch0 (n : Nat) : Srch := ⟨List.replicate n 0, [0, 0, 0, 0], none, 0⟩
def bestV (ts : List Task) : Srch := tryF ts (tailsV ts) 8 0 (srch0 ts.length)

theorem getD_rep (n j : Nat) : (List.replicate n (0 : Int)).getD j 0 = 0 := by
  simp only [List.getD, List.getElem?_replicate]
  split <;> rfl

theorem srch0_ok (ts : List Task) : SrchOk ts 8 0 (srch0 ts.length) := by
  refine ⟨by simp [srch0], rfl, fun j => ?_, fun j => ?_, fun j hj => ?_, fun b hb => ?_, by simp [srch0], by simp [srch0]⟩
  · have : (srch0 ts.length).free.getD j 0 = 0 := by
      match j with
      | 0 => rfl
      | 1 => rfl
      | 2 => rfl
      | 3 => rfl
      | j + 4 => rfl
    rw [this]
    omega
  · have : (srch0 ts.length).starts.getD j 0 = 0 := getD_rep _ _
    rw [this]; omega
  · simp at hj
  · cases hb

theorem relax_ok {ts : List Task} (hl : LenOk ts) {i : Nat} (hi : i < ts.length) : ∀ (l : List Int) (b : Nat) (out : List Int), OutOk ts b out → OutOk ts (b + 10000 * l.length) (l.foldl (relaxT ts i) out)
  | [], b, out, h => h
  | x :: l, b, out, h => by
    obtain ⟨h1, h2, _, _⟩ := hl i hi
    have hx := h.2 x.toNat
    have hy := h.2 i
    have hs : OutOk ts (b + 10000) (relaxT ts i out x) := h.set_ (by omega) (by omega)
    have := relax_ok hl hi l (b + 10000) _ hs
    simp only [List.foldl_cons, List.length_cons]
    exact this.more (by omega)
theorem tailsTask_ok {ts : List Task} (hp : PlanOk ts) (hl : LenOk ts) : ∀ (l : List Nat) (b : Nat) (out : List Int), (∀ x ∈ l, x < ts.length) → OutOk ts b out → OutOk ts (b + 70000 * l.length) (l.foldl (tailsTask ts) out)
  | [], b, out, _, h => h
  | i :: l, b, out, hm, h => by
    have hi := hm i (by simp)
    have h7 := (hp.2 i hi).1
    have hs := relax_ok hl hi (ts.getD i default).after b out h
    have := tailsTask_ok hp hl l _ _ (fun x hx => hm x (by simp [hx])) hs
    simp only [List.foldl_cons, List.length_cons]
    exact this.more (by omega)
theorem tailsV_ok {ts : List Task} (hp : PlanOk ts) (hl : LenOk ts) : (tailsV ts).length = ts.length ∧ ∀ j, 0 ≤ (tailsV ts).getD j 0 ∧ (tailsV ts).getD j 0 ≤ 1000000 := by
  have h0 : OutOk ts 0 (List.replicate ts.length 0) := ⟨by simp, fun j => by rw [getD_rep]; omega⟩
  have h := tailsTask_ok hp hl (orderV ts).reverse 0 _ (fun x hx => order_mem (by simpa using hx)) h0
  have hlen := order_len ts
  have h7 := hp.1
  rw [List.length_reverse] at h
  exact ⟨h.1, fun j => by have h2 := h.2 j; unfold tailsV; omega⟩

theorem start_a {ts : List Task} {c g : Nat} {m : Int} {A : Option Addr} {w2 : World} (hg : Blk w2 g 3 (iarr (tailsV ts))) {o : Array Value} (ho : o = srchCells m A ts.length c g w2.heap.size (srch0 ts.length) (.slice none 0 0)) :
    SrchIn ts (w2.heap.size + 1) w2.heap.size g c m A (tailsV ts) (srch0 ts.length) (.slice none 0 0) ((w2.alloc (.cells (iarr (List.replicate ts.length 0)) 3)).alloc (.cells o 109)) := by
  subst ho
  exact ⟨Blk.newAt (by simp), (Blk.newAt rfl).alloc, hg.alloc.alloc, rfl⟩
theorem start_b {ts : List Task} {c g r : Nat} {m : Int} {A : Option Addr} {w2 : World} (hr : Blk w2 r 3 (iarr (List.replicate ts.length 0))) (hg : Blk w2 g 3 (iarr (tailsV ts))) {o : Array Value} (ho : o = srchCells m A ts.length c g r (srch0 ts.length) (.slice none 0 0)) :
    SrchIn ts w2.heap.size r g c m A (tailsV ts) (srch0 ts.length) (.slice none 0 0) (w2.alloc (.cells o 109)) := by
  subst ho
  exact ⟨Blk.newAt rfl, hr.alloc, hg.alloc, rfl⟩

/-- The best schedule, as a slice. -/
def BestOut (W : World) : Option (List Int) → Value → Prop
  | none, v => v = .slice none 0 0
  | some b, v => ∃ A c, v = .slice A b.length c ∧ IntsIn W.heap.size W A b
theorem BestIs.out {sb rb : Nat} {W : World} {o : Option (List Int)} {v : Value} (h : BestIs sb rb W o v) : BestOut W o v := by
  cases o with
  | none => exact h
  | some b =>
    obtain ⟨A, c, hv, h⟩ := h
    refine ⟨A, c, hv, ?_⟩
    rcases h with h | ⟨g, off, hA, _, _, h3, h4⟩
    · exact .inl h
    · exact .inr ⟨g, off, hA, h3, h4⟩

def BestPost (ts : List Task) (w : World) (e : Ending) (w' : World) : Prop := ∃ bv, e = .returned (.tuple #[bv, .int .i64 (bestV ts).last, .int .i64 0]) ∧ BestOut w' (bestV ts).best bv ∧ Below w.heap.size w w'

set_option maxHeartbeats 2000000 in
set_option maxRecDepth 100000 in
theorem best_err (B : Nat) (ts : List Task) (A : Option Addr) (c : Nat) (m : Int) (w : World) (hr : TasksIn B w A ts) (hB : B ≤ w.heap.size) (hs : SmallPlan ts) (he : (openV m ts).2 ≠ 0) :
    Calls Tryz.prog 15 #[.agg #[.int .i64 m, .slice A ts.length c]] w fun e w' =>
      e = .returned (.tuple #[.slice none 0 0, .int .i64 0, .int .i64 (openV m ts).2]) ∧ Below w.heap.size w w' := by
  have hopen := opened_any B ts A c m (w.alloc (.cells #[.int .i64 m, .slice A ts.length c] 27)) (hr.below ((pa pr).mono hB)) (by simp; omega) hs
  have HO := Lib.hid hopen
  have hne : ((openV m ts).2 != 0) = true := by simpa using he
  clear hopen he hs
  generalize (openV m ts).2 = E at *
  go_enter Tryz.func15, Tryz.ntmps15
  go_wp2_with (go_at_call 57; go_must (refine HO.out.mono ?_); rintro e w1 ⟨rfl, hb1⟩)
  go_ret3
  exact ⟨rfl, pa (pt (pa pr) hb1)⟩

set_option maxHeartbeats 2000000 in
set_option maxRecDepth 100000 in
theorem best_ok (B : Nat) (ts : List Task) (A : Option Addr) (c : Nat) (m : Int) (w : World) (hr : TasksIn B w A ts) (hB : B ≤ w.heap.size) (hs : SmallPlan ts) (he : (openV m ts).2 = 0) :
    Calls Tryz.prog 15 #[.agg #[.int .i64 m, .slice A ts.length c]] w (BestPost ts w) := by
  obtain ⟨ha, hl, hmach, _⟩ := open_ok he
  have h7 := ha.1.1
  have hopen := opened_any B ts A c m (w.alloc (.cells #[.int .i64 m, .slice A ts.length c] 27)) (hr.below ((pa pr).mono hB)) (by simp; omega) hs
  rw [he] at hopen
  have HO := Lib.hid hopen
  have hmk := fun w => run_make_row' (P := Tryz.prog) 32 3 (.int .i64 0) 8 rfl int_info rfl .i64 .i64 ts.length (by omega) (by omega) w
  rw [made_zero] at hmk
  clear hopen he hs
  go_enter Tryz.func15, Tryz.ntmps15
  go_wp2_with (go_at_call 57; go_must (refine HO.out.mono ?_); rintro e w1 ⟨rfl, hb1⟩)
  have r0 : Blk w1 w.heap.size 27 #[.int .i64 m, .slice A ts.length c] := (Blk.newAt rfl).past hb1
  have hm1 : Below w.heap.size w w1 := pt (pa pr) hb1
  have hT1 : TasksIn B w1 A ts := hr.below (hm1.mono hB)
  have hz : w.heap.size < w1.heap.size := r0.lt
  have r1 : Blk (w1.alloc (.cells #[.int .i64 m, .slice A ts.length c] 102)) w1.heap.size 102 #[.int .i64 m, .slice A ts.length c] := Blk.new _ _ _
  have r2 := r0.alloc (o := .cells #[.int .i64 m, .slice A ts.length c] 102)
  have htails := fun W (h : TasksIn B W A ts) hB => (callsIn_wide (n := 3)).1 (tails_in B 3 ts A c m W (Nat.le_refl _) h hB ha hl)
  have HTails := Lib.hid htails
  have hm2 : Below w.heap.size w (w1.alloc (.cells #[.int .i64 m, .slice A ts.length c] 102)) := pa hm1
  have hsz : (w1.alloc (.cells #[.int .i64 m, .slice A ts.length c] 102)).heap.size = w1.heap.size + 1 := by simp
  have HR := Lib.hid hr
  have hpb : w1.heap.size = w1.heap.size := rfl
  generalize w1.alloc (.cells #[.int .i64 m, .slice A ts.length c] 102) = W at *
  generalize w1.heap.size = pb at *
  have e0 : W.cell? ⟨pb, 0, none⟩ = some (.int .i64 m) := r1.cellAt 0 rfl
  have e1 : W.cell? ⟨pb, 1, none⟩ = some (.slice A ts.length c) := r1.cellAt 1 rfl
  have e2 : W.cell? ⟨w.heap.size, 1, none⟩ = some (.slice A ts.length c) := r2.cellAt 1 rfl
  have x1 := r1.lt
  have x2 := r2.lt
  clear htails hr hT1 hb1 r0 hpb hm1 hsz
  go_region_held3 (fun w' => w'.cell? ⟨pb, 0, none⟩ = some (.int .i64 m) ∧ w'.cell? ⟨pb, 1, none⟩ = some (.slice A ts.length c) ∧ w'.cell? ⟨w.heap.size, 1, none⟩ = some (.slice A ts.length c)) ((first | go_keep | (refine ⟨?_, ?_, ?_⟩ <;> (rw [hc2 _ _ (by simp; omega)]; go_keep))))
    ((first
      | (go_at_call 58; (with_reducible refine (HTails.out _ (HR.out.below ((pd hm2).mono hB)) (Nat.le_trans hB (pd hm2).size)).mono ?_); rintro e w2 ⟨g, rfl, hg, hgl, hb2⟩; have hc2 := (bcell hb2).1)
      | (go_at_call 58; (with_reducible refine (HTails.out _ (HR.out.below ((pd (pa (o := .cells (iarr (List.replicate ts.length 0)) 3) hm2)).mono hB)) (Nat.le_trans hB (pd (pa (o := .cells (iarr (List.replicate ts.length 0)) 3) hm2)).size)).mono ?_); rintro e w2 ⟨g, rfl, hg, hgl, hb2⟩; have hc2 := (bcell hb2).1)))
  all_goals
    first
      | (have hb3 := hm2.trans ((pd pr).trans hb2 |>.mono hm2.size)
         have hS := start_a (c := c) (m := m) (A := A) hg (o := #[.int .i64 m, .slice A ts.length c, .slice (some ⟨g, 0, none⟩) ts.length ts.length, .slice (some ⟨w2.heap.size, 0, none⟩) ts.length ts.length, .int .i64 0, .int .i64 0, .int .i64 0, .int .i64 0, .slice none 0 0, .int .i64 0]) rfl
         have hbv := pa (o := .cells #[.int .i64 m, .slice A ts.length c, .slice (some ⟨g, 0, none⟩) ts.length ts.length, .slice (some ⟨w2.heap.size, 0, none⟩) ts.length ts.length, .int .i64 0, .int .i64 0, .int .i64 0, .int .i64 0, .slice none 0 0, .int .i64 0] 109) (pa (o := .cells (iarr (List.replicate ts.length 0)) 3) hb3)
         have hn1 : w.heap.size ≤ w2.heap.size + 1 := by have := hb3.size; omega
         have hn2 : w.heap.size ≤ w2.heap.size := hb3.size
         have hne : w2.heap.size + 1 ≠ w2.heap.size := by omega
         have hts : g ≠ w2.heap.size + 1 := by have := hg.lt; omega
         have htr : g ≠ w2.heap.size := by have := hg.lt; omega
         generalize (w2.alloc (.cells (iarr (List.replicate ts.length 0)) 3)).alloc (.cells #[.int .i64 m, .slice A ts.length c, .slice (some ⟨g, 0, none⟩) ts.length ts.length, .slice (some ⟨w2.heap.size, 0, none⟩) ts.length ts.length, .int .i64 0, .int .i64 0, .int .i64 0, .int .i64 0, .slice none 0 0, .int .i64 0] 109) = V at *
         generalize w2.heap.size + 1 = sb at *
         generalize w2.heap.size = rb at *
         skip)
      | (have hb3 := (pa (o := .cells (iarr (List.replicate ts.length 0)) 3) hm2).trans ((pd pr).trans hb2 |>.mono (pa (o := .cells (iarr (List.replicate ts.length 0)) 3) hm2).size)
         have hrow : Blk w2 W.heap.size 3 (iarr (List.replicate ts.length 0)) := ((Blk.new W 3 (iarr (List.replicate ts.length 0))).drew).past hb2
         have hS := start_b (c := c) (m := m) (A := A) hrow hg (o := #[.int .i64 m, .slice A ts.length c, .slice (some ⟨g, 0, none⟩) ts.length ts.length, .slice (some ⟨W.heap.size, 0, none⟩) ts.length ts.length, .int .i64 0, .int .i64 0, .int .i64 0, .int .i64 0, .slice none 0 0, .int .i64 0]) rfl
         have hbv := pa (o := .cells #[.int .i64 m, .slice A ts.length c, .slice (some ⟨g, 0, none⟩) ts.length ts.length, .slice (some ⟨W.heap.size, 0, none⟩) ts.length ts.length, .int .i64 0, .int .i64 0, .int .i64 0, .int .i64 0, .slice none 0 0, .int .i64 0] 109) hb3
         have hn1 : w.heap.size ≤ w2.heap.size := hb3.size
         have hn2 : w.heap.size ≤ W.heap.size := hm2.size
         have hne : w2.heap.size ≠ W.heap.size := by have := hrow.lt; omega
         have hts : g ≠ w2.heap.size := by have := hg.lt; omega
         have htr : g ≠ W.heap.size := by intro e; rw [e] at hgl; simp at hgl; omega
         generalize w2.alloc (.cells #[.int .i64 m, .slice A ts.length c, .slice (some ⟨g, 0, none⟩) ts.length ts.length, .slice (some ⟨W.heap.size, 0, none⟩) ts.length ts.length, .int .i64 0, .int .i64 0, .int .i64 0, .int .i64 0, .slice none 0 0, .int .i64 0] 109) = V at *
         generalize w2.heap.size = sb at *
         generalize W.heap.size = rb at *
         skip)
  all_goals
    have hTV : TasksIn B V A ts := HR.out.below (hbv.mono hB)
    have htl := tailsV_ok ha.1 hl
    have hcall := try_any B ts sb rb g c m A (tailsV ts) ha hl hmach (Nat.le_trans hB hn1) (Nat.le_trans hB hn2) hne hts htr htl.1 htl.2 8 (Nat.le_refl _) 0 (srch0 ts.length) _ V (Nat.two_pow_pos _) (by have := unset_le ts.length 0; omega) (srch0_ok ts) hS hTV (.inr rfl)
    have HCall := Lib.hid hcall
    have HBv := Lib.hid hbv
    clear hcall htl hS hTV hbv hb3 hb2 hc2 e0 e1 e2 x1 x2 hm2 hmk hg hgl r1 r2
    go_wp2_with (go_at_call 59; go_must (refine HCall.out.mono ?_); rintro e w6 ⟨⟨v6, rfl⟩, ⟨bv6, hS6⟩, hk6⟩)
    have hS6' : SrchIn ts sb rb g c m A (tailsV ts) (bestV ts) bv6 w6 := hS6
    have q8 : w6.cell? ⟨sb, 8, none⟩ = some bv6 := hS6'.1.cellAt 8 rfl
    have q9 : w6.cell? ⟨sb, 9, none⟩ = some (.int .i64 (bestV ts).last) := hS6'.1.cellAt 9 rfl
    have x6 := hS6'.1.lt
    have HS6 := Lib.hid hS6'
    clear hS6 hS6'
    go_quiet (fail)
    have hdr : Below w6.heap.size w6 (w6.drewN nq) := below_drewN' (Below.refl _ _) nq
    have hS7 := HS6.out.past hdr
    have hb6 := HBv.out.trans (hk6.below hn1 hn2 HBv.out.size)
    have hb7 : Below w.heap.size w (w6.drewN nq) := hb6.trans (hdr.mono hb6.size)
    clear q8 q9
    go_wp2
    go_ret3
    exact ⟨_, rfl, hS7.2.2.2.out, hb7⟩

end Go.Proofs.YtbojmcopagbheaaGreatDoor
