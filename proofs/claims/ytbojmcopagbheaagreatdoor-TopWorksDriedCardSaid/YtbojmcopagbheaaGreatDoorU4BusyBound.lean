/- Contracts: the program's BusyBound, the specification's TasksErr. -/
import Derived.Test.YtbojmcopagbheaaGreatDoorRC
namespace Go.Proofs.YtbojmcopagbheaaGreatDoor
open Go.RowKit Go.Shelf

def taskOne (ts : List Task) (l : List Int) (i : Nat) : Int :=
  if withinB (l.getD i 0) 0 ((ts.length : Int) - 1) = false then 6 else firstV [unlessV (decide (i = 0) || decide (l.getD (i - 1) 0 < l.getD i 0)) 9, unlessV (decide ((ts.getD (l.getD i 0).toNat default).machine = (ts.getD (l.getD 0 0).toNat default).machine)) 13]
/-- The error of tasks of one machine. -/
def tasksE (ts : List Task) (l : List Int) : Int := if l.length = 0 then 10 else (scan (taskOne ts l) l.length 0).2

theorem taskOne_in {ts : List Task} {l : List Int} {i : Nat} (h : taskOne ts l i = 0) : 0 ≤ l.getD i 0 ∧ l.getD i 0 < (ts.length : Int) := by
  unfold taskOne at h
  cases hw : withinB (l.getD i 0) 0 ((ts.length : Int) - 1) with
  | false => rw [hw] at h; simp at h
  | true =>
    simp only [withinB, Bool.and_eq_true, decide_eq_true_eq] at hw
    omega
theorem tasksE_ok {ts : List Task} {l : List Int} (hm : l.length ≤ 1000) (h : tasksE ts l = 0) : TasksOk ts.length l := by
  unfold tasksE at h
  by_cases h0 : l.length = 0
  · rw [if_pos h0] at h; simp at h
  · rw [if_neg h0] at h
    exact ⟨by omega, hm, fun j hj => taskOne_in (scan_zero h j hj)⟩


set_option maxHeartbeats 4000000 in
set_option maxRecDepth 100000 in
theorem busyBound_ok (B : Nat) (ts : List Task) (L : List Int) (A A2 : Option Addr) (c c2 : Nat) (m : Int) (w : World) (hr : TasksIn B w A ts) (hr2 : IntsIn B w A2 L) (hB : B ≤ w.heap.size) (hs : SmallPlan ts) (he : (openV m ts).2 = 0) (hL : L.length ≤ 1000) :
    Calls Tryz.prog 19 #[.agg #[.int .i64 m, .slice A ts.length c], .slice A2 L.length c2] w fun e w' => e = .returned (.tuple #[.int .i64 (if tasksE ts L = 0 then busyV ts L else 0), .int .i64 (tasksE ts L)]) ∧ Below w.heap.size w w' := by
  obtain ⟨ha, hl, hm, _, _, hpos⟩ := open_ok he
  have hp : PosOk ts := fun i hi => (hpos i hi).2
  have h7 := ha.1.1
  have hopen := opened_any B ts A c m (w.alloc (.cells #[.int .i64 m, .slice A ts.length c] 27)) (hr.below ((pa pr).mono hB)) (by simp; omega) hs
  rw [he] at hopen
  have HO := Lib.hid hopen
  have HBusy := Lib.hid fun W (hW : Below w.heap.size w W) (hE : tasksE ts L = 0) => busy_any B ts L A A2 c c2 m W (hr.below (hW.mono hB)) (hr2.below (hW.mono hB)) (Nat.le_trans hB hW.size) ha hl hm hp (tasksE_ok hL hE)
  have HR := Lib.hid hr
  have HR2 := Lib.hid hr2
  have HE := Lib.hid (show tasksE ts L = if L.length = 0 then 10 else (scan (taskOne ts L) L.length 0).2 from rfl)
  clear hopen he hs ha hl hm hpos hp hr hr2
  obtain ⟨R, hR⟩ : ∃ R, R = if tasksE ts L = 0 then busyV ts L else 0 := ⟨_, rfl⟩
  rw [← hR]
  have HRr := Lib.hid hR
  clear hR
  generalize busyV ts L = V at *
  generalize tasksE ts L = E at *
  by_cases h0 : L.length = 0
  · have hz : decide (0 < L.length) = false := decide_eq_false (by omega)
    have hz2 : ¬ 0 < L.length := by omega
    have HT := Lib.hid (show E = 10 by rw [HE.out, if_pos h0])
    have HRz := Lib.hid (show R = 0 by rw [HRr.out, HT.out]; rfl)
    have HV := Lib.hid (show firstV [0, unlessV false 10] = 10 from rfl)
    clear h0
    go_enter Tryz.func19, Tryz.ntmps19
    go_wp2_with (first
      | (go_at_call 57; go_must (refine HO.out.mono ?_); rintro e w1 ⟨rfl, hb1⟩)
      | (go_at_call 47; refine (unless_any _ _ _).mono ?_; rintro e w' ⟨rfl, rfl⟩)
      | (go_at_call 45; refine (first2' _ _ _ _ _ (by first | (go_simp; done) | (go_simp; rfl)) (by first | (go_simp; done) | (go_simp; rfl)) _ HV.out).mono ?_; rintro e w' ⟨rfl, rfl⟩))
    go_ret2
    exact ⟨ret_ii HRz.out.symm HT.out.symm, pa (pa (pt (pa pr) hb1))⟩
  · have hz : decide (0 < L.length) = true := decide_eq_true (by omega)
    have hz2 : 0 < L.length := by omega
    have HT := Lib.hid (show E = (scan (taskOne ts L) L.length 0).2 by rw [HE.out, if_neg h0])
    have HV := Lib.hid (show firstV [0, unlessV true 10] = 0 from rfl)
    clear h0
    go_enter Tryz.func19, Tryz.ntmps19
    go_wp2_with (first
      | (go_at_call 57; go_must (refine HO.out.mono ?_); rintro e w1 ⟨rfl, hb1⟩)
      | (go_at_call 47; refine (unless_any _ _ _).mono ?_; rintro e w' ⟨rfl, rfl⟩)
      | (go_at_call 45; refine (first2' _ _ _ _ _ (by first | (go_simp; done) | (go_simp; rfl)) (by first | (go_simp; done) | (go_simp; rfl)) _ HV.out).mono ?_; rintro e w' ⟨rfl, rfl⟩))
    have RA := Lib.hid ((((Blk.newAt (w := w) (t := 27) (cs := #[.int .i64 m, .slice A ts.length c]) rfl).past hb1)).alloc (o := .cells #[.int .i64 m, .slice A ts.length c] 102) |>.alloc (o := .cells #[.int .i64 0, .int .i64 (unlessV true 10)] 37))
    have RB := Lib.hid ((Blk.new w1 102 #[.int .i64 m, .slice A ts.length c]).alloc (o := .cells #[.int .i64 0, .int .i64 (unlessV true 10)] 37))
    have HBo := Lib.hid (show Below w.heap.size w ((w1.alloc (.cells #[.int .i64 m, .slice A ts.length c] 102)).alloc (.cells #[.int .i64 0, .int .i64 (unlessV true 10)] 37)) from pa (pa (pt (pa pr) hb1)))
    clear hb1 HV HO hz
    generalize (w1.alloc (.cells #[.int .i64 m, .slice A ts.length c] 102)).alloc (.cells #[.int .i64 0, .int .i64 (unlessV true 10)] 37) = wo at *
    generalize w1.heap.size = pb at *
    go_loopw [28] (fun iv wr => ∃ i : Nat, iv = .int .i64 (i : Int) ∧ i ≤ L.length ∧ scan (taskOne ts L) L.length 0 = scan (taskOne ts L) L.length i ∧ (0 < i → 0 ≤ L.getD 0 0 ∧ L.getD 0 0 < (ts.length : Int)) ∧ Below wo.heap.size wo wr) (fun iv _ => L.length - (intOf iv).toNat)
    case atStart => exact ⟨0, rfl, Nat.zero_le _, rfl, fun h => by omega, pr⟩
    case round =>
      obtain ⟨i, rfl, hi, hf, hfirst, hq⟩ := hrel
      have HQ := Lib.hid (pt HBo.out hq)
      have HQ0 := Lib.hid hq
      have a0 := (RA.out.past hq).cellAt 0 rfl
      have a1 := (RA.out.past hq).cellAt 1 rfl
      have x0 := (RA.out.past hq).lt
      have b0 := (RB.out.past hq).cellAt 0 rfl
      have b1 := (RB.out.past hq).cellAt 1 rfl
      have y0 := (RB.out.past hq).lt
      clear hq
      by_cases hlt : i < L.length
      · obtain ⟨b2, off2, hA2, hbB2, hc2⟩ := HR2.out.at_ hlt
        have f1 := ((bcell (HQ.out.mono hB)).1 _ _ hbB2).trans (hc2 i hlt)
        have zb2 : b2 < wr.heap.size := by have := HQ.out.size; omega
        have HF := Lib.hid (hf.trans (scan_step hlt))
        have i0 : (0 : Int) ≤ (i : Int) := by omega
        have i1 : (i : Int) < (L.length : Int) := by omega
        have hwl : IntKind.i64.wrap ((ts.length : Int) - 1) = (ts.length : Int) - 1 := IntWalk.i64_in _ (by omega)
        have HOne := Lib.hid (show taskOne ts L i = if withinB (L.getD i 0) 0 ((ts.length : Int) - 1) = false then 6 else firstV [unlessV (decide (i = 0) || decide (L.getD (i - 1) 0 < L.getD i 0)) 9, unlessV (decide ((ts.getD (L.getD i 0).toNat default).machine = (ts.getD (L.getD 0 0).toNat default).machine)) 13] from rfl)
        have HC2 := Lib.hid hc2
        subst hA2
        clear hc2 hf
        generalize hxx : L.getD i 0 = x at *
        cases hwi : withinB x 0 ((ts.length : Int) - 1) with
        | false =>
          have HOne2 := Lib.hid (show taskOne ts L i = 6 by rw [HOne.out, hwi]; rfl)
          have HE6 := Lib.hid (show E = 6 by rw [HT.out, HF.out, HOne2.out]; rfl)
          have HRz := Lib.hid (show R = 0 by rw [HRr.out, HE6.out]; rfl)
          clear HOne hxx
          go_wp2_with (first | (go_at_call 61; refine (within_any _ _ _ _).mono ?_; rintro e w' ⟨rfl, rfl⟩))
          go_ret2
          exact ⟨ret_ii HRz.out.symm HE6.out.symm, HQ.out⟩
        | true =>
          have hxr : 0 ≤ x ∧ x < (ts.length : Int) := by
            have := hwi
            simp only [withinB, Bool.and_eq_true, decide_eq_true_eq] at this
            omega
          have HOne2 := Lib.hid (show taskOne ts L i = firstV [unlessV (decide (i = 0) || decide (L.getD (i - 1) 0 < x)) 9, unlessV (decide ((ts.getD x.toNat default).machine = (ts.getD (L.getD 0 0).toNat default).machine)) 13] by rw [HOne.out, hwi]; rfl)
          clear HOne
          have hF : taskOne ts L i = 0 ∨ (taskOne ts L i == 0) = false := by
            by_cases h : taskOne ts L i = 0
            · exact .inl h
            · exact .inr (by simpa using h)
          have hyr : 0 ≤ L.getD 0 0 ∧ L.getD 0 0 < (ts.length : Int) := by
            by_cases h : i = 0
            · subst h; rw [hxx]; exact hxr
            · exact hfirst (by omega)
          have HFst := Lib.hid hyr
          obtain ⟨k, rfl⟩ : ∃ k : Nat, x = (k : Int) := ⟨x.toNat, by omega⟩
          have f0 : wr.cell? ⟨b2, off2, none⟩ = some (.int .i64 (L.getD 0 0)) := ((bcell (HQ.out.mono hB)).1 _ _ hbB2).trans (HC2.out 0 hz2)
          have hkt : k < ts.length := by omega
          have k0 : (0 : Int) ≤ (k : Int) := by omega
          have k1 : (k : Int) < (ts.length : Int) := by omega
          have HI0 := Lib.hid (show i = 0 → L.getD 0 0 = (k : Int) from fun h => by rw [← hxx, h])
          have HP1 := Lib.hid (show ∀ h : 0 < i, wr.cell? ⟨b2, off2 + (i - 1), none⟩ = some (.int .i64 (L.getD (i - 1) 0)) from fun h => ((bcell (HQ.out.mono hB)).1 _ _ hbB2).trans (HC2.out (i - 1) (by omega)))
          generalize hyy : L.getD 0 0 = y at *
          obtain ⟨q, rfl⟩ : ∃ q : Nat, y = (q : Int) := ⟨y.toNat, by omega⟩
          have hqt : q < ts.length := by omega
          have q0 : (0 : Int) ≤ (q : Int) := by omega
          have q1 : (q : Int) < (ts.length : Int) := by omega
          obtain ⟨b, off, hA, hbB, hct⟩ := HR.out.at_ hkt
          obtain ⟨t0w, _⟩ := hct k hkt
          obtain ⟨t1w, _⟩ := hct q hqt
          have t0 := ((bcell (HQ.out.mono hB)).1 _ _ hbB).trans t0w
          have t1 := ((bcell (HQ.out.mono hB)).1 _ _ hbB).trans t1w
          have hbw : b < wr.heap.size := by have := HQ.out.size; omega
          subst hA
          clear hct t0w t1w hxr hyr hxx hyy hfirst HC2
          rw [Int.toNat_natCast, Int.toNat_natCast] at HOne2
          generalize (ts.getD k default).machine = mk at *
          generalize (ts.getD q default).machine = mq at *
          generalize L.getD (i - 1) 0 = pv at *
          by_cases hi0 : i = 0
          · have hb : ((i : Int) == 0) = true := by simpa using hi0
            by_cases hmm : mk = mq
            · have hmb : ((mk : Int) == mq) = true := by simpa using hmm
              have HV := Lib.hid (show firstV [unlessV true 9, unlessV true 13] = taskOne ts L i by rw [HOne2.out, hi0, hmm]; simp)
              clear hmm hi0
              rcases hF with hF | hF
              · have HG := Lib.hid (show scan (taskOne ts L) L.length 0 = scan (taskOne ts L) L.length (i + 1) by rw [HF.out, if_pos hF])
                have HV2 := Lib.hid (HV.out.trans hF)
                clear HV hF HF
                have HV := HV2
                clear HV2
                go_wp2_with (first | (go_at_call 61; refine (within_any _ _ _ _).mono ?_; rintro e w' ⟨rfl, rfl⟩))
                refine region_below 29 follows_mixed (by kernel_rfl) ?_
                intro C hC
                simp only [List.take_succ_cons, List.take_zero, List.drop_succ_cons, List.drop_zero]
                repeat (first
                  | ((with_reducible refine quiet_plain rfl (fun K hK => ?_)); (focus (apply quiet_val; (focus (intro w' hw; obtain ⟨hcq, hfq⟩ := bcell ((hC.out _).1 hw); go_simp; (first | done | rfl | (with_reducible exact call_same hw (unless_any _ _ _))))); (simp only [Act.put, List.setIfInBounds_toArray, List.set_cons_succ, List.set_cons_zero]); (with_reducible refine hK _ ?_); clear hK K)))
                  | ((with_reducible refine quiet_skip ?_ ?_); (focus (first | (simp [Region.wanted, yielded]; done) | (simp [Region.wanted, yielded, undef]; done))); simp only [Act.put, List.setIfInBounds_toArray, List.set_cons_succ, List.set_cons_zero])
                  | ((with_reducible refine quiet_go ?_ (fun K hK => ?_)); (focus (first | (simp [Region.wanted, yielded]; done) | (simp [Region.wanted, yielded, undef]; done))); (focus (apply quiet_val; (focus (intro w' hw; obtain ⟨hcq, hfq⟩ := bcell ((hC.out _).1 hw); go_simp; (first | done | rfl | (with_reducible exact call_same hw (unless_any _ _ _))))); (simp only [Act.put, List.setIfInBounds_toArray, List.set_cons_succ, List.set_cons_zero]); (with_reducible refine hK _ ?_); clear hK K))))
                refine wpQuiet_nil ?_
                intro w1 hb1
                replace hb1 := (hC.out _).1 hb1
                clear hC C
                obtain ⟨hc1, hf1⟩ := bcell hb1
                clear hc1 hf1
                go_wp2_with (go_at_call 45; refine (first2' _ _ _ _ _ (by first | (go_simp; done) | (go_simp; rfl)) (by first | (go_simp; done) | (go_simp; rfl)) _ HV.out).mono ?_; rintro e w' ⟨rfl, rfl⟩)
                go_roundw
                case rel => exact ⟨i + 1, by go_num, by omega, HG.out, fun _ => HFst.out, pa (pt HQ0.out hb1)⟩
                case measure => simp [intOf]; omega
              · have HG := Lib.hid (show E = taskOne ts L i by rw [HT.out, HF.out, if_neg (by simpa using hF)])
                have HRz := Lib.hid (show R = 0 by rw [HRr.out, if_neg (by rw [HG.out]; simpa using hF)])
                clear HF
                generalize taskOne ts L i = F at *
                go_wp2_with (first | (go_at_call 61; refine (within_any _ _ _ _).mono ?_; rintro e w' ⟨rfl, rfl⟩))
                refine region_below 29 follows_mixed (by kernel_rfl) ?_
                intro C hC
                simp only [List.take_succ_cons, List.take_zero, List.drop_succ_cons, List.drop_zero]
                repeat (first
                  | ((with_reducible refine quiet_plain rfl (fun K hK => ?_)); (focus (apply quiet_val; (focus (intro w' hw; obtain ⟨hcq, hfq⟩ := bcell ((hC.out _).1 hw); go_simp; (first | done | rfl | (with_reducible exact call_same hw (unless_any _ _ _))))); (simp only [Act.put, List.setIfInBounds_toArray, List.set_cons_succ, List.set_cons_zero]); (with_reducible refine hK _ ?_); clear hK K)))
                  | ((with_reducible refine quiet_skip ?_ ?_); (focus (first | (simp [Region.wanted, yielded]; done) | (simp [Region.wanted, yielded, undef]; done))); simp only [Act.put, List.setIfInBounds_toArray, List.set_cons_succ, List.set_cons_zero])
                  | ((with_reducible refine quiet_go ?_ (fun K hK => ?_)); (focus (first | (simp [Region.wanted, yielded]; done) | (simp [Region.wanted, yielded, undef]; done))); (focus (apply quiet_val; (focus (intro w' hw; obtain ⟨hcq, hfq⟩ := bcell ((hC.out _).1 hw); go_simp; (first | done | rfl | (with_reducible exact call_same hw (unless_any _ _ _))))); (simp only [Act.put, List.setIfInBounds_toArray, List.set_cons_succ, List.set_cons_zero]); (with_reducible refine hK _ ?_); clear hK K))))
                refine wpQuiet_nil ?_
                intro w1 hb1
                replace hb1 := (hC.out _).1 hb1
                clear hC C
                obtain ⟨hc1, hf1⟩ := bcell hb1
                clear hc1 hf1
                go_wp2_with (go_at_call 45; refine (first2' _ _ _ _ _ (by first | (go_simp; done) | (go_simp; rfl)) (by first | (go_simp; done) | (go_simp; rfl)) _ HV.out).mono ?_; rintro e w' ⟨rfl, rfl⟩)
                go_ret2
                exact ⟨ret_ii HRz.out.symm HG.out.symm, pa (pt HQ.out hb1)⟩
            · have hmb : ((mk : Int) == mq) = false := by simpa using hmm
              have HV := Lib.hid (show firstV [unlessV true 9, unlessV false 13] = taskOne ts L i by rw [HOne2.out, hi0, decide_eq_false hmm]; simp)
              clear hmm hi0
              rcases hF with hF | hF
              · have HG := Lib.hid (show scan (taskOne ts L) L.length 0 = scan (taskOne ts L) L.length (i + 1) by rw [HF.out, if_pos hF])
                have HV2 := Lib.hid (HV.out.trans hF)
                clear HV hF HF
                have HV := HV2
                clear HV2
                go_wp2_with (first | (go_at_call 61; refine (within_any _ _ _ _).mono ?_; rintro e w' ⟨rfl, rfl⟩))
                refine region_below 29 follows_mixed (by kernel_rfl) ?_
                intro C hC
                simp only [List.take_succ_cons, List.take_zero, List.drop_succ_cons, List.drop_zero]
                repeat (first
                  | ((with_reducible refine quiet_plain rfl (fun K hK => ?_)); (focus (apply quiet_val; (focus (intro w' hw; obtain ⟨hcq, hfq⟩ := bcell ((hC.out _).1 hw); go_simp; (first | done | rfl | (with_reducible exact call_same hw (unless_any _ _ _))))); (simp only [Act.put, List.setIfInBounds_toArray, List.set_cons_succ, List.set_cons_zero]); (with_reducible refine hK _ ?_); clear hK K)))
                  | ((with_reducible refine quiet_skip ?_ ?_); (focus (first | (simp [Region.wanted, yielded]; done) | (simp [Region.wanted, yielded, undef]; done))); simp only [Act.put, List.setIfInBounds_toArray, List.set_cons_succ, List.set_cons_zero])
                  | ((with_reducible refine quiet_go ?_ (fun K hK => ?_)); (focus (first | (simp [Region.wanted, yielded]; done) | (simp [Region.wanted, yielded, undef]; done))); (focus (apply quiet_val; (focus (intro w' hw; obtain ⟨hcq, hfq⟩ := bcell ((hC.out _).1 hw); go_simp; (first | done | rfl | (with_reducible exact call_same hw (unless_any _ _ _))))); (simp only [Act.put, List.setIfInBounds_toArray, List.set_cons_succ, List.set_cons_zero]); (with_reducible refine hK _ ?_); clear hK K))))
                refine wpQuiet_nil ?_
                intro w1 hb1
                replace hb1 := (hC.out _).1 hb1
                clear hC C
                obtain ⟨hc1, hf1⟩ := bcell hb1
                clear hc1 hf1
                go_wp2_with (go_at_call 45; refine (first2' _ _ _ _ _ (by first | (go_simp; done) | (go_simp; rfl)) (by first | (go_simp; done) | (go_simp; rfl)) _ HV.out).mono ?_; rintro e w' ⟨rfl, rfl⟩)
                go_roundw
                case rel => exact ⟨i + 1, by go_num, by omega, HG.out, fun _ => HFst.out, pa (pt HQ0.out hb1)⟩
                case measure => simp [intOf]; omega
              · have HG := Lib.hid (show E = taskOne ts L i by rw [HT.out, HF.out, if_neg (by simpa using hF)])
                have HRz := Lib.hid (show R = 0 by rw [HRr.out, if_neg (by rw [HG.out]; simpa using hF)])
                clear HF
                generalize taskOne ts L i = F at *
                go_wp2_with (first | (go_at_call 61; refine (within_any _ _ _ _).mono ?_; rintro e w' ⟨rfl, rfl⟩))
                refine region_below 29 follows_mixed (by kernel_rfl) ?_
                intro C hC
                simp only [List.take_succ_cons, List.take_zero, List.drop_succ_cons, List.drop_zero]
                repeat (first
                  | ((with_reducible refine quiet_plain rfl (fun K hK => ?_)); (focus (apply quiet_val; (focus (intro w' hw; obtain ⟨hcq, hfq⟩ := bcell ((hC.out _).1 hw); go_simp; (first | done | rfl | (with_reducible exact call_same hw (unless_any _ _ _))))); (simp only [Act.put, List.setIfInBounds_toArray, List.set_cons_succ, List.set_cons_zero]); (with_reducible refine hK _ ?_); clear hK K)))
                  | ((with_reducible refine quiet_skip ?_ ?_); (focus (first | (simp [Region.wanted, yielded]; done) | (simp [Region.wanted, yielded, undef]; done))); simp only [Act.put, List.setIfInBounds_toArray, List.set_cons_succ, List.set_cons_zero])
                  | ((with_reducible refine quiet_go ?_ (fun K hK => ?_)); (focus (first | (simp [Region.wanted, yielded]; done) | (simp [Region.wanted, yielded, undef]; done))); (focus (apply quiet_val; (focus (intro w' hw; obtain ⟨hcq, hfq⟩ := bcell ((hC.out _).1 hw); go_simp; (first | done | rfl | (with_reducible exact call_same hw (unless_any _ _ _))))); (simp only [Act.put, List.setIfInBounds_toArray, List.set_cons_succ, List.set_cons_zero]); (with_reducible refine hK _ ?_); clear hK K))))
                refine wpQuiet_nil ?_
                intro w1 hb1
                replace hb1 := (hC.out _).1 hb1
                clear hC C
                obtain ⟨hc1, hf1⟩ := bcell hb1
                clear hc1 hf1
                go_wp2_with (go_at_call 45; refine (first2' _ _ _ _ _ (by first | (go_simp; done) | (go_simp; rfl)) (by first | (go_simp; done) | (go_simp; rfl)) _ HV.out).mono ?_; rintro e w' ⟨rfl, rfl⟩)
                go_ret2
                exact ⟨ret_ii HRz.out.symm HG.out.symm, pa (pt HQ.out hb1)⟩
          · have hb : ((i : Int) == 0) = false := by simpa using hi0
            have p1 := HP1.out (by omega)
            have i3 : (0 : Int) ≤ (i : Int) - 1 := by omega
            have i4 : (1 : Int) ≤ (i : Int) := by omega
            have i5 : (i : Int) - 1 < (L.length : Int) := by omega
            have i6 : ((i : Int) - 1).toNat = i - 1 := by omega
            have hmax : max (i : Int) 1 = (i : Int) := by omega
            have hwi1 : IntKind.i64.wrap ((i : Int) - 1) = (i : Int) - 1 := IntWalk.i64_in _ (by omega)
            by_cases hmm : mk = mq
            · have hmb : ((mk : Int) == mq) = true := by simpa using hmm
              have HV := Lib.hid (show firstV [unlessV (decide (pv < (k : Int))) 9, unlessV true 13] = taskOne ts L i by rw [HOne2.out, decide_eq_false hi0, Bool.false_or, decide_eq_true hmm])
              clear hmm hi0
              rcases hF with hF | hF
              · have HG := Lib.hid (show scan (taskOne ts L) L.length 0 = scan (taskOne ts L) L.length (i + 1) by rw [HF.out, if_pos hF])
                have HV2 := Lib.hid (HV.out.trans hF)
                clear HV hF HF
                have HV := HV2
                clear HV2
                go_wp2_with (first | (go_at_call 61; refine (within_any _ _ _ _).mono ?_; rintro e w' ⟨rfl, rfl⟩))
                refine region_below 29 follows_mixed (by kernel_rfl) ?_
                intro C hC
                simp only [List.take_succ_cons, List.take_zero, List.drop_succ_cons, List.drop_zero]
                repeat (first
                  | ((with_reducible refine quiet_plain rfl (fun K hK => ?_)); (focus (apply quiet_val; (focus (intro w' hw; obtain ⟨hcq, hfq⟩ := bcell ((hC.out _).1 hw); go_simp; (first | done | rfl | (with_reducible exact call_same hw (unless_any _ _ _))))); (simp only [Act.put, List.setIfInBounds_toArray, List.set_cons_succ, List.set_cons_zero]); (with_reducible refine hK _ ?_); clear hK K)))
                  | ((with_reducible refine quiet_skip ?_ ?_); (focus (first | (simp [Region.wanted, yielded]; done) | (simp [Region.wanted, yielded, undef]; done))); simp only [Act.put, List.setIfInBounds_toArray, List.set_cons_succ, List.set_cons_zero])
                  | ((with_reducible refine quiet_go ?_ (fun K hK => ?_)); (focus (first | (simp [Region.wanted, yielded]; done) | (simp [Region.wanted, yielded, undef]; done))); (focus (apply quiet_val; (focus (intro w' hw; obtain ⟨hcq, hfq⟩ := bcell ((hC.out _).1 hw); go_simp; (first | done | rfl | (with_reducible exact call_same hw (unless_any _ _ _))))); (simp only [Act.put, List.setIfInBounds_toArray, List.set_cons_succ, List.set_cons_zero]); (with_reducible refine hK _ ?_); clear hK K))))
                refine wpQuiet_nil ?_
                intro w1 hb1
                replace hb1 := (hC.out _).1 hb1
                clear hC C
                obtain ⟨hc1, hf1⟩ := bcell hb1
                clear hc1 hf1
                go_wp2_with (go_at_call 45; refine (first2' _ _ _ _ _ (by first | (go_simp; done) | (go_simp; rfl)) (by first | (go_simp; done) | (go_simp; rfl)) _ HV.out).mono ?_; rintro e w' ⟨rfl, rfl⟩)
                go_roundw
                case rel => exact ⟨i + 1, by go_num, by omega, HG.out, fun _ => HFst.out, pa (pt HQ0.out hb1)⟩
                case measure => simp [intOf]; omega
              · have HG := Lib.hid (show E = taskOne ts L i by rw [HT.out, HF.out, if_neg (by simpa using hF)])
                have HRz := Lib.hid (show R = 0 by rw [HRr.out, if_neg (by rw [HG.out]; simpa using hF)])
                clear HF
                generalize taskOne ts L i = F at *
                go_wp2_with (first | (go_at_call 61; refine (within_any _ _ _ _).mono ?_; rintro e w' ⟨rfl, rfl⟩))
                refine region_below 29 follows_mixed (by kernel_rfl) ?_
                intro C hC
                simp only [List.take_succ_cons, List.take_zero, List.drop_succ_cons, List.drop_zero]
                repeat (first
                  | ((with_reducible refine quiet_plain rfl (fun K hK => ?_)); (focus (apply quiet_val; (focus (intro w' hw; obtain ⟨hcq, hfq⟩ := bcell ((hC.out _).1 hw); go_simp; (first | done | rfl | (with_reducible exact call_same hw (unless_any _ _ _))))); (simp only [Act.put, List.setIfInBounds_toArray, List.set_cons_succ, List.set_cons_zero]); (with_reducible refine hK _ ?_); clear hK K)))
                  | ((with_reducible refine quiet_skip ?_ ?_); (focus (first | (simp [Region.wanted, yielded]; done) | (simp [Region.wanted, yielded, undef]; done))); simp only [Act.put, List.setIfInBounds_toArray, List.set_cons_succ, List.set_cons_zero])
                  | ((with_reducible refine quiet_go ?_ (fun K hK => ?_)); (focus (first | (simp [Region.wanted, yielded]; done) | (simp [Region.wanted, yielded, undef]; done))); (focus (apply quiet_val; (focus (intro w' hw; obtain ⟨hcq, hfq⟩ := bcell ((hC.out _).1 hw); go_simp; (first | done | rfl | (with_reducible exact call_same hw (unless_any _ _ _))))); (simp only [Act.put, List.setIfInBounds_toArray, List.set_cons_succ, List.set_cons_zero]); (with_reducible refine hK _ ?_); clear hK K))))
                refine wpQuiet_nil ?_
                intro w1 hb1
                replace hb1 := (hC.out _).1 hb1
                clear hC C
                obtain ⟨hc1, hf1⟩ := bcell hb1
                clear hc1 hf1
                go_wp2_with (go_at_call 45; refine (first2' _ _ _ _ _ (by first | (go_simp; done) | (go_simp; rfl)) (by first | (go_simp; done) | (go_simp; rfl)) _ HV.out).mono ?_; rintro e w' ⟨rfl, rfl⟩)
                go_ret2
                exact ⟨ret_ii HRz.out.symm HG.out.symm, pa (pt HQ.out hb1)⟩
            · have hmb : ((mk : Int) == mq) = false := by simpa using hmm
              have HV := Lib.hid (show firstV [unlessV (decide (pv < (k : Int))) 9, unlessV false 13] = taskOne ts L i by rw [HOne2.out, decide_eq_false hi0, Bool.false_or, decide_eq_false hmm])
              clear hmm hi0
              rcases hF with hF | hF
              · have HG := Lib.hid (show scan (taskOne ts L) L.length 0 = scan (taskOne ts L) L.length (i + 1) by rw [HF.out, if_pos hF])
                have HV2 := Lib.hid (HV.out.trans hF)
                clear HV hF HF
                have HV := HV2
                clear HV2
                go_wp2_with (first | (go_at_call 61; refine (within_any _ _ _ _).mono ?_; rintro e w' ⟨rfl, rfl⟩))
                refine region_below 29 follows_mixed (by kernel_rfl) ?_
                intro C hC
                simp only [List.take_succ_cons, List.take_zero, List.drop_succ_cons, List.drop_zero]
                repeat (first
                  | ((with_reducible refine quiet_plain rfl (fun K hK => ?_)); (focus (apply quiet_val; (focus (intro w' hw; obtain ⟨hcq, hfq⟩ := bcell ((hC.out _).1 hw); go_simp; (first | done | rfl | (with_reducible exact call_same hw (unless_any _ _ _))))); (simp only [Act.put, List.setIfInBounds_toArray, List.set_cons_succ, List.set_cons_zero]); (with_reducible refine hK _ ?_); clear hK K)))
                  | ((with_reducible refine quiet_skip ?_ ?_); (focus (first | (simp [Region.wanted, yielded]; done) | (simp [Region.wanted, yielded, undef]; done))); simp only [Act.put, List.setIfInBounds_toArray, List.set_cons_succ, List.set_cons_zero])
                  | ((with_reducible refine quiet_go ?_ (fun K hK => ?_)); (focus (first | (simp [Region.wanted, yielded]; done) | (simp [Region.wanted, yielded, undef]; done))); (focus (apply quiet_val; (focus (intro w' hw; obtain ⟨hcq, hfq⟩ := bcell ((hC.out _).1 hw); go_simp; (first | done | rfl | (with_reducible exact call_same hw (unless_any _ _ _))))); (simp only [Act.put, List.setIfInBounds_toArray, List.set_cons_succ, List.set_cons_zero]); (with_reducible refine hK _ ?_); clear hK K))))
                refine wpQuiet_nil ?_
                intro w1 hb1
                replace hb1 := (hC.out _).1 hb1
                clear hC C
                obtain ⟨hc1, hf1⟩ := bcell hb1
                clear hc1 hf1
                go_wp2_with (go_at_call 45; refine (first2' _ _ _ _ _ (by first | (go_simp; done) | (go_simp; rfl)) (by first | (go_simp; done) | (go_simp; rfl)) _ HV.out).mono ?_; rintro e w' ⟨rfl, rfl⟩)
                go_roundw
                case rel => exact ⟨i + 1, by go_num, by omega, HG.out, fun _ => HFst.out, pa (pt HQ0.out hb1)⟩
                case measure => simp [intOf]; omega
              · have HG := Lib.hid (show E = taskOne ts L i by rw [HT.out, HF.out, if_neg (by simpa using hF)])
                have HRz := Lib.hid (show R = 0 by rw [HRr.out, if_neg (by rw [HG.out]; simpa using hF)])
                clear HF
                generalize taskOne ts L i = F at *
                go_wp2_with (first | (go_at_call 61; refine (within_any _ _ _ _).mono ?_; rintro e w' ⟨rfl, rfl⟩))
                refine region_below 29 follows_mixed (by kernel_rfl) ?_
                intro C hC
                simp only [List.take_succ_cons, List.take_zero, List.drop_succ_cons, List.drop_zero]
                repeat (first
                  | ((with_reducible refine quiet_plain rfl (fun K hK => ?_)); (focus (apply quiet_val; (focus (intro w' hw; obtain ⟨hcq, hfq⟩ := bcell ((hC.out _).1 hw); go_simp; (first | done | rfl | (with_reducible exact call_same hw (unless_any _ _ _))))); (simp only [Act.put, List.setIfInBounds_toArray, List.set_cons_succ, List.set_cons_zero]); (with_reducible refine hK _ ?_); clear hK K)))
                  | ((with_reducible refine quiet_skip ?_ ?_); (focus (first | (simp [Region.wanted, yielded]; done) | (simp [Region.wanted, yielded, undef]; done))); simp only [Act.put, List.setIfInBounds_toArray, List.set_cons_succ, List.set_cons_zero])
                  | ((with_reducible refine quiet_go ?_ (fun K hK => ?_)); (focus (first | (simp [Region.wanted, yielded]; done) | (simp [Region.wanted, yielded, undef]; done))); (focus (apply quiet_val; (focus (intro w' hw; obtain ⟨hcq, hfq⟩ := bcell ((hC.out _).1 hw); go_simp; (first | done | rfl | (with_reducible exact call_same hw (unless_any _ _ _))))); (simp only [Act.put, List.setIfInBounds_toArray, List.set_cons_succ, List.set_cons_zero]); (with_reducible refine hK _ ?_); clear hK K))))
                refine wpQuiet_nil ?_
                intro w1 hb1
                replace hb1 := (hC.out _).1 hb1
                clear hC C
                obtain ⟨hc1, hf1⟩ := bcell hb1
                clear hc1 hf1
                go_wp2_with (go_at_call 45; refine (first2' _ _ _ _ _ (by first | (go_simp; done) | (go_simp; rfl)) (by first | (go_simp; done) | (go_simp; rfl)) _ HV.out).mono ?_; rintro e w' ⟨rfl, rfl⟩)
                go_ret2
                exact ⟨ret_ii HRz.out.symm HG.out.symm, pa (pt HQ.out hb1)⟩
      · have HEz := Lib.hid (show E = 0 by rw [HT.out, hf, scan_end (by omega)])
        have HRz := Lib.hid (show R = V by rw [HRr.out, if_pos HEz.out])
        clear hf
        go_wp2_with (go_at_call 62; go_must (refine (HBusy.out _ HQ.out HEz.out).mono ?_); rintro e w2 ⟨rfl, hb2⟩)
        go_ret2
        exact ⟨ret_ii HRz.out.symm HEz.out.symm, pt HQ.out hb2⟩

end Go.Proofs.YtbojmcopagbheaaGreatDoor
