/- Contract: the specification's error of tasks of one machine. -/
import Derived.Test.YtlgioldmjohhlaaU4BusyBound
import Derived.Test.YtlgioldmjohhlaaMB
namespace Go.Proofs.Ytlgioldmjohhlaa
open Go.RowKit Go.Shelf


set_option maxHeartbeats 4000000 in
set_option maxRecDepth 100000 in
theorem refTasksErr_any (B : Nat) (ts : List Task) (L : List Int) (A A2 : Option Addr) (c c2 : Nat) (m : Int) (w : World) (hr : TasksIn B w A ts) (hr2 : IntsIn B w A2 L) (hB : B ≤ w.heap.size) (h7 : ts.length ≤ 1000) (hL : L.length ≤ 1000) :
    Calls Try.prog 74 #[.agg #[.int .i64 m, .slice A ts.length c], .slice A2 L.length c2] w fun e w' => e = .returned (.int .i64 (tasksE ts L)) ∧ Below w.heap.size w w' := by
  have HR := Lib.hid hr
  have HR2 := Lib.hid hr2
  have HE := Lib.hid (show tasksE ts L = if L.length = 0 then 10 else (scan (taskOne ts L) L.length 0).2 from rfl)
  clear hr hr2
  generalize tasksE ts L = E at *
  by_cases h0 : L.length = 0
  · have hz : ((L.length : Int) == 0) = true := by simp [h0]
    have HT := Lib.hid (show E = 10 by rw [HE.out, if_pos h0])
    clear h0
    go_enter Try.func74, Try.ntmps74
    go_wp2
    go_ret
    exact ⟨ret_int HT.out.symm, pa pr⟩
  · have hz : ((L.length : Int) == 0) = false := by simp [h0]
    have hz2 : 0 < L.length := by omega
    have HT := Lib.hid (show E = (scan (taskOne ts L) L.length 0).2 by rw [HE.out, if_neg h0])
    clear h0
    have RA := Lib.hid (Blk.newAt (w := w) (t := 24) (cs := #[.int .i64 m, .slice A ts.length c]) rfl)
    have HBo := Lib.hid (show Below w.heap.size w (w.alloc (.cells #[.int .i64 m, .slice A ts.length c] 24)) from pa pr)
    go_enter Try.func74, Try.ntmps74
    go_wp2
    generalize (w.alloc (.cells #[.int .i64 m, .slice A ts.length c] 24)) = wo at *
    go_loopw [5] (fun iv wr => ∃ i : Nat, iv = .int .i64 (i : Int) ∧ i ≤ L.length ∧ scan (taskOne ts L) L.length 0 = scan (taskOne ts L) L.length i ∧ (0 < i → 0 ≤ L.getD 0 0 ∧ L.getD 0 0 < (ts.length : Int)) ∧ Below wo.heap.size wo wr) (fun iv _ => L.length - (intOf iv).toNat)
    case atStart => exact ⟨0, rfl, Nat.zero_le _, rfl, fun h => by omega, pr⟩
    case round =>
      obtain ⟨i, rfl, hi, hf, hfirst, hq⟩ := hrel
      have HQ := Lib.hid (pt HBo.out hq)
      have HQ0 := Lib.hid hq
      have a0 := (RA.out.past hq).cellAt 0 rfl
      have a1 := (RA.out.past hq).cellAt 1 rfl
      have x0 := (RA.out.past hq).lt
      clear hq
      by_cases hlt : i < L.length
      · obtain ⟨b2, off2, hA2, hbB2, hc2⟩ := HR2.out.at_ hlt
        have f1 := ((bcell (HQ.out.mono hB)).1 _ _ hbB2).trans (hc2 i hlt)
        have zb2 : b2 < wr.heap.size := by have := HQ.out.size; omega
        have HF := Lib.hid (hf.trans (scan_step hlt))
        have i0 : (0 : Int) ≤ (i : Int) := by omega
        have i1 : (i : Int) < (L.length : Int) := by omega
        have hwl : IntKind.i64.wrap ((ts.length : Int) - 1) = (ts.length : Int) - 1 := IntWalk.i64_in _ (by omega)
        have HOne := Lib.hid (show taskOne ts L i = if withinB (L.getD i 0) 0 ((ts.length : Int) - 1) = false then 6 else firstV [unlessV (decide (i = 0) || decide (L.getD (i - 1) 0 < L.getD i 0)) 9, unlessV (decide ((ts.getD (L.getD i 0).toNat default).machine = (ts.getD (L.getD 0 0).toNat default).machine)) 13] from rfl)
        have HC2 := Lib.hid hc2
        have HW0 := fun W => baseWithin_any (L.getD i 0) 0 ((ts.length : Int) - 1) W
        subst hA2
        clear hc2 hf
        generalize hxx : L.getD i 0 = x at *
        generalize hwi : withinB x 0 ((ts.length : Int) - 1) = wb at *
        have HW := Lib.hid HW0
        clear HW0
        cases wb with
        | false =>
          have HOne2 := Lib.hid (show taskOne ts L i = 6 by rw [HOne.out]; rfl)
          have HE6 := Lib.hid (show E = 6 by rw [HT.out, HF.out, HOne2.out]; rfl)
          clear HOne hxx
          go_wp2
          go_quiet ((go_at_call 32; exact Calls.quiet_of_same ((HW.out _).mono fun e w' h => ⟨h.1, h.2.symm⟩)))
          go_wp2
          go_ret
          exact ⟨ret_int HE6.out.symm, below_drewN' HQ.out _⟩
        | true =>
          have hxr : 0 ≤ x ∧ x < (ts.length : Int) := by
            have := hwi
            simp only [withinB, Bool.and_eq_true, decide_eq_true_eq] at this
            omega
          have HOne2 := Lib.hid (show taskOne ts L i = firstV [unlessV (decide (i = 0) || decide (L.getD (i - 1) 0 < x)) 9, unlessV (decide ((ts.getD x.toNat default).machine = (ts.getD (L.getD 0 0).toNat default).machine)) 13] by rw [HOne.out]; rfl)
          clear HOne hwi
          have hyr : 0 ≤ L.getD 0 0 ∧ L.getD 0 0 < (ts.length : Int) := by
            by_cases h : i = 0
            · subst h; rw [hxx]; exact hxr
            · exact hfirst (by omega)
          have HFst := Lib.hid hyr
          obtain ⟨k, rfl⟩ : ∃ k : Nat, x = (k : Int) := ⟨x.toNat, by omega⟩
          have f0 : wr.cell? ⟨b2, off2, none⟩ = some (.int .i64 (L.getD 0 0)) := ((bcell (HQ.out.mono hB)).1 _ _ hbB2).trans (HC2.out 0 hz2)
          have hkt : k < ts.length := by omega
          have k0 : (0 : Int) ≤ (k : Int) := by omega
          have k1 : (k : Int) < (ts.length : Int) := by omega
          have HP1 := Lib.hid (show ∀ h : 0 < i, wr.cell? ⟨b2, off2 + (i - 1), none⟩ = some (.int .i64 (L.getD (i - 1) 0)) from fun h => ((bcell (HQ.out.mono hB)).1 _ _ hbB2).trans (HC2.out (i - 1) (by omega)))
          generalize hyy : L.getD 0 0 = y at *
          obtain ⟨q, rfl⟩ : ∃ q : Nat, y = (q : Int) := ⟨y.toNat, by omega⟩
          have hqt : q < ts.length := by omega
          have q0 : (0 : Int) ≤ (q : Int) := by omega
          have q1 : (q : Int) < (ts.length : Int) := by omega
          obtain ⟨b, off, hA, hbB, hct⟩ := HR.out.at_ hkt
          obtain ⟨t0w, _⟩ := hct k hkt
          obtain ⟨t1w, _⟩ := hct q hqt
          have t0 := ((bcell (HQ.out.mono hB)).1 _ _ hbB).trans t0w
          have t1 := ((bcell (HQ.out.mono hB)).1 _ _ hbB).trans t1w
          have hbw : b < wr.heap.size := by have := HQ.out.size; omega
          subst hA
          clear hct t0w t1w hxr hyr hxx hyy hfirst HC2
          rw [Int.toNat_natCast, Int.toNat_natCast] at HOne2
          generalize (ts.getD k default).machine = mk at *
          generalize (ts.getD q default).machine = mq at *
          generalize L.getD (i - 1) 0 = pv at *
          by_cases hi0 : i = 0
          · have hb : decide ((0 : Int) < (i : Int)) = false := decide_eq_false (by omega)
            have hb2 : ¬ 0 < i := by omega
            by_cases hmm : mk = mq
            · have hmb : ((mk : Int) != mq) = false := by simp [hmm]
              have HV := Lib.hid (show taskOne ts L i = 0 by rw [HOne2.out, hi0, hmm]; simp [firstV, unlessV])
              clear hmm hi0
              have HG := Lib.hid (show scan (taskOne ts L) L.length 0 = scan (taskOne ts L) L.length (i + 1) by rw [HF.out, if_pos HV.out])
              clear HF HV HOne2
              go_wp2
              go_quiet ((go_at_call 32; exact Calls.quiet_of_same ((HW.out _).mono fun e w' h => ⟨h.1, h.2.symm⟩)))
              go_wp2
              go_quiet (fail)
              go_wp2
              go_quiet (fail)
              go_wp2
              go_roundw
              case rel => exact ⟨i + 1, by go_num, by omega, HG.out, fun _ => HFst.out, below_drewN' HQ0.out _⟩
              case measure => simp [intOf]; omega
            · have hmb : ((mk : Int) != mq) = true := by simpa using hmm
              have HV := Lib.hid (show taskOne ts L i = 13 by rw [HOne2.out, hi0, decide_eq_false hmm]; simp [firstV, unlessV])
              clear hmm hi0
              have HG := Lib.hid (show E = 13 by rw [HT.out, HF.out, if_neg (by rw [HV.out]; decide), HV.out])
              clear HF HV HOne2
              go_wp2
              go_quiet ((go_at_call 32; exact Calls.quiet_of_same ((HW.out _).mono fun e w' h => ⟨h.1, h.2.symm⟩)))
              go_wp2
              go_quiet (fail)
              go_wp2
              go_quiet (fail)
              go_wp2
              go_ret
              exact ⟨ret_int HG.out.symm, by first | exact below_drewN' HQ.out _ | exact below_drewN' (below_drewN' HQ.out _) _ | exact below_drewN' (below_drewN' (below_drewN' HQ.out _) _) _⟩
          · have hb : decide ((0 : Int) < (i : Int)) = true := decide_eq_true (by omega)
            have hb2 : 0 < i := by omega
            have p1 := HP1.out (by omega)
            have i3 : (0 : Int) ≤ (i : Int) - 1 := by omega
            have i4 : (1 : Int) ≤ (i : Int) := by omega
            have i5 : (i : Int) - 1 < (L.length : Int) := by omega
            have i6 : ((i : Int) - 1).toNat = i - 1 := by omega
            have hwi1 : IntKind.i64.wrap ((i : Int) - 1) = (i : Int) - 1 := IntWalk.i64_in _ (by omega)
            by_cases ho : pv < (k : Int)
            · have ho1 : decide ((k : Int) ≤ pv) = false := decide_eq_false (by omega)
              have ho2 : ¬ (k : Int) ≤ pv := by omega
              by_cases hmm : mk = mq
              · have hmb : ((mk : Int) != mq) = false := by simp [hmm]
                have HV := Lib.hid (show taskOne ts L i = 0 by rw [HOne2.out, decide_eq_true ho, decide_eq_true hmm]; simp [firstV, unlessV])
                clear hmm hi0 ho
                have HG := Lib.hid (show scan (taskOne ts L) L.length 0 = scan (taskOne ts L) L.length (i + 1) by rw [HF.out, if_pos HV.out])
                clear HF HV HOne2
                go_wp2
                go_quiet ((go_at_call 32; exact Calls.quiet_of_same ((HW.out _).mono fun e w' h => ⟨h.1, h.2.symm⟩)))
                go_wp2
                go_quiet (fail)
                go_wp2
                go_quiet (fail)
                go_wp2
                go_roundw
                case rel => exact ⟨i + 1, by go_num, by omega, HG.out, fun _ => HFst.out, below_drewN' HQ0.out _⟩
                case measure => simp [intOf]; omega
              · have hmb : ((mk : Int) != mq) = true := by simpa using hmm
                have HV := Lib.hid (show taskOne ts L i = 13 by rw [HOne2.out, decide_eq_true ho, decide_eq_false hmm]; simp [firstV, unlessV])
                clear hmm hi0 ho
                have HG := Lib.hid (show E = 13 by rw [HT.out, HF.out, if_neg (by rw [HV.out]; decide), HV.out])
                clear HF HV HOne2
                go_wp2
                go_quiet ((go_at_call 32; exact Calls.quiet_of_same ((HW.out _).mono fun e w' h => ⟨h.1, h.2.symm⟩)))
                go_wp2
                go_quiet (fail)
                go_wp2
                go_quiet (fail)
                go_wp2
                go_ret
                exact ⟨ret_int HG.out.symm, by first | exact below_drewN' HQ.out _ | exact below_drewN' (below_drewN' HQ.out _) _ | exact below_drewN' (below_drewN' (below_drewN' HQ.out _) _) _⟩
            · have ho1 : decide ((k : Int) ≤ pv) = true := decide_eq_true (by omega)
              have ho2 : (k : Int) ≤ pv := by omega
              have HV := Lib.hid (show taskOne ts L i = 9 by rw [HOne2.out, decide_eq_false hi0, decide_eq_false ho]; simp [firstV, unlessV])
              clear hi0 ho
              have HG := Lib.hid (show E = 9 by rw [HT.out, HF.out, if_neg (by rw [HV.out]; decide), HV.out])
              clear HF HV HOne2
              go_wp2
              go_quiet ((go_at_call 32; exact Calls.quiet_of_same ((HW.out _).mono fun e w' h => ⟨h.1, h.2.symm⟩)))
              go_wp2
              go_quiet (fail)
              go_wp2
              go_ret
              exact ⟨ret_int HG.out.symm, by first | exact below_drewN' HQ.out _ | exact below_drewN' (below_drewN' HQ.out _) _ | exact below_drewN' (below_drewN' (below_drewN' HQ.out _) _) _⟩
      · have HEz := Lib.hid (show E = 0 by rw [HT.out, hf, scan_end (by omega)])
        clear hf
        go_wp2
        go_ret
        exact ⟨ret_int HEz.out.symm, HQ.out⟩

end Go.Proofs.Ytlgioldmjohhlaa
