/- Contract: the specification's dependsOn: a list that has just the numbers of the program's bits. Plans whose lists are right. -/
import Derived.Test.YtlgioldmjohhlaaP4Dep
import Derived.Test.YtlgioldmjohhlaaP2Copies
import Derived.Deep.QuietTactic
import Derived.BigQuiet
namespace Go.Proofs.Ytlgioldmjohhlaa
open Go.RowKit

/-- A list of numbers that has just the tasks on which a task depends. -/
def DepRet (ts : List Task) (task : Nat) (w : World) (e : Ending) (w' : World) : Prop :=
  ∃ A c out, e = .returned (.slice A (List.length (α := Int) out) c) ∧ IntsIn w'.heap.size w' A out ∧ out.length ≤ 14 ∧ (∀ x : Nat, hasB out (x : Int) = (needsV ts task).testBit x) ∧ Below w.heap.size w w'

set_option maxHeartbeats 4000000 in
set_option maxRecDepth 100000 in
theorem dependsOn_any (B : Nat) (ts : List Task) (A : Option Addr) (c : Nat) (m : Int) (task : Nat) (w : World) (hr : TasksIn B w A ts) (hB : B ≤ w.heap.size) (ht : task < ts.length) (hp : PlanOk ts) :
    Calls Try.prog 118 #[.agg #[.int .i64 m, .slice A ts.length c], .int .i64 (task : Int)] w (DepRet ts task w) := by
  obtain ⟨i0, hi0, hz0, hz1, hz2⟩ := info_parts int_info
  have h7 := hp.1
  obtain ⟨b, off, hA, hbB, hct⟩ := hr.at_ ht
  subst hA
  have HCt := Lib.hid hct
  have HP := Lib.hid hp
  obtain ⟨_, _, _, A3, c3, t3w, tr, _⟩ := hct task ht
  have hlen := (hp.2 task ht).1
  have t3 : w.cell? ⟨b, off + task * 4 + 3, none⟩ = some (.slice A3 (afterOf ts task).length c3) := t3w
  have n0 : (0 : Int) ≤ (task : Int) := by omega
  have n1 : (task : Int) < (ts.length : Int) := by omega
  have hbw : b < w.heap.size := by omega
  have HCp := Lib.hid (copyInts_any B A3 (afterOf ts task).length c3 (afterOf ts task) (w.alloc (.cells #[.int .i64 m, .slice (some ⟨b, off, none⟩) ts.length c] 24)) (tr.below ((pa pr).mono hB)) rfl (Nat.le_trans hB (by simp)) (by have : (afterOf ts task).length ≤ 7 := hlen; omega))
  have HSt := Lib.hid (DepInv.start hp ht)
  clear hr hct t3w tr hp hlen
  generalize afterOf ts task = L0 at *
  go_enter Try.func118, Try.ntmps118
  go_wp2_with (go_at_call 24; go_must (refine HCp.out.mono ?_); rintro e w1 ⟨v1, rfl, hown1, hb1⟩; obtain ⟨A1, c1, rfl, hc1, _⟩ := own_form hown1; have HOwn1 := Lib.hid hown1; have HB1 := Lib.hid (pt (pa pr) hb1); have k1 : Blk w1 w.heap.size 24 #[.int .i64 m, .slice (some ⟨b, off, none⟩) ts.length c] := (Blk.newAt rfl).past hb1; have K1 := Lib.hid k1; clear hown1 hb1 k1)
  simp only [World.size_alloc] at HOwn1
  go_loopw [5, 6] (fun ov iv wr => ∃ (i : Nat) (out : List Int) (A' : Option Addr) (c' : Nat), ov = .slice A' out.length c' ∧ iv = .int .i64 (i : Int) ∧ DepInv ts task i out ∧ wr.ownsRow (w.heap.size + 1) 3 1 (.slice A' out.length c') out.length (out.map (Value.int .i64)) ∧ Blk wr w.heap.size 24 #[.int .i64 m, .slice (some ⟨b, off, none⟩) ts.length c] ∧ Below w.heap.size w wr) (fun _ iv _ => 15 - (intOf iv).toNat)
  case atStart => exact ⟨0, L0, A1, c1, rfl, rfl, HSt.out, HOwn1.out, K1.out, HB1.out⟩
  case round =>
    obtain ⟨i, out, A', c', rfl, rfl, hI, hown, k0, hq⟩ := hrel
    have hroom := hI.room
    have hile := hI.le
    have e1 : wr.cell? ⟨w.heap.size, 1, none⟩ = some (.slice (some ⟨b, off, none⟩) ts.length c) := k0.cellAt 1 rfl
    have x0 := k0.lt
    by_cases hlt : i < out.length
    · obtain ⟨bo, oo, hA', hbo, hco⟩ := (intsIn_of_own hown).at_ hlt
      subst hA'
      have d0 := hco i hlt
      have hr2 := hI.rng _ (getD_mem (d := 0) hlt)
      have hz0' : (0 : Int) ≤ (i : Int) := by omega
      have hz1' : (i : Int) < (out.length : Int) := by omega
      have HI := Lib.hid hI
      have HOwn := Lib.hid hown
      have K0 := Lib.hid k0
      have HQ := Lib.hid hq
      obtain ⟨q, hqq⟩ : ∃ q : Nat, out.getD i 0 = (q : Int) := ⟨(out.getD i 0).toNat, by omega⟩
      have hqlt : q < ts.length := by omega
      obtain ⟨_, _, _, A4, c4, t4w, tr4, _⟩ := HCt.out q hqlt
      have t4 : wr.cell? ⟨b, off + q * 4 + 3, none⟩ = some (.slice A4 (afterOf ts q).length c4) := ((bcell hq).1 _ _ hbw).trans t4w
      have HTr4 := Lib.hid (show IntsIn B w A4 (afterOf ts q) from tr4)
      have hl4 : (afterOf ts q).length ≤ 7 := (HP.out.2 q hqlt).1
      have q0 : (0 : Int) ≤ (q : Int) := by omega
      have q1 : (q : Int) < (ts.length : Int) := by omega
      have hbw2 : b < wr.heap.size := by have := hq.size; omega
      rw [hqq] at d0
      have HQq := Lib.hid (show (out.getD i 0).toNat = q by rw [hqq]; omega)
      clear hI hown k0 hq t4w tr4 hco hr2 hqq
      go_wp2
      go_quiet (fail)
      have HB2 := Lib.hid (show Below wr.heap.size wr (wr.drewN nq) from below_drewN' (Below.refl _ _) nq)
      clear e1 d0 t4
      have HOwn2 := Lib.hid (own_past HB2.out HOwn.out)
      have K2 := Lib.hid (K0.out.past HB2.out)
      have HQ2 := Lib.hid (pt HQ.out HB2.out)
      generalize wr.drewN nq = w2 at *
      go_wp2
      go_loopw [5, 8] (fun ov kv wr => ∃ (k : Nat) (out : List Int) (A' : Option Addr) (c' : Nat), ov = .slice A' out.length c' ∧ kv = .int .i64 (k : Int) ∧ k ≤ (afterOf ts q).length ∧ i < out.length ∧ (out.getD i 0).toNat = q ∧ DepInv ts task i out ∧ (∀ j, j < k → (afterOf ts q).getD j 0 ∈ out) ∧ wr.ownsRow (w.heap.size + 1) 3 1 (.slice A' out.length c') out.length (out.map (Value.int .i64)) ∧ Blk wr w.heap.size 24 #[.int .i64 m, .slice (some ⟨b, off, none⟩) ts.length c] ∧ Below w.heap.size w wr) (fun _ kv _ => (afterOf ts q).length - (intOf kv).toNat)
      case atStart => exact ⟨0, out, _, c', rfl, rfl, Nat.zero_le _, hlt, HQq.out, HI.out, fun j hj => by omega, HOwn2.out, K2.out, HQ2.out⟩
      case round =>
        clear HOwn HI HQ HB2 HOwn2 K2 HQ2 K0 HQq hroom hile
        obtain ⟨k, out, A', c', rfl, rfl, hk, hio, hqo, hI, hin, hown, k0, hq⟩ := hrel
        have hroom := hI.room
        have HI := Lib.hid hI
        have HOwn := Lib.hid hown
        have K0 := Lib.hid k0
        have HQ := Lib.hid hq
        have HIn := Lib.hid hin
        have HIts := Lib.hid (intsIn_of_own hown)
        have hqsz := hq.size
        by_cases hlk : k < (afterOf ts q).length
        · obtain ⟨b5, o5, hA5, hb5, hc5⟩ := (HTr4.out.below (hq.mono hB)).at_ hlk
          subst hA5
          have d5 := hc5 k hlk
          have hb5w : b5 < wr.heap.size := by omega
          have k0' : (0 : Int) ≤ (k : Int) := by omega
          have k1' : (k : Int) < ((afterOf ts q).length : Int) := by omega
          have hmem : (afterOf ts q).getD k 0 ∈ afterOf ts q := getD_mem hlk
          have hpush := fun hno => hI.push HP.out ht hio (x := (afterOf ts q).getD k 0) (by rw [hqo]; exact hmem) hno
          have HHas := Lib.hid fun W (hW : W = wr) => baseHas_n out.length wr.heap.size A' c' out ((afterOf ts q).getD k 0) W (hW ▸ HIts.out) rfl (by omega)
          have HNx := Lib.hid (show ∀ l : List Int, (∀ x ∈ out, x ∈ l) → (afterOf ts q).getD k 0 ∈ l → ∀ j, j < k + 1 → (afterOf ts q).getD j 0 ∈ l from fun l h1 h2 j hj => by
            rcases Nat.lt_or_ge j k with h3 | h3
            · exact h1 _ (HIn.out j h3)
            · obtain rfl : j = k := by omega
              exact h2)
          have HPush := Lib.hid hpush
          clear hI hown k0 hq hin hc5 hmem hpush
          generalize (afterOf ts q).getD k 0 = y at *
          cases hh : hasB out y with
          | true =>
            rw [hh] at HHas
            have HM := Lib.hid (hasB_iff.1 hh)
            clear hh
            go_wp2_with (go_at_call 33; go_must (refine (HHas.out _ rfl).mono ?_); rintro e w' ⟨rfl, rfl⟩)
            go_roundw
            case rel => exact ⟨k + 1, out, A', c', rfl, by go_num, by omega, hio, hqo, HI.out, HNx.out out (fun _ h => h) HM.out, HOwn.out, K0.out, HQ.out⟩
            case measure => simp [intOf]; omega
          | false =>
            rw [hh] at HHas
            have HPs := Lib.hid (HPush.out hh)
            have HO3 := Lib.hid (HOwn.out.alloc (.cells #[.int .i64 y] 3))
            have HC := Lib.hid (cellsIn_blk wr 3 #[.int .i64 y])
            clear hh
            go_wp2_with (first
              | (go_at_call 33; go_must (refine (HHas.out _ rfl).mono ?_); rintro e w' ⟨rfl, rfl⟩)
              | (at_builtin; go_must (refine wpList_append_cells _ rfl (.tmp 44) (.tmp 49) _ rfl (w.heap.size + 1) 3 i0 _ 1 8 Try.underlying28 hi0 hz0 hz1 hz2 rfl (by omega) _ out.length _ rfl HO3.out (wr.heap.size + 1) (some ⟨wr.heap.size, 0, none⟩) 1 1 _ rfl HC.out rfl (by simp [Value.oneCell']) (by simp only [maxLen]; omega) (by omega) (by simp; omega) ?_); intro v3 w3 hown3 hg3 hat3; obtain ⟨A6, c6, rfl, hc6, _⟩ := own_form hown3))
            have HB3 := Lib.hid (show Below w.heap.size w w3 from pg (pa HQ.out) HO3.out (Nat.le_succ _) hg3)
            have HK3 := Lib.hid (K0.out.alloc (o := .cells #[.int .i64 y] 3) |>.grown hg3 (fun e => by have := (HO3.out.lt _ e.symm).1; omega))
            have HO4 := Lib.hid hown3
            clear hown3 hg3 hat3
            go_roundw
            case rel =>
              refine ⟨k + 1, out ++ [y], A6, c6, by simp, by go_num, by omega, by simp; omega, ?_, HPs.out, HNx.out _ (fun _ h => List.mem_append_left _ h) (by simp), by simpa using HO4.out, HK3.out, HB3.out⟩
              rw [← hqo]
              simp [List.getD, List.getElem?_append_left hio]
            case measure => simp [intOf]; omega
        · have HNext := Lib.hid (hI.next hio fun z hz => by
            rw [hqo] at hz
            obtain ⟨j, hj, rfl⟩ := List.getElem_of_mem hz
            have := hin j (by omega)
            rwa [show (afterOf ts q).getD j 0 = (afterOf ts q)[j] from getD_of hj rfl] at this)
          have hil : i + 1 ≤ out.length := hio
          clear hI hown k0 hq hin
          go_wp2
          go_roundw
          case rel => exact ⟨i + 1, out, A', c', rfl, by go_num, HNext.out, HOwn.out, K0.out, HQ.out⟩
          case measure => simp [intOf]; omega
    · have hie : i = out.length := by omega
      subst hie
      have HHas := Lib.hid fun x => hI.has HP.out ht x
      have HIts := Lib.hid (intsIn_of_own hown)
      clear hI hown k0
      go_wp2
      go_ret
      exact ⟨A', c', out, rfl, HIts.out, by omega, HHas.out, hq⟩

end Go.Proofs.Ytlgioldmjohhlaa
