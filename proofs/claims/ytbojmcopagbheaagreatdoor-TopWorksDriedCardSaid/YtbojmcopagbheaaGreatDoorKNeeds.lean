/- Contract: the tasks on which a task depends, as bits. -/
import Derived.Test.YtbojmcopagbheaaGreatDoorQ3
import Derived.WalkSmall
import Derived.RangeFuncBox
namespace Go.Proofs.YtbojmcopagbheaaGreatDoor
open Go.RowKit

/-- The tasks of a list that are not known yet are put on the stack, and known. -/
def pushAll : Nat → List Nat → List Int → Nat × List Nat
  | known, stack, [] => (known, stack)
  | known, stack, x :: l => if known.testBit x.toNat then pushAll known stack l else pushAll (known ||| 2 ^ x.toNat) (stack ++ [x.toNat]) l
def needsRun (ts : List Task) : Nat → Nat → List Nat → Nat
  | 0, known, _ => known
  | f + 1, known, stack =>
    match stack.getLast? with
    | none => known
    | some i => needsRun ts f (pushAll known stack.dropLast (ts.getD i default).after).1 (pushAll known stack.dropLast (ts.getD i default).after).2
def needsV (ts : List Task) (i : Nat) : Nat := needsRun ts 1300 0 [i]

/-- All lists of tasks name tasks that exist; there are at most 7. -/
def PlanOk (ts : List Task) : Prop := ts.length ≤ 7 ∧ ∀ i, i < ts.length → (ts.getD i default).after.length ≤ 7 ∧ ∀ j, j < (ts.getD i default).after.length → 0 ≤ (ts.getD i default).after.getD j 0 ∧ (ts.getD i default).after.getD j 0 < ts.length

theorem own_pop {w : World} {base : Nat} {e : TypeId} {n c : Nat} {A : Option Addr} {ys : List Value} {y : Value} (h : w.ownsRow base e 1 (.slice A (n + 1) c) (n + 1) (ys ++ [y])) : w.ownsRow base e 1 (.slice A n c) n ys := by
  obtain ⟨h1, h2⟩ := h
  have hl : ys.length = n := by simp at h1; omega
  refine ⟨by omega, .inr ?_⟩
  rcases h2 with ⟨_, h2⟩ | ⟨g, cap, cur, hv, hb, hh, hn, hm, hs, ht⟩
  · omega
  · injection hv with hA _ hc
    subst hA hc
    refine ⟨g, c, cur, rfl, hb, hh, by omega, hm, hs, ?_⟩
    have h3 : (cur.toList.take ((n + 1) * 1)).take (n * 1) = (ys ++ [y]).take (n * 1) := by rw [ht]
    rw [List.take_take, show min (n * 1) ((n + 1) * 1) = n * 1 by omega] at h3
    rw [h3, Nat.mul_one, ← hl, List.take_left']
    rfl

theorem or_bit {K x : Nat} (hK : K < 128) (hx : x < 7) : K ||| 2 ^ x < 128 := Nat.or_lt_two_pow (n := 7) hK (Nat.pow_lt_pow_right (by decide) hx)
theorem or_gt {K x : Nat} (h : K.testBit x = false) : K < K ||| 2 ^ x := by
  have h1 : K ≤ K ||| 2 ^ x := Nat.left_le_or
  rcases Nat.lt_or_ge K (K ||| 2 ^ x) with h2 | h2
  · exact h2
  · exfalso
    have e : K ||| 2 ^ x = K := by omega
    have h3 : (K ||| 2 ^ x).testBit x = true := by simp
    rw [e, h] at h3
    cases h3

theorem pushAll_spec : ∀ (l : List Int) (K : Nat) (S : List Nat), K < 128 → (∀ x ∈ l, 0 ≤ x ∧ x < 7) →
    K ≤ (pushAll K S l).1 ∧ (pushAll K S l).1 < 128 ∧ (pushAll K S l).2.length ≤ S.length + l.length ∧ ((pushAll K S l).1 = K → (pushAll K S l).2.length = S.length) ∧ (∀ y ∈ (pushAll K S l).2, y ∈ S ∨ (y : Int) ∈ l)
  | [], K, S, hK, _ => ⟨Nat.le_refl _, hK, by simp [pushAll], fun _ => rfl, fun y hy => .inl hy⟩
  | x :: l, K, S, hK, hl => by
    have hx := hl x (List.mem_cons_self)
    have hl' : ∀ z ∈ l, 0 ≤ z ∧ z < 7 := fun z hz => hl z (List.mem_cons_of_mem _ hz)
    cases ht : K.testBit x.toNat with
    | true =>
      obtain ⟨h1, h2, h3, h4, h5⟩ := pushAll_spec l K S hK hl'
      simp only [pushAll, ht, if_true, List.length_cons]
      exact ⟨h1, h2, by omega, h4, fun y hy => (h5 y hy).imp id (List.mem_cons_of_mem _)⟩
    | false =>
      obtain ⟨h1, h2, h3, h4, h5⟩ := pushAll_spec l (K ||| 2 ^ x.toNat) (S ++ [x.toNat]) (or_bit hK (by omega)) hl'
      have hg := or_gt ht
      simp only [pushAll, ht, Bool.false_eq_true, if_false, List.length_cons]
      simp only [List.length_append, List.length_cons, List.length_nil] at h3
      refine ⟨by omega, h2, by omega, fun e => by omega, fun y hy => ?_⟩
      rcases h5 y hy with h | h
      · rcases List.mem_append.1 h with h | h
        · exact .inl h
        · have e : y = x.toNat := by simpa using h
          refine .inr ?_
          rw [e, show ((x.toNat : Nat) : Int) = x by omega]
          exact List.mem_cons_self
      · exact .inr (List.mem_cons_of_mem _ h)

def lenOf : Value → Nat
  | .slice _ n _ => n
  | _ => 0
def bitV (j : Nat) : Int := ((2 ^ j : Nat) : Int)
theorem wrap_bit {j : Nat} (hj : j < 62) : IntKind.i64.wrap (2 ^ j) = bitV j := by
  have h : 2 ^ j < 2 ^ 62 := Nat.pow_lt_pow_right (by decide) hj
  have e : ((2 : Int) ^ j) = ((2 ^ j : Nat) : Int) := by simp
  unfold bitV
  rw [e]
  have h2 : 2 ^ j < 4611686018427387904 := h
  generalize 2 ^ j = n at *
  exact IntWalk.i64_in _ (by omega)
theorem ofInt_i64 (a : Nat) (ha : a < 9223372036854775808) : (BitVec.ofInt 64 (a : Int)).toNat = a := by
  rw [BitVec.ofInt_natCast, BitVec.toNat_ofNat]; exact Nat.mod_eq_of_lt (by omega)
theorem bits_or {K j : Nat} (hK : K < 2 ^ 62) (hj : j < 62) : bits .or .i64 (K : Int) (bitV j) = ((K ||| 2 ^ j : Nat) : Int) := by
  have h : 2 ^ j < 2 ^ 62 := Nat.pow_lt_pow_right (by decide) hj
  have hx : K ||| 2 ^ j < 2 ^ 62 := Nat.or_lt_two_pow hK h
  show IntKind.i64.wrap ((BitVec.ofInt 64 (K : Int) ||| BitVec.ofInt 64 (bitV j)).toNat : Int) = _
  have h2 : 2 ^ j < 4611686018427387904 := h
  have hK2 : K < 4611686018427387904 := hK
  rw [BitVec.toNat_or, ofInt_i64 K (by omega), show bitV j = ((2 ^ j : Nat) : Int) from rfl, ofInt_i64 _ (by omega)]
  have hx2 : K ||| 2 ^ j < 4611686018427387904 := hx
  generalize K ||| 2 ^ j = n at *
  exact IntWalk.i64_in _ (by omega)
theorem bits_and {K j : Nat} (hK : K < 2 ^ 62) (hj : j < 62) : bits .and .i64 (K : Int) (bitV j) = ((K &&& 2 ^ j : Nat) : Int) := by
  have h : 2 ^ j < 2 ^ 62 := Nat.pow_lt_pow_right (by decide) hj
  have hx : K &&& 2 ^ j < 2 ^ 62 := Nat.and_lt_two_pow _ h
  show IntKind.i64.wrap ((BitVec.ofInt 64 (K : Int) &&& BitVec.ofInt 64 (bitV j)).toNat : Int) = _
  have h2 : 2 ^ j < 4611686018427387904 := h
  have hK2 : K < 4611686018427387904 := hK
  rw [BitVec.toNat_and, ofInt_i64 K (by omega), show bitV j = ((2 ^ j : Nat) : Int) from rfl, ofInt_i64 _ (by omega)]
  have hx2 : K &&& 2 ^ j < 4611686018427387904 := hx
  generalize K &&& 2 ^ j = n at *
  exact IntWalk.i64_in _ (by omega)
theorem and_two_pow' (K j : Nat) : K &&& 2 ^ j = if K.testBit j then 2 ^ j else 0 := by
  apply Nat.eq_of_testBit_eq
  intro k
  rw [Nat.testBit_and, Nat.testBit_two_pow]
  by_cases hjk : j = k
  · subst hjk
    cases h : K.testBit j <;> simp
  · cases h : K.testBit j <;> simp [hjk]
theorem bits_and_no {K j : Nat} (hK : K < 2 ^ 62) (hj : j < 62) (h : K.testBit j = false) : bits .and .i64 (K : Int) (bitV j) = 0 := by
  rw [bits_and hK hj, and_two_pow', h]; rfl
theorem bits_and_yes {K j : Nat} (hK : K < 2 ^ 62) (hj : j < 62) (h : K.testBit j = true) : bits .and .i64 (K : Int) (bitV j) = bitV j := by
  rw [bits_and hK hj, and_two_pow', h]; rfl
theorem bitV_ne (j : Nat) : (bitV j == 0) = false := by
  have : 0 < 2 ^ j := Nat.two_pow_pos j
  have : bitV j ≠ 0 := by unfold bitV; omega
  simpa using this

set_option maxHeartbeats 2000000 in
set_option maxRecDepth 100000 in
theorem needs_any (B : Nat) (ts : List Task) (A : Option Addr) (c : Nat) (m : Int) (i : Nat) (w : World) (hr : TasksIn B w A ts) (hB : B ≤ w.heap.size) (hi : i < ts.length) (hp : PlanOk ts) :
    Calls Tryz.prog 99 #[.agg #[.int .i64 m, .slice A ts.length c], .int .i64 (i : Int)] w fun e w' => e = .returned (.int .i64 (needsV ts i : Int)) ∧ Below w.heap.size w w' := by
  obtain ⟨i0, hi0, hz0, hz1, hz2⟩ := info_parts int_info
  have HR := Lib.hid hr
  have HP := Lib.hid hp
  have h7 := hp.1
  clear hr hp
  go_enter Tryz.func99, Tryz.ntmps99
  go_wp2
  go_loopw [5, 6] (fun kn nx wr => ∃ (K f : Nat) (S : List Nat) (A' : Option Addr) (c' : Nat), kn = .int .i64 (K : Int) ∧ nx = .slice A' S.length c' ∧ K < 128 ∧ (∀ x ∈ S, x < ts.length) ∧ needsRun ts f K S = needsV ts i ∧ (127 - K) * 10 + S.length ≤ f ∧ f ≤ 1300 ∧
      Blk wr w.heap.size 102 #[.int .i64 m, .slice A ts.length c] ∧ wr.ownsRow (w.heap.size + 1) 3 1 (.slice A' S.length c') S.length (S.map fun (x : Nat) => Value.int .i64 (x : Int)) ∧ Below w.heap.size w wr)
    (fun kn nx _ => (127 - (intOf kn).toNat) * 10 + lenOf nx)
  case atStart =>
    refine ⟨0, 1300, [i], some ⟨w.heap.size + 1, 0, none⟩, 1, rfl, rfl, by omega, by simpa using hi, rfl, by simp, Nat.le_refl _, (Blk.newAt rfl).alloc, ?_, pa (pa pr)⟩
    have := World.ownsRow_lit (e := 3) (size := 1) (base := w.heap.size + 1) (w.alloc (.cells #[.int .i64 m, .slice A ts.length c] 102)) #[.int .i64 (i : Int)] 1 (by simp) (by decide) rfl
    simpa using this
  case round =>
    obtain ⟨K, f, S, A', c', rfl, rfl, hK, hS, hrun, hf, hf2, q0, qo, hq⟩ := hrel
    rcases List.eq_nil_or_concat S with rfl | ⟨S0, x, rfl⟩
    · have hv : needsV ts i = K := by rw [← hrun]; cases f <;> rfl
      have HV := Lib.hid hv
      clear hv hrun
      simp only [List.length_nil] at *
      go_wp2
      go_ret
      exact ⟨ret_int (by rw [HV.out]), hq⟩
    · have hx : x < ts.length := hS x (by simp)
      have hS0 : ∀ y ∈ S0, y < ts.length := fun y hy => hS y (by simp [hy])
      simp only [List.concat_eq_append, List.length_append, List.length_cons, List.length_nil, Nat.zero_add, List.map_append, List.map_cons, List.map_nil] at hf qo ⊢
      obtain ⟨g, cap, hv⟩ := ownsRow_succ qo
      injection hv with hA' _ hcc
      subst hA' hcc
      have hlenr : S0.length ≤ c' := by
        rcases own_form qo with ⟨A2, c2, h1, h2, _⟩
        injection h1 with _ _ h3
        omega
      have hcx : wr.cell? ⟨g, S0.length, none⟩ = some (.int .i64 (x : Int)) := by
        rw [qo.cellAt S0.length (by omega)]
        simp
      have hrun2 : needsRun ts (f - 1) (pushAll K S0 (ts.getD x default).after).1 (pushAll K S0 (ts.getD x default).after).2 = needsV ts i := by
        rw [← hrun]
        obtain ⟨f', rfl⟩ : ∃ f', f = f' + 1 := ⟨f - 1, by omega⟩
        simp [needsRun]
      have hpop := own_pop qo
      obtain ⟨b, off, hA, hbB, hct⟩ := (HR.out.below (hq.mono hB)).at_ hx
      subst hA
      have hbw := Nat.lt_of_lt_of_le hbB (Nat.le_trans hB hq.size)
      obtain ⟨_, _, _, A3, c3, t3, t4, t5⟩ := hct x hx
      obtain ⟨haft1, haft2⟩ := HP.out.2 x hx
      generalize (ts.getD x default).after = aft at *
      have c1 := q0.cellAt 1 rfl
      have z0 := q0.lt
      have k0 : (0 : Int) ≤ (S0.length : Int) := by omega
      have k1 : (S0.length : Int) ≤ (c' : Int) := by omega
      have k2 : (0 : Int) ≤ (x : Int) := by omega
      have k3 : (x : Int) < (ts.length : Int) := by omega
      have HRun := Lib.hid hrun2
      have HS0 := Lib.hid hS0
      have HAft := Lib.hid haft2
      have HQ := Lib.hid qo
      have HPop := Lib.hid hpop
      have HT4 := Lib.hid t4
      clear hrun hrun2 hS hS0 haft2 qo hpop hct t4
      go_wp2
      obtain ⟨wo, rfl⟩ : ∃ wo : World, wo = wr := ⟨_, rfl⟩
      go_loopw [5, 6, 34] (fun kn nx ix wr2 => ∃ (j K2 : Nat) (S2 : List Nat) (A2 : Option Addr) (c2 : Nat), j ≤ aft.length ∧ ix = .int .i64 (j : Int) ∧ kn = .int .i64 (K2 : Int) ∧ nx = .slice A2 S2.length c2 ∧ pushAll K S0 aft = pushAll K2 S2 (aft.drop j) ∧ K2 < 128 ∧ S2.length ≤ S0.length + j ∧
          Blk wr2 w.heap.size 102 #[.int .i64 m, .slice (some ⟨b, off, none⟩) ts.length c] ∧ wr2.ownsRow (w.heap.size + 1) 3 1 (.slice A2 S2.length c2) S2.length (S2.map fun (x : Nat) => Value.int .i64 (x : Int)) ∧ Below w.heap.size wo wr2)
        (fun _ _ ix _ => aft.length - (intOf ix).toNat)
      case atStart => exact ⟨0, K, S0, _, c', Nat.zero_le _, rfl, rfl, rfl, rfl, hK, by omega, q0, HPop.out, Below.refl _ _⟩
      case round =>
        obtain ⟨j, K2, S2, A2, c2, hj, rfl, rfl, rfl, hpush, hK2, hS2, r0, ro, hq2⟩ := hrel
        have HPush := Lib.hid hpush
        clear hpush
        by_cases hlt : j < aft.length
        · obtain ⟨b3, off3, hA3, hb3, hc3⟩ := (HT4.out.below (hq2.mono hB)).at_ hlt
          subst hA3
          have hcell := hc3 j hlt
          have hbd := HAft.out j hlt
          have hdrop : aft.drop j = aft.getD j 0 :: aft.drop (j + 1) := by
            rw [List.drop_eq_getElem_cons hlt]
            simp [List.getD, hlt]
          generalize aft.getD j 0 = x2 at *
          obtain ⟨y, rfl⟩ : ∃ y : Nat, x2 = (y : Int) := ⟨x2.toNat, by omega⟩
          have hy7 : y < 7 := by omega
          have HDrop := Lib.hid hdrop
          clear hdrop hc3
          have e1 : IntKind.i64.wrap (2 ^ y) = bitV y := wrap_bit (by omega)
          have j0 : (0 : Int) ≤ (y : Int) := by omega
          have hne := bitV_ne y
          have hlen2 : S2.length ≤ 1400 := by omega
          cases ht : K2.testBit y with
          | true =>
            have e2 := bits_and_yes (K := K2) (j := y) (by omega) (by omega) ht
            have HG := Lib.hid (show pushAll K S0 aft = pushAll K2 S2 (aft.drop (j + 1)) by rw [HPush.out, HDrop.out]; simp [pushAll, ht])
            clear ht
            go_wp2
            go_roundw
            case rel => exact ⟨j + 1, K2, S2, A2, c2, by omega, by go_num, rfl, rfl, HG.out, hK2, by omega, r0, ro, hq2⟩
            case measure => simp [intOf]; omega
          | false =>
            have e2 := bits_and_no (K := K2) (j := y) (by omega) (by omega) ht
            obtain ⟨K3, hK3⟩ : ∃ K3, K3 = K2 ||| 2 ^ y := ⟨_, rfl⟩
            have e3 : bits .or .i64 (K2 : Int) (bitV y) = (K3 : Int) := by rw [hK3]; exact bits_or (by omega) (by omega)
            have hK3' : K3 < 128 := by rw [hK3]; exact or_bit hK2 hy7
            have HG := Lib.hid (show pushAll K S0 aft = pushAll K3 (S2 ++ [y]) (aft.drop (j + 1)) by rw [HPush.out, HDrop.out, hK3]; simp [pushAll, ht])
            clear ht hK3
            have HO := Lib.hid (ro.alloc (.cells #[.int .i64 (y : Int)] 3))
            have HC := Lib.hid (show CellsIn (wr.heap.size + 1) (wr.alloc (.cells #[.int .i64 (y : Int)] 3)) (some ⟨wr.heap.size, 0, none⟩) [.int .i64 (y : Int)] from .inr ⟨wr.heap.size, 0, rfl, by omega, fun q hq => by
              obtain rfl : q = 0 := by simp at hq; omega
              exact (Blk.new wr 3 #[.int .i64 (y : Int)]).cellAt 0 rfl⟩)
            have hsz : w.heap.size + 1 ≤ wr.heap.size := r0.lt
            go_wp2_with (at_builtin; go_must (refine wpList_append_cells _ rfl (.tmp 47) (.tmp 49) _ rfl (w.heap.size + 1) 3 i0 _ 1 8 Tryz.underlying32 hi0 hz0 hz1 hz2 rfl (by omega) _ S2.length _ rfl HO.out (wr.heap.size + 1) (some ⟨wr.heap.size, 0, none⟩) 1 1 _ rfl HC.out rfl (by simp [Value.oneCell']) (by simp only [maxLen]; omega) (by omega) (by simp; omega) ?_); intro v3 w3 hown3 hg3 hat3; obtain ⟨A3', c3', rfl, hc3', hm3⟩ := own_form hown3)
            go_roundw
            case rel => exact ⟨j + 1, K3, S2 ++ [y], A3', c3', by omega, by go_num, rfl, by simp, HG.out, hK3', by simp; omega, (r0.alloc).grown hg3 (by intro e; have := (ro.lt _ e.symm).1; omega), by simpa using hown3, (hq2.alloc (Nat.le_of_lt r0.lt) _).grown hg3 (by simp; omega) (fun k hk => by have := (ro.lt k hk).1; omega)⟩
            case measure => simp [intOf]; omega
        · have hje : j = aft.length := by omega
          have hres : pushAll K S0 aft = (K2, S2) := by rw [HPush.out, List.drop_eq_nil_of_le (by omega)]; rfl
          obtain ⟨p1, p2, p3, p4, p5⟩ := pushAll_spec aft K S0 hK (fun z hz => by
            obtain ⟨q, hq1, hq3⟩ := List.getElem_of_mem hz
            have := HAft.out q hq1
            rw [show aft.getD q 0 = z by simp [List.getD, hq1, hq3]] at this
            omega)
          rw [hres] at p1 p2 p3 p4 p5
          dsimp only at p1 p2 p3 p4 p5
          have hrunf : needsRun ts (f - 1) K2 S2 = needsV ts i := by rw [← HRun.out, hres]
          have hmem : ∀ z ∈ S2, z < ts.length := fun z hz => by
            rcases p5 z hz with h | h
            · exact HS0.out z h
            · obtain ⟨q, hq1, hq3⟩ := List.getElem_of_mem h
              have := HAft.out q hq1
              rw [show aft.getD q 0 = (z : Int) by simp [List.getD, hq1, hq3]] at this
              omega
          have hdec : (127 - K2) * 10 + S2.length < (127 - K) * 10 + (S0.length + 1) := by
            by_cases e : K2 = K
            · have := p4 e; rw [e]; omega
            · omega
          have HRunF := Lib.hid hrunf
          have HMem := Lib.hid hmem
          clear hje hres p1 p2 p3 p4 p5 hrunf hmem
          go_wp2
          go_roundw
          case rel => exact ⟨K2, f - 1, S2, A2, c2, rfl, rfl, hK2, HMem.out, HRunF.out, by omega, by omega, r0, ro, hq.trans hq2⟩
          case measure => simp only [intOf, lenOf, Int.toNat_natCast]; omega

end Go.Proofs.YtbojmcopagbheaaGreatDoor
