/- Contract of the specification's Number: a number of at most seven digits, or none.
Contracts: the specification's Number of any string; the numbers of units. -/
import Derived.Test.YtbojmcopagbheaaGreatDoorQS
import Derived.Deep.DrawnRows

section
namespace Go.Proofs.YtbojmcopagbheaaGreatDoor
open Go.RowKit
attribute [local go_sem ↓] Go.wp_at_zero Go.wp_at_succ

theorem pow10_le {a : Nat} (h : a ≤ 6) : 10 ^ a ≤ 1000000 := by
  rcases (by omega : a = 0 ∨ a = 1 ∨ a = 2 ∨ a = 3 ∨ a = 4 ∨ a = 5 ∨ a = 6) with rfl | rfl | rfl | rfl | rfl | rfl | rfl <;> decide
def numRes (o : Option Int) : Value := match o with
  | none => .tuple #[.int .i64 0, .bool false]
  | some k => .tuple #[.int .i64 k, .bool true]
theorem index_lit (l : List UInt8) (k : Nat) (hk : k < l.length) (i : Int) (hi : i = (k : Int)) (W : World) : (Instr.index 9 (.string ⟨l.toArray⟩) (.int .i64 i)).run Tryz.prog W = .ok (.int .u8 (byteL l k)) W := by
  subst hi
  exact index_byteL l k hk W
theorem drop_head {l : List UInt8} {k : Nat} (hk : k < l.length) {c : Nat} (hc : c < 256) : (l.drop k).head? = some (UInt8.ofNat c) ↔ byteL l k = (c : Int) := by
  rw [drop_byte hk, List.head?_cons, Option.some.injEq, byte_is hc]

set_option maxHeartbeats 4000000 in
set_option maxRecDepth 100000 in
theorem refNumber_0 (l : List UInt8) (hl : l.length ≤ 1000) (hne : 1 ≤ l.length) (hb : (byteL l 0 == 45) = false) (hr : restV l = l.drop 0) (hs : l.head? = some 45 ↔ false = true) (D : Nat) (hD : D ≤ 7) (w : World) :
    Calls Tryz.prog 80 #[.string ⟨l.toArray⟩, .int .i64 (D : Int)] w fun e w' => e = .returned (numRes (numberV l D)) ∧ w = w' := by
  have hbs := bsize l
  have hix := fun W => index_lit l 0 (by omega) 0 rfl W
  have hnv : numberV l D = if l.drop 0 = [] ∨ D < (l.drop 0).length ∨ ((l.drop 0).head? = some 48 ∧ 1 < l.length) then none else (Lib.decFrom 0 (l.drop 0)).map fun m => (m : Int) := by
    unfold numberV
    rw [hr]
    split
    · rfl
    · cases Lib.decFrom 0 (l.drop 0) with
      | none => rfl
      | some m =>
        show some (if l.head? = some 45 then -(m : Int) else (m : Int)) = some ((m : Int))
        congr 1
        first | (rw [if_pos (hs.2 rfl)]; done) | (rw [if_neg (fun e => by have := hs.1 e; cases this)]; done)
  have n0 : (0 : Int) < (l.length : Int) := by omega
  have n1 : (1 : Int) ≤ (l.length : Int) := by omega
  clear hr hs
  generalize numberV l D = V at *
  have HV := Lib.hid hnv
  clear hnv
  have w0 : IntKind.i64.wrap ((l.length : Int) - 0) = (l.length : Int) - 0 := IntWalk.i64_in _ (by omega)
  have hlen : (l.drop 0).length + 0 = l.length := by first | (rw [List.drop_zero]; rfl) | (rw [List.length_drop]; omega)
  by_cases h1 : l.length = 0
  · have HR := Lib.hid (show V = none from by rw [HV.out, if_pos (.inl (List.eq_nil_of_length_eq_zero (by omega)))])
    have h1' : ((l.length : Int) == 0) = true := by rw [beq_iff_eq]; omega
    have h1'' : (l.length : Int) = 0 := by omega
    generalize byteL l 0 = b0 at *
    clear hlen w0
    go_enter Tryz.func80, Tryz.ntmps80
    go_wp2
    go_ret2
    exact ⟨by rw [HR.out]; rfl, rfl⟩
  · have h1' : ((l.length : Int) == 0) = false := by rw [beq_eq_false_iff_ne]; omega
    have h1'' : ¬ (l.length : Int) = 0 := by omega
    have hat : 0 < l.length := by omega
    by_cases h2 : D + 0 < l.length
    · have HR := Lib.hid (show V = none from by rw [HV.out, if_pos (.inr (.inl (by omega)))])
      have h2' : (D : Int) < (l.length : Int) - 0 := by omega
      generalize byteL l 0 = b0 at *
      clear hlen
      go_enter Tryz.func80, Tryz.ntmps80
      go_wp2
      go_ret2
      exact ⟨by rw [HR.out]; rfl, rfl⟩
    · have h2' : ¬ (D : Int) < (l.length : Int) - 0 := by omega
      have hia := fun W => index_lit l 0 hat 0 rfl W
      have hhd := drop_head hat (show 48 < 256 by decide)
      have hhd : (l.drop 0).head? = some 48 ↔ byteL l 0 = 48 := hhd
      by_cases h3 : byteL l 0 = 48 ∧ 1 < l.length
      · have HR := Lib.hid (show V = none from by rw [HV.out, if_pos (.inr (.inr ⟨hhd.2 h3.1, h3.2⟩))])
        have h3' : (byteL l 0 == 48) = true := by simpa using h3.1
        have h3'' : (1 : Int) < (l.length : Int) := by omega
        have h3a := h3.1
        clear h3 hhd hlen
        go_enter Tryz.func80, Tryz.ntmps80
        go_wp2
        go_ret2
        exact ⟨by rw [HR.out]; rfl, rfl⟩
      · have h3n : ¬ (byteL l 0 = 48 ∧ (1 : Int) < (l.length : Int)) := by omega
        have HVL := Lib.hid (show V = (Lib.decFrom 0 (l.drop 0)).map (fun m => (m : Int)) from by
          rw [HV.out, if_neg]
          rintro (e | e | ⟨e, e2⟩)
          · rw [e] at hlen; simp at hlen; omega
          · omega
          · exact h3 ⟨hhd.1 e, e2⟩)
        have HIX := Lib.hid (fun k hk => index_lit l k hk)
        have HDS := Lib.hid (fun k acc (hk : k < l.length) => dec_step (acc := acc) hk)
        have h3c : (byteL l 0 == 48) = true ∧ (decide ((1 : Int) < (l.length : Int))) = false ∨ (byteL l 0 == 48) = false := by
          by_cases e : byteL l 0 = 48
          · exact .inl ⟨by simpa using e, by simp; omega⟩
          · exact .inr (by simpa using e)
        clear h3 hhd hlen HV
        rcases h3c with ⟨h3a, h3b⟩ | h3a
        all_goals
          have h3c_ := True.intro
          go_enter Tryz.func80, Tryz.ntmps80
          go_wp2
          clear hia hix h3a h3c_
          go_loop [7, 8] (fun nv iv => ∃ m i : Nat, nv = .int .i64 (m : Int) ∧ iv = .int .i64 (i : Int) ∧ 0 ≤ i ∧ i ≤ l.length ∧ Lib.decFrom 0 (l.drop 0) = Lib.decFrom m (l.drop i) ∧ m < 10 ^ (i - 0)) (fun _ iv => l.length - (intOf iv).toNat)
          case atStart => exact ⟨0, 0, rfl, rfl, Nat.le_refl _, by omega, rfl, by simp⟩
          case round =>
            obtain ⟨m, i, rfl, rfl, hai, hil, hd, hm⟩ := hrel
            have i0 : (0 : Int) ≤ (i : Int) := by omega
            by_cases hlt : i < l.length
            · have i1 : (i : Int) < (l.length : Int) := by omega
              have hx := fun W => HIX.out i hlt (i : Int) rfl W
              have hstep := HDS.out i m hlt
              have hbd := byteL_bd l i
              have hp := pow10_le (a := i - 0) (by omega)
              have hps : 10 ^ (i + 1 - 0) = 10 * 10 ^ (i - 0) := by rw [show i + 1 - 0 = (i - 0) + 1 by omega, Nat.pow_succ, Nat.mul_comm]
              rw [hstep] at hd
              generalize byteL l i = c at *
              clear hstep
              obtain ⟨cb0, cb1⟩ := hbd
              by_cases hc1 : c < 48
              · have HR := Lib.hid (show V = none from by rw [HVL.out, hd, if_neg (by omega)]; rfl)
                clear hd hm hp hps
                go_wp2
                go_ret2
                exact ⟨by rw [HR.out]; rfl, rfl⟩
              · by_cases hc2 : 57 < c
                · have HR := Lib.hid (show V = none from by rw [HVL.out, hd, if_neg (by omega)]; rfl)
                  clear hd hm hp hps
                  go_wp2
                  go_ret2
                  exact ⟨by rw [HR.out]; rfl, rfl⟩
                · have HNext := Lib.hid (show Lib.decFrom 0 (l.drop 0) = Lib.decFrom (m * 10 + (c.toNat - 48)) (l.drop (i + 1)) from by rw [hd, if_pos (by omega)])
                  have hm2 : m * 10 + (c.toNat - 48) < 10 ^ (i + 1 - 0) := by rw [hps]; omega
                  have HM := Lib.hid hm2
                  have e1 : IntKind.i64.wrap (10 * (m : Int)) = 10 * (m : Int) := IntWalk.i64_in _ (by omega)
                  have e2 : IntKind.u8.wrap (c - 48) = c - 48 := IntWalk.u8_in _ (by omega)
                  have e3 : IntKind.i64.wrap (c - 48) = c - 48 := IntWalk.i64_in _ (by omega)
                  have e4 : IntKind.i64.wrap (10 * (m : Int) + (c - 48)) = 10 * (m : Int) + (c - 48) := IntWalk.i64_in _ (by omega)
                  have hc2' : c ≤ 57 := by omega
                  clear hd hm hp hps hm2
                  go_wp2
                  go_round
                  case rel => exact ⟨m * 10 + (c.toNat - 48), i + 1, by go_num, by go_num, by omega, by omega, HNext.out, HM.out⟩
                  case measure => simp [intOf]; omega
            · have hie : i = l.length := by omega
              have HR := Lib.hid (show V = some (((m : Int) : Int)) from by rw [HVL.out, hd, hie, List.drop_length]; rfl)
              have e1 : IntKind.i64.wrap (-(m : Int)) = -(m : Int) := IntWalk.i64_in _ (by
                have := pow10_le (a := 6) (by decide)
                have h7 : 10 ^ (i - 0) ≤ 10000000 := by
                  rcases (by omega : i - 0 ≤ 6 ∨ i - 0 = 7) with h | h
                  · have := pow10_le h; omega
                  · rw [h]; decide
                omega)
              clear hd hm
              go_wp2
              go_ret2
              exact ⟨by rw [HR.out]; rfl, rfl⟩
set_option maxHeartbeats 4000000 in
set_option maxRecDepth 100000 in
theorem refNumber_1 (l : List UInt8) (hl : l.length ≤ 1000) (hne : 1 ≤ l.length) (hb : (byteL l 0 == 45) = true) (hr : restV l = l.drop 1) (hs : l.head? = some 45 ↔ true = true) (D : Nat) (hD : D ≤ 7) (w : World) :
    Calls Tryz.prog 80 #[.string ⟨l.toArray⟩, .int .i64 (D : Int)] w fun e w' => e = .returned (numRes (numberV l D)) ∧ w = w' := by
  have hbs := bsize l
  have hix := fun W => index_lit l 0 (by omega) 0 rfl W
  have hnv : numberV l D = if l.drop 1 = [] ∨ D < (l.drop 1).length ∨ ((l.drop 1).head? = some 48 ∧ 1 < l.length) then none else (Lib.decFrom 0 (l.drop 1)).map fun m => (-(m : Int)) := by
    unfold numberV
    rw [hr]
    split
    · rfl
    · cases Lib.decFrom 0 (l.drop 1) with
      | none => rfl
      | some m =>
        show some (if l.head? = some 45 then -(m : Int) else (m : Int)) = some ((-(m : Int)))
        congr 1
        first | (rw [if_pos (hs.2 rfl)]; done) | (rw [if_neg (fun e => by have := hs.1 e; cases this)]; done)
  have n0 : (0 : Int) < (l.length : Int) := by omega
  have n1 : (1 : Int) ≤ (l.length : Int) := by omega
  clear hr hs
  generalize numberV l D = V at *
  have HV := Lib.hid hnv
  clear hnv
  have w0 : IntKind.i64.wrap ((l.length : Int) - 1) = (l.length : Int) - 1 := IntWalk.i64_in _ (by omega)
  have hlen : (l.drop 1).length + 1 = l.length := by first | (rw [List.drop_zero]; rfl) | (rw [List.length_drop]; omega)
  by_cases h1 : l.length = 1
  · have HR := Lib.hid (show V = none from by rw [HV.out, if_pos (.inl (List.eq_nil_of_length_eq_zero (by omega)))])
    have h1' : ((l.length : Int) == 1) = true := by rw [beq_iff_eq]; omega
    have h1'' : (l.length : Int) = 1 := by omega
    generalize byteL l 0 = b0 at *
    clear hlen w0
    go_enter Tryz.func80, Tryz.ntmps80
    go_wp2
    go_ret2
    exact ⟨by rw [HR.out]; rfl, rfl⟩
  · have h1' : ((l.length : Int) == 1) = false := by rw [beq_eq_false_iff_ne]; omega
    have h1'' : ¬ (l.length : Int) = 1 := by omega
    have hat : 1 < l.length := by omega
    by_cases h2 : D + 1 < l.length
    · have HR := Lib.hid (show V = none from by rw [HV.out, if_pos (.inr (.inl (by omega)))])
      have h2' : (D : Int) < (l.length : Int) - 1 := by omega
      generalize byteL l 0 = b0 at *
      clear hlen
      go_enter Tryz.func80, Tryz.ntmps80
      go_wp2
      go_ret2
      exact ⟨by rw [HR.out]; rfl, rfl⟩
    · have h2' : ¬ (D : Int) < (l.length : Int) - 1 := by omega
      have hia := fun W => index_lit l 1 hat 1 rfl W
      have hhd := drop_head hat (show 48 < 256 by decide)
      have hhd : (l.drop 1).head? = some 48 ↔ byteL l 1 = 48 := hhd
      by_cases h3 : byteL l 1 = 48 ∧ 1 < l.length
      · have HR := Lib.hid (show V = none from by rw [HV.out, if_pos (.inr (.inr ⟨hhd.2 h3.1, h3.2⟩))])
        have h3' : (byteL l 1 == 48) = true := by simpa using h3.1
        have h3'' : (1 : Int) < (l.length : Int) := by omega
        have h3a := h3.1
        clear h3 hhd hlen
        go_enter Tryz.func80, Tryz.ntmps80
        go_wp2
        go_ret2
        exact ⟨by rw [HR.out]; rfl, rfl⟩
      · have h3n : ¬ (byteL l 1 = 48 ∧ (1 : Int) < (l.length : Int)) := by omega
        have HVL := Lib.hid (show V = (Lib.decFrom 0 (l.drop 1)).map (fun m => (-(m : Int))) from by
          rw [HV.out, if_neg]
          rintro (e | e | ⟨e, e2⟩)
          · rw [e] at hlen; simp at hlen; omega
          · omega
          · exact h3 ⟨hhd.1 e, e2⟩)
        have HIX := Lib.hid (fun k hk => index_lit l k hk)
        have HDS := Lib.hid (fun k acc (hk : k < l.length) => dec_step (acc := acc) hk)
        have h3c : (byteL l 1 == 48) = true ∧ (decide ((1 : Int) < (l.length : Int))) = false ∨ (byteL l 1 == 48) = false := by
          by_cases e : byteL l 1 = 48
          · exact .inl ⟨by simpa using e, by simp; omega⟩
          · exact .inr (by simpa using e)
        clear h3 hhd hlen HV
        rcases h3c with ⟨h3a, h3b⟩ | h3a
        all_goals
          have h3c_ := True.intro
          go_enter Tryz.func80, Tryz.ntmps80
          go_wp2
          clear hia hix h3a h3c_
          go_loop [7, 8] (fun nv iv => ∃ m i : Nat, nv = .int .i64 (m : Int) ∧ iv = .int .i64 (i : Int) ∧ 1 ≤ i ∧ i ≤ l.length ∧ Lib.decFrom 0 (l.drop 1) = Lib.decFrom m (l.drop i) ∧ m < 10 ^ (i - 1)) (fun _ iv => l.length - (intOf iv).toNat)
          case atStart => exact ⟨0, 1, rfl, rfl, Nat.le_refl _, by omega, rfl, by simp⟩
          case round =>
            obtain ⟨m, i, rfl, rfl, hai, hil, hd, hm⟩ := hrel
            have i0 : (0 : Int) ≤ (i : Int) := by omega
            by_cases hlt : i < l.length
            · have i1 : (i : Int) < (l.length : Int) := by omega
              have hx := fun W => HIX.out i hlt (i : Int) rfl W
              have hstep := HDS.out i m hlt
              have hbd := byteL_bd l i
              have hp := pow10_le (a := i - 1) (by omega)
              have hps : 10 ^ (i + 1 - 1) = 10 * 10 ^ (i - 1) := by rw [show i + 1 - 1 = (i - 1) + 1 by omega, Nat.pow_succ, Nat.mul_comm]
              rw [hstep] at hd
              generalize byteL l i = c at *
              clear hstep
              obtain ⟨cb0, cb1⟩ := hbd
              by_cases hc1 : c < 48
              · have HR := Lib.hid (show V = none from by rw [HVL.out, hd, if_neg (by omega)]; rfl)
                clear hd hm hp hps
                go_wp2
                go_ret2
                exact ⟨by rw [HR.out]; rfl, rfl⟩
              · by_cases hc2 : 57 < c
                · have HR := Lib.hid (show V = none from by rw [HVL.out, hd, if_neg (by omega)]; rfl)
                  clear hd hm hp hps
                  go_wp2
                  go_ret2
                  exact ⟨by rw [HR.out]; rfl, rfl⟩
                · have HNext := Lib.hid (show Lib.decFrom 0 (l.drop 1) = Lib.decFrom (m * 10 + (c.toNat - 48)) (l.drop (i + 1)) from by rw [hd, if_pos (by omega)])
                  have hm2 : m * 10 + (c.toNat - 48) < 10 ^ (i + 1 - 1) := by rw [hps]; omega
                  have HM := Lib.hid hm2
                  have e1 : IntKind.i64.wrap (10 * (m : Int)) = 10 * (m : Int) := IntWalk.i64_in _ (by omega)
                  have e2 : IntKind.u8.wrap (c - 48) = c - 48 := IntWalk.u8_in _ (by omega)
                  have e3 : IntKind.i64.wrap (c - 48) = c - 48 := IntWalk.i64_in _ (by omega)
                  have e4 : IntKind.i64.wrap (10 * (m : Int) + (c - 48)) = 10 * (m : Int) + (c - 48) := IntWalk.i64_in _ (by omega)
                  have hc2' : c ≤ 57 := by omega
                  clear hd hm hp hps hm2
                  go_wp2
                  go_round
                  case rel => exact ⟨m * 10 + (c.toNat - 48), i + 1, by go_num, by go_num, by omega, by omega, HNext.out, HM.out⟩
                  case measure => simp [intOf]; omega
            · have hie : i = l.length := by omega
              have HR := Lib.hid (show V = some (((-(m : Int)) : Int)) from by rw [HVL.out, hd, hie, List.drop_length]; rfl)
              have e1 : IntKind.i64.wrap (-(m : Int)) = -(m : Int) := IntWalk.i64_in _ (by
                have := pow10_le (a := 6) (by decide)
                have h7 : 10 ^ (i - 1) ≤ 10000000 := by
                  rcases (by omega : i - 1 ≤ 6 ∨ i - 1 = 7) with h | h
                  · have := pow10_le h; omega
                  · rw [h]; decide
                omega)
              clear hd hm
              go_wp2
              go_ret2
              exact ⟨by rw [HR.out]; rfl, rfl⟩

end Go.Proofs.YtbojmcopagbheaaGreatDoor
end

section
namespace Go.Proofs.YtbojmcopagbheaaGreatDoor
open Go.RowKit
attribute [local go_sem ↓] Go.wp_at_zero Go.wp_at_succ

theorem refNumber_nil (D : Nat) (w : World) :
    Calls Tryz.prog 80 #[.string ⟨(([] : List UInt8)).toArray⟩, .int .i64 (D : Int)] w fun e w' => e = .returned (numRes (numberV [] D)) ∧ w = w' := by
  have hbs := bsize []
  go_enter Tryz.func80, Tryz.ntmps80
  go_wp2
  go_ret2
  exact ⟨by unfold numberV; rw [if_pos (.inl rfl)]; rfl, rfl⟩
theorem refNumber_any (l : List UInt8) (hl : l.length ≤ 1000) (D : Nat) (hD : D ≤ 7) (w : World) :
    Calls Tryz.prog 80 #[.string ⟨l.toArray⟩, .int .i64 (D : Int)] w fun e w' => e = .returned (numRes (numberV l D)) ∧ w = w' := by
  rcases l with _ | ⟨b, r⟩
  · exact refNumber_nil D w
  · have hq : byteL (b :: r) 0 = 45 ↔ (b :: r).head? = some 45 := (drop_head (l := b :: r) (k := 0) (by simp) (c := 45) (by decide)).symm
    by_cases h : byteL (b :: r) 0 = 45
    · have hh := hq.1 h
      exact refNumber_1 (b :: r) hl (by simp) (by simpa using h) (by unfold restV; rw [if_pos hh]; rfl) (by simpa using hh) D hD w
    · have hh := fun e => h (hq.2 e)
      exact refNumber_0 (b :: r) hl (by simp) (by simpa using h) (by unfold restV; rw [if_neg hh]; rfl) (by simpa using hh) D hD w

end Go.Proofs.YtbojmcopagbheaaGreatDoor
end
