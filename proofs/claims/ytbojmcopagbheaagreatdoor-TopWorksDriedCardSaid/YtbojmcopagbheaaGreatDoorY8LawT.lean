/- The walk of the law on strings of tasks: it returns true. Printed by a program (gen_wlawt.py). -/
import Derived.Test.YtbojmcopagbheaaGreatDoorY1ParT
import Derived.Test.YtbojmcopagbheaaGreatDoorQ5
import Derived.Test.YtbojmcopagbheaaGreatDoorY6RefPT
import Derived.Test.YtbojmcopagbheaaGreatDoorQ8
import Derived.Test.YtbojmcopagbheaaGreatDoorRJ
namespace Go.Proofs.YtbojmcopagbheaaGreatDoor
open Go.RowKit
attribute [local go_sem ↓] Go.wp_at_zero Go.wp_at_succ

theorem IntsIn.past {w w' : World} {A : Option Addr} {xs : List Int} (h : IntsIn w.heap.size w A xs) (hb : Below w.heap.size w w') : IntsIn w'.heap.size w' A xs := (h.below hb).more hb.size
theorem IntsIn.alloc {w : World} {A : Option Addr} {xs : List Int} (h : IntsIn w.heap.size w A xs) {ob : Obj} : IntsIn (w.alloc ob).heap.size (w.alloc ob) A xs := h.past (pa pr)
theorem numsQ_range {D : Nat} {d : List UInt8} {q : List Int} (h : numsQ D (partsL d) = some q) : q.length ≤ d.length + 1 := by
  rw [numsQ_len h]
  exact parts_len d
theorem parseT_len {l : List UInt8} {m le re : Int} {q : List Int} (h : parseT l = some (m, le, re, q)) : q.length ≤ l.length + 1 := by
  unfold parseT at h
  split at h
  · rename_i a b c d hs
    have hd : d.length ≤ l.length := splitM (c := 32) (by rw [hs]; simp)
    cases h1 : numQ 7 a with
    | none => rw [h1] at h; cases h
    | some x =>
      cases h2 : numQ 7 b with
      | none => rw [h1, h2] at h; cases h
      | some y =>
        cases h3 : numQ 7 c with
        | none => rw [h1, h2, h3] at h; cases h
        | some z =>
          cases h4 : numsQ 7 (partsL d) with
          | none => rw [h1, h2, h3, h4] at h; cases h
          | some r =>
            rw [h1, h2, h3, h4] at h
            have h := Option.some.inj h
            injection h with _ h
            injection h with _ h
            injection h with _ h
            subst h
            exact Nat.le_trans (numsQ_range h4) (by omega)
  · cases h
theorem taskOut_len (l : List UInt8) : (taskOut (parseT l)).1.after.length ≤ l.length + 1 := by
  cases h : parseT l with
  | none => exact Nat.zero_le _
  | some r =>
    obtain ⟨m, le, re, q⟩ := r
    unfold taskOut
    dsimp only
    split
    · exact parseT_len h
    · exact Nat.zero_le _
theorem scan_nil {f : Nat → Int} {n : Nat} : ∀ (d k : Nat), n - k = d → (scan f n k).2 = 0 → ∀ i, k ≤ i → i < n → f i = 0
  | 0, k, hd, _, i, h1, h2 => by omega
  | d + 1, k, hd, h, i, h1, h2 => by
    rw [scan_step (by omega)] at h
    split at h
    · rename_i hk
      rcases Nat.lt_or_ge k i with h3 | h3
      · exact scan_nil d (k + 1) (by omega) h i h3 h2
      · obtain rfl : i = k := by omega
        exact hk
    · contradiction
/-- A task that is valid has numbers of few digits. -/
theorem taskE_ok {m le re : Int} {xs : List Int} (h : taskE ⟨m, le, re, xs⟩ = 0) : (0 ≤ m ∧ m < 10000000) ∧ (0 ≤ le ∧ le < 10000000) ∧ (0 ≤ re ∧ re < 10000000) ∧ ∀ n ∈ xs, 0 ≤ n ∧ n < 10000000 := by
  unfold taskE at h
  split at h
  · contradiction
  · rename_i h1
    have h1 : firstV [unlessV (withinB m 0 3 && withinB le 1 10000 && withinB re 0 10000) 2, unlessV (decide ((xs.length : Int) ≤ 7)) 8] = 0 := Decidable.not_not.1 h1
    obtain ⟨e1, _⟩ := firstV_zero.1 h1
    have e1 := (unless_ne (by decide)).1 e1
    simp only [withinB, Bool.and_eq_true, decide_eq_true_eq] at e1
    refine ⟨by omega, by omega, by omega, fun n hn => ?_⟩
    obtain ⟨k, hk, rfl⟩ := List.getElem_of_mem hn
    have q := scan_nil _ 0 rfl h k (Nat.zero_le k) hk
    obtain ⟨q1, _⟩ := firstV_zero.1 q
    have q1 := (unless_ne (by decide)).1 q1
    simp only [withinB, Bool.and_eq_true, decide_eq_true_eq, List.getD, List.getElem?_eq_getElem hk, Option.getD_some] at q1
    omega

set_option maxHeartbeats 16000000 in
set_option maxRecDepth 100000 in
theorem tlaw_long (m le re : Int) (xs : List Int) (A : Option Addr) (c : Nat) (i1 : I64 m) (i2 : I64 le) (i3 : I64 re) (ia : ∀ x ∈ xs, I64 x) (l : List UInt8) (h9 : 9 < xs.length) (w : World) (hS : StrIn w) (hr : IntsIn w.heap.size w A xs) :
    Calls Tryz.prog 6 #[.agg #[.int .i64 m, .int .i64 le, .int .i64 re, .slice A xs.length c], .string ⟨l.toArray⟩] w fun e w' => e = .returned (.bool true) ∧ Below w.heap.size w w' := by
  have HS := Lib.hid (fun w' (h : Below w.heap.size w w') => hS.kept h)
  have hbs := bsize l
  clear hS
  have h9i : (9 : Int) < (xs.length : Int) := by omega
  go_enter Tryz.func6, Tryz.ntmps6
  go_wp2_with (first
    | (go_at_call 32; (with_reducible refine (awake_any _).mono ?_); rintro e w1_ ⟨rfl, h1_⟩; have T_1 : Blk w1_ (w.heap.size) 41 #[.int .i64 m, .int .i64 le, .int .i64 re, .slice A xs.length c] := (Blk.newAt (by simp)).past h1_; have RX_1 : IntsIn w1_.heap.size w1_ A xs := (hr.alloc).past h1_; have S_1 := pt (pa (pr)) h1_; have Tc0 := T_1.cellAt 0 rfl; have Tc1 := T_1.cellAt 1 rfl; have Tc2 := T_1.cellAt 2 rfl; have Tc3 := T_1.cellAt 3 rfl; have Tl := T_1.lt; clear h1_))
  go_ret
  exact ⟨rfl, by repeat (first | exact S_1 | refine pa ?_)⟩

set_option maxHeartbeats 16000000 in
set_option maxRecDepth 100000 in
theorem tlaw_longS (m le re : Int) (xs : List Int) (A : Option Addr) (c : Nat) (i1 : I64 m) (i2 : I64 le) (i3 : I64 re) (ia : ∀ x ∈ xs, I64 x) (l : List UInt8) (h9 : xs.length ≤ 9) (hl : 100 < l.length) (w : World) (hS : StrIn w) (hr : IntsIn w.heap.size w A xs) :
    Calls Tryz.prog 6 #[.agg #[.int .i64 m, .int .i64 le, .int .i64 re, .slice A xs.length c], .string ⟨l.toArray⟩] w fun e w' => e = .returned (.bool true) ∧ Below w.heap.size w w' := by
  have HS := Lib.hid (fun w' (h : Below w.heap.size w w') => hS.kept h)
  have hbs := bsize l
  clear hS
  have h9i : ¬ (9 : Int) < (xs.length : Int) := by omega
  have hli : (100 : Int) < (l.length : Int) := by omega
  go_enter Tryz.func6, Tryz.ntmps6
  go_wp2_with (first
    | (go_at_call 32; (with_reducible refine (awake_any _).mono ?_); rintro e w1_ ⟨rfl, h1_⟩; have T_1 : Blk w1_ (w.heap.size) 41 #[.int .i64 m, .int .i64 le, .int .i64 re, .slice A xs.length c] := (Blk.newAt (by simp)).past h1_; have RX_1 : IntsIn w1_.heap.size w1_ A xs := (hr.alloc).past h1_; have S_1 := pt (pa (pr)) h1_; have Tc0 := T_1.cellAt 0 rfl; have Tc1 := T_1.cellAt 1 rfl; have Tc2 := T_1.cellAt 2 rfl; have Tc3 := T_1.cellAt 3 rfl; have Tl := T_1.lt; clear h1_))
  go_ret
  exact ⟨rfl, by repeat (first | exact S_1 | refine pa ?_)⟩

set_option maxHeartbeats 16000000 in
set_option maxRecDepth 100000 in
theorem tlaw_bad (m le re : Int) (xs : List Int) (A : Option Addr) (c : Nat) (i1 : I64 m) (i2 : I64 le) (i3 : I64 re) (ia : ∀ x ∈ xs, I64 x) (l : List UInt8) (h9 : xs.length ≤ 9) (hl : l.length ≤ 100) (E : Int) (hE : taskE ⟨m, le, re, xs⟩ = E) (hne : (E != 0) = true) (w : World) (hS : StrIn w) (hr : IntsIn w.heap.size w A xs) :
    Calls Tryz.prog 6 #[.agg #[.int .i64 m, .int .i64 le, .int .i64 re, .slice A xs.length c], .string ⟨l.toArray⟩] w fun e w' => e = .returned (.bool true) ∧ Below w.heap.size w w' := by
  have HS := Lib.hid (fun w' (h : Below w.heap.size w w') => hS.kept h)
  have hbs := bsize l
  clear hS
  have h9i : ¬ (9 : Int) < (xs.length : Int) := by omega
  have hli : ¬ (100 : Int) < (l.length : Int) := by omega
  have HCo := Lib.hid (show ∀ w', IntsIn w'.heap.size w' A xs → Calls Tryz.prog 37 #[.agg #[.int .i64 m, .int .i64 le, .int .i64 re, .slice A xs.length c]] w' fun e w'' => ∃ A c, e = .returned (.agg #[.int .i64 m, .int .i64 le, .int .i64 re, .slice A xs.length c]) ∧ NumRow w'' A xs ∧ xs.length ≤ c ∧ Below w'.heap.size w' w'' from fun w' h => copyTask_any w'.heap.size ⟨m, le, re, xs⟩ A xs.length c w' rfl h (Nat.le_refl _) (by omega))
  have HF := Lib.hid (fun A c w' hS (h : IntsIn w'.heap.size w' A xs) => FormatTask_any w'.heap.size ⟨m, le, re, xs⟩ A xs.length c w' hS rfl h (Nat.le_refl _) (by omega) i1 i2 i3 ia)
  have HF := Lib.hid (show ∀ A c w', StrIn w' → IntsIn w'.heap.size w' A xs → Calls Tryz.prog 13 #[.agg #[.int .i64 m, .int .i64 le, .int .i64 re, .slice A xs.length c]] w' fun e w'' => e = .returned (strV (fmtT m le re xs)) ∧ Below w'.heap.size w' w'' from HF.out)
  have HG := Lib.hid (fun w' (h : IntsIn w'.heap.size w' A xs) => refFormatTask_any w'.heap.size m le re xs A xs.length c w' rfl h (Nat.le_refl _) (by omega) i1 i2 i3 ia)
  have HE := Lib.hid (show ∀ w', IntsIn w'.heap.size w' A xs → Calls Tryz.prog 41 #[.agg #[.int .i64 m, .int .i64 le, .int .i64 re, .slice A xs.length c]] w' fun e w'' => e = .returned (.int .i64 E) ∧ Below w'.heap.size w' w'' from fun w' h => hE ▸ refTaskErr_any w'.heap.size ⟨m, le, re, xs⟩ A xs.length c w' rfl h (Nat.le_refl _) (by omega))
  have hA := fun w' hS => ParseTask_any l (by omega) w' hS
  have hB := fun w' => refParseTask_any l (by omega) w'
  have hqn := taskOut_len l
  generalize taskOut (parseT l) = q at *
  obtain ⟨⟨q1, q2, q3, qs⟩, qe⟩ := q
  dsimp only at hqn
  have HA := Lib.hid (show ∀ w', StrIn w' → Calls Tryz.prog 12 #[.string ⟨l.toArray⟩] w' fun e w'' => ∃ A c, e = .returned (.tuple #[.agg #[.int .i64 q1, .int .i64 q2, .int .i64 q3, .slice A qs.length c], .int .i64 qe]) ∧ qs.length ≤ c ∧ IntsIn w''.heap.size w'' A qs ∧ Below w'.heap.size w' w'' from hA)
  have HB := Lib.hid (show ∀ w', Calls Tryz.prog 38 #[.string ⟨l.toArray⟩] w' fun e w'' => ∃ A c, e = .returned (.tuple #[.agg #[.int .i64 q1, .int .i64 q2, .int .i64 q3, .slice A qs.length c], .int .i64 qe]) ∧ qs.length ≤ c ∧ IntsIn w''.heap.size w'' A qs ∧ Below w'.heap.size w' w'' from hB)
  have HQ := Lib.hid (fun A1 A2 c1 c2 w' (h1 : IntsIn w'.heap.size w' A1 qs) (h2 : IntsIn w'.heap.size w' A2 qs) => refSameTask_any q1 q2 q3 qs A1 A2 c1 c2 w' h1 h2 (by omega))
  clear hA hB hqn
  generalize fmtT m le re xs = S at *
  clear hE hl h9 i1 i2 i3 ia
  go_enter Tryz.func6, Tryz.ntmps6
  go_wp2_with (first
    | (go_at_call 32; (with_reducible refine (awake_any _).mono ?_); rintro e w1_ ⟨rfl, h1_⟩; have T_1 : Blk w1_ (w.heap.size) 41 #[.int .i64 m, .int .i64 le, .int .i64 re, .slice A xs.length c] := (Blk.newAt (by simp)).past h1_; have RX_1 : IntsIn w1_.heap.size w1_ A xs := (hr.alloc).past h1_; have S_1 := pt (pa (pr)) h1_; have Tc0 := T_1.cellAt 0 rfl; have Tc1 := T_1.cellAt 1 rfl; have Tc2 := T_1.cellAt 2 rfl; have Tc3 := T_1.cellAt 3 rfl; have Tl := T_1.lt; clear h1_)
    | (go_at_call 37; (with_reducible refine (HCo.out _ (RX_1)).mono ?_); rintro e w2_ ⟨A1, c1, rfl, hr1, hc1, h2_⟩; have T_2 : Blk w2_ (w.heap.size) 41 #[.int .i64 m, .int .i64 le, .int .i64 re, .slice A xs.length c] := (T_1).past h2_; have RX_2 : IntsIn w2_.heap.size w2_ A xs := (RX_1).past h2_; have S_2 := pt (S_1) h2_; clear T_1 RX_1 S_1 Tc0 Tc1 Tc2 Tc3 Tl; clear h2_; have RC_2 : IntsIn w2_.heap.size w2_ A1 xs := hr1.ints; clear hr1 hc1)
    | (go_at_call 13; (with_reducible refine (HF.out _ _ _ (HS.out _ (S_2)) (RC_2)).mono ?_); rintro e w3_ ⟨rfl, h3_⟩; have T_3 : Blk w3_ (w.heap.size) 41 #[.int .i64 m, .int .i64 le, .int .i64 re, .slice A xs.length c] := (T_2).past h3_; have RX_3 : IntsIn w3_.heap.size w3_ A xs := (RX_2).past h3_; have RC_3 : IntsIn w3_.heap.size w3_ A1 xs := (RC_2).past h3_; have S_3 := pt (S_2) h3_; clear T_2 RX_2 RC_2 S_2; clear h3_)
    | (go_at_call 12; (with_reducible refine (HA.out _ (HS.out _ (S_3))).mono ?_); rintro e w4_ ⟨A2, c2, rfl, hc2, hr2, h4_⟩; have T_4 : Blk w4_ (w.heap.size) 41 #[.int .i64 m, .int .i64 le, .int .i64 re, .slice A xs.length c] := (T_3).past h4_; have RX_4 : IntsIn w4_.heap.size w4_ A xs := (RX_3).past h4_; have S_4 := pt (S_3) h4_; clear T_3 RX_3 S_3; clear h4_; have RA_4 : IntsIn w4_.heap.size w4_ A2 qs := hr2; clear hr2 hc2)
    | (go_at_call 38; (with_reducible refine (HB.out _).mono ?_); rintro e w5_ ⟨A3, c3, rfl, hc3, hr3, h5_⟩; have T_5 : Blk w5_ (w.heap.size) 41 #[.int .i64 m, .int .i64 le, .int .i64 re, .slice A xs.length c] := (T_4.alloc).past h5_; have X_5 : Blk w5_ (w4_.heap.size) 41 #[.int .i64 q1, .int .i64 q2, .int .i64 q3, .slice A2 qs.length c2] := (Blk.newAt (by simp)).past h5_; have RX_5 : IntsIn w5_.heap.size w5_ A xs := (RX_4.alloc).past h5_; have RA_5 : IntsIn w5_.heap.size w5_ A2 qs := (RA_4.alloc).past h5_; have S_5 := pt (pa (S_4)) h5_; clear T_4 RX_4 RA_4 S_4; have Tc0 := T_5.cellAt 0 rfl; have Tc1 := T_5.cellAt 1 rfl; have Tc2 := T_5.cellAt 2 rfl; have Tc3 := T_5.cellAt 3 rfl; have Tl := T_5.lt; clear h5_; have RB_5 : IntsIn w5_.heap.size w5_ A3 qs := hr3; clear hr3 hc3)
    | (go_at_call 39; (with_reducible refine (HG.out _ (RX_5.alloc)).mono ?_); rintro e w6_ ⟨rfl, h6_⟩; have T_6 : Blk w6_ (w.heap.size) 41 #[.int .i64 m, .int .i64 le, .int .i64 re, .slice A xs.length c] := (T_5.alloc).past h6_; have X_6 : Blk w6_ (w4_.heap.size) 41 #[.int .i64 q1, .int .i64 q2, .int .i64 q3, .slice A2 qs.length c2] := (X_5.alloc).past h6_; have Y_6 : Blk w6_ (w5_.heap.size) 41 #[.int .i64 q1, .int .i64 q2, .int .i64 q3, .slice A3 qs.length c3] := (Blk.newAt (by simp)).past h6_; have RX_6 : IntsIn w6_.heap.size w6_ A xs := (RX_5.alloc).past h6_; have RA_6 : IntsIn w6_.heap.size w6_ A2 qs := (RA_5.alloc).past h6_; have RB_6 : IntsIn w6_.heap.size w6_ A3 qs := (RB_5.alloc).past h6_; have S_6 := pt (pa (S_5)) h6_; clear T_5 X_5 RX_5 RA_5 RB_5 S_5 Tc0 Tc1 Tc2 Tc3 Tl; have Xc0 := X_6.cellAt 0 rfl; have Xc1 := X_6.cellAt 1 rfl; have Xc2 := X_6.cellAt 2 rfl; have Xc3 := X_6.cellAt 3 rfl; have Xl := X_6.lt; have Yc0 := Y_6.cellAt 0 rfl; have Yc1 := Y_6.cellAt 1 rfl; have Yc2 := Y_6.cellAt 2 rfl; have Yc3 := Y_6.cellAt 3 rfl; have Yl := Y_6.lt; clear h6_)
    | (go_at_call 40; (with_reducible refine (HQ.out _ _ _ _ _ (RA_6) (RB_6)).mono ?_); rintro e w7_ ⟨rfl, h7_⟩; have T_7 : Blk w7_ (w.heap.size) 41 #[.int .i64 m, .int .i64 le, .int .i64 re, .slice A xs.length c] := (T_6).past h7_; have X_7 : Blk w7_ (w4_.heap.size) 41 #[.int .i64 q1, .int .i64 q2, .int .i64 q3, .slice A2 qs.length c2] := (X_6).past h7_; have Y_7 : Blk w7_ (w5_.heap.size) 41 #[.int .i64 q1, .int .i64 q2, .int .i64 q3, .slice A3 qs.length c3] := (Y_6).past h7_; have RX_7 : IntsIn w7_.heap.size w7_ A xs := (RX_6).past h7_; have RA_7 : IntsIn w7_.heap.size w7_ A2 qs := (RA_6).past h7_; have RB_7 : IntsIn w7_.heap.size w7_ A3 qs := (RB_6).past h7_; have S_7 := pt (S_6) h7_; clear T_6 X_6 Y_6 RX_6 RA_6 RB_6 S_6 Xc0 Xc1 Xc2 Xc3 Xl Yc0 Yc1 Yc2 Yc3 Yl; have Tc0 := T_7.cellAt 0 rfl; have Tc1 := T_7.cellAt 1 rfl; have Tc2 := T_7.cellAt 2 rfl; have Tc3 := T_7.cellAt 3 rfl; have Tl := T_7.lt; clear h7_)
    | (go_at_call 41; (with_reducible refine (HE.out _ (RX_7)).mono ?_); rintro e w8_ ⟨rfl, h8_⟩; have T_8 : Blk w8_ (w.heap.size) 41 #[.int .i64 m, .int .i64 le, .int .i64 re, .slice A xs.length c] := (T_7).past h8_; have X_8 : Blk w8_ (w4_.heap.size) 41 #[.int .i64 q1, .int .i64 q2, .int .i64 q3, .slice A2 qs.length c2] := (X_7).past h8_; have Y_8 : Blk w8_ (w5_.heap.size) 41 #[.int .i64 q1, .int .i64 q2, .int .i64 q3, .slice A3 qs.length c3] := (Y_7).past h8_; have RX_8 : IntsIn w8_.heap.size w8_ A xs := (RX_7).past h8_; have RA_8 : IntsIn w8_.heap.size w8_ A2 qs := (RA_7).past h8_; have RB_8 : IntsIn w8_.heap.size w8_ A3 qs := (RB_7).past h8_; have S_8 := pt (S_7) h8_; clear T_7 X_7 Y_7 RX_7 RA_7 RB_7 S_7 Tc0 Tc1 Tc2 Tc3 Tl; have Tc0 := T_8.cellAt 0 rfl; have Tc1 := T_8.cellAt 1 rfl; have Tc2 := T_8.cellAt 2 rfl; have Tc3 := T_8.cellAt 3 rfl; have Tl := T_8.lt; clear h8_))
  go_ret
  exact ⟨rfl, by repeat (first | exact S_8 | refine pa ?_)⟩

set_option maxHeartbeats 16000000 in
set_option maxRecDepth 100000 in
theorem tlaw_good (m le re : Int) (xs : List Int) (A : Option Addr) (c : Nat) (i1 : I64 m) (i2 : I64 le) (i3 : I64 re) (ia : ∀ x ∈ xs, I64 x) (l : List UInt8) (h9 : xs.length ≤ 9) (hl : l.length ≤ 100) (E : Int) (hE : taskE ⟨m, le, re, xs⟩ = E) (h0 : E = 0) (hs : (fmtT m le re xs).length ≤ 500) (hq : taskOut (parseT (fmtT m le re xs)) = (⟨m, le, re, xs⟩, 0)) (w : World) (hS : StrIn w) (hr : IntsIn w.heap.size w A xs) :
    Calls Tryz.prog 6 #[.agg #[.int .i64 m, .int .i64 le, .int .i64 re, .slice A xs.length c], .string ⟨l.toArray⟩] w fun e w' => e = .returned (.bool true) ∧ Below w.heap.size w w' := by
  have HS := Lib.hid (fun w' (h : Below w.heap.size w w') => hS.kept h)
  have hbs := bsize l
  clear hS
  have h9i : ¬ (9 : Int) < (xs.length : Int) := by omega
  have hli : ¬ (100 : Int) < (l.length : Int) := by omega
  have HCo := Lib.hid (show ∀ w', IntsIn w'.heap.size w' A xs → Calls Tryz.prog 37 #[.agg #[.int .i64 m, .int .i64 le, .int .i64 re, .slice A xs.length c]] w' fun e w'' => ∃ A c, e = .returned (.agg #[.int .i64 m, .int .i64 le, .int .i64 re, .slice A xs.length c]) ∧ NumRow w'' A xs ∧ xs.length ≤ c ∧ Below w'.heap.size w' w'' from fun w' h => copyTask_any w'.heap.size ⟨m, le, re, xs⟩ A xs.length c w' rfl h (Nat.le_refl _) (by omega))
  have HF := Lib.hid (fun A c w' hS (h : IntsIn w'.heap.size w' A xs) => FormatTask_any w'.heap.size ⟨m, le, re, xs⟩ A xs.length c w' hS rfl h (Nat.le_refl _) (by omega) i1 i2 i3 ia)
  have HF := Lib.hid (show ∀ A c w', StrIn w' → IntsIn w'.heap.size w' A xs → Calls Tryz.prog 13 #[.agg #[.int .i64 m, .int .i64 le, .int .i64 re, .slice A xs.length c]] w' fun e w'' => e = .returned (strV (fmtT m le re xs)) ∧ Below w'.heap.size w' w'' from HF.out)
  have HG := Lib.hid (fun w' (h : IntsIn w'.heap.size w' A xs) => refFormatTask_any w'.heap.size m le re xs A xs.length c w' rfl h (Nat.le_refl _) (by omega) i1 i2 i3 ia)
  have HE := Lib.hid (show ∀ w', IntsIn w'.heap.size w' A xs → Calls Tryz.prog 41 #[.agg #[.int .i64 m, .int .i64 le, .int .i64 re, .slice A xs.length c]] w' fun e w'' => e = .returned (.int .i64 E) ∧ Below w'.heap.size w' w'' from fun w' h => hE ▸ refTaskErr_any w'.heap.size ⟨m, le, re, xs⟩ A xs.length c w' rfl h (Nat.le_refl _) (by omega))
  have hA := fun w' hS => ParseTask_any l (by omega) w' hS
  have hB := fun w' => refParseTask_any l (by omega) w'
  have hqn := taskOut_len l
  generalize taskOut (parseT l) = q at *
  obtain ⟨⟨q1, q2, q3, qs⟩, qe⟩ := q
  dsimp only at hqn
  have HA := Lib.hid (show ∀ w', StrIn w' → Calls Tryz.prog 12 #[.string ⟨l.toArray⟩] w' fun e w'' => ∃ A c, e = .returned (.tuple #[.agg #[.int .i64 q1, .int .i64 q2, .int .i64 q3, .slice A qs.length c], .int .i64 qe]) ∧ qs.length ≤ c ∧ IntsIn w''.heap.size w'' A qs ∧ Below w'.heap.size w' w'' from hA)
  have HB := Lib.hid (show ∀ w', Calls Tryz.prog 38 #[.string ⟨l.toArray⟩] w' fun e w'' => ∃ A c, e = .returned (.tuple #[.agg #[.int .i64 q1, .int .i64 q2, .int .i64 q3, .slice A qs.length c], .int .i64 qe]) ∧ qs.length ≤ c ∧ IntsIn w''.heap.size w'' A qs ∧ Below w'.heap.size w' w'' from hB)
  have HQ := Lib.hid (fun A1 A2 c1 c2 w' (h1 : IntsIn w'.heap.size w' A1 qs) (h2 : IntsIn w'.heap.size w' A2 qs) => refSameTask_any q1 q2 q3 qs A1 A2 c1 c2 w' h1 h2 (by omega))
  clear hA hB hqn
  have hC := fun w' hS => ParseTask_any (fmtT m le re xs) hs w' hS
  rw [hq] at hC
  have HC := Lib.hid (show ∀ w', StrIn w' → Calls Tryz.prog 12 #[.string ⟨(fmtT m le re xs).toArray⟩] w' fun e w'' => ∃ A c, e = .returned (.tuple #[.agg #[.int .i64 m, .int .i64 le, .int .i64 re, .slice A xs.length c], .int .i64 0]) ∧ xs.length ≤ c ∧ IntsIn w''.heap.size w'' A xs ∧ Below w'.heap.size w' w'' from hC)
  have HX := Lib.hid (fun A1 A2 c1 c2 w' (h1 : IntsIn w'.heap.size w' A1 xs) (h2 : IntsIn w'.heap.size w' A2 xs) => refSameTask_any m le re xs A1 A2 c1 c2 w' h1 h2 (by omega))
  subst h0
  generalize fmtT m le re xs = S at *
  clear hE hl h9 i1 i2 i3 ia hC hq hs
  go_enter Tryz.func6, Tryz.ntmps6
  go_wp2_with (first
    | (go_at_call 32; (with_reducible refine (awake_any _).mono ?_); rintro e w1_ ⟨rfl, h1_⟩; have T_1 : Blk w1_ (w.heap.size) 41 #[.int .i64 m, .int .i64 le, .int .i64 re, .slice A xs.length c] := (Blk.newAt (by simp)).past h1_; have RX_1 : IntsIn w1_.heap.size w1_ A xs := (hr.alloc).past h1_; have S_1 := pt (pa (pr)) h1_; have Tc0 := T_1.cellAt 0 rfl; have Tc1 := T_1.cellAt 1 rfl; have Tc2 := T_1.cellAt 2 rfl; have Tc3 := T_1.cellAt 3 rfl; have Tl := T_1.lt; clear h1_)
    | (go_at_call 37; (with_reducible refine (HCo.out _ (RX_1)).mono ?_); rintro e w2_ ⟨A1, c1, rfl, hr1, hc1, h2_⟩; have T_2 : Blk w2_ (w.heap.size) 41 #[.int .i64 m, .int .i64 le, .int .i64 re, .slice A xs.length c] := (T_1).past h2_; have RX_2 : IntsIn w2_.heap.size w2_ A xs := (RX_1).past h2_; have S_2 := pt (S_1) h2_; clear T_1 RX_1 S_1 Tc0 Tc1 Tc2 Tc3 Tl; clear h2_; have RC_2 : IntsIn w2_.heap.size w2_ A1 xs := hr1.ints; clear hr1 hc1)
    | (go_at_call 13; (with_reducible refine (HF.out _ _ _ (HS.out _ (S_2)) (RC_2)).mono ?_); rintro e w3_ ⟨rfl, h3_⟩; have T_3 : Blk w3_ (w.heap.size) 41 #[.int .i64 m, .int .i64 le, .int .i64 re, .slice A xs.length c] := (T_2).past h3_; have RX_3 : IntsIn w3_.heap.size w3_ A xs := (RX_2).past h3_; have RC_3 : IntsIn w3_.heap.size w3_ A1 xs := (RC_2).past h3_; have S_3 := pt (S_2) h3_; clear T_2 RX_2 RC_2 S_2; clear h3_)
    | (go_at_call 12; (with_reducible refine (HA.out _ (HS.out _ (S_3))).mono ?_); rintro e w4_ ⟨A2, c2, rfl, hc2, hr2, h4_⟩; have T_4 : Blk w4_ (w.heap.size) 41 #[.int .i64 m, .int .i64 le, .int .i64 re, .slice A xs.length c] := (T_3).past h4_; have RX_4 : IntsIn w4_.heap.size w4_ A xs := (RX_3).past h4_; have S_4 := pt (S_3) h4_; clear T_3 RX_3 S_3; clear h4_; have RA_4 : IntsIn w4_.heap.size w4_ A2 qs := hr2; clear hr2 hc2)
    | (go_at_call 38; (with_reducible refine (HB.out _).mono ?_); rintro e w5_ ⟨A3, c3, rfl, hc3, hr3, h5_⟩; have T_5 : Blk w5_ (w.heap.size) 41 #[.int .i64 m, .int .i64 le, .int .i64 re, .slice A xs.length c] := (T_4.alloc).past h5_; have X_5 : Blk w5_ (w4_.heap.size) 41 #[.int .i64 q1, .int .i64 q2, .int .i64 q3, .slice A2 qs.length c2] := (Blk.newAt (by simp)).past h5_; have RX_5 : IntsIn w5_.heap.size w5_ A xs := (RX_4.alloc).past h5_; have RA_5 : IntsIn w5_.heap.size w5_ A2 qs := (RA_4.alloc).past h5_; have S_5 := pt (pa (S_4)) h5_; clear T_4 RX_4 RA_4 S_4; have Tc0 := T_5.cellAt 0 rfl; have Tc1 := T_5.cellAt 1 rfl; have Tc2 := T_5.cellAt 2 rfl; have Tc3 := T_5.cellAt 3 rfl; have Tl := T_5.lt; clear h5_; have RB_5 : IntsIn w5_.heap.size w5_ A3 qs := hr3; clear hr3 hc3)
    | (go_at_call 39; (with_reducible refine (HG.out _ (RX_5.alloc)).mono ?_); rintro e w6_ ⟨rfl, h6_⟩; have T_6 : Blk w6_ (w.heap.size) 41 #[.int .i64 m, .int .i64 le, .int .i64 re, .slice A xs.length c] := (T_5.alloc).past h6_; have X_6 : Blk w6_ (w4_.heap.size) 41 #[.int .i64 q1, .int .i64 q2, .int .i64 q3, .slice A2 qs.length c2] := (X_5.alloc).past h6_; have Y_6 : Blk w6_ (w5_.heap.size) 41 #[.int .i64 q1, .int .i64 q2, .int .i64 q3, .slice A3 qs.length c3] := (Blk.newAt (by simp)).past h6_; have RX_6 : IntsIn w6_.heap.size w6_ A xs := (RX_5.alloc).past h6_; have RA_6 : IntsIn w6_.heap.size w6_ A2 qs := (RA_5.alloc).past h6_; have RB_6 : IntsIn w6_.heap.size w6_ A3 qs := (RB_5.alloc).past h6_; have S_6 := pt (pa (S_5)) h6_; clear T_5 X_5 RX_5 RA_5 RB_5 S_5 Tc0 Tc1 Tc2 Tc3 Tl; have Xc0 := X_6.cellAt 0 rfl; have Xc1 := X_6.cellAt 1 rfl; have Xc2 := X_6.cellAt 2 rfl; have Xc3 := X_6.cellAt 3 rfl; have Xl := X_6.lt; have Yc0 := Y_6.cellAt 0 rfl; have Yc1 := Y_6.cellAt 1 rfl; have Yc2 := Y_6.cellAt 2 rfl; have Yc3 := Y_6.cellAt 3 rfl; have Yl := Y_6.lt; clear h6_)
    | (go_at_call 40; (with_reducible refine (HQ.out _ _ _ _ _ (RA_6) (RB_6)).mono ?_); rintro e w7_ ⟨rfl, h7_⟩; have T_7 : Blk w7_ (w.heap.size) 41 #[.int .i64 m, .int .i64 le, .int .i64 re, .slice A xs.length c] := (T_6).past h7_; have X_7 : Blk w7_ (w4_.heap.size) 41 #[.int .i64 q1, .int .i64 q2, .int .i64 q3, .slice A2 qs.length c2] := (X_6).past h7_; have Y_7 : Blk w7_ (w5_.heap.size) 41 #[.int .i64 q1, .int .i64 q2, .int .i64 q3, .slice A3 qs.length c3] := (Y_6).past h7_; have RX_7 : IntsIn w7_.heap.size w7_ A xs := (RX_6).past h7_; have RA_7 : IntsIn w7_.heap.size w7_ A2 qs := (RA_6).past h7_; have RB_7 : IntsIn w7_.heap.size w7_ A3 qs := (RB_6).past h7_; have S_7 := pt (S_6) h7_; clear T_6 X_6 Y_6 RX_6 RA_6 RB_6 S_6 Xc0 Xc1 Xc2 Xc3 Xl Yc0 Yc1 Yc2 Yc3 Yl; have Tc0 := T_7.cellAt 0 rfl; have Tc1 := T_7.cellAt 1 rfl; have Tc2 := T_7.cellAt 2 rfl; have Tc3 := T_7.cellAt 3 rfl; have Tl := T_7.lt; clear h7_)
    | (go_at_call 41; (with_reducible refine (HE.out _ (RX_7)).mono ?_); rintro e w8_ ⟨rfl, h8_⟩; have T_8 : Blk w8_ (w.heap.size) 41 #[.int .i64 m, .int .i64 le, .int .i64 re, .slice A xs.length c] := (T_7).past h8_; have X_8 : Blk w8_ (w4_.heap.size) 41 #[.int .i64 q1, .int .i64 q2, .int .i64 q3, .slice A2 qs.length c2] := (X_7).past h8_; have Y_8 : Blk w8_ (w5_.heap.size) 41 #[.int .i64 q1, .int .i64 q2, .int .i64 q3, .slice A3 qs.length c3] := (Y_7).past h8_; have RX_8 : IntsIn w8_.heap.size w8_ A xs := (RX_7).past h8_; have RA_8 : IntsIn w8_.heap.size w8_ A2 qs := (RA_7).past h8_; have RB_8 : IntsIn w8_.heap.size w8_ A3 qs := (RB_7).past h8_; have S_8 := pt (S_7) h8_; clear T_7 X_7 Y_7 RX_7 RA_7 RB_7 S_7 Tc0 Tc1 Tc2 Tc3 Tl; have Tc0 := T_8.cellAt 0 rfl; have Tc1 := T_8.cellAt 1 rfl; have Tc2 := T_8.cellAt 2 rfl; have Tc3 := T_8.cellAt 3 rfl; have Tl := T_8.lt; clear h8_)
    | (go_at_call 12; (with_reducible refine (HC.out _ (HS.out _ (S_8))).mono ?_); rintro e w9_ ⟨A4, c4, rfl, hc4, hr4, h9_⟩; have T_9 : Blk w9_ (w.heap.size) 41 #[.int .i64 m, .int .i64 le, .int .i64 re, .slice A xs.length c] := (T_8).past h9_; have X_9 : Blk w9_ (w4_.heap.size) 41 #[.int .i64 q1, .int .i64 q2, .int .i64 q3, .slice A2 qs.length c2] := (X_8).past h9_; have Y_9 : Blk w9_ (w5_.heap.size) 41 #[.int .i64 q1, .int .i64 q2, .int .i64 q3, .slice A3 qs.length c3] := (Y_8).past h9_; have RX_9 : IntsIn w9_.heap.size w9_ A xs := (RX_8).past h9_; have RA_9 : IntsIn w9_.heap.size w9_ A2 qs := (RA_8).past h9_; have RB_9 : IntsIn w9_.heap.size w9_ A3 qs := (RB_8).past h9_; have S_9 := pt (S_8) h9_; clear T_8 X_8 Y_8 RX_8 RA_8 RB_8 S_8 Tc0 Tc1 Tc2 Tc3 Tl; have Tc0 := T_9.cellAt 0 rfl; have Tc1 := T_9.cellAt 1 rfl; have Tc2 := T_9.cellAt 2 rfl; have Tc3 := T_9.cellAt 3 rfl; have Tl := T_9.lt; clear h9_; have RD_9 : IntsIn w9_.heap.size w9_ A4 xs := hr4; clear hr4 hc4)
    | (go_at_call 40; (with_reducible refine (HX.out _ _ _ _ _ (RD_9.alloc) (RX_9.alloc)).mono ?_); rintro e w10_ ⟨rfl, h10_⟩; have T_10 : Blk w10_ (w.heap.size) 41 #[.int .i64 m, .int .i64 le, .int .i64 re, .slice A xs.length c] := (T_9.alloc).past h10_; have X_10 : Blk w10_ (w4_.heap.size) 41 #[.int .i64 q1, .int .i64 q2, .int .i64 q3, .slice A2 qs.length c2] := (X_9.alloc).past h10_; have Y_10 : Blk w10_ (w5_.heap.size) 41 #[.int .i64 q1, .int .i64 q2, .int .i64 q3, .slice A3 qs.length c3] := (Y_9.alloc).past h10_; have V_10 : Blk w10_ (w9_.heap.size) 41 #[.int .i64 m, .int .i64 le, .int .i64 re, .slice A4 xs.length c4] := (Blk.newAt (by simp)).past h10_; have RX_10 : IntsIn w10_.heap.size w10_ A xs := (RX_9.alloc).past h10_; have RA_10 : IntsIn w10_.heap.size w10_ A2 qs := (RA_9.alloc).past h10_; have RB_10 : IntsIn w10_.heap.size w10_ A3 qs := (RB_9.alloc).past h10_; have RD_10 : IntsIn w10_.heap.size w10_ A4 xs := (RD_9.alloc).past h10_; have S_10 := pt (pa (S_9)) h10_; clear T_9 X_9 Y_9 RX_9 RA_9 RB_9 RD_9 S_9 Tc0 Tc1 Tc2 Tc3 Tl; clear h10_))
  go_ret
  exact ⟨rfl, by repeat (first | exact S_10 | refine pa ?_)⟩

theorem fmtT_len (m le re : Int) (xs : List Int) (i1 : I64 m) (i2 : I64 le) (i3 : I64 re) (ia : ∀ x ∈ xs, I64 x) (h : xs.length ≤ 9) : (fmtT m le re xs).length ≤ 500 := by
  have l1 := itoa_len i1.1 i1.2
  have l2 := itoa_len i2.1 i2.2
  have l3 := itoa_len i3.1 i3.2
  have l4 := listed_len (xs.map Lib.itoa) 21 (fun x hx => by
    obtain ⟨k, hk, rfl⟩ := List.mem_map.1 hx
    exact itoa_len (ia k hk).1 (ia k hk).2)
  rw [List.length_map] at l4
  have e : fmtT m le re xs = ((((((Lib.itoa m) ++ [32]) ++ Lib.itoa le) ++ [32]) ++ Lib.itoa re) ++ [32]) ++ listedL (xs.map Lib.itoa) := by unfold fmtT; simp [Lib.join]
  rw [e]
  simp only [List.length_append, List.length_singleton]
  omega
theorem tlaw_any (m le re : Int) (xs : List Int) (A : Option Addr) (c : Nat) (i1 : I64 m) (i2 : I64 le) (i3 : I64 re) (ia : ∀ x ∈ xs, I64 x) (l : List UInt8) (w : World) (hS : StrIn w) (hr : IntsIn w.heap.size w A xs) :
    Calls Tryz.prog 6 #[.agg #[.int .i64 m, .int .i64 le, .int .i64 re, .slice A xs.length c], .string ⟨l.toArray⟩] w fun e w' => e = .returned (.bool true) ∧ Below w.heap.size w w' := by
  by_cases h9 : 9 < xs.length
  · exact tlaw_long m le re xs A c i1 i2 i3 ia l h9 w hS hr
  · by_cases hl : 100 < l.length
    · exact tlaw_longS m le re xs A c i1 i2 i3 ia l (by omega) hl w hS hr
    · by_cases hE : taskE ⟨m, le, re, xs⟩ = 0
      · obtain ⟨e1, e2, e3, e4⟩ := taskE_ok hE
        refine tlaw_good m le re xs A c i1 i2 i3 ia l (by omega) (by omega) _ rfl hE (fmtT_len m le re xs i1 i2 i3 ia (by omega)) ?_ w hS hr
        rw [parse_task e1 e2 e3 e4]
        unfold taskOut
        dsimp only
        rw [if_pos hE]
      · exact tlaw_bad m le re xs A c i1 i2 i3 ia l (by omega) (by omega) _ rfl (by simpa using hE) w hS hr

end Go.Proofs.YtbojmcopagbheaaGreatDoor
