/- Contract: the specification's Size of a number. (XGSHours has it too, for the seats that have hours.)
Contract of the specification's Decimal: the decimal numeral of a number. Numbers of an int.
Contract of the specification's Decimal, whole.
Strings added; how long a numeral is; numbers of an int64.
Contracts: the string of a winding, of a unit.
Contracts: the string of a unit; the specification's winding and unit as strings. -/
import Derived.Test.YtpdkbhjcpddnpaaGreatDoorN3
import Derived.Test.YtpdkbhjcpddnpaaGreatDoorNE
import Derived.Lib.ItoaLen
import Derived.Deep.DrawnRows
import Derived.Laws.IdiomStrings
import Derived.Test.YtpdkbhjcpddnpaaGreatDoorNF
import Derived.Laws.Concat
import Derived.Test.YtpdkbhjcpddnpaaGreatDoorNH
import Derived.Test.YtpdkbhjcpddnpaaGreatDoorN6
import Derived.Lib.Join

section
namespace Go.Proofs.YtpdkbhjcpddnpaaGreatDoor
open Go.RowKit

end Go.Proofs.YtpdkbhjcpddnpaaGreatDoor
end

section
namespace Go.Proofs.YtpdkbhjcpddnpaaGreatDoor
open Go.RowKit
attribute [local go_sem ↓] Go.wp_at_zero Go.wp_at_succ

end Go.Proofs.YtpdkbhjcpddnpaaGreatDoor
end

section
namespace Go.Proofs.YtpdkbhjcpddnpaaGreatDoor
open Go.RowKit
attribute [local go_sem ↓] Go.wp_at_zero Go.wp_at_succ

end Go.Proofs.YtpdkbhjcpddnpaaGreatDoor
end

section
namespace Go.Proofs.YtpdkbhjcpddnpaaGreatDoor
open Go.RowKit

theorem add_list (a b : List UInt8) (h : a.length + b.length ≤ 1000) (w : World) : (Op.stringOp .add ⟨a.toArray⟩ ⟨b.toArray⟩).run Tryz.prog w = .ok (.string ⟨(a ++ b).toArray⟩) w := by
  have e : (⟨a.toArray⟩ : ByteArray) ++ (⟨b.toArray⟩ : ByteArray) = ⟨(a ++ b).toArray⟩ := by
    apply ByteArray.ext
    simp
  rw [← e]
  exact run_string_add_sum (P := Tryz.prog) w _ _ (by rw [bsize, bsize]; omega)
theorem itoa_len {k : Int} (h0 : -9223372036854775808 ≤ k) (h1 : k ≤ 9223372036854775807) : (Lib.itoa k).length ≤ 21 := by
  have h := digits_len k.natAbs 20 (by decide) (by have : (10 : Nat) ^ 20 = 100000000000000000000 := by decide
                                                   omega)
  unfold Lib.itoa
  split
  · simp; omega
  · have e : k.toNat = k.natAbs := by omega
    rw [e]
    omega
def I64 (k : Int) : Prop := -9223372036854775808 ≤ k ∧ k ≤ 9223372036854775807

end Go.Proofs.YtpdkbhjcpddnpaaGreatDoor
end

section
namespace Go.Proofs.YtpdkbhjcpddnpaaGreatDoor
open Go.RowKit
attribute [local go_sem ↓] Go.wp_at_zero Go.wp_at_succ

set_option maxHeartbeats 4000000 in
set_option maxRecDepth 100000 in
theorem formatted_core (k t s : Int) (r : Bool) (c d : UInt8) (hc : withinB k 0 2 = true ∧ (k = 0 ∧ c = 121 ∨ k = 1 ∧ c = 100 ∨ k = 2 ∧ c = 122) ∨ withinB k 0 2 = false ∧ c = 63) (hd : r = true ∧ d = 45 ∨ r = false ∧ d = 43) (ht : I64 t) (hs : I64 s) (w : World) (hS : StrIn w) (hP : PatIn w) :
    Calls Tryz.prog 72 #[.agg #[.int .i64 k, .int .i64 t, .int .i64 s, .bool r]] w fun e w' => e = .returned (.string ⟨(c :: d :: (Lib.itoa s ++ 47 :: Lib.itoa t)).toArray⟩) ∧ Below w.heap.size w w' := by
  have HS := Lib.hid (fun w' (h : Below w.heap.size w w') => hS.kept h)
  have HT := Lib.hid (fun w' hS' => itoa_wide t ht.1 ht.2 w' hS')
  have HU := Lib.hid (fun w' hS' => itoa_wide s hs.1 hs.2 w' hS')
  have lt := itoa_len ht.1 ht.2
  have ls := itoa_len hs.1 hs.2
  generalize Lib.itoa t = A at *
  generalize Lib.itoa s = B at *
  have hz : c :: d :: (B ++ 47 :: A) = ((([c] ++ [d]) ++ B) ++ [47]) ++ A := by simp
  rw [hz]
  have f1 := add_list [c] [d] (by simp)
  have f2 := add_list ([c] ++ [d]) B (by simp; omega)
  have f3 := add_list (([c] ++ [d]) ++ B) [47] (by simp; omega)
  have f4 := add_list ((([c] ++ [d]) ++ B) ++ [47]) A (by simp; omega)
  generalize ((([c] ++ [d]) ++ B) ++ [47]) ++ A = x4 at *
  generalize (([c] ++ [d]) ++ B) ++ [47] = x3 at *
  generalize ([c] ++ [d]) ++ B = x2 at *
  generalize [c] ++ [d] = x1 at *
  obtain ⟨c0, c1, c2, c3, c4, c5, c6, c7, c8, c9, c10, c11⟩ := pat_all hP
  have hgl := hP.1
  have hK := isKind_any k
  generalize withinB k 0 2 = o at *
  have HK := Lib.hid hK
  clear hz lt ls ht hs hP hS hK
  rcases hc with ⟨rfl, ⟨rfl, rfl⟩ | ⟨rfl, rfl⟩ | ⟨rfl, rfl⟩⟩ | ⟨rfl, rfl⟩ <;> rcases hd with ⟨rfl, rfl⟩ | ⟨rfl, rfl⟩
  all_goals
    go_enter Tryz.func72, Tryz.ntmps72
    go_wp2_with (go_at_call 81; (with_reducible refine (HK.out _).mono ?_); rintro e w' ⟨rfl, rfl⟩)
    clear c0 c1 c2 c3 c4 c5 c6 c7 c8 c9 c10 c11
    refine region_below 12 follows_mixed (by kernel_rfl) ?_
    intro C hC
    simp only [List.take_succ_cons, List.take_zero, List.drop_succ_cons, List.drop_zero]
    repeat (first
      | ((with_reducible refine quiet_plain rfl (fun K hK => ?_)); (focus (apply quiet_val; (focus (intro w' hw; obtain ⟨hcq, hfq⟩ := bcell ((hC.out _).1 hw); go_simp; (first | done | rfl | (with_reducible exact call_below hC hw (HT.out _ (HS.out _ (pt (pa pr) ((hC.out _).1 hw))))) | (with_reducible exact call_below hC hw (HU.out _ (HS.out _ (pt (pa pr) ((hC.out _).1 hw)))))))); (simp only [Act.put, List.setIfInBounds_toArray, List.set_cons_succ, List.set_cons_zero]); (with_reducible refine hK _ ?_); clear hK K)))
      | ((with_reducible refine quiet_skip ?_ ?_); (focus (first | (simp [Region.wanted, yielded]; done) | (simp [Region.wanted, yielded, undef]; done))); simp only [Act.put, List.setIfInBounds_toArray, List.set_cons_succ, List.set_cons_zero])
      | ((with_reducible refine quiet_go ?_ (fun K hK => ?_)); (focus (first | (simp [Region.wanted, yielded]; done) | (simp [Region.wanted, yielded, undef]; done))); (focus (apply quiet_val; (focus (intro w' hw; obtain ⟨hcq, hfq⟩ := bcell ((hC.out _).1 hw); go_simp; (first | done | rfl | (with_reducible exact call_below hC hw (HT.out _ (HS.out _ (pt (pa pr) ((hC.out _).1 hw))))) | (with_reducible exact call_below hC hw (HU.out _ (HS.out _ (pt (pa pr) ((hC.out _).1 hw)))))))); (simp only [Act.put, List.setIfInBounds_toArray, List.set_cons_succ, List.set_cons_zero]); (with_reducible refine hK _ ?_); clear hK K))))
    refine wpQuiet_nil ?_
    intro w1 hb1
    replace hb1 := (hC.out _).1 hb1
    clear hC C
    obtain ⟨hc1, hf1⟩ := bcell hb1
    go_wp2
    go_ret
    exact ⟨rfl, pt (pa pr) hb1⟩

end Go.Proofs.YtpdkbhjcpddnpaaGreatDoor
end

section
namespace Go.Proofs.YtpdkbhjcpddnpaaGreatDoor
open Go.RowKit
attribute [local go_sem ↓] Go.wp_at_zero Go.wp_at_succ

theorem letter_cases (k : Int) : withinB k 0 2 = true ∧ (k = 0 ∧ letterV k = 121 ∨ k = 1 ∧ letterV k = 100 ∨ k = 2 ∧ letterV k = 122) ∨ withinB k 0 2 = false ∧ letterV k = 63 := by
  unfold letterV withinB
  by_cases h0 : k = 0
  · subst h0; exact .inl ⟨by decide, .inl ⟨rfl, rfl⟩⟩
  · by_cases h1 : k = 1
    · subst h1; exact .inl ⟨by decide, .inr (.inl ⟨rfl, rfl⟩)⟩
    · by_cases h2 : k = 2
      · subst h2; exact .inl ⟨by decide, .inr (.inr ⟨rfl, rfl⟩)⟩
      · refine .inr ⟨?_, by rw [if_neg h0, if_neg h1, if_neg h2]⟩
        simp only [Bool.and_eq_false_iff, decide_eq_false_iff_not]
        omega
theorem formatted_any (x : Wind) (ht : I64 x.turns) (hs : I64 x.shift) (w : World) (hS : StrIn w) (hP : PatIn w) :
    Calls Tryz.prog 72 #[.agg #[.int .i64 x.kind, .int .i64 x.turns, .int .i64 x.shift, .bool x.rev]] w fun e w' => e = .returned (.string ⟨(fmtW x).toArray⟩) ∧ Below w.heap.size w w' :=
  formatted_core x.kind x.turns x.shift x.rev (letterV x.kind) (if x.rev then 45 else 43) (letter_cases x.kind) (by cases x.rev; exact .inr ⟨rfl, rfl⟩; exact .inl ⟨rfl, rfl⟩) ht hs w hS hP
theorem fmtW_len (x : Wind) (ht : I64 x.turns) (hs : I64 x.shift) : (fmtW x).length ≤ 50 := by
  have h1 := itoa_len ht.1 ht.2
  have h2 := itoa_len hs.1 hs.2
  unfold fmtW
  simp
  omega
theorem join3 (X Y Z : List UInt8) (hX : X.length ≤ 50) (hY : Y.length ≤ 50) (hZ : Z.length ≤ 50) (w : World) :
    Calls Tryz.prog 71 #[.slice (some ⟨w.heap.size, 0, none⟩) 3 3, .string ⟨#[32]⟩] (w.alloc (.cells #[.string ⟨X.toArray⟩, .string ⟨Y.toArray⟩, .string ⟨Z.toArray⟩] 9)) fun e w' => e = .returned (.string ⟨(X ++ 32 :: (Y ++ 32 :: Z)).toArray⟩) ∧ Below (w.alloc (.cells #[.string ⟨X.toArray⟩, .string ⟨Y.toArray⟩, .string ⟨Z.toArray⟩] 9)).heap.size (w.alloc (.cells #[.string ⟨X.toArray⟩, .string ⟨Y.toArray⟩, .string ⟨Z.toArray⟩] 9)) w' := by
  have hj : Lib.join ([(⟨X.toArray⟩ : ByteArray), ⟨Y.toArray⟩, ⟨Z.toArray⟩].map (·.data.toList)) (⟨#[32]⟩ : ByteArray).data.toList = X ++ 32 :: (Y ++ 32 :: Z) := by
    simp [Lib.join]
  have B := Blk.new w 9 #[.string ⟨X.toArray⟩, .string ⟨Y.toArray⟩, .string ⟨Z.toArray⟩]
  have h := Tryz.strings_Join w.heap.size 0 3 [⟨X.toArray⟩, ⟨Y.toArray⟩, ⟨Z.toArray⟩] ⟨#[32]⟩ (w.alloc (.cells #[.string ⟨X.toArray⟩, .string ⟨Y.toArray⟩, .string ⟨Z.toArray⟩] 9)) (fun j x hx => by
    rcases j with _ | _ | _ | j
    · cases hx; exact B.cellAt 0 rfl
    · cases hx; exact B.cellAt 1 rfl
    · cases hx; exact B.cellAt 2 rfl
    · simp at hx) (by simp) (by simp) (by simp) (by rw [hj]; simp; omega)
  rw [hj] at h
  exact h

set_option maxHeartbeats 4000000 in
set_option maxRecDepth 100000 in
theorem FormatUnit_any (x y : Wind) (n : Int) (hx1 : I64 x.turns) (hx2 : I64 x.shift) (hy1 : I64 y.turns) (hy2 : I64 y.shift) (hn : I64 n) (w : World) (hS : StrIn w) (hP : PatIn w) :
    Calls Tryz.prog 30 #[.agg #[.int .i64 x.kind, .int .i64 x.turns, .int .i64 x.shift, .bool x.rev, .int .i64 y.kind, .int .i64 y.turns, .int .i64 y.shift, .bool y.rev, .int .i64 n]] w fun e w' => e = .returned (.string ⟨(fmtU x y n).toArray⟩) ∧ Below w.heap.size w w' := by
  have HS := Lib.hid (fun w' (h : Below w.heap.size w w') => hS.kept h)
  have HP := Lib.hid (fun w' (h : Below w.heap.size w w') => hP.below h)
  have HA := Lib.hid (fun w' hS' hP' => formatted_any x hx1 hx2 w' hS' hP')
  have HB := Lib.hid (fun w' hS' hP' => formatted_any y hy1 hy2 w' hS' hP')
  have HC := Lib.hid (fun w' hS' => itoa_wide n hn.1 hn.2 w' hS')
  have la := fmtW_len x hx1 hx2
  have lb := fmtW_len y hy1 hy2
  have lc := itoa_len hn.1 hn.2
  unfold fmtU
  generalize fmtW x = X at *
  generalize fmtW y = Y at *
  generalize Lib.itoa n = Z at *
  have HJ := Lib.hid (join3 X Y Z la lb (by omega))
  clear hS hP hx1 hx2 hy1 hy2 hn la lb lc
  go_enter Tryz.func30, Tryz.ntmps30
  go_wp2
  refine region_below 9 follows_mixed (by kernel_rfl) ?_
  intro C hC
  simp only [List.take_succ_cons, List.take_zero, List.drop_succ_cons, List.drop_zero]
  repeat (first
    | ((with_reducible refine quiet_plain rfl (fun K hK => ?_)); (focus (apply quiet_val; (focus (intro w' hw; obtain ⟨hcq, hfq⟩ := bcell ((hC.out _).1 hw); go_simp; (first | done | rfl | (with_reducible exact call_below hC hw (HA.out _ (HS.out _ (pt (pa pr) ((hC.out _).1 hw))) (HP.out _ (pt (pa pr) ((hC.out _).1 hw))))) | (with_reducible exact call_below hC hw (HB.out _ (HS.out _ (pt (pa pr) ((hC.out _).1 hw))) (HP.out _ (pt (pa pr) ((hC.out _).1 hw))))) | (with_reducible exact call_below hC hw (HC.out _ (HS.out _ (pt (pa pr) ((hC.out _).1 hw)))))))); (simp only [Act.put, List.setIfInBounds_toArray, List.set_cons_succ, List.set_cons_zero]); (with_reducible refine hK _ ?_); clear hK K)))
    | ((with_reducible refine quiet_skip ?_ ?_); (focus (first | (simp [Region.wanted, yielded]; done) | (simp [Region.wanted, yielded, undef]; done))); simp only [Act.put, List.setIfInBounds_toArray, List.set_cons_succ, List.set_cons_zero])
    | ((with_reducible refine quiet_go ?_ (fun K hK => ?_)); (focus (first | (simp [Region.wanted, yielded]; done) | (simp [Region.wanted, yielded, undef]; done))); (focus (apply quiet_val; (focus (intro w' hw; obtain ⟨hcq, hfq⟩ := bcell ((hC.out _).1 hw); go_simp; (first | done | rfl | (with_reducible exact call_below hC hw (HA.out _ (HS.out _ (pt (pa pr) ((hC.out _).1 hw))) (HP.out _ (pt (pa pr) ((hC.out _).1 hw))))) | (with_reducible exact call_below hC hw (HB.out _ (HS.out _ (pt (pa pr) ((hC.out _).1 hw))) (HP.out _ (pt (pa pr) ((hC.out _).1 hw))))) | (with_reducible exact call_below hC hw (HC.out _ (HS.out _ (pt (pa pr) ((hC.out _).1 hw)))))))); (simp only [Act.put, List.setIfInBounds_toArray, List.set_cons_succ, List.set_cons_zero]); (with_reducible refine hK _ ?_); clear hK K))))
  refine wpQuiet_nil ?_
  intro w1 hb1
  replace hb1 := (hC.out _).1 hb1
  clear hC C
  obtain ⟨hc1, hf1⟩ := bcell hb1
  go_wp2_with (go_at_call 71; (with_reducible refine (HJ.out _).mono ?_); rintro e w2 ⟨rfl, hB2⟩)
  go_ret
  exact ⟨rfl, pt (pa (pt (pa pr) hb1)) hB2⟩

end Go.Proofs.YtpdkbhjcpddnpaaGreatDoor
end
