/- Contracts: the specification's strings of a winding and of a unit. -/
import Derived.Test.YtccpkheiokjcdaaGreatDoorKMForm
namespace Go.Proofs.YtccpkheiokjcdaaGreatDoor
open Go.RowKit
attribute [local go_sem ↓] Go.wp_at_zero Go.wp_at_succ

theorem lettersS_any (w : World) : Calls Tryz.prog 55 #[] w fun e w' => e = .returned (.string ⟨#[121, 100, 122]⟩) ∧ w = w' := by
  go_enter Tryz.func55, Tryz.ntmps55
  go_wp2
  go_ret
  exact ⟨rfl, rfl⟩

set_option maxHeartbeats 4000000 in
set_option maxRecDepth 100000 in
theorem refWinding_core (k t s : Int) (r : Bool) (c d : UInt8) (hc : withinB k 0 2 = true ∧ (k = 0 ∧ c = 121 ∨ k = 1 ∧ c = 100 ∨ k = 2 ∧ c = 122) ∨ withinB k 0 2 = false ∧ c = 63) (hd : r = true ∧ d = 45 ∨ r = false ∧ d = 43) (ht : I64 t) (hs : I64 s) (w : World) :
    Calls Tryz.prog 26 #[.agg #[.int .i64 k, .int .i64 t, .int .i64 s, .bool r]] w fun e w' => e = .returned (.string ⟨(c :: d :: (Lib.itoa s ++ 47 :: Lib.itoa t)).toArray⟩) ∧ Below w.heap.size w w' := by
  have HT := Lib.hid (fun w' => refDecimal_any t ht.1 ht.2 w')
  have HU := Lib.hid (fun w' => refDecimal_any s hs.1 hs.2 w')
  have lt := itoa_len ht.1 ht.2
  have ls := itoa_len hs.1 hs.2
  generalize Lib.itoa t = A at *
  generalize Lib.itoa s = B at *
  have hz : c :: d :: (B ++ 47 :: A) = ((([c] ++ [d]) ++ B) ++ [47]) ++ A := by simp
  rw [hz]
  have f1 := add_list [c] [d] (by simp)
  have f2 := add_list ([c] ++ [d]) B (by simp; omega)
  have f3 := add_list (([c] ++ [d]) ++ B) [47] (by simp; omega)
  have f4 := add_list ((([c] ++ [d]) ++ B) ++ [47]) A (by simp; omega)
  generalize ((([c] ++ [d]) ++ B) ++ [47]) ++ A = x4 at *
  generalize (([c] ++ [d]) ++ B) ++ [47] = x3 at *
  generalize ([c] ++ [d]) ++ B = x2 at *
  generalize [c] ++ [d] = x1 at *
  have e0 : (⟨#[121, 100, 122]⟩ : ByteArray).extract 0 1 = ⟨#[121]⟩ := by rfl
  have e1 : (⟨#[121, 100, 122]⟩ : ByteArray).extract 1 2 = ⟨#[100]⟩ := by rfl
  have e2 : (⟨#[121, 100, 122]⟩ : ByteArray).extract 2 3 = ⟨#[122]⟩ := by rfl
  have u1 : IntKind.i64.wrap 1 = 1 := IntWalk.i64_in _ (by omega)
  have u2 : IntKind.i64.wrap 2 = 2 := IntWalk.i64_in _ (by decide)
  have u3 : IntKind.i64.wrap 3 = 3 := IntWalk.i64_in _ (by decide)
  have HK := Lib.hid (refWithin_any k 0 2)
  have HL := Lib.hid lettersS_any
  generalize withinB k 0 2 = o at *
  clear hz lt ls ht hs
  rcases hc with ⟨rfl, ⟨rfl, rfl⟩ | ⟨rfl, rfl⟩ | ⟨rfl, rfl⟩⟩ | ⟨rfl, rfl⟩ <;> rcases hd with ⟨rfl, rfl⟩ | ⟨rfl, rfl⟩
  case inl.inl.inl | inl.inl.inr | inl.inr.inl.inl | inl.inr.inl.inr | inl.inr.inr.inl | inl.inr.inr.inr =>
    go_enter Tryz.func26, Tryz.ntmps26
    go_wp2_with (go_at_call 29; (with_reducible refine (HK.out _).mono ?_); rintro e w' ⟨rfl, rfl⟩)
    refine region_below 7 follows_mixed (by kernel_rfl) ?_
    intro C hC
    simp only [List.take_succ_cons, List.take_zero, List.drop_succ_cons, List.drop_zero]
    repeat (first
      | ((with_reducible refine quiet_plain rfl (fun K hK => ?_)); (focus (apply quiet_val; (focus (intro w' hw; obtain ⟨hcq, hfq⟩ := bcell ((hC.out _).1 hw); go_simp; (first | done | rfl | (with_reducible exact call_same hw (HL.out _))))); (simp only [Act.put, List.setIfInBounds_toArray, List.set_cons_succ, List.set_cons_zero]); (with_reducible refine hK _ ?_); clear hK K)))
      | ((with_reducible refine quiet_skip ?_ ?_); (focus (first | (simp [Region.wanted, yielded]; done) | (simp [Region.wanted, yielded, undef]; done))); simp only [Act.put, List.setIfInBounds_toArray, List.set_cons_succ, List.set_cons_zero])
      | ((with_reducible refine quiet_go ?_ (fun K hK => ?_)); (focus (first | (simp [Region.wanted, yielded]; done) | (simp [Region.wanted, yielded, undef]; done))); (focus (apply quiet_val; (focus (intro w' hw; obtain ⟨hcq, hfq⟩ := bcell ((hC.out _).1 hw); go_simp; (first | done | rfl | (with_reducible exact call_same hw (HL.out _))))); (simp only [Act.put, List.setIfInBounds_toArray, List.set_cons_succ, List.set_cons_zero]); (with_reducible refine hK _ ?_); clear hK K))))
    refine wpQuiet_nil ?_
    intro w1 hb1
    replace hb1 := (hC.out _).1 hb1
    clear hC C
    obtain ⟨hc1, hf1⟩ := bcell hb1
    have q1 : Blk w1 w.heap.size 23 #[.int .i64 _, .int .i64 t, .int .i64 s, .bool _] := (Blk.newAt rfl).past hb1
    have q10 := q1.cellAt 0 rfl
    have q11 := q1.cellAt 1 rfl
    have q12 := q1.cellAt 2 rfl
    have q13 := q1.cellAt 3 rfl
    have ql := q1.lt
    have S1 := Lib.hid (pt (pa pr) hb1)
    clear hb1 hc1 hf1 q1
    obtain ⟨wa, rfl⟩ : ∃ v, v = w1 := ⟨_, rfl⟩
    go_wp2
    refine region_below 10 follows_mixed (by kernel_rfl) ?_
    intro C hC
    simp only [List.take_succ_cons, List.take_zero, List.drop_succ_cons, List.drop_zero]
    repeat (first
      | ((with_reducible refine quiet_plain rfl (fun K hK => ?_)); (focus (apply quiet_val; (focus (intro w' hw; obtain ⟨hcq, hfq⟩ := bcell ((hC.out _).1 hw); go_simp; (first | done | rfl | (with_reducible exact call_below hC hw (HT.out _)) | (with_reducible exact call_below hC hw (HU.out _))))); (simp only [Act.put, List.setIfInBounds_toArray, List.set_cons_succ, List.set_cons_zero]); (with_reducible refine hK _ ?_); clear hK K)))
      | ((with_reducible refine quiet_skip ?_ ?_); (focus (first | (simp [Region.wanted, yielded]; done) | (simp [Region.wanted, yielded, undef]; done))); simp only [Act.put, List.setIfInBounds_toArray, List.set_cons_succ, List.set_cons_zero])
      | ((with_reducible refine quiet_go ?_ (fun K hK => ?_)); (focus (first | (simp [Region.wanted, yielded]; done) | (simp [Region.wanted, yielded, undef]; done))); (focus (apply quiet_val; (focus (intro w' hw; obtain ⟨hcq, hfq⟩ := bcell ((hC.out _).1 hw); go_simp; (first | done | rfl | (with_reducible exact call_below hC hw (HT.out _)) | (with_reducible exact call_below hC hw (HU.out _))))); (simp only [Act.put, List.setIfInBounds_toArray, List.set_cons_succ, List.set_cons_zero]); (with_reducible refine hK _ ?_); clear hK K))))
    refine wpQuiet_nil ?_
    intro w1 hb1
    replace hb1 := (hC.out _).1 hb1
    clear hC C
    obtain ⟨hc1, hf1⟩ := bcell hb1
    go_wp2
    go_ret
    exact ⟨rfl, pt S1.out hb1⟩
  all_goals
    go_enter Tryz.func26, Tryz.ntmps26
    go_wp2_with (go_at_call 29; (with_reducible refine (HK.out _).mono ?_); rintro e w' ⟨rfl, rfl⟩)
    refine region_below 10 follows_mixed (by kernel_rfl) ?_
    intro C hC
    simp only [List.take_succ_cons, List.take_zero, List.drop_succ_cons, List.drop_zero]
    repeat (first
      | ((with_reducible refine quiet_plain rfl (fun K hK => ?_)); (focus (apply quiet_val; (focus (intro w' hw; obtain ⟨hcq, hfq⟩ := bcell ((hC.out _).1 hw); go_simp; (first | done | rfl | (with_reducible exact call_below hC hw (HT.out _)) | (with_reducible exact call_below hC hw (HU.out _))))); (simp only [Act.put, List.setIfInBounds_toArray, List.set_cons_succ, List.set_cons_zero]); (with_reducible refine hK _ ?_); clear hK K)))
      | ((with_reducible refine quiet_skip ?_ ?_); (focus (first | (simp [Region.wanted, yielded]; done) | (simp [Region.wanted, yielded, undef]; done))); simp only [Act.put, List.setIfInBounds_toArray, List.set_cons_succ, List.set_cons_zero])
      | ((with_reducible refine quiet_go ?_ (fun K hK => ?_)); (focus (first | (simp [Region.wanted, yielded]; done) | (simp [Region.wanted, yielded, undef]; done))); (focus (apply quiet_val; (focus (intro w' hw; obtain ⟨hcq, hfq⟩ := bcell ((hC.out _).1 hw); go_simp; (first | done | rfl | (with_reducible exact call_below hC hw (HT.out _)) | (with_reducible exact call_below hC hw (HU.out _))))); (simp only [Act.put, List.setIfInBounds_toArray, List.set_cons_succ, List.set_cons_zero]); (with_reducible refine hK _ ?_); clear hK K))))
    refine wpQuiet_nil ?_
    intro w1 hb1
    replace hb1 := (hC.out _).1 hb1
    clear hC C
    obtain ⟨hc1, hf1⟩ := bcell hb1
    go_wp2
    go_ret
    exact ⟨rfl, pt (pa pr) hb1⟩

end Go.Proofs.YtccpkheiokjcdaaGreatDoor
