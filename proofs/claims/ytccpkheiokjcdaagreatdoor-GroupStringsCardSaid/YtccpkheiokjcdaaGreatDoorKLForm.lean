/- Contracts: the string of a winding, of a unit. -/
import Derived.Test.YtccpkheiokjcdaaGreatDoorKHWind
import Derived.Test.YtccpkheiokjcdaaGreatDoorO5
import Derived.Test.YtccpkheiokjcdaaGreatDoorKLAdd
namespace Go.Proofs.YtccpkheiokjcdaaGreatDoor
open Go.RowKit
attribute [local go_sem ↓] Go.wp_at_zero Go.wp_at_succ

set_option maxHeartbeats 4000000 in
set_option maxRecDepth 100000 in
theorem formatted_core (k t s : Int) (r : Bool) (c d : UInt8) (hc : withinB k 0 2 = true ∧ (k = 0 ∧ c = 121 ∨ k = 1 ∧ c = 100 ∨ k = 2 ∧ c = 122) ∨ withinB k 0 2 = false ∧ c = 63) (hd : r = true ∧ d = 45 ∨ r = false ∧ d = 43) (ht : I64 t) (hs : I64 s) (w : World) (hS : StrIn w) (hP : PatIn w) :
    Calls Tryz.prog 17 #[.agg #[.int .i64 k, .int .i64 t, .int .i64 s, .bool r]] w fun e w' => e = .returned (.string ⟨(c :: d :: (Lib.itoa s ++ 47 :: Lib.itoa t)).toArray⟩) ∧ Below w.heap.size w w' := by
  have HS := Lib.hid (fun w' (h : Below w.heap.size w w') => hS.kept h)
  have HT := Lib.hid (fun w' hS' => itoa_wide t ht.1 ht.2 w' hS')
  have HU := Lib.hid (fun w' hS' => itoa_wide s hs.1 hs.2 w' hS')
  have lt := itoa_len ht.1 ht.2
  have ls := itoa_len hs.1 hs.2
  generalize Lib.itoa t = A at *
  generalize Lib.itoa s = B at *
  have hz : c :: d :: (B ++ 47 :: A) = ((([c] ++ [d]) ++ B) ++ [47]) ++ A := by simp
  rw [hz]
  have f1 := add_list [c] [d] (by simp)
  have f2 := add_list ([c] ++ [d]) B (by simp; omega)
  have f3 := add_list (([c] ++ [d]) ++ B) [47] (by simp; omega)
  have f4 := add_list ((([c] ++ [d]) ++ B) ++ [47]) A (by simp; omega)
  generalize ((([c] ++ [d]) ++ B) ++ [47]) ++ A = x4 at *
  generalize (([c] ++ [d]) ++ B) ++ [47] = x3 at *
  generalize ([c] ++ [d]) ++ B = x2 at *
  generalize [c] ++ [d] = x1 at *
  obtain ⟨c0, c1, c2, c3, c4, c5, c6, c7, c8, c9, c10, c11⟩ := pat_all hP
  have hgl := hP.1
  have hK := isKind_any k
  generalize withinB k 0 2 = o at *
  have HK := Lib.hid hK
  clear hz lt ls ht hs hP hS hK
  rcases hc with ⟨rfl, ⟨rfl, rfl⟩ | ⟨rfl, rfl⟩ | ⟨rfl, rfl⟩⟩ | ⟨rfl, rfl⟩ <;> rcases hd with ⟨rfl, rfl⟩ | ⟨rfl, rfl⟩
  all_goals
    go_enter Tryz.func17, Tryz.ntmps17
    go_wp2_with (go_at_call 36; (with_reducible refine (HK.out _).mono ?_); rintro e w' ⟨rfl, rfl⟩)
    clear c0 c1 c2 c3 c4 c5 c6 c7 c8 c9 c10 c11
    refine region_below 12 follows_mixed (by kernel_rfl) ?_
    intro C hC
    simp only [List.take_succ_cons, List.take_zero, List.drop_succ_cons, List.drop_zero]
    repeat (first
      | ((with_reducible refine quiet_plain rfl (fun K hK => ?_)); (focus (apply quiet_val; (focus (intro w' hw; obtain ⟨hcq, hfq⟩ := bcell ((hC.out _).1 hw); go_simp; (first | done | rfl | (with_reducible exact call_below hC hw (HT.out _ (HS.out _ (pt (pa pr) ((hC.out _).1 hw))))) | (with_reducible exact call_below hC hw (HU.out _ (HS.out _ (pt (pa pr) ((hC.out _).1 hw)))))))); (simp only [Act.put, List.setIfInBounds_toArray, List.set_cons_succ, List.set_cons_zero]); (with_reducible refine hK _ ?_); clear hK K)))
      | ((with_reducible refine quiet_skip ?_ ?_); (focus (first | (simp [Region.wanted, yielded]; done) | (simp [Region.wanted, yielded, undef]; done))); simp only [Act.put, List.setIfInBounds_toArray, List.set_cons_succ, List.set_cons_zero])
      | ((with_reducible refine quiet_go ?_ (fun K hK => ?_)); (focus (first | (simp [Region.wanted, yielded]; done) | (simp [Region.wanted, yielded, undef]; done))); (focus (apply quiet_val; (focus (intro w' hw; obtain ⟨hcq, hfq⟩ := bcell ((hC.out _).1 hw); go_simp; (first | done | rfl | (with_reducible exact call_below hC hw (HT.out _ (HS.out _ (pt (pa pr) ((hC.out _).1 hw))))) | (with_reducible exact call_below hC hw (HU.out _ (HS.out _ (pt (pa pr) ((hC.out _).1 hw)))))))); (simp only [Act.put, List.setIfInBounds_toArray, List.set_cons_succ, List.set_cons_zero]); (with_reducible refine hK _ ?_); clear hK K))))
    refine wpQuiet_nil ?_
    intro w1 hb1
    replace hb1 := (hC.out _).1 hb1
    clear hC C
    obtain ⟨hc1, hf1⟩ := bcell hb1
    go_wp2
    go_ret
    exact ⟨rfl, pt (pa pr) hb1⟩

end Go.Proofs.YtccpkheiokjcdaaGreatDoor
