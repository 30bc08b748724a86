/- Contract: the turns of all discs (package design). Printed by a program (gen_d3disc.py). -/
import Derived.Test.YtncbigkkmgnkmaaGreatDoorOe7
import Derived.Test.YtncbigkkmgnkmaaGreatDoorOe9

section
namespace Go.Proofs.YtncbigkkmgnkmaaGreatDoor
open Go.RowKit Go.Shelf

/-- Of n discs the first i have one turn more. -/
def discK (q : Int) (n i : Nat) : List Int := (List.range n).map fun j => q + (if j < i then 1 else 0)
theorem discK_len (q : Int) (n i : Nat) : (discK q n i).length = n := by simp [discK]
theorem discK_at {q : Int} {n i j : Nat} (h : j < n) : (discK q n i).getD j 0 = q + (if j < i then 1 else 0) := by simp [discK, List.getD, h]
theorem discK_zero (q : Int) (n : Nat) : List.replicate n q = discK q n 0 := by
  refine list_of (by rw [discK_len, List.length_replicate]) fun j hj => ?_
  rw [List.length_replicate] at hj
  rw [discK_at hj]
  simp [List.getD, hj]
theorem discK_set {q : Int} {n i : Nat} (h : i < n) : (discK q n i).set i (q + 1) = discK q n (i + 1) := by
  refine list_of (by rw [List.length_set, discK_len, discK_len]) fun j hj => ?_
  rw [List.length_set, discK_len] at hj
  rw [set_getD (by rw [discK_len]; exact h), discK_at hj, discK_at hj]
  split
  · rename_i e; subst e; simp
  · split <;> split <;> omega
theorem discK_all {t : Int} {n r : Nat} (hr : (r : Int) = t % (n : Int)) : discK (t / (n : Int)) n r = discsL t (n : Int) n := by
  unfold discK discsL discV
  refine List.map_congr_left fun j _ => ?_
  rw [← hr]
  by_cases h : j < r
  · rw [if_pos h, if_pos (by omega)]
  · rw [if_neg h, if_neg (by omega)]

theorem lit1_ints (w : World) (t : TypeId) (a : Int) : IntsIn (w.alloc (.cells #[.int .i64 a] t)).heap.size (w.alloc (.cells #[.int .i64 a] t)) (some ⟨w.heap.size, 0, none⟩) [a] := by
  have X := Blk.new w t #[.int .i64 a]
  refine .inr ⟨w.heap.size, 0, rfl, by simp, fun j hj => ?_⟩
  obtain rfl : j = 0 := by simp at hj; omega
  exact X.cellAt 0 rfl
set_option maxRecDepth 100000 in
set_option maxHeartbeats 8000000 in
theorem discsOf_any (t cd g : Int) (n : Nat) (w : World) (h0 : windE t (n : Int) cd g = 0) :
    Calls Tryz.prog 35 #[.agg #[.int .i64 t, .int .i64 (n : Int), .int .i64 cd, .int .i64 g]] w fun e w' => ∃ b, e = .returned (.tuple #[.slice (some ⟨b, 0, none⟩) n n, .int .i64 0]) ∧ IntBlk w' b (discsL t (n : Int) n) ∧ w.heap.size ≤ b ∧ Below w.heap.size w w' := by
  have hok := windE_ok h0
  have HE := Lib.hid (fun W => windingErr_any t (n : Int) cd g W)
  rw [h0] at HE
  have hn1 : 1 ≤ n := by omega
  have hn5 : n ≤ 500 := by omega
  have hq : t.tdiv (n : Int) = t / (n : Int) := Int.tdiv_eq_ediv_of_nonneg (by omega)
  have hr : t.tmod (n : Int) = t % (n : Int) := Int.tmod_eq_emod_of_nonneg (by omega)
  have hq0 : 0 ≤ t / (n : Int) := Int.ediv_nonneg (by omega) (by omega)
  have hq1 : t / (n : Int) ≤ 10000 := by
    have := Int.ediv_le_self (a := t) (n : Int) (by omega)
    omega
  have hr0 := Int.emod_nonneg t (b := (n : Int)) (by omega)
  have hr1 := Int.emod_lt_of_pos t (b := (n : Int)) (by omega)
  obtain ⟨r, hrr⟩ : ∃ r : Nat, (r : Int) = t % (n : Int) := ⟨(t % (n : Int)).toNat, by omega⟩
  have HAll := Lib.hid (discK_all hrr)
  rw [← hrr] at hr hr0 hr1
  have hnz : ¬ (n : Int) = 0 := by omega
  have hnz2 : ((n : Int) == 0) = false := by simpa using hnz
  have ht := hok.1
  have hnn : ¬ n = 0 := by omega
  clear h0 hok hrr
  generalize t / (n : Int) = q at *
  generalize discsL t (n : Int) n = L at *
  have hqw : IntKind.i64.wrap q = q := IntWalk.i64_in _ (by omega)
  have hrw : IntKind.i64.wrap (r : Int) = (r : Int) := IntWalk.i64_in _ (by omega)
  go_enter Tryz.func35, Tryz.ntmps35
  go_wp2_with (go_at_call 69; refine (HE.out _).mono ?_; rintro e w1 ⟨rfl, hb1⟩; have HB1 := Lib.hid (pt (pa pr) hb1); have R1 := Lib.hid ((show Blk (w.alloc (.cells #[.int .i64 t, .int .i64 (n : Int), .int .i64 cd, .int .i64 g] 71)) w.heap.size 71 #[.int .i64 t, .int .i64 (n : Int), .int .i64 cd, .int .i64 g] from Blk.newAt rfl).past hb1); clear hb1)
  have HSS := Lib.hid (show ∀ W, Below w1.heap.size w1 W → W.cell? ⟨w.heap.size, 0, none⟩ = some (.int .i64 t) ∧ W.cell? ⟨w.heap.size, 1, none⟩ = some (.int .i64 (n : Int)) from fun W hW => ⟨(R1.out.past hW).cellAt 0 rfl, (R1.out.past hW).cellAt 1 rfl⟩)
  refine wp_region_G 9 follows_mixed (fun W => W.cell? ⟨w.heap.size, 0, none⟩ = some (.int .i64 t) ∧ W.cell? ⟨w.heap.size, 1, none⟩ = some (.int .i64 (n : Int))) (HSS.out _ (pd pr)) ?_
  intro hSd inv
  have HSd := Lib.hid hSd
  clear hSd
  refine wpAnyG_take (i := 0) (v := ?_) rfl (by kernel_rfl) (by kernel_rfl) (by kernel_rfl) (by kernel_rfl) (by kernel_rfl) (by decide) (by decide) inv (fun _ _ _ h => h) (Or.inl ⟨by rfl, ?_⟩) HSd.out ?_; rotate_left; (focus (intro W y1; obtain ⟨y1, y2⟩ := y1; go_simp; (first | done | with_reducible rfl))); clear inv; intro inv; simp only [List.getElem_toArray, List.getElem_cons_zero, Act.put, List.setIfInBounds_toArray, List.set_cons_zero, List.set_cons_succ]
  refine wpAnyG_take (i := 1) (v := ?_) rfl (by kernel_rfl) (by kernel_rfl) (by kernel_rfl) (by kernel_rfl) (by kernel_rfl) (by decide) (by decide) inv (fun _ _ _ h => h) (Or.inl ⟨by rfl, ?_⟩) HSd.out ?_; rotate_left; (focus (intro W y1; obtain ⟨y1, y2⟩ := y1; go_simp; (first | done | with_reducible rfl))); clear inv; intro inv; simp only [List.getElem_toArray, List.getElem_cons_zero, List.getElem_cons_succ, Act.put, List.setIfInBounds_toArray, List.set_cons_zero, List.set_cons_succ]
  refine wpAnyG_take (i := 2) (v := ?_) rfl (by kernel_rfl) (by kernel_rfl) (by kernel_rfl) (by kernel_rfl) (by kernel_rfl) (by decide) (by decide) inv (fun _ _ _ h => h) (Or.inl ⟨by rfl, ?_⟩) HSd.out ?_; rotate_left; (focus (intro W y1; obtain ⟨y1, y2⟩ := y1; go_simp; (first | done | with_reducible rfl))); clear inv; intro inv; simp only [List.getElem_toArray, List.getElem_cons_zero, List.getElem_cons_succ, Act.put, List.setIfInBounds_toArray, List.set_cons_zero, List.set_cons_succ]
  refine wpAnyG_take (i := 3) (v := ?_) rfl (by kernel_rfl) (by kernel_rfl) (by kernel_rfl) (by kernel_rfl) (by kernel_rfl) (by decide) (by decide) inv (fun _ _ _ h => h) (Or.inl ⟨by rfl, ?_⟩) HSd.out ?_; rotate_left; (focus (intro W y1; obtain ⟨y1, y2⟩ := y1; go_simp; (first | done | with_reducible rfl))); clear inv; intro inv; simp only [List.getElem_toArray, List.getElem_cons_zero, List.getElem_cons_succ, Act.put, List.setIfInBounds_toArray, List.set_cons_zero, List.set_cons_succ]
  refine wpAnyG_take (i := 4) (v := ?_) rfl (by kernel_rfl) (by kernel_rfl) (by kernel_rfl) (by kernel_rfl) (by kernel_rfl) (by decide) (by decide) inv (fun _ _ _ h => h) (Or.inl ⟨by rfl, ?_⟩) HSd.out ?_; rotate_left; (focus (intro W y1; obtain ⟨y1, y2⟩ := y1; go_simp; (first | done | with_reducible rfl))); clear inv; intro inv; simp only [List.getElem_toArray, List.getElem_cons_zero, List.getElem_cons_succ, Act.put, List.setIfInBounds_toArray, List.set_cons_zero, List.set_cons_succ]
  refine wpAnyG_take (i := 6) (v := ?_) rfl (by kernel_rfl) (by kernel_rfl) (by kernel_rfl) (by kernel_rfl) (by kernel_rfl) (by decide) (by decide) inv (fun _ _ _ h => h) (Or.inl ⟨by rfl, ?_⟩) HSd.out ?_; rotate_left; (focus (intro W y1; obtain ⟨y1, y2⟩ := y1; go_simp; (first | done | with_reducible rfl))); clear inv; intro inv; simp only [List.getElem_toArray, List.getElem_cons_zero, List.getElem_cons_succ, Act.put, List.setIfInBounds_toArray, List.set_cons_zero, List.set_cons_succ]
  refine wpAnyG_take (i := 7) (v := ?_) rfl (by kernel_rfl) (by kernel_rfl) (by kernel_rfl) (by kernel_rfl) (by kernel_rfl) (by decide) (by decide) inv (fun _ _ _ h => h) (Or.inl ⟨by rfl, ?_⟩) HSd.out ?_; rotate_left; (focus (intro W y1; obtain ⟨y1, y2⟩ := y1; go_simp; (first | done | with_reducible rfl))); clear inv; intro inv; simp only [List.getElem_toArray, List.getElem_cons_zero, List.getElem_cons_succ, Act.put, List.setIfInBounds_toArray, List.set_cons_zero, List.set_cons_succ]
  clear inv
  refine wpAnyG_one (i := 5) (by kernel_rfl) rfl rfl fun K hK => ?_
  go_simp
  have HIn := Lib.hid ((lit1_ints w1 3 q).below (pd pr))
  have HBv := Lib.hid (show Below w1.heap.size w1 (w1.alloc (.cells #[.int .i64 q] 3)).drew from pd (pa pr))
  have HSz := Lib.hid (show (w1.alloc (.cells #[.int .i64 q] 3)).heap.size ≤ (w1.alloc (.cells #[.int .i64 q] 3)).drew.heap.size from (pd pr : Below _ _ _).size)
  refine hK.out _ _ (fun _ => HSS.out _ HBv.out) ?_
  clear hK K
  refine wpAnyG_one (i := 8) (by kernel_rfl) rfl rfl fun K hK => ?_
  go_simp
  refine (repeat_any _ q _ 1 n _ HIn.out HSz.out hn1 (by omega)).mono ?_
  rintro e w3 ⟨gb, rfl, hI, hgl, hb3⟩
  have HB3 := Lib.hid (pt HBv.out hb3)
  have HI := Lib.hid hI
  have hgw : w.heap.size < gb := by have := R1.out.lt; have := HBv.out.size; omega
  refine hK.out _ _ (fun _ => HSS.out _ HB3.out) ?_
  clear hK K hb3 hI hgl HIn HBv HSz
  refine wpAnyG_one (i := 9) (by kernel_rfl) rfl rfl fun K hK => ?_
  go_simp
  refine hK.out _ _ (fun h => absurd h (by decide)) ?_
  clear hK K
  refine wpAnyG_done (by kernel_rfl) ?_
  have R3 := Lib.hid (R1.out.past HB3.out)
  have HQ := Lib.hid (pt HB1.out HB3.out)
  clear HSS HSd R1 HB1 HB3
  have x0 := R3.out.cellAt 0 rfl
  have x1 := R3.out.cellAt 1 rfl
  have xl := R3.out.lt
  rw [discK_zero] at HI
  go_wp2
  go_loopw [26] (fun iv wr => ∃ i : Nat, iv = .int .i64 (i : Int) ∧ i ≤ r ∧ IntBlk wr gb (discK q n i) ∧ Below w.heap.size w wr) (fun iv _ => r - (intOf iv).toNat)
  case atStart => exact ⟨0, rfl, Nat.zero_le _, HI.out, HQ.out⟩
  case round =>
    clear HI HQ R3 x0 x1 xl
    obtain ⟨i, rfl, hi, hI, hq9⟩ := hrel
    have HI := Lib.hid hI
    have HQ := Lib.hid hq9
    clear hI hq9
    by_cases hlt : i < r
    · have hin : i < n := by omega
      have c1 := HI.out.cell (j := i) (by rw [discK_len]; exact hin)
      rw [discK_at hin, if_neg (Nat.lt_irrefl _), Int.add_zero] at c1
      have hf1 := Blk.frozen HI.out i
      have hgl := Blk.lt HI.out
      have i0 : (0 : Int) ≤ (i : Int) := by omega
      have i1 : (i : Int) < (n : Int) := by omega
      have i2 : (i : Int) < (r : Int) := by omega
      have a9 : IntKind.i64.wrap (q + 1) = q + 1 := IntWalk.i64_in _ (by omega)
      have HI2 := HI.out.set i (q + 1)
      rw [discK_set hin] at HI2
      have HI3 := Lib.hid HI2
      clear HI2
      go_wp2
      go_roundw
      case rel => exact ⟨i + 1, by go_num, by omega, HI3.out, ps HQ.out (by dsimp only; omega)⟩
      case measure => simp [intOf]; omega
    · have hir : i = r := by omega
      subst hir
      rw [HAll.out] at HI
      go_wp2
      go_ret2
      exact ⟨gb, rfl, HI.out, Nat.le_of_lt hgw, HQ.out⟩

end Go.Proofs.YtncbigkkmgnkmaaGreatDoor
end
