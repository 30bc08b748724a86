/- Contracts: math/bits.Mul at 1 and a small number.
Contract: slices.Repeat of one number. -/
import Derived.Test.YtapegimghfflhaaM4
import Derived.Laws.Bits64b
import Derived.Test.YtapegimghfflhaaMc
import Derived.Test.YtapegimghfflhaaMf
import Derived.Laws.CopyOwn

section
namespace Go.Proofs.Ytapegimghfflhaa
open Go.RowKit

set_option maxHeartbeats 4000000 in
set_option maxRecDepth 100000 in
theorem mul64_one (y : Nat) (hy : y ≤ 100000) (w : World) : Calls Try.prog 74 #[.int .u64 1, .int .u64 (y : Int)] w fun e w' => e = .returned (.tuple #[.int .u64 0, .int .u64 (y : Int)]) ∧ w = w' := by
  have a1 : bits .and .u64 1 4294967295 = 1 := by decide
  have a2 : bits .and .u64 (y : Int) 4294967295 = (y : Int) := by
    have h := bits_and_u64_nat y 4294967295 (by omega) (by decide)
    rw [show ((4294967295 : Nat) : Int) = 4294967295 from rfl] at h
    rw [h, show (4294967295 : Nat) = 2 ^ 32 - 1 from rfl, Nat.and_two_pow_sub_one_of_lt_two_pow (by omega)]
  have a3 : bits .and .u64 0 4294967295 = 0 := by decide
  have a4 : (y : Int) / 4294967296 = 0 := Int.ediv_eq_zero_of_lt (by omega) (by omega)
  have a5 : IntKind.u64.wrap (y : Int) = (y : Int) := by
    show ((y : Int) % 18446744073709551616) = _
    omega
  go_enter Try.func74, Try.ntmps74
  go_wp2
  go_ret2
  exact ⟨rfl, rfl⟩
set_option maxHeartbeats 4000000 in
set_option maxRecDepth 100000 in
theorem mul_one_ (y : Nat) (hy : y ≤ 100000) (w : World) : Calls Try.prog 71 #[.int .u64 1, .int .u64 (y : Int)] w fun e w' => e = .returned (.tuple #[.int .u64 0, .int .u64 (y : Int)]) ∧ w = w' := by
  have HM := Lib.hid (mul64_one y hy)
  go_enter Try.func71, Try.ntmps71
  go_wp2_with (go_at_call 74; refine (HM.out _).mono ?_; rintro e w' ⟨rfl, hw'⟩; subst hw')
  go_ret2
  exact ⟨rfl, rfl⟩

end Go.Proofs.Ytapegimghfflhaa
end

section
namespace Go.Proofs.Ytapegimghfflhaa
open Go.RowKit Go.Shelf

/-- So many numbers x, then zeros. -/
def fillL (x : Int) (n k : Nat) : List Int := List.replicate k x ++ List.replicate (n - k) 0
theorem int_size : (Try.prog.info? 3).map (·.size) = some 1 := by kernel_rfl
def iarrL (l : List Int) : Array Value := (l.map (Value.int .i64)).toArray
theorem fill_map (x : Int) (n k : Nat) : (iarrL (fillL x n k)).toList = List.replicate k (Value.int .i64 x) ++ List.replicate (n - k) (Value.int .i64 0) := by
  simp [iarrL, fillL]
theorem fill_len (x : Int) {n k : Nat} (h : k ≤ n) : (fillL x n k).length = n := by
  simp [fillL]; omega
theorem fill_cur (x : Int) {n k m : Nat} (_h : k + m ≤ n) : ((iarrL (fillL x n k)).toList.take k ++ List.replicate m (Value.int .i64 x) ++ (iarrL (fillL x n k)).toList.drop (k + m)).toArray = iarrL (fillL x n (k + m)) := by
  have h1 : (iarrL (fillL x n k)).toList.take k = List.replicate k (Value.int .i64 x) := by
    rw [fill_map, List.take_left' (by simp)]
  have h2 : (iarrL (fillL x n k)).toList.drop (k + m) = List.replicate (n - (k + m)) (Value.int .i64 0) := by
    rw [fill_map, List.drop_append]
    simp
    omega
  rw [h1, h2, List.replicate_append_replicate]
  have h3 := fill_map x n (k + m)
  rw [← h3]
/-- A copy of what is filled into what is not. -/
theorem copy_fill {x : Int} {n k g b off m dc sl sc : Nat} {W : World} (hB : IntBlk W g (fillL x n k)) (hk : k ≤ n) (hm : m = min sl (n - k)) (hs : ∀ j, j < m → W.cell? ⟨b, off + j, none⟩ = some (.int .i64 x)) :
    (Builtin.copy_ #[42, 42] 3 #[.slice (some ⟨g, k, none⟩) (n - k) dc, .slice (some ⟨b, off, none⟩) sl sc]).run Try.prog W = .ok (.int .i64 (m : Int)) (W.setRow g (iarrL (fillL x n (k + m)))) := by
  have h := run_copy_row (P := Try.prog) W 42 42 3 3 g k (n - k) dc ⟨b, off, none⟩ sl sc (iarrL (fillL x n k)) 3 (List.replicate m (Value.int .i64 x)) Try.underlying42 int_size hB (by rw [List.length_replicate]; exact hm)
    (fun j v hj => by
      rw [List.getElem?_replicate] at hj
      split at hj
      · rename_i h1
        cases hj
        rw [show (⟨b, off, none⟩ : Addr).add j = ⟨b, off + j, none⟩ by unfold Addr.add; split <;> simp_all]
        exact hs j h1
      · cases hj) (by rw [List.length_replicate]; have := fill_len x hk; simp only [iarrL, List.size_toArray, List.length_map]; omega) (fun v hv => by rw [List.eq_of_mem_replicate hv]; rfl)
  rw [List.length_replicate, fill_cur x (by omega)] at h
  exact h
theorem fill_set {x : Int} {n k k2 g : Nat} {W : World} (hB : IntBlk W g (fillL x n k)) : IntBlk (W.setRow g (iarrL (fillL x n k2))) g (fillL x n k2) := setRow_heap W g _ _ _ _ hB
theorem fill_cell {x : Int} {n k g j : Nat} {W : World} (hB : IntBlk W g (fillL x n k)) (hj : j < k) (hk : k ≤ n) : W.cell? ⟨g, 0 + j, none⟩ = some (.int .i64 x) := by
  have h := hB.cell (j := j) (by rw [fill_len x hk]; omega)
  have e : (fillL x n k).getD j 0 = x := by simp [fillL, List.getD, List.getElem?_append_left, hj]
  rw [e] at h
  rw [Nat.zero_add]
  exact h

section
attribute [local go_sem] ints_made
set_option maxRecDepth 100000 in
set_option maxHeartbeats 4000000 in
theorem repeat_any (B : Nat) (x : Int) (A : Option Addr) (c n : Nat) (w : World) (hr : IntsIn B w A [x]) (hB : B ≤ w.heap.size) (h1 : 1 ≤ n) (hn : n ≤ 1000) :
    Calls Try.prog 64 #[.slice A 1 c, .int .i64 (n : Int)] w fun e w' => ∃ g, e = .returned (.slice (some ⟨g, 0, none⟩) n n) ∧ IntBlk w' g (List.replicate n x) ∧ w.heap.size ≤ g ∧ Below w.heap.size w w' := by
  have HR := Lib.hid hr
  have HM := Lib.hid (mul_one_ n (by omega))
  have a5 : IntKind.u64.wrap (n : Int) = (n : Int) := by
    show ((n : Int) % 18446744073709551616) = _
    omega
  obtain ⟨b, off, rfl, hb, hc⟩ := hr.at_ (k := 0) (by simp)
  have hc0 : w.cell? ⟨b, off, none⟩ = some (.int .i64 x) := hc 0 (by simp)
  have hZ : fillL x n 0 = List.replicate n 0 := by simp [fillL]
  have hB0 : IntBlk (w.alloc (.cells (Array.replicate n (Value.int .i64 0)) 3)) w.heap.size (fillL x n 0) := by
    unfold IntBlk
    rw [hZ, ints_zero]
    exact Blk.newAt rfl
  have hc1 : (w.alloc (.cells (Array.replicate n (Value.int .i64 0)) 3)).cell? ⟨b, off, none⟩ = some (.int .i64 x) := (World.cell?_of_block ((pa pr : Below w.heap.size w (w.alloc (.cells (Array.replicate n (Value.int .i64 0)) 3))).block b (by omega))).trans hc0
  have hcp := copy_fill (dc := n) (sl := 1) (sc := c) (b := b) (off := off) (m := 1) hB0 (Nat.zero_le _) (by omega) (fun j hj => by
    obtain rfl : j = 0 := by omega
    exact hc1)
  rw [Nat.sub_zero, Nat.zero_add] at hcp
  have HB0 := Lib.hid hB0
  clear hB0 hc hc0 hc1 hZ
  have a6 : ¬ (n : Int) < 0 := by omega
  have a7 : ¬ (9223372036854775807 : Int) < (n : Int) := by omega
  have a8 : IntKind.i64.wrap (n : Int) = (n : Int) := IntWalk.i64_in _ (by omega)
  clear hr
  go_enter Try.func64, Try.ntmps64
  go_wp2_with (go_at_call 71; refine (HM.out _).mono ?_; rintro e w' ⟨rfl, hw'⟩; subst hw')
  have HI := Lib.hid (show IntBlk ((w.alloc (.cells (Array.replicate n (Value.int .i64 0)) 3)).setRow w.heap.size (iarrL (fillL x n 1))) w.heap.size (fillL x n 1) from fill_set HB0.out)
  have HQ := Lib.hid (show Below w.heap.size w ((w.alloc (.cells (Array.replicate n (Value.int .i64 0)) 3)).setRow w.heap.size (iarrL (fillL x n 1))) from below_setRow (pa pr) (Nat.le_refl _) _)
  generalize (w.alloc (.cells (Array.replicate n (Value.int .i64 0)) 3)).setRow w.heap.size (iarrL (fillL x n 1)) = v at *
  clear hcp HB0 HR
  go_loopw [8] (fun iv wr => ∃ k : Nat, iv = .int .i64 (k : Int) ∧ 1 ≤ k ∧ k ≤ n ∧ IntBlk wr w.heap.size (fillL x n k) ∧ Below w.heap.size w wr) (fun iv _ => n - (intOf iv).toNat)
  case atStart => exact ⟨1, rfl, Nat.le_refl _, h1, HI.out, HQ.out⟩
  case round =>
    clear HI HQ
    obtain ⟨k, rfl, hk1, hk, hI, hq⟩ := hrel
    have HI := Lib.hid hI
    have HQ := Lib.hid hq
    clear hI hq
    by_cases hlt : k < n
    · obtain ⟨m, hm⟩ : ∃ m, m = min k (n - k) := ⟨_, rfl⟩
      have hnk : ¬ n = k := by omega
      have k0 : (0 : Int) ≤ (k : Int) := by omega
      have k1 : (k : Int) ≤ (n : Int) := by omega
      have HMm := Lib.hid hm
      clear hm
      go_wp2
      refine wp_region_G 9 follows_mixed (fun _ => True) trivial ?_
      intro hSd inv
      clear hSd
      refine wpAnyG_take (i := 0) (v := ?_) rfl (by kernel_rfl) (by kernel_rfl) (by kernel_rfl) (by kernel_rfl) (by kernel_rfl) (by decide) (by decide) inv (fun _ _ _ h => h) (Or.inl ⟨by rfl, ?_⟩) trivial ?_; rotate_left; (focus (intro W y1; clear y1; go_simp; (first | done | with_reducible rfl))); clear inv; intro inv; simp only [List.getElem_toArray, List.getElem_cons_zero, Act.put, List.setIfInBounds_toArray, List.set_cons_zero, List.set_cons_succ]
      refine wpAnyG_take (i := 1) (v := ?_) rfl (by kernel_rfl) (by kernel_rfl) (by kernel_rfl) (by kernel_rfl) (by kernel_rfl) (by decide) (by decide) inv (fun _ _ _ h => h) (Or.inl ⟨by rfl, ?_⟩) trivial ?_; rotate_left; (focus (intro W y1; clear y1; go_simp; (first | done | with_reducible rfl))); clear inv; intro inv; simp only [List.getElem_toArray, List.getElem_cons_zero, List.getElem_cons_succ, Act.put, List.setIfInBounds_toArray, List.set_cons_zero, List.set_cons_succ]
      refine wpAnyG_take (i := 2) (v := ?_) rfl (by kernel_rfl) (by kernel_rfl) (by kernel_rfl) (by kernel_rfl) (by kernel_rfl) (by decide) (by decide) inv (fun _ _ _ h => h) (Or.inl ⟨by rfl, ?_⟩) trivial ?_; rotate_left; (focus (intro W y1; clear y1; go_simp; (first | done | with_reducible rfl))); clear inv; intro inv; simp only [List.getElem_toArray, List.getElem_cons_zero, List.getElem_cons_succ, Act.put, List.setIfInBounds_toArray, List.set_cons_zero, List.set_cons_succ]
      refine wpAnyG_take (i := 3) (v := ?_) rfl (by kernel_rfl) (by kernel_rfl) (by kernel_rfl) (by kernel_rfl) (by kernel_rfl) (by decide) (by decide) inv (fun _ _ _ h => h) (Or.inl ⟨by rfl, ?_⟩) trivial ?_; rotate_left; (focus (intro W y1; clear y1; go_simp; (first | done | with_reducible rfl))); clear inv; intro inv; simp only [List.getElem_toArray, List.getElem_cons_zero, List.getElem_cons_succ, Act.put, List.setIfInBounds_toArray, List.set_cons_zero, List.set_cons_succ]
      refine wpAnyG_take (i := 4) (v := ?_) rfl (by kernel_rfl) (by kernel_rfl) (by kernel_rfl) (by kernel_rfl) (by kernel_rfl) (by decide) (by decide) inv (fun _ _ _ h => h) (Or.inl ⟨by rfl, ?_⟩) trivial ?_; rotate_left; (focus (intro W y1; clear y1; go_simp; (first | done | with_reducible rfl))); clear inv; intro inv; simp only [List.getElem_toArray, List.getElem_cons_zero, List.getElem_cons_succ, Act.put, List.setIfInBounds_toArray, List.set_cons_zero, List.set_cons_succ]
      refine wpAnyG_take (i := 5) (v := ?_) rfl (by kernel_rfl) (by kernel_rfl) (by kernel_rfl) (by kernel_rfl) (by kernel_rfl) (by decide) (by decide) inv (fun _ _ _ h => h) (Or.inl ⟨by rfl, ?_⟩) trivial ?_; rotate_left; (focus (intro W y1; clear y1; go_simp; (first | done | with_reducible rfl))); clear inv; intro inv; simp only [List.getElem_toArray, List.getElem_cons_zero, List.getElem_cons_succ, Act.put, List.setIfInBounds_toArray, List.set_cons_zero, List.set_cons_succ]
      refine wpAnyG_take (i := 6) (v := ?_) rfl (by kernel_rfl) (by kernel_rfl) (by kernel_rfl) (by kernel_rfl) (by kernel_rfl) (by decide) (by decide) inv (fun _ _ _ h => h) (Or.inl ⟨by rfl, ?_⟩) trivial ?_; rotate_left; (focus (intro W y1; clear y1; go_simp; (first | done | with_reducible rfl))); clear inv; intro inv; simp only [List.getElem_toArray, List.getElem_cons_zero, List.getElem_cons_succ, Act.put, List.setIfInBounds_toArray, List.set_cons_zero, List.set_cons_succ]
      clear inv
      have HI2 := Lib.hid (show IntBlk wr.drew w.heap.size (fillL x n k) from Blk.past HI.out (pd pr))
      have HQ2 := Lib.hid (show Below w.heap.size w wr.drew from pt HQ.out (pd pr))
      generalize wr.drew = wd at *
      have hcp := copy_fill (dc := n - k) (sl := k) (sc := n) (b := w.heap.size) (off := 0) (m := m) HI2.out hk HMm.out (fun j hj => fill_cell HI2.out (by have := HMm.out; omega) hk)
      refine wpAnyG_one (i := 7) (by kernel_rfl) rfl rfl fun K hK => ?_
      go_simp
      refine hK.out _ _ (fun _ => trivial) ?_
      clear hK K
      have HI3 := Lib.hid (show IntBlk (wd.setRow w.heap.size (iarrL (fillL x n (k + m)))) w.heap.size (fillL x n (k + m)) from fill_set HI2.out)
      have HQ3 := Lib.hid (show Below w.heap.size w (wd.setRow w.heap.size (iarrL (fillL x n (k + m)))) from below_setRow HQ2.out (Nat.le_refl _) _)
      generalize wd.setRow w.heap.size (iarrL (fillL x n (k + m))) = we at *
      clear hcp
      have m1 : 1 ≤ m ∧ k + m ≤ n := by have := HMm.out; omega
      have a9 : IntKind.i64.wrap ((k : Int) + (m : Int)) = (k : Int) + (m : Int) := IntWalk.i64_in _ (by omega)
      refine wpAnyG_one (i := 8) (by kernel_rfl) rfl rfl fun K hK => ?_
      go_simp
      refine hK.out _ _ (fun _ => trivial) ?_
      clear hK K
      refine wpAnyG_one (i := 9) (by kernel_rfl) rfl rfl fun K hK => ?_
      go_simp
      refine hK.out _ _ (fun h => absurd h (by decide)) ?_
      clear hK K
      refine wpAnyG_done (by kernel_rfl) ?_
      go_wp2
      go_roundw
      case rel => exact ⟨k + m, by push_cast; rfl, by omega, m1.2, HI3.out, HQ3.out⟩
      case measure => simp [intOf]; omega
    · have hkn : k = n := by omega
      subst hkn
      go_wp2
      go_ret
      exact ⟨_, rfl, by have h := HI.out; rwa [show fillL x k k = List.replicate k x by simp [fillL]] at h, Nat.le_refl _, HQ.out⟩
end

end Go.Proofs.Ytapegimghfflhaa
end
