/- Contract: the number of all stacks that overlap (works.StacksOf). -/
import Derived.Test.YtlgioldmjohhlaaHStack
namespace Go.Proofs.Ytlgioldmjohhlaa
open Go.RowKit Go.Shelf
attribute [local go_sem] Oper.semAt_some

theorem heap_setCell_far {w : World} {p : Addr} {u : Value} {k : Nat} (h : p.block < k) : (w.setCell p u).heap[k]? = w.heap[k]? := by
  have : k ≠ p.block := by omega
  simp [World.setCell, Array.getElem?_modify, Ne.symm this]

theorem stacksUpto_length {count : Nat} {overlap : Int} {d M : Nat} (h : ∀ xs, (stacksV count overlap d xs).length ≤ M) (xs : List Int) : ∀ k, (stacksUpto count overlap d xs k).length ≤ k * M
  | 0 => by simp [stacksUpto]
  | k + 1 => by
    rw [stacksUpto_succ, List.length_append, Nat.succ_mul]
    have h1 := stacksUpto_length h xs k
    have h2 : (if hasB xs (k : Int) || nearB xs overlap k then [] else stacksV count overlap d (xs ++ [(k : Int)])).length ≤ M := by
      split
      · exact Nat.zero_le _
      · exact h _
    omega
theorem stacksV_length (count : Nat) (overlap : Int) : ∀ (d : Nat) (xs : List Int), (stacksV count overlap d xs).length ≤ count ^ d
  | 0, xs => by
    simp only [stacksV]
    split <;> simp
  | d + 1, xs => by
    have h := stacksUpto_length (stacksV_length count overlap d) xs count
    rw [Nat.pow_succ, Nat.mul_comm]
    exact h
theorem stacksV_few {count : Nat} (overlap : Int) (h : count ≤ 8) (d : Nat) (hd : d ≤ 8) (xs : List Int) : (stacksV count overlap d xs).length ≤ 16777216 := by
  refine Nat.le_trans (stacksV_length count overlap d xs) (Nat.le_trans (Nat.pow_le_pow_left h d) ?_)
  exact Nat.le_trans (Nat.pow_le_pow_right (by omega) hd) (by decide)

set_option maxRecDepth 100000 in
set_option maxHeartbeats 2000000 in
theorem stacksOf_in (n count : Nat) (overlap : Int) (w : World) (h1 : 1 ≤ n) (h0 : stackE count overlap = 0) (hcount : count ≤ 8) :
    CallsIn Fence.wide n Try.prog 26 #[.int .i64 (count : Int), .int .i64 overlap] w fun e w' =>
      e = .returned (.tuple #[.int .i64 ((stacksV count overlap count []).length : Int), .int .i64 0]) ∧ Below w.heap.size w w' := by
  have h00 : stackE (count : Int) overlap = 0 := h0
  have hlen := stacksV_few overlap hcount count hcount []
  clear h0
  refine callsIn_of_wp_marks Try.func26 rfl trivial ?_ rfl
  simp only [Try.ntmps26, List.size_toArray, List.length_cons, List.length_nil, Nat.reduceAdd, Nat.reduceSub, Array.replicate_succ, Array.replicate_zero, List.push_toArray, List.append_toArray, List.nil_append, List.cons_append]
  gi_wp2_with (first | (refine ⟨trivial, ?_⟩; gi_at_call 85; refine (callsIn_wide.2 (stackErr_any _ _ _)).mono ?_; rintro e w1 ⟨rfl, rfl⟩) | (refine ⟨trivial, ?_⟩; gi_at_call 91; refine (callsIn_wide.2 (stacks_any _ _ _)).mono ?_; rintro e w1 ⟨rfl, rfl⟩))
  have r0 : Blk (((w.alloc (.cells #[.int .i64 0] 3)).alloc (.cells #[.int .i64 (count : Int)] 3)).alloc (.cells #[.int .i64 overlap] 3)) w.heap.size 3 #[.int .i64 ((([] : List Stk).length : Nat) : Int)] := ((Blk.newAt rfl).alloc).alloc
  have r2 : Blk (((w.alloc (.cells #[.int .i64 0] 3)).alloc (.cells #[.int .i64 (count : Int)] 3)).alloc (.cells #[.int .i64 overlap] 3)) (w.heap.size + 1) 3 #[.int .i64 (count : Int)] := (Blk.newAt (by simp)).alloc
  have r3 : Blk (((w.alloc (.cells #[.int .i64 0] 3)).alloc (.cells #[.int .i64 (count : Int)] 3)).alloc (.cells #[.int .i64 overlap] 3)) (w.heap.size + 1 + 1) 3 #[.int .i64 overlap] := Blk.newAt (by simp)
  have hb : Below w.heap.size w (((w.alloc (.cells #[.int .i64 0] 3)).alloc (.cells #[.int .i64 (count : Int)] 3)).alloc (.cells #[.int .i64 overlap] 3)) := pa (pa (pa pr))
  generalize (((w.alloc (.cells #[.int .i64 0] 3)).alloc (.cells #[.int .i64 (count : Int)] 3)).alloc (.cells #[.int .i64 overlap] 3)) = W0 at *
  have hsz : w.heap.size + 1 + 1 < W0.heap.size := r3.lt
  refine rangeFunc_law h1 (gf := 134) (fb := #[]) (lb := #[.pointer (some ⟨w.heap.size + 1, 0, none⟩), .pointer (some ⟨w.heap.size + 1 + 1, 0, none⟩)]) rfl (enters_of Try.func134 (by kernel_rfl) rfl)
    (stacks_seq (n - 1) count overlap hcount (w.heap.size + 1) (w.heap.size + 1 + 1) W0 (by omega) (by omega) (r2.cellAt 0 rfl) (r3.cellAt 0 rfl)) (Below.refl _ _)
    (fun h k => h.trans k) (fun W A l o o' hl hl2 ho hc => ⟨by simp, fun k hk _ => World.putObj_heap_other (by omega)⟩)
    (fun x A l o o' ho hc hp => ⟨own_ints (β := Unit) 0 W0.heap.size x.1.1 x.2 () A _ (some l) hp.1 (grownBy_putObj' A l o') (fun r e => by cases e; exact ⟨Nat.zero_le _, o, ho, hc⟩), hp.2⟩) (fun x => rfl)
    (fun pre W => Blk W w.heap.size 3 #[.int .i64 ((pre.length : Nat) : Int)] ∧ Below w.heap.size w W)
    (fun _ _ _ => False)
    (fun s A B row hs hg hr => ⟨own_blk _ _ _ _ s A B row hs.1 hg hr, ownFrom_below (Nat.le_refl _) hb.size s A B row hs.2 hg hr⟩)
    (fun _ _ _ _ _ hs _ _ => hs)
    ⟨r0, hb⟩
    (fun x => { tmps := #[.int .i64 (count : Int), .int .i64 overlap, undef, undef, .int .i64 0, .int .i64 0, .int .i64 0, .pointer (some ⟨w.heap.size, 0, none⟩), .int .i64 (count : Int), .int .i64 overlap, .int .i64 0, .int .i64 0, .bool false, undef, .int .i64 (count : Int), .int .i64 overlap,
      .func (.func 134) #[] #[.pointer (some ⟨w.heap.size + 1, 0, none⟩), .pointer (some ⟨w.heap.size + 1 + 1, 0, none⟩)], .slice x.1.1 count x.1.2, undef, undef, undef], defers := [] }) ?assign ?body ?done ?stop
  case assign =>
    intro l x W K hK
    unfold stackEnc
    gi_wp2
    simpa using hK
  case body =>
    rintro l pre x Wb W hWb ⟨q0, hq⟩ ⟨hp1, hp2, hp3⟩ hlt
    have c0 := q0.cellAt 0 rfl
    have f0 := q0.frozen 0
    have hl : pre.length < 16777216 := Nat.lt_of_lt_of_le hlt hlen
    clear hlen hlt
    gi_wp2
    refine ⟨(KeepsOthers.setCell _ _ _).from _, ⟨by simp, fun k hk _ => heap_setCell_far (by dsimp only; omega)⟩, ?_, ps hq (by dsimp only; omega)⟩
    have e : ((pre.length : Nat) : Int) + 1 = (((pre ++ [x]).length : Nat) : Int) := by simp
    rw [← e]
    simpa using q0.set_ 0 (.int .i64 (((pre.length : Nat) : Int) + 1))
  case done =>
    rintro D xs W hD hS ⟨q0, hq⟩ hK
    have c0 := q0.cellAt 0 rfl
    have f0 := q0.frozen 0
    have hl : xs.length = (stacksV count overlap count []).length := by rw [← hS]; simp
    have HL := Lib.hid hl
    clear hl hS hlen
    gi_wp2
    refine ⟨by simp, .inl ⟨_, _, rfl, run_takeDeferred hK, ?_⟩⟩
    refine ⟨.tuple #[.int .i64 ((xs.length : Nat) : Int), .int .i64 0], by simp [results, Try.results26, go_sem], ?_⟩
    rw [HL.out]
    exact ⟨rfl, hq.trans ⟨rfl, rfl, rfl, by simp, fun k hk => World.putObj_heap_other (by omega)⟩⟩
  case stop =>
    rintro D c pre W hD hSp hf hK
    exact hf.elim

end Go.Proofs.Ytlgioldmjohhlaa
