/- Contract: the iterator over all ascending sets of so many numbers (package design). -/
import Derived.Test.YtnfbdkdjoekifaaGreatDoorOc7
import Derived.Test.YtnfbdkdjoekifaaGreatDoorOd1
import Derived.Test.YtnfbdkdjoekifaaGreatDoorOa2
import Derived.Test.YtnfbdkdjoekifaaGreatDoorOd2
import Derived.Laws.MakeOwn
import Derived.Deep.LoopGhost

section
namespace Go.Proofs.YtnfbdkdjoekifaaGreatDoor
open Go.RowKit Go.Shelf
attribute [local go_sem] Oper.semAt_some undef

section
variable {β : Type} {B : Nat} {G : Nat → Prop} {J : β → World → Prop} {s : β} {W W' : World}
theorem abG_past (hJ : AbidesG B G J) (h : J s W) (hb : Below W.heap.size W W') : J s W' :=
  hJ s W W' none h ⟨hb.os, hb.tape, hb.output, hb.size, fun i hi _ => hb.block i hi⟩ (fun r e => by cases e)
theorem grownBy_set (W : World) (g o : Nat) (v : Value) : W.grownBy (W.setCell ⟨g, o, none⟩ v) (some g) := ⟨rfl, rfl, rfl, by simp, fun i _ hne => Below.heap_setCell W _ _ i (fun e => hne (by rw [e]))⟩
theorem abG_set (hJ : AbidesG B G J) {g : Nat} (hg : G g) (h : J s W) (o : Nat) (v : Value) : J s (W.setCell ⟨g, o, none⟩ v) :=
  hJ s W _ (some g) h (grownBy_set W g o v) (fun r e => by cases e; exact .inl hg)
end
/-- What a round keeps for the iterator: its own blocks, and those of S. -/
structure KeepG (S G : Nat → Prop) (A A' : World) : Prop where
  size : A.heap.size ≤ A'.heap.size
  mine : ∀ k, G k → A'.heap[k]? = A.heap[k]?
  own : ∀ k, S k → A'.heap[k]? = A.heap[k]?
theorem KeepG.trans {S G : Nat → Prop} {A B C : World} (h : KeepG S G A B) (k : KeepG S G B C) : KeepG S G A C := ⟨Nat.le_trans h.size k.size, fun i hi => (k.mine i hi).trans (h.mine i hi), fun i hi => (k.own i hi).trans (h.own i hi)⟩
theorem KeepG.put {S G : Nat → Prop} {A : World} {l : Nat} (o' : Obj) (hS : ∀ k, S k → k ≠ l) (hG : ∀ k, G k → k ≠ l) : KeepG S G A (A.putObj l o') :=
  ⟨by simp, fun k hk => World.putObj_heap_other (hG k hk), fun k hk => World.putObj_heap_other (hS k hk)⟩
theorem KeepG.of_below {S G : Nat → Prop} {A A' : World} (h : Below A.heap.size A A') (hS : ∀ k, S k → k < A.heap.size) (hG : ∀ k, G k → k < A.heap.size) : KeepG S G A A' := ⟨h.size, fun k hk => h.block k (hG k hk), fun k hk => h.block k (hS k hk)⟩
/-- What holds of what a round is handed: a slice of n numbers in a block from B on; the iterator's own blocks are there. -/
def RowPG (L : List (List Int)) (B n : Nat) (G : Nat → Prop) (x : RowI) (W : World) : Prop := RowPr B n x W ∧ (∀ k, G k → k < W.heap.size) ∧ x.2 ∈ L
theorem RowPG.put {L : List (List Int)} {B n : Nat} {G : Nat → Prop} {x : RowI} {A : World} {l : Nat} {o : Obj} (o' : Obj) (h : RowPG L B n G x A) (ho : A.heap[l]? = some o) (hc : o.isCells = false) : RowPG L B n G x (A.putObj l o') := ⟨h.1.put o' ho hc, (fun k hk => by have := h.2.1 k hk; simpa using this), h.2.2⟩

theorem ints_zero (n : Nat) : ((List.replicate n (0 : Int)).map (Value.int .i64)).toArray = Array.replicate n (Value.int .i64 0) := by
  rw [List.map_replicate, List.toArray_replicate]
theorem ints_made (n : Nat) (h : n ≤ 1000) (W : World) : (Instr.makeSlice 32 (.int .i64 (n : Int)) (.int .i64 (n : Int))).run Tryz.prog W = .ok (.slice (some ⟨W.heap.size, 0, none⟩) n n) (W.alloc (.cells (Array.replicate n (Value.int .i64 0)) 3)) := by
  obtain ⟨i, hi, hz⟩ := Option.map_eq_some_iff.1 int_info
  simp only [Prod.mk.injEq] at hz
  obtain ⟨z1, z2, z3⟩ := hz
  have hr := run_make (P := Tryz.prog) W 32 3 i _ Tryz.underlying32 hi z1 .i64 .i64 n n (by omega) (Int.le_refl _) (by rw [show i.bytes = 8 from z3]; omega) (by omega)
  simp only [Int.toNat_natCast, z2] at hr
  have e : madeCells (Value.int .i64 0).cells (n * 1) = Array.replicate n (Value.int .i64 0) := by
    unfold madeCells
    apply Array.ext
    · simp
    · intro j h1 h2
      simp [Value.cells, Nat.mod_one]
  rw [e] at hr
  exact hr
theorem subsets_any (N count : Int) (w : World) :
    Calls Tryz.prog 38 #[.int .i64 N, .int .i64 count] w fun e w' =>
      e = .returned (.func (.func 63) #[] #[.pointer (some ⟨w.heap.size + 1, 0, none⟩), .pointer (some ⟨w.heap.size, 0, none⟩)]) ∧ w' = (w.alloc (.cells #[.int .i64 N] 3)).alloc (.cells #[.int .i64 count] 3) := by
  go_enter Tryz.func38, Tryz.ntmps38
  go_wp2
  go_ret
  exact ⟨rfl, rfl⟩

theorem asc_bd {n : Nat} : ∀ {l : List Int} {lo : Int}, AscS n lo l → ∀ j, j < l.length → lo ≤ l.getD j 0 ∧ l.getD j 0 < (n : Int)
  | [], _, _, j, hj => by simp at hj
  | x :: l, lo, h, 0, _ => ⟨h.1, h.2.1⟩
  | x :: l, lo, h, j + 1, hj => by
    have := asc_bd h.2.2 j (by simpa using hj)
    have h1 := h.1
    rw [List.getD_cons_succ]
    omega
theorem asc_lt {n : Nat} : ∀ {l : List Int} {lo : Int}, AscS n lo l → ∀ j, j + 1 < l.length → l.getD j 0 < l.getD (j + 1) 0
  | [], _, _, j, hj => by simp at hj
  | [x], _, _, j, hj => by simp at hj
  | x :: y :: l, _, h, 0, _ => by
    have := h.2.2.1
    rw [List.getD_cons_succ, List.getD_cons_zero, List.getD_cons_zero]
    omega
  | x :: y :: l, _, h, j + 1, hj => by
    rw [List.getD_cons_succ, List.getD_cons_succ]
    exact asc_lt h.2.2 j (by simpa using hj)
theorem list_of {xs ys : List Int} (hl : xs.length = ys.length) (h : ∀ j, j < xs.length → xs.getD j 0 = ys.getD j 0) : xs = ys := by
  refine List.ext_getElem hl fun j h1 h2 => ?_
  have := h j h1
  simpa [List.getD, h1, h2] using this
theorem set_getD {xs : List Int} {i j : Nat} {v : Int} (hi : i < xs.length) : (xs.set i v).getD j 0 = if i = j then v else xs.getD j 0 := by
  simp only [List.getD_eq_getElem?_getD, List.getElem?_set]
  split <;> simp_all
/-- What comes behind a set. -/
theorem subs_last {N count idx : Nat} (h : idx < (allS N count 0).length) (hm : ∀ j, j < count → ((allS N count 0).getD idx []).getD j 0 = (N : Int) - count + j) : idx + 1 = (allS N count 0).length := by
  rcases Nat.lt_or_ge (idx + 1) (allS N count 0).length with h1 | h1
  · have h2 := (allS_steps (n := N) count 0).at_ h1
    have hl := allS_mem_length (show (allS N count 0).getD idx [] ∈ allS N count 0 by simp [List.getD, h])
    rw [nextS_none (n := N) (l := (allS N count 0).getD idx []) (fun j hj => by rw [hl]; exact hm j (by omega))] at h2
    cases h2
  · omega
theorem subs_next {N count idx i : Nat} (h : idx < (allS N count 0).length) (hi : i < count) (hm : ∀ j, i < j → j < count → ((allS N count 0).getD idx []).getD j 0 = (N : Int) - count + j) (hlt : ((allS N count 0).getD idx []).getD i 0 < (N : Int) - count + i) :
    idx + 1 < (allS N count 0).length ∧ ∀ j, j < count → ((allS N count 0).getD (idx + 1) []).getD j 0 = if j < i then ((allS N count 0).getD idx []).getD j 0 else ((allS N count 0).getD idx []).getD i 0 + 1 + ((j : Int) - i) := by
  have hl := allS_mem_length (show (allS N count 0).getD idx [] ∈ allS N count 0 by simp [List.getD, h])
  have hn := nextS_some (n := N) (l := (allS N count 0).getD idx []) (i := i) (by omega) (fun j h1 h2 => by rw [hl]; exact hm j h1 (by omega)) (by rw [hl]; exact hlt)
  have h1 : idx + 1 < (allS N count 0).length := by
    rcases Nat.lt_or_ge (idx + 1) (allS N count 0).length with h1 | h1
    · exact h1
    · have := (allS_steps (n := N) count 0).last (i := idx) (by omega)
      rw [hn] at this
      cases this
  refine ⟨h1, fun j hj => ?_⟩
  have h2 := (allS_steps (n := N) count 0).at_ h1
  rw [hn] at h2
  injection h2 with h2
  rw [← h2, hl]
  generalize (allS N count 0).getD idx [] = xs at *
  have ht : (xs.take i).length = i := by rw [List.length_take]; omega
  by_cases hji : j < i
  · rw [if_pos hji]
    simp [List.getD_eq_getElem?_getD, List.getElem?_append_left (show j < (xs.take i).length by omega), hji]
  · rw [if_neg hji]
    have e : (xs.take i ++ upS (xs.getD i 0 + 1) (count - i)).getD j 0 = (upS (xs.getD i 0 + 1) (count - i)).getD (j - i) 0 := by
      simp only [List.getD_eq_getElem?_getD]
      rw [List.getElem?_append_right (by omega), ht]
    rw [e, upS_get (by omega)]
    omega

/-- What holds of the memory of the iterator. -/
structure SubW (J : List RowI → World → Prop) (g b1 b2 : Nat) (count N : Nat) (p : List RowI) (xs : List Int) (wr : World) : Prop where
  x : IntBlk wr g xs
  j : J p wr
  c1 : Blk wr b1 3 #[.int .i64 (count : Int)]
  c2 : Blk wr b2 3 #[.int .i64 (N : Int)]
section
variable {J : List RowI → World → Prop} {g b1 b2 B count N : Nat} {p : List RowI} {xs : List Int} {wr w1 : World}
theorem SubW.past (h : SubW J g b1 b2 count N p xs wr) (hJ : AbidesG B (· = g) J) (hb : Below wr.heap.size wr w1) : SubW J g b1 b2 count N p xs w1 := ⟨Blk.past h.x hb, abG_past hJ h.j hb, h.c1.past hb, h.c2.past hb⟩
theorem SubW.set (h : SubW J g b1 b2 count N p xs wr) (hJ : AbidesG B (· = g) J) (h1 : b1 ≠ g) (h2 : b2 ≠ g) (k : Nat) (v : Int) : SubW J g b1 b2 count N p (xs.set k v) (wr.setCell ⟨g, k, none⟩ (.int .i64 v)) :=
  ⟨h.x.set k v, abG_set hJ rfl h.j k (.int .i64 v), h.c1.far (p := ⟨g, k, none⟩) (u := .int .i64 v) h1, h.c2.far (p := ⟨g, k, none⟩) (u := .int .i64 v) h2⟩
theorem SubW.keep {B0 b : Nat} {q : List RowI} (h : SubW J g b1 b2 count N p xs wr) (hk : KeepG (fun k => B0 ≤ k ∧ k < b) (· = g) wr w1) (h1 : B0 ≤ b1 ∧ b1 < b) (h2 : B0 ≤ b2 ∧ b2 < b) (hj : J q w1) : SubW J g b1 b2 count N q xs w1 :=
  ⟨(hk.mine g rfl).trans h.x, hj, (hk.own b1 h1).trans h.c1, (hk.own b2 h2).trans h.c2⟩
end
/-- Between two rounds: m sets at most are still to come. -/
def SubsSt (L : List (List Int)) (J : List RowI → World → Prop) (g b1 b2 count N m : Nat) (wr : World) : Prop :=
  ∃ (idx : Nat) (p : List RowI), m + idx = L.length ∧ idx < L.length ∧ p.map (·.2) = L.take idx ∧ SubW J g b1 b2 count N p (L.getD idx []) wr
theorem take_one {α : Type} {L : List α} {i : Nat} {d : α} (h : i < L.length) : L.take (i + 1) = L.take i ++ [L.getD i d] := by
  rw [List.take_add_one, List.getElem?_eq_getElem h]
  simp [List.getD, h]

section
attribute [local go_sem] ints_made
set_option maxRecDepth 100000 in
set_option maxHeartbeats 8000000 in
theorem subsets_seq (n count N : Nat) (hc : 1 ≤ count) (hcN : count ≤ 1000) (hN : N ≤ 1000) (b1 b2 B0 : Nat) (w0 : World) (h1 : b1 < w0.heap.size) (h2 : b2 < w0.heap.size) (g1 : B0 ≤ b1) (g2 : B0 ≤ b2) (c1 : Blk w0 b1 3 #[.int .i64 (count : Int)]) (c2 : Blk w0 b2 3 #[.int .i64 (N : Int)]) :
    SeqG n Tryz.prog 63 #[] #[.pointer (some ⟨b1, 0, none⟩), .pointer (some ⟨b2, 0, none⟩)] (rowEnc count) (RowPG (allS N count 0) w0.heap.size count) (fun G _ => KeepG (fun k => B0 ≤ k ∧ k < w0.heap.size) G)
      (fun xs => xs.map (·.2) = allS N count 0) (fun pre => pre ≠ [] ∧ pre.map (·.2) <+: allS N count 0) (allS N count 0).length w0 := by
  intro l J Jx W hW hJ hJx hY h0
  obtain ⟨g, hg⟩ : ∃ g, g = W.heap.size := ⟨_, rfl⟩
  have hG : ∀ k, k = g → W.heap.size ≤ k := fun k hk => by omega
  have hb1g : b1 ≠ g := by have := hW.size; omega
  have hb2g : b2 ≠ g := by have := hW.size; omega
  have hgB : w0.heap.size ≤ g := by rw [hg]; exact hW.size
  have HG := Lib.hid (show ∀ k, k = g → W.heap.size ≤ k from hG)
  have HY := Lib.hid (hY (· = g) hG)
  have HJ := Lib.hid (hJ (· = g) hG)
  have H0 := Lib.hid (h0 (· = g) hG)
  have C1 := Lib.hid (c1.past hW)
  have C2 := Lib.hid (c2.past hW)
  have HB1 := Lib.hid (show (B0 ≤ b1 ∧ b1 < w0.heap.size) ∧ B0 ≤ b2 ∧ b2 < w0.heap.size from ⟨⟨g1, h1⟩, g2, h2⟩)
  have d1 := C1.out.cellAt 0 rfl
  have d2 := C2.out.cellAt 0 rfl
  clear hY hJ hJx h0 hG g1 g2 c1 c2
  refine callsIn_of_wp Tryz.func63 rfl trivial ?_ rfl
  simp only [undef, Tryz.ntmps63, List.size_toArray, List.length_cons, List.length_nil, Nat.reduceAdd, Nat.reduceSub, Array.replicate_succ, Array.replicate_zero, List.push_toArray, List.append_toArray, List.nil_append, List.cons_append]
  gi_wp2
  have HS0 := Lib.hid (show ∃ xs : List Int, xs.length = count ∧ (∀ j, j < 0 → xs.getD j 0 = (j : Int)) ∧ SubW (J (· = g)) g b1 b2 count N [] xs (W.alloc (.cells (Array.replicate count (Value.int .i64 0)) 3)) from
    ⟨List.replicate count 0, by simp, fun j hj => absurd hj (Nat.not_lt_zero _), by rw [hg]; unfold IntBlk; rw [ints_zero]; exact Blk.newAt rfl, abG_past HJ.out H0.out (pa pr), C1.out.alloc, C2.out.alloc⟩)
  rw [← hg]
  generalize W.alloc (.cells (Array.replicate count (Value.int .i64 0)) 3) = v at *
  clear C1 C2 d1 d2 H0 hg
  gi_loopw [12] (fun ix wr => ∃ (k : Nat) (xs : List Int), ix = .int .i64 (k : Int) ∧ k ≤ count ∧ xs.length = count ∧ (∀ j, j < k → xs.getD j 0 = (j : Int)) ∧ SubW (J (· = g)) g b1 b2 count N [] xs wr) (fun ix _ => count - (intOf ix).toNat)
  case atStart =>
    obtain ⟨xs, q1, q2, q3⟩ := HS0.out
    exact ⟨0, xs, rfl, Nat.zero_le _, q1, q2, q3⟩
  case round =>
    clear HS0
    obtain ⟨k, xs, rfl, hk, hl, hv, hx⟩ := hrel
    have HL := Lib.hid hl
    have HV := Lib.hid hv
    have HX := Lib.hid hx
    clear hl hv hx
    by_cases hlt : k < count
    · have hc1 := HX.out.x.cell (j := k) (by rw [HL.out]; exact hlt)
      have hf1 := Blk.frozen HX.out.x k
      have hgl := Blk.lt HX.out.x
      gi_wp2
      have HX2 := Lib.hid (HX.out.set HJ.out hb1g hb2g k (k : Int))
      go_roundw
      case rel => exact ⟨k + 1, xs.set k (k : Int), by go_num, by omega, by rw [List.length_set]; exact HL.out, (fun j hj => by
        rw [set_getD (by rw [HL.out]; exact hlt)]
        split
        · rename_i h; rw [h]
        · exact HV.out j (by omega)), HX2.out⟩
      case measure => simp [intOf]; omega
    · have hxs : xs = upS 0 count := list_of (by rw [HL.out, upS_length]) fun j hj => by rw [HL.out] at hj; rw [HV.out j (by omega), upS_get hj]; omega
      subst hxs
      have z1 := HX.out.c1.cellAt 0 rfl
      have z2 := HX.out.c2.cellAt 0 rfl
      clear HL HV
      gi_wp2
      by_cases hcn : count ≤ N
      · have HS := Lib.hid (show SubsSt (allS N count 0) (J (· = g)) g b1 b2 count N (allS N count 0).length wr by
          obtain ⟨r, hr⟩ := allS_head (n := N) (d := count) (lo := 0) (by omega)
          refine ⟨0, [], rfl, by rw [hr]; simp, by simp, ?_⟩
          rw [hr]
          exact HX.out)
        clear HX z1 z2
        obtain ⟨wo, hwo⟩ : ∃ wo : World, wo = wr := ⟨_, rfl⟩
        subst hwo
        gi_loopw [] (fun wr => ∃ m, SubsSt (allS N count 0) (J (· = g)) g b1 b2 count N m wr) (fun wr => leastOf fun m => SubsSt (allS N count 0) (J (· = g)) g b1 b2 count N m wr)
        case atStart => exact ⟨_, HS.out⟩
        case round =>
          obtain ⟨M, hM⟩ : ∃ M, M = leastOf fun m => SubsSt (allS N count 0) (J (· = g)) g b1 b2 count N m wr := ⟨_, rfl⟩
          have hMs := leastOf_spec hrel
          rw [← hM] at hMs ⊢
          obtain ⟨⟨idx, p, hidx, hil, hp, hX⟩, _⟩ := hMs
          clear hrel hM
          obtain ⟨xs, hxs⟩ : ∃ xs, xs = (allS N count 0).getD idx [] := ⟨_, rfl⟩
          have hmem : xs ∈ allS N count 0 := by rw [hxs]; simp [List.getD, hil]
          have hxl : xs.length = count := allS_mem_length hmem
          have hasc : ∀ j, j < xs.length → ((0 : Nat) : Int) ≤ xs.getD j 0 ∧ xs.getD j 0 < (N : Int) := asc_bd (allS_mem.1 hmem).2
          have HLt := Lib.hid (asc_lt (allS_mem.1 hmem).2)
          rw [← hxs] at hX
          have hnext := fun k (hk : k < count) (hm : ∀ j, k < j → j < count → xs.getD j 0 = (N : Int) - count + j) (hlt : xs.getD k 0 < (N : Int) - count + k) => subs_next (N := N) (count := count) (idx := idx) (i := k) hil hk (by rw [← hxs]; exact hm) (by rw [← hxs]; exact hlt)
          have hlast := fun (hm : ∀ j, j < count → xs.getD j 0 = (N : Int) - count + j) => subs_last (N := N) (count := count) (idx := idx) hil (by rw [← hxs]; exact hm)
          rw [← hxs] at hnext
          have hpx : (p ++ [(((some ⟨g, 0, none⟩, count), xs) : RowI)]).map (·.2) = (allS N count 0).take (idx + 1) := by
            rw [take_one hil (d := []), ← hxs, List.map_append, hp]; rfl
          have hplen : p.length < (allS N count 0).length := by
            have := congrArg List.length hp
            rw [List.length_map, List.length_take] at this
            omega
          have hpr : RowPG (allS N count 0) w0.heap.size count (· = g) ((some ⟨g, 0, none⟩, count), xs) wr := ⟨⟨hX.x.ints _ hgB, hxl, Nat.le_refl _⟩, (fun k hk => by rw [hk]; exact Blk.lt hX.x), hmem⟩
          have hstop : ∀ W', Jx (· = g) (p ++ [((some ⟨g, 0, none⟩, count), xs)]) W' → ∃ G : Nat → Prop, (∀ k, G k → W.heap.size ≤ k) ∧ ((∃ xs, xs.map (·.2) = allS N count 0 ∧ J G xs W') ∨ ∃ pre, (pre ≠ [] ∧ pre.map (·.2) <+: allS N count 0) ∧ Jx G pre W') :=
            fun W' h => ⟨(· = g), HG.out, .inr ⟨_, ⟨by simp, by rw [hpx]; exact List.take_prefix _ _⟩, h⟩⟩
          have HStop := Lib.hid hstop
          have HNext := Lib.hid hnext
          have HLast := Lib.hid hlast
          have HPx := Lib.hid hpx
          have HPr := Lib.hid hpr
          have HX := Lib.hid hX
          have HXl := Lib.hid hxl
          have HAsc := Lib.hid hasc
          have HIdx := Lib.hid hidx
          have HIl := Lib.hid hil
          have HPl := Lib.hid hplen
          have z1 := HX.out.c1.cellAt 0 rfl
          have z2 := HX.out.c2.cellAt 0 rfl
          have hcn2 : (count : Int) ≤ (N : Int) := by omega
          clear hstop hnext hlast hpx hpr hX hxl hasc hidx hil hplen hxs hmem hp HS
          obtain ⟨fn, tmps, assign, body, hy, hR⟩ := HY.out p ((some ⟨g, 0, none⟩, count), xs) wr HX.out.j HPr.out HPl.out
          unfold rowEnc at hy
          gi_wp2
          refine ⟨(fun h => nomatch h), (roundIn_any hR).mono ?_⟩
          rintro e W3 (⟨rfl, hJ3, hk3⟩ | ⟨rfl, hJx3⟩)
          · have HX3 := Lib.hid (HX.out.keep hk3 HB1.out.1 HB1.out.2 hJ3)
            clear z1 z2 HX hJ3 hk3 hR hy HPr
            have z1 := HX3.out.c1.cellAt 0 rfl
            have z2 := HX3.out.c2.cellAt 0 rfl
            gi_wp2
            generalize p ++ [(((some ⟨g, 0, none⟩, count), xs) : RowI)] = p' at *
            obtain ⟨wp, hwp⟩ : ∃ wp : World, wp = W3 := ⟨_, rfl⟩
            subst hwp
            clear z1 z2 hcn2
            gi_loopw [6] (fun ix wr => ∃ k : Nat, ix = .int .i64 ((k : Int) - 1) ∧ k ≤ count ∧ (∀ j, k ≤ j → j < count → xs.getD j 0 = (N : Int) - count + j) ∧ SubW (J (· = g)) g b1 b2 count N p' xs wr) (fun ix _ => (intOf ix + 1).toNat)
            case atStart => exact ⟨count, rfl, Nat.le_refl _, fun j h1 h2 => absurd h2 (by omega), HX3.out⟩
            case round =>
              clear HX3
              obtain ⟨y, hix, hy1, htop, hX⟩ := hrel
              have HX := Lib.hid hX
              have HTop := Lib.hid htop
              clear hX htop
              have z1 := HX.out.c1.cellAt 0 rfl
              have z2 := HX.out.c2.cellAt 0 rfl
              rcases y with _ | y
              · have e0 : (((0 : Nat) : Int) - 1) = -1 := rfl
                rw [e0] at hix
                subst hix
                clear e0
                have hend := HLast.out (fun j hj => HTop.out j (Nat.zero_le _) hj)
                have HEnd := Lib.hid (show p'.map (·.2) = allS N count 0 by rw [HPx.out, hend, List.take_length])
                clear hend
                gi_wp2
                refine region_belowIn (fun _ => trivial) rfl (fun _ _ _ _ h => callsIn_wide.2 h) 13 follows_mixed (by kernel_rfl) (by kernel_rfl) ?_
                intro C hC
                simp only [List.take_succ_cons, List.take_zero, List.drop_succ_cons, List.drop_zero]
                repeat (first
                  | ((with_reducible refine quiet_plain rfl (fun K hK => ?_)); (focus (apply quiet_val; (focus (intro w' hw; obtain ⟨hcq, hfq⟩ := bcell ((hC.out _).1 hw); go_simp; (first | done | rfl))); (simp only [Act.put, List.setIfInBounds_toArray, List.set_cons_succ, List.set_cons_zero]); (with_reducible refine hK _ ?_); clear hK K)))
                  | ((with_reducible refine quiet_skip ?_ ?_); (focus (first | (simp [Region.wanted, yielded]; done) | (simp [Region.wanted, yielded, undef]; done))); simp only [Act.put, List.setIfInBounds_toArray, List.set_cons_succ, List.set_cons_zero])
                  | ((with_reducible refine quiet_go ?_ (fun K hK => ?_)); (focus (first | (simp [Region.wanted, yielded]; done) | (simp [Region.wanted, yielded, undef]; done))); (focus (apply quiet_val; (focus (intro w' hw; obtain ⟨hcq, hfq⟩ := bcell ((hC.out _).1 hw); go_simp; (first | done | rfl))); (simp only [Act.put, List.setIfInBounds_toArray, List.set_cons_succ, List.set_cons_zero]); (with_reducible refine hK _ ?_); clear hK K))))
                refine wpQuiet_nil ?_
                intro w1 hb1
                replace hb1 := (hC.out _).1 hb1
                clear hC C
                obtain ⟨hc1, hf1⟩ := bcell hb1
                have HX1 := Lib.hid (HX.out.past HJ.out hb1)
                gi_wp2
                refine bodyPost_ret (results_none rfl _ _ _) rfl ?_
                exact ⟨⟨_, rfl⟩, ⟨(· = g), HG.out, .inl ⟨p', HEnd.out, HX1.out.j⟩⟩⟩
              · have e : (((y + 1 : Nat) : Int) - 1) = (y : Int) := by omega
                rw [e] at hix
                subst hix
                clear e
                obtain ⟨z, hz⟩ : ∃ z, z = xs.getD y 0 := ⟨_, rfl⟩
                have c := HX.out.x.cell (j := y) (by rw [HXl.out]; omega)
                rw [← hz] at c
                have hzb := HAsc.out y (by rw [HXl.out]; omega)
                rw [← hz] at hzb
                have HZ := Lib.hid hz
                have hf1 := Blk.frozen HX.out.x y
                have hgl := Blk.lt HX.out.x
                have y0 : (0 : Int) ≤ (y : Int) := by omega
                have y1 : (y : Int) < (count : Int) := by omega
                have z3 := HX.out.c1.lt
                have z4 := HX.out.c2.lt
                clear hz
                by_cases heq : z = (N : Int) - count + y
                · have hbq : (z == (N : Int) - count + y) = true := by simpa using heq
                  have HEq := Lib.hid heq
                  clear heq
                  gi_wp2
                  refine region_belowIn (fun _ => trivial) rfl (fun _ _ _ _ h => callsIn_wide.2 h) 13 follows_mixed (by kernel_rfl) (by kernel_rfl) ?_
                  intro C hC
                  simp only [List.take_succ_cons, List.take_zero, List.drop_succ_cons, List.drop_zero]
                  repeat (first
                    | ((with_reducible refine quiet_plain rfl (fun K hK => ?_)); (focus (apply quiet_val; (focus (intro w' hw; obtain ⟨hcq, hfq⟩ := bcell ((hC.out _).1 hw); go_simp; (first | done | rfl))); (simp only [Act.put, List.setIfInBounds_toArray, List.set_cons_succ, List.set_cons_zero]); (with_reducible refine hK _ ?_); clear hK K)))
                    | ((with_reducible refine quiet_skip ?_ ?_); (focus (first | (simp [Region.wanted, yielded]; done) | (simp [Region.wanted, yielded]; done))); simp only [Act.put, List.setIfInBounds_toArray, List.set_cons_succ, List.set_cons_zero])
                    | ((with_reducible refine quiet_go ?_ (fun K hK => ?_)); (focus (first | (simp [Region.wanted, yielded]; done) | (simp [Region.wanted, yielded, undef]; done))); (focus (apply quiet_val; (focus (intro w' hw; obtain ⟨hcq, hfq⟩ := bcell ((hC.out _).1 hw); go_simp; (first | done | rfl))); (simp only [Act.put, List.setIfInBounds_toArray, List.set_cons_succ, List.set_cons_zero]); (with_reducible refine hK _ ?_); clear hK K))))
                  refine wpQuiet_nil ?_
                  intro w1 hb1
                  replace hb1 := (hC.out _).1 hb1
                  clear hC C
                  obtain ⟨hc1, hf1⟩ := bcell hb1
                  gi_wp2
                  go_roundw
                  case rel => exact ⟨y, rfl, by omega, (fun j h1 h2 => by
                    rcases Nat.lt_or_ge y j with h | h
                    · exact HTop.out j (by omega) h2
                    · rw [show j = y by omega, ← HZ.out]; exact HEq.out), HX.out.past HJ.out hb1⟩
                  case measure => simp [intOf] <;> omega
                · have hbq : (z == (N : Int) - count + y) = false := by simpa using heq
                  have HEq := Lib.hid heq
                  clear heq
                  have hzlt : z < (N : Int) - count + y := by
                    have h1 := HEq.out
                    rcases Nat.lt_or_ge (y + 1) count with h | h
                    · have h2 := HTop.out (y + 1) (by omega) h
                      have h3 := HLt.out y (by rw [HXl.out]; omega)
                      rw [← HZ.out] at h3
                      omega
                    · omega
                  have HNx := Lib.hid (HNext.out y (by omega) (fun j h1 h2 => HTop.out j (by omega) h2) (by rw [← HZ.out]; exact hzlt))
                  clear hzlt HEq
                  gi_wp2
                  refine region_belowIn (fun _ => trivial) rfl (fun _ _ _ _ h => callsIn_wide.2 h) 13 follows_mixed (by kernel_rfl) (by kernel_rfl) ?_
                  intro C hC
                  simp only [List.take_succ_cons, List.take_zero, List.drop_succ_cons, List.drop_zero]
                  repeat (first
                    | ((with_reducible refine quiet_plain rfl (fun K hK => ?_)); (focus (apply quiet_val; (focus (intro w' hw; obtain ⟨hcq, hfq⟩ := bcell ((hC.out _).1 hw); go_simp; (first | done | rfl))); (simp only [Act.put, List.setIfInBounds_toArray, List.set_cons_succ, List.set_cons_zero]); (with_reducible refine hK _ ?_); clear hK K)))
                    | ((with_reducible refine quiet_skip ?_ ?_); (focus (first | (simp [Region.wanted, yielded]; done) | (simp [Region.wanted, yielded]; done))); simp only [Act.put, List.setIfInBounds_toArray, List.set_cons_succ, List.set_cons_zero])
                    | ((with_reducible refine quiet_go ?_ (fun K hK => ?_)); (focus (first | (simp [Region.wanted, yielded]; done) | (simp [Region.wanted, yielded, undef]; done))); (focus (apply quiet_val; (focus (intro w' hw; obtain ⟨hcq, hfq⟩ := bcell ((hC.out _).1 hw); go_simp; (first | done | rfl))); (simp only [Act.put, List.setIfInBounds_toArray, List.set_cons_succ, List.set_cons_zero]); (with_reducible refine hK _ ?_); clear hK K))))
                  refine wpQuiet_nil ?_
                  intro w1 hb1
                  replace hb1 := (hC.out _).1 hb1
                  clear hC C
                  obtain ⟨hc1, hf1⟩ := bcell hb1
                  have HX1 := Lib.hid (HX.out.past HJ.out hb1)
                  clear HX z1 z2 c hf1 hgl
                  have z1 := HX1.out.c1.cellAt 0 rfl
                  have z2 := HX1.out.c2.cellAt 0 rfl
                  have c := HX1.out.x.cell (j := y) (by rw [HXl.out]; omega)
                  rw [← HZ.out] at c
                  have hf1 := Blk.frozen HX1.out.x y
                  have hgl := Blk.lt HX1.out.x
                  gi_wp2
                  have HS4 := Lib.hid (show ∃ ys : List Int, ys.length = count ∧ (∀ k, k ≤ y → ys.getD k 0 = if k < y then xs.getD k 0 else z + 1 + ((k : Int) - y)) ∧ SubW (J (· = g)) g b1 b2 count N p' ys (w1.setCell ⟨g, y, none⟩ (.int .i64 (z + 1))) from
                    ⟨xs.set y (z + 1), by rw [List.length_set]; exact HXl.out, (fun k hk => by
                      rw [set_getD (by rw [HXl.out]; omega)]
                      rcases Nat.lt_or_ge k y with h | h
                      · rw [if_neg (by omega), if_pos h]
                      · rw [if_pos (by omega), if_neg (by omega)]; omega), HX1.out.set HJ.out hb1g hb2g y (z + 1)⟩)
                  generalize w1.setCell ⟨g, y, none⟩ (.int .i64 (z + 1)) = w4 at *
                  clear z1 z2 c hf1 hgl HX1
                  gi_loopw [7] (fun jx wr => ∃ (j : Nat) (ys : List Int), jx = .int .i64 ((j : Int) + 1) ∧ y ≤ j ∧ j < count ∧ ys.length = count ∧ (∀ k, k ≤ j → ys.getD k 0 = if k < y then xs.getD k 0 else z + 1 + ((k : Int) - y)) ∧ SubW (J (· = g)) g b1 b2 count N p' ys wr) (fun jx _ => count - (intOf jx).toNat)
                  case atStart =>
                    obtain ⟨ys, q1, q2, q3⟩ := HS4.out
                    exact ⟨y, ys, rfl, Nat.le_refl _, by omega, q1, q2, q3⟩
                  case round =>
                    clear HS4
                    obtain ⟨j, ys, rfl, hj1, hj2, hyl, hyv, hX⟩ := hrel
                    have HX := Lib.hid hX
                    have HYl := Lib.hid hyl
                    have HYv := Lib.hid hyv
                    clear hX hyl hyv
                    have z1 := HX.out.c1.cellAt 0 rfl
                    by_cases hlt2 : j + 1 < count
                    · obtain ⟨u, hu⟩ : ∃ u, u = ys.getD j 0 := ⟨_, rfl⟩
                      have c := HX.out.x.cell (j := j) (by rw [HYl.out]; omega)
                      rw [← hu] at c
                      have hu2 := HYv.out j (Nat.le_refl _)
                      rw [← hu, if_neg (by omega)] at hu2
                      have c2 := HX.out.x.cell (j := j + 1) (by rw [HYl.out]; omega)
                      have hf1 := Blk.frozen HX.out.x (j + 1)
                      have hgl := Blk.lt HX.out.x
                      have HU := Lib.hid hu2
                      have ub : 0 ≤ u ∧ u ≤ 9000 := by omega
                      have y2 : (0 : Int) ≤ (j : Int) := by omega
                      have y3 : (j : Int) < (count : Int) := by omega
                      have y4 : (0 : Int) ≤ (j : Int) + 1 := by omega
                      have y5 : (j : Int) + 1 < (count : Int) := by omega
                      have y6 : ((j : Int) + 1).toNat = j + 1 := by omega
                      clear hu hu2
                      gi_wp2
                      go_roundw
                      case rel => exact ⟨j + 1, ys.set (j + 1) (u + 1), by go_num, by omega, by omega, by rw [List.length_set]; exact HYl.out, (fun k hk => by
                        rw [set_getD (by rw [HYl.out]; omega)]
                        by_cases h : j + 1 = k
                        · rw [if_pos h, if_neg (by omega), HU.out]; omega
                        · rw [if_neg h]; exact HYv.out k (by omega)), HX.out.set HJ.out hb1g hb2g (j + 1) (u + 1)⟩
                      case measure => simp [intOf]; omega
                    · have y5 : ¬ (j : Int) + 1 < (count : Int) := by omega
                      gi_wp2
                      have hys : ys = (allS N count 0).getD (idx + 1) [] := by
                        have hm : (allS N count 0).getD (idx + 1) [] ∈ allS N count 0 := by simp [List.getD, HNx.out.1]
                        refine list_of (by rw [HYl.out, allS_mem_length hm]) fun k hk => ?_
                        rw [HYl.out] at hk
                        rw [HYv.out k (by omega), HNx.out.2 k hk, HZ.out]
                      go_roundw
                      case rel => exact ⟨M - 1, idx + 1, p', by have := HIdx.out; have := HIl.out; omega, HNx.out.1, HPx.out, by rw [← hys]; exact HX.out⟩
                      case measure =>
                        have := (leastOf_spec (p := fun m => SubsSt (allS N count 0) (J (· = g)) g b1 b2 count N m wr) ⟨M - 1, idx + 1, p', by have := HIdx.out; have := HIl.out; omega, HNx.out.1, HPx.out, by rw [← hys]; exact HX.out⟩).2 (M - 1) ⟨idx + 1, p', by have := HIdx.out; have := HIl.out; omega, HNx.out.1, HPx.out, by rw [← hys]; exact HX.out⟩
                        have := HIdx.out
                        have := HIl.out
                        omega
          · clear z1 z2
            gi_wp2
            refine bodyPost_ret (results_none rfl _ _ _) rfl ?_
            exact ⟨⟨_, rfl⟩, HStop.out _ hJx3⟩
      · have hL : allS N count 0 = [] := by
          rcases allS_empty (n := N) (d := count) (lo := 0) (by omega) with h | h
          · exact h
          · omega
        have hcn2 : ¬ (count : Int) ≤ (N : Int) := by omega
        have HL := Lib.hid hL
        clear hL
        gi_loopw [] (fun wr => J (· = g) [] wr ∧ Blk wr b1 3 #[.int .i64 (count : Int)] ∧ Blk wr b2 3 #[.int .i64 (N : Int)]) (fun _ => 0)
        case atStart => exact ⟨HX.out.j, HX.out.c1, HX.out.c2⟩
        case round =>
          obtain ⟨q0, q1, q2⟩ := hrel
          clear z1 z2
          have z1 := q1.cellAt 0 rfl
          have z2 := q2.cellAt 0 rfl
          gi_wp2
          go_end0
          exact ⟨⟨_, rfl⟩, ⟨(· = g), HG.out, .inl ⟨[], HL.out.symm, q0⟩⟩⟩
end

end Go.Proofs.YtnfbdkdjoekifaaGreatDoor
end
