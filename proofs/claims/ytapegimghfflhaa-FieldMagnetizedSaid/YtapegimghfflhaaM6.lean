/- Contracts: the small functions of package field. Printed by a program (gen_f1word.py) from texts on package design and group.
Laws: a whole array, or struct, that fills a block is read, or stored, in one step; a store into a part of a known block; min and max of two numbers. No condition. -/
import Derived.Test.YtapegimghfflhaaM4
import Derived.Deep.QuietTactic
import Derived.LoopN
import Derived.Deep.MidRow
import Derived.KernelRfl

section
namespace Go.Proofs.Ytapegimghfflhaa
open Go.RowKit

set_option maxHeartbeats 400000 in
theorem firstFd_any (B : Nat) (A : Option Addr) (c : Nat) (xs : List Int) (w : World) (hr : IntsIn B w A xs) (hm : xs.length ≤ 1000) :
    Calls Try.prog 25 #[.slice A xs.length c] w fun e w' => e = .returned (.int .i64 (firstV xs)) ∧ w = w' := by
  go_enter Try.func25, Try.ntmps25
  go_wp2
  go_loop [7] (fun i => ∃ k : Nat, k ≤ xs.length ∧ i = .int .i64 k ∧ firstV (xs.drop k) = firstV xs) (fun i => xs.length - (intOf i).toNat)
  case atStart => exact ⟨0, Nat.zero_le _, rfl, rfl⟩
  case round =>
    obtain ⟨k, hk, rfl, hf⟩ := hrel
    by_cases hlt : k < xs.length
    · obtain ⟨b, off, rfl, hb, hc⟩ := hr.at_ hlt
      have hcell := hc k hlt
      have HF := Lib.hid (hf.symm.trans (firstV_drop xs k hlt))
      clear hc hf hr
      generalize xs.getD k 0 = x at *
      go_wp2
      · go_ret
        exact ⟨ret_int (by rw [HF.out, if_neg (by simp_all)]), rfl⟩
      · go_round
        case rel => exact ⟨k + 1, by omega, by go_num, by rw [HF.out, if_pos (by simp_all)]⟩
        case measure => simp [intOf]; omega
    · have hk' : k = xs.length := by omega
      have HF := Lib.hid (show firstV xs = 0 by rw [← hf, hk']; simp [firstV])
      clear hf hk'
      go_wp2
      go_ret
      exact ⟨ret_int HF.out.symm, rfl⟩
theorem unlessFd_any (ok : Bool) (e : Int) (w : World) :
    Calls Try.prog 27 #[.bool ok, .int .i64 e] w fun r w' => r = .returned (.int .i64 (unlessV ok e)) ∧ w = w' := by
  cases ok
  all_goals
    go_enter Try.func27, Try.ntmps27
    go_wp2
    go_ret
    exact ⟨rfl, rfl⟩
theorem withinFd_any (n lo hi : Int) (w : World) :
    Calls Try.prog 31 #[.int .i64 n, .int .i64 lo, .int .i64 hi] w fun r w' => r = .returned (.bool (withinB n lo hi)) ∧ w = w' := by
  by_cases h : lo ≤ n
  all_goals
    go_enter Try.func31, Try.ntmps31
    go_wp2
    all_goals
      go_ret
      exact ⟨ret_bool (by simp [withinB]; try omega), rfl⟩
theorem first2Fd (b c : Nat) (x y : Int) (w : World) (h0 : w.cell? ⟨b, 0, none⟩ = some (.int .i64 x)) (h1 : w.cell? ⟨b, 1, none⟩ = some (.int .i64 y)) (v : Int) (hv : firstV [x, y] = v) :
    Calls Try.prog 25 #[.slice (some ⟨b, 0, none⟩) 2 c] w fun e w' => e = .returned (.int .i64 v) ∧ w = w' := hv ▸
  firstFd_any (b + 1) _ c [x, y] w (.inr ⟨b, 0, rfl, by omega, fun j hj => by
    have : j = 0 ∨ j = 1 := by simp at hj; omega
    rcases this with rfl | rfl
    · simpa using h0
    · simpa using h1⟩) (by simp)
theorem first3Fd (b c : Nat) (x y z : Int) (w : World) (h0 : w.cell? ⟨b, 0, none⟩ = some (.int .i64 x)) (h1 : w.cell? ⟨b, 1, none⟩ = some (.int .i64 y)) (h2 : w.cell? ⟨b, 2, none⟩ = some (.int .i64 z)) (v : Int) (hv : firstV [x, y, z] = v) :
    Calls Try.prog 25 #[.slice (some ⟨b, 0, none⟩) 3 c] w fun e w' => e = .returned (.int .i64 v) ∧ w = w' := hv ▸
  firstFd_any (b + 1) _ c [x, y, z] w (.inr ⟨b, 0, rfl, by omega, fun j hj => by
    have : j = 0 ∨ j = 1 ∨ j = 2 := by simp at hj; omega
    rcases this with rfl | rfl | rfl
    · simpa using h0
    · simpa using h1
    · simpa using h2⟩) (by simp)
/-- What fits 64 bits; what does so with its opposite. -/
def WF (n : Int) : Prop := -9223372036854775808 ≤ n ∧ n ≤ 9223372036854775807
def SmF (n : Int) : Prop := -9223372036854775807 ≤ n ∧ n ≤ 9223372036854775807
theorem tmodF {a b : Int} (h0 : b ≠ 0) (hb : WF b) : SmF (a.tmod b) := by
  unfold SmF
  unfold WF at hb
  have h1 := Int.natAbs_tmod a b
  have h2 : a.natAbs % b.natAbs < b.natAbs := Nat.mod_lt _ (by omega)
  omega

set_option maxHeartbeats 1000000 in
theorem divisorFd_any (a b : Int) (ha : WF a) (hb : SmF b) (hz : b = 0 → SmF a) (w : World) :
    Calls Try.prog 49 #[.int .i64 a, .int .i64 b] w fun e w' => e = .returned (.int .i64 (gcdI a b)) ∧ Below w.heap.size w w' := by
  go_enter Try.func49, Try.ntmps49
  go_wp2
  go_loopw [0, 1] (fun x y wr => ∃ a' b' : Int, x = .int .i64 a' ∧ y = .int .i64 b' ∧ WF a' ∧ SmF b' ∧ (b' = 0 → SmF a') ∧ gcdI a b = gcdI a' b' ∧ Below w.heap.size w wr) (fun _ y _ => (intOf y).natAbs)
  case atStart => exact ⟨a, b, rfl, rfl, ha, hb, hz, rfl, pr⟩
  case round =>
    obtain ⟨a', b', rfl, rfl, h1, h2, h3, hg, hS⟩ := hrel
    have HG := Lib.hid hg
    have HS := Lib.hid hS
    have H1 := Lib.hid h1
    have H2 := Lib.hid h2
    clear hg hS ha hb hz
    unfold WF at h1
    unfold SmF at h2 h3
    by_cases h0 : b' = 0
    · subst h0
      have h4 := h3 rfl
      clear h3
      go_wp2
      all_goals
        go_ret
        refine ⟨ret_int ?_, HS.out⟩
        rw [HG.out, gcd_end]
        first | omega | (split <;> omega)
    · clear h3
      have hm := tmodF (a := a') h0 (by unfold WF; omega)
      have hlt : (a'.tmod b').natAbs < b'.natAbs := by
        rw [Int.natAbs_tmod]; exact Nat.mod_lt _ (by omega)
      have hm2 := hm
      unfold SmF at hm2
      have hw : IntKind.i64.wrap (a'.tmod b') = a'.tmod b' := IntWalk.i64_in _ (by omega)
      have hw2 : (b' != 0) = true := by simpa using h0
      have hw3 : (b' == 0) = false := by simpa using h0
      go_wp2
      go_quiet (fail)
      go_wp2
      go_roundw
      case rel => exact ⟨b', a'.tmod b', rfl, by first | rfl | simp [hw], ⟨by omega, by omega⟩, hm, fun _ => H2.out, HG.out.trans (gcd_step a' b').symm, by first | exact HS.out | exact pd HS.out | exact below_drewN' HS.out _⟩
      case measure => first | exact hlt | (simp only [intOf]; rw [hw]; exact hlt) | (simp only [intOf, hw]; exact hlt)



theorem isSizedFd_any (n m : Int) (hm : -1000000000 ≤ m) (hm' : m ≤ 1000000000) (w : World) :
    Calls Try.prog 28 #[.int .i64 n, .int .i64 m] w fun r w' => r = .returned (.bool (withinB n (-m) m)) ∧ w = w' := by
  go_enter Try.func28, Try.ntmps28
  go_wp2_with (go_at_call 31; refine (withinFd_any _ _ _ _).mono ?_; rintro e w' ⟨rfl, rfl⟩)
  go_ret
  exact ⟨rfl, rfl⟩
end Go.Proofs.Ytapegimghfflhaa
end

section
namespace Go.Proofs.Ytapegimghfflhaa
open Go.RowKit
variable {P : Program}

/-- Only block b is other than it was, and it has as many cells. -/
structure Put (w W : World) (b : Nat) : Prop where
  size : W.heap.size = w.heap.size
  other : ∀ g, g ≠ b → W.heap[g]? = w.heap[g]?
  below : ∀ B, B ≤ b → Below B w W

theorem Blk.put {w W : World} {b g : Nat} {t : TypeId} {cs : Array Value} (h : Blk w g t cs) (hp : Put w W b) (hg : g ≠ b) : Blk W g t cs := (hp.other g hg).trans h
theorem pp {w a W : World} {b : Nat} (h : Below w.heap.size w a) (hp : Put a W b) (hb : w.heap.size ≤ b) : Below w.heap.size w W := h.trans (hp.below _ hb)

theorem put_setCells {b : Nat} {t : TypeId} : ∀ (vs : List Value) (o : Nat) (w : World) (cs : Array Value), Blk w b t cs → o + vs.length = cs.size →
    Put w (w.setCells b o vs) b ∧ Blk (w.setCells b o vs) b t (cs.toList.take o ++ vs).toArray
  | [], o, w, cs, h, hl => ⟨⟨rfl, fun _ _ => rfl, fun _ _ => Below.refl _ _⟩, by
    have : cs.toList.take o = cs.toList := List.take_of_length_le (by simp at hl ⊢; omega)
    simpa [World.setCells, this] using h⟩
  | v :: r, o, w, cs, h, hl => by
    rw [World.setCells]
    simp only [List.length_cons] at hl
    obtain ⟨hp, hb⟩ := put_setCells r (o + 1) (w.setCell ⟨b, o, none⟩ v) (cs.setIfInBounds o v) (h.set_ o v) (by simp; omega)
    refine ⟨⟨hp.size.trans (by simp), fun g hg => (hp.other g hg).trans (Below.heap_setCell w _ _ g hg), fun B hB => ((Below.refl B w).setCell (p := ⟨b, o, none⟩) hB v).trans (hp.below B hB)⟩, ?_⟩
    have ho : o < cs.toList.length := by simp; omega
    have he : (cs.setIfInBounds o v).toList.take (o + 1) ++ r = cs.toList.take o ++ v :: r := by
      rw [Array.toList_setIfInBounds, List.take_add_one, List.take_set_of_le (Nat.le_refl _), List.getElem?_set_self ho]
      simp
    rw [← he]; exact hb

theorem there_blk {w : World} {b : Nat} {t : TypeId} {cs : Array Value} (h : Blk w b t cs) {n : Nat} (hn : n ≤ cs.size) : w.there b 0 n := fun j hj =>
  ⟨by rw [Nat.zero_add, h.cell]; simp; omega, h.frozen _⟩
/-- A whole block is written. -/
theorem store_blk {ops : Array Oper} {rest : List Oper} {a : Act} {w : World} {Q : Exit → Act → World → Prop} {dst : Option Tmp} {T ty : TypeId} {x y : Operand} {pos : String} {af : Array Edge} {b : Nat} {t : TypeId} {cs vs : Array Value}
    (hB : Blk w b t cs) (hn : cs.size = vs.size) (hi : (P.info? T).map (·.size) = some vs.size) (h1 : vs.all (·.oneCell') = true) (hx : a.eval x = .pointer (some ⟨b, 0, none⟩)) (hy : a.eval y = .agg vs)
    (h : ∀ W, Blk W b t vs → Put w W b → wpList P ops Q rest (a.put dst undef) W) : wpList P ops Q ({ dst := dst, op := .store T x y, type := ty, pos := pos, after := af, guard := none } :: rest) a w := by
  refine wpList_store_mid rfl T x y rfl b 0 vs hx hy (there_blk hB (by omega)) hi h1 ?_
  have hl : vs.toList.length = vs.size := by simp
  obtain ⟨hp, hb⟩ := put_setCells vs.toList 0 w cs hB (by omega)
  refine h _ ?_ hp
  simpa using hb


theorem put_sub {b : Nat} {t : TypeId} : ∀ (vs : List Value) (o : Nat) (w : World) (cs : Array Value), Blk w b t cs → o + vs.length ≤ cs.size →
    Put w (w.setCells b o vs) b ∧ Blk (w.setCells b o vs) b t (cs.toList.take o ++ vs ++ cs.toList.drop (o + vs.length)).toArray
  | [], o, w, cs, h, hl => ⟨⟨rfl, fun _ _ => rfl, fun _ _ => Below.refl _ _⟩, by
    simpa [World.setCells] using h⟩
  | v :: r, o, w, cs, h, hl => by
    rw [World.setCells]
    simp only [List.length_cons] at hl
    obtain ⟨hp, hb⟩ := put_sub r (o + 1) (w.setCell ⟨b, o, none⟩ v) (cs.setIfInBounds o v) (h.set_ o v) (by simp; omega)
    refine ⟨⟨hp.size.trans (by simp), fun g hg => (hp.other g hg).trans (Below.heap_setCell w _ _ g hg), fun B hB => ((Below.refl B w).setCell (p := ⟨b, o, none⟩) hB v).trans (hp.below B hB)⟩, ?_⟩
    have ho : o < cs.toList.length := by simp; omega
    have he : (cs.setIfInBounds o v).toList.take (o + 1) ++ r ++ (cs.setIfInBounds o v).toList.drop (o + 1 + r.length) = cs.toList.take o ++ v :: r ++ cs.toList.drop (o + (r.length + 1)) := by
      rw [Array.toList_setIfInBounds, List.take_add_one, List.take_set_of_le (Nat.le_refl _), List.getElem?_set_self ho, List.drop_set_of_lt (by omega)]
      simp [Nat.add_comm, Nat.add_left_comm]
    rw [List.length_cons, ← he]; exact hb

theorem there_sub {w : World} {b o : Nat} {t : TypeId} {cs : Array Value} (h : Blk w b t cs) {n : Nat} (hn : o + n ≤ cs.size) : w.there b o n := fun j hj =>
  ⟨by rw [h.cell]; simp; omega, h.frozen _⟩

theorem run_storeVar_sub (w : World) (b o : Nat) (ty : TypeId) (v : Value) (cells : Array Value) (hv : v.cells = cells) (ht : w.there b o cells.size) (hi : (P.info? ty).map (·.size) = some cells.size) (h1 : cells.all (·.oneCell') = true) :
    (storeVar ty ⟨b, o, none⟩ v).run P w = .ok () (w.setCells b o cells.toList) := by
  have := run_storeCells_cells (P := P) b o cells.toList 0 w (fun j hj => by simpa using (ht j (by simpa using hj)).1) (fun j hj => by simpa using (ht j (by simpa using hj)).2)
    (fun v hv => (Array.all_eq_true_iff_forall_mem.1 h1) v (by simpa using hv))
  cases hq : P.info? ty with
  | none => simp [hq] at hi
  | some i =>
    have hs : cells.size = i.size := by simp [hq] at hi; omega
    simp only [Nat.add_zero] at this
    simp [storeVar, sizeOf, typeInfo, hq, hv, hs, this]

/-- The same for an operation that comes up by itself. -/
theorem store_op {P : Program} {a : Act} {w : World} {K : Act → World → Prop} {Q : Exit → Act → World → Prop} {dst : Option Tmp} {T ty : TypeId} {x y : Operand} {pos : String} {af : Array Edge} {b o : Nat} {t : TypeId} {cs cs' vs : Array Value}
    (hB : Blk w b t cs) (hx : a.eval x = .pointer (some ⟨b, o, none⟩)) (hy : (a.eval y).cells = vs) (hc : cs' = (cs.toList.take o ++ vs.toList ++ cs.toList.drop (o + vs.size)).toArray) (hn : o + vs.size ≤ cs.size) (hi : (P.info? T).map (·.size) = some vs.size) (h1 : vs.all (·.oneCell') = true)
    (h : ∀ W, Blk W b t cs' → Put w W b → K (a.put dst undef) W) : ({ dst := dst, op := .store T x y, type := ty, pos := pos, after := af, guard := none } : Oper).wp P a w K Q := by
  unfold Oper.wp execOp
  have ht : w.there b o vs.size := there_sub hB hn
  simp only [hx, Instr.storeAt, Instr.sureAddr, Sem.run_bind, Sem.run_pure, Result.andThen_ok, run_storeVar_sub w b o T (a.eval y) vs hy ht hi h1]
  obtain ⟨hp, hb⟩ := put_sub vs.toList o w cs hB (by simpa using hn)
  exact h _ (by rw [hc]; simpa using hb) hp
end Go.Proofs.Ytapegimghfflhaa
end
