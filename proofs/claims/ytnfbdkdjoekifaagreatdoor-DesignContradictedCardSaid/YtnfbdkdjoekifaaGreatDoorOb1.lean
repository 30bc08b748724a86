/- Laws: a whole array, or struct, that fills a block is read, or stored, in one step; a store into a part of a known block; min and max of two numbers. No condition. -/
import Derived.Test.YtnfbdkdjoekifaaGreatDoorOa2
import Derived.Deep.MidRow
import Derived.KernelRfl

section
namespace Go.Proofs.YtnfbdkdjoekifaaGreatDoor
open Go.RowKit
variable {P : Program}

/-- Only block b is other than it was, and it has as many cells. -/
structure Put (w W : World) (b : Nat) : Prop where
  size : W.heap.size = w.heap.size
  other : ∀ g, g ≠ b → W.heap[g]? = w.heap[g]?
  below : ∀ B, B ≤ b → Below B w W

theorem Blk.put {w W : World} {b g : Nat} {t : TypeId} {cs : Array Value} (h : Blk w g t cs) (hp : Put w W b) (hg : g ≠ b) : Blk W g t cs := (hp.other g hg).trans h
theorem pp {w a W : World} {b : Nat} (h : Below w.heap.size w a) (hp : Put a W b) (hb : w.heap.size ≤ b) : Below w.heap.size w W := h.trans (hp.below _ hb)

theorem put_setCells {b : Nat} {t : TypeId} : ∀ (vs : List Value) (o : Nat) (w : World) (cs : Array Value), Blk w b t cs → o + vs.length = cs.size →
    Put w (w.setCells b o vs) b ∧ Blk (w.setCells b o vs) b t (cs.toList.take o ++ vs).toArray
  | [], o, w, cs, h, hl => ⟨⟨rfl, fun _ _ => rfl, fun _ _ => Below.refl _ _⟩, by
    have : cs.toList.take o = cs.toList := List.take_of_length_le (by simp at hl ⊢; omega)
    simpa [World.setCells, this] using h⟩
  | v :: r, o, w, cs, h, hl => by
    rw [World.setCells]
    simp only [List.length_cons] at hl
    obtain ⟨hp, hb⟩ := put_setCells r (o + 1) (w.setCell ⟨b, o, none⟩ v) (cs.setIfInBounds o v) (h.set_ o v) (by simp; omega)
    refine ⟨⟨hp.size.trans (by simp), fun g hg => (hp.other g hg).trans (Below.heap_setCell w _ _ g hg), fun B hB => ((Below.refl B w).setCell (p := ⟨b, o, none⟩) hB v).trans (hp.below B hB)⟩, ?_⟩
    have ho : o < cs.toList.length := by simp; omega
    have he : (cs.setIfInBounds o v).toList.take (o + 1) ++ r = cs.toList.take o ++ v :: r := by
      rw [Array.toList_setIfInBounds, List.take_add_one, List.take_set_of_le (Nat.le_refl _), List.getElem?_set_self ho]
      simp
    rw [← he]; exact hb

theorem there_blk {w : World} {b : Nat} {t : TypeId} {cs : Array Value} (h : Blk w b t cs) {n : Nat} (hn : n ≤ cs.size) : w.there b 0 n := fun j hj =>
  ⟨by rw [Nat.zero_add, h.cell]; simp; omega, h.frozen _⟩
theorem range_blk {w : World} {b : Nat} {t : TypeId} {cs : Array Value} (h : Blk w b t cs) : w.rangeAt b 0 cs.toList := fun j v hv => by rw [Nat.zero_add, h.cell]; simpa using hv

/-- A whole block is read. -/
theorem load_blk {ops : Array Oper} {rest : List Oper} {a : Act} {w : World} {Q : Exit → Act → World → Prop} {dst : Option Tmp} {T ty : TypeId} {x : Operand} {pos : String} {af : Array Edge} {b : Nat} {t : TypeId} {cs : Array Value} {d : TypeDesc}
    (hB : Blk w b t cs) (hu : P.underlying T = some d) (hd : d.isRow = true) (hi : (P.info? T).map (·.size) = some cs.size) (hx : a.eval x = .pointer (some ⟨b, 0, none⟩))
    (h : wpList P ops Q rest (a.put dst (.agg cs)) w) : wpList P ops Q ({ dst := dst, op := .load T x, type := ty, pos := pos, after := af, guard := none } :: rest) a w :=
  wpList_load_mid rfl T x rfl b 0 hx cs.toList d (range_blk hB) hu hd (by simpa using hi) (by simpa using h)

/-- A whole block is written. -/
theorem store_blk {ops : Array Oper} {rest : List Oper} {a : Act} {w : World} {Q : Exit → Act → World → Prop} {dst : Option Tmp} {T ty : TypeId} {x y : Operand} {pos : String} {af : Array Edge} {b : Nat} {t : TypeId} {cs vs : Array Value}
    (hB : Blk w b t cs) (hn : cs.size = vs.size) (hi : (P.info? T).map (·.size) = some vs.size) (h1 : vs.all (·.oneCell') = true) (hx : a.eval x = .pointer (some ⟨b, 0, none⟩)) (hy : a.eval y = .agg vs)
    (h : ∀ W, Blk W b t vs → Put w W b → wpList P ops Q rest (a.put dst undef) W) : wpList P ops Q ({ dst := dst, op := .store T x y, type := ty, pos := pos, after := af, guard := none } :: rest) a w := by
  refine wpList_store_mid rfl T x y rfl b 0 vs hx hy (there_blk hB (by omega)) hi h1 ?_
  have hl : vs.toList.length = vs.size := by simp
  obtain ⟨hp, hb⟩ := put_setCells vs.toList 0 w cs hB (by omega)
  refine h _ ?_ hp
  simpa using hb


theorem put_sub {b : Nat} {t : TypeId} : ∀ (vs : List Value) (o : Nat) (w : World) (cs : Array Value), Blk w b t cs → o + vs.length ≤ cs.size →
    Put w (w.setCells b o vs) b ∧ Blk (w.setCells b o vs) b t (cs.toList.take o ++ vs ++ cs.toList.drop (o + vs.length)).toArray
  | [], o, w, cs, h, hl => ⟨⟨rfl, fun _ _ => rfl, fun _ _ => Below.refl _ _⟩, by
    simpa [World.setCells] using h⟩
  | v :: r, o, w, cs, h, hl => by
    rw [World.setCells]
    simp only [List.length_cons] at hl
    obtain ⟨hp, hb⟩ := put_sub r (o + 1) (w.setCell ⟨b, o, none⟩ v) (cs.setIfInBounds o v) (h.set_ o v) (by simp; omega)
    refine ⟨⟨hp.size.trans (by simp), fun g hg => (hp.other g hg).trans (Below.heap_setCell w _ _ g hg), fun B hB => ((Below.refl B w).setCell (p := ⟨b, o, none⟩) hB v).trans (hp.below B hB)⟩, ?_⟩
    have ho : o < cs.toList.length := by simp; omega
    have he : (cs.setIfInBounds o v).toList.take (o + 1) ++ r ++ (cs.setIfInBounds o v).toList.drop (o + 1 + r.length) = cs.toList.take o ++ v :: r ++ cs.toList.drop (o + (r.length + 1)) := by
      rw [Array.toList_setIfInBounds, List.take_add_one, List.take_set_of_le (Nat.le_refl _), List.getElem?_set_self ho, List.drop_set_of_lt (by omega)]
      simp [Nat.add_comm, Nat.add_left_comm]
    rw [List.length_cons, ← he]; exact hb

theorem there_sub {w : World} {b o : Nat} {t : TypeId} {cs : Array Value} (h : Blk w b t cs) {n : Nat} (hn : o + n ≤ cs.size) : w.there b o n := fun j hj =>
  ⟨by rw [h.cell]; simp; omega, h.frozen _⟩

theorem run_storeVar_sub (w : World) (b o : Nat) (ty : TypeId) (v : Value) (cells : Array Value) (hv : v.cells = cells) (ht : w.there b o cells.size) (hi : (P.info? ty).map (·.size) = some cells.size) (h1 : cells.all (·.oneCell') = true) :
    (storeVar ty ⟨b, o, none⟩ v).run P w = .ok () (w.setCells b o cells.toList) := by
  have := run_storeCells_cells (P := P) b o cells.toList 0 w (fun j hj => by simpa using (ht j (by simpa using hj)).1) (fun j hj => by simpa using (ht j (by simpa using hj)).2)
    (fun v hv => (Array.all_eq_true_iff_forall_mem.1 h1) v (by simpa using hv))
  cases hq : P.info? ty with
  | none => simp [hq] at hi
  | some i =>
    have hs : cells.size = i.size := by simp [hq] at hi; omega
    simp only [Nat.add_zero] at this
    simp [storeVar, sizeOf, typeInfo, hq, hv, hs, this]

theorem store_sub {ops : Array Oper} {rest : List Oper} {a : Act} {w : World} {Q : Exit → Act → World → Prop} {dst : Option Tmp} {T ty : TypeId} {x y : Operand} {pos : String} {af : Array Edge} {b o : Nat} {t : TypeId} {cs cs' vs : Array Value}
    (hB : Blk w b t cs) (hx : a.eval x = .pointer (some ⟨b, o, none⟩)) (hy : (a.eval y).cells = vs) (hc : cs' = (cs.toList.take o ++ vs.toList ++ cs.toList.drop (o + vs.size)).toArray) (hn : o + vs.size ≤ cs.size) (hi : (P.info? T).map (·.size) = some vs.size) (h1 : vs.all (·.oneCell') = true)
    (h : ∀ W, Blk W b t cs' → Put w W b → wpList P ops Q rest (a.put dst undef) W) : wpList P ops Q ({ dst := dst, op := .store T x y, type := ty, pos := pos, after := af, guard := none } :: rest) a w := by
  refine wpList_plain rfl fun _ hK => ?_
  unfold Oper.wp execOp
  have ht : w.there b o vs.size := there_sub hB hn
  simp only [hx, Instr.storeAt, Instr.sureAddr, Sem.run_bind, Sem.run_pure, Result.andThen_ok, run_storeVar_sub w b o T (a.eval y) vs hy ht hi h1]
  obtain ⟨hp, hb⟩ := put_sub vs.toList o w cs hB (by simpa using hn)
  exact hK _ _ (h _ (by rw [hc]; simpa using hb) hp)

/-- The same for an operation that comes up by itself. -/
theorem store_op {P : Program} {a : Act} {w : World} {K : Act → World → Prop} {Q : Exit → Act → World → Prop} {dst : Option Tmp} {T ty : TypeId} {x y : Operand} {pos : String} {af : Array Edge} {b o : Nat} {t : TypeId} {cs cs' vs : Array Value}
    (hB : Blk w b t cs) (hx : a.eval x = .pointer (some ⟨b, o, none⟩)) (hy : (a.eval y).cells = vs) (hc : cs' = (cs.toList.take o ++ vs.toList ++ cs.toList.drop (o + vs.size)).toArray) (hn : o + vs.size ≤ cs.size) (hi : (P.info? T).map (·.size) = some vs.size) (h1 : vs.all (·.oneCell') = true)
    (h : ∀ W, Blk W b t cs' → Put w W b → K (a.put dst undef) W) : ({ dst := dst, op := .store T x y, type := ty, pos := pos, after := af, guard := none } : Oper).wp P a w K Q := by
  unfold Oper.wp execOp
  have ht : w.there b o vs.size := there_sub hB hn
  simp only [hx, Instr.storeAt, Instr.sureAddr, Sem.run_bind, Sem.run_pure, Result.andThen_ok, run_storeVar_sub w b o T (a.eval y) vs hy ht hi h1]
  obtain ⟨hp, hb⟩ := put_sub vs.toList o w cs hB (by simpa using hn)
  exact h _ (by rw [hc]; simpa using hb) hp
theorem range_size : (Tryz.prog.info? 57).map (·.size) = some 2 := by kernel_rfl
theorem values_size : (Tryz.prog.info? 118).map (·.size) = some 12 := by kernel_rfl
theorem dstock_size : (Tryz.prog.info? 80).map (·.size) = some 3 := by kernel_rfl
theorem dtask_size : (Tryz.prog.info? 82).map (·.size) = some 4 := by kernel_rfl
theorem minI (a b : Int) (ats : Array TypeId) (ty : TypeId) : Builtin.min_ ats ty #[.int .i64 a, .int .i64 b] = pure (.int .i64 (min a b)) := by
  have e : (if b < a then b else a) = min a b := by rw [Int.min_def]; split <;> split <;> omega
  simp [Builtin.min_, Builtin.min2, e]
theorem maxI (a b : Int) (ats : Array TypeId) (ty : TypeId) : Builtin.max_ ats ty #[.int .i64 a, .int .i64 b] = pure (.int .i64 (max a b)) := by
  have e : (if a < b then b else a) = max a b := by rw [Int.max_def]; split <;> split <;> omega
  simp [Builtin.max_, Builtin.max2, e]

end Go.Proofs.YtnfbdkdjoekifaaGreatDoor
end
