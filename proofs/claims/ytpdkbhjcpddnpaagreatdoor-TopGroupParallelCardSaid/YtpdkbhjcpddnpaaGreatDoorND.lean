/- A store into a part of a block that is known whole: the block is known whole afterwards. No condition.
Contracts: the square of a unit's ratio (group.RatioSquare), base.IsLowest. -/
import Derived.Test.YtpdkbhjcpddnpaaGreatDoorN5
import Derived.Test.YtpdkbhjcpddnpaaGreatDoorN7
import Derived.Test.YtpdkbhjcpddnpaaGreatDoorNC
import Derived.Test.YtpdkbhjcpddnpaaGreatDoorN8

section
namespace Go.Proofs.YtpdkbhjcpddnpaaGreatDoor
open Go.RowKit
variable {P : Program}

theorem put_sub {b : Nat} {t : TypeId} : ∀ (vs : List Value) (o : Nat) (w : World) (cs : Array Value), Blk w b t cs → o + vs.length ≤ cs.size →
    Put w (w.setCells b o vs) b ∧ Blk (w.setCells b o vs) b t (cs.toList.take o ++ vs ++ cs.toList.drop (o + vs.length)).toArray
  | [], o, w, cs, h, hl => ⟨⟨rfl, fun _ _ => rfl, fun _ _ => Below.refl _ _⟩, by
    simpa [World.setCells] using h⟩
  | v :: r, o, w, cs, h, hl => by
    rw [World.setCells]
    simp only [List.length_cons] at hl
    obtain ⟨hp, hb⟩ := put_sub r (o + 1) (w.setCell ⟨b, o, none⟩ v) (cs.setIfInBounds o v) (h.set_ o v) (by simp; omega)
    refine ⟨⟨hp.size.trans (by simp), fun g hg => (hp.other g hg).trans (Below.heap_setCell w _ _ g hg), fun B hB => ((Below.refl B w).setCell (p := ⟨b, o, none⟩) hB v).trans (hp.below B hB)⟩, ?_⟩
    have ho : o < cs.toList.length := by simp; omega
    have he : (cs.setIfInBounds o v).toList.take (o + 1) ++ r ++ (cs.setIfInBounds o v).toList.drop (o + 1 + r.length) = cs.toList.take o ++ v :: r ++ cs.toList.drop (o + (r.length + 1)) := by
      rw [Array.toList_setIfInBounds, List.take_add_one, List.take_set_of_le (Nat.le_refl _), List.getElem?_set_self ho, List.drop_set_of_lt (by omega)]
      simp [Nat.add_comm, Nat.add_left_comm]
    rw [List.length_cons, ← he]; exact hb

theorem there_sub {w : World} {b o : Nat} {t : TypeId} {cs : Array Value} (h : Blk w b t cs) {n : Nat} (hn : o + n ≤ cs.size) : w.there b o n := fun j hj =>
  ⟨by rw [h.cell]; simp; omega, h.frozen _⟩

theorem run_storeVar_sub (w : World) (b o : Nat) (ty : TypeId) (v : Value) (cells : Array Value) (hv : v.cells = cells) (ht : w.there b o cells.size) (hi : (P.info? ty).map (·.size) = some cells.size) (h1 : cells.all (·.oneCell') = true) :
    (storeVar ty ⟨b, o, none⟩ v).run P w = .ok () (w.setCells b o cells.toList) := by
  have := run_storeCells_cells (P := P) b o cells.toList 0 w (fun j hj => by simpa using (ht j (by simpa using hj)).1) (fun j hj => by simpa using (ht j (by simpa using hj)).2)
    (fun v hv => (Array.all_eq_true_iff_forall_mem.1 h1) v (by simpa using hv))
  cases hq : P.info? ty with
  | none => simp [hq] at hi
  | some i =>
    have hs : cells.size = i.size := by simp [hq] at hi; omega
    simp only [Nat.add_zero] at this
    simp [storeVar, sizeOf, typeInfo, hq, hv, hs, this]

theorem store_sub {ops : Array Oper} {rest : List Oper} {a : Act} {w : World} {Q : Exit → Act → World → Prop} {dst : Option Tmp} {T ty : TypeId} {x y : Operand} {pos : String} {af : Array Edge} {b o : Nat} {t : TypeId} {cs cs' vs : Array Value}
    (hB : Blk w b t cs) (hx : a.eval x = .pointer (some ⟨b, o, none⟩)) (hy : (a.eval y).cells = vs) (hc : cs' = (cs.toList.take o ++ vs.toList ++ cs.toList.drop (o + vs.size)).toArray) (hn : o + vs.size ≤ cs.size) (hi : (P.info? T).map (·.size) = some vs.size) (h1 : vs.all (·.oneCell') = true)
    (h : ∀ W, Blk W b t cs' → Put w W b → wpList P ops Q rest (a.put dst undef) W) : wpList P ops Q ({ dst := dst, op := .store T x y, type := ty, pos := pos, after := af, guard := none } :: rest) a w := by
  refine wpList_plain rfl fun _ hK => ?_
  unfold Oper.wp execOp
  have ht : w.there b o vs.size := there_sub hB hn
  simp only [hx, Instr.storeAt, Instr.sureAddr, Sem.run_bind, Sem.run_pure, Result.andThen_ok, run_storeVar_sub w b o T (a.eval y) vs hy ht hi h1]
  obtain ⟨hp, hb⟩ := put_sub vs.toList o w cs hB (by simpa using hn)
  exact hK _ _ (h _ (by rw [hc]; simpa using hb) hp)

/-- A part of a block is read. -/
theorem load_sub {ops : Array Oper} {rest : List Oper} {a : Act} {w : World} {Q : Exit → Act → World → Prop} {dst : Option Tmp} {T ty : TypeId} {x : Operand} {pos : String} {af : Array Edge} {b o : Nat} {t : TypeId} {cs vs : Array Value} {d : TypeDesc}
    (hB : Blk w b t cs) (hx : a.eval x = .pointer (some ⟨b, o, none⟩)) (hv : vs.toList = (cs.toList.drop o).take vs.size) (hu : P.underlying T = some d) (hd : d.isRow = true) (hi : (P.info? T).map (·.size) = some vs.size)
    (h : wpList P ops Q rest (a.put dst (.agg vs)) w) : wpList P ops Q ({ dst := dst, op := .load T x, type := ty, pos := pos, after := af, guard := none } :: rest) a w :=
  wpList_load_mid rfl T x rfl b o hx vs.toList d (fun j v hj => by
    rw [hv] at hj
    rw [hB.cell]
    have hlt : j < vs.size := by
      have := (List.getElem?_eq_some_iff.1 hj).1
      simp only [List.length_take] at this
      omega
    rw [List.getElem?_take_of_lt hlt, List.getElem?_drop] at hj
    simpa using hj) hu hd (by simpa using hi) (by simpa using h)

end Go.Proofs.YtpdkbhjcpddnpaaGreatDoor
end

section
namespace Go.Proofs.YtpdkbhjcpddnpaaGreatDoor
open Go.RowKit
attribute [local go_sem ↓] Go.wp_at_zero Go.wp_at_succ

set_option maxHeartbeats 1000000 in
theorem baseIsLowest_any (n d : Int) (hn : Sm 4000000000000000000 n) (hd : Sm 4000000000000000000 d) (w : World) :
    Calls Tryz.prog 21 #[.agg #[.int .i64 n, .int .i64 d]] w fun e w' => e = .returned (.bool (lowestB n d)) ∧ Below w.heap.size w w' := by
  have HD := Lib.hid (refGcd_any n d hn hd)
  have hv : lowestB n d = (decide (0 < d) && decide (gcdI n d = 1)) := rfl
  generalize lowestB n d = X at *
  generalize gcdI n d = g at *
  clear hn hd
  by_cases h : 0 < d
  · have HV := Lib.hid (show X = decide (g = 1) by rw [hv]; simp [h])
    clear hv
    go_enter Tryz.func21, Tryz.ntmps21
    go_wp2_with (go_at_call 59; refine (HD.out _).mono ?_; rintro e w1 ⟨rfl, hb1⟩)
    go_ret
    refine ⟨ret_bool ?_, pt (pa pr) hb1⟩
    rw [HV.out]
    first | rfl | (by_cases hg : g = 1 <;> simp [hg])
  · have HV := Lib.hid (show X = false by rw [hv]; simp [h])
    clear hv
    go_enter Tryz.func21, Tryz.ntmps21
    go_wp2
    go_ret
    exact ⟨ret_bool HV.out.symm, pa pr⟩

end Go.Proofs.YtpdkbhjcpddnpaaGreatDoor
end
