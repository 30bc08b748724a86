/- A store into a part of a block that is known whole: the block is known whole afterwards. No condition.
Contracts: the square of a unit's ratio (group.RatioSquare), base.IsLowest. -/
import Derived.Test.YtpdkbhjcpddnpaaGreatDoorN5
import Derived.Test.YtpdkbhjcpddnpaaGreatDoorN7
import Derived.Test.YtpdkbhjcpddnpaaGreatDoorNC
import Derived.Test.YtpdkbhjcpddnpaaGreatDoorN8

section
namespace Go.Proofs.YtpdkbhjcpddnpaaGreatDoor
open Go.RowKit
variable {P : Program}

theorem put_sub {b : Nat} {t : TypeId} : ∀ (vs : List Value) (o : Nat) (w : World) (cs : Array Value), Blk w b t cs → o + vs.length ≤ cs.size →
    Put w (w.setCells b o vs) b ∧ Blk (w.setCells b o vs) b t (cs.toList.take o ++ vs ++ cs.toList.drop (o + vs.length)).toArray
  | [], o, w, cs, h, hl => ⟨⟨rfl, fun _ _ => rfl, fun _ _ => Below.refl _ _⟩, by
    simpa [World.setCells] using h⟩
  | v :: r, o, w, cs, h, hl => by
    rw [World.setCells]
    simp only [List.length_cons] at hl
    obtain ⟨hp, hb⟩ := put_sub r (o + 1) (w.setCell ⟨b, o, none⟩ v) (cs.setIfInBounds o v) (h.set_ o v) (by simp; omega)
    refine ⟨⟨hp.size.trans (by simp), fun g hg => (hp.other g hg).trans (Below.heap_setCell w _ _ g hg), fun B hB => ((Below.refl B w).setCell (p := ⟨b, o, none⟩) hB v).trans (hp.below B hB)⟩, ?_⟩
    have ho : o < cs.toList.length := by simp; omega
    have he : (cs.setIfInBounds o v).toList.take (o + 1) ++ r ++ (cs.setIfInBounds o v).toList.drop (o + 1 + r.length) = cs.toList.take o ++ v :: r ++ cs.toList.drop (o + (r.length + 1)) := by
      rw [Array.toList_setIfInBounds, List.take_add_one, List.take_set_of_le (Nat.le_refl _), List.getElem?_set_self ho, List.drop_set_of_lt (by omega)]
      simp [Nat.add_comm, Nat.add_left_comm]
    rw [List.length_cons, ← he]; exact hb

theorem there_sub {w : World} {b o : Nat} {t : TypeId} {cs : Array Value} (h : Blk w b t cs) {n : Nat} (hn : o + n ≤ cs.size) : w.there b o n := fun j hj =>
  ⟨by rw [h.cell]; simp; omega, h.frozen _⟩

theorem run_storeVar_sub (w : World) (b o : Nat) (ty : TypeId) (v : Value) (cells : Array Value) (hv : v.cells = cells) (ht : w.there b o cells.size) (hi : (P.info? ty).map (·.size) = some cells.size) (h1 : cells.all (·.oneCell') = true) :
    (storeVar ty ⟨b, o, none⟩ v).run P w = .ok () (w.setCells b o cells.toList) := by
  have := run_storeCells_cells (P := P) b o cells.toList 0 w (fun j hj => by simpa using (ht j (by simpa using hj)).1) (fun j hj => by simpa using (ht j (by simpa using hj)).2)
    (fun v hv => (Array.all_eq_true_iff_forall_mem.1 h1) v (by simpa using hv))
  cases hq : P.info? ty with
  | none => simp [hq] at hi
  | some i =>
    have hs : cells.size = i.size := by simp [hq] at hi; omega
    simp only [Nat.add_zero] at this
    simp [storeVar, sizeOf, typeInfo, hq, hv, hs, this]

theorem store_sub {ops : Array Oper} {rest : List Oper} {a : Act} {w : World} {Q : Exit → Act → World → Prop} {dst : Option Tmp} {T ty : TypeId} {x y : Operand} {pos : String} {af : Array Edge} {b o : Nat} {t : TypeId} {cs cs' vs : Array Value}
    (hB : Blk w b t cs) (hx : a.eval x = .pointer (some ⟨b, o, none⟩)) (hy : (a.eval y).cells = vs) (hc : cs' = (cs.toList.take o ++ vs.toList ++ cs.toList.drop (o + vs.size)).toArray) (hn : o + vs.size ≤ cs.size) (hi : (P.info? T).map (·.size) = some vs.size) (h1 : vs.all (·.oneCell') = true)
    (h : ∀ W, Blk W b t cs' → Put w W b → wpList P ops Q rest (a.put dst undef) W) : wpList P ops Q ({ dst := dst, op := .store T x y, type := ty, pos := pos, after := af, guard := none } :: rest) a w := by
  refine wpList_plain rfl fun _ hK => ?_
  unfold Oper.wp execOp
  have ht : w.there b o vs.size := there_sub hB hn
  simp only [hx, Instr.storeAt, Instr.sureAddr, Sem.run_bind, Sem.run_pure, Result.andThen_ok, run_storeVar_sub w b o T (a.eval y) vs hy ht hi h1]
  obtain ⟨hp, hb⟩ := put_sub vs.toList o w cs hB (by simpa using hn)
  exact hK _ _ (h _ (by rw [hc]; simpa using hb) hp)

/-- A part of a block is read. -/
theorem load_sub {ops : Array Oper} {rest : List Oper} {a : Act} {w : World} {Q : Exit → Act → World → Prop} {dst : Option Tmp} {T ty : TypeId} {x : Operand} {pos : String} {af : Array Edge} {b o : Nat} {t : TypeId} {cs vs : Array Value} {d : TypeDesc}
    (hB : Blk w b t cs) (hx : a.eval x = .pointer (some ⟨b, o, none⟩)) (hv : vs.toList = (cs.toList.drop o).take vs.size) (hu : P.underlying T = some d) (hd : d.isRow = true) (hi : (P.info? T).map (·.size) = some vs.size)
    (h : wpList P ops Q rest (a.put dst (.agg vs)) w) : wpList P ops Q ({ dst := dst, op := .load T x, type := ty, pos := pos, after := af, guard := none } :: rest) a w :=
  wpList_load_mid rfl T x rfl b o hx vs.toList d (fun j v hj => by
    rw [hv] at hj
    rw [hB.cell]
    have hlt : j < vs.size := by
      have := (List.getElem?_eq_some_iff.1 hj).1
      simp only [List.length_take] at this
      omega
    rw [List.getElem?_take_of_lt hlt, List.getElem?_drop] at hj
    simpa using hj) hu hd (by simpa using hi) (by simpa using h)

end Go.Proofs.YtpdkbhjcpddnpaaGreatDoor
end

section
namespace Go.Proofs.YtpdkbhjcpddnpaaGreatDoor
open Go.RowKit
attribute [local go_sem ↓] Go.wp_at_zero Go.wp_at_succ

theorem fracU_size : (Tryz.prog.info? 59).map (·.size) = some 2 := by kernel_rfl
set_option maxHeartbeats 4000000 in
theorem RatioSquare_err (k t s : Int) (r : Bool) (k2 t2 s2 : Int) (r2 : Bool) (n : Int) (he : unitE k t s k2 t2 s2 n ≠ 0) (w : World) :
    Calls Tryz.prog 19 #[.agg #[.int .i64 k, .int .i64 t, .int .i64 s, .bool r, .int .i64 k2, .int .i64 t2, .int .i64 s2, .bool r2, .int .i64 n]] w fun z w' => z = .returned (.tuple #[.agg #[.int .i64 0, .int .i64 0], .int .i64 (unitE k t s k2 t2 s2 n)]) ∧ Below w.heap.size w w' := by
  have HC := Lib.hid (checkUnit_any k t s r k2 t2 s2 r2 n)
  have hne : (unitE k t s k2 t2 s2 n == 0) = false := by simpa using he
  generalize unitE k t s k2 t2 s2 n = E at *
  clear he
  go_enter Tryz.func19, Tryz.ntmps19
  go_wp2_with (first
    | (go_at_call 56; (with_reducible refine (HC.out _).mono ?_); rintro e w1_ ⟨rfl, h1_⟩; have A_1 : Blk w1_ (w.heap.size) 48 #[.int .i64 k, .int .i64 t, .int .i64 s, .bool r, .int .i64 k2, .int .i64 t2, .int .i64 s2, .bool r2, .int .i64 n] := (Blk.newAt (by simp)).alloc.past h1_; have R_1 : Blk w1_ (w.heap.size + 1) 59 #[.int .i64 0, .int .i64 0] := (Blk.newAt (by simp)).past h1_; have ne_R_A : w.heap.size + 1 ≠ w.heap.size := (by omega); have ge_R : w.heap.size ≤ w.heap.size + 1 := (by omega); have S_1 := pt (pa (pa (pr))) h1_; have Ac0 := A_1.cellAt 0 rfl; have Ac1 := A_1.cellAt 1 rfl; have Ac2 := A_1.cellAt 2 rfl; have Ac3 := A_1.cellAt 3 rfl; have Ac4 := A_1.cellAt 4 rfl; have Ac5 := A_1.cellAt 5 rfl; have Ac6 := A_1.cellAt 6 rfl; have Ac7 := A_1.cellAt 7 rfl; have Ac8 := A_1.cellAt 8 rfl; have Al := A_1.lt; have Rc0 := R_1.cellAt 0 rfl; have Rc1 := R_1.cellAt 1 rfl; have Rl := R_1.lt; clear h1_)
    | ((with_reducible refine store_sub (T := 59) (x := .tmp 2) (y := .tmp 9) (o := 0) (cs' := #[.int .i64 0, .int .i64 0]) (vs := #[.int .i64 0, .int .i64 0]) (show Blk _ (w.heap.size + 1) 59 #[.int .i64 0, .int .i64 0] from (R_1)) ?_ ?_ ?_ ?_ ?_ ?_ ?_); (focus rfl); (focus rfl); (focus rfl); (focus exact Nat.le_of_ble_eq_true rfl); (focus exact fracU_size); (focus (simp [Value.oneCell']; done)); intro w2_ b2_ h2_; have A_2 : Blk w2_ (w.heap.size) 48 #[.int .i64 k, .int .i64 t, .int .i64 s, .bool r, .int .i64 k2, .int .i64 t2, .int .i64 s2, .bool r2, .int .i64 n] := (A_1).put h2_ (Ne.symm ne_R_A); have R_2 : Blk w2_ (w.heap.size + 1) 59 #[.int .i64 0, .int .i64 0] := b2_; have S_2 := pp (S_1) h2_ ge_R; clear A_1 R_1 S_1 Ac0 Ac1 Ac2 Ac3 Ac4 Ac5 Ac6 Ac7 Ac8 Al Rc0 Rc1 Rl; clear h2_ b2_))
  have z0 := R_2.cellAt 0 rfl
  have z1 := R_2.cellAt 1 rfl
  exact bodyPost_ret (v := .tuple #[.agg #[.int .i64 0, .int .i64 0], .int .i64 E]) (by simp [results, Tryz.results19, go_sem, z0, z1]) rfl ⟨rfl, S_2⟩

set_option maxHeartbeats 4000000 in
theorem RatioSquare_ok (k t s : Int) (r : Bool) (k2 t2 s2 : Int) (r2 : Bool) (n : Int) (he : unitE k t s k2 t2 s2 n = 0) (w : World) (hP : PatIn w) :
    Calls Tryz.prog 19 #[.agg #[.int .i64 k, .int .i64 t, .int .i64 s, .bool r, .int .i64 k2, .int .i64 t2, .int .i64 s2, .bool r2, .int .i64 n]] w fun z w' => z = .returned (.tuple #[.agg #[.int .i64 (ratN (sqW k t) (sqW k2 t2)), .int .i64 (ratD (sqW k t) (sqW k2 t2))], .int .i64 0]) ∧ Below w.heap.size w w' := by
  have HC := Lib.hid (checkUnit_any k t s r k2 t2 s2 r2 n)
  obtain ⟨u1, u2, _, _⟩ := unitE_ok r r2 he
  rw [he] at HC
  have HR := Lib.hid (ratio_any k t s r k2 t2 s2 r2 n u1 u2)
  have HP := Lib.hid (fun w' (h : Below w.heap.size w w') => hP.below h)
  generalize ratN (sqW k t) (sqW k2 t2) = x at *
  generalize ratD (sqW k t) (sqW k2 t2) = y at *
  clear he u1 u2 hP
  go_enter Tryz.func19, Tryz.ntmps19
  go_wp2_with (first
    | (go_at_call 56; (with_reducible refine (HC.out _).mono ?_); rintro e w1_ ⟨rfl, h1_⟩; have A_1 : Blk w1_ (w.heap.size) 48 #[.int .i64 k, .int .i64 t, .int .i64 s, .bool r, .int .i64 k2, .int .i64 t2, .int .i64 s2, .bool r2, .int .i64 n] := (Blk.newAt (by simp)).alloc.past h1_; have R_1 : Blk w1_ (w.heap.size + 1) 59 #[.int .i64 0, .int .i64 0] := (Blk.newAt (by simp)).past h1_; have ne_R_A : w.heap.size + 1 ≠ w.heap.size := (by omega); have ge_R : w.heap.size ≤ w.heap.size + 1 := (by omega); have S_1 := pt (pa (pa (pr))) h1_; have Rc0 := R_1.cellAt 0 rfl; have Rc1 := R_1.cellAt 1 rfl; have Rl := R_1.lt; clear h1_)
    | ((with_reducible refine load_sub (T := 48) (x := .tmp 1) (o := 0) (vs := #[.int .i64 k, .int .i64 t, .int .i64 s, .bool r, .int .i64 k2, .int .i64 t2, .int .i64 s2, .bool r2, .int .i64 n]) (show Blk _ (w.heap.size) 48 #[.int .i64 k, .int .i64 t, .int .i64 s, .bool r, .int .i64 k2, .int .i64 t2, .int .i64 s2, .bool r2, .int .i64 n] from (A_1)) ?_ ?_ Tryz.underlying48 ?_ ?_ ?_); (focus rfl); (focus rfl); (focus rfl); (focus exact apiUnit_size))
    | (go_at_call 58; (with_reducible refine (HR.out _ (HP.out _ (S_1))).mono ?_); rintro e w2_ ⟨rfl, h2_⟩; have A_2 : Blk w2_ (w.heap.size) 48 #[.int .i64 k, .int .i64 t, .int .i64 s, .bool r, .int .i64 k2, .int .i64 t2, .int .i64 s2, .bool r2, .int .i64 n] := (A_1).past h2_; have R_2 : Blk w2_ (w.heap.size + 1) 59 #[.int .i64 0, .int .i64 0] := (R_1).past h2_; have S_2 := pt (S_1) h2_; clear A_1 R_1 S_1 Rc0 Rc1 Rl; have Rc0 := R_2.cellAt 0 rfl; have Rc1 := R_2.cellAt 1 rfl; have Rl := R_2.lt; clear h2_)
    | ((with_reducible refine store_sub (T := 59) (x := .tmp 2) (y := .tmp 12) (o := 0) (cs' := #[.int .i64 x, .int .i64 y]) (vs := #[.int .i64 x, .int .i64 y]) (show Blk _ (w.heap.size + 1) 59 #[.int .i64 0, .int .i64 0] from (R_2)) ?_ ?_ ?_ ?_ ?_ ?_ ?_); (focus rfl); (focus rfl); (focus rfl); (focus exact Nat.le_of_ble_eq_true rfl); (focus exact fracU_size); (focus (simp [Value.oneCell']; done)); intro w3_ b3_ h3_; have A_3 : Blk w3_ (w.heap.size) 48 #[.int .i64 k, .int .i64 t, .int .i64 s, .bool r, .int .i64 k2, .int .i64 t2, .int .i64 s2, .bool r2, .int .i64 n] := (A_2).put h3_ (Ne.symm ne_R_A); have R_3 : Blk w3_ (w.heap.size + 1) 59 #[.int .i64 x, .int .i64 y] := b3_; have S_3 := pp (S_2) h3_ ge_R; clear A_2 R_2 S_2 Rc0 Rc1 Rl; clear h3_ b3_))
  have z0 := R_3.cellAt 0 rfl
  have z1 := R_3.cellAt 1 rfl
  exact bodyPost_ret (v := .tuple #[.agg #[.int .i64 x, .int .i64 y], .int .i64 0]) (by simp [results, Tryz.results19, go_sem, z0, z1]) rfl ⟨rfl, S_3⟩

set_option maxHeartbeats 1000000 in
theorem baseIsLowest_any (n d : Int) (hn : Sm 4000000000000000000 n) (hd : Sm 4000000000000000000 d) (w : World) :
    Calls Tryz.prog 21 #[.agg #[.int .i64 n, .int .i64 d]] w fun e w' => e = .returned (.bool (lowestB n d)) ∧ Below w.heap.size w w' := by
  have HD := Lib.hid (refGcd_any n d hn hd)
  have hv : lowestB n d = (decide (0 < d) && decide (gcdI n d = 1)) := rfl
  generalize lowestB n d = X at *
  generalize gcdI n d = g at *
  clear hn hd
  by_cases h : 0 < d
  · have HV := Lib.hid (show X = decide (g = 1) by rw [hv]; simp [h])
    clear hv
    go_enter Tryz.func21, Tryz.ntmps21
    go_wp2_with (go_at_call 59; refine (HD.out _).mono ?_; rintro e w1 ⟨rfl, hb1⟩)
    go_ret
    refine ⟨ret_bool ?_, pt (pa pr) hb1⟩
    rw [HV.out]
    first | rfl | (by_cases hg : g = 1 <;> simp [hg])
  · have HV := Lib.hid (show X = false by rw [hv]; simp [h])
    clear hv
    go_enter Tryz.func21, Tryz.ntmps21
    go_wp2
    go_ret
    exact ⟨ret_bool HV.out.symm, pa pr⟩

end Go.Proofs.YtpdkbhjcpddnpaaGreatDoor
end
