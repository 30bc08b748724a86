/- Contracts: the iterator over all permutations; whether terminals are renamed by one. -/
import Derived.Test.YtnhcamokcggnkaaDoorG1Match
import Derived.Test.YtnhcamokcggnkaaDoorARange
import Derived.DeepKeys
namespace Go.Proofs.YtnhcamokcggnkaaDoor
open Go.RowKit Go.Shelf
attribute [local go_sem] Oper.semAt_some

def eq3 (x1 x2 x3 y1 y2 y3 : Int) : Bool := x1 == y1 && x2 == y2 && x3 == y3
set_option maxRecDepth 100000 in
theorem th3_eqlIn (d : Nat) (x1 x2 x3 y1 y2 y3 : Int) (W : World) : (Op.equalIn (d + 2) 36 (.agg #[.int .i64 x1, .int .i64 x2, .int .i64 x3]) (.agg #[.int .i64 y1, .int .i64 y2, .int .i64 y3])).run Tryd.prog W = .ok (eq3 x1 x2 x3 y1 y2 y3) W := by
  have h1 : Tryd.prog.underlying 36 = some (.array 3 3) := by kernel_rfl
  obtain ⟨i, hi⟩ : ∃ i, Tryd.prog.info? 3 = some i := Option.isSome_iff_exists.1 (by kernel_rfl)
  have hp : Tryd.prog.plainKey 3 = true := by kernel_rfl
  have hc : Tryd.prog.cellsOf 3 = 1 := by kernel_rfl
  have hu : Tryd.prog.underlying 3 = some (.int .i64) := by kernel_rfl
  have e1 : ∀ (x y : Int) (W : World), (Op.equalIn (d + 1) 3 (.int .i64 x) (.int .i64 y)).run Tryd.prog W = .ok (x == y) W := fun x y W => by
    simp [Op.equalIn, run_underlying hu]
  have q0 : ∀ x1 x2 x3 W, (part 3 #[.int .i64 x1, .int .i64 x2, .int .i64 x3] 0).run Tryd.prog W = .ok (.int .i64 x1) W := fun _ _ _ W => run_part_plain W hp rfl
  have q1 : ∀ x1 x2 x3 W, (part 3 #[.int .i64 x1, .int .i64 x2, .int .i64 x3] 1).run Tryd.prog W = .ok (.int .i64 x2) W := fun _ _ _ W => run_part_plain W hp rfl
  have q2 : ∀ x1 x2 x3 W, (part 3 #[.int .i64 x1, .int .i64 x2, .int .i64 x3] 2).run Tryd.prog W = .ok (.int .i64 x3) W := fun _ _ _ W => run_part_plain W hp rfl
  rw [run_equalIn_array W (d + 1) _ _ h1 hi, hc, show List.range 3 = [0, 1, 2] from rfl]
  unfold eq3
  by_cases g1 : x1 = y1 <;> by_cases g2 : x2 = y2 <;> by_cases g3 : x3 = y3 <;> simp [Op.eqItems, q0, q1, q2, e1, g1, g2, g3]
theorem th3_eql (x1 x2 x3 y1 y2 y3 : Int) (W : World) : (binOp .eql 36 (.agg #[.int .i64 x1, .int .i64 x2, .int .i64 x3]) (.agg #[.int .i64 y1, .int .i64 y2, .int .i64 y3])).run Tryd.prog W = .ok (.bool (eq3 x1 x2 x3 y1 y2 y3)) W := by
  have h := th3_eqlIn 9998 x1 x2 x3 y1 y2 y3 W
  simp only [show 9998 + 2 = 10000 from rfl] at h
  simp [go_sem, h]

theorem abides_past {β : Type} {B : Nat} {J : β → World → Prop} (hJ : AbidesFrom B J) {s : β} {W W' : World} (h : J s W) (hb : Below W.heap.size W W') : J s W' :=
  hJ s W W' none h ⟨hb.os, hb.tape, hb.output, hb.size, fun i hi _ => hb.block i hi⟩ (fun r e => by cases e)

theorem roundIn_any {m m' : Nat} {P : Program} {l : Nat} {f : FuncId} {tmps : Array Value} {assign body : Code} {w : World} {R : Ending → World → Prop}
    (h : RoundIn Fence.wide m P l f tmps assign body w R) : RoundIn Fence.wide m' P l f tmps assign body w R := ⟨h.1, fun c cs _ => h.2 c cs (room_wide _)⟩

def permEnc (p : V3) : Array Value := #[.agg #[.int .i64 p.a, .int .i64 p.b, .int .i64 p.c]]

set_option maxRecDepth 100000 in
set_option maxHeartbeats 4000000 in
theorem perm_seq (n : Nat) (w0 : World) :
    SeqP n Tryd.prog 98 #[] #[] permEnc (fun _ _ => True) (fun _ _ _ => True)
      (fun xs => xs = permL) (fun pre => pre ≠ [] ∧ pre <+: permL) 6 w0 := by
  intro l J Jx W hW hJ hJx hY h0
  have HY := Lib.hid hY
  have HJ := Lib.hid hJ
  clear hY hJ hJx hW
  refine callsIn_of_wp Tryd.func98 rfl trivial ?_ rfl
  simp only [Tryd.ntmps98, List.size_toArray, List.length_cons, List.length_nil, Nat.reduceAdd, Nat.reduceSub, Array.replicate_succ, Array.replicate_zero, List.push_toArray, List.append_toArray, List.nil_append, List.cons_append]
  gi_wp2
  refine wpIn_loop_rounds 4 ?_
  rw [roundsIn_succ]
  gi_wp2
  refine wpIn_loop_rounds 4 ?_
  rw [roundsIn_succ]
  have j1 := abides_past HJ.out h0 (pa pr : Below W.heap.size W (W.alloc (.cells #[.int .i64 0, .int .i64 0, .int .i64 3] 36)))
  gi_wp2_with (with_reducible refine ⟨(by intro f h; cases h), ?_⟩)
  generalize W.alloc (.cells #[.int .i64 0, .int .i64 0, .int .i64 3] 36) = v1 at *
  clear h0
  rw [roundsIn_succ]
  have j2 := abides_past HJ.out j1 (pa pr : Below v1.heap.size v1 (v1.alloc (.cells #[.int .i64 0, .int .i64 1, .int .i64 2] 36)))
  obtain ⟨fn, tmps, assign, body, hy, hR⟩ := HY.out [] ⟨0, 1, 2⟩ _ j2 trivial (by decide)
  simp only [permEnc, List.nil_append, List.cons_append] at hy hR
  gi_wp2
  refine ⟨(fun h => nomatch h), (roundIn_any hR).mono ?_⟩
  rintro e v2 (⟨rfl, k2, _⟩ | ⟨rfl, k2⟩)
  rotate_left
  · gi_wp2
    refine bodyPost_ret (results_none rfl _ _ _) rfl ?_
    exact ⟨⟨_, rfl⟩, .inr ⟨[⟨0, 1, 2⟩], ⟨by simp, by decide⟩, k2⟩⟩
  gi_wp2
  clear hy hR j2 j1
  rw [roundsIn_succ]
  have j3 := abides_past HJ.out k2 (pa pr : Below v2.heap.size v2 (v2.alloc (.cells #[.int .i64 0, .int .i64 2, .int .i64 1] 36)))
  obtain ⟨fn, tmps, assign, body, hy, hR⟩ := HY.out [⟨0, 1, 2⟩] ⟨0, 2, 1⟩ _ j3 trivial (by decide)
  simp only [permEnc, List.nil_append, List.cons_append] at hy hR
  gi_wp2
  refine ⟨(fun h => nomatch h), (roundIn_any hR).mono ?_⟩
  rintro e v3 (⟨rfl, k3, _⟩ | ⟨rfl, k3⟩)
  rotate_left
  · gi_wp2
    refine bodyPost_ret (results_none rfl _ _ _) rfl ?_
    exact ⟨⟨_, rfl⟩, .inr ⟨[⟨0, 1, 2⟩, ⟨0, 2, 1⟩], ⟨by simp, by decide⟩, k3⟩⟩
  gi_wp2
  clear hy hR j3 k2
  rw [roundsIn_succ]
  gi_wp2
  rw [roundsIn_succ]
  gi_wp2
  refine wpIn_loop_rounds 4 ?_
  rw [roundsIn_succ]
  have j4 := abides_past HJ.out k3 (pa pr : Below v3.heap.size v3 (v3.alloc (.cells #[.int .i64 1, .int .i64 0, .int .i64 2] 36)))
  obtain ⟨fn, tmps, assign, body, hy, hR⟩ := HY.out [⟨0, 1, 2⟩, ⟨0, 2, 1⟩] ⟨1, 0, 2⟩ _ j4 trivial (by decide)
  simp only [permEnc, List.nil_append, List.cons_append] at hy hR
  gi_wp2
  refine ⟨(fun h => nomatch h), (roundIn_any hR).mono ?_⟩
  rintro e v4 (⟨rfl, k4, _⟩ | ⟨rfl, k4⟩)
  rotate_left
  · gi_wp2
    refine bodyPost_ret (results_none rfl _ _ _) rfl ?_
    exact ⟨⟨_, rfl⟩, .inr ⟨[⟨0, 1, 2⟩, ⟨0, 2, 1⟩, ⟨1, 0, 2⟩], ⟨by simp, by decide⟩, k4⟩⟩
  gi_wp2
  clear hy hR j4 k3
  rw [roundsIn_succ]
  have j5 := abides_past HJ.out k4 (pa pr : Below v4.heap.size v4 (v4.alloc (.cells #[.int .i64 1, .int .i64 1, .int .i64 1] 36)))
  gi_wp2_with (with_reducible refine ⟨(by intro f h; cases h), ?_⟩)
  generalize v4.alloc (.cells #[.int .i64 1, .int .i64 1, .int .i64 1] 36) = v5 at *
  clear k4
  rw [roundsIn_succ]
  have j6 := abides_past HJ.out j5 (pa pr : Below v5.heap.size v5 (v5.alloc (.cells #[.int .i64 1, .int .i64 2, .int .i64 0] 36)))
  obtain ⟨fn, tmps, assign, body, hy, hR⟩ := HY.out [⟨0, 1, 2⟩, ⟨0, 2, 1⟩, ⟨1, 0, 2⟩] ⟨1, 2, 0⟩ _ j6 trivial (by decide)
  simp only [permEnc, List.nil_append, List.cons_append] at hy hR
  gi_wp2
  refine ⟨(fun h => nomatch h), (roundIn_any hR).mono ?_⟩
  rintro e v6 (⟨rfl, k6, _⟩ | ⟨rfl, k6⟩)
  rotate_left
  · gi_wp2
    refine bodyPost_ret (results_none rfl _ _ _) rfl ?_
    exact ⟨⟨_, rfl⟩, .inr ⟨[⟨0, 1, 2⟩, ⟨0, 2, 1⟩, ⟨1, 0, 2⟩, ⟨1, 2, 0⟩], ⟨by simp, by decide⟩, k6⟩⟩
  gi_wp2
  clear hy hR j6 j5
  rw [roundsIn_succ]
  gi_wp2
  rw [roundsIn_succ]
  gi_wp2
  refine wpIn_loop_rounds 4 ?_
  rw [roundsIn_succ]
  have j7 := abides_past HJ.out k6 (pa pr : Below v6.heap.size v6 (v6.alloc (.cells #[.int .i64 2, .int .i64 0, .int .i64 1] 36)))
  obtain ⟨fn, tmps, assign, body, hy, hR⟩ := HY.out [⟨0, 1, 2⟩, ⟨0, 2, 1⟩, ⟨1, 0, 2⟩, ⟨1, 2, 0⟩] ⟨2, 0, 1⟩ _ j7 trivial (by decide)
  simp only [permEnc, List.nil_append, List.cons_append] at hy hR
  gi_wp2
  refine ⟨(fun h => nomatch h), (roundIn_any hR).mono ?_⟩
  rintro e v7 (⟨rfl, k7, _⟩ | ⟨rfl, k7⟩)
  rotate_left
  · gi_wp2
    refine bodyPost_ret (results_none rfl _ _ _) rfl ?_
    exact ⟨⟨_, rfl⟩, .inr ⟨[⟨0, 1, 2⟩, ⟨0, 2, 1⟩, ⟨1, 0, 2⟩, ⟨1, 2, 0⟩, ⟨2, 0, 1⟩], ⟨by simp, by decide⟩, k7⟩⟩
  gi_wp2
  clear hy hR j7 k6
  rw [roundsIn_succ]
  have j8 := abides_past HJ.out k7 (pa pr : Below v7.heap.size v7 (v7.alloc (.cells #[.int .i64 2, .int .i64 1, .int .i64 0] 36)))
  obtain ⟨fn, tmps, assign, body, hy, hR⟩ := HY.out [⟨0, 1, 2⟩, ⟨0, 2, 1⟩, ⟨1, 0, 2⟩, ⟨1, 2, 0⟩, ⟨2, 0, 1⟩] ⟨2, 1, 0⟩ _ j8 trivial (by decide)
  simp only [permEnc, List.nil_append, List.cons_append] at hy hR
  gi_wp2
  refine ⟨(fun h => nomatch h), (roundIn_any hR).mono ?_⟩
  rintro e v8 (⟨rfl, k8, _⟩ | ⟨rfl, k8⟩)
  rotate_left
  · gi_wp2
    refine bodyPost_ret (results_none rfl _ _ _) rfl ?_
    exact ⟨⟨_, rfl⟩, .inr ⟨[⟨0, 1, 2⟩, ⟨0, 2, 1⟩, ⟨1, 0, 2⟩, ⟨1, 2, 0⟩, ⟨2, 0, 1⟩, ⟨2, 1, 0⟩], ⟨by simp, by decide⟩, k8⟩⟩
  gi_wp2
  clear hy hR j8 k7
  rw [roundsIn_succ]
  have j9 := abides_past HJ.out k8 (pa pr : Below v8.heap.size v8 (v8.alloc (.cells #[.int .i64 2, .int .i64 2, .int .i64 (-1)] 36)))
  gi_wp2_with (with_reducible refine ⟨(by intro f h; cases h), ?_⟩)
  generalize v8.alloc (.cells #[.int .i64 2, .int .i64 2, .int .i64 (-1)] 36) = v9 at *
  clear k8
  rw [roundsIn_succ]
  gi_wp2
  rw [roundsIn_succ]
  gi_wp2
  go_end0
  exact ⟨⟨_, rfl⟩, .inl ⟨_, rfl, j9⟩⟩

end Go.Proofs.YtnhcamokcggnkaaDoor
