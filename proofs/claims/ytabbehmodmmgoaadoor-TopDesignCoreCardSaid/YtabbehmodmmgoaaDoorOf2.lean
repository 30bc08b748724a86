/- The law TopDesignCore: the walk. Printed by a program (gen_d3top.py). -/
import Derived.Test.YtabbehmodmmgoaaDoorOe4
import Derived.Test.YtabbehmodmmgoaaDoorOe5
import Derived.Test.YtabbehmodmmgoaaDoorOf1

section
namespace Go.Proofs.YtabbehmodmmgoaaDoor
open Go.RowKit


set_option maxRecDepth 100000 in
set_option maxHeartbeats 4000000 in
theorem top_far (B : Nat) (d : Int) (ws : List Int) (A : Option Addr) (n c : Nat) (t dn cd g : Int) (w : World) (hU : UnitIn w) (_hr : IntsIn B w A ws) (_hB : B ≤ w.heap.size) (_hn : ws.length = n) (h0 : withinB d 1 200 = false) :
    Calls Tryd.prog 3 #[.int .i64 d, .slice A n c, .agg #[.int .i64 t, .int .i64 dn, .int .i64 cd, .int .i64 g]] w fun e w' => e = .returned (.bool true) ∧ Below w.heap.size w w' := by
  have HSh := Lib.hid (designShown_any (w.alloc (.cells #[.int .i64 t, .int .i64 dn, .int .i64 cd, .int .i64 g] 24)) (hU.below (pa pr)))
  clear hU _hr _hn
  go_enter Tryd.func3, Tryd.ntmps3
  go_wp2_with (first
    | (go_at_call 7; refine (HSh.out).mono ?_; rintro e w1 ⟨rfl, hb1⟩; have R5 := Lib.hid ((show Blk (w.alloc (.cells #[.int .i64 t, .int .i64 dn, .int .i64 cd, .int .i64 g] 24)) w.heap.size 24 #[.int .i64 t, .int .i64 dn, .int .i64 cd, .int .i64 g] from Blk.newAt rfl).past hb1); have HB1 := Lib.hid (pt (pa pr) hb1); clear hb1; have x0 := R5.out.cellAt 0 rfl; have x1 := R5.out.cellAt 1 rfl; have x2 := R5.out.cellAt 2 rfl; have x3 := R5.out.cellAt 3 rfl; have xl := R5.out.lt)
    | (go_at_call 8; refine (refWithin_any _ _ _ _).mono ?_; rintro e w' ⟨rfl, rfl⟩))
  go_ret
  exact ⟨rfl, HB1.out⟩

set_option maxRecDepth 100000 in
set_option maxHeartbeats 4000000 in
theorem top_none (B : Nat) (d : Int) (ws : List Int) (A : Option Addr) (n c : Nat) (t dn cd g : Int) (w : World) (hU : UnitIn w) (_hr : IntsIn B w A ws) (_hB : B ≤ w.heap.size) (_hn : ws.length = n) (h0 : withinB d 1 200 = true) (hz : n = 0) :
    Calls Tryd.prog 3 #[.int .i64 d, .slice A n c, .agg #[.int .i64 t, .int .i64 dn, .int .i64 cd, .int .i64 g]] w fun e w' => e = .returned (.bool true) ∧ Below w.heap.size w w' := by
  have HSh := Lib.hid (designShown_any (w.alloc (.cells #[.int .i64 t, .int .i64 dn, .int .i64 cd, .int .i64 g] 24)) (hU.below (pa pr)))
  have hz1 : (n : Int) = 0 := by omega
  clear hU _hr _hn
  go_enter Tryd.func3, Tryd.ntmps3
  go_wp2_with (first
    | (go_at_call 7; refine (HSh.out).mono ?_; rintro e w1 ⟨rfl, hb1⟩; have R5 := Lib.hid ((show Blk (w.alloc (.cells #[.int .i64 t, .int .i64 dn, .int .i64 cd, .int .i64 g] 24)) w.heap.size 24 #[.int .i64 t, .int .i64 dn, .int .i64 cd, .int .i64 g] from Blk.newAt rfl).past hb1); have HB1 := Lib.hid (pt (pa pr) hb1); clear hb1; have x0 := R5.out.cellAt 0 rfl; have x1 := R5.out.cellAt 1 rfl; have x2 := R5.out.cellAt 2 rfl; have x3 := R5.out.cellAt 3 rfl; have xl := R5.out.lt)
    | (go_at_call 8; refine (refWithin_any _ _ _ _).mono ?_; rintro e w' ⟨rfl, rfl⟩))
  go_ret
  exact ⟨rfl, HB1.out⟩

set_option maxRecDepth 100000 in
set_option maxHeartbeats 4000000 in
theorem top_many (B : Nat) (d : Int) (ws : List Int) (A : Option Addr) (n c : Nat) (t dn cd g : Int) (w : World) (hU : UnitIn w) (_hr : IntsIn B w A ws) (_hB : B ≤ w.heap.size) (_hn : ws.length = n) (h0 : withinB d 1 200 = true) (hz : ¬ n = 0) (h7 : 7 < n) :
    Calls Tryd.prog 3 #[.int .i64 d, .slice A n c, .agg #[.int .i64 t, .int .i64 dn, .int .i64 cd, .int .i64 g]] w fun e w' => e = .returned (.bool true) ∧ Below w.heap.size w w' := by
  have HSh := Lib.hid (designShown_any (w.alloc (.cells #[.int .i64 t, .int .i64 dn, .int .i64 cd, .int .i64 g] 24)) (hU.below (pa pr)))
  have hz1 : ((n : Int) == 0) = false := by simp; omega
  have hz2 : (7 : Int) < (n : Int) := by omega
  clear hU _hr _hn
  go_enter Tryd.func3, Tryd.ntmps3
  go_wp2_with (first
    | (go_at_call 7; refine (HSh.out).mono ?_; rintro e w1 ⟨rfl, hb1⟩; have R5 := Lib.hid ((show Blk (w.alloc (.cells #[.int .i64 t, .int .i64 dn, .int .i64 cd, .int .i64 g] 24)) w.heap.size 24 #[.int .i64 t, .int .i64 dn, .int .i64 cd, .int .i64 g] from Blk.newAt rfl).past hb1); have HB1 := Lib.hid (pt (pa pr) hb1); clear hb1; have x0 := R5.out.cellAt 0 rfl; have x1 := R5.out.cellAt 1 rfl; have x2 := R5.out.cellAt 2 rfl; have x3 := R5.out.cellAt 3 rfl; have xl := R5.out.lt)
    | (go_at_call 8; refine (refWithin_any _ _ _ _).mono ?_; rintro e w' ⟨rfl, rfl⟩))
  go_ret
  exact ⟨rfl, HB1.out⟩

set_option maxRecDepth 100000 in
set_option maxHeartbeats 4000000 in
theorem top_bad (B : Nat) (d : Int) (ws : List Int) (A : Option Addr) (n c : Nat) (t dn cd g : Int) (w : World) (hU : UnitIn w) (hr : IntsIn B w A ws) (hB : B ≤ w.heap.size) (hn : ws.length = n) (h0 : withinB d 1 200 = true) (hz : ¬ n = 0) (h7 : n ≤ 7) (he : wE d ws ≠ 0) :
    Calls Tryd.prog 3 #[.int .i64 d, .slice A n c, .agg #[.int .i64 t, .int .i64 dn, .int .i64 cd, .int .i64 g]] w fun e w' => e = .returned (.bool true) ∧ Below w.heap.size w w' := by
  have HSh := Lib.hid (designShown_any (w.alloc (.cells #[.int .i64 t, .int .i64 dn, .int .i64 cd, .int .i64 g] 24)) (hU.below (pa pr)))
  have HWe := Lib.hid (fun W (hW : Below w.heap.size w W) => refWidthsErr_any B d ws A n c W (hr.below (hW.mono hB)) (Nat.le_trans hB hW.size) hn (by omega))
  have hz1 : ((n : Int) == 0) = false := by simp; omega
  have hz2 : ¬ (7 : Int) < (n : Int) := by omega
  have he1 : (wE d ws != 0) = true := by simpa using he
  generalize wE d ws = E at *
  clear hU hr hn
  go_enter Tryd.func3, Tryd.ntmps3
  go_wp2_with (first
    | (go_at_call 7; refine (HSh.out).mono ?_; rintro e w1 ⟨rfl, hb1⟩; have R5 := Lib.hid ((show Blk (w.alloc (.cells #[.int .i64 t, .int .i64 dn, .int .i64 cd, .int .i64 g] 24)) w.heap.size 24 #[.int .i64 t, .int .i64 dn, .int .i64 cd, .int .i64 g] from Blk.newAt rfl).past hb1); have HB1 := Lib.hid (pt (pa pr) hb1); clear hb1; have x0 := R5.out.cellAt 0 rfl; have x1 := R5.out.cellAt 1 rfl; have x2 := R5.out.cellAt 2 rfl; have x3 := R5.out.cellAt 3 rfl; have xl := R5.out.lt)
    | (go_at_call 9; refine (HWe.out _ HB1.out).mono ?_; rintro e w2 ⟨rfl, hb2⟩; have R6 := Lib.hid (R5.out.past hb2); have HB2 := Lib.hid (pt HB1.out hb2); clear hb2 x0 x1 x2 x3 xl; have x0 := R6.out.cellAt 0 rfl; have x1 := R6.out.cellAt 1 rfl; have x2 := R6.out.cellAt 2 rfl; have x3 := R6.out.cellAt 3 rfl; have xl := R6.out.lt)
    | (go_at_call 8; refine (refWithin_any _ _ _ _).mono ?_; rintro e w' ⟨rfl, rfl⟩))
  go_ret
  exact ⟨rfl, HB2.out⟩

set_option maxRecDepth 100000 in
set_option maxHeartbeats 4000000 in
theorem top_odd (B : Nat) (d : Int) (ws : List Int) (A : Option Addr) (n c : Nat) (t dn cd g : Int) (w : World) (hU : UnitIn w) (hr : IntsIn B w A ws) (hB : B ≤ w.heap.size) (hn : ws.length = n) (h0 : withinB d 1 200 = true) (hz : ¬ n = 0) (h7 : n ≤ 7) (he : wE d ws = 0) (hi : windE t dn cd g ≠ 0) :
    Calls Tryd.prog 3 #[.int .i64 d, .slice A n c, .agg #[.int .i64 t, .int .i64 dn, .int .i64 cd, .int .i64 g]] w fun e w' => e = .returned (.bool true) ∧ Below w.heap.size w w' := by
  have HSh := Lib.hid (designShown_any (w.alloc (.cells #[.int .i64 t, .int .i64 dn, .int .i64 cd, .int .i64 g] 24)) (hU.below (pa pr)))
  have HWe := Lib.hid (fun W (hW : Below w.heap.size w W) => refWidthsErr_any B d ws A n c W (hr.below (hW.mono hB)) (Nat.le_trans hB hW.size) hn (by omega))
  have HWi := Lib.hid (fun W => refWindingErr_any t dn cd g W)
  rw [he] at HWe
  have hz1 : ((n : Int) == 0) = false := by simp; omega
  have hz2 : ¬ (7 : Int) < (n : Int) := by omega
  have hi1 : (windE t dn cd g != 0) = true := by simpa using hi
  generalize windE t dn cd g = E at *
  clear hU hr hn
  go_enter Tryd.func3, Tryd.ntmps3
  go_wp2_with (first
    | (go_at_call 7; refine (HSh.out).mono ?_; rintro e w1 ⟨rfl, hb1⟩; have R5 := Lib.hid ((show Blk (w.alloc (.cells #[.int .i64 t, .int .i64 dn, .int .i64 cd, .int .i64 g] 24)) w.heap.size 24 #[.int .i64 t, .int .i64 dn, .int .i64 cd, .int .i64 g] from Blk.newAt rfl).past hb1); have HB1 := Lib.hid (pt (pa pr) hb1); clear hb1; have x0 := R5.out.cellAt 0 rfl; have x1 := R5.out.cellAt 1 rfl; have x2 := R5.out.cellAt 2 rfl; have x3 := R5.out.cellAt 3 rfl; have xl := R5.out.lt)
    | (go_at_call 9; refine (HWe.out _ HB1.out).mono ?_; rintro e w2 ⟨rfl, hb2⟩; have R6 := Lib.hid (R5.out.past hb2); have HB2 := Lib.hid (pt HB1.out hb2); clear hb2 x0 x1 x2 x3 xl; have x0 := R6.out.cellAt 0 rfl; have x1 := R6.out.cellAt 1 rfl; have x2 := R6.out.cellAt 2 rfl; have x3 := R6.out.cellAt 3 rfl; have xl := R6.out.lt)
    | (go_at_call 10; refine (HWi.out _).mono ?_; rintro e w3 ⟨rfl, hb3⟩; have R7 := Lib.hid (R6.out.past hb3); have HB3 := Lib.hid (pt HB2.out hb3); clear hb3 x0 x1 x2 x3 xl; have x0 := R7.out.cellAt 0 rfl; have x1 := R7.out.cellAt 1 rfl; have x2 := R7.out.cellAt 2 rfl; have x3 := R7.out.cellAt 3 rfl; have xl := R7.out.lt)
    | (go_at_call 8; refine (refWithin_any _ _ _ _).mono ?_; rintro e w' ⟨rfl, rfl⟩))
  go_ret
  exact ⟨rfl, HB3.out⟩

end Go.Proofs.YtabbehmodmmgoaaDoor
end
