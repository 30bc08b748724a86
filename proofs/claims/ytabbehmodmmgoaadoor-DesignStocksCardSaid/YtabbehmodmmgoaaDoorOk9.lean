/- Contract: Undominated (package design). Printed by a program (gen_d7dun.py). -/
import Derived.Test.YtabbehmodmmgoaaDoorOk8

section
namespace Go.Proofs.YtabbehmodmmgoaaDoor
open Go.RowKit

def cbV (a b : DPart) (j k : Nat) : Bool := decide (j ≠ k) && goodB a b && (decide (j < k) || !goodB b a)
set_option maxHeartbeats 4000000 in
set_option maxRecDepth 100000 in
theorem undCb_any (a b : DPart) (j k : Nat) (ib ob : Nat) (w : World) (hi : Blk w ib 3 #[.int .i64 (k : Int)]) (ho : Blk w ob 87 #[.string b.name, .int .i64 b.price, .int .i64 (valP b 0).1, .int .i64 (valP b 0).2, .int .i64 (valP b 1).1, .int .i64 (valP b 1).2, .int .i64 (valP b 2).1, .int .i64 (valP b 2).2, .int .i64 (valP b 3).1, .int .i64 (valP b 3).2, .int .i64 (valP b 4).1, .int .i64 (valP b 4).2, .int .i64 (valP b 5).1, .int .i64 (valP b 5).2]) :
    Calls Tryd.prog 50 #[.int .i64 (j : Int), .agg #[.string a.name, .int .i64 a.price, .int .i64 (valP a 0).1, .int .i64 (valP a 0).2, .int .i64 (valP a 1).1, .int .i64 (valP a 1).2, .int .i64 (valP a 2).1, .int .i64 (valP a 2).2, .int .i64 (valP a 3).1, .int .i64 (valP a 3).2, .int .i64 (valP a 4).1, .int .i64 (valP a 4).2, .int .i64 (valP a 5).1, .int .i64 (valP a 5).2], .pointer (some ⟨ib, 0, none⟩), .pointer (some ⟨ob, 0, none⟩)] w fun e w' => e = .returned (.bool (cbV a b j k)) ∧ Below w.heap.size w w' := by
  have HV := Lib.hid (show cbV a b j k = (decide (j ≠ k) && goodB a b && (decide (j < k) || !goodB b a)) from rfl)
  have HD1 := Lib.hid (fun W => isAsGood_any a b W)
  have HD2 := Lib.hid (fun W => isAsGood_any b a W)
  have KI := Lib.hid hi
  have KO := Lib.hid ho
  have HB0 := Lib.hid (show Below w.heap.size w (w.alloc (.cells #[.string a.name, .int .i64 a.price, .int .i64 (valP a 0).1, .int .i64 (valP a 0).2, .int .i64 (valP a 1).1, .int .i64 (valP a 1).2, .int .i64 (valP a 2).1, .int .i64 (valP a 2).2, .int .i64 (valP a 3).1, .int .i64 (valP a 3).2, .int .i64 (valP a 4).1, .int .i64 (valP a 4).2, .int .i64 (valP a 5).1, .int .i64 (valP a 5).2] 87)) from pa pr)
  have RA := Lib.hid (show Blk (w.alloc (.cells #[.string a.name, .int .i64 a.price, .int .i64 (valP a 0).1, .int .i64 (valP a 0).2, .int .i64 (valP a 1).1, .int .i64 (valP a 1).2, .int .i64 (valP a 2).1, .int .i64 (valP a 2).2, .int .i64 (valP a 3).1, .int .i64 (valP a 3).2, .int .i64 (valP a 4).1, .int .i64 (valP a 4).2, .int .i64 (valP a 5).1, .int .i64 (valP a 5).2] 87)) w.heap.size 87 #[.string a.name, .int .i64 a.price, .int .i64 (valP a 0).1, .int .i64 (valP a 0).2, .int .i64 (valP a 1).1, .int .i64 (valP a 1).2, .int .i64 (valP a 2).1, .int .i64 (valP a 2).2, .int .i64 (valP a 3).1, .int .i64 (valP a 3).2, .int .i64 (valP a 4).1, .int .i64 (valP a 4).2, .int .i64 (valP a 5).1, .int .i64 (valP a 5).2] from Blk.newAt rfl)
  have x0 := (KI.out.alloc (o := .cells #[.string a.name, .int .i64 a.price, .int .i64 (valP a 0).1, .int .i64 (valP a 0).2, .int .i64 (valP a 1).1, .int .i64 (valP a 1).2, .int .i64 (valP a 2).1, .int .i64 (valP a 2).2, .int .i64 (valP a 3).1, .int .i64 (valP a 3).2, .int .i64 (valP a 4).1, .int .i64 (valP a 4).2, .int .i64 (valP a 5).1, .int .i64 (valP a 5).2] 87)).cellAt 0 rfl
  have xl := (KI.out.alloc (o := .cells #[.string a.name, .int .i64 a.price, .int .i64 (valP a 0).1, .int .i64 (valP a 0).2, .int .i64 (valP a 1).1, .int .i64 (valP a 1).2, .int .i64 (valP a 2).1, .int .i64 (valP a 2).2, .int .i64 (valP a 3).1, .int .i64 (valP a 3).2, .int .i64 (valP a 4).1, .int .i64 (valP a 4).2, .int .i64 (valP a 5).1, .int .i64 (valP a 5).2] 87)).lt
  have u0 := (KO.out.alloc (o := .cells #[.string a.name, .int .i64 a.price, .int .i64 (valP a 0).1, .int .i64 (valP a 0).2, .int .i64 (valP a 1).1, .int .i64 (valP a 1).2, .int .i64 (valP a 2).1, .int .i64 (valP a 2).2, .int .i64 (valP a 3).1, .int .i64 (valP a 3).2, .int .i64 (valP a 4).1, .int .i64 (valP a 4).2, .int .i64 (valP a 5).1, .int .i64 (valP a 5).2] 87)).cellAt 0 rfl
  have u1 := (KO.out.alloc (o := .cells #[.string a.name, .int .i64 a.price, .int .i64 (valP a 0).1, .int .i64 (valP a 0).2, .int .i64 (valP a 1).1, .int .i64 (valP a 1).2, .int .i64 (valP a 2).1, .int .i64 (valP a 2).2, .int .i64 (valP a 3).1, .int .i64 (valP a 3).2, .int .i64 (valP a 4).1, .int .i64 (valP a 4).2, .int .i64 (valP a 5).1, .int .i64 (valP a 5).2] 87)).cellAt 1 rfl
  have u2 := (KO.out.alloc (o := .cells #[.string a.name, .int .i64 a.price, .int .i64 (valP a 0).1, .int .i64 (valP a 0).2, .int .i64 (valP a 1).1, .int .i64 (valP a 1).2, .int .i64 (valP a 2).1, .int .i64 (valP a 2).2, .int .i64 (valP a 3).1, .int .i64 (valP a 3).2, .int .i64 (valP a 4).1, .int .i64 (valP a 4).2, .int .i64 (valP a 5).1, .int .i64 (valP a 5).2] 87)).cellAt 2 rfl
  have u3 := (KO.out.alloc (o := .cells #[.string a.name, .int .i64 a.price, .int .i64 (valP a 0).1, .int .i64 (valP a 0).2, .int .i64 (valP a 1).1, .int .i64 (valP a 1).2, .int .i64 (valP a 2).1, .int .i64 (valP a 2).2, .int .i64 (valP a 3).1, .int .i64 (valP a 3).2, .int .i64 (valP a 4).1, .int .i64 (valP a 4).2, .int .i64 (valP a 5).1, .int .i64 (valP a 5).2] 87)).cellAt 3 rfl
  have u4 := (KO.out.alloc (o := .cells #[.string a.name, .int .i64 a.price, .int .i64 (valP a 0).1, .int .i64 (valP a 0).2, .int .i64 (valP a 1).1, .int .i64 (valP a 1).2, .int .i64 (valP a 2).1, .int .i64 (valP a 2).2, .int .i64 (valP a 3).1, .int .i64 (valP a 3).2, .int .i64 (valP a 4).1, .int .i64 (valP a 4).2, .int .i64 (valP a 5).1, .int .i64 (valP a 5).2] 87)).cellAt 4 rfl
  have u5 := (KO.out.alloc (o := .cells #[.string a.name, .int .i64 a.price, .int .i64 (valP a 0).1, .int .i64 (valP a 0).2, .int .i64 (valP a 1).1, .int .i64 (valP a 1).2, .int .i64 (valP a 2).1, .int .i64 (valP a 2).2, .int .i64 (valP a 3).1, .int .i64 (valP a 3).2, .int .i64 (valP a 4).1, .int .i64 (valP a 4).2, .int .i64 (valP a 5).1, .int .i64 (valP a 5).2] 87)).cellAt 5 rfl
  have u6 := (KO.out.alloc (o := .cells #[.string a.name, .int .i64 a.price, .int .i64 (valP a 0).1, .int .i64 (valP a 0).2, .int .i64 (valP a 1).1, .int .i64 (valP a 1).2, .int .i64 (valP a 2).1, .int .i64 (valP a 2).2, .int .i64 (valP a 3).1, .int .i64 (valP a 3).2, .int .i64 (valP a 4).1, .int .i64 (valP a 4).2, .int .i64 (valP a 5).1, .int .i64 (valP a 5).2] 87)).cellAt 6 rfl
  have u7 := (KO.out.alloc (o := .cells #[.string a.name, .int .i64 a.price, .int .i64 (valP a 0).1, .int .i64 (valP a 0).2, .int .i64 (valP a 1).1, .int .i64 (valP a 1).2, .int .i64 (valP a 2).1, .int .i64 (valP a 2).2, .int .i64 (valP a 3).1, .int .i64 (valP a 3).2, .int .i64 (valP a 4).1, .int .i64 (valP a 4).2, .int .i64 (valP a 5).1, .int .i64 (valP a 5).2] 87)).cellAt 7 rfl
  have u8 := (KO.out.alloc (o := .cells #[.string a.name, .int .i64 a.price, .int .i64 (valP a 0).1, .int .i64 (valP a 0).2, .int .i64 (valP a 1).1, .int .i64 (valP a 1).2, .int .i64 (valP a 2).1, .int .i64 (valP a 2).2, .int .i64 (valP a 3).1, .int .i64 (valP a 3).2, .int .i64 (valP a 4).1, .int .i64 (valP a 4).2, .int .i64 (valP a 5).1, .int .i64 (valP a 5).2] 87)).cellAt 8 rfl
  have u9 := (KO.out.alloc (o := .cells #[.string a.name, .int .i64 a.price, .int .i64 (valP a 0).1, .int .i64 (valP a 0).2, .int .i64 (valP a 1).1, .int .i64 (valP a 1).2, .int .i64 (valP a 2).1, .int .i64 (valP a 2).2, .int .i64 (valP a 3).1, .int .i64 (valP a 3).2, .int .i64 (valP a 4).1, .int .i64 (valP a 4).2, .int .i64 (valP a 5).1, .int .i64 (valP a 5).2] 87)).cellAt 9 rfl
  have u10 := (KO.out.alloc (o := .cells #[.string a.name, .int .i64 a.price, .int .i64 (valP a 0).1, .int .i64 (valP a 0).2, .int .i64 (valP a 1).1, .int .i64 (valP a 1).2, .int .i64 (valP a 2).1, .int .i64 (valP a 2).2, .int .i64 (valP a 3).1, .int .i64 (valP a 3).2, .int .i64 (valP a 4).1, .int .i64 (valP a 4).2, .int .i64 (valP a 5).1, .int .i64 (valP a 5).2] 87)).cellAt 10 rfl
  have u11 := (KO.out.alloc (o := .cells #[.string a.name, .int .i64 a.price, .int .i64 (valP a 0).1, .int .i64 (valP a 0).2, .int .i64 (valP a 1).1, .int .i64 (valP a 1).2, .int .i64 (valP a 2).1, .int .i64 (valP a 2).2, .int .i64 (valP a 3).1, .int .i64 (valP a 3).2, .int .i64 (valP a 4).1, .int .i64 (valP a 4).2, .int .i64 (valP a 5).1, .int .i64 (valP a 5).2] 87)).cellAt 11 rfl
  have u12 := (KO.out.alloc (o := .cells #[.string a.name, .int .i64 a.price, .int .i64 (valP a 0).1, .int .i64 (valP a 0).2, .int .i64 (valP a 1).1, .int .i64 (valP a 1).2, .int .i64 (valP a 2).1, .int .i64 (valP a 2).2, .int .i64 (valP a 3).1, .int .i64 (valP a 3).2, .int .i64 (valP a 4).1, .int .i64 (valP a 4).2, .int .i64 (valP a 5).1, .int .i64 (valP a 5).2] 87)).cellAt 12 rfl
  have u13 := (KO.out.alloc (o := .cells #[.string a.name, .int .i64 a.price, .int .i64 (valP a 0).1, .int .i64 (valP a 0).2, .int .i64 (valP a 1).1, .int .i64 (valP a 1).2, .int .i64 (valP a 2).1, .int .i64 (valP a 2).2, .int .i64 (valP a 3).1, .int .i64 (valP a 3).2, .int .i64 (valP a 4).1, .int .i64 (valP a 4).2, .int .i64 (valP a 5).1, .int .i64 (valP a 5).2] 87)).cellAt 13 rfl
  have ul := (KO.out.alloc (o := .cells #[.string a.name, .int .i64 a.price, .int .i64 (valP a 0).1, .int .i64 (valP a 0).2, .int .i64 (valP a 1).1, .int .i64 (valP a 1).2, .int .i64 (valP a 2).1, .int .i64 (valP a 2).2, .int .i64 (valP a 3).1, .int .i64 (valP a 3).2, .int .i64 (valP a 4).1, .int .i64 (valP a 4).2, .int .i64 (valP a 5).1, .int .i64 (valP a 5).2] 87)).lt
  have v0 := RA.out.cellAt 0 rfl
  have v1 := RA.out.cellAt 1 rfl
  have v2 := RA.out.cellAt 2 rfl
  have v3 := RA.out.cellAt 3 rfl
  have v4 := RA.out.cellAt 4 rfl
  have v5 := RA.out.cellAt 5 rfl
  have v6 := RA.out.cellAt 6 rfl
  have v7 := RA.out.cellAt 7 rfl
  have v8 := RA.out.cellAt 8 rfl
  have v9 := RA.out.cellAt 9 rfl
  have v10 := RA.out.cellAt 10 rfl
  have v11 := RA.out.cellAt 11 rfl
  have v12 := RA.out.cellAt 12 rfl
  have v13 := RA.out.cellAt 13 rfl
  have vl := RA.out.lt
  clear hi ho
  generalize cbV a b j k = V at *
  by_cases hjk : j = k
  · have e1 : ((j : Int) == (k : Int)) = true := beq_iff_eq.2 (by omega)
    have e2 : ((j : Int) != (k : Int)) = false := by rw [bne, e1]; rfl
    have HX := Lib.hid (show V = false by rw [HV.out, decide_eq_false (show ¬ j ≠ k from fun h => h hjk)]; rfl)
    clear hjk HV
    go_enter Tryd.func50, Tryd.ntmps50
    go_wp2
    go_ret
    exact ⟨ret_bool HX.out.symm, HB0.out⟩
  · have e1 : ((j : Int) == (k : Int)) = false := beq_eq_false_iff_ne.2 (by omega)
    have e2 : ((j : Int) != (k : Int)) = true := by rw [bne, e1]; rfl
    have e3 : ¬ (j : Int) = (k : Int) := by omega
    cases hg : goodB a b
    · rw [hg] at HD1
      have HX := Lib.hid (show V = false by rw [HV.out, hg]; simp)
      clear HV HD2
      go_enter Tryd.func50, Tryd.ntmps50
      go_wp2_with (go_at_call 51; refine (HD1.out _).mono ?_; rintro e w1 ⟨rfl, hb⟩; have HB1 := Lib.hid (pt HB0.out hb); clear hb)
      go_ret
      exact ⟨ret_bool HX.out.symm, HB1.out⟩
    · rw [hg] at HD1
      by_cases hlt : j < k
      · have e4 : (j : Int) < (k : Int) := by omega
        have HX := Lib.hid (show V = true by rw [HV.out, hg, decide_eq_true hlt, decide_eq_true hjk]; rfl)
        clear HV HD2 
        have M1 := Lib.hid trivial
        go_enter Tryd.func50, Tryd.ntmps50
        go_wp2_with (go_at_call 51; have hm := M1; clear M1 hm; refine (HD1.out _).mono ?_; rintro e w1 ⟨rfl, hb⟩; have HB1 := Lib.hid (pt HB0.out hb); clear x0 xl u0 u1 u2 u3 u4 u5 u6 u7 u8 u9 u10 u11 u12 u13 ul v0 v1 v2 v3 v4 v5 v6 v7 v8 v9 v10 v11 v12 v13 vl; have x0 := ((KI.out.alloc (o := .cells #[.string a.name, .int .i64 a.price, .int .i64 (valP a 0).1, .int .i64 (valP a 0).2, .int .i64 (valP a 1).1, .int .i64 (valP a 1).2, .int .i64 (valP a 2).1, .int .i64 (valP a 2).2, .int .i64 (valP a 3).1, .int .i64 (valP a 3).2, .int .i64 (valP a 4).1, .int .i64 (valP a 4).2, .int .i64 (valP a 5).1, .int .i64 (valP a 5).2] 87)).past hb).cellAt 0 rfl; have xl := ((KI.out.alloc (o := .cells #[.string a.name, .int .i64 a.price, .int .i64 (valP a 0).1, .int .i64 (valP a 0).2, .int .i64 (valP a 1).1, .int .i64 (valP a 1).2, .int .i64 (valP a 2).1, .int .i64 (valP a 2).2, .int .i64 (valP a 3).1, .int .i64 (valP a 3).2, .int .i64 (valP a 4).1, .int .i64 (valP a 4).2, .int .i64 (valP a 5).1, .int .i64 (valP a 5).2] 87)).past hb).lt; have KO1 := Lib.hid ((KO.out.alloc (o := .cells #[.string a.name, .int .i64 a.price, .int .i64 (valP a 0).1, .int .i64 (valP a 0).2, .int .i64 (valP a 1).1, .int .i64 (valP a 1).2, .int .i64 (valP a 2).1, .int .i64 (valP a 2).2, .int .i64 (valP a 3).1, .int .i64 (valP a 3).2, .int .i64 (valP a 4).1, .int .i64 (valP a 4).2, .int .i64 (valP a 5).1, .int .i64 (valP a 5).2] 87)).past hb); have RA1 := Lib.hid (RA.out.past hb); have u0 := KO1.out.cellAt 0 rfl; have u1 := KO1.out.cellAt 1 rfl; have u2 := KO1.out.cellAt 2 rfl; have u3 := KO1.out.cellAt 3 rfl; have u4 := KO1.out.cellAt 4 rfl; have u5 := KO1.out.cellAt 5 rfl; have u6 := KO1.out.cellAt 6 rfl; have u7 := KO1.out.cellAt 7 rfl; have u8 := KO1.out.cellAt 8 rfl; have u9 := KO1.out.cellAt 9 rfl; have u10 := KO1.out.cellAt 10 rfl; have u11 := KO1.out.cellAt 11 rfl; have u12 := KO1.out.cellAt 12 rfl; have u13 := KO1.out.cellAt 13 rfl; have ul := KO1.out.lt; have v0 := RA1.out.cellAt 0 rfl; have v1 := RA1.out.cellAt 1 rfl; have v2 := RA1.out.cellAt 2 rfl; have v3 := RA1.out.cellAt 3 rfl; have v4 := RA1.out.cellAt 4 rfl; have v5 := RA1.out.cellAt 5 rfl; have v6 := RA1.out.cellAt 6 rfl; have v7 := RA1.out.cellAt 7 rfl; have v8 := RA1.out.cellAt 8 rfl; have v9 := RA1.out.cellAt 9 rfl; have v10 := RA1.out.cellAt 10 rfl; have v11 := RA1.out.cellAt 11 rfl; have v12 := RA1.out.cellAt 12 rfl; have v13 := RA1.out.cellAt 13 rfl; have vl := RA1.out.lt; clear hb)
        go_ret
        exact ⟨ret_bool HX.out.symm, HB1.out⟩
      · have e4 : ¬ (j : Int) < (k : Int) := by omega
        cases hg2 : goodB b a
        · rw [hg2] at HD2
          have HX := Lib.hid (show V = true by rw [HV.out, hg, hg2, decide_eq_true hjk]; simp)
          clear HV
          have M1 := Lib.hid trivial
          go_enter Tryd.func50, Tryd.ntmps50
          go_wp2_with (first | (go_at_call 51; have hm := M1; clear M1 hm; refine (HD1.out _).mono ?_; rintro e w1 ⟨rfl, hb⟩; have HB1 := Lib.hid (pt HB0.out hb); clear x0 xl u0 u1 u2 u3 u4 u5 u6 u7 u8 u9 u10 u11 u12 u13 ul v0 v1 v2 v3 v4 v5 v6 v7 v8 v9 v10 v11 v12 v13 vl; have x0 := ((KI.out.alloc (o := .cells #[.string a.name, .int .i64 a.price, .int .i64 (valP a 0).1, .int .i64 (valP a 0).2, .int .i64 (valP a 1).1, .int .i64 (valP a 1).2, .int .i64 (valP a 2).1, .int .i64 (valP a 2).2, .int .i64 (valP a 3).1, .int .i64 (valP a 3).2, .int .i64 (valP a 4).1, .int .i64 (valP a 4).2, .int .i64 (valP a 5).1, .int .i64 (valP a 5).2] 87)).past hb).cellAt 0 rfl; have xl := ((KI.out.alloc (o := .cells #[.string a.name, .int .i64 a.price, .int .i64 (valP a 0).1, .int .i64 (valP a 0).2, .int .i64 (valP a 1).1, .int .i64 (valP a 1).2, .int .i64 (valP a 2).1, .int .i64 (valP a 2).2, .int .i64 (valP a 3).1, .int .i64 (valP a 3).2, .int .i64 (valP a 4).1, .int .i64 (valP a 4).2, .int .i64 (valP a 5).1, .int .i64 (valP a 5).2] 87)).past hb).lt; have KO1 := Lib.hid ((KO.out.alloc (o := .cells #[.string a.name, .int .i64 a.price, .int .i64 (valP a 0).1, .int .i64 (valP a 0).2, .int .i64 (valP a 1).1, .int .i64 (valP a 1).2, .int .i64 (valP a 2).1, .int .i64 (valP a 2).2, .int .i64 (valP a 3).1, .int .i64 (valP a 3).2, .int .i64 (valP a 4).1, .int .i64 (valP a 4).2, .int .i64 (valP a 5).1, .int .i64 (valP a 5).2] 87)).past hb); have RA1 := Lib.hid (RA.out.past hb); have u0 := KO1.out.cellAt 0 rfl; have u1 := KO1.out.cellAt 1 rfl; have u2 := KO1.out.cellAt 2 rfl; have u3 := KO1.out.cellAt 3 rfl; have u4 := KO1.out.cellAt 4 rfl; have u5 := KO1.out.cellAt 5 rfl; have u6 := KO1.out.cellAt 6 rfl; have u7 := KO1.out.cellAt 7 rfl; have u8 := KO1.out.cellAt 8 rfl; have u9 := KO1.out.cellAt 9 rfl; have u10 := KO1.out.cellAt 10 rfl; have u11 := KO1.out.cellAt 11 rfl; have u12 := KO1.out.cellAt 12 rfl; have u13 := KO1.out.cellAt 13 rfl; have ul := KO1.out.lt; have v0 := RA1.out.cellAt 0 rfl; have v1 := RA1.out.cellAt 1 rfl; have v2 := RA1.out.cellAt 2 rfl; have v3 := RA1.out.cellAt 3 rfl; have v4 := RA1.out.cellAt 4 rfl; have v5 := RA1.out.cellAt 5 rfl; have v6 := RA1.out.cellAt 6 rfl; have v7 := RA1.out.cellAt 7 rfl; have v8 := RA1.out.cellAt 8 rfl; have v9 := RA1.out.cellAt 9 rfl; have v10 := RA1.out.cellAt 10 rfl; have v11 := RA1.out.cellAt 11 rfl; have v12 := RA1.out.cellAt 12 rfl; have v13 := RA1.out.cellAt 13 rfl; have vl := RA1.out.lt; clear hb) | (go_at_call 51; refine (HD2.out _).mono ?_; rintro e w2 ⟨rfl, hb⟩; have HB2 := Lib.hid (pt HB1.out hb); clear hb))
          go_ret
          exact ⟨ret_bool HX.out.symm, HB2.out⟩
        · rw [hg2] at HD2
          have HX := Lib.hid (show V = false by rw [HV.out, hg, hg2, decide_eq_false hlt]; simp)
          clear HV
          have M1 := Lib.hid trivial
          go_enter Tryd.func50, Tryd.ntmps50
          go_wp2_with (first | (go_at_call 51; have hm := M1; clear M1 hm; refine (HD1.out _).mono ?_; rintro e w1 ⟨rfl, hb⟩; have HB1 := Lib.hid (pt HB0.out hb); clear x0 xl u0 u1 u2 u3 u4 u5 u6 u7 u8 u9 u10 u11 u12 u13 ul v0 v1 v2 v3 v4 v5 v6 v7 v8 v9 v10 v11 v12 v13 vl; have x0 := ((KI.out.alloc (o := .cells #[.string a.name, .int .i64 a.price, .int .i64 (valP a 0).1, .int .i64 (valP a 0).2, .int .i64 (valP a 1).1, .int .i64 (valP a 1).2, .int .i64 (valP a 2).1, .int .i64 (valP a 2).2, .int .i64 (valP a 3).1, .int .i64 (valP a 3).2, .int .i64 (valP a 4).1, .int .i64 (valP a 4).2, .int .i64 (valP a 5).1, .int .i64 (valP a 5).2] 87)).past hb).cellAt 0 rfl; have xl := ((KI.out.alloc (o := .cells #[.string a.name, .int .i64 a.price, .int .i64 (valP a 0).1, .int .i64 (valP a 0).2, .int .i64 (valP a 1).1, .int .i64 (valP a 1).2, .int .i64 (valP a 2).1, .int .i64 (valP a 2).2, .int .i64 (valP a 3).1, .int .i64 (valP a 3).2, .int .i64 (valP a 4).1, .int .i64 (valP a 4).2, .int .i64 (valP a 5).1, .int .i64 (valP a 5).2] 87)).past hb).lt; have KO1 := Lib.hid ((KO.out.alloc (o := .cells #[.string a.name, .int .i64 a.price, .int .i64 (valP a 0).1, .int .i64 (valP a 0).2, .int .i64 (valP a 1).1, .int .i64 (valP a 1).2, .int .i64 (valP a 2).1, .int .i64 (valP a 2).2, .int .i64 (valP a 3).1, .int .i64 (valP a 3).2, .int .i64 (valP a 4).1, .int .i64 (valP a 4).2, .int .i64 (valP a 5).1, .int .i64 (valP a 5).2] 87)).past hb); have RA1 := Lib.hid (RA.out.past hb); have u0 := KO1.out.cellAt 0 rfl; have u1 := KO1.out.cellAt 1 rfl; have u2 := KO1.out.cellAt 2 rfl; have u3 := KO1.out.cellAt 3 rfl; have u4 := KO1.out.cellAt 4 rfl; have u5 := KO1.out.cellAt 5 rfl; have u6 := KO1.out.cellAt 6 rfl; have u7 := KO1.out.cellAt 7 rfl; have u8 := KO1.out.cellAt 8 rfl; have u9 := KO1.out.cellAt 9 rfl; have u10 := KO1.out.cellAt 10 rfl; have u11 := KO1.out.cellAt 11 rfl; have u12 := KO1.out.cellAt 12 rfl; have u13 := KO1.out.cellAt 13 rfl; have ul := KO1.out.lt; have v0 := RA1.out.cellAt 0 rfl; have v1 := RA1.out.cellAt 1 rfl; have v2 := RA1.out.cellAt 2 rfl; have v3 := RA1.out.cellAt 3 rfl; have v4 := RA1.out.cellAt 4 rfl; have v5 := RA1.out.cellAt 5 rfl; have v6 := RA1.out.cellAt 6 rfl; have v7 := RA1.out.cellAt 7 rfl; have v8 := RA1.out.cellAt 8 rfl; have v9 := RA1.out.cellAt 9 rfl; have v10 := RA1.out.cellAt 10 rfl; have v11 := RA1.out.cellAt 11 rfl; have v12 := RA1.out.cellAt 12 rfl; have v13 := RA1.out.cellAt 13 rfl; have vl := RA1.out.lt; clear hb) | (go_at_call 51; refine (HD2.out _).mono ?_; rintro e w2 ⟨rfl, hb⟩; have HB2 := Lib.hid (pt HB1.out hb); clear hb))
          go_ret
          exact ⟨ret_bool HX.out.symm, HB2.out⟩


def undE (idle price : Int) (sl : List (List DPart)) (s : Int) : Int := firstV [(stockE idle price sl).2, unlessV (withinB s 0 ((sl.length : Int) - 1)) 6]

set_option maxHeartbeats 4000000 in
set_option maxRecDepth 100000 in
theorem und_err (B : Nat) (sl : List (List DPart)) (A : Option Addr) (n c : Nat) (idle price s : Int) (w : World) (hr : SlotsIn B w A sl) (hB : B ≤ w.heap.size) (hn : sl.length = n) (hm : n ≤ 1000) (hs : SmallSlots sl) (h0 : undE idle price sl s ≠ 0) :
    Calls Tryd.prog 27 #[.agg #[.slice A n c, .int .i64 idle, .int .i64 price], .int .i64 s] w fun e w' => e = .returned (.tuple #[.slice none 0 0, .int .i64 (undE idle price sl s)]) ∧ Below w.heap.size w w' := by
  have HV := Lib.hid (show firstV [(stockE idle price sl).2, unlessV (withinB s 0 ((n : Int) - 1)) 6] = undE idle price sl s by rw [← hn]; rfl)
  have h1 : (undE idle price sl s == 0) = false := by simpa using h0
  have h2 : (undE idle price sl s != 0) = true := by simpa using h0
  have HC := Lib.hid (fun W (hW : Below w.heap.size w W) => CheckStock_any B sl A n c idle price W (hr.below (hW.mono hB)) (Nat.le_trans hB hW.size) hn hm hs)
  have R0 := Lib.hid (show Blk (w.alloc (.cells #[.slice A n c, .int .i64 idle, .int .i64 price] 51)) w.heap.size 51 #[.slice A n c, .int .i64 idle, .int .i64 price] from Blk.newAt rfl)
  have HB0 := Lib.hid (show Below w.heap.size w (w.alloc (.cells #[.slice A n c, .int .i64 idle, .int .i64 price] 51)) from pa pr)
  have x0 := R0.out.cellAt 0 rfl
  have x1 := R0.out.cellAt 1 rfl
  have x2 := R0.out.cellAt 2 rfl
  have xl := R0.out.lt
  clear hr hs
  generalize undE idle price sl s = E at *
  generalize (stockE idle price sl).2 = E1 at *
  generalize (stockE idle price sl).1 = I1 at *
  go_enter Tryd.func27, Tryd.ntmps27
  go_wp2_with (first
    | (go_at_call 25; refine (HC.out _ HB0.out).mono ?_; rintro e w1 ⟨rfl, hb⟩; have HB1 := Lib.hid (pt HB0.out hb); have R1 := Lib.hid (R0.out.past hb); clear hb x0 x1 x2 xl; have x0 := R1.out.cellAt 0 rfl; have xl := R1.out.lt)
    | (go_at_call 37; refine (within_any _ _ _ _).mono ?_; rintro e w' ⟨rfl, rfl⟩)
    | (go_at_call 36; refine (unless_any _ _ _).mono ?_; rintro e w' ⟨rfl, rfl⟩)
    | (go_at_call 34; refine (first2 _ _ _ _ _ (by first | (go_simp; done) | (go_simp; rfl)) (by first | (go_simp; done) | (go_simp; rfl)) _ HV.out).mono ?_; rintro e w' ⟨rfl, rfl⟩))
  go_ret2
  exact ⟨rfl, pa HB1.out⟩

set_option maxHeartbeats 16000000 in
set_option maxRecDepth 100000 in
theorem und_any (B : Nat) (sl : List (List DPart)) (A : Option Addr) (n c : Nat) (idle price : Int) (s : Nat) (w : World) (hr : SlotsIn B w A sl) (hB : B ≤ w.heap.size) (hn : sl.length = n) (hm : n ≤ 1000) (hs : SmallSlots sl) (h0 : (stockE idle price sl).2 = 0) (hsn : s < n) :
    Calls Tryd.prog 27 #[.agg #[.slice A n c, .int .i64 idle, .int .i64 price], .int .i64 (s : Int)] w fun e w' => ∃ A2 c2, e = .returned (.tuple #[.slice A2 (undK (sl.getD s []) (sl.getD s []).length).length c2, .int .i64 0]) ∧ IntsIn w'.heap.size w' A2 (undK (sl.getD s []) (sl.getD s []).length) ∧ Below w.heap.size w w' := by
  obtain ⟨i0, hi0, hz0, hz1, hz2⟩ := info_parts int_info
  have HV := Lib.hid (show firstV [0, unlessV true 6] = 0 from rfl)
  have HC := Lib.hid (fun W (hW : Below w.heap.size w W) => CheckStock_any B sl A n c idle price W (hr.below (hW.mono hB)) (Nat.le_trans hB hW.size) hn hm hs)
  rw [h0] at HC
  have hmem : sl.getD s [] ∈ sl := by simp [List.getD, show s < sl.length by omega]
  have hl := (hs _ hmem).1
  obtain ⟨b, off, rfl, hb, hct⟩ := hr.at_ (k := s) (by omega)
  obtain ⟨A', c', u0, hps, hcap⟩ := hct s (by omega)
  have HPs := Lib.hid hps
  have R0 := Lib.hid (show Blk (w.alloc (.cells #[.slice (some ⟨b, off, none⟩) n c, .int .i64 idle, .int .i64 price] 51)) w.heap.size 51 #[.slice (some ⟨b, off, none⟩) n c, .int .i64 idle, .int .i64 price] from Blk.newAt rfl)
  have HB0 := Lib.hid (show Below w.heap.size w (w.alloc (.cells #[.slice (some ⟨b, off, none⟩) n c, .int .i64 idle, .int .i64 price] 51)) from pa pr)
  have HU0 := Lib.hid (fun W (hW : Below w.heap.size w W) => (show b < W.heap.size ∧ W.cell? ⟨b, off + s, none⟩ = some (.slice A' (sl.getD s []).length c') from ⟨Nat.lt_of_lt_of_le (show b < w.heap.size by omega) hW.size, (hW.cell (p := ⟨b, off + s, none⟩) (show b < w.heap.size by omega)).trans u0⟩))
  have x0 := R0.out.cellAt 0 rfl
  have x1 := R0.out.cellAt 1 rfl
  have x2 := R0.out.cellAt 2 rfl
  have xl := R0.out.lt
  have s0 : (0 : Int) ≤ (s : Int) := by omega
  have s1 : (s : Int) < (n : Int) := by omega
  have hwi : withinB (s : Int) 0 ((n : Int) - 1) = true := by simp only [withinB, Bool.and_eq_true, decide_eq_true_eq]; omega
  clear hct hr hps u0 hs hmem h0
  generalize (stockE idle price sl).1 = I1 at *
  generalize sl.getD s [] = l at *
  generalize hm : l.length = m at *
  have HM := Lib.hid hm
  clear hm hcap
  go_enter Tryd.func27, Tryd.ntmps27
  go_wp2_with (first
    | (go_at_call 25; refine (HC.out _ HB0.out).mono ?_; rintro e w1 ⟨rfl, hb⟩; have HB1 := Lib.hid (pt HB0.out hb); have R1 := Lib.hid (R0.out.past hb); clear hb x0 x1 x2 xl; have x0 := R1.out.cellAt 0 rfl; have xl := R1.out.lt; obtain ⟨yl, y0⟩ := HU0.out _ HB1.out)
    | (go_at_call 37; refine (within_any _ _ _ _).mono ?_; rintro e w' ⟨rfl, rfl⟩; rw [hwi])
    | (go_at_call 36; refine (unless_any _ _ _).mono ?_; rintro e w' ⟨rfl, rfl⟩)
    | (go_at_call 34; refine (first2 _ _ _ _ _ (by first | (go_simp; done) | (go_simp; rfl)) (by first | (go_simp; done) | (go_simp; rfl)) _ HV.out).mono ?_; rintro e w' ⟨rfl, rfl⟩))
  clear x0 xl y0 yl HC HV
  go_loopw [8, 41] (fun ov iv wr => ∃ (k q : Nat) (A2 : Option Addr) (c2 : Nat), iv = .int .i64 (k : Int) ∧ k ≤ m ∧ ov = .slice A2 q c2 ∧ q = (undK l k).length ∧ wr.ownsRow w.heap.size 3 1 (.slice A2 q c2) q ((undK l k).map (Value.int .i64)) ∧ Below w.heap.size w wr) (fun _ iv _ => m - (intOf iv).toNat)
  case atStart => exact ⟨0, 0, none, 0, rfl, Nat.zero_le _, rfl, rfl, World.ownsRow_nil _ _ _ _, pa HB1.out⟩
  case round =>
    obtain ⟨k, q, A2, c2, rfl, hk, rfl, hq, hown, hbl⟩ := hrel
    have HO := Lib.hid hown
    have HQ := Lib.hid hbl
    have HQl := Lib.hid hq
    have hqk : q ≤ k := by rw [hq]; exact undK_len l k
    have hqs := hbl.size
    clear hown hbl hq
    by_cases hlt : k < m
    · have hk' : k < l.length := by rw [HM.out]; exact hlt
      have k0 : (0 : Int) ≤ (k : Int) := by omega
      have k1 : (k : Int) < (m : Int) := by omega
      have HSt := Lib.hid (undK_succ l k)
      have HFr := Lib.hid (show freeB l k = freeK l k m by rw [← HM.out]; rfl)
      obtain ⟨b2, o2, rfl, hb2, hct⟩ := parts_at (HPs.out.below (HQ.out.mono hB)) hk'
      obtain ⟨u0, u1, u2, u3, u4, u5, u6, u7, u8, u9, u10, u11, u12, u13⟩ := part_cells (hct k hk')
      have hb2w : b2 < wr.heap.size := Nat.lt_of_lt_of_le (Nat.lt_of_lt_of_le hb2 hB) HQ.out.size
      have HCt := Lib.hid (fun j (hj : j < m) W (hW : Below wr.heap.size wr W) => (show PartAt W b2 (o2 + j * 14) (l.getD j default) from fun z hz => (hW.cell (p := ⟨b2, o2 + j * 14 + z, none⟩) hb2w).trans (hct j (by rw [HM.out]; exact hj) z hz)))
      have HDm := Lib.hid (fun j => (show cbV (l.getD j default) (l.getD k default) j k = domB l j k from rfl))
      have HFs := Lib.hid (fun j => freeK_succ l k j)
      clear hct
      generalize l.getD k default = y at *
      go_wp2
      have KI := Lib.hid (show Blk ((wr.alloc (.cells #[.int .i64 (k : Int)] 3)).alloc (.cells #[.string y.name, .int .i64 y.price, .int .i64 (valP y 0).1, .int .i64 (valP y 0).2, .int .i64 (valP y 1).1, .int .i64 (valP y 1).2, .int .i64 (valP y 2).1, .int .i64 (valP y 2).2, .int .i64 (valP y 3).1, .int .i64 (valP y 3).2, .int .i64 (valP y 4).1, .int .i64 (valP y 4).2, .int .i64 (valP y 5).1, .int .i64 (valP y 5).2] 87)) wr.heap.size 3 #[.int .i64 (k : Int)] from (Blk.newAt rfl).alloc)
      have KO := Lib.hid (show Blk ((wr.alloc (.cells #[.int .i64 (k : Int)] 3)).alloc (.cells #[.string y.name, .int .i64 y.price, .int .i64 (valP y 0).1, .int .i64 (valP y 0).2, .int .i64 (valP y 1).1, .int .i64 (valP y 1).2, .int .i64 (valP y 2).1, .int .i64 (valP y 2).2, .int .i64 (valP y 3).1, .int .i64 (valP y 3).2, .int .i64 (valP y 4).1, .int .i64 (valP y 4).2, .int .i64 (valP y 5).1, .int .i64 (valP y 5).2] 87)) (wr.heap.size + 1) 87 #[.string y.name, .int .i64 y.price, .int .i64 (valP y 0).1, .int .i64 (valP y 0).2, .int .i64 (valP y 1).1, .int .i64 (valP y 1).2, .int .i64 (valP y 2).1, .int .i64 (valP y 2).2, .int .i64 (valP y 3).1, .int .i64 (valP y 3).2, .int .i64 (valP y 4).1, .int .i64 (valP y 4).2, .int .i64 (valP y 5).1, .int .i64 (valP y 5).2] from Blk.newAt (by simp))
      have HBw := Lib.hid (show Below wr.heap.size wr ((wr.alloc (.cells #[.int .i64 (k : Int)] 3)).alloc (.cells #[.string y.name, .int .i64 y.price, .int .i64 (valP y 0).1, .int .i64 (valP y 0).2, .int .i64 (valP y 1).1, .int .i64 (valP y 1).2, .int .i64 (valP y 2).1, .int .i64 (valP y 2).2, .int .i64 (valP y 3).1, .int .i64 (valP y 3).2, .int .i64 (valP y 4).1, .int .i64 (valP y 4).2, .int .i64 (valP y 5).1, .int .i64 (valP y 5).2] 87)) from pa (pa pr))
      clear u0 u1 u2 u3 u4 u5 u6 u7 u8 u9 u10 u11 u12 u13
      generalize hwx : (wr.alloc (.cells #[.int .i64 (k : Int)] 3)).alloc (.cells #[.string y.name, .int .i64 y.price, .int .i64 (valP y 0).1, .int .i64 (valP y 0).2, .int .i64 (valP y 1).1, .int .i64 (valP y 1).2, .int .i64 (valP y 2).1, .int .i64 (valP y 2).2, .int .i64 (valP y 3).1, .int .i64 (valP y 3).2, .int .i64 (valP y 4).1, .int .i64 (valP y 4).2, .int .i64 (valP y 5).1, .int .i64 (valP y 5).2] 87) = wx at *
      clear hwx
      generalize hwy : wr = wy at *
      clear hwy
      go_loopw [13, 49] (fun dv jv wr => ∃ j : Nat, jv = .int .i64 (j : Int) ∧ j ≤ m ∧ dv = .bool (!freeK l k j) ∧ Below wx.heap.size wx wr) (fun _ jv _ => m - (intOf jv).toNat)
      case atStart => exact ⟨0, rfl, Nat.zero_le _, rfl, pr⟩
      case round =>
        obtain ⟨j, rfl, hj, rfl, hab⟩ := hrel
        have HAx := Lib.hid hab
        have HAb := Lib.hid (pt HBw.out hab)
        clear hab
        by_cases hlj : j < m
        · have hct := HCt.out j hlj wr HAb.out
          obtain ⟨u0, u1, u2, u3, u4, u5, u6, u7, u8, u9, u10, u11, u12, u13⟩ := part_cells hct
          have hb2r : b2 < wr.heap.size := Nat.lt_of_lt_of_le hb2w HAb.out.size
          have j0 : (0 : Int) ≤ (j : Int) := by omega
          have j1 : (j : Int) < (m : Int) := by omega
          have HDj := Lib.hid (HDm.out j)
          have HFj := Lib.hid (HFs.out j)
          clear hct
          generalize l.getD j default = z at *
          cases hf : freeK l k j
          · have HX := Lib.hid (show freeK l k (j + 1) = false by rw [HFj.out, hf]; rfl)
            go_wp2
            go_roundw
            case rel => exact ⟨j + 1, by go_num, by omega, by rw [HX.out]; rfl, pa HAx.out⟩
            case measure => simp [intOf]; omega
          · have HCb := Lib.hid (undCb_any z y j k wy.heap.size (wy.heap.size + 1) (wr.alloc (.cells #[.string z.name, .int .i64 z.price, .int .i64 (valP z 0).1, .int .i64 (valP z 0).2, .int .i64 (valP z 1).1, .int .i64 (valP z 1).2, .int .i64 (valP z 2).1, .int .i64 (valP z 2).2, .int .i64 (valP z 3).1, .int .i64 (valP z 3).2, .int .i64 (valP z 4).1, .int .i64 (valP z 4).2, .int .i64 (valP z 5).1, .int .i64 (valP z 5).2] 87)) ((KI.out.past HAx.out).alloc) ((KO.out.past HAx.out).alloc))
            rw [HDj.out] at HCb
            have HX := Lib.hid (show freeK l k (j + 1) = !domB l j k by rw [HFj.out, hf]; rfl)
            generalize domB l j k = db at *
            go_wp2_with (go_at_call 50; refine HCb.out.mono ?_; rintro e w9 ⟨rfl, hb9⟩; have HB9 := Lib.hid (pt (pa HAx.out) hb9); clear hb9)
            go_roundw
            case rel => exact ⟨j + 1, by go_num, by omega, by rw [HX.out]; simp, HB9.out⟩
            case measure => simp [intOf]; omega
        · have hjm : j = m := by omega
          subst hjm
          rw [← HFr.out]
          have HO2 := Lib.hid (own_past HAb.out HO.out)
          have HQ2 := Lib.hid (pt HQ.out HAb.out)
          have hqs2 := HQ2.out.size
          have hm1000 : j ≤ 1000 := hl
          cases hf : freeB l k
          · have HX := Lib.hid (show undK l (k + 1) = undK l k by rw [HSt.out, hf]; rfl)
            go_wp2
            go_roundw
            case rel => exact ⟨k + 1, q, A2, c2, by go_num, by omega, rfl, by rw [HX.out]; exact HQl.out, by rw [HX.out]; exact HO2.out, HQ2.out⟩
            case measure => simp [intOf]; omega
          · have HX := Lib.hid (show undK l (k + 1) = undK l k ++ [(k : Int)] by rw [HSt.out, hf]; rfl)
            have z0 := (KI.out.past HAx.out).cellAt 0 rfl
            have zl := (KI.out.past HAx.out).lt
            go_wp2_with (at_builtin; go_must (refine wpList_append_cells _ rfl (.tmp 64) (.tmp 66) _ rfl w.heap.size 3 i0 _ 1 8 Tryd.underlying22 hi0 hz0 hz1 hz2 rfl (by omega) _ q _ rfl (HO2.out.alloc _) (wr.heap.size + 1) (some ⟨wr.heap.size, 0, none⟩) 1 1 [.int .i64 (k : Int)] rfl (cellsIn_one _ _ _) rfl (by simp [Value.oneCell']) (by simp only [maxLen]; omega) (by omega) (by simp; omega) ?_); intro v9 w9 hown9 hg9 _; obtain ⟨A9, c9, rfl, hc9, hm9⟩ := own_form hown9)
            have HO9 := Lib.hid hown9
            have HB9 := Lib.hid (pg (pa HQ2.out) (HO2.out.alloc _) (Nat.le_refl _) hg9)
            clear hown9 hg9
            go_roundw
            case rel => exact ⟨k + 1, q + 1, A9, c9, by go_num, by omega, rfl, by rw [HX.out, List.length_append, ← HQl.out]; rfl, by rw [HX.out, List.map_append]; exact HO9.out, HB9.out⟩
            case measure => simp [intOf]; omega
    · have hkm : k = m := by omega
      subst hkm
      go_wp2
      go_ret2
      exact ⟨A2, c2, by rw [← HQl.out]; rfl, intsIn_of_own HO.out, HQ.out⟩

end Go.Proofs.YtabbehmodmmgoaaDoor
end
