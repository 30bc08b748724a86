/- Contract: own (package field): the ampere turns of a network.
Plain facts: a row that is turned from left to right; the elimination row by row (chapter 3). No condition.
Contract: eliminate (package field). -/
import Derived.Test.YtapegimghfflhaaMn
import Derived.Test.YtapegimghfflhaaM5

section
namespace Go.Proofs.Ytapegimghfflhaa
open Go.RowKit

theorem trn_at {bs : List FBr} {k : Nat} (h : k < bs.length) : (trnV bs).take (k + 1) = (trnV bs).take k ++ [(bs.getD k default).t] := by
  have h2 : k < (trnV bs).length := by unfold trnV; rw [List.length_map]; exact h
  rw [List.take_succ_eq_append_getElem h2]
  simp [trnV, List.getD, h]
set_option maxHeartbeats 4000000 in
set_option maxRecDepth 100000 in
theorem ownFd_any (B f : Nat) (N : Int) (bs : List FBr) (A : Option Addr) (n c : Nat) (lo ha od lp rl : Value) (w : World) (hF : Blk w f 107 (fldA N A n c lo ha od lp rl)) (hb : CellsIn B w A (brsC bs)) (hB : B ≤ w.heap.size) (hn : bs.length = n) (hm : n ≤ 1000) :
    Calls Try.prog 37 #[.pointer (some ⟨f, 0, none⟩)] w fun e w' => ∃ A2 c2, e = .returned (.slice A2 n c2) ∧ IntsIn w'.heap.size w' A2 (trnV bs) ∧ Below w.heap.size w w' := by
  obtain ⟨j0, hj0, hjz, hjs, hjb⟩ := info_of (show (Try.prog.info? 3).map (fun i => (i.zero, i.size, i.bytes)) = some (some (.int .i64 0), 1, 8) by kernel_rfl)
  have HX := Lib.hid (fun W (hW : Below w.heap.size w W) => hb.below (hW.mono hB))
  have HN := Lib.hid hn
  have x0 : w.cell? ⟨f, 1, none⟩ = some (.slice A n c) := hF.cellAt 1 rfl
  have xl := hF.lt
  clear hb hn hF
  go_enter Try.func37, Try.ntmps37
  go_wp2
  clear x0 xl
  go_loopw [3, 12] (fun sv iv wr => ∃ (k : Nat) (A' : Option Addr) (c' : Nat), iv = .int .i64 (k : Int) ∧ k ≤ n ∧ sv = .slice A' k c' ∧ wr.ownsRow w.heap.size 3 1 (.slice A' k c') k (((trnV bs).take k).map (Value.int .i64)) ∧ Below w.heap.size w wr) (fun _ iv _ => n - (intOf iv).toNat)
  case atStart => exact ⟨0, none, 0, rfl, Nat.zero_le _, rfl, World.ownsRow_nil _ _ _ _, pr⟩
  case round =>
    obtain ⟨k, A', c', rfl, hk, rfl, hown, hq⟩ := hrel
    have HOw := Lib.hid hown
    have HQ := Lib.hid hq
    by_cases hlt : k < n
    · have hk' : k < bs.length := by rw [HN.out]; exact hlt
      obtain ⟨b, off, rfl, hbb, hct⟩ := brs_at (HX.out wr hq) hk'
      obtain ⟨u0, u1, u2, u3⟩ := hct k hk'
      have HTk := Lib.hid (trn_at hk')
      have hbw : b < wr.heap.size := Nat.lt_of_lt_of_le hbb (Nat.le_trans hB hq.size)
      have hqs := hq.size
      have k0 : (0 : Int) ≤ (k : Int) := by omega
      have k1 : (k : Int) < (n : Int) := by omega
      clear hct hown hq
      generalize bs.getD k default = x at *
      obtain ⟨xa, xb, xr, xt⟩ := x
      dsimp only at *
      have HAl := Lib.hid (show Below wr.heap.size wr ((wr.alloc (.cells #[.int .i64 xa, .int .i64 xb, .int .i64 xr, .int .i64 xt] 79)).alloc (.cells #[.int .i64 xt] 3)) from pa (pa pr))
      have HOa := Lib.hid (ownPast HAl.out HOw.out)
      have HCa := Lib.hid (cells_newO (wr.alloc (.cells #[.int .i64 xa, .int .i64 xb, .int .i64 xr, .int .i64 xt] 79)) 3 #[.int .i64 xt])
      have hsz : (wr.alloc (.cells #[.int .i64 xa, .int .i64 xb, .int .i64 xr, .int .i64 xt] 79)).heap.size = wr.heap.size + 1 := by simp
      rw [hsz] at HCa
      clear hsz
      go_wp2_with (at_builtin; go_must (refine wpList_append_cells _ rfl (.tmp 16) (.tmp 19) _ rfl w.heap.size 3 j0 _ 1 8 Try.underlying81 hj0 hjz hjs hjb rfl (by omega) (.slice A' k c') k (((trnV bs).take k).map (Value.int .i64)) rfl HOa.out _ _ 1 1 [.int .i64 xt] rfl HCa.out rfl (by simp [Value.oneCell']) (by simp only [maxLen]; omega) (by omega) (by simp; omega) ?_); intro v4 w4 hown4 hg4 _; obtain ⟨A4, c4, rfl, hc4, _⟩ := own_form hown4; have HB4 := Lib.hid (pg (pt HQ.out HAl.out) HOa.out (Nat.le_refl _) hg4); have HO4 := Lib.hid hown4; clear hown4 hg4)
      go_roundw
      case rel => exact ⟨k + 1, A4, c4, by go_num, by omega, rfl, by rw [HTk.out, List.map_append]; exact HO4.out, HB4.out⟩
      case measure => simp [intOf]; omega
    · obtain rfl : k = n := by omega
      have HI := Lib.hid (show IntsIn wr.heap.size wr A' (trnV bs) from by
        have e : (trnV bs).take k = trnV bs := List.take_of_length_le (by unfold trnV; rw [List.length_map, HN.out]; exact Nat.le_refl _)
        rcases cellsIn_of_own hown with h | ⟨b, off, h1, h2, h3⟩
        · rw [e] at h
          exact .inl (by simpa using h)
        · rw [e] at h3
          refine .inr ⟨b, off, h1, h2, fun j hj => (h3 j (by simpa using hj)).trans ?_⟩
          simp [List.getD, hj])
      clear hown hq
      go_wp2
      go_ret
      exact ⟨A', c', rfl, HI.out, HQ.out⟩
end Go.Proofs.Ytapegimghfflhaa
end

section
namespace Go.Proofs.Ytapegimghfflhaa

/-- The first numbers of a row are replaced. -/
def partL (f : Nat → Int) (old : List Int) : Nat → List Int
  | 0 => old
  | j + 1 => (partL f old j).set j (f j)
theorem partL_len (f : Nat → Int) (old : List Int) : ∀ j, (partL f old j).length = old.length
  | 0 => rfl
  | j + 1 => by rw [partL, List.length_set, partL_len f old j]
theorem partL_at (f : Nat → Int) (old : List Int) : ∀ j q, q < old.length → (partL f old j).getD q 0 = if q < j then f q else old.getD q 0
  | 0, q, _ => by simp [partL]
  | j + 1, q, hq => by
    rw [partL, getD_set, partL_at f old j q hq, partL_len]
    by_cases e : j = q
    · subst e
      rw [if_pos ⟨rfl, hq⟩, if_pos (Nat.lt_succ_self _)]
    · rw [if_neg fun h => e h.1]
      by_cases h : q < j
      · rw [if_pos h, if_pos (by omega)]
      · rw [if_neg h, if_neg (by omega)]
theorem partL_all (f : Nat → Int) (old : List Int) : partL f old old.length = (List.range old.length).map f := by
  refine List.ext_getElem (by rw [partL_len]; simp) fun i h1 h2 => ?_
  have h3 : i < old.length := by rwa [partL_len] at h1
  have h := partL_at f old old.length i h3
  rw [if_pos h3, List.getD_eq_getElem?_getD, List.getElem?_eq_getElem h1] at h
  simpa using h
theorem elimTo_lenE (M : List (List Int)) : ∀ k, (elimTo M k).1.length = M.length
  | 0 => rfl
  | k + 1 => by
    rw [elimTo, elimS, List.length_map, List.length_range]
    exact elimTo_lenE M k
theorem elim_row (M : List (List Int)) (k : Nat) {i : Nat} (hi : i < M.length) : (elimTo M (k + 1)).1.getD i [] = if i = k then (elimTo M k).1.getD i [] else elimR (((elimTo M k).1.getD k []).getD k 0) (elimTo M k).2 k ((elimTo M k).1.getD i []) ((elimTo M k).1.getD k []) := by
  rw [elimTo, elimS]
  have hl : i < (elimTo M k).1.length := by rw [elimTo_lenE]; exact hi
  simp only [List.getD_eq_getElem?_getD, List.getElem?_map, List.getElem?_range hl, Option.map_some, Option.getD_some]
/-- The rows at a step of the elimination: those before i are done. -/
def rowE (M : List (List Int)) (k i q : Nat) : List Int := if q < i then (elimTo M (k + 1)).1.getD q [] else (elimTo M k).1.getD q []
theorem rowE_zero (M : List (List Int)) (k q : Nat) : rowE M k 0 q = (elimTo M k).1.getD q [] := by
  unfold rowE
  rw [if_neg (Nat.not_lt_zero _)]
theorem rowE_old (M : List (List Int)) (k i : Nat) : rowE M k i i = (elimTo M k).1.getD i [] := by
  unfold rowE
  rw [if_neg (Nat.lt_irrefl _)]
theorem rowE_k (M : List (List Int)) (k i : Nat) (hk : k < M.length) : rowE M k i k = (elimTo M k).1.getD k [] := by
  unfold rowE
  split
  · rw [elim_row M k hk, if_pos rfl]
  · rfl
theorem rowE_next (M : List (List Int)) (k i q : Nat) (h : q ≠ i) : rowE M k (i + 1) q = rowE M k i q := by
  unfold rowE
  by_cases h1 : q < i
  · rw [if_pos h1, if_pos (by omega)]
  · rw [if_neg h1, if_neg (by omega)]
theorem rowE_new (M : List (List Int)) (k i : Nat) : rowE M k (i + 1) i = (elimTo M (k + 1)).1.getD i [] := by
  unfold rowE
  rw [if_pos (Nat.lt_succ_self _)]
theorem elimR_part (M : List (List Int)) (k i : Nat) (hi : i < M.length) (hne : i ≠ k) : (elimTo M (k + 1)).1.getD i [] = partL (fun j => (diffE M k i j).tdiv (elimTo M k).2) ((elimTo M k).1.getD i []) ((elimTo M k).1.getD i []).length := by
  rw [elim_row M k hi, if_neg hne, partL_all]
  rfl
theorem diff_def (M : List (List Int)) (k i j : Nat) : diffE M k i j = ((elimTo M k).1.getD k []).getD k 0 * ((elimTo M k).1.getD i []).getD j 0 - ((elimTo M k).1.getD i []).getD k 0 * ((elimTo M k).1.getD k []).getD j 0 := rfl
theorem wrap_diff {a b : Int} (h : -9200000000000000000 ≤ a - b ∧ a - b ≤ 9200000000000000000) : ((a + 9223372036854775808) % 18446744073709551616 - 9223372036854775808 - ((b + 9223372036854775808) % 18446744073709551616 - 9223372036854775808) + 9223372036854775808) % 18446744073709551616 - 9223372036854775808 = a - b := by omega
end Go.Proofs.Ytapegimghfflhaa
end

section
namespace Go.Proofs.Ytapegimghfflhaa
open Go.RowKit

theorem wrap64_diff {a b : Int} (h : -9200000000000000000 ≤ a - b ∧ a - b ≤ 9200000000000000000) : wrap64 (wrap64 a - wrap64 b) = a - b := by
  unfold wrap64
  exact wrap_diff h
/-- Rows of numbers, each in a block of its own, and the row of their slices. -/
structure EqsAt (rb cnt c : Nat) (g : Nat → Nat) (ρ : Nat → List Int) (w : World) : Prop where
  tbl : ∃ cs : Array Value, Blk w rb 81 cs ∧ ∀ i, i < cnt → cs[i]? = some (.slice (some ⟨g i, 0, none⟩) c c)
  row : ∀ i, i < cnt → Blk w (g i) 3 (intA (ρ i))
  len : ∀ i, i < cnt → (ρ i).length = c
theorem EqsAt.past {rb cnt c : Nat} {g : Nat → Nat} {ρ : Nat → List Int} {w w' : World} (h : EqsAt rb cnt c g ρ w) (hb : Below w.heap.size w w') : EqsAt rb cnt c g ρ w' := by
  obtain ⟨cs, h1, h2⟩ := h.tbl
  exact ⟨⟨cs, h1.past hb, h2⟩, fun i hi => (h.row i hi).past hb, h.len⟩
theorem EqsAt.slot {rb cnt c : Nat} {g : Nat → Nat} {ρ : Nat → List Int} {w : World} (h : EqsAt rb cnt c g ρ w) {i : Nat} (hi : i < cnt) : w.cell? ⟨rb, i, none⟩ = some (.slice (some ⟨g i, 0, none⟩) c c) := by
  obtain ⟨cs, h1, h2⟩ := h.tbl
  exact (h1.cell i).trans (h2 i hi)
theorem EqsAt.lt {rb cnt c : Nat} {g : Nat → Nat} {ρ : Nat → List Int} {w : World} (h : EqsAt rb cnt c g ρ w) : rb < w.heap.size := by
  obtain ⟨cs, h1, h2⟩ := h.tbl
  exact h1.lt
/-- A number of a row is stored. -/
theorem EqsAt.set {rb cnt c : Nat} {g : Nat → Nat} {ρ : Nat → List Int} {w : World} (h : EqsAt rb cnt c g ρ w) (hne : ∀ i, i < cnt → g i ≠ rb) (hinj : ∀ i j, i < cnt → j < cnt → g i = g j → i = j) {i : Nat} (hi : i < cnt) (j : Nat) (v : Int) : EqsAt rb cnt c g (fun q => if q = i then (ρ i).set j v else ρ q) (w.setCell ⟨g i, j, none⟩ (.int .i64 v)) := by
  obtain ⟨cs, h1, h2⟩ := h.tbl
  refine ⟨⟨cs, h1.far (p := ⟨g i, j, none⟩) (fun e => hne i hi e.symm), h2⟩, fun q hq => ?_, fun q hq => ?_⟩
  · by_cases e : q = i
    · subst e
      rw [if_pos rfl]
      exact intA_set (h.row q hq) j v
    · rw [if_neg e]
      exact (h.row q hq).far (p := ⟨g i, j, none⟩) (fun e2 => e (hinj q i hq hi e2))
  · by_cases e : q = i
    · subst e
      rw [if_pos rfl, List.length_set]
      exact h.len q hq
    · rw [if_neg e]
      exact h.len q hq
theorem EqsAt.congr {rb cnt c : Nat} {g : Nat → Nat} {ρ σ : Nat → List Int} {w : World} (h : EqsAt rb cnt c g ρ w) (e : ∀ i, i < cnt → ρ i = σ i) : EqsAt rb cnt c g σ w :=
  ⟨h.tbl, fun i hi => by rw [← e i hi]; exact h.row i hi, fun i hi => by rw [← e i hi]; exact h.len i hi⟩

set_option maxHeartbeats 8000000 in
set_option maxRecDepth 100000 in
theorem eliminate_any (base rb cnt : Nat) (g : Nat → Nat) (M : List (List Int)) (w : World) (hM : M.length = cnt) (hE : EqsAt rb cnt (cnt + 1) g (fun i => M.getD i []) w) (hs : ElimSm M)
    (hne : ∀ i, i < cnt → g i ≠ rb) (hinj : ∀ i j, i < cnt → j < cnt → g i = g j → i = j) (hb : ∀ i, i < cnt → base ≤ g i) (hc : cnt ≤ 1000) :
    Calls Try.prog 68 #[.slice (some ⟨rb, 0, none⟩) cnt cnt] w fun e w' => e = .returned (.int .i64 (elimV M).2) ∧ EqsAt rb cnt (cnt + 1) g (fun i => (elimV M).1.getD i []) w' ∧ Below base w w' := by
  have HSm := Lib.hid hs
  have HM := Lib.hid hM
  have HNe := Lib.hid hne
  have HInj := Lib.hid hinj
  have HBs := Lib.hid hb
  have HE0 := Lib.hid hE
  have HV := Lib.hid (show elimV M = elimTo M cnt from by unfold elimV; rw [hM])
  clear hs hne hinj hb hE hM
  go_enter Try.func68, Try.ntmps68
  go_wp2
  go_loopw [3, 11] (fun lv kv wr => ∃ k : Nat, kv = .int .i64 (k : Int) ∧ k ≤ cnt ∧ lv = .int .i64 (elimTo M k).2 ∧ EqsAt rb cnt (cnt + 1) g (fun i => (elimTo M k).1.getD i []) wr ∧ Below base w wr) (fun _ kv _ => cnt - (intOf kv).toNat)
  case atStart => exact ⟨0, rfl, Nat.zero_le _, rfl, HE0.out, Below.refl _ _⟩
  case round =>
    clear HE0
    obtain ⟨k, rfl, hk, rfl, he, hq⟩ := hrel
    have HE := Lib.hid he
    have HQ := Lib.hid hq
    by_cases hlt : k < cnt
    · have x0 := he.slot hlt
      have xl := he.lt
      have y0 := intA_cell (he.row k hlt) (show k < ((elimTo M k).1.getD k []).length by rw [he.len k hlt]; omega)
      have yl := (he.row k hlt).lt
      have hkl : (k : Nat) < M.length := by rw [HM.out]; exact hlt
      have hsm := HSm.out k hkl
      have HLst := Lib.hid (show (elimTo M (k + 1)).2 = ((elimTo M k).1.getD k []).getD k 0 from rfl)
      have k0 : (0 : Int) ≤ (k : Int) := by omega
      have k1 : (k : Int) < (cnt : Int) := by omega
      have k2 : (k : Int) < ((cnt + 1 : Nat) : Int) := by omega
      have HDf := Lib.hid (fun i (hi : i < cnt) (hik : i ≠ k) j (hj : j < cnt + 1) => hsm.2 i (by rw [HM.out]; exact hi) hik j (by rw [HM.out]; omega))
      have hl0 := hsm.1
      clear he hq hsm
      have HRk := Lib.hid (fun i => rowE_k M k i hkl)
      have HPt := Lib.hid (fun i (hi : i < cnt) (hik : i ≠ k) => elimR_part M k i (by rw [HM.out]; exact hi) hik)
      have HE1 := Lib.hid (HE.out.congr (σ := rowE M k 0) fun i _ => (rowE_zero M k i).symm)
      have HKk := Lib.hid (show (elimTo M (k + 1)).1.getD k [] = (elimTo M k).1.getD k [] from by rw [elim_row M k hkl, if_pos rfl])
      have HRl := Lib.hid (fun i (hi : i < cnt) => (HE.out.len i hi : ((elimTo M k).1.getD i []).length = cnt + 1))
      have HDq := Lib.hid (diff_def M k)
      clear HE
      generalize hpv : ((elimTo M k).1.getD k []).getD k 0 = pv at *
      have HPv := Lib.hid hpv
      generalize hla : (elimTo M k).2 = la at *
      clear hpv hla
      go_wp2
      clear x0 xl y0 yl
      go_loopw [23] (fun iv wr2 => ∃ i : Nat, iv = .int .i64 (i : Int) ∧ i ≤ cnt ∧ EqsAt rb cnt (cnt + 1) g (rowE M k i) wr2 ∧ Below base w wr2) (fun iv _ => cnt - (intOf iv).toNat)
      case atStart => exact ⟨0, rfl, Nat.zero_le _, HE1.out, HQ.out⟩
      case round =>
        clear HE1 HQ
        obtain ⟨i, rfl, hi, he2, hq2⟩ := hrel
        have HE2 := Lib.hid he2
        have HQ2 := Lib.hid hq2
        clear he2 hq2
        by_cases hli : i < cnt
        · by_cases hik : i = k
          · have HE3 := Lib.hid (HE2.out.congr (σ := rowE M k (i + 1)) fun q _ => by
              by_cases e : q = i
              · rw [e, rowE_new, hik, HKk.out, HRk.out]
              · exact (rowE_next M k i q e).symm)
            have z1 : ((i : Int) == (k : Int)) = true := by simp [hik]
            clear hik
            go_wp2
            go_roundw
            case rel => exact ⟨i + 1, by go_num, by omega, HE3.out, HQ2.out⟩
            case measure => simp [intOf]; omega
          · have z1 : ((i : Int) == (k : Int)) = false := by
              rw [beq_eq_false_iff_ne]
              omega
            have x0 := HE2.out.slot hli
            have xl := HE2.out.lt
            have y0 := intA_cell (HE2.out.row i hli) (show k < (rowE M k i i).length by rw [HE2.out.len i hli]; omega)
            rw [rowE_old] at y0
            have yl := (HE2.out.row i hli).lt
            have i0 : (0 : Int) ≤ (i : Int) := by omega
            have i1 : (i : Int) < (cnt : Int) := by omega
            have HE3 := Lib.hid (HE2.out.congr (σ := fun q => if q = i then partL (fun j => (diffE M k i j).tdiv la) ((elimTo M k).1.getD i []) 0 else rowE M k i q) fun q _ => by
              by_cases e : q = i
              · rw [if_pos e, e, rowE_old]; rfl
              · rw [if_neg e])
            have hik2 := hik
            have HIk := Lib.hid hik
            have HPi := Lib.hid (HPt.out i hli hik)
            have HDi := Lib.hid (HDf.out i hli hik)
            have HDqi := Lib.hid (HDq.out i)
            generalize hfa : ((elimTo M k).1.getD i []).getD k 0 = fa at *
            clear hfa hik hik2
            go_wp2
            clear x0 xl y0 yl
            go_loopw [41] (fun jv wr3 => ∃ j : Nat, jv = .int .i64 (j : Int) ∧ j ≤ cnt + 1 ∧ EqsAt rb cnt (cnt + 1) g (fun q => if q = i then partL (fun j => (diffE M k i j).tdiv la) ((elimTo M k).1.getD i []) j else rowE M k i q) wr3 ∧ Below base w wr3) (fun jv _ => cnt + 1 - (intOf jv).toNat)
            case atStart => exact ⟨0, rfl, Nat.zero_le _, HE3.out, HQ2.out⟩
            case round =>
              clear HE3 HQ2
              obtain ⟨j, rfl, hj, he4, hq4⟩ := hrel
              have HE4 := Lib.hid he4
              have HQ4 := Lib.hid hq4
              clear he4 hq4
              by_cases hlj : j < cnt + 1
              · have x0 := HE4.out.slot hli
                have x1 := HE4.out.slot hlt
                have xl := HE4.out.lt
                have ri := HE4.out.row i hli
                rw [if_pos rfl] at ri
                have rk := HE4.out.row k hlt
                rw [if_neg (fun e => HIk.out e.symm), HRk.out] at rk
                have lni : j < (partL (fun j => (diffE M k i j).tdiv la) ((elimTo M k).1.getD i []) j).length := by rw [partL_len, HRl.out i hli]; exact hlj
                have y0 := intA_cell ri lni
                rw [partL_at _ _ _ _ (by rw [HRl.out i hli]; exact hlj), if_neg (Nat.lt_irrefl _)] at y0
                have y1 := intA_cell rk (show j < ((elimTo M k).1.getD k []).length by rw [HRl.out k hlt]; exact hlj)
                have yf := ri.frozen j
                have yl := ri.lt
                have yk := rk.lt
                have hd := HDi.out j hlj
                rw [HDqi.out j] at hd
                have HDj := Lib.hid (HDqi.out j)
                have HSet := Lib.hid (fun W (hW : EqsAt rb cnt (cnt + 1) g (fun q => if q = i then partL (fun j => (diffE M k i j).tdiv la) ((elimTo M k).1.getD i []) j else rowE M k i q) W) => (hW.set HNe.out HInj.out hli j ((diffE M k i j).tdiv la)).congr (σ := fun q => if q = i then partL (fun j => (diffE M k i j).tdiv la) ((elimTo M k).1.getD i []) (j + 1) else rowE M k i q) fun q _ => by
                  by_cases e : q = i
                  · rw [if_pos e, if_pos e, if_pos rfl]; rfl
                  · rw [if_neg e, if_neg e, if_neg e])
                have HQv := Lib.hid (show ∃ qv, qv = (diffE M k i j).tdiv la from ⟨_, rfl⟩)
                obtain ⟨qv, hqv⟩ := HQv.out
                have HSet2 := Lib.hid (fun W hW => HSet.out W hW)
                rw [← hqv] at HSet2
                have HQe := Lib.hid hqv
                rw [HDj.out] at HQe
                clear hqv HQv HSet
                clear ri rk lni
                generalize ((elimTo M k).1.getD i []).getD j 0 = a at *
                generalize ((elimTo M k).1.getD k []).getD j 0 = b at *
                have w1 : wrap64 (wrap64 (pv * a) - wrap64 (fa * b)) = pv * a - fa * b := wrap64_diff hd
                have w1i : IntKind.i64.wrap (IntKind.i64.wrap (pv * a) - IntKind.i64.wrap (fa * b)) = pv * a - fa * b := by rw [IntWalk.i64_left, IntWalk.i64_left, IntWalk.i64_left]; exact w1
                have hdt : -9200000000000000000 ≤ (pv * a - fa * b).tdiv la ∧ (pv * a - fa * b).tdiv la ≤ 9200000000000000000 := by
                  have h1 : ((pv * a - fa * b).tdiv la).natAbs ≤ (pv * a - fa * b).natAbs := by rw [Int.natAbs_tdiv]; exact Nat.div_le_self _ _
                  omega
                have w2 : wrap64 ((pv * a - fa * b).tdiv la) = (pv * a - fa * b).tdiv la := w64 (by omega)
                have w2i : IntKind.i64.wrap ((pv * a - fa * b).tdiv la) = (pv * a - fa * b).tdiv la := IntWalk.i64_in _ (by omega)
                have z2 : (la == 0) = false := by simpa using hl0
                have j0 : (0 : Int) ≤ (j : Int) := by omega
                have j1 : (j : Int) < ((cnt + 1 : Nat) : Int) := by omega
                generalize pv * a - fa * b = dd at *
                have hqe := HQe.out
                rw [← hqe] at w2 w2i hdt
                have HW2 := Lib.hid w2
                have HW2i := Lib.hid w2i
                have hww : wrap64 (dd.tdiv la) = qv := by rw [← hqe]; exact w2
                have hwwi : IntKind.i64.wrap (dd.tdiv la) = qv := by rw [← hqe]; exact w2i
                clear hd hdt hqe w2 w2i HQe
                go_wp2
                refine region_below 27 follows_mixed (by kernel_rfl) ?_
                intro C hC
                simp only [List.take_succ_cons, List.take_zero, List.drop_succ_cons, List.drop_zero]
                repeat (first
                  | ((with_reducible refine quiet_plain rfl (fun K hK => ?_)); (focus (apply quiet_val; (focus (intro w' hw; obtain ⟨hcq, hfq⟩ := bcell ((hC.out _).1 hw); go_simp; (first | done | rfl))); (simp only [Act.put, List.setIfInBounds_toArray, List.set_cons_succ, List.set_cons_zero]); (with_reducible refine hK _ ?_); clear hK K)))
                  | ((with_reducible refine quiet_skip ?_ ?_); (focus (first | (simp [Region.wanted, yielded]; done) | (simp [Region.wanted, yielded, undef]; done))); simp only [Act.put, List.setIfInBounds_toArray, List.set_cons_succ, List.set_cons_zero])
                  | ((with_reducible refine quiet_go ?_ (fun K hK => ?_)); (focus (first | (simp [Region.wanted, yielded]; done) | (simp [Region.wanted, yielded, undef]; done))); (focus (apply quiet_val; (focus (intro w' hw; obtain ⟨hcq, hfq⟩ := bcell ((hC.out _).1 hw); go_simp; (first | done | rfl))); (simp only [Act.put, List.setIfInBounds_toArray, List.set_cons_succ, List.set_cons_zero]); (with_reducible refine hK _ ?_); clear hK K))))
                refine wpQuiet_nil ?_
                intro w1 hb1
                replace hb1 := (hC.out _).1 hb1
                clear hC C
                obtain ⟨hc1, hf1⟩ := bcell hb1
                have HE6 := Lib.hid (HE4.out.past hb1)
                have HQ6 := Lib.hid (HQ4.out.trans (hb1.mono (Nat.le_trans (HBs.out i hli) (Nat.le_of_lt (HE4.out.row i hli).lt))))
                have ri := HE6.out.row i hli
                rw [if_pos rfl] at ri
                have y0 := intA_cell ri (show j < (partL (fun j => (diffE M k i j).tdiv la) ((elimTo M k).1.getD i []) j).length by rw [partL_len, HRl.out i hli]; exact hlj)
                have yf := ri.frozen j
                have yl := ri.lt
                clear hc1 hf1 hb1 ri
                go_wp2
                go_roundw
                case rel => exact ⟨j + 1, by go_num, by omega, HSet2.out _ HE6.out, HQ6.out.setCell (p := ⟨g i, j, none⟩) (HBs.out i hli) _⟩
                case measure => simp [intOf]; omega
              · have hje : j = cnt + 1 := by omega
                have HE5 := Lib.hid (HE4.out.congr (σ := rowE M k (i + 1)) fun q _ => by
                  by_cases e : q = i
                  · rw [if_pos e, e, rowE_new, HPi.out, HRl.out i hli, hje]
                  · rw [if_neg e]; exact (rowE_next M k i q e).symm)
                have z4 : ¬ (j : Int) < ((cnt + 1 : Nat) : Int) := by omega
                go_wp2
                go_roundw
                case rel => exact ⟨i + 1, by go_num, by omega, HE5.out, HQ4.out⟩
                case measure => simp [intOf]; omega
        · have hie : i = cnt := by omega
          have HE5 := Lib.hid (HE2.out.congr (σ := fun q => (elimTo M (k + 1)).1.getD q []) fun q hq => by
            show rowE M k i q = _
            unfold rowE
            rw [if_pos (by omega)])
          go_wp2
          go_roundw
          case rel => exact ⟨k + 1, by go_num, by omega, by rw [HLst.out], HE5.out, HQ2.out⟩
          case measure => simp [intOf]; omega
    · obtain rfl : k = cnt := by omega
      go_wp2
      go_ret
      exact ⟨ret_int (by rw [HV.out]), by rw [HV.out]; exact HE.out, HQ.out⟩
end Go.Proofs.Ytapegimghfflhaa
end
