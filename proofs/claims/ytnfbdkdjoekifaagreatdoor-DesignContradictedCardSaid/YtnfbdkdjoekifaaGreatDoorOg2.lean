/- Contract: FormatSpec (package design). Printed by a program (gen_d4fmt.py). -/
import Derived.Test.YtnfbdkdjoekifaaGreatDoorOg1
import Derived.Test.YtnfbdkdjoekifaaGreatDoorOa7
import Derived.Test.YtnfbdkdjoekifaaGreatDoorOd9
import Derived.Test.YtnfbdkdjoekifaaGreatDoorOb5

section
namespace Go.Proofs.YtnfbdkdjoekifaaGreatDoor
open Go.RowKit

def termsU (ts : List DTerm) (k : Nat) : List (List UInt8) := (List.range k).flatMap fun j => termW (ts.getD j default).f (ts.getD j default).q (decide (j = 0))
def sepW (k : Nat) : List (List UInt8) := if 0 < k then [[59]] else []
def sgnW (ge : Bool) : List UInt8 := if ge then [62, 61] else [60, 61]
def reqW (k : Nat) (r : DReq) : List (List UInt8) := sepW k ++ termsU r.ts r.ts.length ++ [sgnW r.ge, Lib.itoa r.lim, wordV uWords r.unit]
def reqU (rs : List DReq) (k : Nat) : List (List UInt8) := (List.range k).flatMap fun j => reqW j (rs.getD j default)
/-- The string of a specification. -/
def fmtV (rs : List DReq) : List UInt8 := Lib.join (reqU rs rs.length) [32]
theorem termsU_succ (ts : List DTerm) (k : Nat) : termsU ts (k + 1) = termsU ts k ++ termW (ts.getD k default).f (ts.getD k default).q (decide (k = 0)) := by
  unfold termsU
  rw [List.range_succ, List.flatMap_append]
  simp
theorem reqU_succ (rs : List DReq) (k : Nat) : reqU rs (k + 1) = reqU rs k ++ reqW k (rs.getD k default) := by
  unfold reqU
  rw [List.range_succ, List.flatMap_append]
  simp
theorem termW_len (f q : Int) (b : Bool) : (termW f q b).length ≤ 2 := by
  unfold termW headW
  split
  · simp
  · split <;> simp
theorem termsU_len (ts : List DTerm) : ∀ k, (termsU ts k).length ≤ 2 * k
  | 0 => by simp [termsU]
  | k + 1 => by
    rw [termsU_succ, List.length_append]
    have := termsU_len ts k
    have := termW_len (ts.getD k default).f (ts.getD k default).q (decide (k = 0))
    omega
theorem reqW_len {k : Nat} {r : DReq} (h : r.ts.length ≤ 10) : (reqW k r).length ≤ 24 := by
  have h1 := termsU_len r.ts r.ts.length
  have h2 : (sepW k).length ≤ 1 := by unfold sepW; split <;> simp
  unfold reqW
  simp only [List.length_append, List.length_cons, List.length_nil]
  omega
theorem reqU_len {rs : List DReq} (h : ∀ r ∈ rs, r.ts.length ≤ 10) : ∀ k, k ≤ rs.length → (reqU rs k).length ≤ 24 * k
  | 0, _ => by simp [reqU]
  | k + 1, hk => by
    rw [reqU_succ, List.length_append]
    have := reqU_len h k (by omega)
    have := reqW_len (k := k) (h _ (getD_mem' (show k < rs.length by omega)))
    omega
theorem join_lenD (L : List (List UInt8)) (d : UInt8) (k : Nat) (h : ∀ x ∈ L, x.length ≤ k) : (Lib.join L [d]).length ≤ L.length * (k + 1) := by
  match L with
  | [] => simp [Lib.join]
  | [x] => have := h x (by simp); simp [Lib.join]; omega
  | x :: y :: l =>
    have h1 := h x (by simp)
    have h2 := join_lenD (y :: l) d k fun z hz => h z (List.mem_cons_of_mem _ hz)
    have e : Lib.join (x :: y :: l) [d] = x ++ [d] ++ Lib.join (y :: l) [d] := by simp [Lib.join]
    rw [e]
    simp only [List.length_append, List.length_cons, List.length_nil, Nat.succ_mul] at *
    omega
theorem lastW_len {f : Int} (q : Int) (h : (Lib.itoa f).length ≤ 21) : (lastW f q).length ≤ 28 := by
  have h1 := trim_lenD (Lib.itoa f)
  have h2 := wordV_len q
  unfold lastW sizeW
  split
  · omega
  · simp only [List.length_append, List.length_cons]; omega
theorem unit_len (q : Int) : (wordV uWords q).length ≤ 2 := by
  unfold wordV
  split
  · rename_i h
    have hi : 0 ≤ q ∧ q ≤ 2 := by simpa [withinB, uWords] using h
    obtain ⟨k, rfl⟩ : ∃ k : Nat, q = (k : Int) := ⟨q.toNat, by omega⟩
    rcases (by omega : k = 0 ∨ k = 1 ∨ k = 2) with rfl | rfl | rfl <;> decide
  · decide
theorem words_len {rs : List DReq} (h : ∀ r ∈ rs, (Lib.itoa r.lim).length ≤ 21 ∧ ∀ t ∈ r.ts, (Lib.itoa t.f).length ≤ 21) : ∀ x ∈ reqU rs rs.length, x.length ≤ 28 := by
  intro x hx
  obtain ⟨j, hj, hx⟩ := List.mem_flatMap.1 hx
  have hj := List.mem_range.1 hj
  obtain ⟨h1, h2⟩ := h _ (getD_mem' hj)
  unfold reqW at hx
  rcases List.mem_append.1 hx with hx | hx
  · rcases List.mem_append.1 hx with hx | hx
    · unfold sepW at hx
      split at hx
      · have e := List.mem_singleton.1 hx
        rw [e]; decide
      · cases hx
    · obtain ⟨i, hi, hx⟩ := List.mem_flatMap.1 hx
      have hi := List.mem_range.1 hi
      have h3 := h2 _ (getD_mem' hi)
      unfold termW at hx
      rcases List.mem_append.1 hx with hx | hx
      · unfold headW at hx
        split at hx
        · have e := List.mem_singleton.1 hx
          rw [e]; decide
        · split at hx
          · cases hx
          · have e := List.mem_singleton.1 hx
            rw [e]; decide
      · have e := List.mem_singleton.1 hx
        rw [e]
        exact lastW_len _ h3
  · simp only [List.mem_cons, List.not_mem_nil, or_false] at hx
    rcases hx with rfl | rfl | rfl
    · unfold sgnW; split <;> decide
    · omega
    · have := unit_len (rs.getD j default).unit; omega
theorem fmt_len {rs : List DReq} (hm : rs.length ≤ 8) (hs : ∀ r ∈ rs, r.ts.length ≤ 10) (h : ∀ r ∈ rs, (Lib.itoa r.lim).length ≤ 21 ∧ ∀ t ∈ r.ts, (Lib.itoa t.f).length ≤ 21) : (reqU rs rs.length).length ≤ 192 ∧ (Lib.join (reqU rs rs.length) [32]).length ≤ 1000000 := by
  have h1 := reqU_len hs rs.length (Nat.le_refl _)
  have h2 := join_lenD _ 32 28 (words_len h)
  omega
theorem cells_newD (w : World) (t : TypeId) (a b c : Value) : CellsIn (w.heap.size + 1) (w.alloc (.cells #[a, b, c] t)) (some ⟨w.heap.size, 0, none⟩) [a, b, c] :=
  .inr ⟨w.heap.size, 0, rfl, Nat.lt_succ_self _, fun j hj => by
    rw [Nat.zero_add, List.getElem?_eq_getElem hj]
    refine (Blk.new w t #[a, b, c]).cellAt j ?_
    match j, hj with
    | 0, _ => rfl
    | 1, _ => rfl
    | 2, _ => rfl⟩

set_option maxHeartbeats 8000000 in
set_option maxRecDepth 100000 in
theorem FormatSpec_any (B : Nat) (rs : List DReq) (A : Option Addr) (n c : Nat) (w : World) (hr : ReqsIn B w A rs) (hB : B ≤ w.heap.size) (hn : rs.length = n) (hm : n ≤ 8) (hs : ∀ r ∈ rs, r.ts.length ≤ 10) (hQ : TabS 1 qWords w) (hU : TabS 0 uWords w) (hI : ∀ r ∈ rs, ItIn w r.lim ∧ ∀ t ∈ r.ts, ItIn w t.f) :
    Calls Tryz.prog 29 #[.agg #[.slice A n c]] w fun e w' => e = .returned (strV (fmtV rs)) ∧ Below w.heap.size w w' := by
  obtain ⟨i0, hi0, hz0, hz1, hz2⟩ := string_partsD
  have hgu := hU.1
  have HR := Lib.hid hr
  have HN := Lib.hid hn
  have HSm := Lib.hid hs
  have HI := Lib.hid hI
  have HTW := Lib.hid (fun f q x W (hW : Below w.heap.size w W) (h : ItIn w f) => termWords_any f q x W (hQ.below hW) (h.below hW))
  have HWu := Lib.hid (fun unit W (hW : Below w.heap.size w W) => wordOf_any 3 0 uWords unit W (hU.below hW) rfl (by decide))
  have HFl := Lib.hid (fmt_len (by omega) hs fun r hr => ⟨(hI r hr).1.1, fun t ht => ((hI r hr).2 t ht).1⟩)
  have HUl := Lib.hid (reqU_len hs)
  have HF := Lib.hid (show fmtV rs = Lib.join (reqU rs rs.length) [32] from rfl)
  clear hr hn hs hI hQ hU
  generalize fmtV rs = F at *
  go_enter Tryz.func29, Tryz.ntmps29
  go_wp2
  go_loopw [3, 12] (fun ov iv wr => ∃ (k m : Nat) (A1 : Option Addr) (c1 : Nat), iv = .int .i64 (k : Int) ∧ k ≤ n ∧ ov = .slice A1 m c1 ∧ m = (reqU rs k).length ∧ wr.ownsRow w.heap.size 9 1 (.slice A1 m c1) m ((reqU rs k).map strV) ∧ Below w.heap.size w wr) (fun _ iv _ => n - (intOf iv).toNat)
  case atStart => exact ⟨0, 0, none, 0, rfl, Nat.zero_le _, rfl, rfl, World.ownsRow_nil _ _ _ _, pa pr⟩
  case round =>
    obtain ⟨k, m, A1, c1, rfl, hk, rfl, hml, hown, hq⟩ := hrel
    have HQ := Lib.hid hq
    have HO := Lib.hid hown
    have hqs := hq.size
    have hml2 := HUl.out k (by rw [HN.out]; exact hk)
    rw [← hml] at hml2
    have HMl := Lib.hid hml
    clear hq hown hml
    by_cases hlt : k < n
    · have hk' : k < rs.length := by rw [HN.out]; exact hlt
      obtain ⟨b, off, rfl, hb, hct⟩ := HR.out.at_ hk'
      obtain ⟨A', c', u0, u1, u2, u3, hts, hcap⟩ := hct k hk'
      have hbw : b < w.heap.size := Nat.lt_of_lt_of_le hb hB
      have hmem := getD_mem' hk'
      have hl10 := HSm.out _ hmem
      obtain ⟨hI1, hI2⟩ := HI.out _ hmem
      have HSt := Lib.hid (reqU_succ rs k)
      generalize hRU : reqU rs (k + 1) = RU at *
      have HRU := Lib.hid hRU
      generalize reqU rs k = M at *
      clear hct hRU hmem
      generalize rs.getD k default = r at *
      obtain ⟨ts, ge, lim, unit⟩ := r
      replace HSt := Lib.hid (show RU = M ++ (sepW k ++ termsU ts ts.length ++ [sgnW ge, Lib.itoa lim, wordV uWords unit]) from HSt.out)
      dsimp only at hl10 hI1 hI2
      have HTs := Lib.hid (show CellsIn B w A' (termsC ts) from hts)
      have HIl := Lib.hid hI1
      have HIt := Lib.hid hI2
      have v0 := (HQ.out.cell (p := ⟨b, off + k * 4, none⟩) hbw).trans (show w.cell? ⟨b, off + k * 4, none⟩ = some (.slice A' ts.length c') from u0)
      have v1 := (HQ.out.cell (p := ⟨b, off + k * 4 + 1, none⟩) hbw).trans (show w.cell? ⟨b, off + k * 4 + 1, none⟩ = some (.bool ge) from u1)
      have v2 := (HQ.out.cell (p := ⟨b, off + k * 4 + 2, none⟩) hbw).trans (show w.cell? ⟨b, off + k * 4 + 2, none⟩ = some (.int .i64 lim) from u2)
      have v3 := (HQ.out.cell (p := ⟨b, off + k * 4 + 3, none⟩) hbw).trans (show w.cell? ⟨b, off + k * 4 + 3, none⟩ = some (.int .i64 unit) from u3)
      have HWk := Lib.hid (HWu.out unit)
      have HWl := Lib.hid (unit_len unit)
      generalize hnt : ts.length = nt at *
      have HNt := Lib.hid hnt
      have k0 : (0 : Int) ≤ (k : Int) := by omega
      have k1 : (k : Int) < (n : Int) := by omega
      clear u0 u1 u2 u3 hts hcap hI1 hI2 hnt hk'
      have hrb : (wr.alloc (.cells #[.slice A' nt c', .bool ge, .int .i64 lim, .int .i64 unit] 45)).heap.size = wr.heap.size + 1 := by simp
      have hR0 : Blk (wr.alloc (.cells #[.slice A' nt c', .bool ge, .int .i64 lim, .int .i64 unit] 45)) wr.heap.size 45 #[.slice A' nt c', .bool ge, .int .i64 lim, .int .i64 unit] := Blk.newAt rfl
      have hB0 : Below w.heap.size w (wr.alloc (.cells #[.slice A' nt c', .bool ge, .int .i64 lim, .int .i64 unit] 45)) := pa HQ.out
      have hO0 := HO.out.alloc (.cells #[.slice A' nt c', .bool ge, .int .i64 lim, .int .i64 unit] 45)
      have R0 := Lib.hid hR0
      have B0 := Lib.hid hB0
      have O0 := Lib.hid hO0
      clear hR0 hB0 hO0
      by_cases hkz : 0 < k
      · have HC0 := Lib.hid (show CellsIn (wr.heap.size + 1 + 1) ((wr.alloc (.cells #[.slice A' nt c', .bool ge, .int .i64 lim, .int .i64 unit] 45)).alloc (.cells #[strV [59]] 9)) (some ⟨wr.heap.size + 1, 0, none⟩) [strV [59]] by have h := cellsIn_one (wr.alloc (.cells #[.slice A' nt c', .bool ge, .int .i64 lim, .int .i64 unit] 45)) 9 (strV [59]); rw [hrb] at h; exact h)
        have kz : (0 : Int) < (k : Int) := by omega
        go_wp2_with (at_builtin; go_must (refine wpList_append_cells _ rfl (.tmp 19) (.tmp 20) _ rfl w.heap.size 9 i0 _ 1 16 Tryz.underlying102 hi0 hz0 hz1 hz2 rfl (by omega) _ m _ rfl (O0.out.alloc _) (wr.heap.size + 1 + 1) (some ⟨wr.heap.size + 1, 0, none⟩) 1 1 ([strV [59]]) rfl (HC0.out) (rfl) (by simp [Value.oneCell']) (by simp only [maxLen]; omega) (by omega) (by first | omega | (simp; done) | (simp; omega)) ?_); intro v4 w4 hown4 hg4 _; have Rx := Lib.hid (blk_grown (R0.out.alloc (o := .cells #[strV [59]] 9)) (O0.out.alloc (.cells #[strV [59]] 9)) (by decide) hg4); have y0 := Rx.out.cellAt 0 rfl; have yl := Rx.out.lt)
        obtain ⟨Ax, cx, rfl, hcx, _⟩ := own_form hown4
        have Bx := Lib.hid (pg (pa B0.out) (O0.out.alloc (.cells #[strV [59]] 9)) (Nat.le_refl _) hg4)
        have Ox := Lib.hid (show w4.ownsRow w.heap.size 9 1 (.slice Ax (m + 1) cx) (m + 1) ((M ++ [[59]]).map strV) by rw [List.map_append]; exact hown4)
        have HM2x := Lib.hid (show M ++ [[59]] = M ++ sepW k by unfold sepW; rw [if_pos hkz])
        have HMx := Lib.hid (show m + 1 = (M ++ [[59]]).length by rw [List.length_append, ← HMl.out]; rfl)
        replace HSt := Lib.hid (show RU = M ++ sepW k ++ (termsU ts nt ++ [sgnW ge, Lib.itoa lim, wordV uWords unit]) by rw [HSt.out]; simp)
        generalize M ++ sepW k = M0 at *
        generalize M ++ [[59]] = M2 at *
        clear hown4 hg4 HC0 R0 B0 O0 hrb HO HQ hqs v0 v1 v2 v3
        generalize wr.heap.size = rb at *
        generalize hmx2 : m + 1 = mx at *
        have hmb : mx ≤ 200 := by omega
        go_loopw [3, 25] (fun ov iv wr => ∃ (j m2 : Nat) (A2 : Option Addr) (c2 : Nat), iv = .int .i64 (j : Int) ∧ j ≤ nt ∧ ov = .slice A2 m2 c2 ∧ m2 = (M2 ++ termsU ts j).length ∧ wr.ownsRow w.heap.size 9 1 (.slice A2 m2 c2) m2 ((M2 ++ termsU ts j).map strV) ∧ Blk wr rb 45 #[.slice A' nt c', .bool ge, .int .i64 lim, .int .i64 unit] ∧ Below w.heap.size w wr) (fun _ iv _ => nt - (intOf iv).toNat)
        case atStart => exact ⟨0, mx, Ax, cx, rfl, Nat.zero_le _, rfl, by rw [HMx.out]; simp [termsU], by simpa [termsU] using Ox.out, Rx.out, Bx.out⟩
        case round =>
          obtain ⟨j, m2, A2, c2, rfl, hj, rfl, hm2, hown, hblk, hq⟩ := hrel
          clear y0 yl Ox Rx Bx
          have HO := Lib.hid hown
          have HK := Lib.hid hblk
          have HQ := Lib.hid hq
          have hqs := hq.size
          have htl := termsU_len ts j
          have HM2 := Lib.hid hm2
          rw [List.length_append, ← HMx.out] at hm2
          have hm2b : m2 ≤ 300 := by omega
          clear hm2
          clear hown hblk hq
          by_cases hltj : j < nt
          · obtain ⟨b2, o2, rfl, hb2, hct2⟩ := terms_at (HTs.out.below (HQ.out.mono hB)) (k := j) (by rw [HNt.out]; exact hltj)
            obtain ⟨d0, d1⟩ := hct2 j (by rw [HNt.out]; exact hltj)
            have hI3 := HIt.out _ (getD_mem' (show j < ts.length by rw [HNt.out]; exact hltj))
            have HT := Lib.hid (termsU_succ ts j)
            have HTW2 := Lib.hid (fun x W (hW : Below w.heap.size w W) => HTW.out (ts.getD j default).f (ts.getD j default).q x W hW hI3)
            have hb2w : b2 < wr.heap.size := Nat.lt_of_lt_of_le (Nat.lt_of_lt_of_le hb2 hB) hqs
            clear hct2 hI3
            generalize (ts.getD j default).f = f at *
            generalize (ts.getD j default).q = q at *
            have j0 : (0 : Int) ≤ (j : Int) := by omega
            have j1 : (j : Int) < (nt : Int) := by omega
            have hj10 : j ≤ 10 := by omega
            cases hjz : ((j : Int) == 0)
            · have HTX := Lib.hid (show termsU ts (j + 1) = termsU ts j ++ termW f q false by rw [HT.out]; congr 1; congr 1; simp at hjz; simp [hjz])
              have HTW3 := Lib.hid (HTW2.out false)
              have h2l := termW_len f q false
              have hjz2 : ¬ (j : Int) = 0 := by simpa using hjz
              generalize termW f q false = L5 at *
              go_wp2_with (first
                | (go_at_call 54; refine (HTW3.out _ (pa HQ.out)).mono ?_; rintro e w5 ⟨A5, c5, rfl, hc5, hl5, hb5⟩; have HC5 := Lib.hid hc5; have HO5 := Lib.hid (own_past hb5 (HO.out.alloc (.cells #[.int .i64 f, .int .i64 q] 64))); have HK5 := Lib.hid ((HK.out.alloc (o := .cells #[.int .i64 f, .int .i64 q] 64)).past hb5); have HB5 := Lib.hid (pt (pa HQ.out) hb5); have hs5 := HB5.out.size; clear hc5 hb5)
                | (at_builtin; go_must (refine wpList_append_cells _ rfl (.tmp 30) (.tmp 34) _ rfl w.heap.size 9 i0 _ 1 16 Tryz.underlying102 hi0 hz0 hz1 hz2 rfl (by omega) _ m2 _ rfl (HO5.out) (w5.heap.size) (A5) L5.length c5 (L5.map strV) rfl (HC5.out) (by rw [List.length_map]; omega) (by intro u hu; obtain ⟨x, _, rfl⟩ := List.mem_map.1 hu; rfl) (by simp only [maxLen]; omega) (by omega) (by first | omega | (simp; done) | (simp; omega)) ?_); intro v6 w6 hown6 hg6 _))
              obtain ⟨A6, c6, rfl, hc6, _⟩ := own_form hown6
              have HB6 := Lib.hid (pg HB5.out HO5.out (Nat.le_refl _) hg6)
              have HK6 := Lib.hid (blk_grown HK5.out HO5.out (by decide) hg6)
              have HO6 := Lib.hid hown6
              clear hown6 hg6
              go_roundw
              case rel => exact ⟨j + 1, m2 + L5.length, A6, c6, by go_num, by omega, rfl, by rw [HTX.out, ← List.append_assoc, List.length_append, ← HM2.out], by rw [HTX.out, ← List.append_assoc, List.map_append]; exact HO6.out, HK6.out, HB6.out⟩
              case measure => simp [intOf]; omega
            · have HTX := Lib.hid (show termsU ts (j + 1) = termsU ts j ++ termW f q true by rw [HT.out]; congr 1; congr 1; simp at hjz; simp [hjz])
              have HTW3 := Lib.hid (HTW2.out true)
              have h2l := termW_len f q true
              have hj0 : j = 0 := by simpa using hjz
              subst hj0
              simp only [Nat.zero_mul, Nat.add_zero] at d0 d1
              generalize termW f q true = L5 at *
              go_wp2_with (first
                | (go_at_call 54; refine (HTW3.out _ (pa HQ.out)).mono ?_; rintro e w5 ⟨A5, c5, rfl, hc5, hl5, hb5⟩; have HC5 := Lib.hid hc5; have HO5 := Lib.hid (own_past hb5 (HO.out.alloc (.cells #[.int .i64 f, .int .i64 q] 64))); have HK5 := Lib.hid ((HK.out.alloc (o := .cells #[.int .i64 f, .int .i64 q] 64)).past hb5); have HB5 := Lib.hid (pt (pa HQ.out) hb5); have hs5 := HB5.out.size; clear hc5 hb5)
                | (at_builtin; go_must (refine wpList_append_cells _ rfl (.tmp 30) (.tmp 34) _ rfl w.heap.size 9 i0 _ 1 16 Tryz.underlying102 hi0 hz0 hz1 hz2 rfl (by omega) _ m2 _ rfl (HO5.out) (w5.heap.size) (A5) L5.length c5 (L5.map strV) rfl (HC5.out) (by rw [List.length_map]; omega) (by intro u hu; obtain ⟨x, _, rfl⟩ := List.mem_map.1 hu; rfl) (by simp only [maxLen]; omega) (by omega) (by first | omega | (simp; done) | (simp; omega)) ?_); intro v6 w6 hown6 hg6 _))
              obtain ⟨A6, c6, rfl, hc6, _⟩ := own_form hown6
              have HB6 := Lib.hid (pg HB5.out HO5.out (Nat.le_refl _) hg6)
              have HK6 := Lib.hid (blk_grown HK5.out HO5.out (by decide) hg6)
              have HO6 := Lib.hid hown6
              clear hown6 hg6
              go_roundw
              case rel => exact ⟨0 + 1, m2 + L5.length, A6, c6, by go_num, by omega, rfl, by rw [HTX.out, ← List.append_assoc, List.length_append, ← HM2.out], by rw [HTX.out, ← List.append_assoc, List.map_append]; exact HO6.out, HK6.out, HB6.out⟩
              case measure => simp [intOf]; omega
          · have hje : j = nt := by omega
            subst hje
            have z0 := HK.out.cellAt 1 rfl
            have z1 := HK.out.cellAt 2 rfl
            have z2 := HK.out.cellAt 3 rfl
            have zl := HK.out.lt
            have HIk := Lib.hid HIl.out.2
            have hil := HIl.out.1
            have HFin := Lib.hid (show RU = (M2 ++ termsU ts j) ++ [sgnW ge, Lib.itoa lim, wordV uWords unit] by rw [HSt.out, HM2x.out]; simp)
            generalize Lib.itoa lim = IL at *
            generalize wordV uWords unit = UL at *
            generalize M2 ++ termsU ts j = M3 at *
            cases ge
            · go_wp2
              have HSS := Lib.hid (show ∀ W, Blk W rb 45 #[.slice A' j c', .bool false, .int .i64 lim, .int .i64 unit] → W.cell? ⟨rb, 2, none⟩ = some (.int .i64 lim) ∧ W.cell? ⟨rb, 3, none⟩ = some (.int .i64 unit) from fun W h => ⟨h.cellAt 2 rfl, h.cellAt 3 rfl⟩)
              refine wp_region_G 11 follows_mixed (fun W => W.cell? ⟨rb, 2, none⟩ = some (.int .i64 lim) ∧ W.cell? ⟨rb, 3, none⟩ = some (.int .i64 unit)) (HSS.out _ HK.out.drew) ?_
              intro hSd inv
              have HSd := Lib.hid hSd
              clear hSd z0 z1 z2 zl
              refine wpAnyG_take (i := 0) (v := ?_) rfl (by kernel_rfl) (by kernel_rfl) (by kernel_rfl) (by kernel_rfl) (by kernel_rfl) (by decide) (by decide) inv (fun _ _ _ h => h) (Or.inl ⟨by rfl, ?_⟩) HSd.out ?_; rotate_left; (focus (intro W y1; obtain ⟨y1, y2⟩ := y1; go_simp; (first | done | with_reducible rfl))); clear inv; intro inv; simp only [List.getElem_toArray, List.getElem_cons_zero, Act.put, List.setIfInBounds_toArray, List.set_cons_zero, List.set_cons_succ]
              refine wpAnyG_take (i := 1) (v := ?_) rfl (by kernel_rfl) (by kernel_rfl) (by kernel_rfl) (by kernel_rfl) (by kernel_rfl) (by decide) (by decide) inv (fun _ _ _ h => h) (Or.inl ⟨by rfl, ?_⟩) HSd.out ?_; rotate_left; (focus (intro W y1; obtain ⟨y1, y2⟩ := y1; go_simp; (first | done | with_reducible rfl))); clear inv; intro inv; simp only [List.getElem_toArray, List.getElem_cons_zero, List.getElem_cons_succ, Act.put, List.setIfInBounds_toArray, List.set_cons_zero, List.set_cons_succ]
              refine wpAnyG_take (i := 2) (v := ?_) rfl (by kernel_rfl) (by kernel_rfl) (by kernel_rfl) (by kernel_rfl) (by kernel_rfl) (by decide) (by decide) inv (fun _ _ _ h => h) (Or.inl ⟨by rfl, ?_⟩) HSd.out ?_; rotate_left; (focus (intro W y1; obtain ⟨y1, y2⟩ := y1; go_simp; (first | done | with_reducible rfl))); clear inv; intro inv; simp only [List.getElem_toArray, List.getElem_cons_zero, List.getElem_cons_succ, Act.put, List.setIfInBounds_toArray, List.set_cons_zero, List.set_cons_succ]
              refine wpAnyG_take (i := 3) (v := ?_) rfl (by kernel_rfl) (by kernel_rfl) (by kernel_rfl) (by kernel_rfl) (by kernel_rfl) (by decide) (by decide) inv (fun _ _ _ h => h) (Or.inl ⟨by rfl, ?_⟩) HSd.out ?_; rotate_left; (focus (intro W y1; obtain ⟨y1, y2⟩ := y1; go_simp; (first | done | with_reducible rfl))); clear inv; intro inv; simp only [List.getElem_toArray, List.getElem_cons_zero, List.getElem_cons_succ, Act.put, List.setIfInBounds_toArray, List.set_cons_zero, List.set_cons_succ]
              refine wpAnyG_take (i := 5) (v := ?_) rfl (by kernel_rfl) (by kernel_rfl) (by kernel_rfl) (by kernel_rfl) (by kernel_rfl) (by decide) (by decide) inv (fun _ _ _ h => h) (Or.inl ⟨by rfl, ?_⟩) HSd.out ?_; rotate_left; (focus (intro W y1; obtain ⟨y1, y2⟩ := y1; go_simp; (first | done | with_reducible rfl))); clear inv; intro inv; simp only [List.getElem_toArray, List.getElem_cons_zero, List.getElem_cons_succ, Act.put, List.setIfInBounds_toArray, List.set_cons_zero, List.set_cons_succ]
              refine wpAnyG_take (i := 6) (v := ?_) rfl (by kernel_rfl) (by kernel_rfl) (by kernel_rfl) (by kernel_rfl) (by kernel_rfl) (by decide) (by decide) inv (fun _ _ _ h => h) (Or.inl ⟨by rfl, ?_⟩) HSd.out ?_; rotate_left; (focus (intro W y1; obtain ⟨y1, y2⟩ := y1; go_simp; (first | done | with_reducible rfl))); clear inv; intro inv; simp only [List.getElem_toArray, List.getElem_cons_zero, List.getElem_cons_succ, Act.put, List.setIfInBounds_toArray, List.set_cons_zero, List.set_cons_succ]
              refine wpAnyG_take (i := 7) (v := ?_) rfl (by kernel_rfl) (by kernel_rfl) (by kernel_rfl) (by kernel_rfl) (by kernel_rfl) (by decide) (by decide) inv (fun _ _ _ h => h) (Or.inl ⟨by rfl, ?_⟩) HSd.out ?_; rotate_left; (focus (intro W y1; obtain ⟨y1, y2⟩ := y1; go_simp; (first | done | with_reducible rfl))); clear inv; intro inv; simp only [List.getElem_toArray, List.getElem_cons_zero, List.getElem_cons_succ, Act.put, List.setIfInBounds_toArray, List.set_cons_zero, List.set_cons_succ]
              clear inv
              refine wpAnyG_one (i := 4) (by kernel_rfl) rfl rfl fun K hK => ?_
              go_simp
              go_at_call 55; refine (HIk.out _ (pd HQ.out)).mono ?_; rintro e w7 ⟨rfl, hb7⟩
              have hbW := pt (pd pr) hb7
              have HB7 := Lib.hid (pt HQ.out hbW)
              have HK7 := Lib.hid (HK.out.past hbW)
              have HO7 := Lib.hid (own_past hbW HO.out)
              have hs7 := HB7.out.size
              clear hb7 hbW
              refine hK.out _ _ (fun _ => HSS.out _ HK7.out) ?_; clear hK K
              refine wpAnyG_one (i := 8) (by kernel_rfl) rfl rfl fun K hK => ?_
              go_simp
              go_at_call 56; refine (HWk.out _ HB7.out).mono ?_; rintro e w' ⟨rfl, rfl⟩
              refine hK.out _ _ (fun _ => HSS.out _ HK7.out) ?_; clear hK K
              refine wpAnyG_one (i := 9) (by kernel_rfl) rfl rfl fun K hK => ?_
              go_simp
              refine hK.out _ _ (fun _ => HSS.out _ HK7.out.alloc) ?_; clear hK K
              refine wpAnyG_one (i := 10) (by kernel_rfl) rfl rfl fun K hK => ?_
              refine wp_append_cells _ (.tmp 39) (.tmp 48) _ (by rfl) w.heap.size 9 i0 _ 1 16 Tryz.underlying102 hi0 hz0 hz1 hz2 rfl (by omega) (.slice A2 m2 c2) m2 _ (by rfl) (HO7.out.alloc _) (w7.heap.size + 1) (some ⟨w7.heap.size, 0, none⟩) 3 3 [strV [60, 61], strV IL, strV UL] (by rfl) (cells_newD _ _ _ _ _) rfl (by simp [Value.oneCell']) (by simp only [maxLen]; omega) (by omega) (by simp; omega) ?_
              intro v8 w8 hown8 hg8 _
              obtain ⟨A8, c8, rfl, hc8, _⟩ := own_form hown8
              have HB8 := Lib.hid (pg (pa HB7.out) (HO7.out.alloc _) (Nat.le_refl _) hg8)
              have HK8 := Lib.hid (blk_grown HK7.out.alloc (HO7.out.alloc _) (by decide) hg8)
              have HO8 := Lib.hid hown8
              clear hown8 hg8
              refine hK.out _ _ (fun _ => HSS.out _ HK8.out) ?_; clear hK K
              refine wpAnyG_one (i := 11) (by kernel_rfl) rfl rfl fun K hK => ?_
              go_simp
              refine hK.out _ _ (fun h => absurd h (by decide)) ?_; clear hK K
              refine wpAnyG_done (by kernel_rfl) ?_
              go_wp2
              go_roundw
              case rel => exact ⟨k + 1, m2 + 3, A8, c8, by go_num, by omega, rfl, by rw [HRU.out, HFin.out, List.length_append, ← HM2.out]; rfl, by rw [HRU.out, HFin.out, List.map_append]; exact HO8.out, HB8.out⟩
              case measure => simp [intOf]; omega
            · go_wp2
              have HSS := Lib.hid (show ∀ W, Blk W rb 45 #[.slice A' j c', .bool true, .int .i64 lim, .int .i64 unit] → W.cell? ⟨rb, 2, none⟩ = some (.int .i64 lim) ∧ W.cell? ⟨rb, 3, none⟩ = some (.int .i64 unit) from fun W h => ⟨h.cellAt 2 rfl, h.cellAt 3 rfl⟩)
              refine wp_region_G 11 follows_mixed (fun W => W.cell? ⟨rb, 2, none⟩ = some (.int .i64 lim) ∧ W.cell? ⟨rb, 3, none⟩ = some (.int .i64 unit)) (HSS.out _ HK.out.drew) ?_
              intro hSd inv
              have HSd := Lib.hid hSd
              clear hSd z0 z1 z2 zl
              refine wpAnyG_take (i := 0) (v := ?_) rfl (by kernel_rfl) (by kernel_rfl) (by kernel_rfl) (by kernel_rfl) (by kernel_rfl) (by decide) (by decide) inv (fun _ _ _ h => h) (Or.inl ⟨by rfl, ?_⟩) HSd.out ?_; rotate_left; (focus (intro W y1; obtain ⟨y1, y2⟩ := y1; go_simp; (first | done | with_reducible rfl))); clear inv; intro inv; simp only [List.getElem_toArray, List.getElem_cons_zero, Act.put, List.setIfInBounds_toArray, List.set_cons_zero, List.set_cons_succ]
              refine wpAnyG_take (i := 1) (v := ?_) rfl (by kernel_rfl) (by kernel_rfl) (by kernel_rfl) (by kernel_rfl) (by kernel_rfl) (by decide) (by decide) inv (fun _ _ _ h => h) (Or.inl ⟨by rfl, ?_⟩) HSd.out ?_; rotate_left; (focus (intro W y1; obtain ⟨y1, y2⟩ := y1; go_simp; (first | done | with_reducible rfl))); clear inv; intro inv; simp only [List.getElem_toArray, List.getElem_cons_zero, List.getElem_cons_succ, Act.put, List.setIfInBounds_toArray, List.set_cons_zero, List.set_cons_succ]
              refine wpAnyG_take (i := 2) (v := ?_) rfl (by kernel_rfl) (by kernel_rfl) (by kernel_rfl) (by kernel_rfl) (by kernel_rfl) (by decide) (by decide) inv (fun _ _ _ h => h) (Or.inl ⟨by rfl, ?_⟩) HSd.out ?_; rotate_left; (focus (intro W y1; obtain ⟨y1, y2⟩ := y1; go_simp; (first | done | with_reducible rfl))); clear inv; intro inv; simp only [List.getElem_toArray, List.getElem_cons_zero, List.getElem_cons_succ, Act.put, List.setIfInBounds_toArray, List.set_cons_zero, List.set_cons_succ]
              refine wpAnyG_take (i := 3) (v := ?_) rfl (by kernel_rfl) (by kernel_rfl) (by kernel_rfl) (by kernel_rfl) (by kernel_rfl) (by decide) (by decide) inv (fun _ _ _ h => h) (Or.inl ⟨by rfl, ?_⟩) HSd.out ?_; rotate_left; (focus (intro W y1; obtain ⟨y1, y2⟩ := y1; go_simp; (first | done | with_reducible rfl))); clear inv; intro inv; simp only [List.getElem_toArray, List.getElem_cons_zero, List.getElem_cons_succ, Act.put, List.setIfInBounds_toArray, List.set_cons_zero, List.set_cons_succ]
              refine wpAnyG_take (i := 5) (v := ?_) rfl (by kernel_rfl) (by kernel_rfl) (by kernel_rfl) (by kernel_rfl) (by kernel_rfl) (by decide) (by decide) inv (fun _ _ _ h => h) (Or.inl ⟨by rfl, ?_⟩) HSd.out ?_; rotate_left; (focus (intro W y1; obtain ⟨y1, y2⟩ := y1; go_simp; (first | done | with_reducible rfl))); clear inv; intro inv; simp only [List.getElem_toArray, List.getElem_cons_zero, List.getElem_cons_succ, Act.put, List.setIfInBounds_toArray, List.set_cons_zero, List.set_cons_succ]
              refine wpAnyG_take (i := 6) (v := ?_) rfl (by kernel_rfl) (by kernel_rfl) (by kernel_rfl) (by kernel_rfl) (by kernel_rfl) (by decide) (by decide) inv (fun _ _ _ h => h) (Or.inl ⟨by rfl, ?_⟩) HSd.out ?_; rotate_left; (focus (intro W y1; obtain ⟨y1, y2⟩ := y1; go_simp; (first | done | with_reducible rfl))); clear inv; intro inv; simp only [List.getElem_toArray, List.getElem_cons_zero, List.getElem_cons_succ, Act.put, List.setIfInBounds_toArray, List.set_cons_zero, List.set_cons_succ]
              refine wpAnyG_take (i := 7) (v := ?_) rfl (by kernel_rfl) (by kernel_rfl) (by kernel_rfl) (by kernel_rfl) (by kernel_rfl) (by decide) (by decide) inv (fun _ _ _ h => h) (Or.inl ⟨by rfl, ?_⟩) HSd.out ?_; rotate_left; (focus (intro W y1; obtain ⟨y1, y2⟩ := y1; go_simp; (first | done | with_reducible rfl))); clear inv; intro inv; simp only [List.getElem_toArray, List.getElem_cons_zero, List.getElem_cons_succ, Act.put, List.setIfInBounds_toArray, List.set_cons_zero, List.set_cons_succ]
              clear inv
              refine wpAnyG_one (i := 4) (by kernel_rfl) rfl rfl fun K hK => ?_
              go_simp
              go_at_call 55; refine (HIk.out _ (pd HQ.out)).mono ?_; rintro e w7 ⟨rfl, hb7⟩
              have hbW := pt (pd pr) hb7
              have HB7 := Lib.hid (pt HQ.out hbW)
              have HK7 := Lib.hid (HK.out.past hbW)
              have HO7 := Lib.hid (own_past hbW HO.out)
              have hs7 := HB7.out.size
              clear hb7 hbW
              refine hK.out _ _ (fun _ => HSS.out _ HK7.out) ?_; clear hK K
              refine wpAnyG_one (i := 8) (by kernel_rfl) rfl rfl fun K hK => ?_
              go_simp
              go_at_call 56; refine (HWk.out _ HB7.out).mono ?_; rintro e w' ⟨rfl, rfl⟩
              refine hK.out _ _ (fun _ => HSS.out _ HK7.out) ?_; clear hK K
              refine wpAnyG_one (i := 9) (by kernel_rfl) rfl rfl fun K hK => ?_
              go_simp
              refine hK.out _ _ (fun _ => HSS.out _ HK7.out.alloc) ?_; clear hK K
              refine wpAnyG_one (i := 10) (by kernel_rfl) rfl rfl fun K hK => ?_
              refine wp_append_cells _ (.tmp 39) (.tmp 48) _ (by rfl) w.heap.size 9 i0 _ 1 16 Tryz.underlying102 hi0 hz0 hz1 hz2 rfl (by omega) (.slice A2 m2 c2) m2 _ (by rfl) (HO7.out.alloc _) (w7.heap.size + 1) (some ⟨w7.heap.size, 0, none⟩) 3 3 [strV [62, 61], strV IL, strV UL] (by rfl) (cells_newD _ _ _ _ _) rfl (by simp [Value.oneCell']) (by simp only [maxLen]; omega) (by omega) (by simp; omega) ?_
              intro v8 w8 hown8 hg8 _
              obtain ⟨A8, c8, rfl, hc8, _⟩ := own_form hown8
              have HB8 := Lib.hid (pg (pa HB7.out) (HO7.out.alloc _) (Nat.le_refl _) hg8)
              have HK8 := Lib.hid (blk_grown HK7.out.alloc (HO7.out.alloc _) (by decide) hg8)
              have HO8 := Lib.hid hown8
              clear hown8 hg8
              refine hK.out _ _ (fun _ => HSS.out _ HK8.out) ?_; clear hK K
              refine wpAnyG_one (i := 11) (by kernel_rfl) rfl rfl fun K hK => ?_
              go_simp
              refine hK.out _ _ (fun h => absurd h (by decide)) ?_; clear hK K
              refine wpAnyG_done (by kernel_rfl) ?_
              go_wp2
              go_roundw
              case rel => exact ⟨k + 1, m2 + 3, A8, c8, by go_num, by omega, rfl, by rw [HRU.out, HFin.out, List.length_append, ← HM2.out]; rfl, by rw [HRU.out, HFin.out, List.map_append]; exact HO8.out, HB8.out⟩
              case measure => simp [intOf]; omega
      · have kz : ¬ (0 : Int) < (k : Int) := by omega
        have HM2x := Lib.hid (show M = M ++ sepW k by unfold sepW; rw [if_neg hkz]; simp)
        have HMx := HMl
        replace HSt := Lib.hid (show RU = M ++ sepW k ++ (termsU ts nt ++ [sgnW ge, Lib.itoa lim, wordV uWords unit]) by rw [HSt.out]; simp)
        generalize hM0 : M ++ sepW k = M0 at *
        have y0 := R0.out.cellAt 0 rfl
        have yl := R0.out.lt
        go_wp2
        have Bx := B0
        have Rx := R0
        have Ox := O0
        clear R0 B0 O0 HO HQ hqs v0 v1 v2 v3 hM0
        generalize (wr.alloc (.cells #[.slice A' nt c', .bool ge, .int .i64 lim, .int .i64 unit] 45)) = wx at *
        generalize wr.heap.size = rb at *
        have hmb : m ≤ 200 := by omega
        go_loopw [3, 25] (fun ov iv wr => ∃ (j m2 : Nat) (A2 : Option Addr) (c2 : Nat), iv = .int .i64 (j : Int) ∧ j ≤ nt ∧ ov = .slice A2 m2 c2 ∧ m2 = (M ++ termsU ts j).length ∧ wr.ownsRow w.heap.size 9 1 (.slice A2 m2 c2) m2 ((M ++ termsU ts j).map strV) ∧ Blk wr rb 45 #[.slice A' nt c', .bool ge, .int .i64 lim, .int .i64 unit] ∧ Below w.heap.size w wr) (fun _ iv _ => nt - (intOf iv).toNat)
        case atStart => exact ⟨0, m, A1, c1, rfl, Nat.zero_le _, rfl, by rw [HMx.out]; simp [termsU], by simpa [termsU] using Ox.out, Rx.out, Bx.out⟩
        case round =>
          obtain ⟨j, m2, A2, c2, rfl, hj, rfl, hm2, hown, hblk, hq⟩ := hrel
          clear y0 yl Ox Rx Bx
          have HO := Lib.hid hown
          have HK := Lib.hid hblk
          have HQ := Lib.hid hq
          have hqs := hq.size
          have htl := termsU_len ts j
          have HM2 := Lib.hid hm2
          rw [List.length_append, ← HMx.out] at hm2
          have hm2b : m2 ≤ 300 := by omega
          clear hm2
          clear hown hblk hq
          by_cases hltj : j < nt
          · obtain ⟨b2, o2, rfl, hb2, hct2⟩ := terms_at (HTs.out.below (HQ.out.mono hB)) (k := j) (by rw [HNt.out]; exact hltj)
            obtain ⟨d0, d1⟩ := hct2 j (by rw [HNt.out]; exact hltj)
            have hI3 := HIt.out _ (getD_mem' (show j < ts.length by rw [HNt.out]; exact hltj))
            have HT := Lib.hid (termsU_succ ts j)
            have HTW2 := Lib.hid (fun x W (hW : Below w.heap.size w W) => HTW.out (ts.getD j default).f (ts.getD j default).q x W hW hI3)
            have hb2w : b2 < wr.heap.size := Nat.lt_of_lt_of_le (Nat.lt_of_lt_of_le hb2 hB) hqs
            clear hct2 hI3
            generalize (ts.getD j default).f = f at *
            generalize (ts.getD j default).q = q at *
            have j0 : (0 : Int) ≤ (j : Int) := by omega
            have j1 : (j : Int) < (nt : Int) := by omega
            have hj10 : j ≤ 10 := by omega
            cases hjz : ((j : Int) == 0)
            · have HTX := Lib.hid (show termsU ts (j + 1) = termsU ts j ++ termW f q false by rw [HT.out]; congr 1; congr 1; simp at hjz; simp [hjz])
              have HTW3 := Lib.hid (HTW2.out false)
              have h2l := termW_len f q false
              have hjz2 : ¬ (j : Int) = 0 := by simpa using hjz
              generalize termW f q false = L5 at *
              go_wp2_with (first
                | (go_at_call 54; refine (HTW3.out _ (pa HQ.out)).mono ?_; rintro e w5 ⟨A5, c5, rfl, hc5, hl5, hb5⟩; have HC5 := Lib.hid hc5; have HO5 := Lib.hid (own_past hb5 (HO.out.alloc (.cells #[.int .i64 f, .int .i64 q] 64))); have HK5 := Lib.hid ((HK.out.alloc (o := .cells #[.int .i64 f, .int .i64 q] 64)).past hb5); have HB5 := Lib.hid (pt (pa HQ.out) hb5); have hs5 := HB5.out.size; clear hc5 hb5)
                | (at_builtin; go_must (refine wpList_append_cells _ rfl (.tmp 30) (.tmp 34) _ rfl w.heap.size 9 i0 _ 1 16 Tryz.underlying102 hi0 hz0 hz1 hz2 rfl (by omega) _ m2 _ rfl (HO5.out) (w5.heap.size) (A5) L5.length c5 (L5.map strV) rfl (HC5.out) (by rw [List.length_map]; omega) (by intro u hu; obtain ⟨x, _, rfl⟩ := List.mem_map.1 hu; rfl) (by simp only [maxLen]; omega) (by omega) (by first | omega | (simp; done) | (simp; omega)) ?_); intro v6 w6 hown6 hg6 _))
              obtain ⟨A6, c6, rfl, hc6, _⟩ := own_form hown6
              have HB6 := Lib.hid (pg HB5.out HO5.out (Nat.le_refl _) hg6)
              have HK6 := Lib.hid (blk_grown HK5.out HO5.out (by decide) hg6)
              have HO6 := Lib.hid hown6
              clear hown6 hg6
              go_roundw
              case rel => exact ⟨j + 1, m2 + L5.length, A6, c6, by go_num, by omega, rfl, by rw [HTX.out, ← List.append_assoc, List.length_append, ← HM2.out], by rw [HTX.out, ← List.append_assoc, List.map_append]; exact HO6.out, HK6.out, HB6.out⟩
              case measure => simp [intOf]; omega
            · have HTX := Lib.hid (show termsU ts (j + 1) = termsU ts j ++ termW f q true by rw [HT.out]; congr 1; congr 1; simp at hjz; simp [hjz])
              have HTW3 := Lib.hid (HTW2.out true)
              have h2l := termW_len f q true
              have hj0 : j = 0 := by simpa using hjz
              subst hj0
              simp only [Nat.zero_mul, Nat.add_zero] at d0 d1
              generalize termW f q true = L5 at *
              go_wp2_with (first
                | (go_at_call 54; refine (HTW3.out _ (pa HQ.out)).mono ?_; rintro e w5 ⟨A5, c5, rfl, hc5, hl5, hb5⟩; have HC5 := Lib.hid hc5; have HO5 := Lib.hid (own_past hb5 (HO.out.alloc (.cells #[.int .i64 f, .int .i64 q] 64))); have HK5 := Lib.hid ((HK.out.alloc (o := .cells #[.int .i64 f, .int .i64 q] 64)).past hb5); have HB5 := Lib.hid (pt (pa HQ.out) hb5); have hs5 := HB5.out.size; clear hc5 hb5)
                | (at_builtin; go_must (refine wpList_append_cells _ rfl (.tmp 30) (.tmp 34) _ rfl w.heap.size 9 i0 _ 1 16 Tryz.underlying102 hi0 hz0 hz1 hz2 rfl (by omega) _ m2 _ rfl (HO5.out) (w5.heap.size) (A5) L5.length c5 (L5.map strV) rfl (HC5.out) (by rw [List.length_map]; omega) (by intro u hu; obtain ⟨x, _, rfl⟩ := List.mem_map.1 hu; rfl) (by simp only [maxLen]; omega) (by omega) (by first | omega | (simp; done) | (simp; omega)) ?_); intro v6 w6 hown6 hg6 _))
              obtain ⟨A6, c6, rfl, hc6, _⟩ := own_form hown6
              have HB6 := Lib.hid (pg HB5.out HO5.out (Nat.le_refl _) hg6)
              have HK6 := Lib.hid (blk_grown HK5.out HO5.out (by decide) hg6)
              have HO6 := Lib.hid hown6
              clear hown6 hg6
              go_roundw
              case rel => exact ⟨0 + 1, m2 + L5.length, A6, c6, by go_num, by omega, rfl, by rw [HTX.out, ← List.append_assoc, List.length_append, ← HM2.out], by rw [HTX.out, ← List.append_assoc, List.map_append]; exact HO6.out, HK6.out, HB6.out⟩
              case measure => simp [intOf]; omega
          · have hje : j = nt := by omega
            subst hje
            have z0 := HK.out.cellAt 1 rfl
            have z1 := HK.out.cellAt 2 rfl
            have z2 := HK.out.cellAt 3 rfl
            have zl := HK.out.lt
            have HIk := Lib.hid HIl.out.2
            have hil := HIl.out.1
            have HFin := Lib.hid (show RU = (M ++ termsU ts j) ++ [sgnW ge, Lib.itoa lim, wordV uWords unit] by rw [HSt.out, ← HM2x.out]; simp)
            generalize Lib.itoa lim = IL at *
            generalize wordV uWords unit = UL at *
            generalize M ++ termsU ts j = M3 at *
            cases ge
            · go_wp2
              have HSS := Lib.hid (show ∀ W, Blk W rb 45 #[.slice A' j c', .bool false, .int .i64 lim, .int .i64 unit] → W.cell? ⟨rb, 2, none⟩ = some (.int .i64 lim) ∧ W.cell? ⟨rb, 3, none⟩ = some (.int .i64 unit) from fun W h => ⟨h.cellAt 2 rfl, h.cellAt 3 rfl⟩)
              refine wp_region_G 11 follows_mixed (fun W => W.cell? ⟨rb, 2, none⟩ = some (.int .i64 lim) ∧ W.cell? ⟨rb, 3, none⟩ = some (.int .i64 unit)) (HSS.out _ HK.out.drew) ?_
              intro hSd inv
              have HSd := Lib.hid hSd
              clear hSd z0 z1 z2 zl
              refine wpAnyG_take (i := 0) (v := ?_) rfl (by kernel_rfl) (by kernel_rfl) (by kernel_rfl) (by kernel_rfl) (by kernel_rfl) (by decide) (by decide) inv (fun _ _ _ h => h) (Or.inl ⟨by rfl, ?_⟩) HSd.out ?_; rotate_left; (focus (intro W y1; obtain ⟨y1, y2⟩ := y1; go_simp; (first | done | with_reducible rfl))); clear inv; intro inv; simp only [List.getElem_toArray, List.getElem_cons_zero, Act.put, List.setIfInBounds_toArray, List.set_cons_zero, List.set_cons_succ]
              refine wpAnyG_take (i := 1) (v := ?_) rfl (by kernel_rfl) (by kernel_rfl) (by kernel_rfl) (by kernel_rfl) (by kernel_rfl) (by decide) (by decide) inv (fun _ _ _ h => h) (Or.inl ⟨by rfl, ?_⟩) HSd.out ?_; rotate_left; (focus (intro W y1; obtain ⟨y1, y2⟩ := y1; go_simp; (first | done | with_reducible rfl))); clear inv; intro inv; simp only [List.getElem_toArray, List.getElem_cons_zero, List.getElem_cons_succ, Act.put, List.setIfInBounds_toArray, List.set_cons_zero, List.set_cons_succ]
              refine wpAnyG_take (i := 2) (v := ?_) rfl (by kernel_rfl) (by kernel_rfl) (by kernel_rfl) (by kernel_rfl) (by kernel_rfl) (by decide) (by decide) inv (fun _ _ _ h => h) (Or.inl ⟨by rfl, ?_⟩) HSd.out ?_; rotate_left; (focus (intro W y1; obtain ⟨y1, y2⟩ := y1; go_simp; (first | done | with_reducible rfl))); clear inv; intro inv; simp only [List.getElem_toArray, List.getElem_cons_zero, List.getElem_cons_succ, Act.put, List.setIfInBounds_toArray, List.set_cons_zero, List.set_cons_succ]
              refine wpAnyG_take (i := 3) (v := ?_) rfl (by kernel_rfl) (by kernel_rfl) (by kernel_rfl) (by kernel_rfl) (by kernel_rfl) (by decide) (by decide) inv (fun _ _ _ h => h) (Or.inl ⟨by rfl, ?_⟩) HSd.out ?_; rotate_left; (focus (intro W y1; obtain ⟨y1, y2⟩ := y1; go_simp; (first | done | with_reducible rfl))); clear inv; intro inv; simp only [List.getElem_toArray, List.getElem_cons_zero, List.getElem_cons_succ, Act.put, List.setIfInBounds_toArray, List.set_cons_zero, List.set_cons_succ]
              refine wpAnyG_take (i := 5) (v := ?_) rfl (by kernel_rfl) (by kernel_rfl) (by kernel_rfl) (by kernel_rfl) (by kernel_rfl) (by decide) (by decide) inv (fun _ _ _ h => h) (Or.inl ⟨by rfl, ?_⟩) HSd.out ?_; rotate_left; (focus (intro W y1; obtain ⟨y1, y2⟩ := y1; go_simp; (first | done | with_reducible rfl))); clear inv; intro inv; simp only [List.getElem_toArray, List.getElem_cons_zero, List.getElem_cons_succ, Act.put, List.setIfInBounds_toArray, List.set_cons_zero, List.set_cons_succ]
              refine wpAnyG_take (i := 6) (v := ?_) rfl (by kernel_rfl) (by kernel_rfl) (by kernel_rfl) (by kernel_rfl) (by kernel_rfl) (by decide) (by decide) inv (fun _ _ _ h => h) (Or.inl ⟨by rfl, ?_⟩) HSd.out ?_; rotate_left; (focus (intro W y1; obtain ⟨y1, y2⟩ := y1; go_simp; (first | done | with_reducible rfl))); clear inv; intro inv; simp only [List.getElem_toArray, List.getElem_cons_zero, List.getElem_cons_succ, Act.put, List.setIfInBounds_toArray, List.set_cons_zero, List.set_cons_succ]
              refine wpAnyG_take (i := 7) (v := ?_) rfl (by kernel_rfl) (by kernel_rfl) (by kernel_rfl) (by kernel_rfl) (by kernel_rfl) (by decide) (by decide) inv (fun _ _ _ h => h) (Or.inl ⟨by rfl, ?_⟩) HSd.out ?_; rotate_left; (focus (intro W y1; obtain ⟨y1, y2⟩ := y1; go_simp; (first | done | with_reducible rfl))); clear inv; intro inv; simp only [List.getElem_toArray, List.getElem_cons_zero, List.getElem_cons_succ, Act.put, List.setIfInBounds_toArray, List.set_cons_zero, List.set_cons_succ]
              clear inv
              refine wpAnyG_one (i := 4) (by kernel_rfl) rfl rfl fun K hK => ?_
              go_simp
              go_at_call 55; refine (HIk.out _ (pd HQ.out)).mono ?_; rintro e w7 ⟨rfl, hb7⟩
              have hbW := pt (pd pr) hb7
              have HB7 := Lib.hid (pt HQ.out hbW)
              have HK7 := Lib.hid (HK.out.past hbW)
              have HO7 := Lib.hid (own_past hbW HO.out)
              have hs7 := HB7.out.size
              clear hb7 hbW
              refine hK.out _ _ (fun _ => HSS.out _ HK7.out) ?_; clear hK K
              refine wpAnyG_one (i := 8) (by kernel_rfl) rfl rfl fun K hK => ?_
              go_simp
              go_at_call 56; refine (HWk.out _ HB7.out).mono ?_; rintro e w' ⟨rfl, rfl⟩
              refine hK.out _ _ (fun _ => HSS.out _ HK7.out) ?_; clear hK K
              refine wpAnyG_one (i := 9) (by kernel_rfl) rfl rfl fun K hK => ?_
              go_simp
              refine hK.out _ _ (fun _ => HSS.out _ HK7.out.alloc) ?_; clear hK K
              refine wpAnyG_one (i := 10) (by kernel_rfl) rfl rfl fun K hK => ?_
              refine wp_append_cells _ (.tmp 39) (.tmp 48) _ (by rfl) w.heap.size 9 i0 _ 1 16 Tryz.underlying102 hi0 hz0 hz1 hz2 rfl (by omega) (.slice A2 m2 c2) m2 _ (by rfl) (HO7.out.alloc _) (w7.heap.size + 1) (some ⟨w7.heap.size, 0, none⟩) 3 3 [strV [60, 61], strV IL, strV UL] (by rfl) (cells_newD _ _ _ _ _) rfl (by simp [Value.oneCell']) (by simp only [maxLen]; omega) (by omega) (by simp; omega) ?_
              intro v8 w8 hown8 hg8 _
              obtain ⟨A8, c8, rfl, hc8, _⟩ := own_form hown8
              have HB8 := Lib.hid (pg (pa HB7.out) (HO7.out.alloc _) (Nat.le_refl _) hg8)
              have HK8 := Lib.hid (blk_grown HK7.out.alloc (HO7.out.alloc _) (by decide) hg8)
              have HO8 := Lib.hid hown8
              clear hown8 hg8
              refine hK.out _ _ (fun _ => HSS.out _ HK8.out) ?_; clear hK K
              refine wpAnyG_one (i := 11) (by kernel_rfl) rfl rfl fun K hK => ?_
              go_simp
              refine hK.out _ _ (fun h => absurd h (by decide)) ?_; clear hK K
              refine wpAnyG_done (by kernel_rfl) ?_
              go_wp2
              go_roundw
              case rel => exact ⟨k + 1, m2 + 3, A8, c8, by go_num, by omega, rfl, by rw [HRU.out, HFin.out, List.length_append, ← HM2.out]; rfl, by rw [HRU.out, HFin.out, List.map_append]; exact HO8.out, HB8.out⟩
              case measure => simp [intOf]; omega
            · go_wp2
              have HSS := Lib.hid (show ∀ W, Blk W rb 45 #[.slice A' j c', .bool true, .int .i64 lim, .int .i64 unit] → W.cell? ⟨rb, 2, none⟩ = some (.int .i64 lim) ∧ W.cell? ⟨rb, 3, none⟩ = some (.int .i64 unit) from fun W h => ⟨h.cellAt 2 rfl, h.cellAt 3 rfl⟩)
              refine wp_region_G 11 follows_mixed (fun W => W.cell? ⟨rb, 2, none⟩ = some (.int .i64 lim) ∧ W.cell? ⟨rb, 3, none⟩ = some (.int .i64 unit)) (HSS.out _ HK.out.drew) ?_
              intro hSd inv
              have HSd := Lib.hid hSd
              clear hSd z0 z1 z2 zl
              refine wpAnyG_take (i := 0) (v := ?_) rfl (by kernel_rfl) (by kernel_rfl) (by kernel_rfl) (by kernel_rfl) (by kernel_rfl) (by decide) (by decide) inv (fun _ _ _ h => h) (Or.inl ⟨by rfl, ?_⟩) HSd.out ?_; rotate_left; (focus (intro W y1; obtain ⟨y1, y2⟩ := y1; go_simp; (first | done | with_reducible rfl))); clear inv; intro inv; simp only [List.getElem_toArray, List.getElem_cons_zero, Act.put, List.setIfInBounds_toArray, List.set_cons_zero, List.set_cons_succ]
              refine wpAnyG_take (i := 1) (v := ?_) rfl (by kernel_rfl) (by kernel_rfl) (by kernel_rfl) (by kernel_rfl) (by kernel_rfl) (by decide) (by decide) inv (fun _ _ _ h => h) (Or.inl ⟨by rfl, ?_⟩) HSd.out ?_; rotate_left; (focus (intro W y1; obtain ⟨y1, y2⟩ := y1; go_simp; (first | done | with_reducible rfl))); clear inv; intro inv; simp only [List.getElem_toArray, List.getElem_cons_zero, List.getElem_cons_succ, Act.put, List.setIfInBounds_toArray, List.set_cons_zero, List.set_cons_succ]
              refine wpAnyG_take (i := 2) (v := ?_) rfl (by kernel_rfl) (by kernel_rfl) (by kernel_rfl) (by kernel_rfl) (by kernel_rfl) (by decide) (by decide) inv (fun _ _ _ h => h) (Or.inl ⟨by rfl, ?_⟩) HSd.out ?_; rotate_left; (focus (intro W y1; obtain ⟨y1, y2⟩ := y1; go_simp; (first | done | with_reducible rfl))); clear inv; intro inv; simp only [List.getElem_toArray, List.getElem_cons_zero, List.getElem_cons_succ, Act.put, List.setIfInBounds_toArray, List.set_cons_zero, List.set_cons_succ]
              refine wpAnyG_take (i := 3) (v := ?_) rfl (by kernel_rfl) (by kernel_rfl) (by kernel_rfl) (by kernel_rfl) (by kernel_rfl) (by decide) (by decide) inv (fun _ _ _ h => h) (Or.inl ⟨by rfl, ?_⟩) HSd.out ?_; rotate_left; (focus (intro W y1; obtain ⟨y1, y2⟩ := y1; go_simp; (first | done | with_reducible rfl))); clear inv; intro inv; simp only [List.getElem_toArray, List.getElem_cons_zero, List.getElem_cons_succ, Act.put, List.setIfInBounds_toArray, List.set_cons_zero, List.set_cons_succ]
              refine wpAnyG_take (i := 5) (v := ?_) rfl (by kernel_rfl) (by kernel_rfl) (by kernel_rfl) (by kernel_rfl) (by kernel_rfl) (by decide) (by decide) inv (fun _ _ _ h => h) (Or.inl ⟨by rfl, ?_⟩) HSd.out ?_; rotate_left; (focus (intro W y1; obtain ⟨y1, y2⟩ := y1; go_simp; (first | done | with_reducible rfl))); clear inv; intro inv; simp only [List.getElem_toArray, List.getElem_cons_zero, List.getElem_cons_succ, Act.put, List.setIfInBounds_toArray, List.set_cons_zero, List.set_cons_succ]
              refine wpAnyG_take (i := 6) (v := ?_) rfl (by kernel_rfl) (by kernel_rfl) (by kernel_rfl) (by kernel_rfl) (by kernel_rfl) (by decide) (by decide) inv (fun _ _ _ h => h) (Or.inl ⟨by rfl, ?_⟩) HSd.out ?_; rotate_left; (focus (intro W y1; obtain ⟨y1, y2⟩ := y1; go_simp; (first | done | with_reducible rfl))); clear inv; intro inv; simp only [List.getElem_toArray, List.getElem_cons_zero, List.getElem_cons_succ, Act.put, List.setIfInBounds_toArray, List.set_cons_zero, List.set_cons_succ]
              refine wpAnyG_take (i := 7) (v := ?_) rfl (by kernel_rfl) (by kernel_rfl) (by kernel_rfl) (by kernel_rfl) (by kernel_rfl) (by decide) (by decide) inv (fun _ _ _ h => h) (Or.inl ⟨by rfl, ?_⟩) HSd.out ?_; rotate_left; (focus (intro W y1; obtain ⟨y1, y2⟩ := y1; go_simp; (first | done | with_reducible rfl))); clear inv; intro inv; simp only [List.getElem_toArray, List.getElem_cons_zero, List.getElem_cons_succ, Act.put, List.setIfInBounds_toArray, List.set_cons_zero, List.set_cons_succ]
              clear inv
              refine wpAnyG_one (i := 4) (by kernel_rfl) rfl rfl fun K hK => ?_
              go_simp
              go_at_call 55; refine (HIk.out _ (pd HQ.out)).mono ?_; rintro e w7 ⟨rfl, hb7⟩
              have hbW := pt (pd pr) hb7
              have HB7 := Lib.hid (pt HQ.out hbW)
              have HK7 := Lib.hid (HK.out.past hbW)
              have HO7 := Lib.hid (own_past hbW HO.out)
              have hs7 := HB7.out.size
              clear hb7 hbW
              refine hK.out _ _ (fun _ => HSS.out _ HK7.out) ?_; clear hK K
              refine wpAnyG_one (i := 8) (by kernel_rfl) rfl rfl fun K hK => ?_
              go_simp
              go_at_call 56; refine (HWk.out _ HB7.out).mono ?_; rintro e w' ⟨rfl, rfl⟩
              refine hK.out _ _ (fun _ => HSS.out _ HK7.out) ?_; clear hK K
              refine wpAnyG_one (i := 9) (by kernel_rfl) rfl rfl fun K hK => ?_
              go_simp
              refine hK.out _ _ (fun _ => HSS.out _ HK7.out.alloc) ?_; clear hK K
              refine wpAnyG_one (i := 10) (by kernel_rfl) rfl rfl fun K hK => ?_
              refine wp_append_cells _ (.tmp 39) (.tmp 48) _ (by rfl) w.heap.size 9 i0 _ 1 16 Tryz.underlying102 hi0 hz0 hz1 hz2 rfl (by omega) (.slice A2 m2 c2) m2 _ (by rfl) (HO7.out.alloc _) (w7.heap.size + 1) (some ⟨w7.heap.size, 0, none⟩) 3 3 [strV [62, 61], strV IL, strV UL] (by rfl) (cells_newD _ _ _ _ _) rfl (by simp [Value.oneCell']) (by simp only [maxLen]; omega) (by omega) (by simp; omega) ?_
              intro v8 w8 hown8 hg8 _
              obtain ⟨A8, c8, rfl, hc8, _⟩ := own_form hown8
              have HB8 := Lib.hid (pg (pa HB7.out) (HO7.out.alloc _) (Nat.le_refl _) hg8)
              have HK8 := Lib.hid (blk_grown HK7.out.alloc (HO7.out.alloc _) (by decide) hg8)
              have HO8 := Lib.hid hown8
              clear hown8 hg8
              refine hK.out _ _ (fun _ => HSS.out _ HK8.out) ?_; clear hK K
              refine wpAnyG_one (i := 11) (by kernel_rfl) rfl rfl fun K hK => ?_
              go_simp
              refine hK.out _ _ (fun h => absurd h (by decide)) ?_; clear hK K
              refine wpAnyG_done (by kernel_rfl) ?_
              go_wp2
              go_roundw
              case rel => exact ⟨k + 1, m2 + 3, A8, c8, by go_num, by omega, rfl, by rw [HRU.out, HFin.out, List.length_append, ← HM2.out]; rfl, by rw [HRU.out, HFin.out, List.map_append]; exact HO8.out, HB8.out⟩
              case measure => simp [intOf]; omega
    · have hkn : k = n := by omega
      subst hkn
      obtain ⟨hf1, hf2⟩ := HFl.out
      have HC9 := Lib.hid (cellsIn_of_own HO.out)
      obtain ⟨A9, c9, e9, hc9, _⟩ := own_form HO.out
      injection e9 with e9 e10 e11
      subst e9 e11
      rw [HN.out] at hf1 hf2 HF
      have HJ := Lib.hid (joinD_any (reqU rs k) 32 A1 m c1 wr HMl.out.symm HC9.out hc9 (by omega) hf2)
      rw [← HF.out] at HJ
      go_wp2_with (go_at_call 57; go_must (with_reducible refine HJ.out.mono ?_); rintro e w9 ⟨rfl, hb9⟩)
      go_ret
      exact ⟨rfl, pt HQ.out hb9⟩

end Go.Proofs.YtnfbdkdjoekifaaGreatDoor
end
