/- The reference's shares of sources of good shape: the currents of exactly one distribution.
Rows of ratios in memory, read back; how long the digits of a current are. No program. -/
import Derived.Test.YtpdkbhjcpddnpaaGreatDoorOc7
import Derived.Test.YtpdkbhjcpddnpaaGreatDoorOb6
import Derived.Test.YtpdkbhjcpddnpaaGreatDoorOc8

section
namespace Go.Proofs.YtpdkbhjcpddnpaaGreatDoor
open Go.RowKit

/-- The currents of all sources, in the order of the sources. -/
def curRs (ls : List Src) (f : Src → Int) (load : Int) : List Rat := (List.range ls.length).map fun k => curR ls f load (ls.getD k default)

theorem refShares_any (f : Src → Int) (ls : List Src) (vs : List Int) (A : Option Addr) (c : Nat) (A2 : Option Addr) (c2 : Nat) (load : Int) (w : World) (hr : SrcsIn w.heap.size w A ls) (hv : IntsIn w.heap.size w A2 vs)
    (hvl : vs.length = ls.length) (hvf : ∀ k, k < ls.length → vs.getD k 0 = f (ls.getD k default)) (hok : SrcsOk ls) (hf : ∀ s ∈ ls, -1000000 ≤ f s ∧ f s ≤ 1000000) (hl : -1000000 ≤ load ∧ load ≤ 1000000) :
    Calls Tryz.prog 53 #[.slice A ls.length c, .slice A2 ls.length c2, .int .i64 load] w (SharesRet w (curRs ls f load)) := by
  have h0 : 0 < ls.length := hok.1.1
  obtain ⟨bA, oA, rfl, hbA, hA⟩ := hr.at_ h0
  obtain ⟨bV, oV, rfl, hbV, hV⟩ := hv.at_ (hvl.symm ▸ h0)
  obtain ⟨w1, w2⟩ := wrap_of (x := -load) (by omega)
  have hfk : ∀ k, k < ls.length → -1000000 ≤ f (ls.getD k default) ∧ f (ls.getD k default) ≤ 1000000 := fun k hk => hf _ (by
    rw [List.getD_eq_getElem?_getD, List.getElem?_eq_getElem hk]
    exact List.getElem_mem hk)
  have hsk : ∀ k, k < ls.length → SrcOk (ls.getD k default) := fun k hk => hok.at_ hk
  have hv3 : ∀ k, k < ls.length → RB 100 ((f (ls.getD k default) : Int) : Rat) := fun k hk => rb_mono (by decide) (rb_int (by have := hfk k hk; omega))
  have hy3 : ∀ k, k < ls.length → RB 100 (yR (ls.getD k default)) := fun k hk => rb_mono (by decide) (yR_rb (hsk k hk))
  have hsum := sums_rb hok hf hl
  have hfull : ls.take ls.length = ls := List.take_length
  have hbus : RB 200 (busR ls f load) := by
    have h := hsum ls.length
    rw [hfull] at h
    exact rb_div h.1 h.2 (by_ne hok)
  have hz0 : ∀ k, k < ls.length → Rat.divInt (ls.getD k default).n (ls.getD k default).d ≠ 0 := fun k hk e => by
    obtain ⟨_, _, g1, g2⟩ := hsk k hk
    rw [zR_divInt] at e
    have h1 := Rat.div_mul_cancel (a := ((ls.getD k default).n : Rat)) (cast_ne (n := (ls.getD k default).d) (by omega))
    rw [e, Rat.zero_mul] at h1
    exact cast_ne (n := (ls.getD k default).n) (by omega) h1.symm
  have hcore := shares_core ls.length bA oA c bV oV c2 load (fun k => (ls.getD k default).n) (fun k => (ls.getD k default).d) (fun k => f (ls.getD k default))
    (fun k => -(load : Rat) + voSum f (ls.take k)) (fun k => bySum (ls.take k)) (fun k => ((f (ls.getD k default) : Int) : Rat)) (fun k => yR (ls.getD k default))
    (fun k => ((f (ls.getD k default) : Int) : Rat) * yR (ls.getD k default)) (fun k => ((f (ls.getD k default) : Int) : Rat) - busR ls f load) (fun k => Rat.divInt (ls.getD k default).n (ls.getD k default).d)
    (fun k => curR ls f load (ls.getD k default)) (busR ls f load) w hbA hbV hok.1.2 (fun j hj => (hA j hj).2.2)
    (fun j hj => by rw [← hvf j hj]; exact hV j (hvl.symm ▸ hj)) w1 w2
    ?_ ?_ ?_ ?_ ?_ ?_ ?_ ?_ ?_ ?_ ?_
  · exact hcore
  · intro W
    have h := ratioInt_any (-load) W (by omega) (by omega)
    have e : ((-load : Int) : Rat) = -(load : Rat) + voSum f (ls.take 0) := by
      rw [List.take_zero, voSum, Rat.add_zero]
      exact Rat.intCast_neg load
    rw [← e]
    exact h
  · intro W
    exact ratioInt_any 0 W (by omega) (by omega)
  · intro W k hk
    have := hfk k hk
    exact ratioInt_any _ W (by omega) (by omega)
  · intro W k hk
    obtain ⟨_, _, g1, g2⟩ := hsk k hk
    rw [← yR_divInt]
    exact ratioOf_any _ _ W (by omega) (by omega) (by omega)
  · intro W k A3 c3 B3 d3 A4 c4 B4 d4 hk g1 g2
    exact ratioMul_any _ _ 100 _ _ _ _ _ _ _ _ W g1 g2 (hv3 k hk) (hy3 k hk) (by decide)
  · intro W k A3 c3 B3 d3 A4 c4 B4 d4 hk g1 g2
    have h := ratioAdd_any _ _ 100 _ _ _ _ _ _ _ _ W g1 g2 (hsum k).1 (y_rb_mul (hsk k hk) (hfk k hk)) (by decide)
    rw [← voSum_take f (-(load : Rat)) hk]
    exact h
  · intro W k A3 c3 B3 d3 A4 c4 B4 d4 hk g1 g2
    have h := ratioAdd_any _ _ 100 _ _ _ _ _ _ _ _ W g1 g2 (hsum k).2 (hy3 k hk) (by decide)
    rw [← bySum_take hk]
    exact h
  · intro W A3 c3 B3 d3 A4 c4 B4 d4 g1 g2
    have h := ratioDiv_any _ _ 100 _ _ _ _ _ _ _ _ W g1 g2 (hsum _).1 (hsum _).2 (by decide) (by rw [hfull]; exact by_ne hok)
    have e : (-(load : Rat) + voSum f (ls.take ls.length)) / bySum (ls.take ls.length) = busR ls f load := by rw [hfull]; rfl
    rw [← e]
    exact h
  · intro W k A3 c3 B3 d3 A4 c4 B4 d4 hk g1 g2
    exact ratioSub_any _ _ 200 _ _ _ _ _ _ _ _ W g1 g2 (rb_mono (by decide) (hv3 k hk)) hbus (by decide)
  · intro W k hk
    obtain ⟨_, _, g1, g2⟩ := hsk k hk
    exact ratioFrom_any _ _ W (by omega) (by omega) (by omega)
  · intro W k A3 c3 B3 d3 A4 c4 B4 d4 hk g1 g2
    have h := ratioDiv_any _ _ 400 _ _ _ _ _ _ _ _ W g1 g2 (rb_mono (by decide) (rb_sub (hv3 k hk) hbus)) (rb_mono (by decide) (zR_rb (hsk k hk))) (by decide) (hz0 k hk)
    have e : (((f (ls.getD k default) : Int) : Rat) - busR ls f load) / Rat.divInt (ls.getD k default).n (ls.getD k default).d = curR ls f load (ls.getD k default) := by rw [zR_divInt]; rfl
    rw [← e]
    exact h

end Go.Proofs.YtpdkbhjcpddnpaaGreatDoor
end

section
namespace Go.Proofs.YtpdkbhjcpddnpaaGreatDoor
open Go.RowKit

theorem rows_at {B : Nat} {w : World} {A : Option Addr} {xs : List RowR} {k : Nat} (h : CellsIn B w A (xs.flatMap rowU)) (hk : k < xs.length) : ∃ b off, A = some ⟨b, off, none⟩ ∧ b < B ∧
    w.cell? ⟨b, off + k * 4, none⟩ = some (.int .i64 (signD (xs.getD k default).r.num)) ∧ w.cell? ⟨b, off + k * 4 + 1, none⟩ = some (.slice (xs.getD k default).A (dl (xs.getD k default).r.num) (xs.getD k default).c) ∧
    w.cell? ⟨b, off + k * 4 + 2, none⟩ = some (.int .i64 (signD ((xs.getD k default).r.den : Int))) ∧ w.cell? ⟨b, off + k * 4 + 3, none⟩ = some (.slice (xs.getD k default).A2 (dl ((xs.getD k default).r.den : Int)) (xs.getD k default).c2) := by
  have hl : (xs.flatMap rowU).length = xs.length * 4 := flat4_len row_len xs
  rcases h with h | ⟨b, off, hA, hb, hc⟩
  · have := congrArg List.length h
    rw [hl] at this
    simp at this
    omega
  · have q : ∀ i, i < 4 → w.cell? ⟨b, off + k * 4 + i, none⟩ = (rowU (xs.getD k default))[i]? := fun i hi => by
      rw [Nat.add_assoc, hc _ (by omega)]
      exact flat4_at row_len hk hi
    exact ⟨b, off, hA, hb, q 0 (by decide), q 1 (by decide), q 2 (by decide), q 3 (by decide)⟩
theorem rows_getD {xs : List RowR} {rs : List Rat} (h : xs.map RowR.r = rs) {k : Nat} (hk : k < xs.length) : (xs.getD k default).r = rs.getD k 0 := by
  subst h
  simp [List.getD_eq_getElem?_getD, hk]
theorem rows_len {xs : List RowR} {rs : List Rat} (h : xs.map RowR.r = rs) : xs.length = rs.length := by subst h; simp
theorem rows_mem {w : World} {xs : List RowR} (h : RowsAt w xs) {k : Nat} (hk : k < xs.length) : RatAt w (xs.getD k default).A (xs.getD k default).c (xs.getD k default).A2 (xs.getD k default).c2 (xs.getD k default).r := by
  refine h _ ?_
  rw [List.getD_eq_getElem?_getD, List.getElem?_eq_getElem hk]
  exact List.getElem_mem hk
theorem curRs_at {ls : List Src} {f : Src → Int} {load : Int} {k : Nat} (hk : k < ls.length) : (curRs ls f load).getD k 0 = curR ls f load (ls.getD k default) := by
  simp [curRs, List.getD_eq_getElem?_getD, hk]
theorem curR_rb {ls : List Src} (hok : SrcsOk ls) {f : Src → Int} (hf : ∀ s ∈ ls, -1000000 ≤ f s ∧ f s ≤ 1000000) {load : Int} (hl : -1000000 ≤ load ∧ load ≤ 1000000) {k : Nat} (hk : k < ls.length) : RB 400 (curR ls f load (ls.getD k default)) := by
  have hs : SrcOk (ls.getD k default) := hok.at_ hk
  have hm : ls.getD k default ∈ ls := by
    rw [List.getD_eq_getElem?_getD, List.getElem?_eq_getElem hk]
    exact List.getElem_mem hk
  have hfk := hf _ hm
  have h := sums_rb hok hf hl ls.length
  rw [List.take_length] at h
  have hb : RB 200 (busR ls f load) := rb_div h.1 h.2 (by_ne hok)
  have hv : RB 100 ((f (ls.getD k default) : Int) : Rat) := rb_mono (by decide) (rb_int (by omega))
  obtain ⟨_, _, g1, g2⟩ := hs
  have hz : ((ls.getD k default).n : Rat) / ((ls.getD k default).d : Rat) ≠ 0 := fun e => by
    have h1 := Rat.div_mul_cancel (a := ((ls.getD k default).n : Rat)) (cast_ne (n := (ls.getD k default).d) (by omega))
    rw [e, Rat.zero_mul] at h1
    exact cast_ne (n := (ls.getD k default).n) (by omega) h1.symm
  have h2 := rb_div (rb_sub hv hb) (zR_rb (s := ls.getD k default) ⟨by assumption, by assumption, g1, g2⟩) (by rw [zR_divInt]; exact hz)
  rw [zR_divInt] at h2
  exact rb_mono (by decide) h2

end Go.Proofs.YtpdkbhjcpddnpaaGreatDoor
end
