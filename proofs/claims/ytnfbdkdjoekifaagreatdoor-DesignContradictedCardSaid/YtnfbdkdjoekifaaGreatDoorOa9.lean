/- Contracts: the error of a part, of a slot, of a stock (package design). Names of at most 1000 bytes, lengths of at most 1000. Printed by a program (gen_d2stock.py). -/
import Derived.Test.YtnfbdkdjoekifaaGreatDoorOa7
import Derived.Test.YtnfbdkdjoekifaaGreatDoorOa8

section
namespace Go.Proofs.YtnfbdkdjoekifaaGreatDoor
open Go.RowKit

def sameN (p o : DPart) : Bool := sameS o.name p.name
def rangeE (lo hi : Int) : Int := firstV [unlessV (withinB lo 0 1000000 && withinB hi 0 1000000) 2, unlessV (decide (lo ≤ hi)) 9]
def valErr (p : DPart) (i : Nat) : Int := rangeE (valP p (i : Int)).1 (valP p (i : Int)).2
def valuesE (p : DPart) : Int := (scan (valErr p) 6 0).2
def partE1 (p : DPart) : Int := firstV [unlessV (nameB p.name) 4, unlessV (withinB p.price 0 1000000) 2]
def partE (p : DPart) : Int := if partE1 p ≠ 0 then partE1 p else valuesE p
def slotE1 (n : Nat) : Int := firstV [unlessV (decide (0 < n)) 10, unlessV (decide ((n : Int) ≤ 6)) 8]
def slotErrs (l : List DPart) (i : Nat) : Int := firstV [unlessV (nameB (l.getD i default).name) 4, unlessV (!anyG (sameN (l.getD i default)) (l.take i)) 5, partE (l.getD i default)]
def slotE (l : List DPart) : Int := if slotE1 l.length ≠ 0 then slotE1 l.length else (scan (slotErrs l) l.length 0).2
def stockE1 (idle price : Int) (n : Nat) : Int := firstV [unlessV (withinB idle 0 1000 && withinB price 0 1000) 2, unlessV (decide (0 < n)) 10, unlessV (decide ((n : Int) ≤ 5)) 8]
def slotsErr (sl : List (List DPart)) (i : Nat) : Int := slotE (sl.getD i [])
def stockE (idle price : Int) (sl : List (List DPart)) : Nat × Int := if stockE1 idle price sl.length ≠ 0 then (0, stockE1 idle price sl.length) else scan (slotsErr sl) sl.length 0
/-- Names are short, slots not long. -/
def SmallPart (p : DPart) : Prop := p.name.size ≤ 1000
def SmallSlots (sl : List (List DPart)) : Prop := ∀ l ∈ sl, l.length ≤ 1000 ∧ ∀ p ∈ l, SmallPart p

theorem part_cells {w : World} {b off : Nat} {p : DPart} (h : PartAt w b off p) : w.cell? ⟨b, off, none⟩ = some (.string p.name) ∧ w.cell? ⟨b, off + 1, none⟩ = some (.int .i64 p.price) ∧ w.cell? ⟨b, off + 2, none⟩ = some (.int .i64 (valP p 0).1) ∧ w.cell? ⟨b, off + 3, none⟩ = some (.int .i64 (valP p 0).2) ∧ w.cell? ⟨b, off + 4, none⟩ = some (.int .i64 (valP p 1).1) ∧ w.cell? ⟨b, off + 5, none⟩ = some (.int .i64 (valP p 1).2) ∧ w.cell? ⟨b, off + 6, none⟩ = some (.int .i64 (valP p 2).1) ∧ w.cell? ⟨b, off + 7, none⟩ = some (.int .i64 (valP p 2).2) ∧ w.cell? ⟨b, off + 8, none⟩ = some (.int .i64 (valP p 3).1) ∧ w.cell? ⟨b, off + 9, none⟩ = some (.int .i64 (valP p 3).2) ∧ w.cell? ⟨b, off + 10, none⟩ = some (.int .i64 (valP p 4).1) ∧ w.cell? ⟨b, off + 11, none⟩ = some (.int .i64 (valP p 4).2) ∧ w.cell? ⟨b, off + 12, none⟩ = some (.int .i64 (valP p 5).1) ∧ w.cell? ⟨b, off + 13, none⟩ = some (.int .i64 (valP p 5).2) :=
  ⟨h 0 (by decide), h 1 (by decide), h 2 (by decide), h 3 (by decide), h 4 (by decide), h 5 (by decide), h 6 (by decide), h 7 (by decide), h 8 (by decide), h 9 (by decide), h 10 (by decide), h 11 (by decide), h 12 (by decide), h 13 (by decide)⟩
theorem vals_at (p : DPart) (k : Nat) (hk : k < 6) (W : World) : (Instr.index 58 (.agg #[.int .i64 (valP p 0).1, .int .i64 (valP p 0).2, .int .i64 (valP p 1).1, .int .i64 (valP p 1).2, .int .i64 (valP p 2).1, .int .i64 (valP p 2).2, .int .i64 (valP p 3).1, .int .i64 (valP p 3).2, .int .i64 (valP p 4).1, .int .i64 (valP p 4).2, .int .i64 (valP p 5).1, .int .i64 (valP p 5).2]) (.int .i64 (k : Int))).run Tryz.prog W = .ok (.agg #[.int .i64 (valP p (k : Int)).1, .int .i64 (valP p (k : Int)).2]) W := by
  rcases (show k = 0 ∨ k = 1 ∨ k = 2 ∨ k = 3 ∨ k = 4 ∨ k = 5 by omega) with rfl | rfl | rfl | rfl | rfl | rfl <;> kernel_rfl

theorem slotCb_any (o p : DPart) (b : Nat) (w : World) (hb : b < w.heap.size) (h : w.cell? ⟨b, 0, none⟩ = some (.string p.name)) :
    Calls Tryz.prog 89 #[.agg #[.string o.name, .int .i64 o.price, .int .i64 (valP o 0).1, .int .i64 (valP o 0).2, .int .i64 (valP o 1).1, .int .i64 (valP o 1).2, .int .i64 (valP o 2).1, .int .i64 (valP o 2).2, .int .i64 (valP o 3).1, .int .i64 (valP o 3).2, .int .i64 (valP o 4).1, .int .i64 (valP o 4).2, .int .i64 (valP o 5).1, .int .i64 (valP o 5).2], .pointer (some ⟨b, 0, none⟩)] w fun e w' => e = .returned (.bool (sameN p o)) ∧ Below w.heap.size w w' := by
  go_enter Tryz.func89, Tryz.ntmps89
  go_wp2
  go_ret
  exact ⟨ret_bool (sameS_list _ _).symm, pa pr⟩

set_option maxHeartbeats 2000000 in
theorem indexParts_any (B : Nat) (A : Option Addr) (n c : Nat) (ts : List DPart) (f : DPart → Bool) (q : Value) (w : World) (hr : CellsIn B w A (partsC ts)) (hB : B ≤ w.heap.size) (hn : ts.length = n) (hm : n ≤ 1000)
    (hcb : ∀ t W, Below w.heap.size w W → Calls Tryz.prog 89 #[.agg #[.string t.name, .int .i64 t.price, .int .i64 (valP t 0).1, .int .i64 (valP t 0).2, .int .i64 (valP t 1).1, .int .i64 (valP t 1).2, .int .i64 (valP t 2).1, .int .i64 (valP t 2).2, .int .i64 (valP t 3).1, .int .i64 (valP t 3).2, .int .i64 (valP t 4).1, .int .i64 (valP t 4).2, .int .i64 (valP t 5).1, .int .i64 (valP t 5).2], q] W fun e w' => e = .returned (.bool (f t)) ∧ Below W.heap.size W w') :
    Calls Tryz.prog 102 #[.slice A n c, .func (.func 89) #[] #[q]] w fun e w' => e = .returned (.int .i64 (findG f ts 0)) ∧ Below w.heap.size w w' := by
  subst hn
  have HC := Lib.hid hcb
  have HR := Lib.hid hr
  clear hcb hr
  go_enter Tryz.func102, Tryz.ntmps102
  go_wp2
  go_loopw [8] (fun i wr => ∃ k : Nat, k ≤ ts.length ∧ i = .int .i64 k ∧ findG f ts 0 = findG f ts k ∧ Below w.heap.size w wr) (fun i _ => ts.length - (intOf i).toNat)
  case atStart => exact ⟨0, Nat.zero_le _, rfl, rfl, pr⟩
  case round =>
    obtain ⟨k, hk, rfl, hf, hq⟩ := hrel
    by_cases hlt : k < ts.length
    · obtain ⟨b, off, rfl, hb, hc⟩ := parts_at (HR.out.below (hq.mono hB)) hlt
      obtain ⟨u0, u1, u2, u3, u4, u5, u6, u7, u8, u9, u10, u11, u12, u13⟩ := part_cells (hc k hlt)
      have HF := Lib.hid (hf.trans (findG_step f ts k default hlt))
      have HQ := Lib.hid hq
      clear hc hf hq
      generalize ts.getD k default = t at *
      have HCt := Lib.hid (HC.out t wr HQ.out)
      cases hx : f t
      · have HX := Lib.hid hx
        rw [hx] at HCt
        clear hx
        go_wp2_with (go_at_call 89; refine HCt.out.mono ?_; rintro e w' ⟨rfl, hb'⟩)
        go_roundw
        case rel => exact ⟨k + 1, by omega, by go_num, by rw [HF.out, HX.out]; simp, pt HQ.out hb'⟩
        case measure => simp [intOf]; omega
      · have HX := Lib.hid hx
        rw [hx] at HCt
        clear hx
        go_wp2_with (go_at_call 89; refine HCt.out.mono ?_; rintro e w' ⟨rfl, hb'⟩)
        go_ret
        exact ⟨ret_int (by rw [HF.out, HX.out]; simp), pt HQ.out hb'⟩
    · have HF := Lib.hid (show findG f ts 0 = -1 by rw [hf]; exact findG_end _ _ _ (by omega))
      clear hf
      go_wp2
      go_ret
      exact ⟨ret_int HF.out.symm, hq⟩
theorem containsParts_any (B : Nat) (A : Option Addr) (n c : Nat) (ts : List DPart) (f : DPart → Bool) (q : Value) (w : World) (hr : CellsIn B w A (partsC ts)) (hB : B ≤ w.heap.size) (hn : ts.length = n) (hm : n ≤ 1000)
    (hcb : ∀ t W, Below w.heap.size w W → Calls Tryz.prog 89 #[.agg #[.string t.name, .int .i64 t.price, .int .i64 (valP t 0).1, .int .i64 (valP t 0).2, .int .i64 (valP t 1).1, .int .i64 (valP t 1).2, .int .i64 (valP t 2).1, .int .i64 (valP t 2).2, .int .i64 (valP t 3).1, .int .i64 (valP t 3).2, .int .i64 (valP t 4).1, .int .i64 (valP t 4).2, .int .i64 (valP t 5).1, .int .i64 (valP t 5).2], q] W fun e w' => e = .returned (.bool (f t)) ∧ Below W.heap.size W w') :
    Calls Tryz.prog 88 #[.slice A n c, .func (.func 89) #[] #[q]] w fun e w' => e = .returned (.bool (anyG f ts)) ∧ Below w.heap.size w w' := by
  have H := Lib.hid (findG_any f ts)
  have HI := Lib.hid (indexParts_any B A n c ts f q w hr hB hn hm hcb)
  clear hcb hr hn
  go_enter Tryz.func88, Tryz.ntmps88
  go_wp2_with (go_at_call 102; refine HI.out.mono ?_; rintro e w' ⟨rfl, hb'⟩)
  go_ret
  exact ⟨ret_bool H.out, hb'⟩

section
attribute [local go_sem] vals_at
set_option maxHeartbeats 2000000 in
set_option maxRecDepth 100000 in
theorem valuesErr_any (p : DPart) (w : World) :
    Calls Tryz.prog 104 #[.agg #[.string p.name, .int .i64 p.price, .int .i64 (valP p 0).1, .int .i64 (valP p 0).2, .int .i64 (valP p 1).1, .int .i64 (valP p 1).2, .int .i64 (valP p 2).1, .int .i64 (valP p 2).2, .int .i64 (valP p 3).1, .int .i64 (valP p 3).2, .int .i64 (valP p 4).1, .int .i64 (valP p 4).2, .int .i64 (valP p 5).1, .int .i64 (valP p 5).2]] w fun e w' => e = .returned (.int .i64 (valuesE p)) ∧ Below w.heap.size w w' := by
  have HE := Lib.hid (show valuesE p = (scan (valErr p) 6 0).2 from rfl)
  generalize valuesE p = E at *
  go_enter Tryz.func104, Tryz.ntmps104
  go_wp2
  generalize hv : w.alloc _ = v
  have HQ1 : Hid (Below w.heap.size w v) := Lib.hid (by rw [← hv]; exact pa pr)
  clear hv
  go_loopw [8] (fun i wr => ∃ k : Nat, k ≤ 6 ∧ i = .int .i64 (k : Int) ∧ scan (valErr p) 6 0 = scan (valErr p) 6 k ∧ Below v.heap.size v wr) (fun i _ => 6 - (intOf i).toNat)
  case atStart => exact ⟨0, Nat.zero_le _, rfl, rfl, pr⟩
  case round =>
    obtain ⟨k, hk, rfl, hf, hq⟩ := hrel
    by_cases hlt : k < 6
    · have HS := Lib.hid (hf.trans (scan_step hlt))
      have HV : valErr p k = firstV [unlessV (withinB (valP p (k : Int)).1 0 1000000 && withinB (valP p (k : Int)).2 0 1000000) 2, unlessV (decide ((valP p (k : Int)).1 ≤ (valP p (k : Int)).2)) 9] := rfl
      have HQv := Lib.hid (pa (o := .cells #[.int .i64 (valP p (k : Int)).1, .int .i64 (valP p (k : Int)).2] 57) hq)
      clear hf
      generalize valErr p k = e at *
      replace HV := Lib.hid HV
      cases hp : withinB (valP p (k : Int)).1 0 1000000
      all_goals
        first
          | have HW := Lib.hid (show firstV [unlessV false 2, unlessV (decide ((valP p (k : Int)).1 ≤ (valP p (k : Int)).2)) 9] = e by rw [HV.out, hp]; rfl)
          | have HW := Lib.hid (show firstV [unlessV (withinB (valP p (k : Int)).2 0 1000000) 2, unlessV (decide ((valP p (k : Int)).1 ≤ (valP p (k : Int)).2)) 9] = e by rw [HV.out, hp]; rfl)
        go_wp2
        refine region_below 15 follows_mixed (by kernel_rfl) ?_
        intro C hC
        simp only [List.take_succ_cons, List.take_zero, List.drop_succ_cons, List.drop_zero]
        repeat (first
          | ((with_reducible refine quiet_plain rfl (fun K hK => ?_)); (focus (apply quiet_val; (focus (intro w' hw; obtain ⟨hcq, hfq⟩ := bcell ((hC.out _).1 hw); go_simp; (first | done | rfl | (with_reducible exact call_same hw (isValue_any _ _)) | (with_reducible exact call_same hw (unless_any _ _ _))))); (simp only [Act.put, List.setIfInBounds_toArray, List.set_cons_succ, List.set_cons_zero]); (with_reducible refine hK _ ?_); clear hK K)))
          | ((with_reducible refine quiet_skip ?_ ?_); (focus (first | (simp [Region.wanted, yielded]; done) | (simp [Region.wanted, yielded, undef]; done))); simp only [Act.put, List.setIfInBounds_toArray, List.set_cons_succ, List.set_cons_zero])
          | ((with_reducible refine quiet_go ?_ (fun K hK => ?_)); (focus (first | (simp [Region.wanted, yielded]; done) | (simp [Region.wanted, yielded, undef]; done))); (focus (apply quiet_val; (focus (intro w' hw; obtain ⟨hcq, hfq⟩ := bcell ((hC.out _).1 hw); go_simp; (first | done | rfl | (with_reducible exact call_same hw (isValue_any _ _)) | (with_reducible exact call_same hw (unless_any _ _ _))))); (simp only [Act.put, List.setIfInBounds_toArray, List.set_cons_succ, List.set_cons_zero]); (with_reducible refine hK _ ?_); clear hK K))))
        refine wpQuiet_nil ?_
        intro w1 hb1
        replace hb1 := (hC.out _).1 hb1
        clear hC C
        obtain ⟨hc1, hf1⟩ := bcell hb1
        have HQ2 := Lib.hid (pt HQv.out hb1)
        clear hc1 hf1 hb1
        by_cases he : e = 0
        · subst he
          have HS2 := Lib.hid (show scan (valErr p) 6 0 = scan (valErr p) 6 (k + 1) by rw [HS.out, if_pos rfl])
          go_wp2_with (first
  | (go_at_call 44; refine (first2 _ _ _ _ _ (by first | (go_simp; done) | (go_simp; rfl)) (by first | (go_simp; done) | (go_simp; rfl)) _ HW.out).mono ?_; rintro e w' ⟨rfl, rfl⟩))
          go_roundw
          case rel => exact ⟨k + 1, by omega, by go_num, HS2.out, pa HQ2.out⟩
          case measure => simp [intOf]; omega
        · have he1 : (e == 0) = false := by simpa using he
          have he2 : (e != 0) = true := by simpa using he
          have HRs := Lib.hid (show E = e by rw [HE.out, HS.out, if_neg he])
          go_wp2_with (first
  | (go_at_call 44; refine (first2 _ _ _ _ _ (by first | (go_simp; done) | (go_simp; rfl)) (by first | (go_simp; done) | (go_simp; rfl)) _ HW.out).mono ?_; rintro e w' ⟨rfl, rfl⟩))
          go_ret
          exact ⟨ret_int HRs.out.symm, pa (pt HQ1.out HQ2.out)⟩
    · have HRs := Lib.hid (show E = 0 by rw [HE.out, hf, scan_end (by omega)])
      clear hf
      go_wp2
      go_ret
      exact ⟨ret_int HRs.out.symm, pt HQ1.out hq⟩
end

set_option maxHeartbeats 2000000 in
set_option maxRecDepth 100000 in
theorem partErr_any (p : DPart) (w : World) (hs : SmallPart p) :
    Calls Tryz.prog 91 #[.agg #[.string p.name, .int .i64 p.price, .int .i64 (valP p 0).1, .int .i64 (valP p 0).2, .int .i64 (valP p 1).1, .int .i64 (valP p 1).2, .int .i64 (valP p 2).1, .int .i64 (valP p 2).2, .int .i64 (valP p 3).1, .int .i64 (valP p 3).2, .int .i64 (valP p 4).1, .int .i64 (valP p 4).2, .int .i64 (valP p 5).1, .int .i64 (valP p 5).2]] w fun e w' => e = .returned (.int .i64 (partE p)) ∧ Below w.heap.size w w' := by
  have hs1 : p.name.size ≤ 1000 := hs
  have HT := Lib.hid (show partE p = if partE1 p ≠ 0 then partE1 p else valuesE p from rfl)
  have HV := Lib.hid (show firstV [unlessV (nameB p.name) 4, unlessV (withinB p.price 0 1000000) 2] = partE1 p from rfl)
  have HVs := Lib.hid (fun W => valuesErr_any p W)
  generalize partE p = E at *
  generalize partE1 p = E1 at *
  generalize valuesE p = E2 at *
  by_cases hE : E1 = 0
  · subst hE
    have HE := Lib.hid (show E = E2 by rw [HT.out, if_neg (by simp)])
    clear HT
    go_enter Tryz.func91, Tryz.ntmps91
    go_wp2
    refine region_below 8 follows_mixed (by kernel_rfl) ?_
    intro C hC
    simp only [List.take_succ_cons, List.take_zero, List.drop_succ_cons, List.drop_zero]
    repeat (first
      | ((with_reducible refine quiet_plain rfl (fun K hK => ?_)); (focus (apply quiet_val; (focus (intro w' hw; obtain ⟨hcq, hfq⟩ := bcell ((hC.out _).1 hw); go_simp; (first | done | rfl | (with_reducible exact call_below hC hw (isName_any _ _ hs1)) | (with_reducible exact call_same hw (isValue_any _ _)) | (with_reducible exact call_same hw (unless_any _ _ _))))); (simp only [Act.put, List.setIfInBounds_toArray, List.set_cons_succ, List.set_cons_zero]); (with_reducible refine hK _ ?_); clear hK K)))
      | ((with_reducible refine quiet_skip ?_ ?_); (focus (first | (simp [Region.wanted, yielded]; done) | (simp [Region.wanted, yielded, undef]; done))); simp only [Act.put, List.setIfInBounds_toArray, List.set_cons_succ, List.set_cons_zero])
      | ((with_reducible refine quiet_go ?_ (fun K hK => ?_)); (focus (first | (simp [Region.wanted, yielded]; done) | (simp [Region.wanted, yielded, undef]; done))); (focus (apply quiet_val; (focus (intro w' hw; obtain ⟨hcq, hfq⟩ := bcell ((hC.out _).1 hw); go_simp; (first | done | rfl | (with_reducible exact call_below hC hw (isName_any _ _ hs1)) | (with_reducible exact call_same hw (isValue_any _ _)) | (with_reducible exact call_same hw (unless_any _ _ _))))); (simp only [Act.put, List.setIfInBounds_toArray, List.set_cons_succ, List.set_cons_zero]); (with_reducible refine hK _ ?_); clear hK K))))
    refine wpQuiet_nil ?_
    intro w1 hb1
    replace hb1 := (hC.out _).1 hb1
    clear hC C
    obtain ⟨hc1, hf1⟩ := bcell hb1
    have r0 : Blk w1 w.heap.size 60 #[.string p.name, .int .i64 p.price, .int .i64 (valP p 0).1, .int .i64 (valP p 0).2, .int .i64 (valP p 1).1, .int .i64 (valP p 1).2, .int .i64 (valP p 2).1, .int .i64 (valP p 2).2, .int .i64 (valP p 3).1, .int .i64 (valP p 3).2, .int .i64 (valP p 4).1, .int .i64 (valP p 4).2, .int .i64 (valP p 5).1, .int .i64 (valP p 5).2] := (Blk.newAt rfl).past hb1
    have HQ1 := Lib.hid (pt (pa (o := .cells #[.string p.name, .int .i64 p.price, .int .i64 (valP p 0).1, .int .i64 (valP p 0).2, .int .i64 (valP p 1).1, .int .i64 (valP p 1).2, .int .i64 (valP p 2).1, .int .i64 (valP p 2).2, .int .i64 (valP p 3).1, .int .i64 (valP p 3).2, .int .i64 (valP p 4).1, .int .i64 (valP p 4).2, .int .i64 (valP p 5).1, .int .i64 (valP p 5).2] 60) (pr (w := w))) hb1)
    have c0 := r0.cellAt 0 rfl; have c1 := r0.cellAt 1 rfl; have c2 := r0.cellAt 2 rfl; have c3 := r0.cellAt 3 rfl; have c4 := r0.cellAt 4 rfl; have c5 := r0.cellAt 5 rfl; have c6 := r0.cellAt 6 rfl; have c7 := r0.cellAt 7 rfl; have c8 := r0.cellAt 8 rfl; have c9 := r0.cellAt 9 rfl; have c10 := r0.cellAt 10 rfl; have c11 := r0.cellAt 11 rfl; have c12 := r0.cellAt 12 rfl; have c13 := r0.cellAt 13 rfl
    have gl := r0.lt
    clear hc1 hf1 hb1
    go_wp2_with (first
      | (go_at_call 44; refine (first2 _ _ _ _ _ (by first | (go_simp; done) | (go_simp; rfl)) (by first | (go_simp; done) | (go_simp; rfl)) _ HV.out).mono ?_; rintro e w' ⟨rfl, rfl⟩)
      | (go_at_call 104; refine (HVs.out _).mono ?_; rintro e w2 ⟨rfl, hb2⟩))
    go_ret
    exact ⟨ret_int HE.out.symm, pt (pa HQ1.out) hb2⟩
  · have hE1 : (E1 == 0) = false := by simpa using hE
    have hE2 : (E1 != 0) = true := by simpa using hE
    have HE := Lib.hid (show E = E1 by rw [HT.out, if_pos hE])
    clear HT
    go_enter Tryz.func91, Tryz.ntmps91
    go_wp2
    refine region_below 8 follows_mixed (by kernel_rfl) ?_
    intro C hC
    simp only [List.take_succ_cons, List.take_zero, List.drop_succ_cons, List.drop_zero]
    repeat (first
      | ((with_reducible refine quiet_plain rfl (fun K hK => ?_)); (focus (apply quiet_val; (focus (intro w' hw; obtain ⟨hcq, hfq⟩ := bcell ((hC.out _).1 hw); go_simp; (first | done | rfl | (with_reducible exact call_below hC hw (isName_any _ _ hs1)) | (with_reducible exact call_same hw (isValue_any _ _)) | (with_reducible exact call_same hw (unless_any _ _ _))))); (simp only [Act.put, List.setIfInBounds_toArray, List.set_cons_succ, List.set_cons_zero]); (with_reducible refine hK _ ?_); clear hK K)))
      | ((with_reducible refine quiet_skip ?_ ?_); (focus (first | (simp [Region.wanted, yielded]; done) | (simp [Region.wanted, yielded, undef]; done))); simp only [Act.put, List.setIfInBounds_toArray, List.set_cons_succ, List.set_cons_zero])
      | ((with_reducible refine quiet_go ?_ (fun K hK => ?_)); (focus (first | (simp [Region.wanted, yielded]; done) | (simp [Region.wanted, yielded, undef]; done))); (focus (apply quiet_val; (focus (intro w' hw; obtain ⟨hcq, hfq⟩ := bcell ((hC.out _).1 hw); go_simp; (first | done | rfl | (with_reducible exact call_below hC hw (isName_any _ _ hs1)) | (with_reducible exact call_same hw (isValue_any _ _)) | (with_reducible exact call_same hw (unless_any _ _ _))))); (simp only [Act.put, List.setIfInBounds_toArray, List.set_cons_succ, List.set_cons_zero]); (with_reducible refine hK _ ?_); clear hK K))))
    refine wpQuiet_nil ?_
    intro w1 hb1
    replace hb1 := (hC.out _).1 hb1
    clear hC C
    obtain ⟨hc1, hf1⟩ := bcell hb1
    clear hc1 hf1
    go_wp2_with (go_at_call 44; refine (first2 _ _ _ _ _ (by first | (go_simp; done) | (go_simp; rfl)) (by first | (go_simp; done) | (go_simp; rfl)) _ HV.out).mono ?_; rintro e w' ⟨rfl, rfl⟩)
    go_ret
    exact ⟨ret_int HE.out.symm, pa (pt (pa pr) hb1)⟩
theorem parts_take {B : Nat} {w : World} {A : Option Addr} {ts : List DPart} (h : CellsIn B w A (partsC ts)) (k : Nat) : CellsIn B w A (partsC (ts.take k)) := by
  unfold partsC at *
  rw [flat_take part_len]
  exact h.take_ _

set_option maxHeartbeats 4000000 in
set_option maxRecDepth 100000 in
theorem slotErr_any (B : Nat) (l : List DPart) (A : Option Addr) (n c : Nat) (w : World) (hr : CellsIn B w A (partsC l)) (hB : B ≤ w.heap.size) (hn : l.length = n) (hm : n ≤ 1000) (hc : n ≤ c) (hs : ∀ p ∈ l, SmallPart p) :
    Calls Tryz.prog 75 #[.slice A n c] w fun e w' => e = .returned (.int .i64 (slotE l)) ∧ Below w.heap.size w w' := by
  have HT := Lib.hid (show slotE l = if slotE1 l.length ≠ 0 then slotE1 l.length else (scan (slotErrs l) l.length 0).2 from rfl)
  have HR := Lib.hid hr
  have HSm := Lib.hid hs
  have HV1 := Lib.hid (show firstV [unlessV (decide (0 < n)) 10, unlessV (decide ((n : Int) ≤ 6)) 8] = slotE1 l.length by rw [← hn]; rfl)
  have HN := Lib.hid hn
  clear hr hs
  generalize slotE l = E at *
  generalize slotE1 l.length = E1 at *
  by_cases hE : E1 = 0
  · subst hE
    have HE := Lib.hid (show E = (scan (slotErrs l) n 0).2 by rw [HT.out, if_neg (by simp), hn])
    clear HT
    go_enter Tryz.func75, Tryz.ntmps75
    go_wp2_with (first
      | (go_at_call 48; refine (unless_any _ _ _).mono ?_; rintro e w' ⟨rfl, rfl⟩)
      | (go_at_call 44; refine (first2 _ _ _ _ _ (by first | (go_simp; done) | (go_simp; rfl)) (by first | (go_simp; done) | (go_simp; rfl)) _ HV1.out).mono ?_; rintro e w' ⟨rfl, rfl⟩))
    generalize hv : w.alloc _ = v
    have HQ1 : Hid (Below w.heap.size w v) := Lib.hid (by rw [← hv]; exact pa pr)
    clear hv
    go_loopw [23] (fun i wr => ∃ k : Nat, k ≤ n ∧ i = .int .i64 (k : Int) ∧ scan (slotErrs l) n 0 = scan (slotErrs l) n k ∧ Below v.heap.size v wr) (fun i _ => n - (intOf i).toNat)
    case atStart => exact ⟨0, Nat.zero_le _, rfl, rfl, pr⟩
    case round =>
      obtain ⟨k, hk, rfl, hf, hq⟩ := hrel
      have HQ := Lib.hid (pt HQ1.out hq)
      by_cases hlt : k < n
      · have hk' : k < l.length := by rw [hn]; exact hlt
        obtain ⟨b, off, rfl, hb, hct⟩ := parts_at (HR.out.below (HQ.out.mono hB)) hk'
        obtain ⟨u0, u1, u2, u3, u4, u5, u6, u7, u8, u9, u10, u11, u12, u13⟩ := part_cells (hct k hk')
        have HS := Lib.hid (hf.trans (scan_step hlt))
        have hFk : slotErrs l k = firstV [unlessV (nameB (l.getD k default).name) 4, unlessV (!anyG (sameN (l.getD k default)) (l.take k)) 5, partE (l.getD k default)] := rfl
        have hsm := HSm.out _ (getD_mem' hk')
        have hsm1 : (l.getD k default).name.size ≤ 1000 := hsm
        have hlk : (l.take k).length = k := by rw [List.length_take]; omega
        have HTk := Lib.hid (show ∀ W, Below w.heap.size w W → CellsIn B W (some ⟨b, off, none⟩) (partsC (l.take k)) from fun W hW => parts_take (HR.out.below (hW.mono hB)) k)
        have i0 : (0 : Int) ≤ (k : Int) := by omega
        have i1 : (k : Int) ≤ (c : Int) := by omega
        have hk1000 : k ≤ 1000 := by omega
        clear hct hf
        generalize slotErrs l k = e at *
        generalize l.getD k default = y at *
        replace hFk := Lib.hid hFk.symm
        have HBx := Lib.hid (Blk.new wr 60 #[.string y.name, .int .i64 y.price, .int .i64 (valP y 0).1, .int .i64 (valP y 0).2, .int .i64 (valP y 1).1, .int .i64 (valP y 1).2, .int .i64 (valP y 2).1, .int .i64 (valP y 2).2, .int .i64 (valP y 3).1, .int .i64 (valP y 3).2, .int .i64 (valP y 4).1, .int .i64 (valP y 4).2, .int .i64 (valP y 5).1, .int .i64 (valP y 5).2])
        have HB1 := Lib.hid (pa (o := .cells #[.string y.name, .int .i64 y.price, .int .i64 (valP y 0).1, .int .i64 (valP y 0).2, .int .i64 (valP y 1).1, .int .i64 (valP y 1).2, .int .i64 (valP y 2).1, .int .i64 (valP y 2).2, .int .i64 (valP y 3).1, .int .i64 (valP y 3).2, .int .i64 (valP y 4).1, .int .i64 (valP y 4).2, .int .i64 (valP y 5).1, .int .i64 (valP y 5).2] 60) HQ.out)
        have HBv := Lib.hid (pa (o := .cells #[.string y.name, .int .i64 y.price, .int .i64 (valP y 0).1, .int .i64 (valP y 0).2, .int .i64 (valP y 1).1, .int .i64 (valP y 1).2, .int .i64 (valP y 2).1, .int .i64 (valP y 2).2, .int .i64 (valP y 3).1, .int .i64 (valP y 3).2, .int .i64 (valP y 4).1, .int .i64 (valP y 4).2, .int .i64 (valP y 5).1, .int .i64 (valP y 5).2] 60) hq)
        go_wp2_with (go_at_call 88; refine (containsParts_any B _ k c (l.take k) (sameN y) _ _ (HTk.out _ HB1.out) (Nat.le_trans hB HB1.out.size) hlk hk1000 (fun t W hW => slotCb_any t y wr.heap.size W (Nat.lt_of_lt_of_le HBx.out.lt hW.size) ((HBx.out.past hW).cellAt 0 rfl))).mono ?_; rintro e w2 ⟨rfl, hb2⟩)
        have HB2 := Lib.hid (HBx.out.past hb2)
        have HQ2 := Lib.hid (pt HB1.out hb2)
        have HQv := Lib.hid (pt HBv.out hb2)
        have c0 := HB2.out.cellAt 0 rfl; have c1 := HB2.out.cellAt 1 rfl; have c2 := HB2.out.cellAt 2 rfl; have c3 := HB2.out.cellAt 3 rfl; have c4 := HB2.out.cellAt 4 rfl; have c5 := HB2.out.cellAt 5 rfl; have c6 := HB2.out.cellAt 6 rfl; have c7 := HB2.out.cellAt 7 rfl; have c8 := HB2.out.cellAt 8 rfl; have c9 := HB2.out.cellAt 9 rfl; have c10 := HB2.out.cellAt 10 rfl; have c11 := HB2.out.cellAt 11 rfl; have c12 := HB2.out.cellAt 12 rfl; have c13 := HB2.out.cellAt 13 rfl
        have gl := HB2.out.lt
        clear hb2 HBx HB1 HBv u0 u1 u2 u3 u4 u5 u6 u7 u8 u9 u10 u11 u12 u13
        refine region_below 9 follows_mixed (by kernel_rfl) ?_
        intro C hC
        simp only [List.take_succ_cons, List.take_zero, List.drop_succ_cons, List.drop_zero]
        repeat (first
          | ((with_reducible refine quiet_plain rfl (fun K hK => ?_)); (focus (apply quiet_val; (focus (intro w' hw; obtain ⟨hcq, hfq⟩ := bcell ((hC.out _).1 hw); go_simp; (first | done | rfl | (with_reducible exact call_below hC hw (isName_any _ _ hsm1)) | (with_reducible exact call_same hw (unless_any _ _ _)) | (with_reducible exact call_below hC hw (partErr_any _ _ hsm))))); (simp only [Act.put, List.setIfInBounds_toArray, List.set_cons_succ, List.set_cons_zero]); (with_reducible refine hK _ ?_); clear hK K)))
          | ((with_reducible refine quiet_skip ?_ ?_); (focus (first | (simp [Region.wanted, yielded]; done) | (simp [Region.wanted, yielded, undef]; done))); simp only [Act.put, List.setIfInBounds_toArray, List.set_cons_succ, List.set_cons_zero])
          | ((with_reducible refine quiet_go ?_ (fun K hK => ?_)); (focus (first | (simp [Region.wanted, yielded]; done) | (simp [Region.wanted, yielded, undef]; done))); (focus (apply quiet_val; (focus (intro w' hw; obtain ⟨hcq, hfq⟩ := bcell ((hC.out _).1 hw); go_simp; (first | done | rfl | (with_reducible exact call_below hC hw (isName_any _ _ hsm1)) | (with_reducible exact call_same hw (unless_any _ _ _)) | (with_reducible exact call_below hC hw (partErr_any _ _ hsm))))); (simp only [Act.put, List.setIfInBounds_toArray, List.set_cons_succ, List.set_cons_zero]); (with_reducible refine hK _ ?_); clear hK K))))
        refine wpQuiet_nil ?_
        intro w1 hb1
        replace hb1 := (hC.out _).1 hb1
        clear hC C
        obtain ⟨hc1, hf1⟩ := bcell hb1
        have HQ3 := Lib.hid (pt HQ2.out hb1)
        have HQw := Lib.hid (pt HQv.out hb1)
        clear hc1 hf1 hb1 c0 c1 c2 c3 c4 c5 c6 c7 c8 c9 c10 c11 c12 c13 gl
        by_cases he : e = 0
        · subst he
          have HS2 := Lib.hid (show scan (slotErrs l) n 0 = scan (slotErrs l) n (k + 1) by rw [HS.out, if_pos rfl])
          go_wp2_with (first
            | (go_at_call 44; refine (first3 _ _ _ _ _ _ (by first | (go_simp; done) | (go_simp; rfl)) (by first | (go_simp; done) | (go_simp; rfl)) (by first | (go_simp; done) | (go_simp; rfl)) _ hFk.out).mono ?_; rintro e w' ⟨rfl, rfl⟩))
          go_roundw
          case rel => exact ⟨k + 1, by omega, by go_num, HS2.out, pa HQw.out⟩
          case measure => simp [intOf]; omega
        · have he1 : (e == 0) = false := by simpa using he
          have he2 : (e != 0) = true := by simpa using he
          have HRs := Lib.hid (show E = e by rw [HE.out, HS.out, if_neg he])
          go_wp2_with (first
            | (go_at_call 44; refine (first3 _ _ _ _ _ _ (by first | (go_simp; done) | (go_simp; rfl)) (by first | (go_simp; done) | (go_simp; rfl)) (by first | (go_simp; done) | (go_simp; rfl)) _ hFk.out).mono ?_; rintro e w' ⟨rfl, rfl⟩))
          go_ret
          exact ⟨ret_int HRs.out.symm, pa HQ3.out⟩
      · have HRs := Lib.hid (show E = 0 by rw [HE.out, hf, scan_end (by omega)])
        clear hf
        go_wp2
        go_ret
        exact ⟨ret_int HRs.out.symm, HQ.out⟩
  · have hE1 : (E1 == 0) = false := by simpa using hE
    have hE2 : (E1 != 0) = true := by simpa using hE
    have HE := Lib.hid (show E = E1 by rw [HT.out, if_pos hE])
    clear HT
    go_enter Tryz.func75, Tryz.ntmps75
    go_wp2_with (first
      | (go_at_call 48; refine (unless_any _ _ _).mono ?_; rintro e w' ⟨rfl, rfl⟩)
      | (go_at_call 44; refine (first2 _ _ _ _ _ (by first | (go_simp; done) | (go_simp; rfl)) (by first | (go_simp; done) | (go_simp; rfl)) _ HV1.out).mono ?_; rintro e w' ⟨rfl, rfl⟩))
    go_ret
    exact ⟨ret_int HE.out.symm, pa pr⟩

theorem stockCb_any (n : Int) (w : World) :
    Calls Tryz.prog 74 #[.int .i64 n] w fun r w' => r = .returned (.bool (withinB n 0 1000)) ∧ w = w' := by
  go_enter Tryz.func74, Tryz.ntmps74
  go_wp2_with (go_at_call 49; refine (within_any _ _ _ _).mono ?_; rintro e w' ⟨rfl, rfl⟩)
  go_ret
  exact ⟨rfl, rfl⟩

set_option maxHeartbeats 4000000 in
set_option maxRecDepth 100000 in
theorem CheckStock_any (B : Nat) (sl : List (List DPart)) (A : Option Addr) (n c : Nat) (idle price : Int) (w : World) (hr : SlotsIn B w A sl) (hB : B ≤ w.heap.size) (hn : sl.length = n) (hm : n ≤ 1000) (hs : SmallSlots sl) :
    Calls Tryz.prog 47 #[.agg #[.slice A n c, .int .i64 idle, .int .i64 price]] w fun e w' => e = .returned (.tuple #[.int .i64 ((stockE idle price sl).1 : Int), .int .i64 (stockE idle price sl).2]) ∧ Below w.heap.size w w' := by
  have HT := Lib.hid (show stockE idle price sl = if stockE1 idle price sl.length ≠ 0 then (0, stockE1 idle price sl.length) else scan (slotsErr sl) sl.length 0 from rfl)
  have HR := Lib.hid hr
  have HSm := Lib.hid hs
  have HV := Lib.hid (show firstV [unlessV (withinB idle 0 1000 && withinB price 0 1000) 2, unlessV (decide (0 < n)) 10, unlessV (decide ((n : Int) ≤ 5)) 8] = stockE1 idle price sl.length by rw [← hn]; rfl)
  have HN := Lib.hid hn
  clear hr hs
  generalize stockE idle price sl = R at *
  generalize stockE1 idle price sl.length = E1 at *
  cases hp : withinB idle 0 1000
  all_goals
    first
      | have HW := Lib.hid (show firstV [unlessV false 2, unlessV (decide (0 < n)) 10, unlessV (decide ((n : Int) ≤ 5)) 8] = E1 by rw [← HV.out, hp]; rfl)
      | have HW := Lib.hid (show firstV [unlessV (withinB price 0 1000) 2, unlessV (decide (0 < n)) 10, unlessV (decide ((n : Int) ≤ 5)) 8] = E1 by rw [← HV.out, hp]; rfl)
    clear HV
    go_enter Tryz.func47, Tryz.ntmps47
    go_wp2
    refine region_below 21 follows_mixed (by kernel_rfl) ?_
    intro C hC
    simp only [List.take_succ_cons, List.take_zero, List.drop_succ_cons, List.drop_zero]
    repeat (first
      | ((with_reducible refine quiet_plain rfl (fun K hK => ?_)); (focus (apply quiet_val; (focus (intro w' hw; obtain ⟨hcq, hfq⟩ := bcell ((hC.out _).1 hw); go_simp; (first | done | rfl | (with_reducible exact call_same hw (stockCb_any _ _)) | (with_reducible exact call_same hw (unless_any _ _ _))))); (simp only [Act.put, List.setIfInBounds_toArray, List.set_cons_succ, List.set_cons_zero]); (with_reducible refine hK _ ?_); clear hK K)))
      | ((with_reducible refine quiet_skip ?_ ?_); (focus (first | (simp [Region.wanted, yielded]; done) | (simp [Region.wanted, yielded, undef]; done))); simp only [Act.put, List.setIfInBounds_toArray, List.set_cons_succ, List.set_cons_zero])
      | ((with_reducible refine quiet_go ?_ (fun K hK => ?_)); (focus (first | (simp [Region.wanted, yielded]; done) | (simp [Region.wanted, yielded, undef]; done))); (focus (apply quiet_val; (focus (intro w' hw; obtain ⟨hcq, hfq⟩ := bcell ((hC.out _).1 hw); go_simp; (first | done | rfl | (with_reducible exact call_same hw (stockCb_any _ _)) | (with_reducible exact call_same hw (unless_any _ _ _))))); (simp only [Act.put, List.setIfInBounds_toArray, List.set_cons_succ, List.set_cons_zero]); (with_reducible refine hK _ ?_); clear hK K))))
    refine wpQuiet_nil ?_
    intro w1 hb1
    replace hb1 := (hC.out _).1 hb1
    clear hC C
    obtain ⟨hc1, hf1⟩ := bcell hb1
    have r0 : Blk w1 w.heap.size 27 #[.slice A n c, .int .i64 idle, .int .i64 price] := (Blk.newAt rfl).past hb1
    have HQ1 := Lib.hid (pa (o := .cells #[] 33) (pt (pa (o := .cells #[.slice A n c, .int .i64 idle, .int .i64 price] 27) (pr (w := w))) hb1))
    have HQ0 := Lib.hid (pt (pa (o := .cells #[.slice A n c, .int .i64 idle, .int .i64 price] 27) (pr (w := w))) hb1)
    have g0 := r0.cellAt 0 rfl
    have gl := r0.lt
    clear hc1 hf1 hb1 HQ1
    by_cases hE : E1 = 0
    · subst hE
      have HE := Lib.hid (show R = scan (slotsErr sl) n 0 by rw [HT.out, if_neg (by simp), hn])
      clear HT
      go_wp2_with (first
        | (go_at_call 44; refine (first3 _ _ _ _ _ _ (by first | (go_simp; done) | (go_simp; rfl)) (by first | (go_simp; done) | (go_simp; rfl)) (by first | (go_simp; done) | (go_simp; rfl)) _ HW.out).mono ?_; rintro e w' ⟨rfl, rfl⟩))
      clear g0 gl r0
      generalize hv : w1.alloc _ = v
      have HQ1 : Hid (Below w.heap.size w v) := Lib.hid (by rw [← hv]; exact pa HQ0.out)
      clear hv
      go_loopw [38] (fun i wr => ∃ k : Nat, k ≤ n ∧ i = .int .i64 (k : Int) ∧ scan (slotsErr sl) n 0 = scan (slotsErr sl) n k ∧ Below v.heap.size v wr) (fun i _ => n - (intOf i).toNat)
      case atStart => exact ⟨0, Nat.zero_le _, rfl, rfl, pr⟩
      case round =>
        obtain ⟨k, hk, rfl, hf, hq⟩ := hrel
        have HQ := Lib.hid (pt HQ1.out hq)
        by_cases hlt : k < n
        · have hk' : k < sl.length := by rw [hn]; exact hlt
          obtain ⟨b, off, rfl, hb, hct⟩ := (HR.out.below (HQ.out.mono hB)).at_ hk'
          obtain ⟨A', c', u0, hts, hcap⟩ := hct k hk'
          have HS := Lib.hid (hf.trans (scan_step hlt))
          have hFk : slotsErr sl k = slotE (sl.getD k []) := rfl
          have hl := HSm.out _ (show sl.getD k [] ∈ sl from getD_mem' hk')
          have HCt := Lib.hid (fun W (hW : Below wr.heap.size wr W) => slotErr_any B (sl.getD k []) A' _ c' W (hts.below (hW.mono (Nat.le_trans hB HQ.out.size))) (Nat.le_trans hB (Nat.le_trans HQ.out.size hW.size)) rfl hl.1 hcap hl.2)
          rw [← hFk] at HCt
          clear hct hts hf hFk hcap hl
          generalize slotsErr sl k = e at *
          generalize sl.getD k [] = l at *
          by_cases he : e = 0
          · subst he
            have HS2 := Lib.hid (show scan (slotsErr sl) n 0 = scan (slotsErr sl) n (k + 1) by rw [HS.out, if_pos rfl])
            go_wp2_with (go_at_call 75; refine (HCt.out _ pr).mono ?_; rintro e w2 ⟨rfl, hb2⟩; have HQ2 := Lib.hid (pt hq hb2))
            go_roundw
            case rel => exact ⟨k + 1, by omega, by go_num, HS2.out, HQ2.out⟩
            case measure => simp [intOf]; omega
          · have he1 : (e == 0) = false := by simpa using he
            have he2 : (e != 0) = true := by simpa using he
            have HRs := Lib.hid (show R = (k, e) by rw [HE.out, HS.out, if_neg he])
            go_wp2_with (go_at_call 75; refine (HCt.out _ pr).mono ?_; rintro e w2 ⟨rfl, hb2⟩; have HQ2 := Lib.hid (pt HQ.out hb2))
            go_ret2
            exact ⟨ret_ii (by rw [HRs.out]) (by rw [HRs.out]), HQ2.out⟩
        · have HRs := Lib.hid (show R = (0, 0) by rw [HE.out, hf, scan_end (by omega)])
          clear hf
          go_wp2
          go_ret2
          exact ⟨ret_ii (by rw [HRs.out]; rfl) (by rw [HRs.out]), HQ.out⟩
    · have hE1 : (E1 == 0) = false := by simpa using hE
      have hE2 : (E1 != 0) = true := by simpa using hE
      have HE := Lib.hid (show R = (0, E1) by rw [HT.out, if_pos hE])
      clear HT
      go_wp2_with (first
        | (go_at_call 44; refine (first3 _ _ _ _ _ _ (by first | (go_simp; done) | (go_simp; rfl)) (by first | (go_simp; done) | (go_simp; rfl)) (by first | (go_simp; done) | (go_simp; rfl)) _ HW.out).mono ?_; rintro e w' ⟨rfl, rfl⟩))
      go_ret2
      exact ⟨ret_ii (by rw [HE.out]; rfl) (by rw [HE.out]), pa HQ0.out⟩

end Go.Proofs.YtnfbdkdjoekifaaGreatDoor
end
