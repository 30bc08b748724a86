/- Where specifications and stocks lie: rows of flat structs, one behind the other; rows of structs that hold a slice. No program is in sight.
Contracts of the small functions of package design: first, unless, within, small. Each computes just what its name says; nothing is written that was there.
Plain words: the first place at which something holds, whether it holds anywhere; whether two strings are one. No program is in sight. -/
import Derived.Test.YtncbigkkmgnkmaaGreatDoorOa1
import Derived.Test.YtncbigkkmgnkmaaGreatDoorOa2
import Derived.Lib.SlicesS
import Derived.Lib.Strings
import Derived.Lib.Walk

section
namespace Go.Proofs.YtncbigkkmgnkmaaGreatDoor
open Go.RowKit

section
variable {α : Type} {f : α → List Value} {s : Nat}
theorem flat_len (hf : ∀ x, (f x).length = s) : ∀ l : List α, (l.flatMap f).length = l.length * s
  | [] => by simp
  | x :: l => by rw [List.flatMap_cons, List.length_append, hf, flat_len hf l, List.length_cons, Nat.succ_mul, Nat.add_comm]
theorem flat_at [Inhabited α] (hf : ∀ x, (f x).length = s) : ∀ {l : List α} {j k : Nat}, j < l.length → k < s → (l.flatMap f)[j * s + k]? = (f (l.getD j default))[k]?
  | [], j, k, hj, _ => by simp at hj
  | x :: l, 0, k, _, hk => by
    rw [List.flatMap_cons, Nat.zero_mul, Nat.zero_add, List.getElem?_append_left (by rw [hf]; exact hk)]
    rfl
  | x :: l, j + 1, k, hj, hk => by
    rw [List.flatMap_cons, List.getElem?_append_right (by rw [hf, Nat.succ_mul]; omega), hf, show (j + 1) * s + k - s = j * s + k by rw [Nat.succ_mul]; omega, flat_at hf (by simpa using hj) hk]
    rfl
theorem flat_one (hf : ∀ x, ∀ u ∈ f x, u.oneCell' = true) (l : List α) : ∀ u ∈ l.flatMap f, u.oneCell' = true := fun u hu => by
  obtain ⟨x, _, h⟩ := List.mem_flatMap.1 hu
  exact hf x u h
theorem take_snoc [Inhabited α] {l : List α} {k : Nat} (h : k < l.length) : l.take (k + 1) = l.take k ++ [l.getD k default] := by
  have e : l.getD k default = l[k] := by simp [List.getD, h]
  rw [List.take_succ_eq_append_getElem h, e]
theorem getD_mem' [Inhabited α] {l : List α} {k : Nat} (h : k < l.length) : l.getD k default ∈ l := by
  have e : l.getD k default = l[k] := by simp [List.getD, h]
  rw [e]
  exact List.getElem_mem h
/-- The cells of one element of a row. -/
theorem CellsIn.elem [Inhabited α] {B : Nat} {w : World} {A : Option Addr} {xs : List α} (h : CellsIn B w A (xs.flatMap f)) (hf : ∀ x, (f x).length = s) {j : Nat} (hj : j < xs.length) (hs : 0 < s) :
    ∃ b off, A = some ⟨b, off, none⟩ ∧ b < B ∧ ∀ i, i < xs.length → ∀ k, k < s → w.cell? ⟨b, off + i * s + k, none⟩ = (f (xs.getD i default))[k]? := by
  have hl := flat_len hf xs
  rcases h with h | ⟨b, off, hA, hb, hc⟩
  · exfalso
    rw [h] at hl
    have h2 : xs.length * s = 0 := hl.symm
    rcases Nat.mul_eq_zero.1 h2 with h3 | h3 <;> omega
  · refine ⟨b, off, hA, hb, fun i hi k hk => ?_⟩
    have h1 : i * s + k < (xs.flatMap f).length := by
      rw [hl]
      have := Nat.mul_le_mul_right s (show i + 1 ≤ xs.length from hi)
      rw [Nat.succ_mul] at this
      omega
    rw [Nat.add_assoc, hc _ h1]
    exact flat_at hf hi hk
theorem CellsIn.take_ {B : Nat} {w : World} {A : Option Addr} {us : List Value} (h : CellsIn B w A us) (n : Nat) : CellsIn B w A (us.take n) := by
  rcases h with h | ⟨b, off, hA, hb, hc⟩
  · exact .inl (by rw [h]; simp)
  · exact .inr ⟨b, off, hA, hb, fun q hq => by
      rw [List.length_take] at hq
      rw [hc q (by omega), List.getElem?_take_of_lt (by omega)]⟩
theorem flat_take (hf : ∀ x, (f x).length = s) : ∀ (l : List α) (k : Nat), (l.take k).flatMap f = (l.flatMap f).take (k * s)
  | [], k => by simp
  | x :: l, 0 => by simp
  | x :: l, k + 1 => by
    have h1 : (f x).take ((k + 1) * s) = f x := List.take_of_length_le (by rw [hf, Nat.succ_mul]; omega)
    have h2 : (k + 1) * s - (f x).length = k * s := by rw [hf, Nat.succ_mul]; omega
    rw [List.take_succ_cons, List.flatMap_cons, List.flatMap_cons, flat_take hf l k, List.take_append, h1, h2]
end

/-- The cells of a term, of a part. -/
def termU (t : DTerm) : List Value := [.int .i64 t.f, .int .i64 t.q]
def partU (p : DPart) : List Value := [.string p.name, .int .i64 p.price, .int .i64 (valP p 0).1, .int .i64 (valP p 0).2, .int .i64 (valP p 1).1, .int .i64 (valP p 1).2, .int .i64 (valP p 2).1, .int .i64 (valP p 2).2, .int .i64 (valP p 3).1, .int .i64 (valP p 3).2, .int .i64 (valP p 4).1, .int .i64 (valP p 4).2, .int .i64 (valP p 5).1, .int .i64 (valP p 5).2]
theorem term_len (t : DTerm) : (termU t).length = 2 := rfl
theorem part_len (p : DPart) : (partU p).length = 14 := rfl
theorem term_one (t : DTerm) : ∀ u ∈ termU t, u.oneCell' = true := by simp [termU, Value.oneCell']
theorem part_one (p : DPart) : ∀ u ∈ partU p, u.oneCell' = true := by simp [partU, Value.oneCell']
def termsC (ts : List DTerm) : List Value := ts.flatMap termU
def partsC (l : List DPart) : List Value := l.flatMap partU

/-- A requirement at an address, a row of them; a slot, a row of slots: all slices below block B. -/
def ReqAt (B : Nat) (w : World) (b off : Nat) (r : DReq) : Prop :=
  ∃ A c, w.cell? ⟨b, off, none⟩ = some (.slice A r.ts.length c) ∧ w.cell? ⟨b, off + 1, none⟩ = some (.bool r.ge) ∧ w.cell? ⟨b, off + 2, none⟩ = some (.int .i64 r.lim) ∧ w.cell? ⟨b, off + 3, none⟩ = some (.int .i64 r.unit) ∧ CellsIn B w A (termsC r.ts) ∧ r.ts.length ≤ c
def ReqsIn (B : Nat) (w : World) (A : Option Addr) (rs : List DReq) : Prop :=
  rs = [] ∨ ∃ b off, A = some ⟨b, off, none⟩ ∧ b < B ∧ ∀ i, i < rs.length → ReqAt B w b (off + i * 4) (rs.getD i default)
def SlotAt (B : Nat) (w : World) (b off : Nat) (l : List DPart) : Prop :=
  ∃ A c, w.cell? ⟨b, off, none⟩ = some (.slice A l.length c) ∧ CellsIn B w A (partsC l) ∧ l.length ≤ c
def SlotsIn (B : Nat) (w : World) (A : Option Addr) (sl : List (List DPart)) : Prop :=
  sl = [] ∨ ∃ b off, A = some ⟨b, off, none⟩ ∧ b < B ∧ ∀ i, i < sl.length → SlotAt B w b (off + i) (sl.getD i [])

section
variable {B B' b off : Nat} {w w' : World} {A : Option Addr} {r : DReq} {l : List DPart} {rs : List DReq} {sl : List (List DPart)}
theorem ReqAt.keep (h : ReqAt B w b off r) (hb : b < B) (hk : ∀ b o, b < B → w'.cell? ⟨b, o, none⟩ = w.cell? ⟨b, o, none⟩) : ReqAt B w' b off r := by
  obtain ⟨A, c, h0, h1, h2, h3, h4, h5⟩ := h
  exact ⟨A, c, (hk _ _ hb).trans h0, (hk _ _ hb).trans h1, (hk _ _ hb).trans h2, (hk _ _ hb).trans h3, h4.keep hk, h5⟩
theorem ReqsIn.keep (h : ReqsIn B w A rs) (hk : ∀ b o, b < B → w'.cell? ⟨b, o, none⟩ = w.cell? ⟨b, o, none⟩) : ReqsIn B w' A rs := by
  rcases h with h | ⟨b, off, hA, hb, hc⟩
  · exact .inl h
  · exact .inr ⟨b, off, hA, hb, fun i hi => (hc i hi).keep hb hk⟩
theorem ReqsIn.below (h : ReqsIn B w A rs) (hb : Below B w w') : ReqsIn B w' A rs := h.keep (bcell hb).1
theorem ReqAt.more (h : ReqAt B w b off r) (hB : B ≤ B') : ReqAt B' w b off r := by
  obtain ⟨A, c, h0, h1, h2, h3, h4, h5⟩ := h
  exact ⟨A, c, h0, h1, h2, h3, h4.more hB, h5⟩
theorem ReqsIn.more (h : ReqsIn B w A rs) (hB : B ≤ B') : ReqsIn B' w A rs := by
  rcases h with h | ⟨b, off, hA, hb, hc⟩
  · exact .inl h
  · exact .inr ⟨b, off, hA, by omega, fun i hi => (hc i hi).more hB⟩
theorem ReqsIn.past (h : ReqsIn B w A rs) (hB : B ≤ w.heap.size) (hb : Below w.heap.size w w') : ReqsIn w'.heap.size w' A rs := ((h.more hB).below hb).more hb.size
theorem ReqsIn.at_ {k : Nat} (h : ReqsIn B w A rs) (hk : k < rs.length) : ∃ b off, A = some ⟨b, off, none⟩ ∧ b < B ∧ ∀ i, i < rs.length → ReqAt B w b (off + i * 4) (rs.getD i default) := by
  rcases h with h | h
  · subst h; simp at hk
  · exact h
theorem SlotAt.keep (h : SlotAt B w b off l) (hb : b < B) (hk : ∀ b o, b < B → w'.cell? ⟨b, o, none⟩ = w.cell? ⟨b, o, none⟩) : SlotAt B w' b off l := by
  obtain ⟨A, c, h0, h1, h2⟩ := h
  exact ⟨A, c, (hk _ _ hb).trans h0, h1.keep hk, h2⟩
theorem SlotsIn.keep (h : SlotsIn B w A sl) (hk : ∀ b o, b < B → w'.cell? ⟨b, o, none⟩ = w.cell? ⟨b, o, none⟩) : SlotsIn B w' A sl := by
  rcases h with h | ⟨b, off, hA, hb, hc⟩
  · exact .inl h
  · exact .inr ⟨b, off, hA, hb, fun i hi => (hc i hi).keep hb hk⟩
theorem SlotsIn.below (h : SlotsIn B w A sl) (hb : Below B w w') : SlotsIn B w' A sl := h.keep (bcell hb).1
theorem SlotAt.more (h : SlotAt B w b off l) (hB : B ≤ B') : SlotAt B' w b off l := by
  obtain ⟨A, c, h0, h1, h2⟩ := h
  exact ⟨A, c, h0, h1.more hB, h2⟩
theorem SlotsIn.more (h : SlotsIn B w A sl) (hB : B ≤ B') : SlotsIn B' w A sl := by
  rcases h with h | ⟨b, off, hA, hb, hc⟩
  · exact .inl h
  · exact .inr ⟨b, off, hA, by omega, fun i hi => (hc i hi).more hB⟩
theorem SlotsIn.past (h : SlotsIn B w A sl) (hB : B ≤ w.heap.size) (hb : Below w.heap.size w w') : SlotsIn w'.heap.size w' A sl := ((h.more hB).below hb).more hb.size
theorem SlotsIn.at_ {k : Nat} (h : SlotsIn B w A sl) (hk : k < sl.length) : ∃ b off, A = some ⟨b, off, none⟩ ∧ b < B ∧ ∀ i, i < sl.length → SlotAt B w b (off + i) (sl.getD i []) := by
  rcases h with h | h
  · subst h; simp at hk
  · exact h
theorem terms_at {ts : List DTerm} {k : Nat} (h : CellsIn B w A (termsC ts)) (hk : k < ts.length) : ∃ b off, A = some ⟨b, off, none⟩ ∧ b < B ∧ ∀ i, i < ts.length → w.cell? ⟨b, off + i * 2, none⟩ = some (.int .i64 (ts.getD i default).f) ∧ w.cell? ⟨b, off + i * 2 + 1, none⟩ = some (.int .i64 (ts.getD i default).q) := by
  obtain ⟨b, off, hA, hb, hc⟩ := h.elem term_len hk (by decide)
  exact ⟨b, off, hA, hb, fun i hi => ⟨hc i hi 0 (by decide), hc i hi 1 (by decide)⟩⟩
/-- The cells of a part at an address. -/
def PartAt (w : World) (b off : Nat) (p : DPart) : Prop := ∀ k, k < 14 → w.cell? ⟨b, off + k, none⟩ = (partU p)[k]?
theorem parts_at {ps : List DPart} {k : Nat} (h : CellsIn B w A (partsC ps)) (hk : k < ps.length) : ∃ b off, A = some ⟨b, off, none⟩ ∧ b < B ∧ ∀ i, i < ps.length → PartAt w b (off + i * 14) (ps.getD i default) := by
  obtain ⟨b, off, hA, hb, hc⟩ := h.elem part_len hk (by decide)
  exact ⟨b, off, hA, hb, fun i hi => hc i hi⟩
end

end Go.Proofs.YtncbigkkmgnkmaaGreatDoor
end

section
namespace Go.Proofs.YtncbigkkmgnkmaaGreatDoor
open Go.RowKit

/-- The first number that is not 0. -/
def firstV : List Int → Int
  | [] => 0
  | x :: l => if x = 0 then firstV l else x

def unlessV (ok : Bool) (e : Int) : Int := if ok then 0 else e
def withinB (n lo hi : Int) : Bool := decide (lo ≤ n) && decide (n ≤ hi)

theorem firstV_drop (xs : List Int) (k : Nat) (h : k < xs.length) : firstV (xs.drop k) = if xs.getD k 0 = 0 then firstV (xs.drop (k + 1)) else xs.getD k 0 := by
  rw [List.drop_eq_getElem_cons h, firstV]
  simp [List.getD, h]

set_option maxHeartbeats 400000 in
theorem first_any (B : Nat) (A : Option Addr) (c : Nat) (xs : List Int) (w : World) (hr : IntsIn B w A xs) (hm : xs.length ≤ 1000) :
    Calls Tryz.prog 57 #[.slice A xs.length c] w fun e w' => e = .returned (.int .i64 (firstV xs)) ∧ w = w' := by
  go_enter Tryz.func57, Tryz.ntmps57
  go_wp2
  go_loop [7] (fun i => ∃ k : Nat, k ≤ xs.length ∧ i = .int .i64 k ∧ firstV (xs.drop k) = firstV xs) (fun i => xs.length - (intOf i).toNat)
  case atStart => exact ⟨0, Nat.zero_le _, rfl, rfl⟩
  case round =>
    obtain ⟨k, hk, rfl, hf⟩ := hrel
    by_cases hlt : k < xs.length
    · obtain ⟨b, off, rfl, hb, hc⟩ := hr.at_ hlt
      have hcell := hc k hlt
      have HF := Lib.hid (hf.symm.trans (firstV_drop xs k hlt))
      clear hc hf hr
      generalize xs.getD k 0 = x at *
      go_wp2
      · go_ret
        exact ⟨ret_int (by rw [HF.out, if_neg (by simp_all)]), rfl⟩
      · go_round
        case rel => exact ⟨k + 1, by omega, by go_num, by rw [HF.out, if_pos (by simp_all)]⟩
        case measure => simp [intOf]; omega
    · have hk' : k = xs.length := by omega
      have HF := Lib.hid (show firstV xs = 0 by rw [← hf, hk']; simp [firstV])
      clear hf hk'
      go_wp2
      go_ret
      exact ⟨ret_int HF.out.symm, rfl⟩

theorem unless_any (ok : Bool) (e : Int) (w : World) :
    Calls Tryz.prog 72 #[.bool ok, .int .i64 e] w fun r w' => r = .returned (.int .i64 (unlessV ok e)) ∧ w = w' := by
  cases ok
  all_goals
    go_enter Tryz.func72, Tryz.ntmps72
    go_wp2
    go_ret
    exact ⟨rfl, rfl⟩

theorem within_any (n lo hi : Int) (w : World) :
    Calls Tryz.prog 73 #[.int .i64 n, .int .i64 lo, .int .i64 hi] w fun r w' => r = .returned (.bool (withinB n lo hi)) ∧ w = w' := by
  by_cases h : lo ≤ n
  all_goals
    go_enter Tryz.func73, Tryz.ntmps73
    go_wp2
    all_goals
      go_ret
      exact ⟨ret_bool (by simp [withinB]; try omega), rfl⟩

theorem unless_ne {b : Bool} {e : Int} (he : e ≠ 0) : unlessV b e = 0 ↔ b = true := by cases b <;> simp [unlessV, he]
theorem firstV_zero {x : Int} {l : List Int} : firstV (x :: l) = 0 ↔ x = 0 ∧ firstV l = 0 := by
  unfold firstV
  by_cases h : x = 0
  · subst h; simp; cases l <;> simp [firstV]
  · simp [h]

theorem small_any (n m : Int) (hm : -1000000000 ≤ m) (hm' : m ≤ 1000000000) (w : World) :
    Calls Tryz.prog 119 #[.int .i64 n, .int .i64 m] w fun r w' => r = .returned (.bool (withinB n (-m) m)) ∧ w = w' := by
  go_enter Tryz.func119, Tryz.ntmps119
  go_wp2_with (go_at_call 73; refine (within_any _ _ _ _).mono ?_; rintro e w' ⟨rfl, rfl⟩)
  go_ret
  exact ⟨rfl, rfl⟩

theorem refWithin_any (n lo hi : Int) (w : World) :
    Calls Tryz.prog 41 #[.int .i64 n, .int .i64 lo, .int .i64 hi] w fun r w' => r = .returned (.bool (withinB n lo hi)) ∧ w = w' := by
  by_cases h : lo ≤ n
  all_goals
    go_enter Tryz.func41, Tryz.ntmps41
    go_wp2
    all_goals
      go_ret
      exact ⟨ret_bool (by simp [withinB]; try omega), rfl⟩

theorem first2 (b c : Nat) (x y : Int) (w : World) (h0 : w.cell? ⟨b, 0, none⟩ = some (.int .i64 x)) (h1 : w.cell? ⟨b, 1, none⟩ = some (.int .i64 y)) (v : Int) (hv : firstV [x, y] = v) :
    Calls Tryz.prog 57 #[.slice (some ⟨b, 0, none⟩) 2 c] w fun e w' => e = .returned (.int .i64 v) ∧ w = w' := hv ▸
  first_any (b + 1) _ c [x, y] w (.inr ⟨b, 0, rfl, by omega, fun j hj => by
    have : j = 0 ∨ j = 1 := by simp at hj; omega
    rcases this with rfl | rfl
    · simpa using h0
    · simpa using h1⟩) (by simp)
theorem first3 (b c : Nat) (x y z : Int) (w : World) (h0 : w.cell? ⟨b, 0, none⟩ = some (.int .i64 x)) (h1 : w.cell? ⟨b, 1, none⟩ = some (.int .i64 y)) (h2 : w.cell? ⟨b, 2, none⟩ = some (.int .i64 z)) (v : Int) (hv : firstV [x, y, z] = v) :
    Calls Tryz.prog 57 #[.slice (some ⟨b, 0, none⟩) 3 c] w fun e w' => e = .returned (.int .i64 v) ∧ w = w' := hv ▸
  first_any (b + 1) _ c [x, y, z] w (.inr ⟨b, 0, rfl, by omega, fun j hj => by
    have : j = 0 ∨ j = 1 ∨ j = 2 := by simp at hj; omega
    rcases this with rfl | rfl | rfl
    · simpa using h0
    · simpa using h1
    · simpa using h2⟩) (by simp)
theorem isValue_any (n : Int) (w : World) :
    Calls Tryz.prog 143 #[.int .i64 n] w fun r w' => r = .returned (.bool (withinB n 0 1000000)) ∧ w = w' := by
  go_enter Tryz.func143, Tryz.ntmps143
  go_wp2_with (go_at_call 73; refine (within_any _ _ _ _).mono ?_; rintro e w' ⟨rfl, rfl⟩)
  go_ret
  exact ⟨rfl, rfl⟩
/-- The first place at which a function of the place is not 0, with what it is there. -/
def scanF (f : Nat → Int) : Nat → Nat → Nat × Int
  | 0, _ => (0, 0)
  | n + 1, k => if f k = 0 then scanF f n (k + 1) else (k, f k)
def scan (f : Nat → Int) (n k : Nat) : Nat × Int := scanF f (n - k) k
theorem scan_step {f : Nat → Int} {n k : Nat} (h : k < n) : scan f n k = if f k = 0 then scan f n (k + 1) else (k, f k) := by
  unfold scan
  obtain ⟨m, hm⟩ : ∃ m, n - k = m + 1 := ⟨n - k - 1, by omega⟩
  rw [hm, scanF, show n - (k + 1) = m by omega]
theorem scan_end {f : Nat → Int} {n k : Nat} (h : n ≤ k) : scan f n k = (0, 0) := by
  unfold scan
  rw [show n - k = 0 by omega, scanF]

end Go.Proofs.YtncbigkkmgnkmaaGreatDoor
end

section
namespace Go.Proofs.YtncbigkkmgnkmaaGreatDoor
open Go.RowKit

/-- The first place from k on at which p holds, or -1. -/
def findG {α : Type} (p : α → Bool) (xs : List α) (k : Nat) : Int :=
  match (xs.drop k).findIdx? p with
  | some i => ((k + i : Nat) : Int)
  | none => -1
def anyG {α : Type} (p : α → Bool) (xs : List α) : Bool := xs.any p

theorem findG_step {α : Type} (p : α → Bool) (xs : List α) (k : Nat) (d : α) (h : k < xs.length) : findG p xs k = if p (xs.getD k d) = true then (k : Int) else findG p xs (k + 1) := by
  unfold findG
  rw [List.drop_eq_getElem_cons h, List.findIdx?_cons]
  have e : xs.getD k d = xs[k] := by simp [List.getD, h]
  rw [e]
  by_cases hx : p xs[k] = true
  · simp [hx]
  · simp only [hx]
    cases (List.drop (k + 1) xs).findIdx? p with
    | none => rfl
    | some i => simp; omega
theorem findG_end {α : Type} (p : α → Bool) (xs : List α) (k : Nat) (h : xs.length ≤ k) : findG p xs k = -1 := by
  unfold findG
  rw [List.drop_eq_nil_of_le h]
  rfl
theorem findG_any {α : Type} (p : α → Bool) (xs : List α) : decide (0 ≤ findG p xs 0) = anyG p xs := by
  unfold findG anyG
  simp only [List.drop_zero]
  cases h : xs.findIdx? p with
  | none =>
    have h2 := List.findIdx?_eq_none_iff.1 h
    have h3 : xs.any p = false := by rw [List.any_eq_false]; intro x hx; simp [h2 x hx]
    simp [h3]
  | some i =>
    obtain ⟨h1, h2, _⟩ := List.findIdx?_eq_some_iff_getElem.1 h
    have h3 : xs.any p = true := by rw [List.any_eq_true]; exact ⟨xs[i], List.getElem_mem h1, h2⟩
    simp [h3]

/-- Whether two strings are one. -/
def sameS (x y : ByteArray) : Bool := x.data.toList == y.data.toList
theorem sameS_iff {x y : ByteArray} : sameS x y = true ↔ x = y := by
  unfold sameS
  rw [beq_iff_eq]
  constructor
  · intro h
    cases x with | mk x => cases y with | mk y =>
      cases x with | mk x => cases y with | mk y =>
        simp only at h
        rw [h]
  · rintro rfl; rfl
theorem sameS_list (x y : ByteArray) : sameS x y = (x.toList == y.toList) := by
  rw [Bool.eq_iff_iff, sameS_iff, Lib.bytes_beq_iff]
theorem anyG_take {α : Type} {p : α → Bool} {xs : List α} {k : Nat} (d : α) (h : k < xs.length) : anyG p (xs.take (k + 1)) = (anyG p (xs.take k) || p (xs.getD k d)) := by
  unfold anyG
  have e : xs.getD k d = xs[k] := by simp [List.getD, h]
  rw [List.take_succ_eq_append_getElem h, List.any_append, e]
  simp

end Go.Proofs.YtncbigkkmgnkmaaGreatDoor
end
