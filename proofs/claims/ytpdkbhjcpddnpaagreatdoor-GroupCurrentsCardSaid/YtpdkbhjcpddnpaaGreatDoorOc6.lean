/- The reference's sums over the sources, as far as they have come, and how long their digits are; rows of ratios in memory. No program.
A store into a part of a block that is known whole, as one operation (in a region that draws its order). No condition.
Ratios in memory behind an append onto a row of the call's own. No condition. -/
import Derived.Test.YtpdkbhjcpddnpaaGreatDoorOb7
import Derived.Test.YtpdkbhjcpddnpaaGreatDoorOc5
import Derived.Test.YtpdkbhjcpddnpaaGreatDoorOa4
import Derived.Test.YtpdkbhjcpddnpaaGreatDoorOa8
import Derived.Test.YtpdkbhjcpddnpaaGreatDoorOa3

section
namespace Go.Proofs.YtpdkbhjcpddnpaaGreatDoor
open Go.RowKit

theorem yR_divInt (s : Src) : Rat.divInt s.d s.n = yR s := by unfold yR; exact Rat.divInt_eq_div _ _
theorem zR_divInt (s : Src) : Rat.divInt s.n s.d = (s.n : Rat) / (s.d : Rat) := Rat.divInt_eq_div _ _
theorem bySum_take {ls : List Src} {k : Nat} (hk : k < ls.length) : bySum (ls.take k) + yR (ls.getD k default) = bySum (ls.take (k + 1)) := (bySum_step hk).symm
theorem voSum_take (f : Src → Int) (x : Rat) {ls : List Src} {k : Nat} (hk : k < ls.length) : (x + voSum f (ls.take k)) + ((f (ls.getD k default) : Int) : Rat) * yR (ls.getD k default) = x + voSum f (ls.take (k + 1)) := by
  rw [voSum_step hk, Rat.add_assoc]
theorem yR_rb {s : Src} (h : SrcOk s) : RB 3 (yR s) := by
  obtain ⟨_, _, hn, hd⟩ := h
  rw [← yR_divInt]
  exact rb_of (by omega) (by omega) (by omega)
theorem zR_rb {s : Src} (h : SrcOk s) : RB 3 (Rat.divInt s.n s.d) := by
  obtain ⟨_, _, hn, hd⟩ := h
  exact rb_of (by omega) (by omega) (by omega)
theorem bySum_rb : ∀ {ls : List Src}, (∀ s ∈ ls, SrcOk s) → RB (3 + 4 * ls.length) (bySum ls)
  | [], _ => by
    show RB _ (0 : Rat)
    exact rb_mono (by simp) (rb_int (n := 0) (by decide))
  | s :: l, h => by
    show RB _ (yR s + bySum l)
    exact rb_mono (by simp only [List.length_cons]; omega) (rb_add (yR_rb (h s (by simp))) (bySum_rb (ls := l) (fun t ht => h t (by simp [ht]))))
theorem voSum_rb {f : Src → Int} : ∀ {ls : List Src}, (∀ s ∈ ls, SrcOk s) → (∀ s ∈ ls, -1000000 ≤ f s ∧ f s ≤ 1000000) → RB (3 + 7 * ls.length) (voSum f ls)
  | [], _, _ => by
    show RB _ (0 : Rat)
    exact rb_mono (by simp) (rb_int (n := 0) (by decide))
  | s :: l, h, hf => by
    show RB _ ((f s : Rat) * yR s + voSum f l)
    have h1 := hf s (by simp)
    exact rb_mono (by simp only [List.length_cons]; omega) (rb_add (rb_mul (rb_int (n := f s) (by omega)) (yR_rb (h s (by simp)))) (voSum_rb (ls := l) (fun t ht => h t (by simp [ht])) (fun t ht => hf t (by simp [ht]))))
theorem y_rb_mul {f : Src → Int} {s : Src} (h : SrcOk s) (hf : -1000000 ≤ f s ∧ f s ≤ 1000000) : RB 100 ((f s : Rat) * yR s) := rb_mono (by decide) (rb_mul (rb_int (n := f s) (by omega)) (yR_rb h))
theorem sums_rb {ls : List Src} (h : SrcsOk ls) {f : Src → Int} (hf : ∀ s ∈ ls, -1000000 ≤ f s ∧ f s ≤ 1000000) {load : Int} (hl : -1000000 ≤ load ∧ load ≤ 1000000) (k : Nat) :
    RB 100 (-(load : Rat) + voSum f (ls.take k)) ∧ RB 100 (bySum (ls.take k)) := by
  have h1 : (ls.take k).length ≤ 4 := by rw [List.length_take]; have := h.1.2; omega
  have h2 : ∀ s ∈ ls.take k, SrcOk s := fun s hs => h.2 s (List.mem_of_mem_take hs)
  refine ⟨rb_mono ?_ (rb_add (rb_neg (rb_int (n := load) (by omega))) (voSum_rb h2 fun s hs => hf s (List.mem_of_mem_take hs))), rb_mono ?_ (bySum_rb h2)⟩
  · omega
  · omega

/-- A row of ratios in memory. -/
structure RowR where
  r : Rat
  A : Option Addr
  c : Nat
  A2 : Option Addr
  c2 : Nat
instance : Inhabited RowR := ⟨⟨0, none, 0, none, 0⟩⟩
def rowU (x : RowR) : List Value := [.int .i64 (signD x.r.num), .slice x.A (dl x.r.num) x.c, .int .i64 (signD (x.r.den : Int)), .slice x.A2 (dl (x.r.den : Int)) x.c2]
theorem row_len (x : RowR) : (rowU x).length = 4 := rfl
theorem row_one (x : RowR) : ∀ u ∈ rowU x, u.oneCell' = true := by simp [rowU, Value.oneCell']
def RowsAt (w : World) (xs : List RowR) : Prop := ∀ x ∈ xs, RatAt w x.A x.c x.A2 x.c2 x.r
theorem RowsAt.past {w w' : World} {xs : List RowR} (h : RowsAt w xs) (hb : Below w.heap.size w w') : RowsAt w' xs := fun x hx => (h x hx).past hb
theorem RowsAt.app {w : World} {xs : List RowR} {x : RowR} (h : RowsAt w xs) (g : RatAt w x.A x.c x.A2 x.c2 x.r) : RowsAt w (xs ++ [x]) := fun y hy => by
  rcases List.mem_append.1 hy with hy | hy
  · exact h y hy
  · obtain rfl : y = x := by simpa using hy
    exact g
end Go.Proofs.YtpdkbhjcpddnpaaGreatDoor
end

section
namespace Go.Proofs.YtpdkbhjcpddnpaaGreatDoor
open Go.RowKit
variable {P : Program}

theorem store_one {a : Act} {w : World} {K : Act → World → Prop} {Q : Exit → Act → World → Prop} {p : Oper} {T : TypeId} {x y : Operand} {b o : Nat} {t : TypeId} {cs cs' vs : Array Value}
    (hp : p.op = .store T x y) (hB : Blk w b t cs) (hx : a.eval x = .pointer (some ⟨b, o, none⟩)) (hy : (a.eval y).cells = vs) (hc : cs' = (cs.toList.take o ++ vs.toList ++ cs.toList.drop (o + vs.size)).toArray) (hn : o + vs.size ≤ cs.size) (hi : (P.info? T).map (·.size) = some vs.size) (h1 : vs.all (·.oneCell') = true)
    (h : ∀ W, Blk W b t cs' → Put w W b → K (a.put p.dst undef) W) : p.wp P a w K Q := by
  unfold Oper.wp execOp
  have ht : w.there b o vs.size := there_sub hB hn
  simp only [hp, hx, Instr.storeAt, Instr.sureAddr, Sem.run_bind, Sem.run_pure, Result.andThen_ok, run_storeVar_sub w b o T (a.eval y) vs hy ht hi h1]
  obtain ⟨hq, hb⟩ := put_sub vs.toList o w cs hB (by simpa using hn)
  exact h _ (by rw [hc]; simpa using hb) hq

end Go.Proofs.YtpdkbhjcpddnpaaGreatDoor
end

section
namespace Go.Proofs.YtpdkbhjcpddnpaaGreatDoor
open Go.RowKit

section
variable {W W' : World} {base e size n : Nat} {v : Value} {us : List Value}
theorem blk_grownR {k : Nat} {t : TypeId} {cs : Array Value} (h : Blk W k t cs) (ho : W.ownsRow base e size v n us) (hne : e ≠ t) (hg : W.grownBy W' v.ownBlock) : Blk W' k t cs := by
  refine h.grown hg fun he => ?_
  rcases ho.2 with ⟨h1, _⟩ | ⟨g, cap, cur, h1, _, hh, _⟩
  · rw [h1] at he; cases he
  · rw [h1] at he
    have : k = g := by simpa [Value.ownBlock] using he
    subst this
    rw [show W.heap[k]? = _ from h] at hh
    injection hh with hh
    injection hh with _ ht
    exact hne ht.symm
theorem DigAt.grown {A : Option Addr} {xs : List Int} (h : DigAt W A xs) (ho : W.ownsRow base e size v n us) (hne : e ≠ 3) (hg : W.grownBy W' v.ownBlock) : DigAt W' A xs := by
  rcases h with h | ⟨b, off, cs, hA, hk, hc⟩
  · exact .inl h
  · exact .inr ⟨b, off, cs, hA, blk_grownR hk ho hne hg, hc⟩
theorem WideAt.grown {A : Option Addr} {c : Nat} {x : Int} (h : WideAt W A c x) (ho : W.ownsRow base e size v n us) (hne : e ≠ 3) (hg : W.grownBy W' v.ownBlock) : WideAt W' A c x := ⟨h.1.grown ho hne hg, h.2⟩
theorem RatAt.grown {A B : Option Addr} {c d : Nat} {r : Rat} (h : RatAt W A c B d r) (ho : W.ownsRow base e size v n us) (hne : e ≠ 3) (hg : W.grownBy W' v.ownBlock) : RatAt W' A c B d r := ⟨h.1.grown ho hne hg, h.2.grown ho hne hg⟩
theorem RowsAt.grown {xs : List RowR} (h : RowsAt W xs) (ho : W.ownsRow base e size v n us) (hne : e ≠ 3) (hg : W.grownBy W' v.ownBlock) : RowsAt W' xs := fun x hx => (h x hx).grown ho hne hg
end
theorem ownsRow_pastR {w w' : World} {base : Nat} {e : TypeId} {size n : Nat} {v : Value} {xs : List Value} (hb : Below w.heap.size w w') (h : w.ownsRow base e size v n xs) : w'.ownsRow base e size v n xs :=
  h.kept (show w.grownBy w' none from ⟨hb.os, hb.tape, hb.output, hb.size, fun i hi _ => hb.block i hi⟩) (by cases v.ownBlock <;> simp)
theorem ratioRow_info : (Tryz.prog.info? 55).map (fun i => (i.zero, i.size, i.bytes)) = some (some (.agg #[.int .i64 0, .slice none 0 0, .int .i64 0, .slice none 0 0]), 4, 64) := by kernel_rfl
theorem range_snoc (rk : Nat → Rat) (k : Nat) : (List.range (k + 1)).map rk = (List.range k).map rk ++ [rk k] := by rw [List.range_succ, List.map_append]; rfl

end Go.Proofs.YtpdkbhjcpddnpaaGreatDoor
end
