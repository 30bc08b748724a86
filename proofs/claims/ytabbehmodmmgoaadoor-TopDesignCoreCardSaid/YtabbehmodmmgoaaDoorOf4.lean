/- Small laws: an operation under a guard in a region that draws its order; an array known cell by cell. No condition. -/
import Derived.Test.YtabbehmodmmgoaaDoorOb5

section
namespace Go.Proofs.YtabbehmodmmgoaaDoor
open Go.RowKit

section
variable {P : Program} {ops : Array Oper} {md : Region.Mode} {Q : Exit → Act → World → Prop} {S : World → Prop} {n : Nat}
/-- The only one that may come up comes up; its guard holds. -/
theorem wpAnyG_oneW {i : Nat} {o : Oper} {fuel : Nat} {listed : Array Bool} {a : Act} {w : World} (hr : Region.ready md ops listed = [i]) (ho : ops[i]? = some o) (hg : Region.wanted o (yielded ops a.tmps) = true)
    (h : ∀ K' : Act → World → Prop, Hid (∀ a w, (i < n → S w) → wpAnyG P md ops Q S n fuel (listed.setIfInBounds i true) a w → K' a w) → o.wp P a w K' Q) : wpAnyG P md ops Q S n (fuel + 1) listed a w := by
  refine ⟨fun h0 => (by rw [hr] at h0; cases h0), fun j hj => ?_⟩
  rw [hr] at hj
  obtain rfl : j = i := by simpa using hj
  refine wpOp_step ho fun K' hK => ?_
  rw [if_pos hg]
  exact h K' (Lib.hid fun a w h1 h2 => hK a w ⟨h1, h2⟩)
theorem inv_oneM {listed : Array Bool} {i : Nat} (inv : HeadInv md ops n listed) (hr : Region.ready md ops listed = [i]) (hi : i < n) : HeadInv md ops n (listed.setIfInBounds i true) := inv.set (by rw [hr]; exact List.mem_singleton_self i) hi
end

theorem arr_lit {cs : Array Value} {L : List Value} (hn : cs.size = L.length) (h : ∀ k, k < L.length → cs[k]? = L[k]?) : cs = L.toArray := by
  rcases cs with ⟨l⟩
  have : l = L := List.ext_getElem? fun k => by
    by_cases hk : k < L.length
    · have h1 := h k hk
      simpa using h1
    · rw [List.getElem?_eq_none (by simp at hn; omega), List.getElem?_eq_none (by omega)]
  rw [this]

end Go.Proofs.YtabbehmodmmgoaaDoor
end
