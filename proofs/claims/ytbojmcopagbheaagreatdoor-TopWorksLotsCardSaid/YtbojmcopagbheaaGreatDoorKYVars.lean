/- What the walks over strings read of the library's variables, out of the world's shape and the laid tables. -/
import Derived.Test.YtbojmcopagbheaaGreatDoorQS
import Derived.Shelf.Vars
import Derived.Lib.LaidTab
import Derived.Lib.LaidU8
namespace Go.Proofs.YtbojmcopagbheaaGreatDoor
open Go Go.RowKit

theorem err_cell {w : World} {fuel : Nat} {T : TypeId} {cs : List Value} {x : DataW Unit × List MemPlace} {ms} (hu : Tryz.prog.underlying T = some (.interface ms)) (h : DataW.trod (fun _ => ()) Tryz.prog w 0 (fun _ => true) false fuel T cs = some x) : ∃ ev, cs[0]? = some ev ∧ (ev = .nilIface ∨ ∃ te pe, ev = .iface te pe) := by
  rcases fuel with _ | f
  · simp [DataW.trod] at h
  · unfold DataW.trod at h
    rw [hu] at h
    rcases cs with _ | ⟨v, _ | ⟨v2, r⟩⟩
    · simp at h
    · cases v
      all_goals first
        | exact ⟨_, rfl, .inl rfl⟩
        | exact ⟨_, rfl, .inr ⟨_, _, rfl⟩⟩
        | (simp at h; done)
    · cases v <;> simp at h
theorem err_reads {w : World} {n : String} {d : DataW Unit} {g : Nat} {T : TypeId} {ms} (h : Lib.VarReads Tryz.prog w n d) (hg : Tryz.prog.globalNamed n = some g) (ht : (Tryz.prog.globals[g]?).map (·.type) = some T) (hu : Tryz.prog.underlying T = some (.interface ms)) :
    ∃ ev, w.cell? ⟨g, 0, none⟩ = some ev ∧ (ev = .nilIface ∨ ∃ te pe, ev = .iface te pe) := by
  obtain ⟨g', t, cs, fuel, p, h1, h2, h3, h4⟩ := h
  obtain rfl := Option.some.inj (hg.symm.trans h1)
  obtain rfl := Option.some.inj (ht.symm.trans h2)
  obtain ⟨ev, e1, e2⟩ := err_cell hu h4
  refine ⟨ev, ?_, e2⟩
  rw [World.var?_cell h1 h3 0, ← Array.getElem?_toList]
  exact e1
theorem tab_reads {w : World} {n : String} {k : IntKind} {zs : List Int} {g : Nat} {t e : TypeId} {m : Nat} (h : Lib.VarReads Tryz.prog w n (Lib.tabData k zs)) (hg : Tryz.prog.globalNamed n = some g) (hty : (Tryz.prog.globals[g]?).map (·.type) = some t) (ht : Tryz.prog.underlying t = some (.array m e)) (he : Tryz.prog.underlying e = some (.int k)) (hce : Tryz.prog.cellsOf e = 1) (hct : Tryz.prog.cellsOf t = m) : Lib.TabIs Tryz.prog w n k zs := by
  obtain ⟨g', t', cs, fuel, p, h1, h2, h3, h4⟩ := h
  obtain rfl := Option.some.inj (hg.symm.trans h1)
  obtain rfl := Option.some.inj (hty.symm.trans h2)
  unfold Lib.TabIs
  rw [h3, ← Lib.cells_of_tab ht he hce hct h4]

end Go.Proofs.YtbojmcopagbheaaGreatDoor
