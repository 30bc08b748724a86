/- Contract of group.isPermutation. -/
import Derived.Test.YtnhcamokcggnkaaDoorHCPerm
import Derived.Test.YtnhcamokcggnkaaDoorARangeB
namespace Go.Proofs.YtnhcamokcggnkaaDoor
open Go.RowKit Go.Shelf
attribute [local go_sem] Oper.semAt_some
attribute [local go_sem ↓ high] th3_eql

theorem own_blk {β : Type} (B g : Nat) (t : TypeId) (cs : Array Value) : OwnFrom B (fun (_ : β) W => Blk W g t cs) := fun _ W W' row hs hg hr =>
  hs.grown hg (fun e => by
    obtain ⟨_, o, ho, hc⟩ := hr g e.symm
    rw [show W.heap[g]? = _ from hs] at ho
    cases ho
    cases hc)
theorem Blk.putObj {w : World} {g D : Nat} {t : TypeId} {cs : Array Value} (h : Blk w g t cs) (hne : g ≠ D) {o : Obj} : Blk (w.putObj D o) g t cs := (World.putObj_heap_other hne).trans h
theorem below_put {w W : World} {D : Nat} (h : Below w.heap.size w W) (hD : w.heap.size ≤ D) {o : Obj} : Below w.heap.size w (W.putObj D o) :=
  h.trans ⟨rfl, rfl, rfl, by simp, fun k hk => World.putObj_heap_other (by omega)⟩

theorem eq3_iff {x1 x2 x3 y1 y2 y3 : Int} : eq3 x1 x2 x3 y1 y2 y3 = true ↔ (⟨x1, x2, x3⟩ : V3) = ⟨y1, y2, y3⟩ := by
  simp [eq3, and_assoc]

set_option maxRecDepth 100000 in
set_option maxHeartbeats 2000000 in
theorem isPermutation_any (a b c : Int) (w : World) :
    Calls Tryd.prog 76 #[.agg #[.int .i64 a, .int .i64 b, .int .i64 c]] w fun e w' => e = .returned (.bool (isPerm ⟨a, b, c⟩)) ∧ Below w.heap.size w w' := by
  refine (callsIn_wide (n := 1)).1 ?_
  refine callsIn_of_wp_marks Tryd.func76 rfl trivial ?_ rfl
  simp only [Tryd.ntmps76, List.size_toArray, List.length_cons, List.length_nil, Nat.reduceAdd, Nat.reduceSub, Array.replicate_succ, Array.replicate_zero, List.push_toArray, List.append_toArray, List.nil_append, List.cons_append]
  gi_wp2
  have r0 : Blk ((w.alloc (.cells #[.int .i64 a, .int .i64 b, .int .i64 c] 36)).alloc (.cells #[.bool false] 4)) w.heap.size 36 #[.int .i64 a, .int .i64 b, .int .i64 c] := (Blk.newAt rfl).alloc
  have r1 : Blk ((w.alloc (.cells #[.int .i64 a, .int .i64 b, .int .i64 c] 36)).alloc (.cells #[.bool false] 4)) (w.heap.size + 1) 4 #[.bool false] := Blk.newAt (by simp)
  have hb : Below w.heap.size w ((w.alloc (.cells #[.int .i64 a, .int .i64 b, .int .i64 c] 36)).alloc (.cells #[.bool false] 4)) := pa (pa pr)
  generalize ((w.alloc (.cells #[.int .i64 a, .int .i64 b, .int .i64 c] 36)).alloc (.cells #[.bool false] 4)) = W0 at *
  have hsz : w.heap.size + 1 < W0.heap.size := r1.lt
  refine rangeFunc_lawA (Nat.le_refl 1) (gf := 98) (fb := #[]) (lb := #[]) rfl (enters_of Tryd.func98 (by kernel_rfl) rfl)
    (perm_seq 0 W0) (Below.refl _ _) (fun _ _ => trivial) (fun _ _ _ _ _ _ _ _ _ => trivial) (fun _ _ _ _ _ _ _ h => h) (fun x => rfl)
    (fun pre W => (∀ x ∈ pre, x ≠ ⟨a, b, c⟩) ∧ Blk W w.heap.size 36 #[.int .i64 a, .int .i64 b, .int .i64 c] ∧ Blk W (w.heap.size + 1) 4 #[.bool false] ∧ Below w.heap.size w W)
    (fun c' pre W => c' = .ret ∧ (⟨a, b, c⟩ : V3) ∈ pre ∧ Blk W (w.heap.size + 1) 4 #[.bool true] ∧ Below w.heap.size w W)
    (fun s A B row hs hg hr => ⟨hs.1, own_blk _ _ _ _ s A B row hs.2.1 hg hr, own_blk _ _ _ _ s A B row hs.2.2.1 hg hr, ownFrom_below (Nat.le_refl _) hb.size s A B row hs.2.2.2 hg hr⟩)
    (fun c' s A B row hs hg hr => ⟨hs.1, hs.2.1, own_blk _ _ _ _ s A B row hs.2.2.1 hg hr, ownFrom_below (Nat.le_refl _) hb.size s A B row hs.2.2.2 hg hr⟩)
    ⟨(fun _ h => by cases h), r0, r1, hb⟩
    (fun x W0 => { tmps := #[.agg #[.int .i64 a, .int .i64 b, .int .i64 c], .pointer (some ⟨w.heap.size, 0, none⟩), .pointer (some ⟨w.heap.size + 1, 0, none⟩), .pointer (some ⟨W0.heap.size, 0, none⟩), .agg #[.int .i64 x.a, .int .i64 x.b, .int .i64 x.c], undef, undef, undef], defers := [] })
    (fun x => .cells #[.int .i64 x.a, .int .i64 x.b, .int .i64 x.c] 36) (fun _ _ _ => trivial) (fun _ _ _ h => h) ?assign ?body ?done ?stop
  case assign =>
    intro l x W K hK
    unfold permEnc
    gi_wp2
    exact hK
  case body =>
    rintro l pre x Wb V W hWb hV hVs hVo ⟨hp, q0, q1, hq⟩ _ hlt
    have q2 : Blk W V.heap.size 36 #[.int .i64 x.a, .int .i64 x.b, .int .i64 x.c] := hVo
    have a0 := q0.cellAt 0 rfl
    have a1 := q0.cellAt 1 rfl
    have a2 := q0.cellAt 2 rfl
    have al := q0.lt
    have b0 := q2.cellAt 0 rfl
    have b1 := q2.cellAt 1 rfl
    have b2 := q2.cellAt 2 rfl
    have bl := q2.lt
    have c0 := q1.cellAt 0 rfl
    have f0 := q1.frozen 0
    have cl := q1.lt
    have HP := Lib.hid hp
    clear hp
    cases he : eq3 a b c x.a x.b x.c
    · have hne : x ≠ ⟨a, b, c⟩ := fun h => by
        subst h
        have := eq3_iff.2 (rfl : (⟨a, b, c⟩ : V3) = ⟨a, b, c⟩)
        simp only at he
        rw [this] at he; cases he
      gi_wp2
      refine ⟨KeepsOthers.refl _ |>.from _, trivial, ?_, q0, q1, hq⟩
      intro y hy
      rcases List.mem_append.1 hy with h | h
      · exact HP.out y h
      · rw [List.mem_singleton.1 h]; exact hne
    · have hx : (⟨a, b, c⟩ : V3) = x := eq3_iff.1 he
      gi_wp2
      refine ⟨(KeepsOthers.setCell _ _ _).from _, rfl, List.mem_append.2 (.inr (by rw [hx]; exact List.mem_singleton.2 rfl)), by simpa using q1.set_ 0 (.bool true), ps hq (by dsimp only; omega)⟩
  case done =>
    rintro D xs W hD rfl ⟨hp, q0, q1, hq⟩ hK
    have c0 := q1.cellAt 0 rfl
    have f0 := q1.frozen 0
    have cl := q1.lt
    have hn : isPerm ⟨a, b, c⟩ = false := by
      cases h : isPerm ⟨a, b, c⟩
      · rfl
      · exact absurd rfl (hp _ (perm_mem h))
    have HN := Lib.hid hn
    clear hn hp
    gi_wp2
    refine ⟨by simp, .inl ⟨_, _, rfl, run_takeDeferred ((KeepsOthers.setCell W ⟨w.heap.size + 1, 0, none⟩ (.bool false)).same D _ hK rfl), ?_⟩⟩
    have hD2 : w.heap.size + 1 < D := by omega
    have p0 : Blk ((W.setCell ⟨w.heap.size + 1, 0, none⟩ (.bool false)).putObj D (.deferred none)) (w.heap.size + 1) 4 #[.bool false] := Blk.putObj (by simpa using q1.set_ 0 (.bool false)) (by omega)
    have e0 := p0.cellAt 0 rfl
    refine ⟨.bool false, by simp [results, Tryd.results76, go_sem, e0], ?_⟩
    rw [HN.out]
    exact ⟨rfl, below_put (ps hq (by dsimp only; omega)) (by omega)⟩
  case stop =>
    rintro D c' pre W hD hSp ⟨rfl, hm, q1, hq⟩ hK
    have c0 := q1.cellAt 0 rfl
    have cl := q1.lt
    have hn : isPerm ⟨a, b, c⟩ = true := by
      obtain ⟨_, r, hr⟩ := hSp
      have : (⟨a, b, c⟩ : V3) ∈ permL := hr ▸ List.mem_append.2 (.inl hm)
      simpa [isPerm] using this
    have HN := Lib.hid hn
    clear hn hm hSp
    gi_wp2
    refine ⟨by simp, .inl ⟨_, _, rfl, run_takeDeferred hK, ?_⟩⟩
    have hD2 : w.heap.size + 1 < D := by omega
    have p0 : Blk (W.putObj D (.deferred none)) (w.heap.size + 1) 4 #[.bool true] := q1.putObj (by omega)
    have e0 := p0.cellAt 0 rfl
    refine ⟨.bool true, by simp [results, Tryd.results76, go_sem, e0], ?_⟩
    rw [HN.out]
    exact ⟨rfl, below_put hq (by omega)⟩

end Go.Proofs.YtnhcamokcggnkaaDoor
