/- Contract: whether a choice meets a specification (package design). Printed by a program (gen_d2meet.py). -/
import Derived.Test.YtnfbdkdjoekifaaGreatDoorOc1
import Derived.Test.YtnfbdkdjoekifaaGreatDoorOc5

section
namespace Go.Proofs.YtnfbdkdjoekifaaGreatDoor
open Go.RowKit Go.Shelf
attribute [local go_sem] Oper.semAt_some undef

/-- What the rounds so far say. -/
def MeetSt (pre : List RowM) (a : Int) : Prop := ∀ r, meetsF (pre.map (·.2) ++ r) 2 = meetsF r a
theorem MeetSt.snoc {pre : List RowM} {a : Int} {x : RowM} (h : MeetSt pre a) (hx : ¬ x.2.2 < 0) : MeetSt (pre ++ [x]) (if x.2.1 < 0 then 1 else a) := fun r => by
  have := h (x.2 :: r)
  rw [List.map_append, List.append_assoc]
  show meetsF (pre.map (·.2) ++ (x.2 :: r)) 2 = _
  rw [this, meetsF, if_neg hx]
theorem MeetSt.stop {pre : List RowM} {a : Int} {x : RowM} (h : MeetSt pre a) (hx : x.2.2 < 0) (r : List (Int × Int)) : meetsF ((pre ++ [x]).map (·.2) ++ r) 2 = 0 := by
  have := h (x.2 :: r)
  rw [List.map_append, List.append_assoc]
  show meetsF (pre.map (·.2) ++ (x.2 :: r)) 2 = _
  rw [this, meetsF, if_pos hx]
theorem margL_map (rs : List DReq) (v : Int → Int × Int) : (margL rs v).map (·.2) = rs.map fun r => marginV r v := by
  unfold margL
  rw [List.map_map]
  refine List.ext_getElem (by simp) fun i h1 h2 => ?_
  have h3 : i < rs.length := by simpa using h2
  simp [List.getD, h3]

set_option maxRecDepth 100000 in
set_option maxHeartbeats 8000000 in
theorem meets_in (m : Nat) (B : Nat) (rs : List DReq) (RA : Option Addr) (rn rc : Nat) (sl : List (List DPart)) (SA : Option Addr) (n c : Nat) (idle price : Int) (ch : List Int) (CA : Option Addr) (cc : Nat) (w : World)
    (hrr : ReqsIn B w RA rs) (hr : SlotsIn B w SA sl) (hc : IntsIn B w CA ch) (hB : B ≤ w.heap.size) (hrn : rs.length = rn) (hrm : rn ≤ 1000) (hn : sl.length = n) (hs : SlotsOk sl) (hch : ChoiceOk sl ch) (hrs : ∀ r ∈ rs, ReqOk r) (h1 : 1 ≤ m) :
    CallsIn Fence.wide m Tryz.prog 36 #[.agg #[.slice SA n c, .int .i64 idle, .int .i64 price, .slice RA rn rc], .slice CA n cc] w fun e w' => e = .returned (.int .i64 (meetsV rs sl ch)) ∧ Below w.heap.size w w' := by
  have HM := Lib.hid (show meetsV rs sl ch = meetsF ((margL rs (valsF sl ch n)).map (·.2)) 2 by
    unfold meetsV marginsV
    rw [margL_map, hch.1, hn])
  have HSeq := Lib.hid (fun b1 b2 w0 (hW : Below w.heap.size w w0) h1 h2 c1 c2 => margins_seq (m - 1) B rs RA rn rc sl SA n c idle price ch CA n cc b1 b2 w0 (hrr.below (hW.mono hB)) (hr.below (hW.mono hB)) (hc.below (hW.mono hB)) (Nat.le_trans hB hW.size) hrn hrm hn rfl hs hch hrs h1 h2 c1 c2)
  clear hrr hr hc hrn hn hs hch hrs
  generalize valsF sl ch n = v at *
  generalize meetsV rs sl ch = R at *
  refine callsIn_of_wp_marks Tryz.func36 rfl trivial ?_ rfl
  simp only [undef, Tryz.ntmps36, List.size_toArray, List.length_cons, List.length_nil, Nat.reduceAdd, Nat.reduceSub, Array.replicate_succ, Array.replicate_zero, List.push_toArray, List.append_toArray, List.nil_append, List.cons_append]
  gi_wp2_with (refine ⟨trivial, ?_⟩; gi_at_call 43; refine (callsIn_wide.2 (margins_any #[] _ _ _ _ _ _ _ _ _ _ _ _)).mono ?_; rintro e w' ⟨rfl, rfl⟩)
  have hb : Below w.heap.size w (((((w.alloc (.cells #[.slice SA n c, .int .i64 idle, .int .i64 price, .slice RA rn rc] 82)).alloc (.cells #[.int .i64 0] 3)).alloc (.cells #[.int .i64 2] 3)).alloc (.cells #[.slice SA n c, .int .i64 idle, .int .i64 price, .slice RA rn rc] 82)).alloc (.cells #[.slice CA n cc] 32)) := pa (pa (pa (pa (pa pr))))
  have r4 : Blk (((((w.alloc (.cells #[.slice SA n c, .int .i64 idle, .int .i64 price, .slice RA rn rc] 82)).alloc (.cells #[.int .i64 0] 3)).alloc (.cells #[.int .i64 2] 3)).alloc (.cells #[.slice SA n c, .int .i64 idle, .int .i64 price, .slice RA rn rc] 82)).alloc (.cells #[.slice CA n cc] 32)) (w.heap.size + 1) 3 #[.int .i64 0] := (((Blk.newAt (by simp)).alloc).alloc).alloc
  have r5 : Blk (((((w.alloc (.cells #[.slice SA n c, .int .i64 idle, .int .i64 price, .slice RA rn rc] 82)).alloc (.cells #[.int .i64 0] 3)).alloc (.cells #[.int .i64 2] 3)).alloc (.cells #[.slice SA n c, .int .i64 idle, .int .i64 price, .slice RA rn rc] 82)).alloc (.cells #[.slice CA n cc] 32)) (w.heap.size + 1 + 1) 3 #[.int .i64 2] := ((Blk.newAt (by simp)).alloc).alloc
  have c1 : Blk (((((w.alloc (.cells #[.slice SA n c, .int .i64 idle, .int .i64 price, .slice RA rn rc] 82)).alloc (.cells #[.int .i64 0] 3)).alloc (.cells #[.int .i64 2] 3)).alloc (.cells #[.slice SA n c, .int .i64 idle, .int .i64 price, .slice RA rn rc] 82)).alloc (.cells #[.slice CA n cc] 32)) (w.heap.size + 1 + 1 + 1) 82 #[.slice SA n c, .int .i64 idle, .int .i64 price, .slice RA rn rc] := (Blk.newAt (by simp)).alloc
  have c2 : Blk (((((w.alloc (.cells #[.slice SA n c, .int .i64 idle, .int .i64 price, .slice RA rn rc] 82)).alloc (.cells #[.int .i64 0] 3)).alloc (.cells #[.int .i64 2] 3)).alloc (.cells #[.slice SA n c, .int .i64 idle, .int .i64 price, .slice RA rn rc] 82)).alloc (.cells #[.slice CA n cc] 32)) (w.heap.size + 1 + 1 + 1 + 1) 32 #[.slice CA n cc] := Blk.newAt (by simp)
  generalize (((((w.alloc (.cells #[.slice SA n c, .int .i64 idle, .int .i64 price, .slice RA rn rc] 82)).alloc (.cells #[.int .i64 0] 3)).alloc (.cells #[.int .i64 2] 3)).alloc (.cells #[.slice SA n c, .int .i64 idle, .int .i64 price, .slice RA rn rc] 82)).alloc (.cells #[.slice CA n cc] 32)) = W0 at *
  have hn4 : w.heap.size < w.heap.size + 1 ∧ w.heap.size < w.heap.size + 1 + 1 ∧ w.heap.size + 1 ≠ w.heap.size + 1 + 1 := by omega
  generalize w.heap.size + 1 + 1 + 1 + 1 = wb at *
  generalize w.heap.size + 1 + 1 + 1 = wa at *
  generalize w.heap.size + 1 + 1 = b5 at *
  generalize w.heap.size + 1 = b4 at *
  have l4 := r4.lt
  have l5 := r5.lt
  have hBW := hb.size
  refine rangeFunc_lawA h1 (gf := 67) (fb := #[]) (lb := #[.pointer (some ⟨wa, 0, none⟩), .pointer (some ⟨wb, 0, none⟩)]) rfl (enters_of Tryz.func67 (by kernel_rfl) rfl)
    (HSeq.out wa wb W0 hb c1.lt c2.lt c1 c2) (Below.refl _ _)
    (fun h k => h.trans k) (fun W A l o o' hl hl2 ho hc => KeepM.put o' (fun k hk => by have : k < B := hk; omega) hl2)
    (fun x A l o o' ho hc hp => hp) (fun x => rfl)
    (fun pre W => ∃ a, MeetSt pre a ∧ Blk W b5 3 #[.int .i64 a] ∧ Blk W b4 3 #[.int .i64 0] ∧ Below w.heap.size w W)
    (fun c pre W => c = .ret ∧ (∀ r, meetsF (pre.map (·.2) ++ r) 2 = 0) ∧ Blk W b4 3 #[.int .i64 0] ∧ Below w.heap.size w W)
    (fun s A B row hs hg hr => by
      obtain ⟨a, h1, h2, h3, h4⟩ := hs
      exact ⟨a, h1, own_blk _ _ _ _ s A B row h2 hg hr, own_blk _ _ _ _ s A B row h3 hg hr, ownFrom_below (Nat.le_refl _) hb.size s A B row h4 hg hr⟩)
    (fun c s A B row hs hg hr => ⟨hs.1, hs.2.1, own_blk _ _ _ _ s A B row hs.2.2.1 hg hr, ownFrom_below (Nat.le_refl _) hb.size s A B row hs.2.2.2 hg hr⟩)
    ⟨2, fun r => rfl, r5, r4, hb⟩
    (fun x W1 => { tmps := #[.agg #[.slice SA n c, .int .i64 idle, .int .i64 price, .slice RA rn rc], .slice CA n cc, .pointer (some ⟨w.heap.size, 0, none⟩), .tuple #[], .pointer (some ⟨b4, 0, none⟩), .pointer (some ⟨b5, 0, none⟩), .tuple #[], .pointer (some ⟨W1.heap.size, 0, none⟩), .agg #[.slice SA n c, .int .i64 idle, .int .i64 price, .slice RA rn rc], .slice CA n cc, .func (.func 67) #[] #[.pointer (some ⟨wa, 0, none⟩), .pointer (some ⟨wb, 0, none⟩)], .int .i64 (x.1 : Int), .agg #[.int .i64 x.2.1, .int .i64 x.2.2], .tuple #[], .tuple #[], .tuple #[], .tuple #[], .tuple #[], .tuple #[], .tuple #[]], defers := [] }) (fun x => .cells #[.int .i64 x.2.1, .int .i64 x.2.2] 57)
    (fun W A o => KeepM.of_below (pa pr)) (fun _ _ _ h => h) ?assign ?body ?done ?stop
  case assign =>
    intro l x W K hK
    unfold mEnc
    gi_wp2
    exact hK
  case body =>
    rintro l pre ⟨i, lo, hi⟩ Wb W1 W hWb hW1 hW hbox ⟨a, hst, q5, q4, hq⟩ _ hlen
    dsimp only at hbox ⊢
    have X := Lib.hid (show Blk W W1.heap.size 57 #[.int .i64 lo, .int .i64 hi] from hbox)
    have m0 := X.out.cellAt 0 rfl
    have m1 := X.out.cellAt 1 rfl
    have ml := X.out.lt
    have d4 := q4.cellAt 0 rfl
    have f4 := q4.frozen 0
    have g4 := q4.lt
    have d5 := q5.cellAt 0 rfl
    have f5 := q5.frozen 0
    have g5 := q5.lt
    have HSt := Lib.hid hst
    have hBb : B < b4 ∨ B ≤ b4 := .inr (by omega)
    clear hbox hst hlen
    by_cases hx : hi < 0
    · gi_wp2
      exact ⟨(KeepsOthers.setCell _ _ _).from _, rfl, HSt.out.stop hx, by simpa using q4.set_ 0 (.int .i64 0), ps hq (by dsimp only; omega)⟩
    · by_cases hy : lo < 0
      · gi_wp2
        refine ⟨(KeepsOthers.setCell _ _ _).from _, KeepM.cell (fun k hk => by have : k < B := hk; dsimp only; omega) (by dsimp only; omega), 1, ?_, by simpa using q5.set_ 0 (.int .i64 1), q4.far (p := ⟨b5, 0, none⟩) (by dsimp only; exact hn4.2.2), ps hq (by dsimp only; omega)⟩
        have h := HSt.out.snoc (x := (i, lo, hi)) (show ¬ hi < 0 by omega)
        rwa [if_pos hy] at h
      · gi_wp2
        refine ⟨KeepsFrom.refl _ _, KeepM.of_below pr, a, ?_, q5, q4, hq⟩
        have h := HSt.out.snoc (x := (i, lo, hi)) (show ¬ hi < 0 by omega)
        rwa [if_neg (show ¬ lo < 0 by omega)] at h
  case done =>
    rintro D xs W hD rfl ⟨a, hst, q5, q4, hq⟩ hK
    have ha := hst []
    rw [List.append_nil, ← HM.out] at ha
    have HA := Lib.hid (show R = a from ha)
    have d4 := q4.cellAt 0 rfl
    have f4 := q4.frozen 0
    have g4 := q4.lt
    have d5 := q5.cellAt 0 rfl
    have g5 := q5.lt
    clear hst ha
    gi_wp2
    refine ⟨by simp, .inl ⟨_, _, rfl, run_takeDeferred ((KeepsOthers.setCell W ⟨b4, 0, none⟩ (.int .i64 a)).same D _ hK rfl), ?_⟩⟩
    have p4 : Blk ((W.setCell ⟨b4, 0, none⟩ (.int .i64 a)).putObj D (.deferred none)) b4 3 #[.int .i64 a] := Blk.putObj (by simpa using q4.set_ 0 (.int .i64 a)) (by omega)
    have e0 := p4.cellAt 0 rfl
    refine ⟨.int .i64 a, by simp [results, Tryz.results36, go_sem, e0], ?_⟩
    rw [HA.out]
    exact ⟨rfl, (ps hq (by dsimp only; omega)).trans ⟨rfl, rfl, rfl, by simp, fun k hk => World.putObj_heap_other (by omega)⟩⟩
  case stop =>
    rintro D c' pre W hD ⟨_, r, hr⟩ ⟨rfl, hst, q4, hq⟩ hK
    have ha := hst (r.map (·.2))
    rw [← List.map_append, hr, ← HM.out] at ha
    have HA := Lib.hid (show R = 0 from ha)
    have d4 := q4.cellAt 0 rfl
    clear hst ha hr
    gi_wp2
    refine ⟨by simp, .inl ⟨_, _, rfl, run_takeDeferred hK, ?_⟩⟩
    have p4 : Blk (W.putObj D (.deferred none)) b4 3 #[.int .i64 0] := q4.putObj (by omega)
    have e0 := p4.cellAt 0 rfl
    refine ⟨.int .i64 0, by simp [results, Tryz.results36, go_sem, e0], ?_⟩
    rw [HA.out]
    exact ⟨rfl, hq.trans ⟨rfl, rfl, rfl, by simp, fun k hk => World.putObj_heap_other (by omega)⟩⟩

theorem meets_any (B : Nat) (rs : List DReq) (RA : Option Addr) (rn rc : Nat) (sl : List (List DPart)) (SA : Option Addr) (n c : Nat) (idle price : Int) (ch : List Int) (CA : Option Addr) (cc : Nat) (w : World)
    (hrr : ReqsIn B w RA rs) (hr : SlotsIn B w SA sl) (hc : IntsIn B w CA ch) (hB : B ≤ w.heap.size) (hrn : rs.length = rn) (hrm : rn ≤ 1000) (hn : sl.length = n) (hs : SlotsOk sl) (hch : ChoiceOk sl ch) (hrs : ∀ r ∈ rs, ReqOk r) :
    Calls Tryz.prog 36 #[.agg #[.slice SA n c, .int .i64 idle, .int .i64 price, .slice RA rn rc], .slice CA n cc] w fun e w' => e = .returned (.int .i64 (meetsV rs sl ch)) ∧ Below w.heap.size w w' :=
  callsIn_wide.1 (meets_in 1 B rs RA rn rc sl SA n c idle price ch CA cc w hrr hr hc hB hrn hrm hn hs hch hrs (Nat.le_refl _))

end Go.Proofs.YtnfbdkdjoekifaaGreatDoor
end
