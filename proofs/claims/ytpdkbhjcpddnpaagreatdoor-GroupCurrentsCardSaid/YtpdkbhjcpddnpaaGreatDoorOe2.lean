/- The reference's currents of sources (ref01.Currents): the first loop: the parts of the voltages. -/
import Derived.Test.YtpdkbhjcpddnpaaGreatDoorOc9
import Derived.Test.YtpdkbhjcpddnpaaGreatDoorOf2
import Derived.Test.YtpdkbhjcpddnpaaGreatDoorOa3
import Derived.Deep.RegionHeld3
import Derived.Deep.DeepCutAuto

section
namespace Go.Proofs.YtpdkbhjcpddnpaaGreatDoor
open Go.RowKit
attribute [local go_sem ↓] Go.wp_at_zero Go.wp_at_succ

/-- Two rows of the call's own that lie apart. -/
structure Two (base : Nat) (W : World) (v1 : Value) (n1 : Nat) (l1 : List Int) (v2 : Value) (n2 : Nat) (l2 : List Int) : Prop where
  fst : W.ownsRow base 3 1 v1 n1 (l1.map (Value.int .i64))
  snd : W.ownsRow base 3 1 v2 n2 (l2.map (Value.int .i64))
  ne : v1.ownBlock = none ∨ v1.ownBlock ≠ v2.ownBlock
section
variable {base : Nat} {W W' : World} {v1 v2 : Value} {n1 n2 : Nat} {l1 l2 : List Int}
theorem Two.alloc (h : Two base W v1 n1 l1 v2 n2 l2) (o : Obj) : Two base (W.alloc o) v1 n1 l1 v2 n2 l2 := ⟨h.fst.alloc o, h.snd.alloc o, h.ne⟩
theorem Two.drew (h : Two base W v1 n1 l1 v2 n2 l2) : Two base W.drew v1 n1 l1 v2 n2 l2 := ⟨h.fst.drew, h.snd.drew, h.ne⟩
theorem Two.turn (h : Two base W v1 n1 l1 v2 n2 l2) : Two base W v2 n2 l2 v1 n1 l1 := ⟨h.snd, h.fst, by
  rcases h.ne with h | h
  · cases h2 : v2.ownBlock with
    | none => exact .inl rfl
    | some g => exact .inr (by rw [h]; simp)
  · exact .inr h.symm⟩
theorem Two.grow (h : Two base W v1 n1 l1 v2 n2 l2) {g cap m : Nat} {l : List Int} (ho : W'.ownsRow base 3 1 (.slice (some ⟨g, 0, none⟩) m cap) m (l.map (Value.int .i64))) (hg : W.grownBy W' v1.ownBlock) (hat : v1.ownBlock = some g ∨ g = W.heap.size) :
    Two base W' (.slice (some ⟨g, 0, none⟩) m cap) m l v2 n2 l2 := by
  have hn := h.turn.ne
  refine ⟨ho, h.snd.kept hg hn, .inr ?_⟩
  show some g ≠ v2.ownBlock
  rcases hat with h1 | h1
  · rw [← h1]
    rcases hn with h2 | h2
    · rw [h2, h1]; simp
    · exact h2.symm
  · intro e
    have := (h.snd.lt g e.symm).2
    omega
end

theorem map_snoc (f : Src → Int) {ls : List Src} {k : Nat} (hk : k < ls.length) : (ls.take k).map f ++ [f (ls.getD k default)] = (ls.take (k + 1)).map f := by
  rw [src_take hk, List.map_append]; rfl

/-- All parts of all currents are small. -/
def CurSmall (ls : List Src) (p q : Int) : Prop := ∀ j, j < ls.length → fsmallB (curR ls Src.p p (ls.getD j default)).num ((curR ls Src.p p (ls.getD j default)).den : Int) = true ∧ fsmallB (curR ls Src.q q (ls.getD j default)).num ((curR ls Src.q q (ls.getD j default)).den : Int) = true
def CurRetR (ls : List Src) (p q : Int) (w : World) (e : Ending) (w' : World) : Prop :=
  Below w.heap.size w w' ∧ ((CurSmall ls p q ∧ ∃ A c, e = .returned (.tuple #[.slice A ls.length c, .bool true]) ∧ CusIn w'.heap.size w' A (curCs ls p q)) ∨ (¬ CurSmall ls p q ∧ e = .returned (.tuple #[.slice none 0 0, .bool false])))
theorem cu_snoc (p q : Int) {ls : List Src} {k : Nat} (hk : k < ls.length) : ((curCs ls p q).take (k + 1)).flatMap cuC = ((curCs ls p q).take k).flatMap cuC ++ [.int .i64 (curR ls Src.p p (ls.getD k default)).num, .int .i64 ((curR ls Src.p p (ls.getD k default)).den : Int), .int .i64 (curR ls Src.q q (ls.getD k default)).num, .int .i64 ((curR ls Src.q q (ls.getD k default)).den : Int)] := by
  unfold curCs
  rw [← List.map_take, ← List.map_take, src_take hk, List.map_append, List.flatMap_append]
  rfl

set_option maxHeartbeats 16000000 in
set_option maxRecDepth 100000 in
theorem refCurrents_any (ls : List Src) (A : Option Addr) (c : Nat) (p q : Int) (w : World) (hr : SrcsIn w.heap.size w A ls) (hok : SrcsOk ls) (hlp : -1000000 ≤ p ∧ p ≤ 1000000) (hlq : -1000000 ≤ q ∧ q ≤ 1000000) :
    Calls Tryz.prog 14 #[.slice A ls.length c, .agg #[.int .i64 p, .int .i64 q]] w (CurRetR ls p q w) := by
  obtain ⟨i0, hi0, hz0, hz1, hz2⟩ := info_parts int_info
  have HN := Lib.hid hok.1.2
  have HR := Lib.hid hr
  have HOk := Lib.hid hok
  have HLp := Lib.hid hlp
  have HLq := Lib.hid hlq
  clear hr hlp hlq
  have n9 : (ls.length : Int) ≤ 4 := by have := hok.1.2; omega
  clear hok
  go_enter Tryz.func14, Tryz.ntmps14
  go_wp2
  have HBx := Lib.hid (show Blk (w.alloc (.cells #[.int .i64 p, .int .i64 q] 24)) w.heap.size 24 #[.int .i64 p, .int .i64 q] from Blk.newAt rfl)
  have HV := Lib.hid (show Below w.heap.size w (w.alloc (.cells #[.int .i64 p, .int .i64 q] 24)) from pa pr)
  generalize w.alloc (.cells #[.int .i64 p, .int .i64 q] 24) = v at *
  go_loopw [6, 7, 8] (fun ov tv iv wr => ∃ (k : Nat) (A16 A17 : Option Addr) (c16 c17 : Nat), iv = .int .i64 (k : Int) ∧ ov = .slice A16 k c16 ∧ tv = .slice A17 k c17 ∧ k ≤ ls.length ∧ Two v.heap.size wr (.slice A16 k c16) k ((ls.take k).map Src.p) (.slice A17 k c17) k ((ls.take k).map Src.q) ∧ Below v.heap.size v wr) (fun _ _ iv _ => ls.length - (intOf iv).toNat)
  case atStart => exact ⟨0, none, none, 0, 0, rfl, rfl, rfl, Nat.zero_le _, ⟨World.ownsRow_nil _ _ _ _, World.ownsRow_nil _ _ _ _, .inl rfl⟩, pr⟩
  case round =>
    obtain ⟨k, A16, A17, c16, c17, rfl, rfl, rfl, hk, hT, hq⟩ := hrel
    have HT := Lib.hid hT
    have HQ := Lib.hid hq
    have i0_ := src_cast k
    by_cases hlt : k < ls.length
    · as_aux_lemma =>
      have i1 := src_lt hlt
      have HI := Lib.hid hlt
      have hsz := hq.size
      have HW := Lib.hid (HV.out.trans (hq.mono HV.out.size))
      obtain ⟨b, off, rfl, hbB, hct⟩ := (HR.out.below HW.out).at_ hlt
      obtain ⟨hcell, hcell2, _, _⟩ := hct k hlt
      have hbv : b < v.heap.size := Nat.lt_of_lt_of_le hbB HV.out.size
      have hbw : b < wr.heap.size := by omega
      have n16 : (Value.slice A16 k c16).ownBlock ≠ some b := fun e => by have := (hT.fst.lt b e).1; omega
      have n17 : (Value.slice A17 k c17).ownBlock ≠ some b := fun e => by have := (hT.snd.lt b e).1; omega
      have m16 : ∀ g, (Value.slice A16 k c16).ownBlock = some g → g < wr.heap.size := fun g e => (hT.fst.lt g e).2
      have hmx : k + 1 ≤ maxLen := by simp only [maxLen]; have := HN.out; omega
      have hby : (k + 1) * 8 ≤ 140737488355328 := by have := HN.out; omega
      have HM1 := Lib.hid (map_snoc Src.p hlt)
      have HM2 := Lib.hid (map_snoc Src.q hlt)
      clear hct hT hq
      generalize (ls.take k).map Src.p = l16 at *
      generalize (ls.take k).map Src.q = l17 at *
      generalize (ls.getD k default).p = y1 at *
      generalize (ls.getD k default).q = z2 at *
      generalize hnk : k * 4 = nk at *
      go_wp2
      go_region_held3 (fun w' => w'.cell? ⟨b, off + nk, none⟩ = some (.int .i64 y1) ∧ w'.cell? ⟨b, off + nk + 1, none⟩ = some (.int .i64 z2))
        (first
          | go_keep
          | (go_split_ands; refine ⟨?_, ?_⟩ <;> (rw [hgrow.cell_far _ (by simp; omega) (Ne.symm n16)]; assumption))
          | (go_split_ands; refine ⟨?_, ?_⟩ <;> (rw [hgrow2.cell_far _ (by simp; omega) (Ne.symm n17)]; assumption)))
        (first
          | ((refine step_append_lies _ (by rfl) _ _ _ (by rfl) v.heap.size 3 i0 _ 1 8 Tryz.underlying51 hi0 hz0 hz1 hz2 rfl (by omega) (.slice A16 k c16) k (l16.map (Value.int .i64)) (by rfl) (HT.out.alloc _).drew.fst ⟨wr.heap.size, 0, none⟩ 1 1 [.int .i64 y1] (by rfl) (by rfl) (World.news_of_block (cs := #[.int .i64 y1]) (t := 3) (fr := (0, 0)) (Blk.new wr _ _)) (by simp [Value.oneCell']) (by omega) hmx hby (by first | omega | (simp; omega)) _ rfl ?_; intro g1 cap1 w1 hown1 hgrow hat hlt1; have hb1 := pg (pd (pa HQ.out)) (HT.out.alloc _).drew.fst (Nat.le_refl _) hgrow; have T1 := (HT.out.alloc _).drew.grow (l := l16 ++ [y1]) (by simpa using hown1) hgrow hat; have hs1 := hb1.size))
          | ((refine step_append_lies _ (by rfl) _ _ _ (by rfl) v.heap.size 3 i0 _ 1 8 Tryz.underlying51 hi0 hz0 hz1 hz2 rfl (by omega) (.slice A16 k c16) k (l16.map (Value.int .i64)) (by rfl) ((HT.out.alloc _).alloc _).drew.fst ⟨wr.heap.size, 0, none⟩ 1 1 [.int .i64 y1] (by rfl) (by rfl) (World.news_of_block (cs := #[.int .i64 y1]) (t := 3) (fr := (0, 0)) (Blk.new wr _ _).alloc) (by simp [Value.oneCell']) (by omega) hmx hby (by first | omega | (simp; omega)) _ rfl ?_; intro g1 cap1 w1 hown1 hgrow hat hlt1; have hb1 := pg (pd (pa (pa HQ.out))) ((HT.out.alloc _).alloc _).drew.fst (Nat.le_refl _) hgrow; have T1 := ((HT.out.alloc _).alloc _).drew.grow (l := l16 ++ [y1]) (by simpa using hown1) hgrow hat; (have hs1 := hb1.size; have q5 : Blk w1 (wr.heap.size + 1) 3 #[.int .i64 z2] := Blk.grown (show Blk ((wr.alloc (.cells #[.int .i64 y1] 3)).alloc (.cells #[.int .i64 z2] 3)) (wr.heap.size + 1) 3 #[.int .i64 z2] from Blk.newAt (by simp)).drew hgrow (fun e => by have := m16 _ e.symm; omega))))
          | ((refine step_append_lies _ (by rfl) _ _ _ (by rfl) v.heap.size 3 i0 _ 1 8 Tryz.underlying51 hi0 hz0 hz1 hz2 rfl (by omega) (.slice A16 k c16) k (l16.map (Value.int .i64)) (by rfl) ((HT.out.alloc _).alloc _).drew.fst ⟨wr.heap.size + 1, 0, none⟩ 1 1 [.int .i64 y1] (by rfl) (by rfl) (World.news_of_block (cs := #[.int .i64 y1]) (t := 3) (fr := (0, 0)) (show Blk ((wr.alloc (.cells #[.int .i64 z2] 3)).alloc (.cells #[.int .i64 y1] 3)) (wr.heap.size + 1) 3 #[.int .i64 y1] from Blk.newAt (by simp))) (by simp [Value.oneCell']) (by omega) hmx hby (by first | omega | (simp; omega)) _ rfl ?_; intro g1 cap1 w1 hown1 hgrow hat hlt1; have hb1 := pg (pd (pa (pa HQ.out))) ((HT.out.alloc _).alloc _).drew.fst (Nat.le_refl _) hgrow; have T1 := ((HT.out.alloc _).alloc _).drew.grow (l := l16 ++ [y1]) (by simpa using hown1) hgrow hat; (have hs1 := hb1.size; have q5 : Blk w1 wr.heap.size 3 #[.int .i64 z2] := Blk.grown (Blk.new wr _ _).alloc.drew hgrow (fun e => by have := m16 _ e.symm; omega))))
          | ((refine step_append_lies _ (by rfl) _ _ _ (by rfl) v.heap.size 3 i0 _ 1 8 Tryz.underlying51 hi0 hz0 hz1 hz2 rfl (by omega) (.slice A17 k c17) k (l17.map (Value.int .i64)) (by rfl) (T1.alloc _).snd ⟨w1.heap.size, 0, none⟩ 1 1 [.int .i64 z2] (by rfl) (by rfl) (World.news_of_block (cs := #[.int .i64 z2]) (t := 3) (fr := (0, 0)) (Blk.new w1 _ _)) (by simp [Value.oneCell']) (by omega) hmx hby (by first | omega | (simp; omega)) _ rfl ?_; intro g2 cap2 w2 hown2 hgrow2 hat2 hlt2; have hb2 := pg (pa hb1) (T1.alloc _).snd (Nat.le_refl _) hgrow2; have T2 := ((T1.alloc _).turn.grow (l := l17 ++ [z2]) (by simpa using hown2) hgrow2 hat2).turn))
          | ((refine step_append_lies _ (by rfl) _ _ _ (by rfl) v.heap.size 3 i0 _ 1 8 Tryz.underlying51 hi0 hz0 hz1 hz2 rfl (by omega) (.slice A17 k c17) k (l17.map (Value.int .i64)) (by rfl) T1.snd ⟨wr.heap.size + 1, 0, none⟩ 1 1 [.int .i64 z2] (by rfl) (by rfl) (World.news_of_block (cs := #[.int .i64 z2]) (t := 3) (fr := (0, 0)) q5) (by simp [Value.oneCell']) (by omega) hmx hby (by first | omega | (simp; omega)) _ rfl ?_; intro g2 cap2 w2 hown2 hgrow2 hat2 hlt2; have hb2 := pg hb1 T1.snd (Nat.le_refl _) hgrow2; have T2 := (T1.turn.grow (l := l17 ++ [z2]) (by simpa using hown2) hgrow2 hat2).turn))
          | ((refine step_append_lies _ (by rfl) _ _ _ (by rfl) v.heap.size 3 i0 _ 1 8 Tryz.underlying51 hi0 hz0 hz1 hz2 rfl (by omega) (.slice A17 k c17) k (l17.map (Value.int .i64)) (by rfl) T1.snd ⟨wr.heap.size, 0, none⟩ 1 1 [.int .i64 z2] (by rfl) (by rfl) (World.news_of_block (cs := #[.int .i64 z2]) (t := 3) (fr := (0, 0)) q5) (by simp [Value.oneCell']) (by omega) hmx hby (by first | omega | (simp; omega)) _ rfl ?_; intro g2 cap2 w2 hown2 hgrow2 hat2 hlt2; have hb2 := pg hb1 T1.snd (Nat.le_refl _) hgrow2; have T2 := (T1.turn.grow (l := l17 ++ [z2]) (by simpa using hown2) hgrow2 hat2).turn)))
      all_goals
        clear hgrow hgrow2 hown1 hown2 hat hat2 hlt1 hlt2 T1 hb1
        have HT2 := Lib.hid T2
        have HB2 := Lib.hid hb2
        clear T2 hb2
        go_wp2
        go_roundw
        case rel => exact ⟨k + 1, some ⟨g1, 0, none⟩, some ⟨g2, 0, none⟩, cap1, cap2, src_succ _, rfl, rfl, HI.out, by rw [← HM1.out, ← HM2.out]; exact HT2.out, HB2.out⟩
        case measure => exact src_meas HI.out
    · as_aux_lemma =>
      obtain rfl : k = ls.length := by omega
      have i1 : ¬ (ls.length : Int) < (ls.length : Int) := Int.lt_irrefl _
      rw [List.take_length] at hT
      have HW := Lib.hid (HV.out.trans (hq.mono HV.out.size))
      have hI1 := intsIn_of_own hT.fst
      have hI2 := intsIn_of_own hT.snd
      have HSp := Lib.hid (show ∀ W, Below wr.heap.size wr W → Calls Tryz.prog 53 #[.slice A ls.length c, .slice A16 ls.length c16, .int .i64 p] W (SharesRet W (curRs ls Src.p p)) from fun W hW => by
        have hWW := HW.out.trans (hW.mono HW.out.size)
        exact refShares_any Src.p ls (ls.map Src.p) A c A16 c16 p W ((HR.out.below hWW).more hWW.size) ((hI1.below hW).more hW.size) (by simp) (fun k hk => by simp [List.getD_eq_getElem?_getD, hk]) HOk.out (fun s hs => (HOk.out.2 s hs).1) HLp.out)
      have HSq := Lib.hid (show ∀ W, Below wr.heap.size wr W → Calls Tryz.prog 53 #[.slice A ls.length c, .slice A17 ls.length c17, .int .i64 q] W (SharesRet W (curRs ls Src.q q)) from fun W hW => by
        have hWW := HW.out.trans (hW.mono HW.out.size)
        exact refShares_any Src.q ls (ls.map Src.q) A c A17 c17 q W ((HR.out.below hWW).more hWW.size) ((hI2.below hW).more hW.size) (by simp) (fun k hk => by simp [List.getD_eq_getElem?_getD, hk]) HOk.out (fun s hs => (HOk.out.2 s hs).2.1) HLq.out)
      have HBr := Lib.hid (HBx.out.past hq)
      have HLen := Lib.hid (show (curRs ls Src.p p).length = ls.length ∧ (curRs ls Src.q q).length = ls.length from ⟨by simp [curRs], by simp [curRs]⟩)
      clear hT hq hI1 hI2 HT HQ
      generalize hX1 : curRs ls Src.p p = X1 at *
      generalize hX2 : curRs ls Src.q q = X2 at *
      have HX1 := Lib.hid hX1
      have HX2 := Lib.hid hX2
      clear hX1 hX2
      generalize hbx : w.heap.size = bx at *
      have HBX := Lib.hid hbx
      clear hbx
      go_wp2
      have HSS := Lib.hid (show ∀ W, Below wr.heap.size wr W → W.cell? ⟨bx, 0, none⟩ = some (.int .i64 p) ∧ W.cell? ⟨bx, 1, none⟩ = some (.int .i64 q) from fun W hW => ⟨(HBr.out.past hW).cellAt 0 rfl, (HBr.out.past hW).cellAt 1 rfl⟩)
      refine wp_region_G 10 follows_mixed (fun W => W.cell? ⟨bx, 0, none⟩ = some (.int .i64 p) ∧ W.cell? ⟨bx, 1, none⟩ = some (.int .i64 q)) (HSS.out _ (pd pr)) ?_
      intro hSd inv
      have HSd := Lib.hid hSd
      clear hSd
      have HB0 := Lib.hid (show Below wr.heap.size wr wr.drew from pd pr)
      refine wpAnyG_take (i := 0) (v := ?_) rfl (by kernel_rfl) (by kernel_rfl) (by kernel_rfl) (by kernel_rfl) (by kernel_rfl) (by decide) (by decide) inv (fun _ _ _ h => h) (Or.inl ⟨by rfl, ?_⟩) HSd.out ?_; rotate_left; (focus (intro W y1; obtain ⟨y1, y2⟩ := y1; go_simp; (first | done | with_reducible rfl))); clear inv; intro inv; simp only [List.getElem_toArray, List.getElem_cons_zero, Act.put, List.setIfInBounds_toArray, List.set_cons_zero, List.set_cons_succ]
      refine wpAnyG_take (i := 1) (v := ?_) rfl (by kernel_rfl) (by kernel_rfl) (by kernel_rfl) (by kernel_rfl) (by kernel_rfl) (by decide) (by decide) inv (fun _ _ _ h => h) (Or.inl ⟨by rfl, ?_⟩) HSd.out ?_; rotate_left; (focus (intro W y1; obtain ⟨y1, y2⟩ := y1; go_simp; (first | done | with_reducible rfl))); clear inv; intro inv; simp only [List.getElem_toArray, List.getElem_cons_zero, List.getElem_cons_succ, Act.put, List.setIfInBounds_toArray, List.set_cons_zero, List.set_cons_succ]
      refine wpAnyG_take (i := 2) (v := ?_) rfl (by kernel_rfl) (by kernel_rfl) (by kernel_rfl) (by kernel_rfl) (by kernel_rfl) (by decide) (by decide) inv (fun _ _ _ h => h) (Or.inl ⟨by rfl, ?_⟩) HSd.out ?_; rotate_left; (focus (intro W y1; obtain ⟨y1, y2⟩ := y1; go_simp; (first | done | with_reducible rfl))); clear inv; intro inv; simp only [List.getElem_toArray, List.getElem_cons_zero, List.getElem_cons_succ, Act.put, List.setIfInBounds_toArray, List.set_cons_zero, List.set_cons_succ]
      refine wpAnyG_take (i := 3) (v := ?_) rfl (by kernel_rfl) (by kernel_rfl) (by kernel_rfl) (by kernel_rfl) (by kernel_rfl) (by decide) (by decide) inv (fun _ _ _ h => h) (Or.inl ⟨by rfl, ?_⟩) HSd.out ?_; rotate_left; (focus (intro W y1; obtain ⟨y1, y2⟩ := y1; go_simp; (first | done | with_reducible rfl))); clear inv; intro inv; simp only [List.getElem_toArray, List.getElem_cons_zero, List.getElem_cons_succ, Act.put, List.setIfInBounds_toArray, List.set_cons_zero, List.set_cons_succ]
      refine wpAnyG_take (i := 5) (v := ?_) rfl (by kernel_rfl) (by kernel_rfl) (by kernel_rfl) (by kernel_rfl) (by kernel_rfl) (by decide) (by decide) inv (fun _ _ _ h => h) (Or.inl ⟨by rfl, ?_⟩) HSd.out ?_; rotate_left; (focus (intro W y1; obtain ⟨y1, y2⟩ := y1; go_simp; (first | done | with_reducible rfl))); clear inv; intro inv; simp only [List.getElem_toArray, List.getElem_cons_zero, List.getElem_cons_succ, Act.put, List.setIfInBounds_toArray, List.set_cons_zero, List.set_cons_succ]
      refine wpAnyG_take (i := 6) (v := ?_) rfl (by kernel_rfl) (by kernel_rfl) (by kernel_rfl) (by kernel_rfl) (by kernel_rfl) (by decide) (by decide) inv (fun _ _ _ h => h) (Or.inl ⟨by rfl, ?_⟩) HSd.out ?_; rotate_left; (focus (intro W y1; obtain ⟨y1, y2⟩ := y1; go_simp; (first | done | with_reducible rfl))); clear inv; intro inv; simp only [List.getElem_toArray, List.getElem_cons_zero, List.getElem_cons_succ, Act.put, List.setIfInBounds_toArray, List.set_cons_zero, List.set_cons_succ]
      refine wpAnyG_take (i := 7) (v := ?_) rfl (by kernel_rfl) (by kernel_rfl) (by kernel_rfl) (by kernel_rfl) (by kernel_rfl) (by decide) (by decide) inv (fun _ _ _ h => h) (Or.inl ⟨by rfl, ?_⟩) HSd.out ?_; rotate_left; (focus (intro W y1; obtain ⟨y1, y2⟩ := y1; go_simp; (first | done | with_reducible rfl))); clear inv; intro inv; simp only [List.getElem_toArray, List.getElem_cons_zero, List.getElem_cons_succ, Act.put, List.setIfInBounds_toArray, List.set_cons_zero, List.set_cons_succ]
      refine wpAnyG_take (i := 8) (v := ?_) rfl (by kernel_rfl) (by kernel_rfl) (by kernel_rfl) (by kernel_rfl) (by kernel_rfl) (by decide) (by decide) inv (fun _ _ _ h => h) (Or.inl ⟨by rfl, ?_⟩) HSd.out ?_; rotate_left; (focus (intro W y1; obtain ⟨y1, y2⟩ := y1; go_simp; (first | done | with_reducible rfl))); clear inv; intro inv; simp only [List.getElem_toArray, List.getElem_cons_zero, List.getElem_cons_succ, Act.put, List.setIfInBounds_toArray, List.set_cons_zero, List.set_cons_succ]
      have HInv := Lib.hid inv
      clear inv
      refine wpAnyG_one (i := 4) (by kernel_rfl) rfl rfl fun K hK => ?_
      go_simp
      refine (HSp.out _ HB0.out).mono ?_
      rintro e w1 ⟨A9, c9, xs, rfl, hx, hc, hrow, hcap, hb⟩
      have HBx4 := Lib.hid (show Below wr.heap.size wr w1 from pt HB0.out hb)
      have H1 := Lib.hid (And.intro hx (And.intro hc (And.intro hrow hcap)))
      clear hx hc hrow hcap
      refine hK.out _ _ (fun _ => HSS.out _ HBx4.out) ?_
      clear hK K hb
      replace HInv := Lib.hid (inv_one (i := 4) HInv.out (by kernel_rfl) (by decide))
      refine wpAnyG_one (i := 9) (by kernel_rfl) rfl rfl fun K hK => ?_
      go_simp
      refine (HSq.out _ HBx4.out).mono ?_
      rintro e w2 ⟨A10, c10, ys, rfl, hx, hc, hrow, hcap, hb⟩
      have HBx9 := Lib.hid (show Below wr.heap.size wr w2 from pt HBx4.out hb)
      have H2 := Lib.hid (And.intro hx (And.intro hc (And.intro hrow hcap)))
      have HC1 := Lib.hid ((H1.out.2.1.below hb).more hb.size)
      have HW1 := Lib.hid (H1.out.2.2.1.past hb)
      clear hx hc hrow hcap
      refine hK.out _ _ (fun _ => HSS.out _ HBx9.out) ?_
      clear hK K hb
      replace HInv := Lib.hid (inv_one (i := 9) HInv.out (by kernel_rfl) (by decide))
      refine wpAnyG_one (i := 10) (by kernel_rfl) rfl rfl fun K hK => ?_
      go_simp
      refine hK.out _ _ (fun h => absurd h (by decide)) ?_
      clear hK K
      refine wpAnyG_one (i := 11) (by kernel_rfl) rfl rfl fun K hK => ?_
      go_simp
      refine hK.out _ _ (fun h => absurd h (by decide)) ?_
      clear hK K
      refine wpAnyG_done (by kernel_rfl) ?_
      clear HInv
      clear HSS HSd HB0
      go_wp2
      have HV2 := Lib.hid (show ∀ W, Below w2.heap.size w2 W → Below w.heap.size w W from fun W hW => by
        have h1 : Below w.heap.size w wr := by rw [HBX.out]; exact HW.out
        exact h1.trans ((HBx9.out.trans (hW.mono HBx9.out.size)).mono h1.size))
      clear HSp HSq HBr HV HR HBx HW
      have l1 : X1.length = ls.length := HLen.out.1
      have l2 : X2.length = ls.length := HLen.out.2
      have HLx := Lib.hid ((rows_len H1.out.1).trans l1)
      have HLy := Lib.hid ((rows_len H2.out.1).trans l2)
      rw [l1, l2]
      clear l1 l2
      go_loopw [11, 12] (fun ov iv wx => ∃ (k : Nat) (A8 : Option Addr) (c8 : Nat), iv = .int .i64 (k : Int) ∧ k ≤ ls.length ∧ ov = .slice A8 k c8 ∧ wx.ownsRow w2.heap.size 90 4 (.slice A8 k c8) k (((curCs ls p q).take k).flatMap cuC) ∧ (∀ j, j < k → fsmallB (curR ls Src.p p (ls.getD j default)).num ((curR ls Src.p p (ls.getD j default)).den : Int) = true ∧ fsmallB (curR ls Src.q q (ls.getD j default)).num ((curR ls Src.q q (ls.getD j default)).den : Int) = true) ∧ Below w2.heap.size w2 wx) (fun _ iv _ => ls.length - (intOf iv).toNat)
      case atStart => exact ⟨0, none, 0, rfl, Nat.zero_le _, rfl, World.ownsRow_nil _ _ _ _, (fun j hj => absurd hj (Nat.not_lt_zero _)), pr⟩
      case round =>
        obtain ⟨k, A8, c8, rfl, hk, rfl, hown, hsm, hqx⟩ := hrel
        have HO := Lib.hid hown
        have HS := Lib.hid hsm
        have HQx := Lib.hid hqx
        have ik := src_cast k
        clear hown hsm
        by_cases hlt : k < ls.length
        · as_aux_lemma =>
          have hkx : k < xs.length := by have := HLx.out; omega
          have hky : k < ys.length := by have := HLy.out; omega
          have i2 := src_lt hlt
          have HI := Lib.hid hlt
          have e1 : (xs.getD k default).r = curR ls Src.p p (ls.getD k default) := by rw [rows_getD H1.out.1 hkx, ← HX1.out, curRs_at hlt]
          have e2 : (ys.getD k default).r = curR ls Src.q q (ls.getD k default) := by rw [rows_getD H2.out.1 hky, ← HX2.out, curRs_at hlt]
          have m1 := rows_mem HW1.out hkx
          have m2 := rows_mem H2.out.2.2.1 hky
          have R1 := curR_rb HOk.out (f := Src.p) (fun s hs => (HOk.out.2 s hs).1) HLp.out hlt
          have R2 := curR_rb HOk.out (f := Src.q) (fun s hs => (HOk.out.2 s hs).2.1) HLq.out hlt
          obtain ⟨ba, oa, rfl, hba, x0, x1, x2, x3⟩ := rows_at ((HC1.out.below hqx).more hqx.size) hkx
          obtain ⟨bb, ob, rfl, hbb, y0, y1, y2, y3⟩ := rows_at ((H2.out.2.1.below hqx).more hqx.size) hky
          rw [e1] at x0 x1 x2 x3 m1
          rw [e2] at y0 y1 y2 y3 m2
          generalize (xs.getD k default).A = Ax at *
          generalize (xs.getD k default).c = cx at *
          generalize (xs.getD k default).A2 = Bx_ at *
          generalize (xs.getD k default).c2 = dx at *
          generalize (ys.getD k default).A = Ay at *
          generalize (ys.getD k default).c = cy at *
          generalize (ys.getD k default).A2 = By at *
          generalize (ys.getD k default).c2 = dy at *
          have HF1 := Lib.hid (fun W (hW : Below wr.heap.size wr W) => ratioFrac_any _ Ax cx Bx_ dx W (m1.past (hqx.trans (hW.mono hqx.size))) (Nat.lt_of_le_of_lt R1.1 (by decide)) (Nat.lt_of_le_of_lt R1.2 (by decide)))
          have HF2 := Lib.hid (fun W (hW : Below wr.heap.size wr W) => ratioFrac_any _ Ay cy By dy W (m2.past (hqx.trans (hW.mono hqx.size))) (Nat.lt_of_le_of_lt R2.1 (by decide)) (Nat.lt_of_le_of_lt R2.2 (by decide)))
          have HY := Lib.hid (fun W (hW : Below wr.heap.size wr W) => And.intro (((bcell hW).1 _ _ hbb).trans y0) (And.intro (((bcell hW).1 _ _ hbb).trans y1) (And.intro (((bcell hW).1 _ _ hbb).trans y2) (((bcell hW).1 _ _ hbb).trans y3))))
          clear e1 e2 m1 m2 R1 R2 y0 y1 y2 y3 H1 H2 HW1 HC1 HLx HLy HX1 HX2
          have HCu := Lib.hid (cu_snoc p q hlt)
          have HNs := Lib.hid (show ¬ (fsmallB (curR ls Src.p p (ls.getD k default)).num ((curR ls Src.p p (ls.getD k default)).den : Int) = true ∧ fsmallB (curR ls Src.q q (ls.getD k default)).num ((curR ls Src.q q (ls.getD k default)).den : Int) = true) → ¬ CurSmall ls p q from fun h g => h (g k hlt))
          have HSn := Lib.hid (show (fsmallB (curR ls Src.p p (ls.getD k default)).num ((curR ls Src.p p (ls.getD k default)).den : Int) = true ∧ fsmallB (curR ls Src.q q (ls.getD k default)).num ((curR ls Src.q q (ls.getD k default)).den : Int) = true) → ∀ j, j < k + 1 → fsmallB (curR ls Src.p p (ls.getD j default)).num ((curR ls Src.p p (ls.getD j default)).den : Int) = true ∧ fsmallB (curR ls Src.q q (ls.getD j default)).num ((curR ls Src.q q (ls.getD j default)).den : Int) = true from fun h j hj => by
            rcases Nat.lt_succ_iff_lt_or_eq.1 hj with h2 | rfl
            · exact HS.out j h2
            · exact h)
          generalize curR ls Src.p p (ls.getD k default) = r1 at *
          generalize curR ls Src.q q (ls.getD k default) = r2 at *
          generalize hb1 : fsmallB r1.num (r1.den : Int) = b1 at *
          generalize hb2 : fsmallB r2.num (r2.den : Int) = b2 at *
          generalize hn1 : (if b1 then r1.num else 0) = n1 at *
          generalize hd1 : (if b1 then (r1.den : Int) else 0) = d1 at *
          generalize hn2 : (if b2 then r2.num else 0) = n2 at *
          generalize hd2 : (if b2 then (r2.den : Int) else 0) = d2 at *
          have HB1 := Lib.hid (And.intro hb1 (And.intro hn1 hd1))
          have HB2 := Lib.hid (And.intro hb2 (And.intro hn2 hd2))
          clear hb1 hb2 hn1 hd1 hn2 hd2 hqx
          unfold ratV at HF1 HF2
          have HO9 := Lib.hid HO.out
          obtain ⟨i9, hi9, hy1, hy2, hy3⟩ := info_parts current_info
          cases b1
          case false =>
            as_aux_lemma =>
            go_wp2_with (first
              | (go_at_call 54; (with_reducible refine (HF1.out _ pr).mono ?_); rintro e w3 ⟨rfl, hb⟩; have S3 := Lib.hid (show Below wr.heap.size wr (w3.alloc (.cells #[.int .i64 n1, .int .i64 d1] 59)) from pa hb); obtain ⟨y0, y1, y2, y3⟩ := HY.out _ S3.out; have Z3 := Lib.hid (show Blk (w3.alloc (.cells #[.int .i64 n1, .int .i64 d1] 59)) w3.heap.size 59 #[.int .i64 n1, .int .i64 d1] from Blk.newAt rfl); clear hb)
              | (go_at_call 54; (with_reducible refine (HF2.out _ S3.out).mono ?_); rintro e w4 ⟨rfl, hb⟩; have S5 := Lib.hid (show Below wr.heap.size wr (w4.alloc (.cells #[.int .i64 n2, .int .i64 d2] 59)) from pa (pt S3.out hb)); have Z5 := Lib.hid (show Blk (w4.alloc (.cells #[.int .i64 n2, .int .i64 d2] 59)) w3.heap.size 59 #[.int .i64 n1, .int .i64 d1] from (Z3.out.past hb).alloc); have z0 := Z5.out.cellAt 0 rfl; have z1 := Z5.out.cellAt 1 rfl; clear hb y0 y1 y2 y3)
              | (at_builtin; have S6 := Lib.hid (show Below wr.heap.size wr ((w4.alloc (.cells #[.int .i64 n2, .int .i64 d2] 59)).alloc (.cells #[.int .i64 n1, .int .i64 d1, .int .i64 n2, .int .i64 d2] 90)) from pa S5.out); have XN := Lib.hid (show Blk ((w4.alloc (.cells #[.int .i64 n2, .int .i64 d2] 59)).alloc (.cells #[.int .i64 n1, .int .i64 d1, .int .i64 n2, .int .i64 d2] 90)) (w4.heap.size + 1) 90 #[.int .i64 n1, .int .i64 d1, .int .i64 n2, .int .i64 d2] from Blk.newAt (by simp)); have HO6 := Lib.hid (ownsRow_pastR S6.out HO9.out); have hn4 := HN.out; have hbs := (pt HQx.out S6.out).size; go_must (refine wpList_append_cells _ rfl (.tmp 79) (.tmp 83) _ rfl w2.heap.size 90 i9 _ 4 32 Tryz.underlying27 hi9 hy1 hy2 hy3 rfl (by decide) _ k _ rfl HO6.out _ (some ⟨w4.heap.size + 1, 0, none⟩) 1 1 [.int .i64 n1, .int .i64 d1, .int .i64 n2, .int .i64 d2] rfl (.inr ⟨w4.heap.size + 1, 0, rfl, XN.out.lt, fun j hj => by rw [Nat.zero_add, XN.out.cell]; simp⟩) rfl (by simp [Value.oneCell']) (by simp only [maxLen]; omega) (by omega) hbs ?_); intro vv w7 hown7 hg7 _; obtain ⟨A7, c7, rfl, hc7, hm7⟩ := own_form hown7; have HW7 := Lib.hid (pg (pt HQx.out S6.out) HO6.out (Nat.le_refl _) hg7); have HO7 := Lib.hid hown7; clear hown7 hg7 hc7 hm7))
            go_ret2
            exact ⟨HV2.out _ (pt HQx.out S5.out), .inr ⟨HNs.out (by simp), rfl⟩⟩
          cases b2
          case false =>
            as_aux_lemma =>
            go_wp2_with (first
              | (go_at_call 54; (with_reducible refine (HF1.out _ pr).mono ?_); rintro e w3 ⟨rfl, hb⟩; have S3 := Lib.hid (show Below wr.heap.size wr (w3.alloc (.cells #[.int .i64 n1, .int .i64 d1] 59)) from pa hb); obtain ⟨y0, y1, y2, y3⟩ := HY.out _ S3.out; have Z3 := Lib.hid (show Blk (w3.alloc (.cells #[.int .i64 n1, .int .i64 d1] 59)) w3.heap.size 59 #[.int .i64 n1, .int .i64 d1] from Blk.newAt rfl); clear hb)
              | (go_at_call 54; (with_reducible refine (HF2.out _ S3.out).mono ?_); rintro e w4 ⟨rfl, hb⟩; have S5 := Lib.hid (show Below wr.heap.size wr (w4.alloc (.cells #[.int .i64 n2, .int .i64 d2] 59)) from pa (pt S3.out hb)); have Z5 := Lib.hid (show Blk (w4.alloc (.cells #[.int .i64 n2, .int .i64 d2] 59)) w3.heap.size 59 #[.int .i64 n1, .int .i64 d1] from (Z3.out.past hb).alloc); have z0 := Z5.out.cellAt 0 rfl; have z1 := Z5.out.cellAt 1 rfl; clear hb y0 y1 y2 y3)
              | (at_builtin; have S6 := Lib.hid (show Below wr.heap.size wr ((w4.alloc (.cells #[.int .i64 n2, .int .i64 d2] 59)).alloc (.cells #[.int .i64 n1, .int .i64 d1, .int .i64 n2, .int .i64 d2] 90)) from pa S5.out); have XN := Lib.hid (show Blk ((w4.alloc (.cells #[.int .i64 n2, .int .i64 d2] 59)).alloc (.cells #[.int .i64 n1, .int .i64 d1, .int .i64 n2, .int .i64 d2] 90)) (w4.heap.size + 1) 90 #[.int .i64 n1, .int .i64 d1, .int .i64 n2, .int .i64 d2] from Blk.newAt (by simp)); have HO6 := Lib.hid (ownsRow_pastR S6.out HO9.out); have hn4 := HN.out; have hbs := (pt HQx.out S6.out).size; go_must (refine wpList_append_cells _ rfl (.tmp 79) (.tmp 83) _ rfl w2.heap.size 90 i9 _ 4 32 Tryz.underlying27 hi9 hy1 hy2 hy3 rfl (by decide) _ k _ rfl HO6.out _ (some ⟨w4.heap.size + 1, 0, none⟩) 1 1 [.int .i64 n1, .int .i64 d1, .int .i64 n2, .int .i64 d2] rfl (.inr ⟨w4.heap.size + 1, 0, rfl, XN.out.lt, fun j hj => by rw [Nat.zero_add, XN.out.cell]; simp⟩) rfl (by simp [Value.oneCell']) (by simp only [maxLen]; omega) (by omega) hbs ?_); intro vv w7 hown7 hg7 _; obtain ⟨A7, c7, rfl, hc7, hm7⟩ := own_form hown7; have HW7 := Lib.hid (pg (pt HQx.out S6.out) HO6.out (Nat.le_refl _) hg7); have HO7 := Lib.hid hown7; clear hown7 hg7 hc7 hm7))
            go_ret2
            exact ⟨HV2.out _ (pt HQx.out S5.out), .inr ⟨HNs.out (by simp), rfl⟩⟩
          case true =>
            as_aux_lemma =>
            go_wp2_with (first
              | (go_at_call 54; (with_reducible refine (HF1.out _ pr).mono ?_); rintro e w3 ⟨rfl, hb⟩; have S3 := Lib.hid (show Below wr.heap.size wr (w3.alloc (.cells #[.int .i64 n1, .int .i64 d1] 59)) from pa hb); obtain ⟨y0, y1, y2, y3⟩ := HY.out _ S3.out; have Z3 := Lib.hid (show Blk (w3.alloc (.cells #[.int .i64 n1, .int .i64 d1] 59)) w3.heap.size 59 #[.int .i64 n1, .int .i64 d1] from Blk.newAt rfl); clear hb)
              | (go_at_call 54; (with_reducible refine (HF2.out _ S3.out).mono ?_); rintro e w4 ⟨rfl, hb⟩; have S5 := Lib.hid (show Below wr.heap.size wr (w4.alloc (.cells #[.int .i64 n2, .int .i64 d2] 59)) from pa (pt S3.out hb)); have Z5 := Lib.hid (show Blk (w4.alloc (.cells #[.int .i64 n2, .int .i64 d2] 59)) w3.heap.size 59 #[.int .i64 n1, .int .i64 d1] from (Z3.out.past hb).alloc); have z0 := Z5.out.cellAt 0 rfl; have z1 := Z5.out.cellAt 1 rfl; clear hb y0 y1 y2 y3)
              | (at_builtin; have S6 := Lib.hid (show Below wr.heap.size wr ((w4.alloc (.cells #[.int .i64 n2, .int .i64 d2] 59)).alloc (.cells #[.int .i64 n1, .int .i64 d1, .int .i64 n2, .int .i64 d2] 90)) from pa S5.out); have XN := Lib.hid (show Blk ((w4.alloc (.cells #[.int .i64 n2, .int .i64 d2] 59)).alloc (.cells #[.int .i64 n1, .int .i64 d1, .int .i64 n2, .int .i64 d2] 90)) (w4.heap.size + 1) 90 #[.int .i64 n1, .int .i64 d1, .int .i64 n2, .int .i64 d2] from Blk.newAt (by simp)); have HO6 := Lib.hid (ownsRow_pastR S6.out HO9.out); have hn4 := HN.out; have hbs := (pt HQx.out S6.out).size; go_must (refine wpList_append_cells _ rfl (.tmp 79) (.tmp 83) _ rfl w2.heap.size 90 i9 _ 4 32 Tryz.underlying27 hi9 hy1 hy2 hy3 rfl (by decide) _ k _ rfl HO6.out _ (some ⟨w4.heap.size + 1, 0, none⟩) 1 1 [.int .i64 n1, .int .i64 d1, .int .i64 n2, .int .i64 d2] rfl (.inr ⟨w4.heap.size + 1, 0, rfl, XN.out.lt, fun j hj => by rw [Nat.zero_add, XN.out.cell]; simp⟩) rfl (by simp [Value.oneCell']) (by simp only [maxLen]; omega) (by omega) hbs ?_); intro vv w7 hown7 hg7 _; obtain ⟨A7, c7, rfl, hc7, hm7⟩ := own_form hown7; have HW7 := Lib.hid (pg (pt HQx.out S6.out) HO6.out (Nat.le_refl _) hg7); have HO7 := Lib.hid hown7; clear hown7 hg7 hc7 hm7))
            go_roundw
            case rel =>
              obtain ⟨g1, g2, g3⟩ := HB1.out
              obtain ⟨g4, g5, g6⟩ := HB2.out
              rw [if_pos trivial] at g2 g3 g5 g6
              subst g2 g3 g5 g6
              exact ⟨k + 1, A7, c7, src_succ _, HI.out, rfl, by rw [HCu.out]; exact HO7.out, HSn.out ⟨by trivial, by trivial⟩, HW7.out⟩
            case measure => exact src_meas HI.out
        · as_aux_lemma =>
          obtain rfl : k = ls.length := by omega
          have i2 : ¬ (ls.length : Int) < (ls.length : Int) := Int.lt_irrefl _
          go_wp2
          have hlen : (curCs ls p q).length = ls.length := by simp [curCs]
          have hc := cellsIn_of_own HO.out
          rw [← hlen, List.take_length] at hc
          go_ret2
          exact ⟨HV2.out _ HQx.out, .inl ⟨HS.out, _, _, rfl, CellsIn.cus hc⟩⟩

end Go.Proofs.YtpdkbhjcpddnpaaGreatDoor
end
