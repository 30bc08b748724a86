/- Contract: the specification's minimum end of all schedules in which tasks start one after the other. Valid plans. -/
import Derived.Test.YtlgioldmjohhlaaS3RefAdded
namespace Go.Proofs.Ytlgioldmjohhlaa
open Go.RowKit

theorem addA_bound {ts : List Task} {order ss : List Int} {K : Int} : ∀ (l : List Int) (a : Int), 0 ≤ a → a ≤ K → (∀ n ∈ l, endAt ts ss n.toNat ≤ K) → 0 ≤ (addA ts order ss l a).1 ∧ (addA ts order ss l a).1 ≤ K
  | [], a, h1, h2, _ => ⟨h1, h2⟩
  | n :: l, a, h1, h2, h3 => by
    rw [addA]
    have := h3 n (by simp)
    split
    · exact addA_bound l _ (by omega) (by omega) fun x hx => h3 x (by simp [hx])
    · dsimp only; omega
theorem addM_bound {ts : List Task} {ss : List Int} {m K : Int} : ∀ (l : List Int) (a : Int), 0 ≤ a → a ≤ K → (∀ n ∈ l, endAt ts ss n.toNat ≤ K) → 0 ≤ addM ts ss m l a ∧ addM ts ss m l a ≤ K
  | [], a, h1, h2, _ => ⟨h1, h2⟩
  | n :: l, a, h1, h2, h3 => by
    rw [addM]
    have := h3 n (by simp)
    exact addM_bound l _ (by split <;> omega) (by split <;> omega) fun x hx => h3 x (by simp [hx])
/-- The numbers of a schedule in the making. -/
def EndOk (ts : List Task) (order ss : List Int) : Prop := ss.length = ts.length ∧ (∀ j, 0 ≤ ss.getD j 0 ∧ ss.getD j 0 ≤ ((10000 * order.length : Nat) : Int)) ∧ (∀ x ∈ order, 0 ≤ x ∧ x.toNat < ts.length)
theorem EndOk.add {ts : List Task} {order ss : List Int} (h : EndOk ts order ss) (h7 : order.length ≤ 7) : AddOk ts order ss := ⟨h.1, fun j => by have := h.2.1 j; omega, h.2.2, h7⟩
theorem EndOk.starts {ts : List Task} {order ss : List Int} (h : EndOk ts order ss) (h7 : order.length ≤ 7) : StartsOk ts ss := ⟨h.1, fun j _ => by have := h.2.1 j; omega⟩
theorem EndOk.step {ts : List Task} (hp : PlanOk ts) (hl : LenOk ts) {order ss : List Int} {i : Nat} (h : EndOk ts order ss) (hi : i < ts.length) : EndOk ts (order ++ [(i : Int)]) (ss.set i (addedV ts order ss i).1) := by
  have hb : ∀ n : Int, n.toNat < ts.length → endAt ts ss n.toNat ≤ ((10000 * (order.length + 1) : Nat) : Int) := fun n hn => by
    have := h.2.1 n.toNat
    have := hl _ hn
    unfold endAt
    omega
  have hli := hl i hi
  have hA := addA_bound (ts := ts) (order := order) (ss := ss) (K := ((10000 * (order.length + 1) : Nat) : Int)) (ts.getD i default).after (ts.getD i default).release (by omega) (by omega) fun n hn => hb n (by have := after_in hp hi n hn; omega)
  have hv : 0 ≤ (addedV ts order ss i).1 ∧ (addedV ts order ss i).1 ≤ ((10000 * (order.length + 1) : Nat) : Int) := by
    unfold addedV
    split
    · exact addM_bound _ _ hA.1 hA.2 fun n hn => hb n (h.2.2 n hn).2
    · dsimp only; omega
  refine ⟨by simpa using h.1, fun j => ?_, fun x hx => ?_⟩
  · rw [getD_set, List.length_append, List.length_singleton]
    have := h.2.1 j
    split <;> omega
  · rcases List.mem_append.1 hx with hx | hx
    · exact h.2.2 x hx
    · rw [List.mem_singleton] at hx
      subst hx
      exact ⟨by omega, by simpa using hi⟩

/-- A row of the call's own that is not empty, as a block; behind a store. -/
theorem own_blk_of {w : World} {base n c : Nat} {A : Option Addr} {xs : List Int} (h : w.ownsRow base 3 1 (.slice A n c) n (xs.map (Value.int .i64))) (hn : 0 < n) :
    ∃ g cur, A = some ⟨g, 0, none⟩ ∧ base ≤ g ∧ Blk w g 3 cur ∧ cur.toList.take n = xs.map (Value.int .i64) ∧ xs.length = n ∧ ∀ j, j < n → cur[j]? = some (.int .i64 (xs.getD j 0)) := by
  have hl := h.1
  rcases h.2 with ⟨_, h2⟩ | ⟨g, cap, cur, hv, hb, hh, _, _, _, ht⟩
  · omega
  · injection hv with hA _ _
    have hl' : xs.length = n := by simpa using hl
    have ht' : cur.toList.take n = xs.map (Value.int .i64) := by simpa using ht
    refine ⟨g, cur, hA, hb, hh, ht', hl', fun j hj => ?_⟩
    have h1 : (cur.toList.take n)[j]? = some (.int .i64 (xs.getD j 0)) := by
      rw [ht']
      simp [List.getD, show j < xs.length by omega]
    rw [List.getElem?_take_of_lt hj] at h1
    simpa using h1
theorem ints_set {w : World} {g n i : Nat} {cur : Array Value} {xs : List Int} (h : Blk w g 3 cur) (ht : cur.toList.take n = xs.map (Value.int .i64)) (hx : xs.length = n) (hi : i < n) (x : Int) :
    IntsIn w.heap.size (w.setCell ⟨g, i, none⟩ (.int .i64 x)) (some ⟨g, 0, none⟩) (xs.set i x) := by
  refine .inr ⟨g, 0, rfl, h.lt, fun j hj => ?_⟩
  have hj' : j < n := by simp at hj; omega
  have hc : cur[j]? = some (.int .i64 (xs.getD j 0)) := by
    have h1 : (cur.toList.take n)[j]? = some (.int .i64 (xs.getD j 0)) := by
      rw [ht]
      simp [List.getD, show j < xs.length by omega]
    rw [List.getElem?_take_of_lt hj'] at h1
    simpa using h1
  rw [Nat.zero_add, (h.set_ i (.int .i64 x)).cell j]
  have hs : j < cur.size := by
    rcases Nat.lt_or_ge j cur.size with h1 | h1
    · exact h1
    · rw [Array.getElem?_eq_none h1] at hc; cases hc
  by_cases e : i = j
  · subst e
    rw [getD_set_eq _ (by omega)]
    simp [hs]
  · rw [getD_set_ne _ e]
    rw [Array.getElem?_setIfInBounds_ne e]
    exact hc


set_option maxHeartbeats 4000000 in
set_option maxRecDepth 100000 in
theorem refEndF_any (B : Nat) (ts : List Task) (A : Option Addr) (c : Nat) (m : Int) (hl : LenOk ts) (hp : PlanOk ts) :
    ∀ (f : Nat) (order ss : List Int) (Ao As : Option Addr) (co cs : Nat) (w : World), TasksIn B w A ts → IntsIn w.heap.size w Ao order → IntsIn w.heap.size w As ss → B ≤ w.heap.size → EndOk ts order ss → order.length ≤ ts.length → ts.length - order.length < f →
      Calls Try.prog 84 #[.agg #[.int .i64 m, .slice A ts.length c], .slice Ao order.length co, .slice As ss.length cs] w fun e w' => e = .returned (.int .i64 (refEndF ts f order ss)) ∧ Below w.heap.size w w' := by
  have h7 := hp.1
  intro f
  induction f with
  | zero => intro order ss Ao As co cs w _ _ _ _ _ _ hf; omega
  | succ f ih =>
    intro order ss Ao As co cs w hr hro hrs hB hok hle hf
    have IH := Lib.hid ih
    clear ih
    by_cases hfull : order.length = ts.length
    · have HE := Lib.hid (show refEndF ts (f + 1) order ss = lastV ts ss by unfold refEndF; rw [if_pos hfull])
      have HEnd := Lib.hid fun W (hW : Below w.heap.size w W) => refEndOf_any w.heap.size ts ss A As c cs m W ((hr.more hB).below hW) (hrs.below hW) hW.size hl h7 (hok.starts (by omega))
      have heq : ((order.length : Int) == (ts.length : Int)) = true := by simp [hfull]
      clear hr hro hrs hok IH
      generalize refEndF ts (f + 1) order ss = V at *
      go_enter Try.func84, Try.ntmps84
      go_wp2_with (go_at_call 22; go_must (refine (HEnd.out _ (pa pr)).mono ?_); rintro e w1 ⟨rfl, hb1⟩)
      go_ret
      exact ⟨ret_int HE.out.symm, pt (pa pr) hb1⟩
    · have HE := Lib.hid (show refEndF ts (f + 1) order ss = refUpto ts f order ss ts.length by unfold refEndF refUpto; rw [if_neg hfull])
      have hne : ((order.length : Int) == (ts.length : Int)) = false := by
        have : ¬ (order.length : Int) = (ts.length : Int) := by omega
        simpa using this
      have ho7 : order.length < 7 := by omega
      have hlt0 : order.length < ts.length := by omega
      generalize refEndF ts (f + 1) order ss = V at *
      have hAddOk := hok.add (by omega)
      have HHas := Lib.hid fun (x : Int) W (hW : Below w.heap.size w W) => baseHas_any w.heap.size Ao co order x W (hro.below hW) (by omega)
      have HAdd := Lib.hid fun (i : Nat) (hi : i < ts.length) W (hW : Below w.heap.size w W) => refAdded_any w.heap.size ts order ss A Ao As c co cs m i W ((hr.more hB).below hW) (hro.below hW) (hrs.below hW) hW.size hl hp hi hAddOk
      have HSL := Lib.hid hok.1
      have HCs := Lib.hid fun W (hW : Below w.heap.size w W) => copyInts_any w.heap.size As ss.length cs ss W (hrs.below hW) rfl hW.size (by have := HSL.out; omega)
      have HCo := Lib.hid fun W (hW : Below w.heap.size w W) => copyInts_any w.heap.size Ao order.length co order W (hro.below hW) rfl hW.size (by omega)
      have HStep := Lib.hid fun (i : Nat) (hi : i < ts.length) => hok.step hp hl hi
      have HR := Lib.hid hr
      obtain ⟨i0, hi0, hz0, hz1, hz2⟩ := info_parts int_info
      clear hr hro hrs hok hAddOk hfull
      go_enter Try.func84, Try.ntmps84
      go_wp2
      go_loopw [7, 8] (fun bv iv wr => ∃ i : Nat, bv = .int .i64 (refUpto ts f order ss i) ∧ iv = .int .i64 (i : Int) ∧ i ≤ ts.length ∧ Blk wr w.heap.size 24 #[.int .i64 m, .slice A ts.length c] ∧ Below w.heap.size w wr) (fun _ iv _ => ts.length - (intOf iv).toNat)
      case atStart => exact ⟨0, rfl, rfl, Nat.zero_le _, Blk.newAt rfl, pa pr⟩
      case round =>
        obtain ⟨i, rfl, rfl, hi, k0, hq⟩ := hrel
        have HBW := Lib.hid hq
        have HK := Lib.hid k0
        have e1 := k0.cellAt 1 rfl
        have e0 := k0.cellAt 0 rfl
        have x0 := k0.lt
        clear hq k0
        by_cases hlt : i < ts.length
        · have HG := Lib.hid (show refUpto ts f order ss (i + 1) = if hasB order (i : Int) = true then refUpto ts f order ss i
            else if (addedV ts order ss i).2 = true then
              if refUpto ts f order ss i < 0 ∨ refEndF ts f (order ++ [(i : Int)]) (ss.set i (addedV ts order ss i).1) < refUpto ts f order ss i then refEndF ts f (order ++ [(i : Int)]) (ss.set i (addedV ts order ss i).1) else refUpto ts f order ss i
            else refUpto ts f order ss i from refUpto_succ ts f order ss i)
          have HSt := Lib.hid (HStep.out i hlt)
          have HAd := Lib.hid (HAdd.out i hlt)
          have HHi := Lib.hid (HHas.out (i : Int))
          generalize refUpto ts f order ss i = G1 at *
          generalize hasB order (i : Int) = hb at *
          generalize addedV ts order ss i = av at *
          obtain ⟨at_, ok⟩ := av
          dsimp only at HG HSt HAd
          cases hb with
          | true =>
            have HG2 := Lib.hid (show refUpto ts f order ss (i + 1) = G1 by rw [HG.out]; rfl)
            go_wp2_with (go_at_call 33; go_must (refine (HHi.out _ HBW.out).mono ?_); rintro e w' ⟨rfl, rfl⟩)
            go_roundw
            case rel => exact ⟨i + 1, by rw [HG2.out], by go_num, by omega, HK.out, HBW.out⟩
            case measure => simp [intOf]; omega
          | false =>
            cases ok with
            | false =>
              have HG2 := Lib.hid (show refUpto ts f order ss (i + 1) = G1 by rw [HG.out]; rfl)
              go_wp2_with (first
                | (go_at_call 33; go_must (refine (HHi.out _ HBW.out).mono ?_); rintro e w' ⟨rfl, rfl⟩)
                | (go_at_call 132; go_must (refine (HAd.out _ HBW.out).mono ?_); rintro e w1 ⟨rfl, hb1⟩))
              go_roundw
              case rel => exact ⟨i + 1, by rw [HG2.out], by go_num, by omega, Blk.past (HK.out) hb1, pt HBW.out hb1⟩
              case measure => simp [intOf]; omega
            | true =>
              have hrec : ∀ A1 c1 A2 c2 W, Below w.heap.size w W → IntsIn W.heap.size W A1 (order ++ [(i : Int)]) → IntsIn W.heap.size W A2 (ss.set i at_) →
                  Calls Try.prog 84 #[.agg #[.int .i64 m, .slice A ts.length c], .slice A1 (order.length + 1) c1, .slice A2 ss.length c2] W fun e w' => e = .returned (.int .i64 (refEndF ts f (order ++ [(i : Int)]) (ss.set i at_))) ∧ Below W.heap.size W w' := fun A1 c1 A2 c2 W h1 h2 h3 => by
                have q := IH.out (order ++ [(i : Int)]) (ss.set i at_) A1 A2 c1 c2 W (HR.out.below (h1.mono hB)) h2 h3 (Nat.le_trans hB h1.size) HSt.out (by simp; omega) (by simp; omega)
                rw [List.length_append, List.length_singleton, List.length_set] at q
                exact q
              have HRec := Lib.hid hrec
              clear hrec
              have HG2 := Lib.hid (show refUpto ts f order ss (i + 1) = if G1 < 0 ∨ refEndF ts f (order ++ [(i : Int)]) (ss.set i at_) < G1 then refEndF ts f (order ++ [(i : Int)]) (ss.set i at_) else G1 by
                rw [HG.out]; rfl)
              generalize refEndF ts f (order ++ [(i : Int)]) (ss.set i at_) = N at *
              clear HG HSt HAdd IH
              have his : i < ss.length := by have := HSL.out; omega
              have i0' : (0 : Int) ≤ (i : Int) := by omega
              have i1' : (i : Int) < (ss.length : Int) := by omega
              go_wp2_with (first
                | (go_at_call 33; go_must (refine (HHi.out _ HBW.out).mono ?_); rintro e w' ⟨rfl, rfl⟩)
                | (go_at_call 132; go_must (refine (HAd.out _ HBW.out).mono ?_); rintro e w1 ⟨rfl, hb1⟩)
                | (go_at_call 24; go_must (refine (HCs.out _ (pt HBW.out hb1)).mono ?_); rintro e w2 ⟨v2, rfl, hown2, hb2⟩; obtain ⟨A2, c2, rfl, hc2, hm2⟩ := own_form hown2; obtain ⟨g2, cur2, rfl, hg2, hblk2, htk2, hx2, hcu2⟩ := own_blk_of hown2 (by omega); have hfz := hblk2.frozen i; have hgl := hblk2.lt; have hce := hblk2.cellAt i (hcu2 i his); clear hx2))
              have HSS := Lib.hid (ints_set hblk2 htk2 rfl his at_)
              have hbw2 : Below wr.heap.size wr w2 := pt hb1 hb2
              have hbw3 : Below wr.heap.size wr (w2.setCell ⟨g2, i, none⟩ (.int .i64 at_)) := ps hbw2 (by have := hb1.size; dsimp only; omega)
              have HBW3 := Lib.hid (pt HBW.out hbw3)
              have HK3 := Lib.hid (HK.out.past hbw3)
              clear hbw2 hbw3 hfz hgl hce hblk2 htk2 hcu2 hg2 hown2 hb1 hb2 e0 e1 x0 HK HBW
              have hsz3 : (w2.setCell ⟨g2, i, none⟩ (.int .i64 at_)).heap.size = w2.heap.size := by simp
              rw [← hsz3] at HSS
              clear hsz3
              generalize w2.setCell ⟨g2, i, none⟩ (.int .i64 at_) = wr at *
              have HBW := HBW3
              have e1 := HK3.out.cellAt 1 rfl
              have e0 := HK3.out.cellAt 0 rfl
              have x0 := HK3.out.lt
              have HS := Lib.hid (show ∀ W, Hid (Below wr.heap.size wr W) → Hid (Below wr.heap.size wr W) ∧ W.cell? ⟨w.heap.size, 0, none⟩ = some (.int .i64 m) ∧ W.cell? ⟨w.heap.size, 1, none⟩ = some (.slice A ts.length c) from fun W hW => ⟨hW, (HK3.out.past hW.out).cellAt 0 rfl, (HK3.out.past hW.out).cellAt 1 rfl⟩)
              clear e0 e1
              go_region_held3 (fun w' => Hid (Below wr.heap.size wr w') ∧ w'.cell? ⟨w.heap.size, 0, none⟩ = some (.int .i64 m) ∧ w'.cell? ⟨w.heap.size, 1, none⟩ = some (.slice A ts.length c)) ((refine HS.out _ (Lib.hid ?_); repeat (first | assumption | (with_reducible exact pr) | (with_reducible refine pd ?_) | (with_reducible refine pa ?_) | (with_reducible refine pt ?_ (by assumption)))))
                (first | (go_at_call 24; (with_reducible refine (HCo.out _ (pt HBW.out (pd pr))).mono ?_); rintro e w4 ⟨v4, rfl, hown4, hb4⟩; obtain ⟨A4, c4, rfl, hc4, hm4⟩ := own_form hown4; have HO4 := Lib.hid (hown4.alloc (.cells #[.int .i64 (i : Int)] 3)); have hs4 : wr.heap.size ≤ w4.heap.size := hb4.size) | (go_at_call 24; (with_reducible refine (HCo.out _ (pt HBW.out (pd (pa pr)))).mono ?_); rintro e w4 ⟨v4, rfl, hown4, hb4⟩; obtain ⟨A4, c4, rfl, hc4, hm4⟩ := own_form hown4; have HO4 := Lib.hid hown4; have hs4 : wr.heap.size + 1 ≤ w4.heap.size := by have := hb4.size; simpa using this) | (refine step_append_lies _ (by rfl) _ _ _ (by rfl) wr.drew.heap.size 3 i0 _ 1 8 Try.underlying28 hi0 hz0 hz1 hz2 rfl (by omega) (.slice A4 order.length c4) order.length (order.map (Value.int .i64)) (by rfl) HO4.out ⟨w4.heap.size, 0, none⟩ 1 1 [.int .i64 (i : Int)] (by rfl) (by rfl) (World.news_of_block (cs := #[.int .i64 (i : Int)]) (t := 3) (fr := (0, 0)) (Blk.new w4 _ _)) (by simp [Value.oneCell']) (by omega) (by simp only [maxLen]; omega) (by omega) (by first | omega | (simp; omega)) _ rfl ?_; intro g5 c5 w5 hown5 hg5 hat5 hlt5; have hb5 : Below wr.heap.size wr w5 := (show Below wr.heap.size wr _ from pg (pa (pt (pd pr) hb4)) HO4.out (Nat.le_refl _) hg5)) | (refine step_append_lies _ (by rfl) _ _ _ (by rfl) (wr.alloc (.cells #[.int .i64 (i : Int)] 3)).drew.heap.size 3 i0 _ 1 8 Try.underlying28 hi0 hz0 hz1 hz2 rfl (by omega) (.slice A4 order.length c4) order.length (order.map (Value.int .i64)) (by rfl) HO4.out ⟨wr.heap.size, 0, none⟩ 1 1 [.int .i64 (i : Int)] (by rfl) (by rfl) (World.news_of_block (cs := #[.int .i64 (i : Int)]) (t := 3) (fr := (0, 0)) ((Blk.new wr 3 #[.int .i64 (i : Int)]).drew.past hb4)) (by simp [Value.oneCell']) (by omega) (by simp only [maxLen]; omega) (by omega) (by first | omega | (simp; omega)) _ rfl ?_; intro g5 c5 w5 hown5 hg5 hat5 hlt5; have hb5 : Below wr.heap.size wr w5 := (show Below wr.heap.size wr _ from pg (pt (pd (pa pr)) hb4) HO4.out (by simp) hg5)) | (go_at_call 84; (with_reducible refine (HRec.out _ _ _ _ _ (pt HBW.out hb5) (intsIn_of_own (by simpa using hown5)) ((HSS.out.below hb5).more hb5.size)).mono ?_); rintro e w6 ⟨rfl, hb6⟩))
              all_goals
                have HBW6 := Lib.hid (pt HBW.out (pt hb5 hb6))
                have HK6 := Lib.hid (HK3.out.past (pt hb5 hb6))
                clear hown4 hown5 hb4 hb5 hb6 hg5 hat5 hlt5 x0
                by_cases hc : G1 < 0 ∨ N < G1
                · have HG3 := Lib.hid (show refUpto ts f order ss (i + 1) = N by rw [HG2.out, if_pos hc])
                  by_cases hc1 : G1 < 0
                  · have hd1 : decide (G1 < 0) = true := decide_eq_true hc1
                    go_wp2
                    go_roundw
                    case rel => exact ⟨i + 1, by rw [HG3.out], by go_num, by omega, HK6.out, HBW6.out⟩
                    case measure => simp [intOf]; omega
                  · have hd1 : decide (G1 < 0) = false := decide_eq_false hc1
                    have hd2 : N < G1 := by omega
                    have hd3 : decide (N < G1) = true := decide_eq_true hd2
                    go_wp2
                    go_roundw
                    case rel => exact ⟨i + 1, by rw [HG3.out], by go_num, by omega, HK6.out, HBW6.out⟩
                    case measure => simp [intOf]; omega
                · have HG3 := Lib.hid (show refUpto ts f order ss (i + 1) = G1 by rw [HG2.out, if_neg hc])
                  have hd1 : ¬ G1 < 0 := by omega
                  have hd2 : ¬ N < G1 := by omega
                  go_wp2
                  go_roundw
                  case rel => exact ⟨i + 1, by rw [HG3.out], by go_num, by omega, HK6.out, HBW6.out⟩
                  case measure => simp [intOf]; omega
        · have HRes := Lib.hid (show refUpto ts f order ss i = V by rw [HE.out, show i = ts.length by omega])
          go_wp2
          go_ret
          exact ⟨ret_int HRes.out, HBW.out⟩

end Go.Proofs.Ytlgioldmjohhlaa
