/- Contract: the specification's winding of any string: the leaves ahead of the loop.
Contract: the specification's winding of any string, joined from its leaves. -/
import Derived.Test.YtccpkheiokjcdaaGreatDoorKQRef

section
namespace Go.Proofs.YtccpkheiokjcdaaGreatDoor
open Go.RowKit
attribute [local go_sem ↓] Go.wp_at_zero Go.wp_at_succ

set_option maxHeartbeats 4000000 in
set_option maxRecDepth 100000 in
theorem refpw_short (l : List UInt8) (h2 : l.length < 2) (w : World) :
    Calls Tryz.prog 24 #[.string ⟨l.toArray⟩] w fun e w' => windR none e ∧ Below w.heap.size w w' := by
  have h2' : (l.length : Int) < 2 := by omega
  have hbs := bsize l
  go_enter Tryz.func24, Tryz.ntmps24
  go_wp2
  exact bodyPost_ret (v := .tuple #[.agg #[.int .i64 0, .int .i64 0, .int .i64 0, .bool false], .bool false]) (by simp [results, Tryz.results24, go_sem]) rfl ⟨⟨_, _, _, _, rfl⟩, by repeat (first | exact pr | refine pa ?_ | refine ps ?_ (by first | (simp; done) | (simp; omega)))⟩

set_option maxHeartbeats 4000000 in
set_option maxRecDepth 100000 in
theorem refpw_sign (l : List UInt8) (h2 : 2 ≤ l.length) (hb1 : byteL l 1 ≠ 43) (hb2 : byteL l 1 ≠ 45) (w : World) :
    Calls Tryz.prog 24 #[.string ⟨l.toArray⟩] w fun e w' => windR none e ∧ Below w.heap.size w w' := by
  have h2' : ¬ (l.length : Int) < 2 := by omega
  have hbs := bsize l
  have hix := fun W => index_lit l 1 (by omega) 1 rfl W
  have b1 : (byteL l 1 != 43) = true := by simpa using hb1
  have b2 : (byteL l 1 != 45) = true := by simpa using hb2
  generalize byteL l 1 = B at *
  clear hb1 hb2
  go_enter Tryz.func24, Tryz.ntmps24
  go_wp2
  exact bodyPost_ret (v := .tuple #[.agg #[.int .i64 0, .int .i64 0, .int .i64 0, .bool false], .bool false]) (by simp [results, Tryz.results24, go_sem]) rfl ⟨⟨_, _, _, _, rfl⟩, by repeat (first | exact pr | refine pa ?_ | refine ps ?_ (by first | (simp; done) | (simp; omega)))⟩

theorem splitL_mem' {c : UInt8} : ∀ {l x : List UInt8}, x ∈ splitL c l → x.length ≤ l.length
  | [], x, h => by rw [splitL, List.mem_singleton] at h; subst h; exact Nat.le_refl _
  | b :: l, x, h => by
    rw [splitL] at h
    split at h
    · rcases List.mem_cons.1 h with h | h
      · subst h; exact Nat.zero_le _
      · have := splitL_mem' h; simp; omega
    · split at h
      · rw [List.mem_singleton] at h; subst h; simp
      · rename_i y r e
        rcases List.mem_cons.1 h with h | h
        · have := splitL_mem' (c := c) (l := l) (x := y) (by rw [e]; exact List.mem_cons_self)
          subst h; simp; omega
        · have := splitL_mem' (c := c) (l := l) (x := x) (by rw [e]; exact List.mem_cons_of_mem _ h)
          simp; omega

theorem splitL_two_len {c : UInt8} {l X Y : List UInt8} (h : splitL c l = [X, Y]) : X.length ≤ l.length ∧ Y.length ≤ l.length :=
  ⟨splitL_mem' (by rw [h]; simp), splitL_mem' (by rw [h]; simp)⟩
theorem list_two {α : Type} : ∀ {l : List α}, l.length = 2 → ∃ a b, l = [a, b]
  | [a, b], _ => ⟨a, b, rfl⟩
theorem restW_two {r X Y : List UInt8} (h : splitL 47 r = [X, Y]) : restW r = twoV X Y := by unfold restW; rw [h]
theorem restW_else {r : List UInt8} (h : (splitL 47 r).length ≠ 2) : restW r = none := by
  unfold restW
  split
  · rename_i e; rw [e] at h; exact absurd rfl h
  · rfl
theorem windR_two (kd : Int) (rv : Bool) (X Y : List UInt8) (e : Ending) (h : ∃ x1 x2 : Int, e = .returned (.tuple #[.agg #[.int .i64 kd, .int .i64 x2, .int .i64 x1, .bool rv], .bool ((numP X).isSome && (numP Y).isSome)]) ∧ (∀ k, numP X = some k → x1 = k) ∧ (∀ k, numP Y = some k → x2 = k)) : windR ((twoV X Y).map fun x => ⟨kd, x.2, x.1, rv⟩) e := by
  obtain ⟨x1, x2, rfl, h1, h2⟩ := h
  unfold twoV
  cases q1 : numP X with
  | none => exact ⟨_, _, _, _, rfl⟩
  | some a =>
    cases q2 : numP Y with
    | none => exact ⟨_, _, _, _, rfl⟩
    | some b =>
      rw [h1 a q1, h2 b q2]
      exact rfl

end Go.Proofs.YtccpkheiokjcdaaGreatDoor
end

section
namespace Go.Proofs.YtccpkheiokjcdaaGreatDoor
open Go.RowKit

theorem byte_zero (a : UInt8) (r : List UInt8) {c : Nat} (hc : c < 256) : byteL (a :: r) 0 = (c : Int) ↔ a = UInt8.ofNat c := by
  have h := drop_head (l := a :: r) (k := 0) (by simp) (c := c) hc
  rw [← h]
  simp

theorem refpw_j0p (r : List UInt8) (hl : (((121 : UInt8) :: 43 :: r)).length ≤ 1000) (w : World) :
    Calls Tryz.prog 24 #[.string ⟨(((121 : UInt8) :: 43 :: r)).toArray⟩] w fun e w' => windR ((restW r).map fun x => ⟨0, x.2, x.1, false⟩) e ∧ Below w.heap.size w w' := by
  have hj : byteL ((121 : UInt8) :: 43 :: r) 0 = 121 := (byte_zero _ _ (c := 121) (by decide)).2 rfl
  have hb : byteL ((121 : UInt8) :: 43 :: r) 1 = 43 := (byte_one _ _ _ (c := 43) (by decide)).2 rfl
  have hr : r.length ≤ 1000 := by simp at hl; omega
  by_cases h2 : (splitL 47 r).length = 2
  · obtain ⟨X, Y, hp⟩ := list_two h2
    obtain ⟨l1, l2⟩ := splitL_two_len hp
    rw [restW_two hp]
    exact (refpw_two0p _ hl (by simp) hj hb X Y hp (by omega) (by omega) _ _ rfl rfl w).mono fun e w' ⟨q1, q2⟩ => ⟨windR_two 0 false X Y e q1, q2⟩
  · rw [restW_else h2]
    exact refpw_len0 _ hl (by simp) hj (by rw [hb]; simp) h2 w
theorem refpw_j0m (r : List UInt8) (hl : (((121 : UInt8) :: 45 :: r)).length ≤ 1000) (w : World) :
    Calls Tryz.prog 24 #[.string ⟨(((121 : UInt8) :: 45 :: r)).toArray⟩] w fun e w' => windR ((restW r).map fun x => ⟨0, x.2, x.1, true⟩) e ∧ Below w.heap.size w w' := by
  have hj : byteL ((121 : UInt8) :: 45 :: r) 0 = 121 := (byte_zero _ _ (c := 121) (by decide)).2 rfl
  have hb : byteL ((121 : UInt8) :: 45 :: r) 1 = 45 := (byte_one _ _ _ (c := 45) (by decide)).2 rfl
  have hr : r.length ≤ 1000 := by simp at hl; omega
  by_cases h2 : (splitL 47 r).length = 2
  · obtain ⟨X, Y, hp⟩ := list_two h2
    obtain ⟨l1, l2⟩ := splitL_two_len hp
    rw [restW_two hp]
    exact (refpw_two0m _ hl (by simp) hj hb X Y hp (by omega) (by omega) _ _ rfl rfl w).mono fun e w' ⟨q1, q2⟩ => ⟨windR_two 0 true X Y e q1, q2⟩
  · rw [restW_else h2]
    exact refpw_len0 _ hl (by simp) hj (by rw [hb]; simp) h2 w
theorem refpw_j1p (r : List UInt8) (hl : (((100 : UInt8) :: 43 :: r)).length ≤ 1000) (w : World) :
    Calls Tryz.prog 24 #[.string ⟨(((100 : UInt8) :: 43 :: r)).toArray⟩] w fun e w' => windR ((restW r).map fun x => ⟨1, x.2, x.1, false⟩) e ∧ Below w.heap.size w w' := by
  have hj : byteL ((100 : UInt8) :: 43 :: r) 0 = 100 := (byte_zero _ _ (c := 100) (by decide)).2 rfl
  have hb : byteL ((100 : UInt8) :: 43 :: r) 1 = 43 := (byte_one _ _ _ (c := 43) (by decide)).2 rfl
  have hr : r.length ≤ 1000 := by simp at hl; omega
  by_cases h2 : (splitL 47 r).length = 2
  · obtain ⟨X, Y, hp⟩ := list_two h2
    obtain ⟨l1, l2⟩ := splitL_two_len hp
    rw [restW_two hp]
    exact (refpw_two1p _ hl (by simp) hj hb X Y hp (by omega) (by omega) _ _ rfl rfl w).mono fun e w' ⟨q1, q2⟩ => ⟨windR_two 1 false X Y e q1, q2⟩
  · rw [restW_else h2]
    exact refpw_len1 _ hl (by simp) hj (by rw [hb]; simp) h2 w
theorem refpw_j1m (r : List UInt8) (hl : (((100 : UInt8) :: 45 :: r)).length ≤ 1000) (w : World) :
    Calls Tryz.prog 24 #[.string ⟨(((100 : UInt8) :: 45 :: r)).toArray⟩] w fun e w' => windR ((restW r).map fun x => ⟨1, x.2, x.1, true⟩) e ∧ Below w.heap.size w w' := by
  have hj : byteL ((100 : UInt8) :: 45 :: r) 0 = 100 := (byte_zero _ _ (c := 100) (by decide)).2 rfl
  have hb : byteL ((100 : UInt8) :: 45 :: r) 1 = 45 := (byte_one _ _ _ (c := 45) (by decide)).2 rfl
  have hr : r.length ≤ 1000 := by simp at hl; omega
  by_cases h2 : (splitL 47 r).length = 2
  · obtain ⟨X, Y, hp⟩ := list_two h2
    obtain ⟨l1, l2⟩ := splitL_two_len hp
    rw [restW_two hp]
    exact (refpw_two1m _ hl (by simp) hj hb X Y hp (by omega) (by omega) _ _ rfl rfl w).mono fun e w' ⟨q1, q2⟩ => ⟨windR_two 1 true X Y e q1, q2⟩
  · rw [restW_else h2]
    exact refpw_len1 _ hl (by simp) hj (by rw [hb]; simp) h2 w
theorem refpw_j2p (r : List UInt8) (hl : (((122 : UInt8) :: 43 :: r)).length ≤ 1000) (w : World) :
    Calls Tryz.prog 24 #[.string ⟨(((122 : UInt8) :: 43 :: r)).toArray⟩] w fun e w' => windR ((restW r).map fun x => ⟨2, x.2, x.1, false⟩) e ∧ Below w.heap.size w w' := by
  have hj : byteL ((122 : UInt8) :: 43 :: r) 0 = 122 := (byte_zero _ _ (c := 122) (by decide)).2 rfl
  have hb : byteL ((122 : UInt8) :: 43 :: r) 1 = 43 := (byte_one _ _ _ (c := 43) (by decide)).2 rfl
  have hr : r.length ≤ 1000 := by simp at hl; omega
  by_cases h2 : (splitL 47 r).length = 2
  · obtain ⟨X, Y, hp⟩ := list_two h2
    obtain ⟨l1, l2⟩ := splitL_two_len hp
    rw [restW_two hp]
    exact (refpw_two2p _ hl (by simp) hj hb X Y hp (by omega) (by omega) _ _ rfl rfl w).mono fun e w' ⟨q1, q2⟩ => ⟨windR_two 2 false X Y e q1, q2⟩
  · rw [restW_else h2]
    exact refpw_len2 _ hl (by simp) hj (by rw [hb]; simp) h2 w
theorem refpw_j2m (r : List UInt8) (hl : (((122 : UInt8) :: 45 :: r)).length ≤ 1000) (w : World) :
    Calls Tryz.prog 24 #[.string ⟨(((122 : UInt8) :: 45 :: r)).toArray⟩] w fun e w' => windR ((restW r).map fun x => ⟨2, x.2, x.1, true⟩) e ∧ Below w.heap.size w w' := by
  have hj : byteL ((122 : UInt8) :: 45 :: r) 0 = 122 := (byte_zero _ _ (c := 122) (by decide)).2 rfl
  have hb : byteL ((122 : UInt8) :: 45 :: r) 1 = 45 := (byte_one _ _ _ (c := 45) (by decide)).2 rfl
  have hr : r.length ≤ 1000 := by simp at hl; omega
  by_cases h2 : (splitL 47 r).length = 2
  · obtain ⟨X, Y, hp⟩ := list_two h2
    obtain ⟨l1, l2⟩ := splitL_two_len hp
    rw [restW_two hp]
    exact (refpw_two2m _ hl (by simp) hj hb X Y hp (by omega) (by omega) _ _ rfl rfl w).mono fun e w' ⟨q1, q2⟩ => ⟨windR_two 2 true X Y e q1, q2⟩
  · rw [restW_else h2]
    exact refpw_len2 _ hl (by simp) hj (by rw [hb]; simp) h2 w

theorem refParsedWinding_any (l : List UInt8) (hl : l.length ≤ 1000) (w : World) :
    Calls Tryz.prog 24 #[.string ⟨l.toArray⟩] w fun e w' => windR (parseW l) e ∧ Below w.heap.size w w' := by
  rcases l with _ | ⟨a, _ | ⟨b, r⟩⟩
  · exact refpw_short [] (by simp) w
  · exact refpw_short [a] (by simp) w
  · rw [parse_two]
    by_cases c1 : b = 43
    · subst c1
      rw [if_pos (.inl rfl)]
      unfold kindOf
      by_cases a1 : a = 121
      · subst a1; exact refpw_j0p r hl w
      · by_cases a2 : a = 100
        · subst a2; exact refpw_j1p r hl w
        · by_cases a3 : a = 122
          · subst a3; exact refpw_j2p r hl w
          · rw [if_neg a1, if_neg a2, if_neg a3]
            exact refpw_kind _ hl (by simp) ⟨fun e => a1 ((byte_zero _ _ (c := 121) (by decide)).1 e), fun e => a2 ((byte_zero _ _ (c := 100) (by decide)).1 e), fun e => a3 ((byte_zero _ _ (c := 122) (by decide)).1 e)⟩ (.inl ((byte_one _ _ _ (c := 43) (by decide)).2 rfl)) w
    · by_cases c2 : b = 45
      · subst c2
        rw [if_pos (.inr rfl)]
        unfold kindOf
        by_cases a1 : a = 121
        · subst a1; exact refpw_j0m r hl w
        · by_cases a2 : a = 100
          · subst a2; exact refpw_j1m r hl w
          · by_cases a3 : a = 122
            · subst a3; exact refpw_j2m r hl w
            · rw [if_neg a1, if_neg a2, if_neg a3]
              exact refpw_kind _ hl (by simp) ⟨fun e => a1 ((byte_zero _ _ (c := 121) (by decide)).1 e), fun e => a2 ((byte_zero _ _ (c := 100) (by decide)).1 e), fun e => a3 ((byte_zero _ _ (c := 122) (by decide)).1 e)⟩ (.inr ((byte_one _ _ _ (c := 45) (by decide)).2 rfl)) w
      · rw [if_neg (fun h => by rcases h with h | h; exact c1 h; exact c2 h)]
        exact refpw_sign _ (by simp) (fun e => c1 ((byte_one _ _ _ (c := 43) (by decide)).1 e)) (fun e => c2 ((byte_one _ _ _ (c := 45) (by decide)).1 e)) w

end Go.Proofs.YtccpkheiokjcdaaGreatDoor
end
