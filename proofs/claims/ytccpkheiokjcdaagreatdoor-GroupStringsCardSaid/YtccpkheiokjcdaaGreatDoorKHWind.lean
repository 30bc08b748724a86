/- Contract: the winding of any string, joined from its leaves. -/
import Derived.Test.YtccpkheiokjcdaaGreatDoorKGWind
namespace Go.Proofs.YtccpkheiokjcdaaGreatDoor
open Go.RowKit

theorem patR_cons (a : UInt8) (r : List UInt8) : (patR (a :: r) = -1 ∧ kindOf a = none) ∨ (∃ k, patR (a :: r) = k ∧ 0 ≤ k ∧ k ≤ 2 ∧ kindOf a = some k) := by
  unfold patR kindOf
  rw [List.head?_cons]
  by_cases h1 : a = 121
  · exact .inr ⟨0, by rw [h1]; rfl, by decide, by decide, by rw [if_pos h1]⟩
  · by_cases h2 : a = 100
    · exact .inr ⟨1, by rw [h2]; rfl, by decide, by decide, by rw [if_neg h1, if_pos h2]⟩
    · by_cases h3 : a = 122
      · exact .inr ⟨2, by rw [h3]; rfl, by decide, by decide, by rw [if_neg h1, if_neg h2, if_pos h3]⟩
      · exact .inl ⟨by rw [if_neg (by simpa using h1), if_neg (by simpa using h2), if_neg (by simpa using h3)], by rw [if_neg h1, if_neg h2, if_neg h3]⟩
theorem byte_one (a b : UInt8) (r : List UInt8) {c : Nat} (hc : c < 256) : byteL (a :: b :: r) 1 = (c : Int) ↔ b = UInt8.ofNat c := by
  have h := drop_head (l := a :: b :: r) (k := 1) (by simp) (c := c) hc
  rw [← h]
  simp
theorem parse_two (a b : UInt8) (r : List UInt8) : parseW (a :: b :: r) = if b = 43 ∨ b = 45 then (kindOf a).bind fun kd => (restW r).map fun x => ⟨kd, x.2, x.1, b == 45⟩ else none := rfl
theorem parse_kind_none {l : List UInt8} (h : patR l = -1) : parseW l = none := by
  rcases l with _ | ⟨a, _ | ⟨b, r⟩⟩
  · rfl
  · rfl
  · rcases patR_cons a (b :: r) with ⟨_, h2⟩ | ⟨k, h2, h3, _⟩
    · rw [parse_two, h2]; split <;> rfl
    · omega
theorem parse_sign_none {a b : UInt8} {r : List UInt8} (h1 : b ≠ 43) (h2 : b ≠ 45) : parseW (a :: b :: r) = none := by
  rw [parse_two, if_neg (fun h => by rcases h with h | h; exact h1 h; exact h2 h)]
theorem parse_rest {a b : UInt8} {r : List UInt8} {k : Int} (hk : kindOf a = some k) (hb : b = 43 ∨ b = 45) : parseW (a :: b :: r) = (twoV (Lib.cut r [47]).1 (Lib.cut r [47]).2.1).map fun x => ⟨k, x.2, x.1, b == 45⟩ := by
  rw [parse_two, if_pos hb, hk, restW_cut]
  rfl

theorem winding_any (l : List UInt8) (hl : l.length ≤ 1000) (w : World) (hS : StrIn w) (hP : PatIn w) :
    Calls Tryz.prog 20 #[.string ⟨l.toArray⟩] w fun e w' => windR (parseW l) e ∧ Below w.heap.size w w' := by
  rcases l with _ | ⟨a, r⟩
  · rw [show parseW [] = none from rfl]
    exact winding_no [] hl rfl w hS hP
  · rcases patR_cons a r with ⟨h1, h2⟩ | ⟨k, h1, h2, h3, h4⟩
    · rw [parse_kind_none h1]
      exact winding_no _ hl h1 w hS hP
    · rcases r with _ | ⟨b, r⟩
      · rw [show parseW [a] = none from rfl]
        exact winding_short _ hl k h1 h2 (by simp) w hS hP
      · by_cases c1 : b = 43
        · rw [parse_rest h4 (.inl c1)]
          have hb : byteL (a :: b :: r) 1 = 43 := (byte_one a b r (c := 43) (by decide)).2 c1
          have he : (b == 45) = false := by rw [c1]; rfl
          unfold twoV
          cases n1 : numP (Lib.cut r [47]).1 with
          | none => exact winding_none1plus _ hl k h1 h2 (by simp) hb n1 w hS hP
          | some sh =>
            cases n2 : numP (Lib.cut r [47]).2.1 with
            | none => exact winding_none2plus _ hl k h1 h2 (by simp) hb sh n1 n2 w hS hP
            | some tn =>
              have q := winding_someplus _ hl k h1 h2 (by simp) hb sh n1 tn n2 w hS hP
              rw [← he] at q
              exact q
        · by_cases c2 : b = 45
          · rw [parse_rest h4 (.inr c2)]
            have hb : byteL (a :: b :: r) 1 = 45 := (byte_one a b r (c := 45) (by decide)).2 c2
            have he : (b == 45) = true := by rw [c2]; rfl
            unfold twoV
            cases n1 : numP (Lib.cut r [47]).1 with
            | none => exact winding_none1minus _ hl k h1 h2 (by simp) hb n1 w hS hP
            | some sh =>
              cases n2 : numP (Lib.cut r [47]).2.1 with
              | none => exact winding_none2minus _ hl k h1 h2 (by simp) hb sh n1 n2 w hS hP
              | some tn =>
                have q := winding_someminus _ hl k h1 h2 (by simp) hb sh n1 tn n2 w hS hP
                rw [← he] at q
                exact q
          · rw [parse_sign_none c1 c2]
            exact winding_sign _ hl k h1 h2 (by simp) (fun e => c1 ((byte_one a b r (c := 43) (by decide)).1 e)) (fun e => c2 ((byte_one a b r (c := 45) (by decide)).1 e)) w hS hP

theorem winding_none (l : List UInt8) (hl : l.length ≤ 1000) (h : parseW l = none) (w : World) (hS : StrIn w) (hP : PatIn w) : Calls Tryz.prog 20 #[.string ⟨l.toArray⟩] w fun e w' => (∃ k t s r, e = .returned (.tuple #[.agg #[.int .i64 k, .int .i64 t, .int .i64 s, .bool r], .bool false])) ∧ Below w.heap.size w w' := by
  have q := winding_any l hl w hS hP
  rw [h] at q
  exact q
theorem winding_some (l : List UInt8) (hl : l.length ≤ 1000) (x : Wind) (h : parseW l = some x) (w : World) (hS : StrIn w) (hP : PatIn w) : Calls Tryz.prog 20 #[.string ⟨l.toArray⟩] w fun e w' => e = .returned (.tuple #[.agg #[.int .i64 x.kind, .int .i64 x.turns, .int .i64 x.shift, .bool x.rev], .bool true]) ∧ Below w.heap.size w w' := by
  have q := winding_any l hl w hS hP
  rw [h] at q
  exact q

end Go.Proofs.YtccpkheiokjcdaaGreatDoor
