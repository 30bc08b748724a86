/- WorksOverlaps: for every input the law returns true, and nothing that was there is turned (the walk). A slice whose cells lie in memory. -/
import Derived.Test.YtlgioldmjohhlaaZZAOver
import Derived.Test.YtlgioldmjohhlaaZXStacks
import Derived.Deep.RegionHeld3
namespace Go.Proofs.Ytlgioldmjohhlaa
open Go.RowKit Over


set_option maxHeartbeats 4000000 in
set_option maxRecDepth 100000 in
theorem over_skip (A : Option Addr) (c : Nat) (xs : List Int) (count overlap : Int) (w : World) (h : 8 < xs.length ∨ (xs.length ≤ 8 ∧ withinB count 1 7 = false) ∨ (xs.length ≤ 8 ∧ withinB count 1 7 = true ∧ withinB overlap 0 7 = false)) :
    Calls Try.prog 5 #[.slice A xs.length c, .int .i64 count, .int .i64 overlap] w fun e w' => e = .returned (.bool true) ∧ Below w.heap.size w w' := by
  have HBx := Lib.hid (Below.refl w.heap.size w)
  rcases h with h | ⟨h, h2⟩ | ⟨h, h2, h3⟩
  · have hd : decide ((8 : Int) < (xs.length : Int)) = true := decide_eq_true (by omega)
    go_enter Try.func5, Try.ntmps5
    go_wp2_with (first
      | (go_at_call 15; refine (awake_any _).mono ?_; rintro e w1 ⟨rfl, hb⟩; replace HBx := Lib.hid (pt HBx.out hb); clear hb)
      | (go_at_call 32; refine (baseWithin_any _ _ _ _).mono ?_; rintro e w' ⟨rfl, rfl⟩))
    go_ret
    exact ⟨rfl, HBx.out⟩
  · have hd : decide ((8 : Int) < (xs.length : Int)) = false := decide_eq_false (by omega)
    go_enter Try.func5, Try.ntmps5
    go_wp2_with (first
      | (go_at_call 15; refine (awake_any _).mono ?_; rintro e w1 ⟨rfl, hb⟩; replace HBx := Lib.hid (pt HBx.out hb); clear hb)
      | (go_at_call 32; refine (baseWithin_any _ _ _ _).mono ?_; rintro e w' ⟨rfl, rfl⟩))
    go_ret
    exact ⟨rfl, HBx.out⟩
  · have hd : decide ((8 : Int) < (xs.length : Int)) = false := decide_eq_false (by omega)
    go_enter Try.func5, Try.ntmps5
    go_wp2_with (first
      | (go_at_call 15; refine (awake_any _).mono ?_; rintro e w1 ⟨rfl, hb⟩; replace HBx := Lib.hid (pt HBx.out hb); clear hb)
      | (go_at_call 32; refine (baseWithin_any _ _ _ _).mono ?_; rintro e w' ⟨rfl, rfl⟩))
    go_ret
    exact ⟨rfl, HBx.out⟩

/-- Two rows of the call's own that lie apart. -/
structure Two (base : Nat) (W : World) (v1 : Value) (n1 : Nat) (l1 : List Int) (v2 : Value) (n2 : Nat) (l2 : List Int) : Prop where
  fst : W.ownsRow base 3 1 v1 n1 (l1.map (Value.int .i64))
  snd : W.ownsRow base 3 1 v2 n2 (l2.map (Value.int .i64))
  ne : v1.ownBlock = none ∨ v1.ownBlock ≠ v2.ownBlock
section
variable {base : Nat} {W W' : World} {v1 v2 : Value} {n1 n2 : Nat} {l1 l2 : List Int}
theorem Two.alloc (h : Two base W v1 n1 l1 v2 n2 l2) (o : Obj) : Two base (W.alloc o) v1 n1 l1 v2 n2 l2 := ⟨h.fst.alloc o, h.snd.alloc o, h.ne⟩
theorem Two.drew (h : Two base W v1 n1 l1 v2 n2 l2) : Two base W.drew v1 n1 l1 v2 n2 l2 := ⟨h.fst.drew, h.snd.drew, h.ne⟩
theorem Two.turn (h : Two base W v1 n1 l1 v2 n2 l2) : Two base W v2 n2 l2 v1 n1 l1 := ⟨h.snd, h.fst, by
  rcases h.ne with h | h
  · cases h2 : v2.ownBlock with
    | none => exact .inl rfl
    | some g => exact .inr (by rw [h]; simp)
  · exact .inr h.symm⟩
theorem Two.grow (h : Two base W v1 n1 l1 v2 n2 l2) {g cap m : Nat} {l : List Int} (ho : W'.ownsRow base 3 1 (.slice (some ⟨g, 0, none⟩) m cap) m (l.map (Value.int .i64))) (hg : W.grownBy W' v1.ownBlock) (hat : v1.ownBlock = some g ∨ g = W.heap.size) :
    Two base W' (.slice (some ⟨g, 0, none⟩) m cap) m l v2 n2 l2 := by
  have hn := h.turn.ne
  refine ⟨ho, h.snd.kept hg hn, .inr ?_⟩
  show some g ≠ v2.ownBlock
  rcases hat with h1 | h1
  · rw [← h1]
    rcases hn with h2 | h2
    · rw [h2, h1]; simp
    · exact h2.symm
  · intro e
    have := (h.snd.lt g e.symm).2
    omega
end


theorem getD_add {l : List Int} {y : Int} {k j : Nat} (hl : l.length = k) (hj : j < k + 1) : (l ++ [y]).getD j 0 = if j < k then l.getD j 0 else y := by
  by_cases h : j < k
  · rw [if_pos h]
    simp [List.getD, List.getElem?_append_left (show j < l.length by omega)]
  · obtain rfl : j = l.length := by omega
    rw [if_neg h]
    simp [List.getD]


theorem checkStack_n (n : Nat) (B : Nat) (A : Option Addr) (c : Nat) (xs : List Int) (overlap : Int) (w : World) (hr : IntsIn B w A xs) (hn : xs.length = n) (hB : B ≤ w.heap.size) (hm : n ≤ 1000) (hcap : n ≤ c) :
    Calls Try.prog 23 #[.slice A n c, .int .i64 overlap] w fun e w' =>
      e = .returned (.tuple #[.int .i64 ((checkStackV xs overlap).1 : Int), .int .i64 (checkStackV xs overlap).2]) ∧ Below w.heap.size w w' := by
  subst hn
  exact checkStack_any B A c xs overlap w hr hB hm hcap

set_option maxHeartbeats 16000000 in
set_option maxRecDepth 100000 in
theorem over_a (A : Option Addr) (c : Nat) (xs : List Int) (count : Nat) (overlap : Int) (w : World) (hr : IntsIn w.heap.size w A xs) (hcap : xs.length ≤ c) (hl : xs.length ≤ 8) (hc1 : 1 ≤ count) (hc7 : count ≤ 7) (ho0 : 0 ≤ overlap) (ho7 : overlap ≤ 7)
    (L : List Int) (N M : Nat) (hfor : ∀ W, Calls Try.prog 25 #[.int .i64 (count : Int), .int .i64 overlap] W (SliceErrRet W L 0))
    (hof : ∀ W, Calls Try.prog 26 #[.int .i64 (count : Int), .int .i64 overlap] W fun e w' => e = .returned (.tuple #[.int .i64 (N : Int), .int .i64 0]) ∧ Below W.heap.size W w')
    (hof1 : ∀ W, Calls Try.prog 26 #[.int .i64 (count : Int), .int .i64 (overlap + 1)] W fun e w' => e = .returned (.tuple #[.int .i64 (M : Int), .int .i64 0]) ∧ Below W.heap.size W w')
    (hMN : M ≤ N) (hN : N ≤ 16777216) (hp1 : decide ((1 : Int) < (count : Int)) = false) (hp2 : True) (hpos : decide ((0 : Int) < (N : Int)) = true) (hlc : ((L.length : Int) != (count : Int)) = false) (hL8 : L.length ≤ 8) (hck : (checkStackV L overlap).2 = 0) :
    Calls Try.prog 5 #[.slice A xs.length c, .int .i64 (count : Int), .int .i64 overlap] w fun e w' => e = .returned (.bool true) ∧ Below w.heap.size w w' := by
  have hu := And.intro hp2 (And.intro hlc hL8)
  clear hu
  obtain ⟨i0, hi0, hz0, hz1, hz2⟩ := info_parts int_info
  have HBx := Lib.hid (Below.refl w.heap.size w)
  have HR := Lib.hid hr
  have hd : decide ((8 : Int) < (xs.length : Int)) = false := decide_eq_false (by omega)
  have hw1 : withinB (count : Int) 1 7 = true := by simp [withinB]; omega
  have hw2 : withinB overlap 0 7 = true := by simp [withinB]; omega
  have HFor := Lib.hid hfor
  have HOf := Lib.hid hof
  have HOf1 := Lib.hid hof1
  have hN0 : decide ((N : Int) < 0) = false := decide_eq_false (by omega)
  have hNM : decide ((N : Int) < (M : Int)) = false := decide_eq_false (by omega)
  have hNM' : decide (N < M) = false := decide_eq_false (by omega)
  have hpos' : decide (0 < N) = true := by
    rw [← hpos]
    exact decide_eq_decide.2 (by omega)
  have hp1' : decide (1 < count) = false := by
    rw [← hp1]
    exact decide_eq_decide.2 (by omega)
  have HCk := Lib.hid hck
  clear hr hfor hof hof1 hck
  go_enter Try.func5, Try.ntmps5
  go_wp2_with (first
    | (go_at_call 15; refine (awake_any _).mono ?_; rintro e w1 ⟨rfl, hb⟩; replace HBx := Lib.hid (pt HBx.out hb); clear hb)
    | (go_at_call 32; refine (baseWithin_any _ _ _ _).mono ?_; rintro e w' ⟨rfl, rfl⟩)
    | (go_at_call 25; go_must (refine (HFor.out _).mono ?_); rintro e w2 ⟨A2, c2, rfl, hi2, hc2, hb⟩; replace HBx := Lib.hid (pt HBx.out hb); clear hb; have HI2 := Lib.hid hi2; clear hi2)
    | (go_at_call 26; (with_reducible refine (HOf.out _).mono ?_); rintro e w3 ⟨rfl, hb⟩; replace HI2 := Lib.hid ((HI2.out.below hb).more hb.size); replace HBx := Lib.hid (pt HBx.out hb); clear hb)
    | (go_at_call 26; go_must (refine (HOf1.out _).mono ?_); rintro e w4 ⟨rfl, hb⟩; replace HI2 := Lib.hid ((HI2.out.below hb).more hb.size); replace HBx := Lib.hid (pt HBx.out hb); clear hb)
    | (go_at_call 24; (with_reducible refine (copyInts_any _ A2 L.length c2 L _ HI2.out rfl (Nat.le_refl _) (by omega)).mono ?_); rintro e w5 ⟨v4, rfl, hown4, hb⟩; obtain ⟨A4, c4, rfl, hc4, hm4⟩ := own_form hown4; have HI4 := Lib.hid (intsIn_of_own hown4); replace HBx := Lib.hid (pt HBx.out hb); clear hb; clear hown4)
    | (go_at_call 23; (with_reducible refine (checkStack_any _ A4 c4 L overlap _ HI4.out (Nat.le_refl _) (by omega) hc4).mono ?_); rintro e w6 ⟨rfl, hb⟩; rw [HCk.out]; replace HBx := Lib.hid (pt HBx.out hb); clear hb))
  clear hlc hpos hN0 hNM hp1 hp2 hNM' hpos' hp1' hw1 hw2 hd HCk HFor HOf HOf1
  go_loopw [15] (fun i wr => ∃ k : Nat, k ≤ xs.length ∧ i = .int .i64 (k : Int) ∧ (∀ j, j < k → offErr xs j = 0) ∧ Below w.heap.size w wr) (fun i _ => xs.length - (intOf i).toNat)
  case atStart => exact ⟨0, Nat.zero_le _, rfl, fun j hj => by omega, HBx.out⟩
  case round =>
    obtain ⟨k, hk, rfl, hf, hq⟩ := hrel
    clear HBx
    by_cases hlt : k < xs.length
    · have hrw := HR.out.below hq
      have hsz := hq.size
      obtain ⟨b, off, rfl, hbB, hct⟩ := hrw.at_ hlt
      have hcell := hct k hlt
      have hbw : b < wr.heap.size := by omega
      have HRw := Lib.hid (show ∀ nq, IntsIn w.heap.size (wr.drewN nq) (some ⟨b, off, none⟩) (xs.take k) from fun nq => (hrw.below (below_drewN' (Below.refl _ _) nq)).take k)
      have HF := Lib.hid hf
      have HO := Lib.hid (off_zero xs k)
      have i0 : (0 : Int) ≤ (k : Int) := by omega
      have i1 : (k : Int) ≤ (c : Int) := by omega
      have i2 : (k : Int) < (xs.length : Int) := by omega
      have hk1000 : k ≤ 1000 := by omega
      have HT := Lib.hid (show (xs.take k).length = k by simp; omega)
      clear hrw hct hf
      have HW := Lib.hid fun W => baseWithin_any (xs.getD k 0) 0 ((xs.length : Int) - 1) W
      have HH := Lib.hid fun nq => baseHas_n k _ _ c (xs.take k) (xs.getD k 0) _ (HRw.out nq) HT.out hk1000
      generalize xs.getD k 0 = x at *
      have hw1 : IntKind.i64.wrap ((xs.length : Int) - 1) = (xs.length : Int) - 1 := IntWalk.i64_in _ (by omega)
      cases hwi : withinB x 0 ((xs.length : Int) - 1)
      · have hww := HW.out
        rw [hwi] at hww
        replace HW := Lib.hid hww
        clear hww
        go_wp2
        go_quiet ((go_at_call 32; exact Calls.quiet_of_same ((HW.out _).mono fun e w' h => ⟨h.1, h.2.symm⟩)))
        go_wp2
        go_ret
        exact ⟨rfl, below_drewN' hq nq⟩
      · have hww := HW.out
        rw [hwi] at hww
        replace HW := Lib.hid hww
        clear hww
        cases hha : hasB (xs.take k) x
        · have hhh := HH.out
          rw [hha] at hhh
          replace HH := Lib.hid hhh
          clear hhh
          go_wp2
          go_quiet (first | (go_at_call 32; exact Calls.quiet_of_same ((HW.out _).mono fun e w' h => ⟨h.1, h.2.symm⟩)) | (go_at_call 33; exact Calls.quiet_of_same ((HH.out _).mono fun e w' h => ⟨h.1, h.2.symm⟩)))
          go_wp2
          go_roundw
          case rel => exact ⟨k + 1, by omega, by go_num, fun j hj => by
            rcases Nat.lt_or_ge j k with h | h
            · exact HF.out j h
            · obtain rfl : j = k := by omega
              refine HO.out.2 ⟨?_, hha⟩
              simpa [withinB] using hwi, below_drewN' hq nq⟩
          case measure => simp [intOf]; omega
        · have hhh := HH.out
          rw [hha] at hhh
          replace HH := Lib.hid hhh
          clear hhh
          go_wp2
          go_quiet (first | (go_at_call 32; exact Calls.quiet_of_same ((HW.out _).mono fun e w' h => ⟨h.1, h.2.symm⟩)) | (go_at_call 33; exact Calls.quiet_of_same ((HH.out _).mono fun e w' h => ⟨h.1, h.2.symm⟩)))
          go_wp2
          go_ret
          exact ⟨rfl, below_drewN' hq nq⟩
    · obtain rfl : k = xs.length := by omega
      have hP := (perm_iff xs).1 hf
      have HP := Lib.hid hP
      have HBx := Lib.hid hq
      clear hf hP hq
      by_cases hz : xs.length = 0
      · have hz1 : ((xs.length : Int) == 0) = true := by simp [hz]
        go_wp2
        go_ret
        exact ⟨rfl, HBx.out⟩
      · have hz1 : ((xs.length : Int) == 0) = false := by simp [hz]
        go_wp2
        clear hz1
        go_loopw [16, 17, 18] (fun ov tv iv wr => ∃ (k : Nat) (A16 A17 : Option Addr) (c16 c17 : Nat) (l16 l17 : List Int), iv = .int .i64 (k : Int) ∧ ov = .slice A16 k c16 ∧ tv = .slice A17 k c17 ∧ k ≤ xs.length ∧ l16.length = k ∧ l17.length = k ∧ (∀ j, j < k → l16.getD j 0 = xs.getD (xs.length - 1 - j) 0) ∧ (∀ j, j < k → l17.getD j 0 = (xs.length : Int) - 1 - xs.getD j 0) ∧ Two w.heap.size wr (.slice A16 k c16) k l16 (.slice A17 k c17) k l17 ∧ Below w.heap.size w wr) (fun _ _ iv _ => xs.length - (intOf iv).toNat)
        case atStart => exact ⟨0, none, none, 0, 0, [], [], rfl, rfl, rfl, Nat.zero_le _, rfl, rfl, fun j hj => by omega, fun j hj => by omega, ⟨World.ownsRow_nil _ _ _ _, World.ownsRow_nil _ _ _ _, .inl rfl⟩, HBx.out⟩
        case round =>
          obtain ⟨k, A16, A17, c16, c17, l16, l17, rfl, rfl, rfl, hk2, hn16, hn17, hg16, hg17, hT, hq⟩ := hrel
          clear HBx
          have hsz := hq.size
          by_cases hlt : k < xs.length
          · have hrw := HR.out.below hq
            obtain ⟨b, off, rfl, hbB, hct⟩ := hrw.at_ hlt
            have hcell := hct (xs.length - 1 - k) (by omega)
            have hcell2 := hct k hlt
            have hbw : b < wr.heap.size := by omega
            have HT := Lib.hid hT
            have HG16 := Lib.hid hg16
            have HG17 := Lib.hid hg17
            have HN16 := Lib.hid hn16
            have HN17 := Lib.hid hn17
            have HQ := Lib.hid hq
            have hy := HP.out.rng k hlt
            have n16 : (Value.slice A16 k c16).ownBlock ≠ some b := fun e => by have := (hT.fst.lt b e).1; omega
            have n17 : (Value.slice A17 k c17).ownBlock ≠ some b := fun e => by have := (hT.snd.lt b e).1; omega
            have m16 : ∀ g, (Value.slice A16 k c16).ownBlock = some g → g < wr.heap.size := fun g e => (hT.fst.lt g e).2
            have hmx : k + 1 ≤ maxLen := by simp only [maxLen]; omega
            have hby : (k + 1) * 8 ≤ 140737488355328 := by omega
            clear hrw hct hT hg16 hg17 hn16 hn17
            have HY1 := Lib.hid (show xs.getD (xs.length - 1 - k) 0 = xs.getD (xs.length - 1 - k) 0 from rfl)
            obtain ⟨y1, hy1⟩ : ∃ y1, y1 = xs.getD (xs.length - 1 - k) 0 := ⟨_, rfl⟩
            obtain ⟨y2, hy2⟩ : ∃ y2, y2 = xs.getD k 0 := ⟨_, rfl⟩
            rw [← hy1] at hcell
            rw [← hy2] at hcell2 hy
            have HY1 := Lib.hid hy1
            have HY2 := Lib.hid hy2
            clear hy1 hy2
            obtain ⟨z, hz0⟩ : ∃ z : Int, z = (xs.length : Int) - 1 - (k : Int) := ⟨_, rfl⟩
            obtain ⟨z2, hz3⟩ : ∃ z2 : Int, z2 = (xs.length : Int) - 1 - y2 := ⟨_, rfl⟩
            have q0 : (0 : Int) ≤ z := by omega
            have q1 : z < (xs.length : Int) := by omega
            have q2 : z.toNat = xs.length - 1 - k := by omega
            have q3 : (0 : Int) ≤ (k : Int) := by omega
            have q4 : (k : Int) < (xs.length : Int) := by omega
            go_wp2
            have e1 : IntKind.i64.wrap ((xs.length : Int) - 1) = (xs.length : Int) - 1 := IntWalk.i64_in _ (by omega)
            have e2 : IntKind.i64.wrap ((xs.length : Int) - 1 - (k : Int)) = z := (IntWalk.i64_in _ (by omega)).trans hz0.symm
            have e3 : IntKind.i64.wrap ((xs.length : Int) - 1 - y2) = z2 := (IntWalk.i64_in _ (by omega)).trans hz3.symm
            have HZ2 := Lib.hid hz3
            clear hz0 hz3
            generalize hnk : xs.length - 1 - k = nk at *
            have HNk := Lib.hid hnk
            clear hnk
            go_region_held3 (fun w' => w'.cell? ⟨b, off + nk, none⟩ = some (.int .i64 y1) ∧ w'.cell? ⟨b, off + k, none⟩ = some (.int .i64 y2))
              (first
                | go_keep
                | (go_split_ands; refine ⟨?_, ?_⟩ <;> (rw [hgrow.cell_far _ (by simp; omega) (Ne.symm n16)]; assumption))
                | (go_split_ands; refine ⟨?_, ?_⟩ <;> (rw [hgrow2.cell_far _ (by simp; omega) (Ne.symm n17)]; assumption)))
              (first
                | ((refine step_append_lies _ (by rfl) _ _ _ (by rfl) w.heap.size 3 i0 _ 1 8 Try.underlying28 hi0 hz0 hz1 hz2 rfl (by omega) (.slice A16 k c16) k (l16.map (Value.int .i64)) (by rfl) (HT.out.alloc _).drew.fst ⟨wr.heap.size, 0, none⟩ 1 1 [.int .i64 y1] (by rfl) (by rfl) (World.news_of_block (cs := #[.int .i64 y1]) (t := 3) (fr := (0, 0)) (Blk.new wr _ _)) (by simp [Value.oneCell']) (by omega) hmx hby (by first | omega | (simp; omega)) _ rfl ?_; intro g1 cap1 w1 hown1 hgrow hat hlt1; have hb1 := pg (pd (pa HQ.out)) (HT.out.alloc _).drew.fst (Nat.le_refl _) hgrow; have T1 := (HT.out.alloc _).drew.grow (l := l16 ++ [y1]) (by simpa using hown1) hgrow hat; have hs1 := hb1.size))
                | ((refine step_append_lies _ (by rfl) _ _ _ (by rfl) w.heap.size 3 i0 _ 1 8 Try.underlying28 hi0 hz0 hz1 hz2 rfl (by omega) (.slice A16 k c16) k (l16.map (Value.int .i64)) (by rfl) ((HT.out.alloc _).alloc _).drew.fst ⟨wr.heap.size, 0, none⟩ 1 1 [.int .i64 y1] (by rfl) (by rfl) (World.news_of_block (cs := #[.int .i64 y1]) (t := 3) (fr := (0, 0)) (Blk.new wr _ _).alloc) (by simp [Value.oneCell']) (by omega) hmx hby (by first | omega | (simp; omega)) _ rfl ?_; intro g1 cap1 w1 hown1 hgrow hat hlt1; have hb1 := pg (pd (pa (pa HQ.out))) ((HT.out.alloc _).alloc _).drew.fst (Nat.le_refl _) hgrow; have T1 := ((HT.out.alloc _).alloc _).drew.grow (l := l16 ++ [y1]) (by simpa using hown1) hgrow hat; (have hs1 := hb1.size; have q5 : Blk w1 (wr.heap.size + 1) 3 #[.int .i64 z2] := Blk.grown (show Blk ((wr.alloc (.cells #[.int .i64 y1] 3)).alloc (.cells #[.int .i64 z2] 3)) (wr.heap.size + 1) 3 #[.int .i64 z2] from Blk.newAt (by simp)).drew hgrow (fun e => by have := m16 _ e.symm; omega))))
                | ((refine step_append_lies _ (by rfl) _ _ _ (by rfl) w.heap.size 3 i0 _ 1 8 Try.underlying28 hi0 hz0 hz1 hz2 rfl (by omega) (.slice A16 k c16) k (l16.map (Value.int .i64)) (by rfl) ((HT.out.alloc _).alloc _).drew.fst ⟨wr.heap.size + 1, 0, none⟩ 1 1 [.int .i64 y1] (by rfl) (by rfl) (World.news_of_block (cs := #[.int .i64 y1]) (t := 3) (fr := (0, 0)) (show Blk ((wr.alloc (.cells #[.int .i64 z2] 3)).alloc (.cells #[.int .i64 y1] 3)) (wr.heap.size + 1) 3 #[.int .i64 y1] from Blk.newAt (by simp))) (by simp [Value.oneCell']) (by omega) hmx hby (by first | omega | (simp; omega)) _ rfl ?_; intro g1 cap1 w1 hown1 hgrow hat hlt1; have hb1 := pg (pd (pa (pa HQ.out))) ((HT.out.alloc _).alloc _).drew.fst (Nat.le_refl _) hgrow; have T1 := ((HT.out.alloc _).alloc _).drew.grow (l := l16 ++ [y1]) (by simpa using hown1) hgrow hat; (have hs1 := hb1.size; have q5 : Blk w1 wr.heap.size 3 #[.int .i64 z2] := Blk.grown (Blk.new wr _ _).alloc.drew hgrow (fun e => by have := m16 _ e.symm; omega))))
                | ((refine step_append_lies _ (by rfl) _ _ _ (by rfl) w.heap.size 3 i0 _ 1 8 Try.underlying28 hi0 hz0 hz1 hz2 rfl (by omega) (.slice A17 k c17) k (l17.map (Value.int .i64)) (by rfl) (T1.alloc _).snd ⟨w1.heap.size, 0, none⟩ 1 1 [.int .i64 z2] (by rfl) (by rfl) (World.news_of_block (cs := #[.int .i64 z2]) (t := 3) (fr := (0, 0)) (Blk.new w1 _ _)) (by simp [Value.oneCell']) (by omega) hmx hby (by first | omega | (simp; omega)) _ rfl ?_; intro g2 cap2 w2 hown2 hgrow2 hat2 hlt2; have hb2 := pg (pa hb1) (T1.alloc _).snd (Nat.le_refl _) hgrow2; have T2 := ((T1.alloc _).turn.grow (l := l17 ++ [z2]) (by simpa using hown2) hgrow2 hat2).turn))
                | ((refine step_append_lies _ (by rfl) _ _ _ (by rfl) w.heap.size 3 i0 _ 1 8 Try.underlying28 hi0 hz0 hz1 hz2 rfl (by omega) (.slice A17 k c17) k (l17.map (Value.int .i64)) (by rfl) T1.snd ⟨wr.heap.size + 1, 0, none⟩ 1 1 [.int .i64 z2] (by rfl) (by rfl) (World.news_of_block (cs := #[.int .i64 z2]) (t := 3) (fr := (0, 0)) q5) (by simp [Value.oneCell']) (by omega) hmx hby (by first | omega | (simp; omega)) _ rfl ?_; intro g2 cap2 w2 hown2 hgrow2 hat2 hlt2; have hb2 := pg hb1 T1.snd (Nat.le_refl _) hgrow2; have T2 := (T1.turn.grow (l := l17 ++ [z2]) (by simpa using hown2) hgrow2 hat2).turn))
                | ((refine step_append_lies _ (by rfl) _ _ _ (by rfl) w.heap.size 3 i0 _ 1 8 Try.underlying28 hi0 hz0 hz1 hz2 rfl (by omega) (.slice A17 k c17) k (l17.map (Value.int .i64)) (by rfl) T1.snd ⟨wr.heap.size, 0, none⟩ 1 1 [.int .i64 z2] (by rfl) (by rfl) (World.news_of_block (cs := #[.int .i64 z2]) (t := 3) (fr := (0, 0)) q5) (by simp [Value.oneCell']) (by omega) hmx hby (by first | omega | (simp; omega)) _ rfl ?_; intro g2 cap2 w2 hown2 hgrow2 hat2 hlt2; have hb2 := pg hb1 T1.snd (Nat.le_refl _) hgrow2; have T2 := (T1.turn.grow (l := l17 ++ [z2]) (by simpa using hown2) hgrow2 hat2).turn)))
            all_goals
              clear hgrow hgrow2 hown1 hown2 hat hat2 hlt1 hlt2 T1 hb1
              have HT2 := Lib.hid T2
              have HB2 := Lib.hid hb2
              clear T2 hb2 e1 e2 e3 q0 q1 q2
              go_wp2
              go_roundw
              case rel =>
                refine ⟨k + 1, some ⟨g1, 0, none⟩, some ⟨g2, 0, none⟩, cap1, cap2, l16 ++ [y1], l17 ++ [z2], by go_num, rfl, rfl, by omega, by simp [HN16.out], by simp [HN17.out], fun j hj => ?_, fun j hj => ?_, HT2.out, HB2.out⟩
                · rw [getD_add HN16.out hj]
                  by_cases h : j < k
                  · rw [if_pos h, HG16.out j h]
                  · obtain rfl : j = k := by omega
                    rw [if_neg h, HY1.out, HNk.out]
                · rw [getD_add HN17.out hj]
                  by_cases h : j < k
                  · rw [if_pos h, HG17.out j h]
                  · obtain rfl : j = k := by omega
                    rw [if_neg h, HZ2.out, HY2.out]
              case measure => simp [intOf]; omega
          · obtain rfl : k = xs.length := by omega
            have hE : stackE xs.length overlap = 0 := (unless_ne (by decide)).2 (by simp [withinB]; omega)
            have hB : Back xs l16 := ⟨hn16, hg16⟩
            have hO : Opp xs l17 := ⟨hn17, hg17⟩
            have hb16 := hB.check overlap hE HP.out
            have hb17 := hO.check overlap hE HP.out
            have hcase := check_gap xs overlap hE ((perm_iff xs).2 HP.out)
            obtain ⟨_, _, hv16, hk16, _⟩ := own_form hT.fst
            obtain ⟨_, _, hv17, hk17, _⟩ := own_form hT.snd
            have hm16 : xs.length ≤ c16 := by injection hv16 with _ _ h; omega
            have hm17 : xs.length ≤ c17 := by injection hv17 with _ _ h; omega
            have HI16 := Lib.hid (intsIn_of_own hT.fst)
            have HI17 := Lib.hid (intsIn_of_own hT.snd)
            have HN16 := Lib.hid hn16
            have HN17 := Lib.hid hn17
            have HBx := Lib.hid hq
            obtain ⟨a, ha⟩ : ∃ a, a = (checkStackV xs overlap).2 := ⟨_, rfl⟩
            rw [← ha] at hb16 hb17 hcase
            have HA1 := Lib.hid ha.symm
            have HA16 := Lib.hid hb16.symm
            have HA17 := Lib.hid hb17.symm
            clear hE hB hO hb16 hb17 hv16 hv17 hk16 hk17 hn16 hn17 hg16 hg17 hT hq ha HP
            rcases hcase with rfl | rfl
            all_goals
              go_wp2_with (first
                | (go_at_call 24; go_must (refine (copyInts_any w.heap.size A xs.length c xs _ (HR.out.below HBx.out) rfl HBx.out.size (by omega)).mono ?_); rintro e w2 ⟨v1, rfl, hown1, hb⟩; obtain ⟨A1, c1, rfl, hcx1, hm1⟩ := own_form hown1; have HI1 := Lib.hid (intsIn_of_own hown1); replace HI16 := Lib.hid ((HI16.out.below hb).more hb.size); replace HI17 := Lib.hid ((HI17.out.below hb).more hb.size); replace HBx := Lib.hid (pt HBx.out hb); clear hb; clear hown1)
                | (go_at_call 23; (with_reducible refine (checkStack_n xs.length _ A1 c1 xs overlap _ HI1.out rfl (Nat.le_refl _) (by omega) hcx1).mono ?_); rintro e w3 ⟨rfl, hb⟩; rw [HA1.out]; replace HI16 := Lib.hid ((HI16.out.below hb).more hb.size); replace HI17 := Lib.hid ((HI17.out.below hb).more hb.size); replace HBx := Lib.hid (pt HBx.out hb); clear hb)
                | (go_at_call 23; (with_reducible refine (checkStack_n xs.length _ A16 c16 l16 overlap _ HI16.out HN16.out (Nat.le_refl _) (by omega) hm16).mono ?_); rintro e w3 ⟨rfl, hb⟩; rw [HA16.out]; replace HI16 := Lib.hid ((HI16.out.below hb).more hb.size); replace HI17 := Lib.hid ((HI17.out.below hb).more hb.size); replace HBx := Lib.hid (pt HBx.out hb); clear hb)
                | (go_at_call 23; go_must (refine (checkStack_n xs.length _ A17 c17 l17 overlap _ HI17.out HN17.out (Nat.le_refl _) (by omega) hm17).mono ?_); rintro e w3 ⟨rfl, hb⟩; rw [HA17.out]; replace HI16 := Lib.hid ((HI16.out.below hb).more hb.size); replace HI17 := Lib.hid ((HI17.out.below hb).more hb.size); replace HBx := Lib.hid (pt HBx.out hb); clear hb))
              go_ret
              exact ⟨rfl, HBx.out⟩
set_option maxHeartbeats 16000000 in
set_option maxRecDepth 100000 in
theorem over_b (A : Option Addr) (c : Nat) (xs : List Int) (count : Nat) (overlap : Int) (w : World) (hr : IntsIn w.heap.size w A xs) (hcap : xs.length ≤ c) (hl : xs.length ≤ 8) (hc1 : 1 ≤ count) (hc7 : count ≤ 7) (ho0 : 0 ≤ overlap) (ho7 : overlap ≤ 7)
    (L : List Int) (N M : Nat) (hfor : ∀ W, Calls Try.prog 25 #[.int .i64 (count : Int), .int .i64 overlap] W (SliceErrRet W L 12))
    (hof : ∀ W, Calls Try.prog 26 #[.int .i64 (count : Int), .int .i64 overlap] W fun e w' => e = .returned (.tuple #[.int .i64 (N : Int), .int .i64 0]) ∧ Below W.heap.size W w')
    (hof1 : ∀ W, Calls Try.prog 26 #[.int .i64 (count : Int), .int .i64 (overlap + 1)] W fun e w' => e = .returned (.tuple #[.int .i64 (M : Int), .int .i64 0]) ∧ Below W.heap.size W w')
    (hMN : M ≤ N) (hN : N ≤ 16777216) (hp1 : decide ((1 : Int) < (count : Int)) = false) (hp2 : True) (hpos : decide ((0 : Int) < (N : Int)) = false) (hlc : True) (hL8 : L.length ≤ 8) (hck : True) :
    Calls Try.prog 5 #[.slice A xs.length c, .int .i64 (count : Int), .int .i64 overlap] w fun e w' => e = .returned (.bool true) ∧ Below w.heap.size w w' := by
  have hu := And.intro hp2 (And.intro hlc hL8)
  clear hu
  obtain ⟨i0, hi0, hz0, hz1, hz2⟩ := info_parts int_info
  have HBx := Lib.hid (Below.refl w.heap.size w)
  have HR := Lib.hid hr
  have hd : decide ((8 : Int) < (xs.length : Int)) = false := decide_eq_false (by omega)
  have hw1 : withinB (count : Int) 1 7 = true := by simp [withinB]; omega
  have hw2 : withinB overlap 0 7 = true := by simp [withinB]; omega
  have HFor := Lib.hid hfor
  have HOf := Lib.hid hof
  have HOf1 := Lib.hid hof1
  have hN0 : decide ((N : Int) < 0) = false := decide_eq_false (by omega)
  have hNM : decide ((N : Int) < (M : Int)) = false := decide_eq_false (by omega)
  have hNM' : decide (N < M) = false := decide_eq_false (by omega)
  have hpos' : decide (0 < N) = false := by
    rw [← hpos]
    exact decide_eq_decide.2 (by omega)
  have hp1' : decide (1 < count) = false := by
    rw [← hp1]
    exact decide_eq_decide.2 (by omega)
  have HCk := Lib.hid hck
  clear hr hfor hof hof1 hck
  go_enter Try.func5, Try.ntmps5
  go_wp2_with (first
    | (go_at_call 15; refine (awake_any _).mono ?_; rintro e w1 ⟨rfl, hb⟩; replace HBx := Lib.hid (pt HBx.out hb); clear hb)
    | (go_at_call 32; refine (baseWithin_any _ _ _ _).mono ?_; rintro e w' ⟨rfl, rfl⟩)
    | (go_at_call 25; go_must (refine (HFor.out _).mono ?_); rintro e w2 ⟨A2, c2, rfl, hi2, hc2, hb⟩; replace HBx := Lib.hid (pt HBx.out hb); clear hb; have HI2 := Lib.hid hi2; clear hi2)
    | (go_at_call 26; (with_reducible refine (HOf.out _).mono ?_); rintro e w3 ⟨rfl, hb⟩; replace HI2 := Lib.hid ((HI2.out.below hb).more hb.size); replace HBx := Lib.hid (pt HBx.out hb); clear hb)
    | (go_at_call 26; go_must (refine (HOf1.out _).mono ?_); rintro e w4 ⟨rfl, hb⟩; replace HI2 := Lib.hid ((HI2.out.below hb).more hb.size); replace HBx := Lib.hid (pt HBx.out hb); clear hb)
    | (go_at_call 24; (with_reducible refine (copyInts_any _ A2 L.length c2 L _ HI2.out rfl (Nat.le_refl _) (by omega)).mono ?_); rintro e w5 ⟨v4, rfl, hown4, hb⟩; obtain ⟨A4, c4, rfl, hc4, hm4⟩ := own_form hown4; have HI4 := Lib.hid (intsIn_of_own hown4); replace HBx := Lib.hid (pt HBx.out hb); clear hb; clear hown4)
    | (go_at_call 23; (with_reducible refine (checkStack_any _ A4 c4 L overlap _ HI4.out (Nat.le_refl _) (by omega) hc4).mono ?_); rintro e w6 ⟨rfl, hb⟩; rw [HCk.out]; replace HBx := Lib.hid (pt HBx.out hb); clear hb))
  clear hlc hpos hN0 hNM hp1 hp2 hNM' hpos' hp1' hw1 hw2 hd HCk HFor HOf HOf1
  go_loopw [15] (fun i wr => ∃ k : Nat, k ≤ xs.length ∧ i = .int .i64 (k : Int) ∧ (∀ j, j < k → offErr xs j = 0) ∧ Below w.heap.size w wr) (fun i _ => xs.length - (intOf i).toNat)
  case atStart => exact ⟨0, Nat.zero_le _, rfl, fun j hj => by omega, HBx.out⟩
  case round =>
    obtain ⟨k, hk, rfl, hf, hq⟩ := hrel
    clear HBx
    by_cases hlt : k < xs.length
    · have hrw := HR.out.below hq
      have hsz := hq.size
      obtain ⟨b, off, rfl, hbB, hct⟩ := hrw.at_ hlt
      have hcell := hct k hlt
      have hbw : b < wr.heap.size := by omega
      have HRw := Lib.hid (show ∀ nq, IntsIn w.heap.size (wr.drewN nq) (some ⟨b, off, none⟩) (xs.take k) from fun nq => (hrw.below (below_drewN' (Below.refl _ _) nq)).take k)
      have HF := Lib.hid hf
      have HO := Lib.hid (off_zero xs k)
      have i0 : (0 : Int) ≤ (k : Int) := by omega
      have i1 : (k : Int) ≤ (c : Int) := by omega
      have i2 : (k : Int) < (xs.length : Int) := by omega
      have hk1000 : k ≤ 1000 := by omega
      have HT := Lib.hid (show (xs.take k).length = k by simp; omega)
      clear hrw hct hf
      have HW := Lib.hid fun W => baseWithin_any (xs.getD k 0) 0 ((xs.length : Int) - 1) W
      have HH := Lib.hid fun nq => baseHas_n k _ _ c (xs.take k) (xs.getD k 0) _ (HRw.out nq) HT.out hk1000
      generalize xs.getD k 0 = x at *
      have hw1 : IntKind.i64.wrap ((xs.length : Int) - 1) = (xs.length : Int) - 1 := IntWalk.i64_in _ (by omega)
      cases hwi : withinB x 0 ((xs.length : Int) - 1)
      · have hww := HW.out
        rw [hwi] at hww
        replace HW := Lib.hid hww
        clear hww
        go_wp2
        go_quiet ((go_at_call 32; exact Calls.quiet_of_same ((HW.out _).mono fun e w' h => ⟨h.1, h.2.symm⟩)))
        go_wp2
        go_ret
        exact ⟨rfl, below_drewN' hq nq⟩
      · have hww := HW.out
        rw [hwi] at hww
        replace HW := Lib.hid hww
        clear hww
        cases hha : hasB (xs.take k) x
        · have hhh := HH.out
          rw [hha] at hhh
          replace HH := Lib.hid hhh
          clear hhh
          go_wp2
          go_quiet (first | (go_at_call 32; exact Calls.quiet_of_same ((HW.out _).mono fun e w' h => ⟨h.1, h.2.symm⟩)) | (go_at_call 33; exact Calls.quiet_of_same ((HH.out _).mono fun e w' h => ⟨h.1, h.2.symm⟩)))
          go_wp2
          go_roundw
          case rel => exact ⟨k + 1, by omega, by go_num, fun j hj => by
            rcases Nat.lt_or_ge j k with h | h
            · exact HF.out j h
            · obtain rfl : j = k := by omega
              refine HO.out.2 ⟨?_, hha⟩
              simpa [withinB] using hwi, below_drewN' hq nq⟩
          case measure => simp [intOf]; omega
        · have hhh := HH.out
          rw [hha] at hhh
          replace HH := Lib.hid hhh
          clear hhh
          go_wp2
          go_quiet (first | (go_at_call 32; exact Calls.quiet_of_same ((HW.out _).mono fun e w' h => ⟨h.1, h.2.symm⟩)) | (go_at_call 33; exact Calls.quiet_of_same ((HH.out _).mono fun e w' h => ⟨h.1, h.2.symm⟩)))
          go_wp2
          go_ret
          exact ⟨rfl, below_drewN' hq nq⟩
    · obtain rfl : k = xs.length := by omega
      have hP := (perm_iff xs).1 hf
      have HP := Lib.hid hP
      have HBx := Lib.hid hq
      clear hf hP hq
      by_cases hz : xs.length = 0
      · have hz1 : ((xs.length : Int) == 0) = true := by simp [hz]
        go_wp2
        go_ret
        exact ⟨rfl, HBx.out⟩
      · have hz1 : ((xs.length : Int) == 0) = false := by simp [hz]
        go_wp2
        clear hz1
        go_loopw [16, 17, 18] (fun ov tv iv wr => ∃ (k : Nat) (A16 A17 : Option Addr) (c16 c17 : Nat) (l16 l17 : List Int), iv = .int .i64 (k : Int) ∧ ov = .slice A16 k c16 ∧ tv = .slice A17 k c17 ∧ k ≤ xs.length ∧ l16.length = k ∧ l17.length = k ∧ (∀ j, j < k → l16.getD j 0 = xs.getD (xs.length - 1 - j) 0) ∧ (∀ j, j < k → l17.getD j 0 = (xs.length : Int) - 1 - xs.getD j 0) ∧ Two w.heap.size wr (.slice A16 k c16) k l16 (.slice A17 k c17) k l17 ∧ Below w.heap.size w wr) (fun _ _ iv _ => xs.length - (intOf iv).toNat)
        case atStart => exact ⟨0, none, none, 0, 0, [], [], rfl, rfl, rfl, Nat.zero_le _, rfl, rfl, fun j hj => by omega, fun j hj => by omega, ⟨World.ownsRow_nil _ _ _ _, World.ownsRow_nil _ _ _ _, .inl rfl⟩, HBx.out⟩
        case round =>
          obtain ⟨k, A16, A17, c16, c17, l16, l17, rfl, rfl, rfl, hk2, hn16, hn17, hg16, hg17, hT, hq⟩ := hrel
          clear HBx
          have hsz := hq.size
          by_cases hlt : k < xs.length
          · have hrw := HR.out.below hq
            obtain ⟨b, off, rfl, hbB, hct⟩ := hrw.at_ hlt
            have hcell := hct (xs.length - 1 - k) (by omega)
            have hcell2 := hct k hlt
            have hbw : b < wr.heap.size := by omega
            have HT := Lib.hid hT
            have HG16 := Lib.hid hg16
            have HG17 := Lib.hid hg17
            have HN16 := Lib.hid hn16
            have HN17 := Lib.hid hn17
            have HQ := Lib.hid hq
            have hy := HP.out.rng k hlt
            have n16 : (Value.slice A16 k c16).ownBlock ≠ some b := fun e => by have := (hT.fst.lt b e).1; omega
            have n17 : (Value.slice A17 k c17).ownBlock ≠ some b := fun e => by have := (hT.snd.lt b e).1; omega
            have m16 : ∀ g, (Value.slice A16 k c16).ownBlock = some g → g < wr.heap.size := fun g e => (hT.fst.lt g e).2
            have hmx : k + 1 ≤ maxLen := by simp only [maxLen]; omega
            have hby : (k + 1) * 8 ≤ 140737488355328 := by omega
            clear hrw hct hT hg16 hg17 hn16 hn17
            have HY1 := Lib.hid (show xs.getD (xs.length - 1 - k) 0 = xs.getD (xs.length - 1 - k) 0 from rfl)
            obtain ⟨y1, hy1⟩ : ∃ y1, y1 = xs.getD (xs.length - 1 - k) 0 := ⟨_, rfl⟩
            obtain ⟨y2, hy2⟩ : ∃ y2, y2 = xs.getD k 0 := ⟨_, rfl⟩
            rw [← hy1] at hcell
            rw [← hy2] at hcell2 hy
            have HY1 := Lib.hid hy1
            have HY2 := Lib.hid hy2
            clear hy1 hy2
            obtain ⟨z, hz0⟩ : ∃ z : Int, z = (xs.length : Int) - 1 - (k : Int) := ⟨_, rfl⟩
            obtain ⟨z2, hz3⟩ : ∃ z2 : Int, z2 = (xs.length : Int) - 1 - y2 := ⟨_, rfl⟩
            have q0 : (0 : Int) ≤ z := by omega
            have q1 : z < (xs.length : Int) := by omega
            have q2 : z.toNat = xs.length - 1 - k := by omega
            have q3 : (0 : Int) ≤ (k : Int) := by omega
            have q4 : (k : Int) < (xs.length : Int) := by omega
            go_wp2
            have e1 : IntKind.i64.wrap ((xs.length : Int) - 1) = (xs.length : Int) - 1 := IntWalk.i64_in _ (by omega)
            have e2 : IntKind.i64.wrap ((xs.length : Int) - 1 - (k : Int)) = z := (IntWalk.i64_in _ (by omega)).trans hz0.symm
            have e3 : IntKind.i64.wrap ((xs.length : Int) - 1 - y2) = z2 := (IntWalk.i64_in _ (by omega)).trans hz3.symm
            have HZ2 := Lib.hid hz3
            clear hz0 hz3
            generalize hnk : xs.length - 1 - k = nk at *
            have HNk := Lib.hid hnk
            clear hnk
            go_region_held3 (fun w' => w'.cell? ⟨b, off + nk, none⟩ = some (.int .i64 y1) ∧ w'.cell? ⟨b, off + k, none⟩ = some (.int .i64 y2))
              (first
                | go_keep
                | (go_split_ands; refine ⟨?_, ?_⟩ <;> (rw [hgrow.cell_far _ (by simp; omega) (Ne.symm n16)]; assumption))
                | (go_split_ands; refine ⟨?_, ?_⟩ <;> (rw [hgrow2.cell_far _ (by simp; omega) (Ne.symm n17)]; assumption)))
              (first
                | ((refine step_append_lies _ (by rfl) _ _ _ (by rfl) w.heap.size 3 i0 _ 1 8 Try.underlying28 hi0 hz0 hz1 hz2 rfl (by omega) (.slice A16 k c16) k (l16.map (Value.int .i64)) (by rfl) (HT.out.alloc _).drew.fst ⟨wr.heap.size, 0, none⟩ 1 1 [.int .i64 y1] (by rfl) (by rfl) (World.news_of_block (cs := #[.int .i64 y1]) (t := 3) (fr := (0, 0)) (Blk.new wr _ _)) (by simp [Value.oneCell']) (by omega) hmx hby (by first | omega | (simp; omega)) _ rfl ?_; intro g1 cap1 w1 hown1 hgrow hat hlt1; have hb1 := pg (pd (pa HQ.out)) (HT.out.alloc _).drew.fst (Nat.le_refl _) hgrow; have T1 := (HT.out.alloc _).drew.grow (l := l16 ++ [y1]) (by simpa using hown1) hgrow hat; have hs1 := hb1.size))
                | ((refine step_append_lies _ (by rfl) _ _ _ (by rfl) w.heap.size 3 i0 _ 1 8 Try.underlying28 hi0 hz0 hz1 hz2 rfl (by omega) (.slice A16 k c16) k (l16.map (Value.int .i64)) (by rfl) ((HT.out.alloc _).alloc _).drew.fst ⟨wr.heap.size, 0, none⟩ 1 1 [.int .i64 y1] (by rfl) (by rfl) (World.news_of_block (cs := #[.int .i64 y1]) (t := 3) (fr := (0, 0)) (Blk.new wr _ _).alloc) (by simp [Value.oneCell']) (by omega) hmx hby (by first | omega | (simp; omega)) _ rfl ?_; intro g1 cap1 w1 hown1 hgrow hat hlt1; have hb1 := pg (pd (pa (pa HQ.out))) ((HT.out.alloc _).alloc _).drew.fst (Nat.le_refl _) hgrow; have T1 := ((HT.out.alloc _).alloc _).drew.grow (l := l16 ++ [y1]) (by simpa using hown1) hgrow hat; (have hs1 := hb1.size; have q5 : Blk w1 (wr.heap.size + 1) 3 #[.int .i64 z2] := Blk.grown (show Blk ((wr.alloc (.cells #[.int .i64 y1] 3)).alloc (.cells #[.int .i64 z2] 3)) (wr.heap.size + 1) 3 #[.int .i64 z2] from Blk.newAt (by simp)).drew hgrow (fun e => by have := m16 _ e.symm; omega))))
                | ((refine step_append_lies _ (by rfl) _ _ _ (by rfl) w.heap.size 3 i0 _ 1 8 Try.underlying28 hi0 hz0 hz1 hz2 rfl (by omega) (.slice A16 k c16) k (l16.map (Value.int .i64)) (by rfl) ((HT.out.alloc _).alloc _).drew.fst ⟨wr.heap.size + 1, 0, none⟩ 1 1 [.int .i64 y1] (by rfl) (by rfl) (World.news_of_block (cs := #[.int .i64 y1]) (t := 3) (fr := (0, 0)) (show Blk ((wr.alloc (.cells #[.int .i64 z2] 3)).alloc (.cells #[.int .i64 y1] 3)) (wr.heap.size + 1) 3 #[.int .i64 y1] from Blk.newAt (by simp))) (by simp [Value.oneCell']) (by omega) hmx hby (by first | omega | (simp; omega)) _ rfl ?_; intro g1 cap1 w1 hown1 hgrow hat hlt1; have hb1 := pg (pd (pa (pa HQ.out))) ((HT.out.alloc _).alloc _).drew.fst (Nat.le_refl _) hgrow; have T1 := ((HT.out.alloc _).alloc _).drew.grow (l := l16 ++ [y1]) (by simpa using hown1) hgrow hat; (have hs1 := hb1.size; have q5 : Blk w1 wr.heap.size 3 #[.int .i64 z2] := Blk.grown (Blk.new wr _ _).alloc.drew hgrow (fun e => by have := m16 _ e.symm; omega))))
                | ((refine step_append_lies _ (by rfl) _ _ _ (by rfl) w.heap.size 3 i0 _ 1 8 Try.underlying28 hi0 hz0 hz1 hz2 rfl (by omega) (.slice A17 k c17) k (l17.map (Value.int .i64)) (by rfl) (T1.alloc _).snd ⟨w1.heap.size, 0, none⟩ 1 1 [.int .i64 z2] (by rfl) (by rfl) (World.news_of_block (cs := #[.int .i64 z2]) (t := 3) (fr := (0, 0)) (Blk.new w1 _ _)) (by simp [Value.oneCell']) (by omega) hmx hby (by first | omega | (simp; omega)) _ rfl ?_; intro g2 cap2 w2 hown2 hgrow2 hat2 hlt2; have hb2 := pg (pa hb1) (T1.alloc _).snd (Nat.le_refl _) hgrow2; have T2 := ((T1.alloc _).turn.grow (l := l17 ++ [z2]) (by simpa using hown2) hgrow2 hat2).turn))
                | ((refine step_append_lies _ (by rfl) _ _ _ (by rfl) w.heap.size 3 i0 _ 1 8 Try.underlying28 hi0 hz0 hz1 hz2 rfl (by omega) (.slice A17 k c17) k (l17.map (Value.int .i64)) (by rfl) T1.snd ⟨wr.heap.size + 1, 0, none⟩ 1 1 [.int .i64 z2] (by rfl) (by rfl) (World.news_of_block (cs := #[.int .i64 z2]) (t := 3) (fr := (0, 0)) q5) (by simp [Value.oneCell']) (by omega) hmx hby (by first | omega | (simp; omega)) _ rfl ?_; intro g2 cap2 w2 hown2 hgrow2 hat2 hlt2; have hb2 := pg hb1 T1.snd (Nat.le_refl _) hgrow2; have T2 := (T1.turn.grow (l := l17 ++ [z2]) (by simpa using hown2) hgrow2 hat2).turn))
                | ((refine step_append_lies _ (by rfl) _ _ _ (by rfl) w.heap.size 3 i0 _ 1 8 Try.underlying28 hi0 hz0 hz1 hz2 rfl (by omega) (.slice A17 k c17) k (l17.map (Value.int .i64)) (by rfl) T1.snd ⟨wr.heap.size, 0, none⟩ 1 1 [.int .i64 z2] (by rfl) (by rfl) (World.news_of_block (cs := #[.int .i64 z2]) (t := 3) (fr := (0, 0)) q5) (by simp [Value.oneCell']) (by omega) hmx hby (by first | omega | (simp; omega)) _ rfl ?_; intro g2 cap2 w2 hown2 hgrow2 hat2 hlt2; have hb2 := pg hb1 T1.snd (Nat.le_refl _) hgrow2; have T2 := (T1.turn.grow (l := l17 ++ [z2]) (by simpa using hown2) hgrow2 hat2).turn)))
            all_goals
              clear hgrow hgrow2 hown1 hown2 hat hat2 hlt1 hlt2 T1 hb1
              have HT2 := Lib.hid T2
              have HB2 := Lib.hid hb2
              clear T2 hb2 e1 e2 e3 q0 q1 q2
              go_wp2
              go_roundw
              case rel =>
                refine ⟨k + 1, some ⟨g1, 0, none⟩, some ⟨g2, 0, none⟩, cap1, cap2, l16 ++ [y1], l17 ++ [z2], by go_num, rfl, rfl, by omega, by simp [HN16.out], by simp [HN17.out], fun j hj => ?_, fun j hj => ?_, HT2.out, HB2.out⟩
                · rw [getD_add HN16.out hj]
                  by_cases h : j < k
                  · rw [if_pos h, HG16.out j h]
                  · obtain rfl : j = k := by omega
                    rw [if_neg h, HY1.out, HNk.out]
                · rw [getD_add HN17.out hj]
                  by_cases h : j < k
                  · rw [if_pos h, HG17.out j h]
                  · obtain rfl : j = k := by omega
                    rw [if_neg h, HZ2.out, HY2.out]
              case measure => simp [intOf]; omega
          · obtain rfl : k = xs.length := by omega
            have hE : stackE xs.length overlap = 0 := (unless_ne (by decide)).2 (by simp [withinB]; omega)
            have hB : Back xs l16 := ⟨hn16, hg16⟩
            have hO : Opp xs l17 := ⟨hn17, hg17⟩
            have hb16 := hB.check overlap hE HP.out
            have hb17 := hO.check overlap hE HP.out
            have hcase := check_gap xs overlap hE ((perm_iff xs).2 HP.out)
            obtain ⟨_, _, hv16, hk16, _⟩ := own_form hT.fst
            obtain ⟨_, _, hv17, hk17, _⟩ := own_form hT.snd
            have hm16 : xs.length ≤ c16 := by injection hv16 with _ _ h; omega
            have hm17 : xs.length ≤ c17 := by injection hv17 with _ _ h; omega
            have HI16 := Lib.hid (intsIn_of_own hT.fst)
            have HI17 := Lib.hid (intsIn_of_own hT.snd)
            have HN16 := Lib.hid hn16
            have HN17 := Lib.hid hn17
            have HBx := Lib.hid hq
            obtain ⟨a, ha⟩ : ∃ a, a = (checkStackV xs overlap).2 := ⟨_, rfl⟩
            rw [← ha] at hb16 hb17 hcase
            have HA1 := Lib.hid ha.symm
            have HA16 := Lib.hid hb16.symm
            have HA17 := Lib.hid hb17.symm
            clear hE hB hO hb16 hb17 hv16 hv17 hk16 hk17 hn16 hn17 hg16 hg17 hT hq ha HP
            rcases hcase with rfl | rfl
            all_goals
              go_wp2_with (first
                | (go_at_call 24; go_must (refine (copyInts_any w.heap.size A xs.length c xs _ (HR.out.below HBx.out) rfl HBx.out.size (by omega)).mono ?_); rintro e w2 ⟨v1, rfl, hown1, hb⟩; obtain ⟨A1, c1, rfl, hcx1, hm1⟩ := own_form hown1; have HI1 := Lib.hid (intsIn_of_own hown1); replace HI16 := Lib.hid ((HI16.out.below hb).more hb.size); replace HI17 := Lib.hid ((HI17.out.below hb).more hb.size); replace HBx := Lib.hid (pt HBx.out hb); clear hb; clear hown1)
                | (go_at_call 23; (with_reducible refine (checkStack_n xs.length _ A1 c1 xs overlap _ HI1.out rfl (Nat.le_refl _) (by omega) hcx1).mono ?_); rintro e w3 ⟨rfl, hb⟩; rw [HA1.out]; replace HI16 := Lib.hid ((HI16.out.below hb).more hb.size); replace HI17 := Lib.hid ((HI17.out.below hb).more hb.size); replace HBx := Lib.hid (pt HBx.out hb); clear hb)
                | (go_at_call 23; (with_reducible refine (checkStack_n xs.length _ A16 c16 l16 overlap _ HI16.out HN16.out (Nat.le_refl _) (by omega) hm16).mono ?_); rintro e w3 ⟨rfl, hb⟩; rw [HA16.out]; replace HI16 := Lib.hid ((HI16.out.below hb).more hb.size); replace HI17 := Lib.hid ((HI17.out.below hb).more hb.size); replace HBx := Lib.hid (pt HBx.out hb); clear hb)
                | (go_at_call 23; go_must (refine (checkStack_n xs.length _ A17 c17 l17 overlap _ HI17.out HN17.out (Nat.le_refl _) (by omega) hm17).mono ?_); rintro e w3 ⟨rfl, hb⟩; rw [HA17.out]; replace HI16 := Lib.hid ((HI16.out.below hb).more hb.size); replace HI17 := Lib.hid ((HI17.out.below hb).more hb.size); replace HBx := Lib.hid (pt HBx.out hb); clear hb))
              go_ret
              exact ⟨rfl, HBx.out⟩
set_option maxHeartbeats 16000000 in
set_option maxRecDepth 100000 in
theorem over_c (A : Option Addr) (c : Nat) (xs : List Int) (count : Nat) (overlap : Int) (w : World) (hr : IntsIn w.heap.size w A xs) (hcap : xs.length ≤ c) (hl : xs.length ≤ 8) (hc1 : 1 ≤ count) (hc7 : count ≤ 7) (ho0 : 0 ≤ overlap) (ho7 : overlap ≤ 7)
    (L : List Int) (N M : Nat) (hfor : ∀ W, Calls Try.prog 25 #[.int .i64 (count : Int), .int .i64 overlap] W (SliceErrRet W L 0))
    (hof : ∀ W, Calls Try.prog 26 #[.int .i64 (count : Int), .int .i64 overlap] W fun e w' => e = .returned (.tuple #[.int .i64 (N : Int), .int .i64 0]) ∧ Below W.heap.size W w')
    (hof1 : ∀ W, Calls Try.prog 26 #[.int .i64 (count : Int), .int .i64 (overlap + 1)] W fun e w' => e = .returned (.tuple #[.int .i64 (M : Int), .int .i64 0]) ∧ Below W.heap.size W w')
    (hMN : M ≤ N) (hN : N ≤ 16777216) (hp1 : decide ((1 : Int) < (count : Int)) = true) (hp2 : ((N : Int) % 2 != 0) = false) (hpos : decide ((0 : Int) < (N : Int)) = true) (hlc : ((L.length : Int) != (count : Int)) = false) (hL8 : L.length ≤ 8) (hck : (checkStackV L overlap).2 = 0) :
    Calls Try.prog 5 #[.slice A xs.length c, .int .i64 (count : Int), .int .i64 overlap] w fun e w' => e = .returned (.bool true) ∧ Below w.heap.size w w' := by
  have hu := And.intro hp2 (And.intro hlc hL8)
  clear hu
  obtain ⟨i0, hi0, hz0, hz1, hz2⟩ := info_parts int_info
  have HBx := Lib.hid (Below.refl w.heap.size w)
  have HR := Lib.hid hr
  have hd : decide ((8 : Int) < (xs.length : Int)) = false := decide_eq_false (by omega)
  have hw1 : withinB (count : Int) 1 7 = true := by simp [withinB]; omega
  have hw2 : withinB overlap 0 7 = true := by simp [withinB]; omega
  have HFor := Lib.hid hfor
  have HOf := Lib.hid hof
  have HOf1 := Lib.hid hof1
  have hN0 : decide ((N : Int) < 0) = false := decide_eq_false (by omega)
  have hNM : decide ((N : Int) < (M : Int)) = false := decide_eq_false (by omega)
  have hNM' : decide (N < M) = false := decide_eq_false (by omega)
  have hpos' : decide (0 < N) = true := by
    rw [← hpos]
    exact decide_eq_decide.2 (by omega)
  have hp1' : decide (1 < count) = true := by
    rw [← hp1]
    exact decide_eq_decide.2 (by omega)
  have HCk := Lib.hid hck
  clear hr hfor hof hof1 hck
  go_enter Try.func5, Try.ntmps5
  go_wp2_with (first
    | (go_at_call 15; refine (awake_any _).mono ?_; rintro e w1 ⟨rfl, hb⟩; replace HBx := Lib.hid (pt HBx.out hb); clear hb)
    | (go_at_call 32; refine (baseWithin_any _ _ _ _).mono ?_; rintro e w' ⟨rfl, rfl⟩)
    | (go_at_call 25; go_must (refine (HFor.out _).mono ?_); rintro e w2 ⟨A2, c2, rfl, hi2, hc2, hb⟩; replace HBx := Lib.hid (pt HBx.out hb); clear hb; have HI2 := Lib.hid hi2; clear hi2)
    | (go_at_call 26; (with_reducible refine (HOf.out _).mono ?_); rintro e w3 ⟨rfl, hb⟩; replace HI2 := Lib.hid ((HI2.out.below hb).more hb.size); replace HBx := Lib.hid (pt HBx.out hb); clear hb)
    | (go_at_call 26; go_must (refine (HOf1.out _).mono ?_); rintro e w4 ⟨rfl, hb⟩; replace HI2 := Lib.hid ((HI2.out.below hb).more hb.size); replace HBx := Lib.hid (pt HBx.out hb); clear hb)
    | (go_at_call 24; (with_reducible refine (copyInts_any _ A2 L.length c2 L _ HI2.out rfl (Nat.le_refl _) (by omega)).mono ?_); rintro e w5 ⟨v4, rfl, hown4, hb⟩; obtain ⟨A4, c4, rfl, hc4, hm4⟩ := own_form hown4; have HI4 := Lib.hid (intsIn_of_own hown4); replace HBx := Lib.hid (pt HBx.out hb); clear hb; clear hown4)
    | (go_at_call 23; (with_reducible refine (checkStack_any _ A4 c4 L overlap _ HI4.out (Nat.le_refl _) (by omega) hc4).mono ?_); rintro e w6 ⟨rfl, hb⟩; rw [HCk.out]; replace HBx := Lib.hid (pt HBx.out hb); clear hb))
  clear hlc hpos hN0 hNM hp1 hp2 hNM' hpos' hp1' hw1 hw2 hd HCk HFor HOf HOf1
  go_loopw [15] (fun i wr => ∃ k : Nat, k ≤ xs.length ∧ i = .int .i64 (k : Int) ∧ (∀ j, j < k → offErr xs j = 0) ∧ Below w.heap.size w wr) (fun i _ => xs.length - (intOf i).toNat)
  case atStart => exact ⟨0, Nat.zero_le _, rfl, fun j hj => by omega, HBx.out⟩
  case round =>
    obtain ⟨k, hk, rfl, hf, hq⟩ := hrel
    clear HBx
    by_cases hlt : k < xs.length
    · have hrw := HR.out.below hq
      have hsz := hq.size
      obtain ⟨b, off, rfl, hbB, hct⟩ := hrw.at_ hlt
      have hcell := hct k hlt
      have hbw : b < wr.heap.size := by omega
      have HRw := Lib.hid (show ∀ nq, IntsIn w.heap.size (wr.drewN nq) (some ⟨b, off, none⟩) (xs.take k) from fun nq => (hrw.below (below_drewN' (Below.refl _ _) nq)).take k)
      have HF := Lib.hid hf
      have HO := Lib.hid (off_zero xs k)
      have i0 : (0 : Int) ≤ (k : Int) := by omega
      have i1 : (k : Int) ≤ (c : Int) := by omega
      have i2 : (k : Int) < (xs.length : Int) := by omega
      have hk1000 : k ≤ 1000 := by omega
      have HT := Lib.hid (show (xs.take k).length = k by simp; omega)
      clear hrw hct hf
      have HW := Lib.hid fun W => baseWithin_any (xs.getD k 0) 0 ((xs.length : Int) - 1) W
      have HH := Lib.hid fun nq => baseHas_n k _ _ c (xs.take k) (xs.getD k 0) _ (HRw.out nq) HT.out hk1000
      generalize xs.getD k 0 = x at *
      have hw1 : IntKind.i64.wrap ((xs.length : Int) - 1) = (xs.length : Int) - 1 := IntWalk.i64_in _ (by omega)
      cases hwi : withinB x 0 ((xs.length : Int) - 1)
      · have hww := HW.out
        rw [hwi] at hww
        replace HW := Lib.hid hww
        clear hww
        go_wp2
        go_quiet ((go_at_call 32; exact Calls.quiet_of_same ((HW.out _).mono fun e w' h => ⟨h.1, h.2.symm⟩)))
        go_wp2
        go_ret
        exact ⟨rfl, below_drewN' hq nq⟩
      · have hww := HW.out
        rw [hwi] at hww
        replace HW := Lib.hid hww
        clear hww
        cases hha : hasB (xs.take k) x
        · have hhh := HH.out
          rw [hha] at hhh
          replace HH := Lib.hid hhh
          clear hhh
          go_wp2
          go_quiet (first | (go_at_call 32; exact Calls.quiet_of_same ((HW.out _).mono fun e w' h => ⟨h.1, h.2.symm⟩)) | (go_at_call 33; exact Calls.quiet_of_same ((HH.out _).mono fun e w' h => ⟨h.1, h.2.symm⟩)))
          go_wp2
          go_roundw
          case rel => exact ⟨k + 1, by omega, by go_num, fun j hj => by
            rcases Nat.lt_or_ge j k with h | h
            · exact HF.out j h
            · obtain rfl : j = k := by omega
              refine HO.out.2 ⟨?_, hha⟩
              simpa [withinB] using hwi, below_drewN' hq nq⟩
          case measure => simp [intOf]; omega
        · have hhh := HH.out
          rw [hha] at hhh
          replace HH := Lib.hid hhh
          clear hhh
          go_wp2
          go_quiet (first | (go_at_call 32; exact Calls.quiet_of_same ((HW.out _).mono fun e w' h => ⟨h.1, h.2.symm⟩)) | (go_at_call 33; exact Calls.quiet_of_same ((HH.out _).mono fun e w' h => ⟨h.1, h.2.symm⟩)))
          go_wp2
          go_ret
          exact ⟨rfl, below_drewN' hq nq⟩
    · obtain rfl : k = xs.length := by omega
      have hP := (perm_iff xs).1 hf
      have HP := Lib.hid hP
      have HBx := Lib.hid hq
      clear hf hP hq
      by_cases hz : xs.length = 0
      · have hz1 : ((xs.length : Int) == 0) = true := by simp [hz]
        go_wp2
        go_ret
        exact ⟨rfl, HBx.out⟩
      · have hz1 : ((xs.length : Int) == 0) = false := by simp [hz]
        go_wp2
        clear hz1
        go_loopw [16, 17, 18] (fun ov tv iv wr => ∃ (k : Nat) (A16 A17 : Option Addr) (c16 c17 : Nat) (l16 l17 : List Int), iv = .int .i64 (k : Int) ∧ ov = .slice A16 k c16 ∧ tv = .slice A17 k c17 ∧ k ≤ xs.length ∧ l16.length = k ∧ l17.length = k ∧ (∀ j, j < k → l16.getD j 0 = xs.getD (xs.length - 1 - j) 0) ∧ (∀ j, j < k → l17.getD j 0 = (xs.length : Int) - 1 - xs.getD j 0) ∧ Two w.heap.size wr (.slice A16 k c16) k l16 (.slice A17 k c17) k l17 ∧ Below w.heap.size w wr) (fun _ _ iv _ => xs.length - (intOf iv).toNat)
        case atStart => exact ⟨0, none, none, 0, 0, [], [], rfl, rfl, rfl, Nat.zero_le _, rfl, rfl, fun j hj => by omega, fun j hj => by omega, ⟨World.ownsRow_nil _ _ _ _, World.ownsRow_nil _ _ _ _, .inl rfl⟩, HBx.out⟩
        case round =>
          obtain ⟨k, A16, A17, c16, c17, l16, l17, rfl, rfl, rfl, hk2, hn16, hn17, hg16, hg17, hT, hq⟩ := hrel
          clear HBx
          have hsz := hq.size
          by_cases hlt : k < xs.length
          · have hrw := HR.out.below hq
            obtain ⟨b, off, rfl, hbB, hct⟩ := hrw.at_ hlt
            have hcell := hct (xs.length - 1 - k) (by omega)
            have hcell2 := hct k hlt
            have hbw : b < wr.heap.size := by omega
            have HT := Lib.hid hT
            have HG16 := Lib.hid hg16
            have HG17 := Lib.hid hg17
            have HN16 := Lib.hid hn16
            have HN17 := Lib.hid hn17
            have HQ := Lib.hid hq
            have hy := HP.out.rng k hlt
            have n16 : (Value.slice A16 k c16).ownBlock ≠ some b := fun e => by have := (hT.fst.lt b e).1; omega
            have n17 : (Value.slice A17 k c17).ownBlock ≠ some b := fun e => by have := (hT.snd.lt b e).1; omega
            have m16 : ∀ g, (Value.slice A16 k c16).ownBlock = some g → g < wr.heap.size := fun g e => (hT.fst.lt g e).2
            have hmx : k + 1 ≤ maxLen := by simp only [maxLen]; omega
            have hby : (k + 1) * 8 ≤ 140737488355328 := by omega
            clear hrw hct hT hg16 hg17 hn16 hn17
            have HY1 := Lib.hid (show xs.getD (xs.length - 1 - k) 0 = xs.getD (xs.length - 1 - k) 0 from rfl)
            obtain ⟨y1, hy1⟩ : ∃ y1, y1 = xs.getD (xs.length - 1 - k) 0 := ⟨_, rfl⟩
            obtain ⟨y2, hy2⟩ : ∃ y2, y2 = xs.getD k 0 := ⟨_, rfl⟩
            rw [← hy1] at hcell
            rw [← hy2] at hcell2 hy
            have HY1 := Lib.hid hy1
            have HY2 := Lib.hid hy2
            clear hy1 hy2
            obtain ⟨z, hz0⟩ : ∃ z : Int, z = (xs.length : Int) - 1 - (k : Int) := ⟨_, rfl⟩
            obtain ⟨z2, hz3⟩ : ∃ z2 : Int, z2 = (xs.length : Int) - 1 - y2 := ⟨_, rfl⟩
            have q0 : (0 : Int) ≤ z := by omega
            have q1 : z < (xs.length : Int) := by omega
            have q2 : z.toNat = xs.length - 1 - k := by omega
            have q3 : (0 : Int) ≤ (k : Int) := by omega
            have q4 : (k : Int) < (xs.length : Int) := by omega
            go_wp2
            have e1 : IntKind.i64.wrap ((xs.length : Int) - 1) = (xs.length : Int) - 1 := IntWalk.i64_in _ (by omega)
            have e2 : IntKind.i64.wrap ((xs.length : Int) - 1 - (k : Int)) = z := (IntWalk.i64_in _ (by omega)).trans hz0.symm
            have e3 : IntKind.i64.wrap ((xs.length : Int) - 1 - y2) = z2 := (IntWalk.i64_in _ (by omega)).trans hz3.symm
            have HZ2 := Lib.hid hz3
            clear hz0 hz3
            generalize hnk : xs.length - 1 - k = nk at *
            have HNk := Lib.hid hnk
            clear hnk
            go_region_held3 (fun w' => w'.cell? ⟨b, off + nk, none⟩ = some (.int .i64 y1) ∧ w'.cell? ⟨b, off + k, none⟩ = some (.int .i64 y2))
              (first
                | go_keep
                | (go_split_ands; refine ⟨?_, ?_⟩ <;> (rw [hgrow.cell_far _ (by simp; omega) (Ne.symm n16)]; assumption))
                | (go_split_ands; refine ⟨?_, ?_⟩ <;> (rw [hgrow2.cell_far _ (by simp; omega) (Ne.symm n17)]; assumption)))
              (first
                | ((refine step_append_lies _ (by rfl) _ _ _ (by rfl) w.heap.size 3 i0 _ 1 8 Try.underlying28 hi0 hz0 hz1 hz2 rfl (by omega) (.slice A16 k c16) k (l16.map (Value.int .i64)) (by rfl) (HT.out.alloc _).drew.fst ⟨wr.heap.size, 0, none⟩ 1 1 [.int .i64 y1] (by rfl) (by rfl) (World.news_of_block (cs := #[.int .i64 y1]) (t := 3) (fr := (0, 0)) (Blk.new wr _ _)) (by simp [Value.oneCell']) (by omega) hmx hby (by first | omega | (simp; omega)) _ rfl ?_; intro g1 cap1 w1 hown1 hgrow hat hlt1; have hb1 := pg (pd (pa HQ.out)) (HT.out.alloc _).drew.fst (Nat.le_refl _) hgrow; have T1 := (HT.out.alloc _).drew.grow (l := l16 ++ [y1]) (by simpa using hown1) hgrow hat; have hs1 := hb1.size))
                | ((refine step_append_lies _ (by rfl) _ _ _ (by rfl) w.heap.size 3 i0 _ 1 8 Try.underlying28 hi0 hz0 hz1 hz2 rfl (by omega) (.slice A16 k c16) k (l16.map (Value.int .i64)) (by rfl) ((HT.out.alloc _).alloc _).drew.fst ⟨wr.heap.size, 0, none⟩ 1 1 [.int .i64 y1] (by rfl) (by rfl) (World.news_of_block (cs := #[.int .i64 y1]) (t := 3) (fr := (0, 0)) (Blk.new wr _ _).alloc) (by simp [Value.oneCell']) (by omega) hmx hby (by first | omega | (simp; omega)) _ rfl ?_; intro g1 cap1 w1 hown1 hgrow hat hlt1; have hb1 := pg (pd (pa (pa HQ.out))) ((HT.out.alloc _).alloc _).drew.fst (Nat.le_refl _) hgrow; have T1 := ((HT.out.alloc _).alloc _).drew.grow (l := l16 ++ [y1]) (by simpa using hown1) hgrow hat; (have hs1 := hb1.size; have q5 : Blk w1 (wr.heap.size + 1) 3 #[.int .i64 z2] := Blk.grown (show Blk ((wr.alloc (.cells #[.int .i64 y1] 3)).alloc (.cells #[.int .i64 z2] 3)) (wr.heap.size + 1) 3 #[.int .i64 z2] from Blk.newAt (by simp)).drew hgrow (fun e => by have := m16 _ e.symm; omega))))
                | ((refine step_append_lies _ (by rfl) _ _ _ (by rfl) w.heap.size 3 i0 _ 1 8 Try.underlying28 hi0 hz0 hz1 hz2 rfl (by omega) (.slice A16 k c16) k (l16.map (Value.int .i64)) (by rfl) ((HT.out.alloc _).alloc _).drew.fst ⟨wr.heap.size + 1, 0, none⟩ 1 1 [.int .i64 y1] (by rfl) (by rfl) (World.news_of_block (cs := #[.int .i64 y1]) (t := 3) (fr := (0, 0)) (show Blk ((wr.alloc (.cells #[.int .i64 z2] 3)).alloc (.cells #[.int .i64 y1] 3)) (wr.heap.size + 1) 3 #[.int .i64 y1] from Blk.newAt (by simp))) (by simp [Value.oneCell']) (by omega) hmx hby (by first | omega | (simp; omega)) _ rfl ?_; intro g1 cap1 w1 hown1 hgrow hat hlt1; have hb1 := pg (pd (pa (pa HQ.out))) ((HT.out.alloc _).alloc _).drew.fst (Nat.le_refl _) hgrow; have T1 := ((HT.out.alloc _).alloc _).drew.grow (l := l16 ++ [y1]) (by simpa using hown1) hgrow hat; (have hs1 := hb1.size; have q5 : Blk w1 wr.heap.size 3 #[.int .i64 z2] := Blk.grown (Blk.new wr _ _).alloc.drew hgrow (fun e => by have := m16 _ e.symm; omega))))
                | ((refine step_append_lies _ (by rfl) _ _ _ (by rfl) w.heap.size 3 i0 _ 1 8 Try.underlying28 hi0 hz0 hz1 hz2 rfl (by omega) (.slice A17 k c17) k (l17.map (Value.int .i64)) (by rfl) (T1.alloc _).snd ⟨w1.heap.size, 0, none⟩ 1 1 [.int .i64 z2] (by rfl) (by rfl) (World.news_of_block (cs := #[.int .i64 z2]) (t := 3) (fr := (0, 0)) (Blk.new w1 _ _)) (by simp [Value.oneCell']) (by omega) hmx hby (by first | omega | (simp; omega)) _ rfl ?_; intro g2 cap2 w2 hown2 hgrow2 hat2 hlt2; have hb2 := pg (pa hb1) (T1.alloc _).snd (Nat.le_refl _) hgrow2; have T2 := ((T1.alloc _).turn.grow (l := l17 ++ [z2]) (by simpa using hown2) hgrow2 hat2).turn))
                | ((refine step_append_lies _ (by rfl) _ _ _ (by rfl) w.heap.size 3 i0 _ 1 8 Try.underlying28 hi0 hz0 hz1 hz2 rfl (by omega) (.slice A17 k c17) k (l17.map (Value.int .i64)) (by rfl) T1.snd ⟨wr.heap.size + 1, 0, none⟩ 1 1 [.int .i64 z2] (by rfl) (by rfl) (World.news_of_block (cs := #[.int .i64 z2]) (t := 3) (fr := (0, 0)) q5) (by simp [Value.oneCell']) (by omega) hmx hby (by first | omega | (simp; omega)) _ rfl ?_; intro g2 cap2 w2 hown2 hgrow2 hat2 hlt2; have hb2 := pg hb1 T1.snd (Nat.le_refl _) hgrow2; have T2 := (T1.turn.grow (l := l17 ++ [z2]) (by simpa using hown2) hgrow2 hat2).turn))
                | ((refine step_append_lies _ (by rfl) _ _ _ (by rfl) w.heap.size 3 i0 _ 1 8 Try.underlying28 hi0 hz0 hz1 hz2 rfl (by omega) (.slice A17 k c17) k (l17.map (Value.int .i64)) (by rfl) T1.snd ⟨wr.heap.size, 0, none⟩ 1 1 [.int .i64 z2] (by rfl) (by rfl) (World.news_of_block (cs := #[.int .i64 z2]) (t := 3) (fr := (0, 0)) q5) (by simp [Value.oneCell']) (by omega) hmx hby (by first | omega | (simp; omega)) _ rfl ?_; intro g2 cap2 w2 hown2 hgrow2 hat2 hlt2; have hb2 := pg hb1 T1.snd (Nat.le_refl _) hgrow2; have T2 := (T1.turn.grow (l := l17 ++ [z2]) (by simpa using hown2) hgrow2 hat2).turn)))
            all_goals
              clear hgrow hgrow2 hown1 hown2 hat hat2 hlt1 hlt2 T1 hb1
              have HT2 := Lib.hid T2
              have HB2 := Lib.hid hb2
              clear T2 hb2 e1 e2 e3 q0 q1 q2
              go_wp2
              go_roundw
              case rel =>
                refine ⟨k + 1, some ⟨g1, 0, none⟩, some ⟨g2, 0, none⟩, cap1, cap2, l16 ++ [y1], l17 ++ [z2], by go_num, rfl, rfl, by omega, by simp [HN16.out], by simp [HN17.out], fun j hj => ?_, fun j hj => ?_, HT2.out, HB2.out⟩
                · rw [getD_add HN16.out hj]
                  by_cases h : j < k
                  · rw [if_pos h, HG16.out j h]
                  · obtain rfl : j = k := by omega
                    rw [if_neg h, HY1.out, HNk.out]
                · rw [getD_add HN17.out hj]
                  by_cases h : j < k
                  · rw [if_pos h, HG17.out j h]
                  · obtain rfl : j = k := by omega
                    rw [if_neg h, HZ2.out, HY2.out]
              case measure => simp [intOf]; omega
          · obtain rfl : k = xs.length := by omega
            have hE : stackE xs.length overlap = 0 := (unless_ne (by decide)).2 (by simp [withinB]; omega)
            have hB : Back xs l16 := ⟨hn16, hg16⟩
            have hO : Opp xs l17 := ⟨hn17, hg17⟩
            have hb16 := hB.check overlap hE HP.out
            have hb17 := hO.check overlap hE HP.out
            have hcase := check_gap xs overlap hE ((perm_iff xs).2 HP.out)
            obtain ⟨_, _, hv16, hk16, _⟩ := own_form hT.fst
            obtain ⟨_, _, hv17, hk17, _⟩ := own_form hT.snd
            have hm16 : xs.length ≤ c16 := by injection hv16 with _ _ h; omega
            have hm17 : xs.length ≤ c17 := by injection hv17 with _ _ h; omega
            have HI16 := Lib.hid (intsIn_of_own hT.fst)
            have HI17 := Lib.hid (intsIn_of_own hT.snd)
            have HN16 := Lib.hid hn16
            have HN17 := Lib.hid hn17
            have HBx := Lib.hid hq
            obtain ⟨a, ha⟩ : ∃ a, a = (checkStackV xs overlap).2 := ⟨_, rfl⟩
            rw [← ha] at hb16 hb17 hcase
            have HA1 := Lib.hid ha.symm
            have HA16 := Lib.hid hb16.symm
            have HA17 := Lib.hid hb17.symm
            clear hE hB hO hb16 hb17 hv16 hv17 hk16 hk17 hn16 hn17 hg16 hg17 hT hq ha HP
            rcases hcase with rfl | rfl
            all_goals
              go_wp2_with (first
                | (go_at_call 24; go_must (refine (copyInts_any w.heap.size A xs.length c xs _ (HR.out.below HBx.out) rfl HBx.out.size (by omega)).mono ?_); rintro e w2 ⟨v1, rfl, hown1, hb⟩; obtain ⟨A1, c1, rfl, hcx1, hm1⟩ := own_form hown1; have HI1 := Lib.hid (intsIn_of_own hown1); replace HI16 := Lib.hid ((HI16.out.below hb).more hb.size); replace HI17 := Lib.hid ((HI17.out.below hb).more hb.size); replace HBx := Lib.hid (pt HBx.out hb); clear hb; clear hown1)
                | (go_at_call 23; (with_reducible refine (checkStack_n xs.length _ A1 c1 xs overlap _ HI1.out rfl (Nat.le_refl _) (by omega) hcx1).mono ?_); rintro e w3 ⟨rfl, hb⟩; rw [HA1.out]; replace HI16 := Lib.hid ((HI16.out.below hb).more hb.size); replace HI17 := Lib.hid ((HI17.out.below hb).more hb.size); replace HBx := Lib.hid (pt HBx.out hb); clear hb)
                | (go_at_call 23; (with_reducible refine (checkStack_n xs.length _ A16 c16 l16 overlap _ HI16.out HN16.out (Nat.le_refl _) (by omega) hm16).mono ?_); rintro e w3 ⟨rfl, hb⟩; rw [HA16.out]; replace HI16 := Lib.hid ((HI16.out.below hb).more hb.size); replace HI17 := Lib.hid ((HI17.out.below hb).more hb.size); replace HBx := Lib.hid (pt HBx.out hb); clear hb)
                | (go_at_call 23; go_must (refine (checkStack_n xs.length _ A17 c17 l17 overlap _ HI17.out HN17.out (Nat.le_refl _) (by omega) hm17).mono ?_); rintro e w3 ⟨rfl, hb⟩; rw [HA17.out]; replace HI16 := Lib.hid ((HI16.out.below hb).more hb.size); replace HI17 := Lib.hid ((HI17.out.below hb).more hb.size); replace HBx := Lib.hid (pt HBx.out hb); clear hb))
              go_ret
              exact ⟨rfl, HBx.out⟩
set_option maxHeartbeats 16000000 in
set_option maxRecDepth 100000 in
theorem over_d (A : Option Addr) (c : Nat) (xs : List Int) (count : Nat) (overlap : Int) (w : World) (hr : IntsIn w.heap.size w A xs) (hcap : xs.length ≤ c) (hl : xs.length ≤ 8) (hc1 : 1 ≤ count) (hc7 : count ≤ 7) (ho0 : 0 ≤ overlap) (ho7 : overlap ≤ 7)
    (L : List Int) (N M : Nat) (hfor : ∀ W, Calls Try.prog 25 #[.int .i64 (count : Int), .int .i64 overlap] W (SliceErrRet W L 12))
    (hof : ∀ W, Calls Try.prog 26 #[.int .i64 (count : Int), .int .i64 overlap] W fun e w' => e = .returned (.tuple #[.int .i64 (N : Int), .int .i64 0]) ∧ Below W.heap.size W w')
    (hof1 : ∀ W, Calls Try.prog 26 #[.int .i64 (count : Int), .int .i64 (overlap + 1)] W fun e w' => e = .returned (.tuple #[.int .i64 (M : Int), .int .i64 0]) ∧ Below W.heap.size W w')
    (hMN : M ≤ N) (hN : N ≤ 16777216) (hp1 : decide ((1 : Int) < (count : Int)) = true) (hp2 : ((N : Int) % 2 != 0) = false) (hpos : decide ((0 : Int) < (N : Int)) = false) (hlc : True) (hL8 : L.length ≤ 8) (hck : True) :
    Calls Try.prog 5 #[.slice A xs.length c, .int .i64 (count : Int), .int .i64 overlap] w fun e w' => e = .returned (.bool true) ∧ Below w.heap.size w w' := by
  have hu := And.intro hp2 (And.intro hlc hL8)
  clear hu
  obtain ⟨i0, hi0, hz0, hz1, hz2⟩ := info_parts int_info
  have HBx := Lib.hid (Below.refl w.heap.size w)
  have HR := Lib.hid hr
  have hd : decide ((8 : Int) < (xs.length : Int)) = false := decide_eq_false (by omega)
  have hw1 : withinB (count : Int) 1 7 = true := by simp [withinB]; omega
  have hw2 : withinB overlap 0 7 = true := by simp [withinB]; omega
  have HFor := Lib.hid hfor
  have HOf := Lib.hid hof
  have HOf1 := Lib.hid hof1
  have hN0 : decide ((N : Int) < 0) = false := decide_eq_false (by omega)
  have hNM : decide ((N : Int) < (M : Int)) = false := decide_eq_false (by omega)
  have hNM' : decide (N < M) = false := decide_eq_false (by omega)
  have hpos' : decide (0 < N) = false := by
    rw [← hpos]
    exact decide_eq_decide.2 (by omega)
  have hp1' : decide (1 < count) = true := by
    rw [← hp1]
    exact decide_eq_decide.2 (by omega)
  have HCk := Lib.hid hck
  clear hr hfor hof hof1 hck
  go_enter Try.func5, Try.ntmps5
  go_wp2_with (first
    | (go_at_call 15; refine (awake_any _).mono ?_; rintro e w1 ⟨rfl, hb⟩; replace HBx := Lib.hid (pt HBx.out hb); clear hb)
    | (go_at_call 32; refine (baseWithin_any _ _ _ _).mono ?_; rintro e w' ⟨rfl, rfl⟩)
    | (go_at_call 25; go_must (refine (HFor.out _).mono ?_); rintro e w2 ⟨A2, c2, rfl, hi2, hc2, hb⟩; replace HBx := Lib.hid (pt HBx.out hb); clear hb; have HI2 := Lib.hid hi2; clear hi2)
    | (go_at_call 26; (with_reducible refine (HOf.out _).mono ?_); rintro e w3 ⟨rfl, hb⟩; replace HI2 := Lib.hid ((HI2.out.below hb).more hb.size); replace HBx := Lib.hid (pt HBx.out hb); clear hb)
    | (go_at_call 26; go_must (refine (HOf1.out _).mono ?_); rintro e w4 ⟨rfl, hb⟩; replace HI2 := Lib.hid ((HI2.out.below hb).more hb.size); replace HBx := Lib.hid (pt HBx.out hb); clear hb)
    | (go_at_call 24; (with_reducible refine (copyInts_any _ A2 L.length c2 L _ HI2.out rfl (Nat.le_refl _) (by omega)).mono ?_); rintro e w5 ⟨v4, rfl, hown4, hb⟩; obtain ⟨A4, c4, rfl, hc4, hm4⟩ := own_form hown4; have HI4 := Lib.hid (intsIn_of_own hown4); replace HBx := Lib.hid (pt HBx.out hb); clear hb; clear hown4)
    | (go_at_call 23; (with_reducible refine (checkStack_any _ A4 c4 L overlap _ HI4.out (Nat.le_refl _) (by omega) hc4).mono ?_); rintro e w6 ⟨rfl, hb⟩; rw [HCk.out]; replace HBx := Lib.hid (pt HBx.out hb); clear hb))
  clear hlc hpos hN0 hNM hp1 hp2 hNM' hpos' hp1' hw1 hw2 hd HCk HFor HOf HOf1
  go_loopw [15] (fun i wr => ∃ k : Nat, k ≤ xs.length ∧ i = .int .i64 (k : Int) ∧ (∀ j, j < k → offErr xs j = 0) ∧ Below w.heap.size w wr) (fun i _ => xs.length - (intOf i).toNat)
  case atStart => exact ⟨0, Nat.zero_le _, rfl, fun j hj => by omega, HBx.out⟩
  case round =>
    obtain ⟨k, hk, rfl, hf, hq⟩ := hrel
    clear HBx
    by_cases hlt : k < xs.length
    · have hrw := HR.out.below hq
      have hsz := hq.size
      obtain ⟨b, off, rfl, hbB, hct⟩ := hrw.at_ hlt
      have hcell := hct k hlt
      have hbw : b < wr.heap.size := by omega
      have HRw := Lib.hid (show ∀ nq, IntsIn w.heap.size (wr.drewN nq) (some ⟨b, off, none⟩) (xs.take k) from fun nq => (hrw.below (below_drewN' (Below.refl _ _) nq)).take k)
      have HF := Lib.hid hf
      have HO := Lib.hid (off_zero xs k)
      have i0 : (0 : Int) ≤ (k : Int) := by omega
      have i1 : (k : Int) ≤ (c : Int) := by omega
      have i2 : (k : Int) < (xs.length : Int) := by omega
      have hk1000 : k ≤ 1000 := by omega
      have HT := Lib.hid (show (xs.take k).length = k by simp; omega)
      clear hrw hct hf
      have HW := Lib.hid fun W => baseWithin_any (xs.getD k 0) 0 ((xs.length : Int) - 1) W
      have HH := Lib.hid fun nq => baseHas_n k _ _ c (xs.take k) (xs.getD k 0) _ (HRw.out nq) HT.out hk1000
      generalize xs.getD k 0 = x at *
      have hw1 : IntKind.i64.wrap ((xs.length : Int) - 1) = (xs.length : Int) - 1 := IntWalk.i64_in _ (by omega)
      cases hwi : withinB x 0 ((xs.length : Int) - 1)
      · have hww := HW.out
        rw [hwi] at hww
        replace HW := Lib.hid hww
        clear hww
        go_wp2
        go_quiet ((go_at_call 32; exact Calls.quiet_of_same ((HW.out _).mono fun e w' h => ⟨h.1, h.2.symm⟩)))
        go_wp2
        go_ret
        exact ⟨rfl, below_drewN' hq nq⟩
      · have hww := HW.out
        rw [hwi] at hww
        replace HW := Lib.hid hww
        clear hww
        cases hha : hasB (xs.take k) x
        · have hhh := HH.out
          rw [hha] at hhh
          replace HH := Lib.hid hhh
          clear hhh
          go_wp2
          go_quiet (first | (go_at_call 32; exact Calls.quiet_of_same ((HW.out _).mono fun e w' h => ⟨h.1, h.2.symm⟩)) | (go_at_call 33; exact Calls.quiet_of_same ((HH.out _).mono fun e w' h => ⟨h.1, h.2.symm⟩)))
          go_wp2
          go_roundw
          case rel => exact ⟨k + 1, by omega, by go_num, fun j hj => by
            rcases Nat.lt_or_ge j k with h | h
            · exact HF.out j h
            · obtain rfl : j = k := by omega
              refine HO.out.2 ⟨?_, hha⟩
              simpa [withinB] using hwi, below_drewN' hq nq⟩
          case measure => simp [intOf]; omega
        · have hhh := HH.out
          rw [hha] at hhh
          replace HH := Lib.hid hhh
          clear hhh
          go_wp2
          go_quiet (first | (go_at_call 32; exact Calls.quiet_of_same ((HW.out _).mono fun e w' h => ⟨h.1, h.2.symm⟩)) | (go_at_call 33; exact Calls.quiet_of_same ((HH.out _).mono fun e w' h => ⟨h.1, h.2.symm⟩)))
          go_wp2
          go_ret
          exact ⟨rfl, below_drewN' hq nq⟩
    · obtain rfl : k = xs.length := by omega
      have hP := (perm_iff xs).1 hf
      have HP := Lib.hid hP
      have HBx := Lib.hid hq
      clear hf hP hq
      by_cases hz : xs.length = 0
      · have hz1 : ((xs.length : Int) == 0) = true := by simp [hz]
        go_wp2
        go_ret
        exact ⟨rfl, HBx.out⟩
      · have hz1 : ((xs.length : Int) == 0) = false := by simp [hz]
        go_wp2
        clear hz1
        go_loopw [16, 17, 18] (fun ov tv iv wr => ∃ (k : Nat) (A16 A17 : Option Addr) (c16 c17 : Nat) (l16 l17 : List Int), iv = .int .i64 (k : Int) ∧ ov = .slice A16 k c16 ∧ tv = .slice A17 k c17 ∧ k ≤ xs.length ∧ l16.length = k ∧ l17.length = k ∧ (∀ j, j < k → l16.getD j 0 = xs.getD (xs.length - 1 - j) 0) ∧ (∀ j, j < k → l17.getD j 0 = (xs.length : Int) - 1 - xs.getD j 0) ∧ Two w.heap.size wr (.slice A16 k c16) k l16 (.slice A17 k c17) k l17 ∧ Below w.heap.size w wr) (fun _ _ iv _ => xs.length - (intOf iv).toNat)
        case atStart => exact ⟨0, none, none, 0, 0, [], [], rfl, rfl, rfl, Nat.zero_le _, rfl, rfl, fun j hj => by omega, fun j hj => by omega, ⟨World.ownsRow_nil _ _ _ _, World.ownsRow_nil _ _ _ _, .inl rfl⟩, HBx.out⟩
        case round =>
          obtain ⟨k, A16, A17, c16, c17, l16, l17, rfl, rfl, rfl, hk2, hn16, hn17, hg16, hg17, hT, hq⟩ := hrel
          clear HBx
          have hsz := hq.size
          by_cases hlt : k < xs.length
          · have hrw := HR.out.below hq
            obtain ⟨b, off, rfl, hbB, hct⟩ := hrw.at_ hlt
            have hcell := hct (xs.length - 1 - k) (by omega)
            have hcell2 := hct k hlt
            have hbw : b < wr.heap.size := by omega
            have HT := Lib.hid hT
            have HG16 := Lib.hid hg16
            have HG17 := Lib.hid hg17
            have HN16 := Lib.hid hn16
            have HN17 := Lib.hid hn17
            have HQ := Lib.hid hq
            have hy := HP.out.rng k hlt
            have n16 : (Value.slice A16 k c16).ownBlock ≠ some b := fun e => by have := (hT.fst.lt b e).1; omega
            have n17 : (Value.slice A17 k c17).ownBlock ≠ some b := fun e => by have := (hT.snd.lt b e).1; omega
            have m16 : ∀ g, (Value.slice A16 k c16).ownBlock = some g → g < wr.heap.size := fun g e => (hT.fst.lt g e).2
            have hmx : k + 1 ≤ maxLen := by simp only [maxLen]; omega
            have hby : (k + 1) * 8 ≤ 140737488355328 := by omega
            clear hrw hct hT hg16 hg17 hn16 hn17
            have HY1 := Lib.hid (show xs.getD (xs.length - 1 - k) 0 = xs.getD (xs.length - 1 - k) 0 from rfl)
            obtain ⟨y1, hy1⟩ : ∃ y1, y1 = xs.getD (xs.length - 1 - k) 0 := ⟨_, rfl⟩
            obtain ⟨y2, hy2⟩ : ∃ y2, y2 = xs.getD k 0 := ⟨_, rfl⟩
            rw [← hy1] at hcell
            rw [← hy2] at hcell2 hy
            have HY1 := Lib.hid hy1
            have HY2 := Lib.hid hy2
            clear hy1 hy2
            obtain ⟨z, hz0⟩ : ∃ z : Int, z = (xs.length : Int) - 1 - (k : Int) := ⟨_, rfl⟩
            obtain ⟨z2, hz3⟩ : ∃ z2 : Int, z2 = (xs.length : Int) - 1 - y2 := ⟨_, rfl⟩
            have q0 : (0 : Int) ≤ z := by omega
            have q1 : z < (xs.length : Int) := by omega
            have q2 : z.toNat = xs.length - 1 - k := by omega
            have q3 : (0 : Int) ≤ (k : Int) := by omega
            have q4 : (k : Int) < (xs.length : Int) := by omega
            go_wp2
            have e1 : IntKind.i64.wrap ((xs.length : Int) - 1) = (xs.length : Int) - 1 := IntWalk.i64_in _ (by omega)
            have e2 : IntKind.i64.wrap ((xs.length : Int) - 1 - (k : Int)) = z := (IntWalk.i64_in _ (by omega)).trans hz0.symm
            have e3 : IntKind.i64.wrap ((xs.length : Int) - 1 - y2) = z2 := (IntWalk.i64_in _ (by omega)).trans hz3.symm
            have HZ2 := Lib.hid hz3
            clear hz0 hz3
            generalize hnk : xs.length - 1 - k = nk at *
            have HNk := Lib.hid hnk
            clear hnk
            go_region_held3 (fun w' => w'.cell? ⟨b, off + nk, none⟩ = some (.int .i64 y1) ∧ w'.cell? ⟨b, off + k, none⟩ = some (.int .i64 y2))
              (first
                | go_keep
                | (go_split_ands; refine ⟨?_, ?_⟩ <;> (rw [hgrow.cell_far _ (by simp; omega) (Ne.symm n16)]; assumption))
                | (go_split_ands; refine ⟨?_, ?_⟩ <;> (rw [hgrow2.cell_far _ (by simp; omega) (Ne.symm n17)]; assumption)))
              (first
                | ((refine step_append_lies _ (by rfl) _ _ _ (by rfl) w.heap.size 3 i0 _ 1 8 Try.underlying28 hi0 hz0 hz1 hz2 rfl (by omega) (.slice A16 k c16) k (l16.map (Value.int .i64)) (by rfl) (HT.out.alloc _).drew.fst ⟨wr.heap.size, 0, none⟩ 1 1 [.int .i64 y1] (by rfl) (by rfl) (World.news_of_block (cs := #[.int .i64 y1]) (t := 3) (fr := (0, 0)) (Blk.new wr _ _)) (by simp [Value.oneCell']) (by omega) hmx hby (by first | omega | (simp; omega)) _ rfl ?_; intro g1 cap1 w1 hown1 hgrow hat hlt1; have hb1 := pg (pd (pa HQ.out)) (HT.out.alloc _).drew.fst (Nat.le_refl _) hgrow; have T1 := (HT.out.alloc _).drew.grow (l := l16 ++ [y1]) (by simpa using hown1) hgrow hat; have hs1 := hb1.size))
                | ((refine step_append_lies _ (by rfl) _ _ _ (by rfl) w.heap.size 3 i0 _ 1 8 Try.underlying28 hi0 hz0 hz1 hz2 rfl (by omega) (.slice A16 k c16) k (l16.map (Value.int .i64)) (by rfl) ((HT.out.alloc _).alloc _).drew.fst ⟨wr.heap.size, 0, none⟩ 1 1 [.int .i64 y1] (by rfl) (by rfl) (World.news_of_block (cs := #[.int .i64 y1]) (t := 3) (fr := (0, 0)) (Blk.new wr _ _).alloc) (by simp [Value.oneCell']) (by omega) hmx hby (by first | omega | (simp; omega)) _ rfl ?_; intro g1 cap1 w1 hown1 hgrow hat hlt1; have hb1 := pg (pd (pa (pa HQ.out))) ((HT.out.alloc _).alloc _).drew.fst (Nat.le_refl _) hgrow; have T1 := ((HT.out.alloc _).alloc _).drew.grow (l := l16 ++ [y1]) (by simpa using hown1) hgrow hat; (have hs1 := hb1.size; have q5 : Blk w1 (wr.heap.size + 1) 3 #[.int .i64 z2] := Blk.grown (show Blk ((wr.alloc (.cells #[.int .i64 y1] 3)).alloc (.cells #[.int .i64 z2] 3)) (wr.heap.size + 1) 3 #[.int .i64 z2] from Blk.newAt (by simp)).drew hgrow (fun e => by have := m16 _ e.symm; omega))))
                | ((refine step_append_lies _ (by rfl) _ _ _ (by rfl) w.heap.size 3 i0 _ 1 8 Try.underlying28 hi0 hz0 hz1 hz2 rfl (by omega) (.slice A16 k c16) k (l16.map (Value.int .i64)) (by rfl) ((HT.out.alloc _).alloc _).drew.fst ⟨wr.heap.size + 1, 0, none⟩ 1 1 [.int .i64 y1] (by rfl) (by rfl) (World.news_of_block (cs := #[.int .i64 y1]) (t := 3) (fr := (0, 0)) (show Blk ((wr.alloc (.cells #[.int .i64 z2] 3)).alloc (.cells #[.int .i64 y1] 3)) (wr.heap.size + 1) 3 #[.int .i64 y1] from Blk.newAt (by simp))) (by simp [Value.oneCell']) (by omega) hmx hby (by first | omega | (simp; omega)) _ rfl ?_; intro g1 cap1 w1 hown1 hgrow hat hlt1; have hb1 := pg (pd (pa (pa HQ.out))) ((HT.out.alloc _).alloc _).drew.fst (Nat.le_refl _) hgrow; have T1 := ((HT.out.alloc _).alloc _).drew.grow (l := l16 ++ [y1]) (by simpa using hown1) hgrow hat; (have hs1 := hb1.size; have q5 : Blk w1 wr.heap.size 3 #[.int .i64 z2] := Blk.grown (Blk.new wr _ _).alloc.drew hgrow (fun e => by have := m16 _ e.symm; omega))))
                | ((refine step_append_lies _ (by rfl) _ _ _ (by rfl) w.heap.size 3 i0 _ 1 8 Try.underlying28 hi0 hz0 hz1 hz2 rfl (by omega) (.slice A17 k c17) k (l17.map (Value.int .i64)) (by rfl) (T1.alloc _).snd ⟨w1.heap.size, 0, none⟩ 1 1 [.int .i64 z2] (by rfl) (by rfl) (World.news_of_block (cs := #[.int .i64 z2]) (t := 3) (fr := (0, 0)) (Blk.new w1 _ _)) (by simp [Value.oneCell']) (by omega) hmx hby (by first | omega | (simp; omega)) _ rfl ?_; intro g2 cap2 w2 hown2 hgrow2 hat2 hlt2; have hb2 := pg (pa hb1) (T1.alloc _).snd (Nat.le_refl _) hgrow2; have T2 := ((T1.alloc _).turn.grow (l := l17 ++ [z2]) (by simpa using hown2) hgrow2 hat2).turn))
                | ((refine step_append_lies _ (by rfl) _ _ _ (by rfl) w.heap.size 3 i0 _ 1 8 Try.underlying28 hi0 hz0 hz1 hz2 rfl (by omega) (.slice A17 k c17) k (l17.map (Value.int .i64)) (by rfl) T1.snd ⟨wr.heap.size + 1, 0, none⟩ 1 1 [.int .i64 z2] (by rfl) (by rfl) (World.news_of_block (cs := #[.int .i64 z2]) (t := 3) (fr := (0, 0)) q5) (by simp [Value.oneCell']) (by omega) hmx hby (by first | omega | (simp; omega)) _ rfl ?_; intro g2 cap2 w2 hown2 hgrow2 hat2 hlt2; have hb2 := pg hb1 T1.snd (Nat.le_refl _) hgrow2; have T2 := (T1.turn.grow (l := l17 ++ [z2]) (by simpa using hown2) hgrow2 hat2).turn))
                | ((refine step_append_lies _ (by rfl) _ _ _ (by rfl) w.heap.size 3 i0 _ 1 8 Try.underlying28 hi0 hz0 hz1 hz2 rfl (by omega) (.slice A17 k c17) k (l17.map (Value.int .i64)) (by rfl) T1.snd ⟨wr.heap.size, 0, none⟩ 1 1 [.int .i64 z2] (by rfl) (by rfl) (World.news_of_block (cs := #[.int .i64 z2]) (t := 3) (fr := (0, 0)) q5) (by simp [Value.oneCell']) (by omega) hmx hby (by first | omega | (simp; omega)) _ rfl ?_; intro g2 cap2 w2 hown2 hgrow2 hat2 hlt2; have hb2 := pg hb1 T1.snd (Nat.le_refl _) hgrow2; have T2 := (T1.turn.grow (l := l17 ++ [z2]) (by simpa using hown2) hgrow2 hat2).turn)))
            all_goals
              clear hgrow hgrow2 hown1 hown2 hat hat2 hlt1 hlt2 T1 hb1
              have HT2 := Lib.hid T2
              have HB2 := Lib.hid hb2
              clear T2 hb2 e1 e2 e3 q0 q1 q2
              go_wp2
              go_roundw
              case rel =>
                refine ⟨k + 1, some ⟨g1, 0, none⟩, some ⟨g2, 0, none⟩, cap1, cap2, l16 ++ [y1], l17 ++ [z2], by go_num, rfl, rfl, by omega, by simp [HN16.out], by simp [HN17.out], fun j hj => ?_, fun j hj => ?_, HT2.out, HB2.out⟩
                · rw [getD_add HN16.out hj]
                  by_cases h : j < k
                  · rw [if_pos h, HG16.out j h]
                  · obtain rfl : j = k := by omega
                    rw [if_neg h, HY1.out, HNk.out]
                · rw [getD_add HN17.out hj]
                  by_cases h : j < k
                  · rw [if_pos h, HG17.out j h]
                  · obtain rfl : j = k := by omega
                    rw [if_neg h, HZ2.out, HY2.out]
              case measure => simp [intOf]; omega
          · obtain rfl : k = xs.length := by omega
            have hE : stackE xs.length overlap = 0 := (unless_ne (by decide)).2 (by simp [withinB]; omega)
            have hB : Back xs l16 := ⟨hn16, hg16⟩
            have hO : Opp xs l17 := ⟨hn17, hg17⟩
            have hb16 := hB.check overlap hE HP.out
            have hb17 := hO.check overlap hE HP.out
            have hcase := check_gap xs overlap hE ((perm_iff xs).2 HP.out)
            obtain ⟨_, _, hv16, hk16, _⟩ := own_form hT.fst
            obtain ⟨_, _, hv17, hk17, _⟩ := own_form hT.snd
            have hm16 : xs.length ≤ c16 := by injection hv16 with _ _ h; omega
            have hm17 : xs.length ≤ c17 := by injection hv17 with _ _ h; omega
            have HI16 := Lib.hid (intsIn_of_own hT.fst)
            have HI17 := Lib.hid (intsIn_of_own hT.snd)
            have HN16 := Lib.hid hn16
            have HN17 := Lib.hid hn17
            have HBx := Lib.hid hq
            obtain ⟨a, ha⟩ : ∃ a, a = (checkStackV xs overlap).2 := ⟨_, rfl⟩
            rw [← ha] at hb16 hb17 hcase
            have HA1 := Lib.hid ha.symm
            have HA16 := Lib.hid hb16.symm
            have HA17 := Lib.hid hb17.symm
            clear hE hB hO hb16 hb17 hv16 hv17 hk16 hk17 hn16 hn17 hg16 hg17 hT hq ha HP
            rcases hcase with rfl | rfl
            all_goals
              go_wp2_with (first
                | (go_at_call 24; go_must (refine (copyInts_any w.heap.size A xs.length c xs _ (HR.out.below HBx.out) rfl HBx.out.size (by omega)).mono ?_); rintro e w2 ⟨v1, rfl, hown1, hb⟩; obtain ⟨A1, c1, rfl, hcx1, hm1⟩ := own_form hown1; have HI1 := Lib.hid (intsIn_of_own hown1); replace HI16 := Lib.hid ((HI16.out.below hb).more hb.size); replace HI17 := Lib.hid ((HI17.out.below hb).more hb.size); replace HBx := Lib.hid (pt HBx.out hb); clear hb; clear hown1)
                | (go_at_call 23; (with_reducible refine (checkStack_n xs.length _ A1 c1 xs overlap _ HI1.out rfl (Nat.le_refl _) (by omega) hcx1).mono ?_); rintro e w3 ⟨rfl, hb⟩; rw [HA1.out]; replace HI16 := Lib.hid ((HI16.out.below hb).more hb.size); replace HI17 := Lib.hid ((HI17.out.below hb).more hb.size); replace HBx := Lib.hid (pt HBx.out hb); clear hb)
                | (go_at_call 23; (with_reducible refine (checkStack_n xs.length _ A16 c16 l16 overlap _ HI16.out HN16.out (Nat.le_refl _) (by omega) hm16).mono ?_); rintro e w3 ⟨rfl, hb⟩; rw [HA16.out]; replace HI16 := Lib.hid ((HI16.out.below hb).more hb.size); replace HI17 := Lib.hid ((HI17.out.below hb).more hb.size); replace HBx := Lib.hid (pt HBx.out hb); clear hb)
                | (go_at_call 23; go_must (refine (checkStack_n xs.length _ A17 c17 l17 overlap _ HI17.out HN17.out (Nat.le_refl _) (by omega) hm17).mono ?_); rintro e w3 ⟨rfl, hb⟩; rw [HA17.out]; replace HI16 := Lib.hid ((HI16.out.below hb).more hb.size); replace HI17 := Lib.hid ((HI17.out.below hb).more hb.size); replace HBx := Lib.hid (pt HBx.out hb); clear hb))
              go_ret
              exact ⟨rfl, HBx.out⟩

end Go.Proofs.Ytlgioldmjohhlaa
