/- Contract of the specification's Cut: a new slice of the pieces of a string. Strings of at most 1000 bytes. -/
import Derived.Test.YtccpkheiokjcdaaGreatDoorK3Cut
import Derived.Deep.DrawnRows
import Derived.Test.YtccpkheiokjcdaaGreatDoorO2
namespace Go.Proofs.YtccpkheiokjcdaaGreatDoor
open Go.RowKit
attribute [local go_sem ↓] Go.wp_at_zero Go.wp_at_succ

theorem string_info : (Tryz.prog.info? 9).map (fun i => (i.zero, i.size, i.bytes)) = some (some (.string ByteArray.empty), 1, 16) := by kernel_rfl
abbrev strV (l : List UInt8) : Value := .string ⟨l.toArray⟩
/-- A one-cell block holds a list of one. -/
theorem cellsIn_one (w : World) (t : TypeId) (v : Value) : CellsIn (w.heap.size + 1) (w.alloc (.cells #[v] t)) (some ⟨w.heap.size, 0, none⟩) [v] :=
  .inr ⟨w.heap.size, 0, rfl, Nat.lt_succ_self _, fun j hj => by
    have : j = 0 := by simpa using hj
    subst this
    exact (Blk.new w t #[v]).cellAt 0 rfl⟩

set_option maxHeartbeats 4000000 in
set_option maxRecDepth 100000 in
theorem refCut_own (l : List UInt8) (hl : l.length ≤ 1000) (c : Nat) (hc : c < 256) (w : World) :
    Calls Tryz.prog 23 #[.string ⟨l.toArray⟩, .int .u8 (c : Int)] w fun e w' => ∃ A cap, e = .returned (.slice A (splitL (UInt8.ofNat c) l).length cap) ∧ (splitL (UInt8.ofNat c) l).length ≤ cap ∧ w'.ownsRow w.heap.size 9 1 (.slice A (splitL (UInt8.ofNat c) l).length cap) (splitL (UInt8.ofNat c) l).length ((splitL (UInt8.ofNat c) l).map strV) ∧ Below w.heap.size w w' := by
  obtain ⟨i0, hi0, hz0, hz1, hz2⟩ : ∃ i0, Tryz.prog.info? 9 = some i0 ∧ i0.zero = some (.string ByteArray.empty) ∧ i0.size = 1 ∧ i0.bytes = 16 := by
    have h := string_info
    cases hi : Tryz.prog.info? 9 with
    | none => rw [hi] at h; cases h
    | some i => rw [hi] at h; simp only [Option.map_some, Option.some.injEq, Prod.mk.injEq] at h; exact ⟨i, rfl, h.1, h.2.1, h.2.2⟩
  have hbs := bsize l
  have c0 : (0 : Int) ≤ (c : Int) := by omega
  generalize hS : splitL (UInt8.ofNat c) l = S
  have hSl : S.length ≤ 1001 := by rw [← hS]; have := splitL_len (c := UInt8.ofNat c) l; omega
  have HS := Lib.hid hS
  clear hS
  go_enter Tryz.func23, Tryz.ntmps23
  go_wp2
  go_loopw [5, 6, 7] (fun ov fv iv wr => ∃ (i f : Nat) (done : List (List UInt8)) (A : Option Addr) (c' : Nat), ov = .slice A done.length c' ∧ fv = .int .i64 (f : Int) ∧ iv = .int .i64 (i : Int) ∧ f ≤ i ∧ i ≤ l.length ∧ S = done ++ addHead ((l.drop f).take (i - f)) (splitL (UInt8.ofNat c) (l.drop i)) ∧ wr.ownsRow w.heap.size 9 1 (.slice A done.length c') done.length (done.map strV) ∧ Below w.heap.size w wr) (fun _ _ iv _ => l.length - (intOf iv).toNat)
  case atStart => exact ⟨0, 0, [], none, 0, rfl, rfl, rfl, Nat.le_refl _, Nat.zero_le _, by rw [← HS.out]; simp [addHead_nil (splitL_ne l)], World.ownsRow_nil _ _ _ _, pr⟩
  case round =>
    obtain ⟨i, f, done, A, c', rfl, rfl, rfl, hfi, hil, hs, hown, hq⟩ := hrel
    have hdl : done.length ≤ 1001 := by rw [hs] at hSl; simp at hSl; omega
    have HQ := Lib.hid hq
    have HSt := Lib.hid hs
    have n0 : (0 : Int) ≤ (i : Int) := by omega
    have f0 : (0 : Int) ≤ (f : Int) := by omega
    have f1 : (f : Int) ≤ (i : Int) := by omega
    clear hq hs
    by_cases hlt : i < l.length
    · have n1 : (i : Int) < (l.length : Int) := by omega
      have hix := fun W => index_byteL l i hlt W
      have hbd := byteL_bd l i
      have hby := byte_is (l := l) (k := i) hc
      have hdr := drop_byte hlt
      have hpo := piece_on hfi hlt
      have e1 : IntKind.i64.wrap ((i : Int) + 1) = (i : Int) + 1 := IntWalk.i64_in _ (by omega)
      have hex := extract_list l f i
      by_cases hb : byteL l i = (c : Int)
      · have HNext := Lib.hid (show S = (done ++ [(l.drop f).take (i - f)]) ++ addHead ((l.drop (i + 1)).take (i + 1 - (i + 1))) (splitL (UInt8.ofNat c) (l.drop (i + 1))) from by
          rw [HSt.out, hdr, hby.1 hb, cut_hit, Nat.sub_self, List.take_zero, addHead_nil (splitL_ne _), List.append_assoc]; rfl)
        have HBY := Lib.hid hb
        rw [hb] at hix
        have HC := Lib.hid (cellsIn_one wr 9 (strV ((l.drop f).take (i - f))))
        have HO3 := Lib.hid (hown.alloc (.cells #[strV ((l.drop f).take (i - f))] 9))
        have hqs := HQ.out.size
        clear hby hdr hpo hb hown hbd
        go_wp2_with (at_builtin; go_must (refine wpList_append_cells _ rfl (.tmp 19) (.tmp 24) _ rfl w.heap.size 9 i0 _ 1 16 Tryz.underlying62 hi0 hz0 hz1 hz2 rfl (by omega) _ done.length _ rfl HO3.out (wr.heap.size + 1) (some ⟨wr.heap.size, 0, none⟩) 1 1 _ rfl HC.out rfl (by simp [Value.oneCell']) (by simp only [maxLen]; omega) (by omega) (by simp; omega) ?_); intro v4 w4 hown4 hg4 hat4; obtain ⟨A4, c4, rfl, hc4, hm4⟩ := own_form hown4)
        have HB4 := Lib.hid (show Below w.heap.size w w4 from pg (pa HQ.out) HO3.out (Nat.le_refl _) hg4)
        have HOwn4 := Lib.hid hown4
        clear hown4 hg4 hat4
        go_roundw
        case rel => exact ⟨i + 1, i + 1, done ++ [(l.drop f).take (i - f)], A4, c4, by simp, by go_num, by go_num, Nat.le_refl _, by omega, HNext.out, by simpa using HOwn4.out, HB4.out⟩
        case measure => simp [intOf]; omega
      · have hbne : UInt8.ofNat c ≠ l.getD i 0 := fun e => hb (hby.2 e.symm)
        have HNext := Lib.hid (show S = done ++ addHead ((l.drop f).take (i + 1 - f)) (splitL (UInt8.ofNat c) (l.drop (i + 1))) from by
          rw [HSt.out, hdr, cut_on (Ne.symm hbne), hpo])
        have hb1 : (byteL l i == (c : Int)) = false := by simpa using hb
        have HOwn := Lib.hid hown
        generalize byteL l i = b at *
        clear hby hdr hpo hbne hown
        go_wp2
        go_roundw
        case rel => exact ⟨i + 1, f, done, A, c', rfl, rfl, by go_num, by omega, by omega, HNext.out, HOwn.out, HQ.out⟩
        case measure => simp [intOf]; omega
    · have hie : i = l.length := by omega
      have hex := extract_list l f l.length
      have HEnd := Lib.hid (show S = done ++ [l.drop f] from by
        rw [HSt.out, hie, List.drop_length, show splitL (UInt8.ofNat c) [] = [[]] from rfl]
        simp only [addHead, List.append_nil]
        rw [List.take_of_length_le (by simp)])
      have hS2 := HEnd.out
      have HC := Lib.hid (cellsIn_one wr 9 (strV (l.drop f)))
      have HO3 := Lib.hid (hown.alloc (.cells #[strV (l.drop f)] 9))
      have hqs := HQ.out.size
      have HX := Lib.hid (show (⟨l.toArray⟩ : ByteArray).extract f l.length = ⟨(l.drop f).toArray⟩ from by rw [extract_list, List.take_of_length_le (by simp)])
      have hx := HX.out
      subst hS2
      clear HS HSt HEnd hown hex
      go_wp2_with (at_builtin; go_must (refine wpList_append_cells _ rfl (.tmp 28) (.tmp 32) _ rfl w.heap.size 9 i0 _ 1 16 Tryz.underlying62 hi0 hz0 hz1 hz2 rfl (by omega) _ done.length _ rfl HO3.out (wr.heap.size + 1) (some ⟨wr.heap.size, 0, none⟩) 1 1 _ rfl HC.out rfl (by simp [Value.oneCell']) (by simp only [maxLen]; omega) (by omega) (by simp; omega) ?_); intro v4 w4 hown4 hg4 hat4; obtain ⟨A4, c4, rfl, hc4, hm4⟩ := own_form hown4)
      have HB4 := Lib.hid (show Below w.heap.size w w4 from pg (pa HQ.out) HO3.out (Nat.le_refl _) hg4)
      go_ret
      refine ⟨A4, c4, ?_, by simpa using hc4, ?_, HB4.out⟩
      · rw [List.length_append]; rfl
      · rw [List.map_append, List.length_append]
        exact hown4
theorem refCut_any (l : List UInt8) (hl : l.length ≤ 1000) (c : Nat) (hc : c < 256) (w : World) :
    Calls Tryz.prog 23 #[.string ⟨l.toArray⟩, .int .u8 (c : Int)] w fun e w' => ∃ A cap, e = .returned (.slice A (splitL (UInt8.ofNat c) l).length cap) ∧ (splitL (UInt8.ofNat c) l).length ≤ cap ∧ CellsIn w'.heap.size w' A ((splitL (UInt8.ofNat c) l).map strV) ∧ Below w.heap.size w w' :=
  (refCut_own l hl c hc w).mono fun e w' ⟨A, cap, h1, h2, h3, h4⟩ => ⟨A, cap, h1, h2, cellsIn_of_own h3, h4⟩

end Go.Proofs.YtccpkheiokjcdaaGreatDoor
