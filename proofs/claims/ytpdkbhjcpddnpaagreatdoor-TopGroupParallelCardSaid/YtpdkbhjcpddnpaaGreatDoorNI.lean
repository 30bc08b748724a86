/- Contract: the unit of a string. Printed by a program (gen_parse.py).
Contract: the unit of any string, joined from its leaves. -/
import Derived.Test.YtpdkbhjcpddnpaaGreatDoorNH
import Derived.Test.YtpdkbhjcpddnpaaGreatDoorND
import Derived.Test.YtpdkbhjcpddnpaaGreatDoorN9

section
namespace Go.Proofs.YtpdkbhjcpddnpaaGreatDoor
open Go.RowKit
attribute [local go_sem ↓] Go.wp_at_zero Go.wp_at_succ

theorem pUnit_size : (Tryz.prog.info? 48).map (·.size) = some 9 := by kernel_rfl
theorem splitB_list (l : List UInt8) (c : UInt8) : Lib.splitB ⟨#[c]⟩ 0 (Lib.countB ⟨l.toArray⟩ ⟨#[c]⟩) ⟨l.toArray⟩ = (splitL c l).map fun x => ⟨x.toArray⟩ := by
  have h := Lib.splitB_data ⟨#[c]⟩ 0 (Lib.countB ⟨l.toArray⟩ ⟨#[c]⟩) ⟨l.toArray⟩
  have h2 : Lib.splitK [c] 0 (Lib.countB ⟨l.toArray⟩ ⟨#[c]⟩) l = splitL c l := lib_split l c
  have h3 : ((⟨l.toArray⟩ : ByteArray)).data.toList = l := rfl
  rw [h3] at h
  have h := h.trans h2
  rw [← h, List.map_map]
  exact (List.map_id _).symm
theorem splitS_any (l : List UInt8) (hl : l.length ≤ 1000) (w : World) (h : StrIn w) : Calls Tryz.prog 68 #[.string ⟨l.toArray⟩, .string ⟨#[32]⟩] w fun e w' => e = .returned (.slice (some ⟨w.heap.size, 0, none⟩) (splitL 32 l).length (splitL 32 l).length) ∧ w' = w.alloc (.cells ((splitL 32 l).map strV).toArray 9) := by
  obtain ⟨m, hm⟩ := h.max
  refine (Tryz.strings_Split ⟨l.toArray⟩ ⟨#[32]⟩ m w (by rw [bsize]; omega) hm (by decide)).mono ?_
  rintro e w' ⟨rfl, rfl⟩
  have hlen := Lib.splitB_all ⟨#[32]⟩ (by decide) 0 _ (⟨l.toArray⟩ : ByteArray) rfl
  rw [splitB_list] at hlen ⊢
  rw [List.length_map] at hlen
  rw [← hlen, List.map_map]
  exact ⟨rfl, rfl⟩
theorem splitS_below (l : List UInt8) (hl : l.length ≤ 1000) (w : World) (h : StrIn w) : Calls Tryz.prog 68 #[.string ⟨l.toArray⟩, .string ⟨#[32]⟩] w fun e w' => e = .returned (.slice (some ⟨w.heap.size, 0, none⟩) (splitL 32 l).length (splitL 32 l).length) ∧ Below w.heap.size w w' :=
  (splitS_any l hl w h).mono fun _e _w'' ⟨h1, h2⟩ => ⟨h1, h2 ▸ pa pr⟩
theorem winding_ex (l : List UInt8) (hl : l.length ≤ 1000) (o : Bool) (h : (parseW l).isSome = o) (w : World) (hS : StrIn w) (hP : PatIn w) : Calls Tryz.prog 69 #[.string ⟨l.toArray⟩] w fun e w' => (∃ k t s r, e = .returned (.tuple #[.agg #[.int .i64 k, .int .i64 t, .int .i64 s, .bool r], .bool o])) ∧ Below w.heap.size w w' := by
  have q := winding_any l hl w hS hP
  subst h
  generalize parseW l = V at *
  cases V with
  | none => exact q
  | some x => exact q.mono fun e w' ⟨h1, h2⟩ => ⟨⟨_, _, _, _, h1⟩, h2⟩
theorem number_ex (l : List UInt8) (hl : l.length ≤ 1000) (o : Bool) (h : (numP l).isSome = o) (w : World) (hS : StrIn w) : Calls Tryz.prog 70 #[.string ⟨l.toArray⟩] w fun e w' => (∃ x : Int, e = .returned (.tuple #[.int .i64 x, .bool o])) ∧ Below w.heap.size w w' :=
  (number_any l hl w hS).mono fun e w' ⟨⟨x, h1, _⟩, h2⟩ => ⟨⟨x, by rw [h1, h]⟩, h2⟩

set_option maxHeartbeats 4000000 in
set_option maxRecDepth 100000 in
theorem parse_len (l : List UInt8) (hl : l.length ≤ 1000) (hs : (splitL 32 l).length ≠ 3) (w : World) (hS : StrIn w) :
    Calls Tryz.prog 29 #[.string ⟨l.toArray⟩] w fun e w' => e = .returned (.tuple #[.agg #[.int .i64 0, .int .i64 0, .int .i64 0, .bool false, .int .i64 0, .int .i64 0, .int .i64 0, .bool false, .int .i64 0], .int .i64 7]) ∧ Below w.heap.size w w' := by
  have HSp := Lib.hid (fun w' hS' => splitS_below l hl w' hS')
  have HS := Lib.hid (fun w' (h : Below w.heap.size w w') => hS.kept h)
  have hn : (((splitL 32 l).length : Int) != 3) = true := by simp; omega
  generalize (splitL 32 l).length = n at *
  clear hs hS hl
  go_enter Tryz.func29, Tryz.ntmps29
  go_wp2_with (first
    | (go_at_call 68; (with_reducible refine (HSp.out _ (HS.out _ (pa (pr)))).mono ?_); rintro e w1_ ⟨rfl, h1_⟩; have R_1 : Blk w1_ (w.heap.size) 48 #[.int .i64 0, .int .i64 0, .int .i64 0, .bool false, .int .i64 0, .int .i64 0, .int .i64 0, .bool false, .int .i64 0] := (Blk.newAt (by simp)).past h1_; have ge_R : w.heap.size ≤ w.heap.size := (by omega); have S_1 := pt (pa (pr)) h1_; clear h1_)
    | ((with_reducible refine store_sub (T := 48) (x := .tmp 2) (y := .tmp 18) (o := 0) (cs' := #[.int .i64 0, .int .i64 0, .int .i64 0, .bool false, .int .i64 0, .int .i64 0, .int .i64 0, .bool false, .int .i64 0]) (vs := #[.int .i64 0, .int .i64 0, .int .i64 0, .bool false, .int .i64 0, .int .i64 0, .int .i64 0, .bool false, .int .i64 0]) (show Blk _ (w.heap.size) 48 #[.int .i64 0, .int .i64 0, .int .i64 0, .bool false, .int .i64 0, .int .i64 0, .int .i64 0, .bool false, .int .i64 0] from (R_1)) ?_ ?_ ?_ ?_ ?_ ?_ ?_); (focus rfl); (focus rfl); (focus rfl); (focus exact Nat.le_of_ble_eq_true rfl); (focus exact pUnit_size); (focus (simp [Value.oneCell']; done)); intro w2_ b2_ h2_; have R_2 : Blk w2_ (w.heap.size) 48 #[.int .i64 0, .int .i64 0, .int .i64 0, .bool false, .int .i64 0, .int .i64 0, .int .i64 0, .bool false, .int .i64 0] := b2_; have S_2 := pp (S_1) h2_ ge_R; clear R_1 S_1; clear h2_ b2_))
  have z0 := R_2.cellAt 0 rfl
  have z1 := R_2.cellAt 1 rfl
  have z2 := R_2.cellAt 2 rfl
  have z3 := R_2.cellAt 3 rfl
  have z4 := R_2.cellAt 4 rfl
  have z5 := R_2.cellAt 5 rfl
  have z6 := R_2.cellAt 6 rfl
  have z7 := R_2.cellAt 7 rfl
  have z8 := R_2.cellAt 8 rfl
  exact bodyPost_ret (v := .tuple #[.agg #[.int .i64 0, .int .i64 0, .int .i64 0, .bool false, .int .i64 0, .int .i64 0, .int .i64 0, .bool false, .int .i64 0], .int .i64 7]) (by simp [results, Tryz.results29, go_sem, z0, z1, z2, z3, z4, z5, z6, z7, z8]) rfl ⟨rfl, S_2⟩

set_option maxHeartbeats 4000000 in
set_option maxRecDepth 100000 in
theorem parse_no1 (l a b c : List UInt8) (hl : l.length ≤ 1000) (ha : a.length ≤ 1000) (hb : b.length ≤ 1000) (hc : c.length ≤ 1000) (hs : splitL 32 l = [a, b, c]) (hxa : (parseW a).isSome = false) (ob oc : Bool) (hxb : (parseW b).isSome = ob) (hxc : (numP c).isSome = oc) (w : World) (hS : StrIn w) (hP : PatIn w) :
    Calls Tryz.prog 29 #[.string ⟨l.toArray⟩] w fun e w' => e = .returned (.tuple #[.agg #[.int .i64 0, .int .i64 0, .int .i64 0, .bool false, .int .i64 0, .int .i64 0, .int .i64 0, .bool false, .int .i64 0], .int .i64 7]) ∧ Below w.heap.size w w' := by
  have HS := Lib.hid (fun w' (h : Below w.heap.size w w') => hS.kept h)
  have HP := Lib.hid (fun w' (h : Below w.heap.size w w') => hP.below h)
  have HSp := Lib.hid (fun w' hS' => splitS_any l hl w' hS')
  rw [hs] at HSp
  have HSp := Lib.hid (show ∀ w', StrIn w' → Calls Tryz.prog 68 #[.string ⟨l.toArray⟩, .string ⟨#[32]⟩] w' fun e w'' => e = .returned (.slice (some ⟨w'.heap.size, 0, none⟩) 3 3) ∧ w'' = w'.alloc (.cells #[.string ⟨a.toArray⟩, .string ⟨b.toArray⟩, .string ⟨c.toArray⟩] 9) from HSp.out)
  have Ha := Lib.hid (fun w' hS' hP' => winding_ex a ha false hxa w' hS' hP')
  have Hb := Lib.hid (fun w' hS' hP' => winding_ex b hb ob hxb w' hS' hP')
  have Hc := Lib.hid (fun w' hS' => number_ex c hc oc hxc w' hS')
  clear hS hP hs hl ha hb hc hxa hxb hxc
  go_enter Tryz.func29, Tryz.ntmps29
  go_wp2_with (first
    | (go_at_call 68; (with_reducible refine (HSp.out _ (HS.out _ (pa (pr)))).mono ?_); rintro e w' ⟨rfl, rfl⟩)
    | (go_at_call 69; (with_reducible refine (Ha.out _ (HS.out _ (pa (pa (pr)))) (HP.out _ (pa (pa (pr))))).mono ?_); rintro e w1_ ⟨⟨ka, ta, sa, ra, rfl⟩, h1_⟩; have R_1 : Blk w1_ (w.heap.size) 48 #[.int .i64 0, .int .i64 0, .int .i64 0, .bool false, .int .i64 0, .int .i64 0, .int .i64 0, .bool false, .int .i64 0] := (Blk.newAt (by simp)).alloc.past h1_; have P_1 : Blk w1_ (w.heap.size + 1) 9 #[.string ⟨a.toArray⟩, .string ⟨b.toArray⟩, .string ⟨c.toArray⟩] := (Blk.newAt (by simp)).past h1_; have ne_P_R : w.heap.size + 1 ≠ w.heap.size := (by omega); have ge_R : w.heap.size ≤ w.heap.size := (by omega); have S_1 := pt (pa (pa (pr))) h1_; have Pc0 := P_1.cellAt 0 rfl; have Pc1 := P_1.cellAt 1 rfl; have Pc2 := P_1.cellAt 2 rfl; have Pl := P_1.lt; clear h1_)
    | (go_at_call 69; (with_reducible refine (Hb.out _ (HS.out _ (pa (S_1))) (HP.out _ (pa (S_1)))).mono ?_); rintro e w2_ ⟨⟨kb, tb, sb, rb, rfl⟩, h2_⟩; have R_2 : Blk w2_ (w.heap.size) 48 #[.int .i64 0, .int .i64 0, .int .i64 0, .bool false, .int .i64 0, .int .i64 0, .int .i64 0, .bool false, .int .i64 0] := (R_1.alloc).past h2_; have P_2 : Blk w2_ (w.heap.size + 1) 9 #[.string ⟨a.toArray⟩, .string ⟨b.toArray⟩, .string ⟨c.toArray⟩] := (P_1.alloc).past h2_; have X_2 : Blk w2_ (w1_.heap.size) 45 #[.int .i64 ka, .int .i64 ta, .int .i64 sa, .bool ra] := (Blk.newAt (by simp)).past h2_; have ne_R_X : w.heap.size ≠ w1_.heap.size := (by have := R_1.lt; omega); have S_2 := pt (pa (S_1)) h2_; clear R_1 P_1 S_1 Pc0 Pc1 Pc2 Pl; have Pc0 := P_2.cellAt 0 rfl; have Pc1 := P_2.cellAt 1 rfl; have Pc2 := P_2.cellAt 2 rfl; have Pl := P_2.lt; clear h2_)
    | (go_at_call 70; (with_reducible refine (Hc.out _ (HS.out _ (pa (S_2)))).mono ?_); rintro e w3_ ⟨⟨n, rfl⟩, h3_⟩; have R_3 : Blk w3_ (w.heap.size) 48 #[.int .i64 0, .int .i64 0, .int .i64 0, .bool false, .int .i64 0, .int .i64 0, .int .i64 0, .bool false, .int .i64 0] := (R_2.alloc).past h3_; have P_3 : Blk w3_ (w.heap.size + 1) 9 #[.string ⟨a.toArray⟩, .string ⟨b.toArray⟩, .string ⟨c.toArray⟩] := (P_2.alloc).past h3_; have X_3 : Blk w3_ (w1_.heap.size) 45 #[.int .i64 ka, .int .i64 ta, .int .i64 sa, .bool ra] := (X_2.alloc).past h3_; have Y_3 : Blk w3_ (w2_.heap.size) 45 #[.int .i64 kb, .int .i64 tb, .int .i64 sb, .bool rb] := (Blk.newAt (by simp)).past h3_; have ne_R_Y : w.heap.size ≠ w2_.heap.size := (by have := R_2.lt; omega); have S_3 := pt (pa (S_2)) h3_; clear R_2 P_2 X_2 S_2 Pc0 Pc1 Pc2 Pl; clear h3_)
    | ((with_reducible refine store_sub (T := 48) (x := .tmp 2) (y := .tmp 50) (o := 0) (cs' := #[.int .i64 0, .int .i64 0, .int .i64 0, .bool false, .int .i64 0, .int .i64 0, .int .i64 0, .bool false, .int .i64 0]) (vs := #[.int .i64 0, .int .i64 0, .int .i64 0, .bool false, .int .i64 0, .int .i64 0, .int .i64 0, .bool false, .int .i64 0]) (show Blk _ (w.heap.size) 48 #[.int .i64 0, .int .i64 0, .int .i64 0, .bool false, .int .i64 0, .int .i64 0, .int .i64 0, .bool false, .int .i64 0] from (R_3)) ?_ ?_ ?_ ?_ ?_ ?_ ?_); (focus rfl); (focus rfl); (focus rfl); (focus exact Nat.le_of_ble_eq_true rfl); (focus exact pUnit_size); (focus (simp [Value.oneCell']; done)); intro w4_ b4_ h4_; have R_4 : Blk w4_ (w.heap.size) 48 #[.int .i64 0, .int .i64 0, .int .i64 0, .bool false, .int .i64 0, .int .i64 0, .int .i64 0, .bool false, .int .i64 0] := b4_; have P_4 : Blk w4_ (w.heap.size + 1) 9 #[.string ⟨a.toArray⟩, .string ⟨b.toArray⟩, .string ⟨c.toArray⟩] := (P_3).put h4_ ne_P_R; have X_4 : Blk w4_ (w1_.heap.size) 45 #[.int .i64 ka, .int .i64 ta, .int .i64 sa, .bool ra] := (X_3).put h4_ (Ne.symm ne_R_X); have Y_4 : Blk w4_ (w2_.heap.size) 45 #[.int .i64 kb, .int .i64 tb, .int .i64 sb, .bool rb] := (Y_3).put h4_ (Ne.symm ne_R_Y); have S_4 := pp (S_3) h4_ ge_R; clear R_3 P_3 X_3 Y_3 S_3; clear h4_ b4_))
  have z0 := R_4.cellAt 0 rfl
  have z1 := R_4.cellAt 1 rfl
  have z2 := R_4.cellAt 2 rfl
  have z3 := R_4.cellAt 3 rfl
  have z4 := R_4.cellAt 4 rfl
  have z5 := R_4.cellAt 5 rfl
  have z6 := R_4.cellAt 6 rfl
  have z7 := R_4.cellAt 7 rfl
  have z8 := R_4.cellAt 8 rfl
  exact bodyPost_ret (v := .tuple #[.agg #[.int .i64 0, .int .i64 0, .int .i64 0, .bool false, .int .i64 0, .int .i64 0, .int .i64 0, .bool false, .int .i64 0], .int .i64 7]) (by simp [results, Tryz.results29, go_sem, z0, z1, z2, z3, z4, z5, z6, z7, z8]) rfl ⟨rfl, S_4⟩

set_option maxHeartbeats 4000000 in
set_option maxRecDepth 100000 in
theorem parse_no2 (l a b c : List UInt8) (hl : l.length ≤ 1000) (ha : a.length ≤ 1000) (hb : b.length ≤ 1000) (hc : c.length ≤ 1000) (hs : splitL 32 l = [a, b, c]) (x : Wind) (hxa : parseW a = some x) (hxb : (parseW b).isSome = false) (oc : Bool) (hxc : (numP c).isSome = oc) (w : World) (hS : StrIn w) (hP : PatIn w) :
    Calls Tryz.prog 29 #[.string ⟨l.toArray⟩] w fun e w' => e = .returned (.tuple #[.agg #[.int .i64 0, .int .i64 0, .int .i64 0, .bool false, .int .i64 0, .int .i64 0, .int .i64 0, .bool false, .int .i64 0], .int .i64 7]) ∧ Below w.heap.size w w' := by
  have HS := Lib.hid (fun w' (h : Below w.heap.size w w') => hS.kept h)
  have HP := Lib.hid (fun w' (h : Below w.heap.size w w') => hP.below h)
  have HSp := Lib.hid (fun w' hS' => splitS_any l hl w' hS')
  rw [hs] at HSp
  have HSp := Lib.hid (show ∀ w', StrIn w' → Calls Tryz.prog 68 #[.string ⟨l.toArray⟩, .string ⟨#[32]⟩] w' fun e w'' => e = .returned (.slice (some ⟨w'.heap.size, 0, none⟩) 3 3) ∧ w'' = w'.alloc (.cells #[.string ⟨a.toArray⟩, .string ⟨b.toArray⟩, .string ⟨c.toArray⟩] 9) from HSp.out)
  have Ha := Lib.hid (fun w' hS' hP' => winding_some a ha x hxa w' hS' hP')
  have Hb := Lib.hid (fun w' hS' hP' => winding_ex b hb false hxb w' hS' hP')
  have Hc := Lib.hid (fun w' hS' => number_ex c hc oc hxc w' hS')
  clear hS hP hs hl ha hb hc hxa hxb hxc
  go_enter Tryz.func29, Tryz.ntmps29
  go_wp2_with (first
    | (go_at_call 68; (with_reducible refine (HSp.out _ (HS.out _ (pa (pr)))).mono ?_); rintro e w' ⟨rfl, rfl⟩)
    | (go_at_call 69; (with_reducible refine (Ha.out _ (HS.out _ (pa (pa (pr)))) (HP.out _ (pa (pa (pr))))).mono ?_); rintro e w1_ ⟨rfl, h1_⟩; have R_1 : Blk w1_ (w.heap.size) 48 #[.int .i64 0, .int .i64 0, .int .i64 0, .bool false, .int .i64 0, .int .i64 0, .int .i64 0, .bool false, .int .i64 0] := (Blk.newAt (by simp)).alloc.past h1_; have P_1 : Blk w1_ (w.heap.size + 1) 9 #[.string ⟨a.toArray⟩, .string ⟨b.toArray⟩, .string ⟨c.toArray⟩] := (Blk.newAt (by simp)).past h1_; have ne_P_R : w.heap.size + 1 ≠ w.heap.size := (by omega); have ge_R : w.heap.size ≤ w.heap.size := (by omega); have S_1 := pt (pa (pa (pr))) h1_; have Pc0 := P_1.cellAt 0 rfl; have Pc1 := P_1.cellAt 1 rfl; have Pc2 := P_1.cellAt 2 rfl; have Pl := P_1.lt; clear h1_)
    | (go_at_call 69; (with_reducible refine (Hb.out _ (HS.out _ (pa (S_1))) (HP.out _ (pa (S_1)))).mono ?_); rintro e w2_ ⟨⟨kb, tb, sb, rb, rfl⟩, h2_⟩; have R_2 : Blk w2_ (w.heap.size) 48 #[.int .i64 0, .int .i64 0, .int .i64 0, .bool false, .int .i64 0, .int .i64 0, .int .i64 0, .bool false, .int .i64 0] := (R_1.alloc).past h2_; have P_2 : Blk w2_ (w.heap.size + 1) 9 #[.string ⟨a.toArray⟩, .string ⟨b.toArray⟩, .string ⟨c.toArray⟩] := (P_1.alloc).past h2_; have X_2 : Blk w2_ (w1_.heap.size) 45 #[.int .i64 x.kind, .int .i64 x.turns, .int .i64 x.shift, .bool x.rev] := (Blk.newAt (by simp)).past h2_; have ne_R_X : w.heap.size ≠ w1_.heap.size := (by have := R_1.lt; omega); have S_2 := pt (pa (S_1)) h2_; clear R_1 P_1 S_1 Pc0 Pc1 Pc2 Pl; have Pc0 := P_2.cellAt 0 rfl; have Pc1 := P_2.cellAt 1 rfl; have Pc2 := P_2.cellAt 2 rfl; have Pl := P_2.lt; clear h2_)
    | (go_at_call 70; (with_reducible refine (Hc.out _ (HS.out _ (pa (S_2)))).mono ?_); rintro e w3_ ⟨⟨n, rfl⟩, h3_⟩; have R_3 : Blk w3_ (w.heap.size) 48 #[.int .i64 0, .int .i64 0, .int .i64 0, .bool false, .int .i64 0, .int .i64 0, .int .i64 0, .bool false, .int .i64 0] := (R_2.alloc).past h3_; have P_3 : Blk w3_ (w.heap.size + 1) 9 #[.string ⟨a.toArray⟩, .string ⟨b.toArray⟩, .string ⟨c.toArray⟩] := (P_2.alloc).past h3_; have X_3 : Blk w3_ (w1_.heap.size) 45 #[.int .i64 x.kind, .int .i64 x.turns, .int .i64 x.shift, .bool x.rev] := (X_2.alloc).past h3_; have Y_3 : Blk w3_ (w2_.heap.size) 45 #[.int .i64 kb, .int .i64 tb, .int .i64 sb, .bool rb] := (Blk.newAt (by simp)).past h3_; have ne_R_Y : w.heap.size ≠ w2_.heap.size := (by have := R_2.lt; omega); have S_3 := pt (pa (S_2)) h3_; clear R_2 P_2 X_2 S_2 Pc0 Pc1 Pc2 Pl; clear h3_)
    | ((with_reducible refine store_sub (T := 48) (x := .tmp 2) (y := .tmp 50) (o := 0) (cs' := #[.int .i64 0, .int .i64 0, .int .i64 0, .bool false, .int .i64 0, .int .i64 0, .int .i64 0, .bool false, .int .i64 0]) (vs := #[.int .i64 0, .int .i64 0, .int .i64 0, .bool false, .int .i64 0, .int .i64 0, .int .i64 0, .bool false, .int .i64 0]) (show Blk _ (w.heap.size) 48 #[.int .i64 0, .int .i64 0, .int .i64 0, .bool false, .int .i64 0, .int .i64 0, .int .i64 0, .bool false, .int .i64 0] from (R_3)) ?_ ?_ ?_ ?_ ?_ ?_ ?_); (focus rfl); (focus rfl); (focus rfl); (focus exact Nat.le_of_ble_eq_true rfl); (focus exact pUnit_size); (focus (simp [Value.oneCell']; done)); intro w4_ b4_ h4_; have R_4 : Blk w4_ (w.heap.size) 48 #[.int .i64 0, .int .i64 0, .int .i64 0, .bool false, .int .i64 0, .int .i64 0, .int .i64 0, .bool false, .int .i64 0] := b4_; have P_4 : Blk w4_ (w.heap.size + 1) 9 #[.string ⟨a.toArray⟩, .string ⟨b.toArray⟩, .string ⟨c.toArray⟩] := (P_3).put h4_ ne_P_R; have X_4 : Blk w4_ (w1_.heap.size) 45 #[.int .i64 x.kind, .int .i64 x.turns, .int .i64 x.shift, .bool x.rev] := (X_3).put h4_ (Ne.symm ne_R_X); have Y_4 : Blk w4_ (w2_.heap.size) 45 #[.int .i64 kb, .int .i64 tb, .int .i64 sb, .bool rb] := (Y_3).put h4_ (Ne.symm ne_R_Y); have S_4 := pp (S_3) h4_ ge_R; clear R_3 P_3 X_3 Y_3 S_3; clear h4_ b4_))
  have z0 := R_4.cellAt 0 rfl
  have z1 := R_4.cellAt 1 rfl
  have z2 := R_4.cellAt 2 rfl
  have z3 := R_4.cellAt 3 rfl
  have z4 := R_4.cellAt 4 rfl
  have z5 := R_4.cellAt 5 rfl
  have z6 := R_4.cellAt 6 rfl
  have z7 := R_4.cellAt 7 rfl
  have z8 := R_4.cellAt 8 rfl
  exact bodyPost_ret (v := .tuple #[.agg #[.int .i64 0, .int .i64 0, .int .i64 0, .bool false, .int .i64 0, .int .i64 0, .int .i64 0, .bool false, .int .i64 0], .int .i64 7]) (by simp [results, Tryz.results29, go_sem, z0, z1, z2, z3, z4, z5, z6, z7, z8]) rfl ⟨rfl, S_4⟩

set_option maxHeartbeats 4000000 in
set_option maxRecDepth 100000 in
theorem parse_no3 (l a b c : List UInt8) (hl : l.length ≤ 1000) (ha : a.length ≤ 1000) (hb : b.length ≤ 1000) (hc : c.length ≤ 1000) (hs : splitL 32 l = [a, b, c]) (x y : Wind) (hxa : parseW a = some x) (hxb : parseW b = some y) (hxc : (numP c).isSome = false) (w : World) (hS : StrIn w) (hP : PatIn w) :
    Calls Tryz.prog 29 #[.string ⟨l.toArray⟩] w fun e w' => e = .returned (.tuple #[.agg #[.int .i64 0, .int .i64 0, .int .i64 0, .bool false, .int .i64 0, .int .i64 0, .int .i64 0, .bool false, .int .i64 0], .int .i64 7]) ∧ Below w.heap.size w w' := by
  have HS := Lib.hid (fun w' (h : Below w.heap.size w w') => hS.kept h)
  have HP := Lib.hid (fun w' (h : Below w.heap.size w w') => hP.below h)
  have HSp := Lib.hid (fun w' hS' => splitS_any l hl w' hS')
  rw [hs] at HSp
  have HSp := Lib.hid (show ∀ w', StrIn w' → Calls Tryz.prog 68 #[.string ⟨l.toArray⟩, .string ⟨#[32]⟩] w' fun e w'' => e = .returned (.slice (some ⟨w'.heap.size, 0, none⟩) 3 3) ∧ w'' = w'.alloc (.cells #[.string ⟨a.toArray⟩, .string ⟨b.toArray⟩, .string ⟨c.toArray⟩] 9) from HSp.out)
  have Ha := Lib.hid (fun w' hS' hP' => winding_some a ha x hxa w' hS' hP')
  have Hb := Lib.hid (fun w' hS' hP' => winding_some b hb y hxb w' hS' hP')
  have Hc := Lib.hid (fun w' hS' => number_ex c hc false hxc w' hS')
  clear hS hP hs hl ha hb hc hxa hxb hxc
  go_enter Tryz.func29, Tryz.ntmps29
  go_wp2_with (first
    | (go_at_call 68; (with_reducible refine (HSp.out _ (HS.out _ (pa (pr)))).mono ?_); rintro e w' ⟨rfl, rfl⟩)
    | (go_at_call 69; (with_reducible refine (Ha.out _ (HS.out _ (pa (pa (pr)))) (HP.out _ (pa (pa (pr))))).mono ?_); rintro e w1_ ⟨rfl, h1_⟩; have R_1 : Blk w1_ (w.heap.size) 48 #[.int .i64 0, .int .i64 0, .int .i64 0, .bool false, .int .i64 0, .int .i64 0, .int .i64 0, .bool false, .int .i64 0] := (Blk.newAt (by simp)).alloc.past h1_; have P_1 : Blk w1_ (w.heap.size + 1) 9 #[.string ⟨a.toArray⟩, .string ⟨b.toArray⟩, .string ⟨c.toArray⟩] := (Blk.newAt (by simp)).past h1_; have ne_P_R : w.heap.size + 1 ≠ w.heap.size := (by omega); have ge_R : w.heap.size ≤ w.heap.size := (by omega); have S_1 := pt (pa (pa (pr))) h1_; have Pc0 := P_1.cellAt 0 rfl; have Pc1 := P_1.cellAt 1 rfl; have Pc2 := P_1.cellAt 2 rfl; have Pl := P_1.lt; clear h1_)
    | (go_at_call 69; (with_reducible refine (Hb.out _ (HS.out _ (pa (S_1))) (HP.out _ (pa (S_1)))).mono ?_); rintro e w2_ ⟨rfl, h2_⟩; have R_2 : Blk w2_ (w.heap.size) 48 #[.int .i64 0, .int .i64 0, .int .i64 0, .bool false, .int .i64 0, .int .i64 0, .int .i64 0, .bool false, .int .i64 0] := (R_1.alloc).past h2_; have P_2 : Blk w2_ (w.heap.size + 1) 9 #[.string ⟨a.toArray⟩, .string ⟨b.toArray⟩, .string ⟨c.toArray⟩] := (P_1.alloc).past h2_; have X_2 : Blk w2_ (w1_.heap.size) 45 #[.int .i64 x.kind, .int .i64 x.turns, .int .i64 x.shift, .bool x.rev] := (Blk.newAt (by simp)).past h2_; have ne_R_X : w.heap.size ≠ w1_.heap.size := (by have := R_1.lt; omega); have S_2 := pt (pa (S_1)) h2_; clear R_1 P_1 S_1 Pc0 Pc1 Pc2 Pl; have Pc0 := P_2.cellAt 0 rfl; have Pc1 := P_2.cellAt 1 rfl; have Pc2 := P_2.cellAt 2 rfl; have Pl := P_2.lt; clear h2_)
    | (go_at_call 70; (with_reducible refine (Hc.out _ (HS.out _ (pa (S_2)))).mono ?_); rintro e w3_ ⟨⟨n, rfl⟩, h3_⟩; have R_3 : Blk w3_ (w.heap.size) 48 #[.int .i64 0, .int .i64 0, .int .i64 0, .bool false, .int .i64 0, .int .i64 0, .int .i64 0, .bool false, .int .i64 0] := (R_2.alloc).past h3_; have P_3 : Blk w3_ (w.heap.size + 1) 9 #[.string ⟨a.toArray⟩, .string ⟨b.toArray⟩, .string ⟨c.toArray⟩] := (P_2.alloc).past h3_; have X_3 : Blk w3_ (w1_.heap.size) 45 #[.int .i64 x.kind, .int .i64 x.turns, .int .i64 x.shift, .bool x.rev] := (X_2.alloc).past h3_; have Y_3 : Blk w3_ (w2_.heap.size) 45 #[.int .i64 y.kind, .int .i64 y.turns, .int .i64 y.shift, .bool y.rev] := (Blk.newAt (by simp)).past h3_; have ne_R_Y : w.heap.size ≠ w2_.heap.size := (by have := R_2.lt; omega); have S_3 := pt (pa (S_2)) h3_; clear R_2 P_2 X_2 S_2 Pc0 Pc1 Pc2 Pl; clear h3_)
    | ((with_reducible refine store_sub (T := 48) (x := .tmp 2) (y := .tmp 50) (o := 0) (cs' := #[.int .i64 0, .int .i64 0, .int .i64 0, .bool false, .int .i64 0, .int .i64 0, .int .i64 0, .bool false, .int .i64 0]) (vs := #[.int .i64 0, .int .i64 0, .int .i64 0, .bool false, .int .i64 0, .int .i64 0, .int .i64 0, .bool false, .int .i64 0]) (show Blk _ (w.heap.size) 48 #[.int .i64 0, .int .i64 0, .int .i64 0, .bool false, .int .i64 0, .int .i64 0, .int .i64 0, .bool false, .int .i64 0] from (R_3)) ?_ ?_ ?_ ?_ ?_ ?_ ?_); (focus rfl); (focus rfl); (focus rfl); (focus exact Nat.le_of_ble_eq_true rfl); (focus exact pUnit_size); (focus (simp [Value.oneCell']; done)); intro w4_ b4_ h4_; have R_4 : Blk w4_ (w.heap.size) 48 #[.int .i64 0, .int .i64 0, .int .i64 0, .bool false, .int .i64 0, .int .i64 0, .int .i64 0, .bool false, .int .i64 0] := b4_; have P_4 : Blk w4_ (w.heap.size + 1) 9 #[.string ⟨a.toArray⟩, .string ⟨b.toArray⟩, .string ⟨c.toArray⟩] := (P_3).put h4_ ne_P_R; have X_4 : Blk w4_ (w1_.heap.size) 45 #[.int .i64 x.kind, .int .i64 x.turns, .int .i64 x.shift, .bool x.rev] := (X_3).put h4_ (Ne.symm ne_R_X); have Y_4 : Blk w4_ (w2_.heap.size) 45 #[.int .i64 y.kind, .int .i64 y.turns, .int .i64 y.shift, .bool y.rev] := (Y_3).put h4_ (Ne.symm ne_R_Y); have S_4 := pp (S_3) h4_ ge_R; clear R_3 P_3 X_3 Y_3 S_3; clear h4_ b4_))
  have z0 := R_4.cellAt 0 rfl
  have z1 := R_4.cellAt 1 rfl
  have z2 := R_4.cellAt 2 rfl
  have z3 := R_4.cellAt 3 rfl
  have z4 := R_4.cellAt 4 rfl
  have z5 := R_4.cellAt 5 rfl
  have z6 := R_4.cellAt 6 rfl
  have z7 := R_4.cellAt 7 rfl
  have z8 := R_4.cellAt 8 rfl
  exact bodyPost_ret (v := .tuple #[.agg #[.int .i64 0, .int .i64 0, .int .i64 0, .bool false, .int .i64 0, .int .i64 0, .int .i64 0, .bool false, .int .i64 0], .int .i64 7]) (by simp [results, Tryz.results29, go_sem, z0, z1, z2, z3, z4, z5, z6, z7, z8]) rfl ⟨rfl, S_4⟩

set_option maxHeartbeats 4000000 in
set_option maxRecDepth 100000 in
theorem parse_bad (l a b c : List UInt8) (hl : l.length ≤ 1000) (ha : a.length ≤ 1000) (hb : b.length ≤ 1000) (hc : c.length ≤ 1000) (hs : splitL 32 l = [a, b, c]) (x y : Wind) (n : Int) (hxa : parseW a = some x) (hxb : parseW b = some y) (hxc : numP c = some n) (E : Int) (hE : unitE x.kind x.turns x.shift y.kind y.turns y.shift n = E) (hne : (E != 0) = true) (w : World) (hS : StrIn w) (hP : PatIn w) :
    Calls Tryz.prog 29 #[.string ⟨l.toArray⟩] w fun e w' => e = .returned (.tuple #[.agg #[.int .i64 0, .int .i64 0, .int .i64 0, .bool false, .int .i64 0, .int .i64 0, .int .i64 0, .bool false, .int .i64 0], .int .i64 E]) ∧ Below w.heap.size w w' := by
  have HS := Lib.hid (fun w' (h : Below w.heap.size w w') => hS.kept h)
  have HP := Lib.hid (fun w' (h : Below w.heap.size w w') => hP.below h)
  have HSp := Lib.hid (fun w' hS' => splitS_any l hl w' hS')
  rw [hs] at HSp
  have HSp := Lib.hid (show ∀ w', StrIn w' → Calls Tryz.prog 68 #[.string ⟨l.toArray⟩, .string ⟨#[32]⟩] w' fun e w'' => e = .returned (.slice (some ⟨w'.heap.size, 0, none⟩) 3 3) ∧ w'' = w'.alloc (.cells #[.string ⟨a.toArray⟩, .string ⟨b.toArray⟩, .string ⟨c.toArray⟩] 9) from HSp.out)
  have Ha := Lib.hid (fun w' hS' hP' => winding_some a ha x hxa w' hS' hP')
  have Hb := Lib.hid (fun w' hS' hP' => winding_some b hb y hxb w' hS' hP')
  have Hc := Lib.hid (fun w' hS' => number_some c hc n hxc w' hS')
  have HC := Lib.hid (checkUnit_any x.kind x.turns x.shift x.rev y.kind y.turns y.shift y.rev n)
  rw [hE] at HC
  clear hE
  clear hS hP hs hl ha hb hc hxa hxb hxc
  go_enter Tryz.func29, Tryz.ntmps29
  go_wp2_with (first
    | (go_at_call 68; (with_reducible refine (HSp.out _ (HS.out _ (pa (pr)))).mono ?_); rintro e w' ⟨rfl, rfl⟩)
    | (go_at_call 69; (with_reducible refine (Ha.out _ (HS.out _ (pa (pa (pr)))) (HP.out _ (pa (pa (pr))))).mono ?_); rintro e w1_ ⟨rfl, h1_⟩; have R_1 : Blk w1_ (w.heap.size) 48 #[.int .i64 0, .int .i64 0, .int .i64 0, .bool false, .int .i64 0, .int .i64 0, .int .i64 0, .bool false, .int .i64 0] := (Blk.newAt (by simp)).alloc.past h1_; have P_1 : Blk w1_ (w.heap.size + 1) 9 #[.string ⟨a.toArray⟩, .string ⟨b.toArray⟩, .string ⟨c.toArray⟩] := (Blk.newAt (by simp)).past h1_; have ne_P_R : w.heap.size + 1 ≠ w.heap.size := (by omega); have ge_R : w.heap.size ≤ w.heap.size := (by omega); have S_1 := pt (pa (pa (pr))) h1_; have Pc0 := P_1.cellAt 0 rfl; have Pc1 := P_1.cellAt 1 rfl; have Pc2 := P_1.cellAt 2 rfl; have Pl := P_1.lt; clear h1_)
    | (go_at_call 69; (with_reducible refine (Hb.out _ (HS.out _ (pa (S_1))) (HP.out _ (pa (S_1)))).mono ?_); rintro e w2_ ⟨rfl, h2_⟩; have R_2 : Blk w2_ (w.heap.size) 48 #[.int .i64 0, .int .i64 0, .int .i64 0, .bool false, .int .i64 0, .int .i64 0, .int .i64 0, .bool false, .int .i64 0] := (R_1.alloc).past h2_; have P_2 : Blk w2_ (w.heap.size + 1) 9 #[.string ⟨a.toArray⟩, .string ⟨b.toArray⟩, .string ⟨c.toArray⟩] := (P_1.alloc).past h2_; have X_2 : Blk w2_ (w1_.heap.size) 45 #[.int .i64 x.kind, .int .i64 x.turns, .int .i64 x.shift, .bool x.rev] := (Blk.newAt (by simp)).past h2_; have ne_R_X : w.heap.size ≠ w1_.heap.size := (by have := R_1.lt; omega); have S_2 := pt (pa (S_1)) h2_; clear R_1 P_1 S_1 Pc0 Pc1 Pc2 Pl; have Pc0 := P_2.cellAt 0 rfl; have Pc1 := P_2.cellAt 1 rfl; have Pc2 := P_2.cellAt 2 rfl; have Pl := P_2.lt; clear h2_)
    | (go_at_call 70; (with_reducible refine (Hc.out _ (HS.out _ (pa (S_2)))).mono ?_); rintro e w3_ ⟨rfl, h3_⟩; have R_3 : Blk w3_ (w.heap.size) 48 #[.int .i64 0, .int .i64 0, .int .i64 0, .bool false, .int .i64 0, .int .i64 0, .int .i64 0, .bool false, .int .i64 0] := (R_2.alloc).past h3_; have P_3 : Blk w3_ (w.heap.size + 1) 9 #[.string ⟨a.toArray⟩, .string ⟨b.toArray⟩, .string ⟨c.toArray⟩] := (P_2.alloc).past h3_; have X_3 : Blk w3_ (w1_.heap.size) 45 #[.int .i64 x.kind, .int .i64 x.turns, .int .i64 x.shift, .bool x.rev] := (X_2.alloc).past h3_; have Y_3 : Blk w3_ (w2_.heap.size) 45 #[.int .i64 y.kind, .int .i64 y.turns, .int .i64 y.shift, .bool y.rev] := (Blk.newAt (by simp)).past h3_; have ne_R_Y : w.heap.size ≠ w2_.heap.size := (by have := R_2.lt; omega); have S_3 := pt (pa (S_2)) h3_; clear R_2 P_2 X_2 S_2 Pc0 Pc1 Pc2 Pl; clear h3_)
    | ((with_reducible refine load_sub (T := 45) (x := .tmp 5) (o := 0) (vs := #[.int .i64 x.kind, .int .i64 x.turns, .int .i64 x.shift, .bool x.rev]) (show Blk _ (w1_.heap.size) 45 #[.int .i64 x.kind, .int .i64 x.turns, .int .i64 x.shift, .bool x.rev] from (X_3)) ?_ ?_ Tryz.underlying45 ?_ ?_ ?_); (focus rfl); (focus rfl); (focus rfl); (focus exact apiWinding_size))
    | ((with_reducible refine load_sub (T := 45) (x := .tmp 7) (o := 0) (vs := #[.int .i64 y.kind, .int .i64 y.turns, .int .i64 y.shift, .bool y.rev]) (show Blk _ (w2_.heap.size) 45 #[.int .i64 y.kind, .int .i64 y.turns, .int .i64 y.shift, .bool y.rev] from (Y_3)) ?_ ?_ Tryz.underlying45 ?_ ?_ ?_); (focus rfl); (focus rfl); (focus rfl); (focus exact apiWinding_size))
    | ((with_reducible refine load_sub (T := 48) (x := .tmp 11) (o := 0) (vs := #[.int .i64 x.kind, .int .i64 x.turns, .int .i64 x.shift, .bool x.rev, .int .i64 y.kind, .int .i64 y.turns, .int .i64 y.shift, .bool y.rev, .int .i64 n]) (show Blk _ (w3_.heap.size) 48 #[.int .i64 x.kind, .int .i64 x.turns, .int .i64 x.shift, .bool x.rev, .int .i64 y.kind, .int .i64 y.turns, .int .i64 y.shift, .bool y.rev, .int .i64 n] from (Blk.newAt (by simp))) ?_ ?_ Tryz.underlying48 ?_ ?_ ?_); (focus rfl); (focus rfl); (focus rfl); (focus exact pUnit_size))
    | (go_at_call 56; (with_reducible refine (HC.out _).mono ?_); rintro e w4_ ⟨rfl, h4_⟩; have R_4 : Blk w4_ (w.heap.size) 48 #[.int .i64 0, .int .i64 0, .int .i64 0, .bool false, .int .i64 0, .int .i64 0, .int .i64 0, .bool false, .int .i64 0] := (R_3.alloc).past h4_; have P_4 : Blk w4_ (w.heap.size + 1) 9 #[.string ⟨a.toArray⟩, .string ⟨b.toArray⟩, .string ⟨c.toArray⟩] := (P_3.alloc).past h4_; have X_4 : Blk w4_ (w1_.heap.size) 45 #[.int .i64 x.kind, .int .i64 x.turns, .int .i64 x.shift, .bool x.rev] := (X_3.alloc).past h4_; have Y_4 : Blk w4_ (w2_.heap.size) 45 #[.int .i64 y.kind, .int .i64 y.turns, .int .i64 y.shift, .bool y.rev] := (Y_3.alloc).past h4_; have U_4 : Blk w4_ (w3_.heap.size) 48 #[.int .i64 x.kind, .int .i64 x.turns, .int .i64 x.shift, .bool x.rev, .int .i64 y.kind, .int .i64 y.turns, .int .i64 y.shift, .bool y.rev, .int .i64 n] := (Blk.newAt (by simp)).past h4_; have ne_R_U : w.heap.size ≠ w3_.heap.size := (by have := R_3.lt; omega); have S_4 := pt (pa (S_3)) h4_; clear R_3 P_3 X_3 Y_3 S_3; clear h4_)
    | ((with_reducible refine store_sub (T := 48) (x := .tmp 2) (y := .tmp 59) (o := 0) (cs' := #[.int .i64 0, .int .i64 0, .int .i64 0, .bool false, .int .i64 0, .int .i64 0, .int .i64 0, .bool false, .int .i64 0]) (vs := #[.int .i64 0, .int .i64 0, .int .i64 0, .bool false, .int .i64 0, .int .i64 0, .int .i64 0, .bool false, .int .i64 0]) (show Blk _ (w.heap.size) 48 #[.int .i64 0, .int .i64 0, .int .i64 0, .bool false, .int .i64 0, .int .i64 0, .int .i64 0, .bool false, .int .i64 0] from (R_4)) ?_ ?_ ?_ ?_ ?_ ?_ ?_); (focus rfl); (focus rfl); (focus rfl); (focus exact Nat.le_of_ble_eq_true rfl); (focus exact pUnit_size); (focus (simp [Value.oneCell']; done)); intro w5_ b5_ h5_; have R_5 : Blk w5_ (w.heap.size) 48 #[.int .i64 0, .int .i64 0, .int .i64 0, .bool false, .int .i64 0, .int .i64 0, .int .i64 0, .bool false, .int .i64 0] := b5_; have P_5 : Blk w5_ (w.heap.size + 1) 9 #[.string ⟨a.toArray⟩, .string ⟨b.toArray⟩, .string ⟨c.toArray⟩] := (P_4).put h5_ ne_P_R; have X_5 : Blk w5_ (w1_.heap.size) 45 #[.int .i64 x.kind, .int .i64 x.turns, .int .i64 x.shift, .bool x.rev] := (X_4).put h5_ (Ne.symm ne_R_X); have Y_5 : Blk w5_ (w2_.heap.size) 45 #[.int .i64 y.kind, .int .i64 y.turns, .int .i64 y.shift, .bool y.rev] := (Y_4).put h5_ (Ne.symm ne_R_Y); have U_5 : Blk w5_ (w3_.heap.size) 48 #[.int .i64 x.kind, .int .i64 x.turns, .int .i64 x.shift, .bool x.rev, .int .i64 y.kind, .int .i64 y.turns, .int .i64 y.shift, .bool y.rev, .int .i64 n] := (U_4).put h5_ (Ne.symm ne_R_U); have S_5 := pp (S_4) h5_ ge_R; clear R_4 P_4 X_4 Y_4 U_4 S_4; clear h5_ b5_))
  have z0 := R_5.cellAt 0 rfl
  have z1 := R_5.cellAt 1 rfl
  have z2 := R_5.cellAt 2 rfl
  have z3 := R_5.cellAt 3 rfl
  have z4 := R_5.cellAt 4 rfl
  have z5 := R_5.cellAt 5 rfl
  have z6 := R_5.cellAt 6 rfl
  have z7 := R_5.cellAt 7 rfl
  have z8 := R_5.cellAt 8 rfl
  exact bodyPost_ret (v := .tuple #[.agg #[.int .i64 0, .int .i64 0, .int .i64 0, .bool false, .int .i64 0, .int .i64 0, .int .i64 0, .bool false, .int .i64 0], .int .i64 E]) (by simp [results, Tryz.results29, go_sem, z0, z1, z2, z3, z4, z5, z6, z7, z8]) rfl ⟨rfl, S_5⟩

set_option maxHeartbeats 4000000 in
set_option maxRecDepth 100000 in
theorem parse_good (l a b c : List UInt8) (hl : l.length ≤ 1000) (ha : a.length ≤ 1000) (hb : b.length ≤ 1000) (hc : c.length ≤ 1000) (hs : splitL 32 l = [a, b, c]) (x y : Wind) (n : Int) (hxa : parseW a = some x) (hxb : parseW b = some y) (hxc : numP c = some n) (hE : unitE x.kind x.turns x.shift y.kind y.turns y.shift n = 0) (w : World) (hS : StrIn w) (hP : PatIn w) :
    Calls Tryz.prog 29 #[.string ⟨l.toArray⟩] w fun e w' => e = .returned (.tuple #[.agg #[.int .i64 x.kind, .int .i64 x.turns, .int .i64 x.shift, .bool x.rev, .int .i64 y.kind, .int .i64 y.turns, .int .i64 y.shift, .bool y.rev, .int .i64 n], .int .i64 0]) ∧ Below w.heap.size w w' := by
  have HS := Lib.hid (fun w' (h : Below w.heap.size w w') => hS.kept h)
  have HP := Lib.hid (fun w' (h : Below w.heap.size w w') => hP.below h)
  have HSp := Lib.hid (fun w' hS' => splitS_any l hl w' hS')
  rw [hs] at HSp
  have HSp := Lib.hid (show ∀ w', StrIn w' → Calls Tryz.prog 68 #[.string ⟨l.toArray⟩, .string ⟨#[32]⟩] w' fun e w'' => e = .returned (.slice (some ⟨w'.heap.size, 0, none⟩) 3 3) ∧ w'' = w'.alloc (.cells #[.string ⟨a.toArray⟩, .string ⟨b.toArray⟩, .string ⟨c.toArray⟩] 9) from HSp.out)
  have Ha := Lib.hid (fun w' hS' hP' => winding_some a ha x hxa w' hS' hP')
  have Hb := Lib.hid (fun w' hS' hP' => winding_some b hb y hxb w' hS' hP')
  have Hc := Lib.hid (fun w' hS' => number_some c hc n hxc w' hS')
  have HC := Lib.hid (checkUnit_any x.kind x.turns x.shift x.rev y.kind y.turns y.shift y.rev n)
  rw [hE] at HC
  clear hE
  clear hS hP hs hl ha hb hc hxa hxb hxc
  go_enter Tryz.func29, Tryz.ntmps29
  go_wp2_with (first
    | (go_at_call 68; (with_reducible refine (HSp.out _ (HS.out _ (pa (pr)))).mono ?_); rintro e w' ⟨rfl, rfl⟩)
    | (go_at_call 69; (with_reducible refine (Ha.out _ (HS.out _ (pa (pa (pr)))) (HP.out _ (pa (pa (pr))))).mono ?_); rintro e w1_ ⟨rfl, h1_⟩; have R_1 : Blk w1_ (w.heap.size) 48 #[.int .i64 0, .int .i64 0, .int .i64 0, .bool false, .int .i64 0, .int .i64 0, .int .i64 0, .bool false, .int .i64 0] := (Blk.newAt (by simp)).alloc.past h1_; have P_1 : Blk w1_ (w.heap.size + 1) 9 #[.string ⟨a.toArray⟩, .string ⟨b.toArray⟩, .string ⟨c.toArray⟩] := (Blk.newAt (by simp)).past h1_; have ne_P_R : w.heap.size + 1 ≠ w.heap.size := (by omega); have ge_R : w.heap.size ≤ w.heap.size := (by omega); have S_1 := pt (pa (pa (pr))) h1_; have Pc0 := P_1.cellAt 0 rfl; have Pc1 := P_1.cellAt 1 rfl; have Pc2 := P_1.cellAt 2 rfl; have Pl := P_1.lt; clear h1_)
    | (go_at_call 69; (with_reducible refine (Hb.out _ (HS.out _ (pa (S_1))) (HP.out _ (pa (S_1)))).mono ?_); rintro e w2_ ⟨rfl, h2_⟩; have R_2 : Blk w2_ (w.heap.size) 48 #[.int .i64 0, .int .i64 0, .int .i64 0, .bool false, .int .i64 0, .int .i64 0, .int .i64 0, .bool false, .int .i64 0] := (R_1.alloc).past h2_; have P_2 : Blk w2_ (w.heap.size + 1) 9 #[.string ⟨a.toArray⟩, .string ⟨b.toArray⟩, .string ⟨c.toArray⟩] := (P_1.alloc).past h2_; have X_2 : Blk w2_ (w1_.heap.size) 45 #[.int .i64 x.kind, .int .i64 x.turns, .int .i64 x.shift, .bool x.rev] := (Blk.newAt (by simp)).past h2_; have ne_R_X : w.heap.size ≠ w1_.heap.size := (by have := R_1.lt; omega); have S_2 := pt (pa (S_1)) h2_; clear R_1 P_1 S_1 Pc0 Pc1 Pc2 Pl; have Pc0 := P_2.cellAt 0 rfl; have Pc1 := P_2.cellAt 1 rfl; have Pc2 := P_2.cellAt 2 rfl; have Pl := P_2.lt; clear h2_)
    | (go_at_call 70; (with_reducible refine (Hc.out _ (HS.out _ (pa (S_2)))).mono ?_); rintro e w3_ ⟨rfl, h3_⟩; have R_3 : Blk w3_ (w.heap.size) 48 #[.int .i64 0, .int .i64 0, .int .i64 0, .bool false, .int .i64 0, .int .i64 0, .int .i64 0, .bool false, .int .i64 0] := (R_2.alloc).past h3_; have P_3 : Blk w3_ (w.heap.size + 1) 9 #[.string ⟨a.toArray⟩, .string ⟨b.toArray⟩, .string ⟨c.toArray⟩] := (P_2.alloc).past h3_; have X_3 : Blk w3_ (w1_.heap.size) 45 #[.int .i64 x.kind, .int .i64 x.turns, .int .i64 x.shift, .bool x.rev] := (X_2.alloc).past h3_; have Y_3 : Blk w3_ (w2_.heap.size) 45 #[.int .i64 y.kind, .int .i64 y.turns, .int .i64 y.shift, .bool y.rev] := (Blk.newAt (by simp)).past h3_; have ne_R_Y : w.heap.size ≠ w2_.heap.size := (by have := R_2.lt; omega); have S_3 := pt (pa (S_2)) h3_; clear R_2 P_2 X_2 S_2 Pc0 Pc1 Pc2 Pl; clear h3_)
    | ((with_reducible refine load_sub (T := 45) (x := .tmp 5) (o := 0) (vs := #[.int .i64 x.kind, .int .i64 x.turns, .int .i64 x.shift, .bool x.rev]) (show Blk _ (w1_.heap.size) 45 #[.int .i64 x.kind, .int .i64 x.turns, .int .i64 x.shift, .bool x.rev] from (X_3)) ?_ ?_ Tryz.underlying45 ?_ ?_ ?_); (focus rfl); (focus rfl); (focus rfl); (focus exact apiWinding_size))
    | ((with_reducible refine load_sub (T := 45) (x := .tmp 7) (o := 0) (vs := #[.int .i64 y.kind, .int .i64 y.turns, .int .i64 y.shift, .bool y.rev]) (show Blk _ (w2_.heap.size) 45 #[.int .i64 y.kind, .int .i64 y.turns, .int .i64 y.shift, .bool y.rev] from (Y_3)) ?_ ?_ Tryz.underlying45 ?_ ?_ ?_); (focus rfl); (focus rfl); (focus rfl); (focus exact apiWinding_size))
    | ((with_reducible refine load_sub (T := 48) (x := .tmp 11) (o := 0) (vs := #[.int .i64 x.kind, .int .i64 x.turns, .int .i64 x.shift, .bool x.rev, .int .i64 y.kind, .int .i64 y.turns, .int .i64 y.shift, .bool y.rev, .int .i64 n]) (show Blk _ (w3_.heap.size) 48 #[.int .i64 x.kind, .int .i64 x.turns, .int .i64 x.shift, .bool x.rev, .int .i64 y.kind, .int .i64 y.turns, .int .i64 y.shift, .bool y.rev, .int .i64 n] from (Blk.newAt (by simp))) ?_ ?_ Tryz.underlying48 ?_ ?_ ?_); (focus rfl); (focus rfl); (focus rfl); (focus exact pUnit_size))
    | (go_at_call 56; (with_reducible refine (HC.out _).mono ?_); rintro e w4_ ⟨rfl, h4_⟩; have R_4 : Blk w4_ (w.heap.size) 48 #[.int .i64 0, .int .i64 0, .int .i64 0, .bool false, .int .i64 0, .int .i64 0, .int .i64 0, .bool false, .int .i64 0] := (R_3.alloc).past h4_; have P_4 : Blk w4_ (w.heap.size + 1) 9 #[.string ⟨a.toArray⟩, .string ⟨b.toArray⟩, .string ⟨c.toArray⟩] := (P_3.alloc).past h4_; have X_4 : Blk w4_ (w1_.heap.size) 45 #[.int .i64 x.kind, .int .i64 x.turns, .int .i64 x.shift, .bool x.rev] := (X_3.alloc).past h4_; have Y_4 : Blk w4_ (w2_.heap.size) 45 #[.int .i64 y.kind, .int .i64 y.turns, .int .i64 y.shift, .bool y.rev] := (Y_3.alloc).past h4_; have U_4 : Blk w4_ (w3_.heap.size) 48 #[.int .i64 x.kind, .int .i64 x.turns, .int .i64 x.shift, .bool x.rev, .int .i64 y.kind, .int .i64 y.turns, .int .i64 y.shift, .bool y.rev, .int .i64 n] := (Blk.newAt (by simp)).past h4_; have ne_R_U : w.heap.size ≠ w3_.heap.size := (by have := R_3.lt; omega); have S_4 := pt (pa (S_3)) h4_; clear R_3 P_3 X_3 Y_3 S_3; clear h4_)
    | ((with_reducible refine load_sub (T := 48) (x := .tmp 11) (o := 0) (vs := #[.int .i64 x.kind, .int .i64 x.turns, .int .i64 x.shift, .bool x.rev, .int .i64 y.kind, .int .i64 y.turns, .int .i64 y.shift, .bool y.rev, .int .i64 n]) (show Blk _ (w3_.heap.size) 48 #[.int .i64 x.kind, .int .i64 x.turns, .int .i64 x.shift, .bool x.rev, .int .i64 y.kind, .int .i64 y.turns, .int .i64 y.shift, .bool y.rev, .int .i64 n] from (U_4)) ?_ ?_ Tryz.underlying48 ?_ ?_ ?_); (focus rfl); (focus rfl); (focus rfl); (focus exact pUnit_size))
    | ((with_reducible refine store_sub (T := 48) (x := .tmp 2) (y := .tmp 61) (o := 0) (cs' := #[.int .i64 x.kind, .int .i64 x.turns, .int .i64 x.shift, .bool x.rev, .int .i64 y.kind, .int .i64 y.turns, .int .i64 y.shift, .bool y.rev, .int .i64 n]) (vs := #[.int .i64 x.kind, .int .i64 x.turns, .int .i64 x.shift, .bool x.rev, .int .i64 y.kind, .int .i64 y.turns, .int .i64 y.shift, .bool y.rev, .int .i64 n]) (show Blk _ (w.heap.size) 48 #[.int .i64 0, .int .i64 0, .int .i64 0, .bool false, .int .i64 0, .int .i64 0, .int .i64 0, .bool false, .int .i64 0] from (R_4)) ?_ ?_ ?_ ?_ ?_ ?_ ?_); (focus rfl); (focus rfl); (focus rfl); (focus exact Nat.le_of_ble_eq_true rfl); (focus exact pUnit_size); (focus (simp [Value.oneCell']; done)); intro w5_ b5_ h5_; have R_5 : Blk w5_ (w.heap.size) 48 #[.int .i64 x.kind, .int .i64 x.turns, .int .i64 x.shift, .bool x.rev, .int .i64 y.kind, .int .i64 y.turns, .int .i64 y.shift, .bool y.rev, .int .i64 n] := b5_; have P_5 : Blk w5_ (w.heap.size + 1) 9 #[.string ⟨a.toArray⟩, .string ⟨b.toArray⟩, .string ⟨c.toArray⟩] := (P_4).put h5_ ne_P_R; have X_5 : Blk w5_ (w1_.heap.size) 45 #[.int .i64 x.kind, .int .i64 x.turns, .int .i64 x.shift, .bool x.rev] := (X_4).put h5_ (Ne.symm ne_R_X); have Y_5 : Blk w5_ (w2_.heap.size) 45 #[.int .i64 y.kind, .int .i64 y.turns, .int .i64 y.shift, .bool y.rev] := (Y_4).put h5_ (Ne.symm ne_R_Y); have U_5 : Blk w5_ (w3_.heap.size) 48 #[.int .i64 x.kind, .int .i64 x.turns, .int .i64 x.shift, .bool x.rev, .int .i64 y.kind, .int .i64 y.turns, .int .i64 y.shift, .bool y.rev, .int .i64 n] := (U_4).put h5_ (Ne.symm ne_R_U); have S_5 := pp (S_4) h5_ ge_R; clear R_4 P_4 X_4 Y_4 U_4 S_4; clear h5_ b5_))
  have z0 := R_5.cellAt 0 rfl
  have z1 := R_5.cellAt 1 rfl
  have z2 := R_5.cellAt 2 rfl
  have z3 := R_5.cellAt 3 rfl
  have z4 := R_5.cellAt 4 rfl
  have z5 := R_5.cellAt 5 rfl
  have z6 := R_5.cellAt 6 rfl
  have z7 := R_5.cellAt 7 rfl
  have z8 := R_5.cellAt 8 rfl
  exact bodyPost_ret (v := .tuple #[.agg #[.int .i64 x.kind, .int .i64 x.turns, .int .i64 x.shift, .bool x.rev, .int .i64 y.kind, .int .i64 y.turns, .int .i64 y.shift, .bool y.rev, .int .i64 n], .int .i64 0]) (by simp [results, Tryz.results29, go_sem, z0, z1, z2, z3, z4, z5, z6, z7, z8]) rfl ⟨rfl, S_5⟩

end Go.Proofs.YtpdkbhjcpddnpaaGreatDoor
end

section
namespace Go.Proofs.YtpdkbhjcpddnpaaGreatDoor
open Go.RowKit

theorem splitL_mem {c : UInt8} : ∀ {l x : List UInt8}, x ∈ splitL c l → x.length ≤ l.length
  | [], x, h => by rw [splitL, List.mem_singleton] at h; subst h; exact Nat.le_refl _
  | b :: l, x, h => by
    rw [splitL] at h
    split at h
    · rcases List.mem_cons.1 h with h | h
      · subst h; exact Nat.zero_le _
      · have := splitL_mem h; simp; omega
    · split at h
      · rw [List.mem_singleton] at h; subst h; simp
      · rename_i y r e
        rcases List.mem_cons.1 h with h | h
        · have := splitL_mem (c := c) (l := l) (x := y) (by rw [e]; exact List.mem_cons_self)
          subst h; simp; omega
        · have := splitL_mem (c := c) (l := l) (x := x) (by rw [e]; exact List.mem_cons_of_mem _ h)
          simp; omega

/-- What a unit of a string is, as the results' values. -/
def unitV (x y : Wind) (n : Int) : Value := .agg #[.int .i64 x.kind, .int .i64 x.turns, .int .i64 x.shift, .bool x.rev, .int .i64 y.kind, .int .i64 y.turns, .int .i64 y.shift, .bool y.rev, .int .i64 n]
def unit0 : Value := .agg #[.int .i64 0, .int .i64 0, .int .i64 0, .bool false, .int .i64 0, .int .i64 0, .int .i64 0, .bool false, .int .i64 0]
def unitOut (o : Option (Wind × Wind × Int)) : Value × Int := match o with
  | none => (unit0, 7)
  | some (x, y, n) => if unitE x.kind x.turns x.shift y.kind y.turns y.shift n = 0 then (unitV x y n, 0) else (unit0, unitE x.kind x.turns x.shift y.kind y.turns y.shift n)
theorem parseU_three {l a b c : List UInt8} (h : splitL 32 l = [a, b, c]) : parseU l = (parseW a).bind fun x => (parseW b).bind fun y => (numP c).map fun n => (x, y, n) := by
  unfold parseU
  rw [h]
theorem parseU_else {l : List UInt8} (h : (splitL 32 l).length ≠ 3) : parseU l = none := by
  unfold parseU
  split
  · rename_i e
    rw [e] at h
    exact absurd rfl h
  · rfl
theorem list_three {α : Type} : ∀ {l : List α}, l.length = 3 → ∃ a b c, l = [a, b, c]
  | [a, b, c], _ => ⟨a, b, c, rfl⟩

theorem ParseUnit_any (l : List UInt8) (hl : l.length ≤ 1000) (w : World) (hS : StrIn w) (hP : PatIn w) :
    Calls Tryz.prog 29 #[.string ⟨l.toArray⟩] w fun e w' => e = .returned (.tuple #[(unitOut (parseU l)).1, .int .i64 (unitOut (parseU l)).2]) ∧ Below w.heap.size w w' := by
  by_cases h3 : (splitL 32 l).length = 3
  · obtain ⟨a, b, c, hs⟩ := list_three h3
    have ha : a.length ≤ 1000 := Nat.le_trans (splitL_mem (l := l) (c := 32) (by rw [hs]; simp)) hl
    have hb : b.length ≤ 1000 := Nat.le_trans (splitL_mem (l := l) (c := 32) (by rw [hs]; simp)) hl
    have hc : c.length ≤ 1000 := Nat.le_trans (splitL_mem (l := l) (c := 32) (by rw [hs]; simp)) hl
    rw [parseU_three hs]
    cases h1 : parseW a with
    | none => exact parse_no1 l a b c hl ha hb hc hs (by rw [h1]; rfl) _ _ rfl rfl w hS hP
    | some x =>
      cases h2 : parseW b with
      | none => exact parse_no2 l a b c hl ha hb hc hs x h1 (by rw [h2]; rfl) _ rfl w hS hP
      | some y =>
        cases h4 : numP c with
        | none => exact parse_no3 l a b c hl ha hb hc hs x y h1 h2 (by rw [h4]; rfl) w hS hP
        | some n =>
          by_cases hE : unitE x.kind x.turns x.shift y.kind y.turns y.shift n = 0
          · have q := parse_good l a b c hl ha hb hc hs x y n h1 h2 h4 hE w hS hP
            show Calls _ _ _ _ fun e w' => e = .returned (.tuple #[(unitOut (some (x, y, n))).1, .int .i64 (unitOut (some (x, y, n))).2]) ∧ _
            unfold unitOut
            dsimp only
            rw [if_pos hE]
            exact q
          · have q := parse_bad l a b c hl ha hb hc hs x y n h1 h2 h4 _ rfl (by simpa using hE) w hS hP
            show Calls _ _ _ _ fun e w' => e = .returned (.tuple #[(unitOut (some (x, y, n))).1, .int .i64 (unitOut (some (x, y, n))).2]) ∧ _
            unfold unitOut
            dsimp only
            rw [if_neg hE]
            exact q
  · rw [parseU_else h3]
    exact parse_len l hl h3 w hS

end Go.Proofs.YtpdkbhjcpddnpaaGreatDoor
end
