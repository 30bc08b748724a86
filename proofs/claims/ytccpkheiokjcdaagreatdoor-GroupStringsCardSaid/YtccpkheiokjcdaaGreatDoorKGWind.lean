/- Contract: the winding of a string. -/
import Derived.Test.YtccpkheiokjcdaaGreatDoorKEWind
import Derived.Test.YtccpkheiokjcdaaGreatDoorK3Cut
import Derived.Test.YtccpkheiokjcdaaGreatDoorK2Numb
namespace Go.Proofs.YtccpkheiokjcdaaGreatDoor
open Go.RowKit
attribute [local go_sem ↓] Go.wp_at_zero Go.wp_at_succ

theorem cut_lens (r : List UInt8) : (Lib.cut r [47]).1.length ≤ r.length ∧ (Lib.cut r [47]).2.1.length ≤ r.length := by
  by_cases h : 47 ∈ r
  · obtain ⟨a, b, rfl, ha⟩ := first_at h
    rw [cut_app ha]
    simp
    omega
  · rw [cut_none h]
    simp
theorem cutS_any (r : List UInt8) (hl : r.length ≤ 1000) (w : World) (h : StrIn w) : Calls Tryz.prog 53 #[.string ⟨r.toArray⟩, .string ⟨#[47]⟩] w fun e w' => e = .returned (.tuple #[.string ⟨(Lib.cut r [47]).1.toArray⟩, .string ⟨(Lib.cut r [47]).2.1.toArray⟩, .bool (Lib.cut r [47]).2.2]) ∧ Below w.heap.size w w' := by
  obtain ⟨m, hm⟩ := h.max
  refine (Tryz.strings_Cut ⟨r.toArray⟩ ⟨#[47]⟩ m w (by rw [bsize]; omega) hm).mono ?_
  rintro e w' ⟨rfl, n, rfl⟩
  exact ⟨rfl, rfl, rfl, rfl, Nat.le_refl _, fun _ _ => rfl⟩
theorem number_none (l : List UInt8) (hl : l.length ≤ 1000) (h : numP l = none) (w : World) (hS : StrIn w) : Calls Tryz.prog 21 #[.string ⟨l.toArray⟩] w fun e w' => (∃ x : Int, e = .returned (.tuple #[.int .i64 x, .bool false])) ∧ Below w.heap.size w w' :=
  (number_any l hl w hS).mono fun e w' ⟨⟨x, h1, _⟩, h2⟩ => ⟨⟨x, by rw [h1, h]; rfl⟩, h2⟩
theorem number_some (l : List UInt8) (hl : l.length ≤ 1000) (k : Int) (h : numP l = some k) (w : World) (hS : StrIn w) : Calls Tryz.prog 21 #[.string ⟨l.toArray⟩] w fun e w' => e = .returned (.tuple #[.int .i64 k, .bool true]) ∧ Below w.heap.size w w' :=
  (number_any l hl w hS).mono fun e w' ⟨⟨x, h1, h3⟩, h2⟩ => ⟨by rw [h1, h, h3 k h]; rfl, h2⟩

/-- What a winding of a string is, in the call's words. -/
def windR (V : Option Wind) (e : Ending) : Prop := match V with
  | none => ∃ k t s r, e = .returned (.tuple #[.agg #[.int .i64 k, .int .i64 t, .int .i64 s, .bool r], .bool false])
  | some x => e = .returned (.tuple #[.agg #[.int .i64 x.kind, .int .i64 x.turns, .int .i64 x.shift, .bool x.rev], .bool true])

set_option maxHeartbeats 4000000 in
set_option maxRecDepth 100000 in
theorem winding_no (l : List UInt8) (hl : l.length ≤ 1000) (hk : patR l = -1) (w : World) (hS : StrIn w) (hP : PatIn w) :
    Calls Tryz.prog 20 #[.string ⟨l.toArray⟩] w fun e w' => windR none e ∧ Below w.heap.size w w' := by
  have HI := Lib.hid (fun w' b (hP' : PatIn w') hb hc => patIndex_any l b w' hP' hb hc)
  rw [hk] at HI
  have HP := Lib.hid hP
  have HS := Lib.hid hS
  have hbs := bsize l
  clear hS hk hP
  go_enter Tryz.func20, Tryz.ntmps20
  go_wp2_with (go_at_call 50; (refine (HI.out _ _ (HP.out.below (pa (pa pr))) (by simp; omega) (by first | (go_simp; done) | (go_simp; rfl))).mono ?_); rintro e w1 ⟨rfl, hB1⟩; have P1 : Blk w1 w.heap.size 9 #[.string ⟨l.toArray⟩] := (Blk.newAt rfl).alloc.past hB1; have R1 : Blk w1 (w.heap.size + 1) 23 #[.int .i64 0, .int .i64 0, .int .i64 0, .bool false] := (Blk.newAt (by simp)).past hB1; have p0 := P1.cellAt 0 rfl; have r0 := R1.cellAt 0 rfl; have r1 := R1.cellAt 1 rfl; have r2 := R1.cellAt 2 rfl; have r3 := R1.cellAt 3 rfl; have s0 := R1.frozen 0; have s1 := R1.frozen 1; have s2 := R1.frozen 2; have s3 := R1.frozen 3; have rl := R1.lt)
  exact bodyPost_ret (v := .tuple #[.agg #[.int .i64 0, .int .i64 0, .int .i64 0, .bool false], .bool false]) (by simp [results, Tryz.results20, go_sem, r0, r1, r2, r3, rl]) rfl ⟨⟨_, _, _, _, rfl⟩, by repeat (first | exact (pt (pa (pa pr)) hB1) | refine pa ?_ | refine ps ?_ (by first | (simp; done) | (simp; omega)) | refine pd ?_)⟩

set_option maxHeartbeats 4000000 in
set_option maxRecDepth 100000 in
theorem winding_short (l : List UInt8) (hl : l.length ≤ 1000) (kd : Int) (hk : patR l = kd) (h0 : 0 ≤ kd) (h2 : l.length < 2) (w : World) (hS : StrIn w) (hP : PatIn w) :
    Calls Tryz.prog 20 #[.string ⟨l.toArray⟩] w fun e w' => windR none e ∧ Below w.heap.size w w' := by
  have HI := Lib.hid (fun w' b (hP' : PatIn w') hb hc => patIndex_any l b w' hP' hb hc)
  rw [hk] at HI
  have HP := Lib.hid hP
  have HS := Lib.hid hS
  have hbs := bsize l
  have h2' : (l.length : Int) < 2 := by omega
  have h0' : ¬ kd < 0 := by omega
  clear hS hk hP
  go_enter Tryz.func20, Tryz.ntmps20
  go_wp2_with (go_at_call 50; (refine (HI.out _ _ (HP.out.below (pa (pa pr))) (by simp; omega) (by first | (go_simp; done) | (go_simp; rfl))).mono ?_); rintro e w1 ⟨rfl, hB1⟩; have P1 : Blk w1 w.heap.size 9 #[.string ⟨l.toArray⟩] := (Blk.newAt rfl).alloc.past hB1; have R1 : Blk w1 (w.heap.size + 1) 23 #[.int .i64 0, .int .i64 0, .int .i64 0, .bool false] := (Blk.newAt (by simp)).past hB1; have p0 := P1.cellAt 0 rfl; have r0 := R1.cellAt 0 rfl; have r1 := R1.cellAt 1 rfl; have r2 := R1.cellAt 2 rfl; have r3 := R1.cellAt 3 rfl; have s0 := R1.frozen 0; have s1 := R1.frozen 1; have s2 := R1.frozen 2; have s3 := R1.frozen 3; have rl := R1.lt)
  exact bodyPost_ret (v := .tuple #[.agg #[.int .i64 0, .int .i64 0, .int .i64 0, .bool false], .bool false]) (by simp [results, Tryz.results20, go_sem, r0, r1, r2, r3, rl]) rfl ⟨⟨_, _, _, _, rfl⟩, by repeat (first | exact (pt (pa (pa pr)) hB1) | refine pa ?_ | refine ps ?_ (by first | (simp; done) | (simp; omega)) | refine pd ?_)⟩

set_option maxHeartbeats 4000000 in
set_option maxRecDepth 100000 in
theorem winding_sign (l : List UInt8) (hl : l.length ≤ 1000) (kd : Int) (hk : patR l = kd) (h0 : 0 ≤ kd) (h2 : 2 ≤ l.length) (hb1 : byteL l 1 ≠ 43) (hb2 : byteL l 1 ≠ 45) (w : World) (hS : StrIn w) (hP : PatIn w) :
    Calls Tryz.prog 20 #[.string ⟨l.toArray⟩] w fun e w' => windR none e ∧ Below w.heap.size w w' := by
  have HI := Lib.hid (fun w' b (hP' : PatIn w') hb hc => patIndex_any l b w' hP' hb hc)
  rw [hk] at HI
  have HP := Lib.hid hP
  have HS := Lib.hid hS
  have hbs := bsize l
  have h2' : ¬ (l.length : Int) < 2 := by omega
  have h0' : ¬ kd < 0 := by omega
  have hix := fun W => index_lit l 1 (by omega) 1 rfl W
  have b1 : (byteL l 1 != 43) = true := by simpa using hb1
  have b2 : (byteL l 1 != 45) = true := by simpa using hb2
  generalize byteL l 1 = B at *
  clear hS hk hP hb1 hb2
  go_enter Tryz.func20, Tryz.ntmps20
  go_wp2_with (go_at_call 50; (refine (HI.out _ _ (HP.out.below (pa (pa pr))) (by simp; omega) (by first | (go_simp; done) | (go_simp; rfl))).mono ?_); rintro e w1 ⟨rfl, hB1⟩; have P1 : Blk w1 w.heap.size 9 #[.string ⟨l.toArray⟩] := (Blk.newAt rfl).alloc.past hB1; have R1 : Blk w1 (w.heap.size + 1) 23 #[.int .i64 0, .int .i64 0, .int .i64 0, .bool false] := (Blk.newAt (by simp)).past hB1; have p0 := P1.cellAt 0 rfl; have r0 := R1.cellAt 0 rfl; have r1 := R1.cellAt 1 rfl; have r2 := R1.cellAt 2 rfl; have r3 := R1.cellAt 3 rfl; have s0 := R1.frozen 0; have s1 := R1.frozen 1; have s2 := R1.frozen 2; have s3 := R1.frozen 3; have rl := R1.lt)
  exact bodyPost_ret (v := .tuple #[.agg #[.int .i64 0, .int .i64 0, .int .i64 0, .bool false], .bool false]) (by simp [results, Tryz.results20, go_sem, r0, r1, r2, r3, rl]) rfl ⟨⟨_, _, _, _, rfl⟩, by repeat (first | exact (pt (pa (pa pr)) hB1) | refine pa ?_ | refine ps ?_ (by first | (simp; done) | (simp; omega)) | refine pd ?_)⟩

set_option maxHeartbeats 4000000 in
set_option maxRecDepth 100000 in
theorem winding_none1plus (l : List UInt8) (hl : l.length ≤ 1000) (kd : Int) (hk : patR l = kd) (h0 : 0 ≤ kd) (h2 : 2 ≤ l.length) (hb : byteL l 1 = 43) (n1 : numP (Lib.cut (l.drop 2) [47]).1 = none) (w : World) (hS : StrIn w) (hP : PatIn w) :
    Calls Tryz.prog 20 #[.string ⟨l.toArray⟩] w fun e w' => windR none e ∧ Below w.heap.size w w' := by
  have HI := Lib.hid (fun w' b (hP' : PatIn w') hb hc => patIndex_any l b w' hP' hb hc)
  rw [hk] at HI
  have HP := Lib.hid hP
  have HS := Lib.hid hS
  have hbs := bsize l
  have h2' : ¬ (l.length : Int) < 2 := by omega
  have h0' : ¬ kd < 0 := by omega
  have hix := fun W => index_lit l 1 (by omega) 1 rfl W
  rw [hb] at hix
  have hsz : (2 : Int) ≤ (l.length : Int) := by omega
  have hcl := cut_lens (l.drop 2)
  have hdl : (l.drop 2).length ≤ 1000 := by rw [List.length_drop]; omega
  have HC := Lib.hid (fun w' hS' => cutS_any (l.drop 2) hdl w' hS')
  have HN1 := Lib.hid (fun w' hS' => number_none _ (by omega) n1 w' hS')
  have HN2 := Lib.hid (fun w' hS' => number_any (Lib.cut (l.drop 2) [47]).2.1 (by omega) w' hS')
  have hx : (⟨l.toArray⟩ : ByteArray).extract 2 l.length = ⟨(l.drop 2).toArray⟩ := by rw [extract_list, List.take_of_length_le (by simp)]
  generalize (numP (Lib.cut (l.drop 2) [47]).2.1).isSome = o2 at *
  clear hS hk hP hb hcl hdl n1
  generalize Lib.cut (l.drop 2) [47] = X at *
  obtain ⟨X1, X2, X3⟩ := X
  go_enter Tryz.func20, Tryz.ntmps20
  go_wp2_with (first | (go_at_call 50; (refine (HI.out _ _ (HP.out.below (pa (pa pr))) (by simp; omega) (by first | (go_simp; done) | (go_simp; rfl))).mono ?_); rintro e w1 ⟨rfl, hB1⟩; have P1 : Blk w1 w.heap.size 9 #[.string ⟨l.toArray⟩] := (Blk.newAt rfl).alloc.past hB1; have R1 : Blk w1 (w.heap.size + 1) 23 #[.int .i64 0, .int .i64 0, .int .i64 0, .bool false] := (Blk.newAt (by simp)).past hB1; have p0 := P1.cellAt 0 rfl) | (go_at_call 53; (with_reducible refine (HC.out _ (HS.out.kept (pt (pa (pa pr)) hB1))).mono ?_); rintro e w2 ⟨rfl, hB2⟩) | (go_at_call 21; (with_reducible refine (HN2.out _ (HS.out.kept (pt (pt (pt (pa (pa pr)) hB1) hB2) hB3))).mono ?_); rintro e w4 ⟨⟨x2, rfl, _⟩, hB4⟩; have P4 := ((P1.past hB2).past hB3).past hB4; have R4 := ((R1.past hB2).past hB3).past hB4; have q0 := P4.cellAt 0 rfl; clear p0 P1 R1; have r0 := R4.cellAt 0 rfl; have r1 := R4.cellAt 1 rfl; have r2 := R4.cellAt 2 rfl; have r3 := R4.cellAt 3 rfl; have s0 := R4.frozen 0; have s1 := R4.frozen 1; have s2 := R4.frozen 2; have s3 := R4.frozen 3; have rl := R4.lt) | (go_at_call 21; (with_reducible refine (HN1.out _ (HS.out.kept (pt (pt (pa (pa pr)) hB1) hB2))).mono ?_); rintro e w3 ⟨⟨x1, rfl⟩, hB3⟩))
  exact bodyPost_ret (v := .tuple #[.agg #[.int .i64 kd, .int .i64 x2, .int .i64 x1, .bool false], .bool false]) (by simp [results, Tryz.results20, go_sem, r0, r1, r2, r3, rl]) rfl ⟨⟨_, _, _, _, rfl⟩, by repeat (first | exact (pt (pt (pt (pt (pa (pa pr)) hB1) hB2) hB3) hB4) | refine pa ?_ | refine ps ?_ (by first | (simp; done) | (simp; omega)) | refine pd ?_)⟩

set_option maxHeartbeats 4000000 in
set_option maxRecDepth 100000 in
theorem winding_none2plus (l : List UInt8) (hl : l.length ≤ 1000) (kd : Int) (hk : patR l = kd) (h0 : 0 ≤ kd) (h2 : 2 ≤ l.length) (hb : byteL l 1 = 43) (sh : Int) (n1 : numP (Lib.cut (l.drop 2) [47]).1 = some sh) (n2 : numP (Lib.cut (l.drop 2) [47]).2.1 = none) (w : World) (hS : StrIn w) (hP : PatIn w) :
    Calls Tryz.prog 20 #[.string ⟨l.toArray⟩] w fun e w' => windR none e ∧ Below w.heap.size w w' := by
  have HI := Lib.hid (fun w' b (hP' : PatIn w') hb hc => patIndex_any l b w' hP' hb hc)
  rw [hk] at HI
  have HP := Lib.hid hP
  have HS := Lib.hid hS
  have hbs := bsize l
  have h2' : ¬ (l.length : Int) < 2 := by omega
  have h0' : ¬ kd < 0 := by omega
  have hix := fun W => index_lit l 1 (by omega) 1 rfl W
  rw [hb] at hix
  have hsz : (2 : Int) ≤ (l.length : Int) := by omega
  have hcl := cut_lens (l.drop 2)
  have hdl : (l.drop 2).length ≤ 1000 := by rw [List.length_drop]; omega
  have HC := Lib.hid (fun w' hS' => cutS_any (l.drop 2) hdl w' hS')
  have HN1 := Lib.hid (fun w' hS' => number_some _ (by omega) sh n1 w' hS')
  have HN2 := Lib.hid (fun w' hS' => number_none _ (by omega) n2 w' hS')
  have hx : (⟨l.toArray⟩ : ByteArray).extract 2 l.length = ⟨(l.drop 2).toArray⟩ := by rw [extract_list, List.take_of_length_le (by simp)]
  clear hS hk hP hb hcl hdl n1 n2
  generalize Lib.cut (l.drop 2) [47] = X at *
  obtain ⟨X1, X2, X3⟩ := X
  go_enter Tryz.func20, Tryz.ntmps20
  go_wp2_with (first | (go_at_call 50; (refine (HI.out _ _ (HP.out.below (pa (pa pr))) (by simp; omega) (by first | (go_simp; done) | (go_simp; rfl))).mono ?_); rintro e w1 ⟨rfl, hB1⟩; have P1 : Blk w1 w.heap.size 9 #[.string ⟨l.toArray⟩] := (Blk.newAt rfl).alloc.past hB1; have R1 : Blk w1 (w.heap.size + 1) 23 #[.int .i64 0, .int .i64 0, .int .i64 0, .bool false] := (Blk.newAt (by simp)).past hB1; have p0 := P1.cellAt 0 rfl) | (go_at_call 53; (with_reducible refine (HC.out _ (HS.out.kept (pt (pa (pa pr)) hB1))).mono ?_); rintro e w2 ⟨rfl, hB2⟩) | (go_at_call 21; (with_reducible refine (HN2.out _ (HS.out.kept (pt (pt (pt (pa (pa pr)) hB1) hB2) hB3))).mono ?_); rintro e w4 ⟨⟨x2, rfl⟩, hB4⟩; have P4 := ((P1.past hB2).past hB3).past hB4; have R4 := ((R1.past hB2).past hB3).past hB4; have q0 := P4.cellAt 0 rfl; clear p0 P1 R1; have r0 := R4.cellAt 0 rfl; have r1 := R4.cellAt 1 rfl; have r2 := R4.cellAt 2 rfl; have r3 := R4.cellAt 3 rfl; have s0 := R4.frozen 0; have s1 := R4.frozen 1; have s2 := R4.frozen 2; have s3 := R4.frozen 3; have rl := R4.lt) | (go_at_call 21; (with_reducible refine (HN1.out _ (HS.out.kept (pt (pt (pa (pa pr)) hB1) hB2))).mono ?_); rintro e w3 ⟨rfl, hB3⟩))
  exact bodyPost_ret (v := .tuple #[.agg #[.int .i64 kd, .int .i64 x2, .int .i64 sh, .bool false], .bool false]) (by simp [results, Tryz.results20, go_sem, r0, r1, r2, r3, rl]) rfl ⟨⟨_, _, _, _, rfl⟩, by repeat (first | exact (pt (pt (pt (pt (pa (pa pr)) hB1) hB2) hB3) hB4) | refine pa ?_ | refine ps ?_ (by first | (simp; done) | (simp; omega)) | refine pd ?_)⟩

set_option maxHeartbeats 4000000 in
set_option maxRecDepth 100000 in
theorem winding_someplus (l : List UInt8) (hl : l.length ≤ 1000) (kd : Int) (hk : patR l = kd) (h0 : 0 ≤ kd) (h2 : 2 ≤ l.length) (hb : byteL l 1 = 43) (sh : Int) (n1 : numP (Lib.cut (l.drop 2) [47]).1 = some sh) (tn : Int) (n2 : numP (Lib.cut (l.drop 2) [47]).2.1 = some tn) (w : World) (hS : StrIn w) (hP : PatIn w) :
    Calls Tryz.prog 20 #[.string ⟨l.toArray⟩] w fun e w' => windR (some ⟨kd, tn, sh, false⟩) e ∧ Below w.heap.size w w' := by
  have HI := Lib.hid (fun w' b (hP' : PatIn w') hb hc => patIndex_any l b w' hP' hb hc)
  rw [hk] at HI
  have HP := Lib.hid hP
  have HS := Lib.hid hS
  have hbs := bsize l
  have h2' : ¬ (l.length : Int) < 2 := by omega
  have h0' : ¬ kd < 0 := by omega
  have hix := fun W => index_lit l 1 (by omega) 1 rfl W
  rw [hb] at hix
  have hsz : (2 : Int) ≤ (l.length : Int) := by omega
  have hcl := cut_lens (l.drop 2)
  have hdl : (l.drop 2).length ≤ 1000 := by rw [List.length_drop]; omega
  have HC := Lib.hid (fun w' hS' => cutS_any (l.drop 2) hdl w' hS')
  have HN1 := Lib.hid (fun w' hS' => number_some _ (by omega) sh n1 w' hS')
  have HN2 := Lib.hid (fun w' hS' => number_some _ (by omega) tn n2 w' hS')
  have hx : (⟨l.toArray⟩ : ByteArray).extract 2 l.length = ⟨(l.drop 2).toArray⟩ := by rw [extract_list, List.take_of_length_le (by simp)]
  clear hS hk hP hb hcl hdl n1 n2
  generalize Lib.cut (l.drop 2) [47] = X at *
  obtain ⟨X1, X2, X3⟩ := X
  go_enter Tryz.func20, Tryz.ntmps20
  go_wp2_with (first | (go_at_call 50; (refine (HI.out _ _ (HP.out.below (pa (pa pr))) (by simp; omega) (by first | (go_simp; done) | (go_simp; rfl))).mono ?_); rintro e w1 ⟨rfl, hB1⟩; have P1 : Blk w1 w.heap.size 9 #[.string ⟨l.toArray⟩] := (Blk.newAt rfl).alloc.past hB1; have R1 : Blk w1 (w.heap.size + 1) 23 #[.int .i64 0, .int .i64 0, .int .i64 0, .bool false] := (Blk.newAt (by simp)).past hB1; have p0 := P1.cellAt 0 rfl) | (go_at_call 53; (with_reducible refine (HC.out _ (HS.out.kept (pt (pa (pa pr)) hB1))).mono ?_); rintro e w2 ⟨rfl, hB2⟩) | (go_at_call 21; (with_reducible refine (HN2.out _ (HS.out.kept (pt (pt (pt (pa (pa pr)) hB1) hB2) hB3))).mono ?_); rintro e w4 ⟨rfl, hB4⟩; have P4 := ((P1.past hB2).past hB3).past hB4; have R4 := ((R1.past hB2).past hB3).past hB4; have q0 := P4.cellAt 0 rfl; clear p0 P1 R1; have r0 := R4.cellAt 0 rfl; have r1 := R4.cellAt 1 rfl; have r2 := R4.cellAt 2 rfl; have r3 := R4.cellAt 3 rfl; have s0 := R4.frozen 0; have s1 := R4.frozen 1; have s2 := R4.frozen 2; have s3 := R4.frozen 3; have rl := R4.lt) | (go_at_call 21; (with_reducible refine (HN1.out _ (HS.out.kept (pt (pt (pa (pa pr)) hB1) hB2))).mono ?_); rintro e w3 ⟨rfl, hB3⟩))
  exact bodyPost_ret (v := .tuple #[.agg #[.int .i64 kd, .int .i64 tn, .int .i64 sh, .bool false], .bool true]) (by simp [results, Tryz.results20, go_sem, r0, r1, r2, r3, rl]) rfl ⟨rfl, by repeat (first | exact (pt (pt (pt (pt (pa (pa pr)) hB1) hB2) hB3) hB4) | refine pa ?_ | refine ps ?_ (by first | (simp; done) | (simp; omega)) | refine pd ?_)⟩

set_option maxHeartbeats 4000000 in
set_option maxRecDepth 100000 in
theorem winding_none1minus (l : List UInt8) (hl : l.length ≤ 1000) (kd : Int) (hk : patR l = kd) (h0 : 0 ≤ kd) (h2 : 2 ≤ l.length) (hb : byteL l 1 = 45) (n1 : numP (Lib.cut (l.drop 2) [47]).1 = none) (w : World) (hS : StrIn w) (hP : PatIn w) :
    Calls Tryz.prog 20 #[.string ⟨l.toArray⟩] w fun e w' => windR none e ∧ Below w.heap.size w w' := by
  have HI := Lib.hid (fun w' b (hP' : PatIn w') hb hc => patIndex_any l b w' hP' hb hc)
  rw [hk] at HI
  have HP := Lib.hid hP
  have HS := Lib.hid hS
  have hbs := bsize l
  have h2' : ¬ (l.length : Int) < 2 := by omega
  have h0' : ¬ kd < 0 := by omega
  have hix := fun W => index_lit l 1 (by omega) 1 rfl W
  rw [hb] at hix
  have hsz : (2 : Int) ≤ (l.length : Int) := by omega
  have hcl := cut_lens (l.drop 2)
  have hdl : (l.drop 2).length ≤ 1000 := by rw [List.length_drop]; omega
  have HC := Lib.hid (fun w' hS' => cutS_any (l.drop 2) hdl w' hS')
  have HN1 := Lib.hid (fun w' hS' => number_none _ (by omega) n1 w' hS')
  have HN2 := Lib.hid (fun w' hS' => number_any (Lib.cut (l.drop 2) [47]).2.1 (by omega) w' hS')
  have hx : (⟨l.toArray⟩ : ByteArray).extract 2 l.length = ⟨(l.drop 2).toArray⟩ := by rw [extract_list, List.take_of_length_le (by simp)]
  generalize (numP (Lib.cut (l.drop 2) [47]).2.1).isSome = o2 at *
  clear hS hk hP hb hcl hdl n1
  generalize Lib.cut (l.drop 2) [47] = X at *
  obtain ⟨X1, X2, X3⟩ := X
  go_enter Tryz.func20, Tryz.ntmps20
  go_wp2_with (first | (go_at_call 50; (refine (HI.out _ _ (HP.out.below (pa (pa pr))) (by simp; omega) (by first | (go_simp; done) | (go_simp; rfl))).mono ?_); rintro e w1 ⟨rfl, hB1⟩; have P1 : Blk w1 w.heap.size 9 #[.string ⟨l.toArray⟩] := (Blk.newAt rfl).alloc.past hB1; have R1 : Blk w1 (w.heap.size + 1) 23 #[.int .i64 0, .int .i64 0, .int .i64 0, .bool false] := (Blk.newAt (by simp)).past hB1; have p0 := P1.cellAt 0 rfl) | (go_at_call 53; (with_reducible refine (HC.out _ (HS.out.kept (pt (pa (pa pr)) hB1))).mono ?_); rintro e w2 ⟨rfl, hB2⟩) | (go_at_call 21; (with_reducible refine (HN2.out _ (HS.out.kept (pt (pt (pt (pa (pa pr)) hB1) hB2) hB3))).mono ?_); rintro e w4 ⟨⟨x2, rfl, _⟩, hB4⟩; have P4 := ((P1.past hB2).past hB3).past hB4; have R4 := ((R1.past hB2).past hB3).past hB4; have q0 := P4.cellAt 0 rfl; clear p0 P1 R1; have r0 := R4.cellAt 0 rfl; have r1 := R4.cellAt 1 rfl; have r2 := R4.cellAt 2 rfl; have r3 := R4.cellAt 3 rfl; have s0 := R4.frozen 0; have s1 := R4.frozen 1; have s2 := R4.frozen 2; have s3 := R4.frozen 3; have rl := R4.lt) | (go_at_call 21; (with_reducible refine (HN1.out _ (HS.out.kept (pt (pt (pa (pa pr)) hB1) hB2))).mono ?_); rintro e w3 ⟨⟨x1, rfl⟩, hB3⟩))
  exact bodyPost_ret (v := .tuple #[.agg #[.int .i64 kd, .int .i64 x2, .int .i64 x1, .bool true], .bool false]) (by simp [results, Tryz.results20, go_sem, r0, r1, r2, r3, rl]) rfl ⟨⟨_, _, _, _, rfl⟩, by repeat (first | exact (pt (pt (pt (pt (pa (pa pr)) hB1) hB2) hB3) hB4) | refine pa ?_ | refine ps ?_ (by first | (simp; done) | (simp; omega)) | refine pd ?_)⟩

set_option maxHeartbeats 4000000 in
set_option maxRecDepth 100000 in
theorem winding_none2minus (l : List UInt8) (hl : l.length ≤ 1000) (kd : Int) (hk : patR l = kd) (h0 : 0 ≤ kd) (h2 : 2 ≤ l.length) (hb : byteL l 1 = 45) (sh : Int) (n1 : numP (Lib.cut (l.drop 2) [47]).1 = some sh) (n2 : numP (Lib.cut (l.drop 2) [47]).2.1 = none) (w : World) (hS : StrIn w) (hP : PatIn w) :
    Calls Tryz.prog 20 #[.string ⟨l.toArray⟩] w fun e w' => windR none e ∧ Below w.heap.size w w' := by
  have HI := Lib.hid (fun w' b (hP' : PatIn w') hb hc => patIndex_any l b w' hP' hb hc)
  rw [hk] at HI
  have HP := Lib.hid hP
  have HS := Lib.hid hS
  have hbs := bsize l
  have h2' : ¬ (l.length : Int) < 2 := by omega
  have h0' : ¬ kd < 0 := by omega
  have hix := fun W => index_lit l 1 (by omega) 1 rfl W
  rw [hb] at hix
  have hsz : (2 : Int) ≤ (l.length : Int) := by omega
  have hcl := cut_lens (l.drop 2)
  have hdl : (l.drop 2).length ≤ 1000 := by rw [List.length_drop]; omega
  have HC := Lib.hid (fun w' hS' => cutS_any (l.drop 2) hdl w' hS')
  have HN1 := Lib.hid (fun w' hS' => number_some _ (by omega) sh n1 w' hS')
  have HN2 := Lib.hid (fun w' hS' => number_none _ (by omega) n2 w' hS')
  have hx : (⟨l.toArray⟩ : ByteArray).extract 2 l.length = ⟨(l.drop 2).toArray⟩ := by rw [extract_list, List.take_of_length_le (by simp)]
  clear hS hk hP hb hcl hdl n1 n2
  generalize Lib.cut (l.drop 2) [47] = X at *
  obtain ⟨X1, X2, X3⟩ := X
  go_enter Tryz.func20, Tryz.ntmps20
  go_wp2_with (first | (go_at_call 50; (refine (HI.out _ _ (HP.out.below (pa (pa pr))) (by simp; omega) (by first | (go_simp; done) | (go_simp; rfl))).mono ?_); rintro e w1 ⟨rfl, hB1⟩; have P1 : Blk w1 w.heap.size 9 #[.string ⟨l.toArray⟩] := (Blk.newAt rfl).alloc.past hB1; have R1 : Blk w1 (w.heap.size + 1) 23 #[.int .i64 0, .int .i64 0, .int .i64 0, .bool false] := (Blk.newAt (by simp)).past hB1; have p0 := P1.cellAt 0 rfl) | (go_at_call 53; (with_reducible refine (HC.out _ (HS.out.kept (pt (pa (pa pr)) hB1))).mono ?_); rintro e w2 ⟨rfl, hB2⟩) | (go_at_call 21; (with_reducible refine (HN2.out _ (HS.out.kept (pt (pt (pt (pa (pa pr)) hB1) hB2) hB3))).mono ?_); rintro e w4 ⟨⟨x2, rfl⟩, hB4⟩; have P4 := ((P1.past hB2).past hB3).past hB4; have R4 := ((R1.past hB2).past hB3).past hB4; have q0 := P4.cellAt 0 rfl; clear p0 P1 R1; have r0 := R4.cellAt 0 rfl; have r1 := R4.cellAt 1 rfl; have r2 := R4.cellAt 2 rfl; have r3 := R4.cellAt 3 rfl; have s0 := R4.frozen 0; have s1 := R4.frozen 1; have s2 := R4.frozen 2; have s3 := R4.frozen 3; have rl := R4.lt) | (go_at_call 21; (with_reducible refine (HN1.out _ (HS.out.kept (pt (pt (pa (pa pr)) hB1) hB2))).mono ?_); rintro e w3 ⟨rfl, hB3⟩))
  exact bodyPost_ret (v := .tuple #[.agg #[.int .i64 kd, .int .i64 x2, .int .i64 sh, .bool true], .bool false]) (by simp [results, Tryz.results20, go_sem, r0, r1, r2, r3, rl]) rfl ⟨⟨_, _, _, _, rfl⟩, by repeat (first | exact (pt (pt (pt (pt (pa (pa pr)) hB1) hB2) hB3) hB4) | refine pa ?_ | refine ps ?_ (by first | (simp; done) | (simp; omega)) | refine pd ?_)⟩

set_option maxHeartbeats 4000000 in
set_option maxRecDepth 100000 in
theorem winding_someminus (l : List UInt8) (hl : l.length ≤ 1000) (kd : Int) (hk : patR l = kd) (h0 : 0 ≤ kd) (h2 : 2 ≤ l.length) (hb : byteL l 1 = 45) (sh : Int) (n1 : numP (Lib.cut (l.drop 2) [47]).1 = some sh) (tn : Int) (n2 : numP (Lib.cut (l.drop 2) [47]).2.1 = some tn) (w : World) (hS : StrIn w) (hP : PatIn w) :
    Calls Tryz.prog 20 #[.string ⟨l.toArray⟩] w fun e w' => windR (some ⟨kd, tn, sh, true⟩) e ∧ Below w.heap.size w w' := by
  have HI := Lib.hid (fun w' b (hP' : PatIn w') hb hc => patIndex_any l b w' hP' hb hc)
  rw [hk] at HI
  have HP := Lib.hid hP
  have HS := Lib.hid hS
  have hbs := bsize l
  have h2' : ¬ (l.length : Int) < 2 := by omega
  have h0' : ¬ kd < 0 := by omega
  have hix := fun W => index_lit l 1 (by omega) 1 rfl W
  rw [hb] at hix
  have hsz : (2 : Int) ≤ (l.length : Int) := by omega
  have hcl := cut_lens (l.drop 2)
  have hdl : (l.drop 2).length ≤ 1000 := by rw [List.length_drop]; omega
  have HC := Lib.hid (fun w' hS' => cutS_any (l.drop 2) hdl w' hS')
  have HN1 := Lib.hid (fun w' hS' => number_some _ (by omega) sh n1 w' hS')
  have HN2 := Lib.hid (fun w' hS' => number_some _ (by omega) tn n2 w' hS')
  have hx : (⟨l.toArray⟩ : ByteArray).extract 2 l.length = ⟨(l.drop 2).toArray⟩ := by rw [extract_list, List.take_of_length_le (by simp)]
  clear hS hk hP hb hcl hdl n1 n2
  generalize Lib.cut (l.drop 2) [47] = X at *
  obtain ⟨X1, X2, X3⟩ := X
  go_enter Tryz.func20, Tryz.ntmps20
  go_wp2_with (first | (go_at_call 50; (refine (HI.out _ _ (HP.out.below (pa (pa pr))) (by simp; omega) (by first | (go_simp; done) | (go_simp; rfl))).mono ?_); rintro e w1 ⟨rfl, hB1⟩; have P1 : Blk w1 w.heap.size 9 #[.string ⟨l.toArray⟩] := (Blk.newAt rfl).alloc.past hB1; have R1 : Blk w1 (w.heap.size + 1) 23 #[.int .i64 0, .int .i64 0, .int .i64 0, .bool false] := (Blk.newAt (by simp)).past hB1; have p0 := P1.cellAt 0 rfl) | (go_at_call 53; (with_reducible refine (HC.out _ (HS.out.kept (pt (pa (pa pr)) hB1))).mono ?_); rintro e w2 ⟨rfl, hB2⟩) | (go_at_call 21; (with_reducible refine (HN2.out _ (HS.out.kept (pt (pt (pt (pa (pa pr)) hB1) hB2) hB3))).mono ?_); rintro e w4 ⟨rfl, hB4⟩; have P4 := ((P1.past hB2).past hB3).past hB4; have R4 := ((R1.past hB2).past hB3).past hB4; have q0 := P4.cellAt 0 rfl; clear p0 P1 R1; have r0 := R4.cellAt 0 rfl; have r1 := R4.cellAt 1 rfl; have r2 := R4.cellAt 2 rfl; have r3 := R4.cellAt 3 rfl; have s0 := R4.frozen 0; have s1 := R4.frozen 1; have s2 := R4.frozen 2; have s3 := R4.frozen 3; have rl := R4.lt) | (go_at_call 21; (with_reducible refine (HN1.out _ (HS.out.kept (pt (pt (pa (pa pr)) hB1) hB2))).mono ?_); rintro e w3 ⟨rfl, hB3⟩))
  exact bodyPost_ret (v := .tuple #[.agg #[.int .i64 kd, .int .i64 tn, .int .i64 sh, .bool true], .bool true]) (by simp [results, Tryz.results20, go_sem, r0, r1, r2, r3, rl]) rfl ⟨rfl, by repeat (first | exact (pt (pt (pt (pt (pa (pa pr)) hB1) hB2) hB3) hB4) | refine pa ?_ | refine ps ?_ (by first | (simp; done) | (simp; omega)) | refine pd ?_)⟩

end Go.Proofs.YtccpkheiokjcdaaGreatDoor
