/- Contract: the winding of a string.
Contract: the winding of any string, joined from its leaves.
Contract of the specification's Cut: a new slice of the pieces of a string. Strings of at most 1000 bytes. -/
import Derived.Test.YtpdkbhjcpddnpaaGreatDoorNG
import Derived.Deep.DrawnRows
import Derived.Test.YtpdkbhjcpddnpaaGreatDoorNa2

section
namespace Go.Proofs.YtpdkbhjcpddnpaaGreatDoor
open Go.RowKit
attribute [local go_sem ↓] Go.wp_at_zero Go.wp_at_succ

theorem cut_lens (r : List UInt8) : (Lib.cut r [47]).1.length ≤ r.length ∧ (Lib.cut r [47]).2.1.length ≤ r.length := by
  by_cases h : 47 ∈ r
  · obtain ⟨a, b, rfl, ha⟩ := first_at h
    rw [cut_app ha]
    simp
    omega
  · rw [cut_none h]
    simp
theorem cutS_any (r : List UInt8) (hl : r.length ≤ 1000) (w : World) (h : StrIn w) : Calls Tryz.prog 114 #[.string ⟨r.toArray⟩, .string ⟨#[47]⟩] w fun e w' => e = .returned (.tuple #[.string ⟨(Lib.cut r [47]).1.toArray⟩, .string ⟨(Lib.cut r [47]).2.1.toArray⟩, .bool (Lib.cut r [47]).2.2]) ∧ Below w.heap.size w w' := by
  obtain ⟨m, hm⟩ := h.max
  refine (Tryz.strings_Cut ⟨r.toArray⟩ ⟨#[47]⟩ m w (by rw [bsize]; omega) hm).mono ?_
  rintro e w' ⟨rfl, n, rfl⟩
  exact ⟨rfl, rfl, rfl, rfl, Nat.le_refl _, fun _ _ => rfl⟩
theorem number_none (l : List UInt8) (hl : l.length ≤ 1000) (h : numP l = none) (w : World) (hS : StrIn w) : Calls Tryz.prog 70 #[.string ⟨l.toArray⟩] w fun e w' => (∃ x : Int, e = .returned (.tuple #[.int .i64 x, .bool false])) ∧ Below w.heap.size w w' :=
  (number_any l hl w hS).mono fun e w' ⟨⟨x, h1, _⟩, h2⟩ => ⟨⟨x, by rw [h1, h]; rfl⟩, h2⟩
theorem number_some (l : List UInt8) (hl : l.length ≤ 1000) (k : Int) (h : numP l = some k) (w : World) (hS : StrIn w) : Calls Tryz.prog 70 #[.string ⟨l.toArray⟩] w fun e w' => e = .returned (.tuple #[.int .i64 k, .bool true]) ∧ Below w.heap.size w w' :=
  (number_any l hl w hS).mono fun e w' ⟨⟨x, h1, h3⟩, h2⟩ => ⟨by rw [h1, h, h3 k h]; rfl, h2⟩

/-- What a winding of a string is, in the call's words. -/
def windR (V : Option Wind) (e : Ending) : Prop := match V with
  | none => ∃ k t s r, e = .returned (.tuple #[.agg #[.int .i64 k, .int .i64 t, .int .i64 s, .bool r], .bool false])
  | some x => e = .returned (.tuple #[.agg #[.int .i64 x.kind, .int .i64 x.turns, .int .i64 x.shift, .bool x.rev], .bool true])

set_option maxHeartbeats 4000000 in
set_option maxRecDepth 100000 in
theorem winding_no (l : List UInt8) (_hl : l.length ≤ 1000) (hk : patR l = -1) (w : World) (hS : StrIn w) (hP : PatIn w) :
    Calls Tryz.prog 69 #[.string ⟨l.toArray⟩] w fun e w' => windR none e ∧ Below w.heap.size w w' := by
  have HI := Lib.hid (fun w' b (hP' : PatIn w') hb hc => patIndex_any l b w' hP' hb hc)
  rw [hk] at HI
  have HP := Lib.hid hP
  have HS := Lib.hid hS
  have hbs := bsize l
  clear hS hk hP
  go_enter Tryz.func69, Tryz.ntmps69
  go_wp2_with (go_at_call 111; (refine (HI.out _ _ (HP.out.below (pa (pa pr))) (by simp; omega) (by first | (go_simp; done) | (go_simp; rfl))).mono ?_); rintro e w1 ⟨rfl, hB1⟩; have P1 : Blk w1 w.heap.size 9 #[.string ⟨l.toArray⟩] := (Blk.newAt rfl).alloc.past hB1; have R1 : Blk w1 (w.heap.size + 1) 45 #[.int .i64 0, .int .i64 0, .int .i64 0, .bool false] := (Blk.newAt (by simp)).past hB1; have p0 := P1.cellAt 0 rfl; have r0 := R1.cellAt 0 rfl; have r1 := R1.cellAt 1 rfl; have r2 := R1.cellAt 2 rfl; have r3 := R1.cellAt 3 rfl; have s0 := R1.frozen 0; have s1 := R1.frozen 1; have s2 := R1.frozen 2; have s3 := R1.frozen 3; have rl := R1.lt)
  exact bodyPost_ret (v := .tuple #[.agg #[.int .i64 0, .int .i64 0, .int .i64 0, .bool false], .bool false]) (by simp [results, Tryz.results69, go_sem, r0, r1, r2, r3]) rfl ⟨⟨_, _, _, _, rfl⟩, by repeat (first | exact (pt (pa (pa pr)) hB1) | refine pa ?_ | refine ps ?_ (by first | (simp; done) | (simp; omega)) | refine pd ?_)⟩

set_option maxHeartbeats 4000000 in
set_option maxRecDepth 100000 in
theorem winding_short (l : List UInt8) (hl : l.length ≤ 1000) (kd : Int) (hk : patR l = kd) (h0 : 0 ≤ kd) (h2 : l.length < 2) (w : World) (hS : StrIn w) (hP : PatIn w) :
    Calls Tryz.prog 69 #[.string ⟨l.toArray⟩] w fun e w' => windR none e ∧ Below w.heap.size w w' := by
  have HI := Lib.hid (fun w' b (hP' : PatIn w') hb hc => patIndex_any l b w' hP' hb hc)
  rw [hk] at HI
  have HP := Lib.hid hP
  have HS := Lib.hid hS
  have hbs := bsize l
  have h2' : (l.length : Int) < 2 := by omega
  have h0' : ¬ kd < 0 := by omega
  clear hS hk hP
  go_enter Tryz.func69, Tryz.ntmps69
  go_wp2_with (go_at_call 111; (refine (HI.out _ _ (HP.out.below (pa (pa pr))) (by simp; omega) (by first | (go_simp; done) | (go_simp; rfl))).mono ?_); rintro e w1 ⟨rfl, hB1⟩; have P1 : Blk w1 w.heap.size 9 #[.string ⟨l.toArray⟩] := (Blk.newAt rfl).alloc.past hB1; have R1 : Blk w1 (w.heap.size + 1) 45 #[.int .i64 0, .int .i64 0, .int .i64 0, .bool false] := (Blk.newAt (by simp)).past hB1; have p0 := P1.cellAt 0 rfl; have r0 := R1.cellAt 0 rfl; have r1 := R1.cellAt 1 rfl; have r2 := R1.cellAt 2 rfl; have r3 := R1.cellAt 3 rfl; have s0 := R1.frozen 0; have s1 := R1.frozen 1; have s2 := R1.frozen 2; have s3 := R1.frozen 3; have rl := R1.lt)
  exact bodyPost_ret (v := .tuple #[.agg #[.int .i64 0, .int .i64 0, .int .i64 0, .bool false], .bool false]) (by simp [results, Tryz.results69, go_sem, r0, r1, r2, r3]) rfl ⟨⟨_, _, _, _, rfl⟩, by repeat (first | exact (pt (pa (pa pr)) hB1) | refine pa ?_ | refine ps ?_ (by first | (simp; done) | (simp; omega)) | refine pd ?_)⟩

set_option maxHeartbeats 4000000 in
set_option maxRecDepth 100000 in
theorem winding_sign (l : List UInt8) (hl : l.length ≤ 1000) (kd : Int) (hk : patR l = kd) (h0 : 0 ≤ kd) (h2 : 2 ≤ l.length) (hb1 : byteL l 1 ≠ 43) (hb2 : byteL l 1 ≠ 45) (w : World) (hS : StrIn w) (hP : PatIn w) :
    Calls Tryz.prog 69 #[.string ⟨l.toArray⟩] w fun e w' => windR none e ∧ Below w.heap.size w w' := by
  have HI := Lib.hid (fun w' b (hP' : PatIn w') hb hc => patIndex_any l b w' hP' hb hc)
  rw [hk] at HI
  have HP := Lib.hid hP
  have HS := Lib.hid hS
  have hbs := bsize l
  have h2' : ¬ (l.length : Int) < 2 := by omega
  have h0' : ¬ kd < 0 := by omega
  have hix := fun W => index_lit l 1 (by omega) 1 rfl W
  have b1 : (byteL l 1 != 43) = true := by simpa using hb1
  have b2 : (byteL l 1 != 45) = true := by simpa using hb2
  generalize byteL l 1 = B at *
  clear hS hk hP hb1 hb2
  go_enter Tryz.func69, Tryz.ntmps69
  go_wp2_with (go_at_call 111; (refine (HI.out _ _ (HP.out.below (pa (pa pr))) (by simp; omega) (by first | (go_simp; done) | (go_simp; rfl))).mono ?_); rintro e w1 ⟨rfl, hB1⟩; have P1 : Blk w1 w.heap.size 9 #[.string ⟨l.toArray⟩] := (Blk.newAt rfl).alloc.past hB1; have R1 : Blk w1 (w.heap.size + 1) 45 #[.int .i64 0, .int .i64 0, .int .i64 0, .bool false] := (Blk.newAt (by simp)).past hB1; have p0 := P1.cellAt 0 rfl; have r0 := R1.cellAt 0 rfl; have r1 := R1.cellAt 1 rfl; have r2 := R1.cellAt 2 rfl; have r3 := R1.cellAt 3 rfl; have s0 := R1.frozen 0; have s1 := R1.frozen 1; have s2 := R1.frozen 2; have s3 := R1.frozen 3; have rl := R1.lt)
  exact bodyPost_ret (v := .tuple #[.agg #[.int .i64 0, .int .i64 0, .int .i64 0, .bool false], .bool false]) (by simp [results, Tryz.results69, go_sem, r0, r1, r2, r3]) rfl ⟨⟨_, _, _, _, rfl⟩, by repeat (first | exact (pt (pa (pa pr)) hB1) | refine pa ?_ | refine ps ?_ (by first | (simp; done) | (simp; omega)) | refine pd ?_)⟩

set_option maxHeartbeats 4000000 in
set_option maxRecDepth 100000 in
theorem winding_none1plus (l : List UInt8) (hl : l.length ≤ 1000) (kd : Int) (hk : patR l = kd) (h0 : 0 ≤ kd) (h2 : 2 ≤ l.length) (hb : byteL l 1 = 43) (n1 : numP (Lib.cut (l.drop 2) [47]).1 = none) (w : World) (hS : StrIn w) (hP : PatIn w) :
    Calls Tryz.prog 69 #[.string ⟨l.toArray⟩] w fun e w' => windR none e ∧ Below w.heap.size w w' := by
  have HI := Lib.hid (fun w' b (hP' : PatIn w') hb hc => patIndex_any l b w' hP' hb hc)
  rw [hk] at HI
  have HP := Lib.hid hP
  have HS := Lib.hid hS
  have hbs := bsize l
  have h2' : ¬ (l.length : Int) < 2 := by omega
  have h0' : ¬ kd < 0 := by omega
  have hix := fun W => index_lit l 1 (by omega) 1 rfl W
  rw [hb] at hix
  have hsz : (2 : Int) ≤ (l.length : Int) := by omega
  have hcl := cut_lens (l.drop 2)
  have hdl : (l.drop 2).length ≤ 1000 := by rw [List.length_drop]; omega
  have HC := Lib.hid (fun w' hS' => cutS_any (l.drop 2) hdl w' hS')
  have HN1 := Lib.hid (fun w' hS' => number_none _ (by omega) n1 w' hS')
  have HN2 := Lib.hid (fun w' hS' => number_any (Lib.cut (l.drop 2) [47]).2.1 (by omega) w' hS')
  have hx : (⟨l.toArray⟩ : ByteArray).extract 2 l.length = ⟨(l.drop 2).toArray⟩ := by rw [extract_list, List.take_of_length_le (by simp)]
  generalize (numP (Lib.cut (l.drop 2) [47]).2.1).isSome = o2 at *
  clear hS hk hP hb hcl hdl n1
  generalize Lib.cut (l.drop 2) [47] = X at *
  obtain ⟨X1, X2, X3⟩ := X
  go_enter Tryz.func69, Tryz.ntmps69
  go_wp2_with (first | (go_at_call 111; (refine (HI.out _ _ (HP.out.below (pa (pa pr))) (by simp; omega) (by first | (go_simp; done) | (go_simp; rfl))).mono ?_); rintro e w1 ⟨rfl, hB1⟩; have P1 : Blk w1 w.heap.size 9 #[.string ⟨l.toArray⟩] := (Blk.newAt rfl).alloc.past hB1; have R1 : Blk w1 (w.heap.size + 1) 45 #[.int .i64 0, .int .i64 0, .int .i64 0, .bool false] := (Blk.newAt (by simp)).past hB1; have p0 := P1.cellAt 0 rfl) | (go_at_call 114; (with_reducible refine (HC.out _ (HS.out.kept (pt (pa (pa pr)) hB1))).mono ?_); rintro e w2 ⟨rfl, hB2⟩) | (go_at_call 70; (with_reducible refine (HN2.out _ (HS.out.kept (pt (pt (pt (pa (pa pr)) hB1) hB2) hB3))).mono ?_); rintro e w4 ⟨⟨x2, rfl, _⟩, hB4⟩; have P4 := ((P1.past hB2).past hB3).past hB4; have R4 := ((R1.past hB2).past hB3).past hB4; have q0 := P4.cellAt 0 rfl; clear p0 P1 R1; have r0 := R4.cellAt 0 rfl; have r1 := R4.cellAt 1 rfl; have r2 := R4.cellAt 2 rfl; have r3 := R4.cellAt 3 rfl; have s0 := R4.frozen 0; have s1 := R4.frozen 1; have s2 := R4.frozen 2; have s3 := R4.frozen 3; have rl := R4.lt) | (go_at_call 70; (with_reducible refine (HN1.out _ (HS.out.kept (pt (pt (pa (pa pr)) hB1) hB2))).mono ?_); rintro e w3 ⟨⟨x1, rfl⟩, hB3⟩))
  exact bodyPost_ret (v := .tuple #[.agg #[.int .i64 kd, .int .i64 x2, .int .i64 x1, .bool false], .bool false]) (by simp [results, Tryz.results69, go_sem, r0, r1, r2, r3]) rfl ⟨⟨_, _, _, _, rfl⟩, by repeat (first | exact (pt (pt (pt (pt (pa (pa pr)) hB1) hB2) hB3) hB4) | refine pa ?_ | refine ps ?_ (by first | (simp; done) | (simp; omega)) | refine pd ?_)⟩

set_option maxHeartbeats 4000000 in
set_option maxRecDepth 100000 in
theorem winding_none2plus (l : List UInt8) (hl : l.length ≤ 1000) (kd : Int) (hk : patR l = kd) (h0 : 0 ≤ kd) (h2 : 2 ≤ l.length) (hb : byteL l 1 = 43) (sh : Int) (n1 : numP (Lib.cut (l.drop 2) [47]).1 = some sh) (n2 : numP (Lib.cut (l.drop 2) [47]).2.1 = none) (w : World) (hS : StrIn w) (hP : PatIn w) :
    Calls Tryz.prog 69 #[.string ⟨l.toArray⟩] w fun e w' => windR none e ∧ Below w.heap.size w w' := by
  have HI := Lib.hid (fun w' b (hP' : PatIn w') hb hc => patIndex_any l b w' hP' hb hc)
  rw [hk] at HI
  have HP := Lib.hid hP
  have HS := Lib.hid hS
  have hbs := bsize l
  have h2' : ¬ (l.length : Int) < 2 := by omega
  have h0' : ¬ kd < 0 := by omega
  have hix := fun W => index_lit l 1 (by omega) 1 rfl W
  rw [hb] at hix
  have hsz : (2 : Int) ≤ (l.length : Int) := by omega
  have hcl := cut_lens (l.drop 2)
  have hdl : (l.drop 2).length ≤ 1000 := by rw [List.length_drop]; omega
  have HC := Lib.hid (fun w' hS' => cutS_any (l.drop 2) hdl w' hS')
  have HN1 := Lib.hid (fun w' hS' => number_some _ (by omega) sh n1 w' hS')
  have HN2 := Lib.hid (fun w' hS' => number_none _ (by omega) n2 w' hS')
  have hx : (⟨l.toArray⟩ : ByteArray).extract 2 l.length = ⟨(l.drop 2).toArray⟩ := by rw [extract_list, List.take_of_length_le (by simp)]
  clear hS hk hP hb hcl hdl n1 n2
  generalize Lib.cut (l.drop 2) [47] = X at *
  obtain ⟨X1, X2, X3⟩ := X
  go_enter Tryz.func69, Tryz.ntmps69
  go_wp2_with (first | (go_at_call 111; (refine (HI.out _ _ (HP.out.below (pa (pa pr))) (by simp; omega) (by first | (go_simp; done) | (go_simp; rfl))).mono ?_); rintro e w1 ⟨rfl, hB1⟩; have P1 : Blk w1 w.heap.size 9 #[.string ⟨l.toArray⟩] := (Blk.newAt rfl).alloc.past hB1; have R1 : Blk w1 (w.heap.size + 1) 45 #[.int .i64 0, .int .i64 0, .int .i64 0, .bool false] := (Blk.newAt (by simp)).past hB1; have p0 := P1.cellAt 0 rfl) | (go_at_call 114; (with_reducible refine (HC.out _ (HS.out.kept (pt (pa (pa pr)) hB1))).mono ?_); rintro e w2 ⟨rfl, hB2⟩) | (go_at_call 70; (with_reducible refine (HN2.out _ (HS.out.kept (pt (pt (pt (pa (pa pr)) hB1) hB2) hB3))).mono ?_); rintro e w4 ⟨⟨x2, rfl⟩, hB4⟩; have P4 := ((P1.past hB2).past hB3).past hB4; have R4 := ((R1.past hB2).past hB3).past hB4; have q0 := P4.cellAt 0 rfl; clear p0 P1 R1; have r0 := R4.cellAt 0 rfl; have r1 := R4.cellAt 1 rfl; have r2 := R4.cellAt 2 rfl; have r3 := R4.cellAt 3 rfl; have s0 := R4.frozen 0; have s1 := R4.frozen 1; have s2 := R4.frozen 2; have s3 := R4.frozen 3; have rl := R4.lt) | (go_at_call 70; (with_reducible refine (HN1.out _ (HS.out.kept (pt (pt (pa (pa pr)) hB1) hB2))).mono ?_); rintro e w3 ⟨rfl, hB3⟩))
  exact bodyPost_ret (v := .tuple #[.agg #[.int .i64 kd, .int .i64 x2, .int .i64 sh, .bool false], .bool false]) (by simp [results, Tryz.results69, go_sem, r0, r1, r2, r3]) rfl ⟨⟨_, _, _, _, rfl⟩, by repeat (first | exact (pt (pt (pt (pt (pa (pa pr)) hB1) hB2) hB3) hB4) | refine pa ?_ | refine ps ?_ (by first | (simp; done) | (simp; omega)) | refine pd ?_)⟩

set_option maxHeartbeats 4000000 in
set_option maxRecDepth 100000 in
theorem winding_someplus (l : List UInt8) (hl : l.length ≤ 1000) (kd : Int) (hk : patR l = kd) (h0 : 0 ≤ kd) (h2 : 2 ≤ l.length) (hb : byteL l 1 = 43) (sh : Int) (n1 : numP (Lib.cut (l.drop 2) [47]).1 = some sh) (tn : Int) (n2 : numP (Lib.cut (l.drop 2) [47]).2.1 = some tn) (w : World) (hS : StrIn w) (hP : PatIn w) :
    Calls Tryz.prog 69 #[.string ⟨l.toArray⟩] w fun e w' => windR (some ⟨kd, tn, sh, false⟩) e ∧ Below w.heap.size w w' := by
  have HI := Lib.hid (fun w' b (hP' : PatIn w') hb hc => patIndex_any l b w' hP' hb hc)
  rw [hk] at HI
  have HP := Lib.hid hP
  have HS := Lib.hid hS
  have hbs := bsize l
  have h2' : ¬ (l.length : Int) < 2 := by omega
  have h0' : ¬ kd < 0 := by omega
  have hix := fun W => index_lit l 1 (by omega) 1 rfl W
  rw [hb] at hix
  have hsz : (2 : Int) ≤ (l.length : Int) := by omega
  have hcl := cut_lens (l.drop 2)
  have hdl : (l.drop 2).length ≤ 1000 := by rw [List.length_drop]; omega
  have HC := Lib.hid (fun w' hS' => cutS_any (l.drop 2) hdl w' hS')
  have HN1 := Lib.hid (fun w' hS' => number_some _ (by omega) sh n1 w' hS')
  have HN2 := Lib.hid (fun w' hS' => number_some _ (by omega) tn n2 w' hS')
  have hx : (⟨l.toArray⟩ : ByteArray).extract 2 l.length = ⟨(l.drop 2).toArray⟩ := by rw [extract_list, List.take_of_length_le (by simp)]
  clear hS hk hP hb hcl hdl n1 n2
  generalize Lib.cut (l.drop 2) [47] = X at *
  obtain ⟨X1, X2, X3⟩ := X
  go_enter Tryz.func69, Tryz.ntmps69
  go_wp2_with (first | (go_at_call 111; (refine (HI.out _ _ (HP.out.below (pa (pa pr))) (by simp; omega) (by first | (go_simp; done) | (go_simp; rfl))).mono ?_); rintro e w1 ⟨rfl, hB1⟩; have P1 : Blk w1 w.heap.size 9 #[.string ⟨l.toArray⟩] := (Blk.newAt rfl).alloc.past hB1; have R1 : Blk w1 (w.heap.size + 1) 45 #[.int .i64 0, .int .i64 0, .int .i64 0, .bool false] := (Blk.newAt (by simp)).past hB1; have p0 := P1.cellAt 0 rfl) | (go_at_call 114; (with_reducible refine (HC.out _ (HS.out.kept (pt (pa (pa pr)) hB1))).mono ?_); rintro e w2 ⟨rfl, hB2⟩) | (go_at_call 70; (with_reducible refine (HN2.out _ (HS.out.kept (pt (pt (pt (pa (pa pr)) hB1) hB2) hB3))).mono ?_); rintro e w4 ⟨rfl, hB4⟩; have P4 := ((P1.past hB2).past hB3).past hB4; have R4 := ((R1.past hB2).past hB3).past hB4; have q0 := P4.cellAt 0 rfl; clear p0 P1 R1; have r0 := R4.cellAt 0 rfl; have r1 := R4.cellAt 1 rfl; have r2 := R4.cellAt 2 rfl; have r3 := R4.cellAt 3 rfl; have s0 := R4.frozen 0; have s1 := R4.frozen 1; have s2 := R4.frozen 2; have s3 := R4.frozen 3; have rl := R4.lt) | (go_at_call 70; (with_reducible refine (HN1.out _ (HS.out.kept (pt (pt (pa (pa pr)) hB1) hB2))).mono ?_); rintro e w3 ⟨rfl, hB3⟩))
  exact bodyPost_ret (v := .tuple #[.agg #[.int .i64 kd, .int .i64 tn, .int .i64 sh, .bool false], .bool true]) (by simp [results, Tryz.results69, go_sem, r0, r1, r2, r3]) rfl ⟨rfl, by repeat (first | exact (pt (pt (pt (pt (pa (pa pr)) hB1) hB2) hB3) hB4) | refine pa ?_ | refine ps ?_ (by first | (simp; done) | (simp; omega)) | refine pd ?_)⟩

set_option maxHeartbeats 4000000 in
set_option maxRecDepth 100000 in
theorem winding_none1minus (l : List UInt8) (hl : l.length ≤ 1000) (kd : Int) (hk : patR l = kd) (h0 : 0 ≤ kd) (h2 : 2 ≤ l.length) (hb : byteL l 1 = 45) (n1 : numP (Lib.cut (l.drop 2) [47]).1 = none) (w : World) (hS : StrIn w) (hP : PatIn w) :
    Calls Tryz.prog 69 #[.string ⟨l.toArray⟩] w fun e w' => windR none e ∧ Below w.heap.size w w' := by
  have HI := Lib.hid (fun w' b (hP' : PatIn w') hb hc => patIndex_any l b w' hP' hb hc)
  rw [hk] at HI
  have HP := Lib.hid hP
  have HS := Lib.hid hS
  have hbs := bsize l
  have h2' : ¬ (l.length : Int) < 2 := by omega
  have h0' : ¬ kd < 0 := by omega
  have hix := fun W => index_lit l 1 (by omega) 1 rfl W
  rw [hb] at hix
  have hsz : (2 : Int) ≤ (l.length : Int) := by omega
  have hcl := cut_lens (l.drop 2)
  have hdl : (l.drop 2).length ≤ 1000 := by rw [List.length_drop]; omega
  have HC := Lib.hid (fun w' hS' => cutS_any (l.drop 2) hdl w' hS')
  have HN1 := Lib.hid (fun w' hS' => number_none _ (by omega) n1 w' hS')
  have HN2 := Lib.hid (fun w' hS' => number_any (Lib.cut (l.drop 2) [47]).2.1 (by omega) w' hS')
  have hx : (⟨l.toArray⟩ : ByteArray).extract 2 l.length = ⟨(l.drop 2).toArray⟩ := by rw [extract_list, List.take_of_length_le (by simp)]
  generalize (numP (Lib.cut (l.drop 2) [47]).2.1).isSome = o2 at *
  clear hS hk hP hb hcl hdl n1
  generalize Lib.cut (l.drop 2) [47] = X at *
  obtain ⟨X1, X2, X3⟩ := X
  go_enter Tryz.func69, Tryz.ntmps69
  go_wp2_with (first | (go_at_call 111; (refine (HI.out _ _ (HP.out.below (pa (pa pr))) (by simp; omega) (by first | (go_simp; done) | (go_simp; rfl))).mono ?_); rintro e w1 ⟨rfl, hB1⟩; have P1 : Blk w1 w.heap.size 9 #[.string ⟨l.toArray⟩] := (Blk.newAt rfl).alloc.past hB1; have R1 : Blk w1 (w.heap.size + 1) 45 #[.int .i64 0, .int .i64 0, .int .i64 0, .bool false] := (Blk.newAt (by simp)).past hB1; have p0 := P1.cellAt 0 rfl) | (go_at_call 114; (with_reducible refine (HC.out _ (HS.out.kept (pt (pa (pa pr)) hB1))).mono ?_); rintro e w2 ⟨rfl, hB2⟩) | (go_at_call 70; (with_reducible refine (HN2.out _ (HS.out.kept (pt (pt (pt (pa (pa pr)) hB1) hB2) hB3))).mono ?_); rintro e w4 ⟨⟨x2, rfl, _⟩, hB4⟩; have P4 := ((P1.past hB2).past hB3).past hB4; have R4 := ((R1.past hB2).past hB3).past hB4; have q0 := P4.cellAt 0 rfl; clear p0 P1 R1; have r0 := R4.cellAt 0 rfl; have r1 := R4.cellAt 1 rfl; have r2 := R4.cellAt 2 rfl; have r3 := R4.cellAt 3 rfl; have s0 := R4.frozen 0; have s1 := R4.frozen 1; have s2 := R4.frozen 2; have s3 := R4.frozen 3; have rl := R4.lt) | (go_at_call 70; (with_reducible refine (HN1.out _ (HS.out.kept (pt (pt (pa (pa pr)) hB1) hB2))).mono ?_); rintro e w3 ⟨⟨x1, rfl⟩, hB3⟩))
  exact bodyPost_ret (v := .tuple #[.agg #[.int .i64 kd, .int .i64 x2, .int .i64 x1, .bool true], .bool false]) (by simp [results, Tryz.results69, go_sem, r0, r1, r2, r3]) rfl ⟨⟨_, _, _, _, rfl⟩, by repeat (first | exact (pt (pt (pt (pt (pa (pa pr)) hB1) hB2) hB3) hB4) | refine pa ?_ | refine ps ?_ (by first | (simp; done) | (simp; omega)) | refine pd ?_)⟩

set_option maxHeartbeats 4000000 in
set_option maxRecDepth 100000 in
theorem winding_none2minus (l : List UInt8) (hl : l.length ≤ 1000) (kd : Int) (hk : patR l = kd) (h0 : 0 ≤ kd) (h2 : 2 ≤ l.length) (hb : byteL l 1 = 45) (sh : Int) (n1 : numP (Lib.cut (l.drop 2) [47]).1 = some sh) (n2 : numP (Lib.cut (l.drop 2) [47]).2.1 = none) (w : World) (hS : StrIn w) (hP : PatIn w) :
    Calls Tryz.prog 69 #[.string ⟨l.toArray⟩] w fun e w' => windR none e ∧ Below w.heap.size w w' := by
  have HI := Lib.hid (fun w' b (hP' : PatIn w') hb hc => patIndex_any l b w' hP' hb hc)
  rw [hk] at HI
  have HP := Lib.hid hP
  have HS := Lib.hid hS
  have hbs := bsize l
  have h2' : ¬ (l.length : Int) < 2 := by omega
  have h0' : ¬ kd < 0 := by omega
  have hix := fun W => index_lit l 1 (by omega) 1 rfl W
  rw [hb] at hix
  have hsz : (2 : Int) ≤ (l.length : Int) := by omega
  have hcl := cut_lens (l.drop 2)
  have hdl : (l.drop 2).length ≤ 1000 := by rw [List.length_drop]; omega
  have HC := Lib.hid (fun w' hS' => cutS_any (l.drop 2) hdl w' hS')
  have HN1 := Lib.hid (fun w' hS' => number_some _ (by omega) sh n1 w' hS')
  have HN2 := Lib.hid (fun w' hS' => number_none _ (by omega) n2 w' hS')
  have hx : (⟨l.toArray⟩ : ByteArray).extract 2 l.length = ⟨(l.drop 2).toArray⟩ := by rw [extract_list, List.take_of_length_le (by simp)]
  clear hS hk hP hb hcl hdl n1 n2
  generalize Lib.cut (l.drop 2) [47] = X at *
  obtain ⟨X1, X2, X3⟩ := X
  go_enter Tryz.func69, Tryz.ntmps69
  go_wp2_with (first | (go_at_call 111; (refine (HI.out _ _ (HP.out.below (pa (pa pr))) (by simp; omega) (by first | (go_simp; done) | (go_simp; rfl))).mono ?_); rintro e w1 ⟨rfl, hB1⟩; have P1 : Blk w1 w.heap.size 9 #[.string ⟨l.toArray⟩] := (Blk.newAt rfl).alloc.past hB1; have R1 : Blk w1 (w.heap.size + 1) 45 #[.int .i64 0, .int .i64 0, .int .i64 0, .bool false] := (Blk.newAt (by simp)).past hB1; have p0 := P1.cellAt 0 rfl) | (go_at_call 114; (with_reducible refine (HC.out _ (HS.out.kept (pt (pa (pa pr)) hB1))).mono ?_); rintro e w2 ⟨rfl, hB2⟩) | (go_at_call 70; (with_reducible refine (HN2.out _ (HS.out.kept (pt (pt (pt (pa (pa pr)) hB1) hB2) hB3))).mono ?_); rintro e w4 ⟨⟨x2, rfl⟩, hB4⟩; have P4 := ((P1.past hB2).past hB3).past hB4; have R4 := ((R1.past hB2).past hB3).past hB4; have q0 := P4.cellAt 0 rfl; clear p0 P1 R1; have r0 := R4.cellAt 0 rfl; have r1 := R4.cellAt 1 rfl; have r2 := R4.cellAt 2 rfl; have r3 := R4.cellAt 3 rfl; have s0 := R4.frozen 0; have s1 := R4.frozen 1; have s2 := R4.frozen 2; have s3 := R4.frozen 3; have rl := R4.lt) | (go_at_call 70; (with_reducible refine (HN1.out _ (HS.out.kept (pt (pt (pa (pa pr)) hB1) hB2))).mono ?_); rintro e w3 ⟨rfl, hB3⟩))
  exact bodyPost_ret (v := .tuple #[.agg #[.int .i64 kd, .int .i64 x2, .int .i64 sh, .bool true], .bool false]) (by simp [results, Tryz.results69, go_sem, r0, r1, r2, r3]) rfl ⟨⟨_, _, _, _, rfl⟩, by repeat (first | exact (pt (pt (pt (pt (pa (pa pr)) hB1) hB2) hB3) hB4) | refine pa ?_ | refine ps ?_ (by first | (simp; done) | (simp; omega)) | refine pd ?_)⟩

set_option maxHeartbeats 4000000 in
set_option maxRecDepth 100000 in
theorem winding_someminus (l : List UInt8) (hl : l.length ≤ 1000) (kd : Int) (hk : patR l = kd) (h0 : 0 ≤ kd) (h2 : 2 ≤ l.length) (hb : byteL l 1 = 45) (sh : Int) (n1 : numP (Lib.cut (l.drop 2) [47]).1 = some sh) (tn : Int) (n2 : numP (Lib.cut (l.drop 2) [47]).2.1 = some tn) (w : World) (hS : StrIn w) (hP : PatIn w) :
    Calls Tryz.prog 69 #[.string ⟨l.toArray⟩] w fun e w' => windR (some ⟨kd, tn, sh, true⟩) e ∧ Below w.heap.size w w' := by
  have HI := Lib.hid (fun w' b (hP' : PatIn w') hb hc => patIndex_any l b w' hP' hb hc)
  rw [hk] at HI
  have HP := Lib.hid hP
  have HS := Lib.hid hS
  have hbs := bsize l
  have h2' : ¬ (l.length : Int) < 2 := by omega
  have h0' : ¬ kd < 0 := by omega
  have hix := fun W => index_lit l 1 (by omega) 1 rfl W
  rw [hb] at hix
  have hsz : (2 : Int) ≤ (l.length : Int) := by omega
  have hcl := cut_lens (l.drop 2)
  have hdl : (l.drop 2).length ≤ 1000 := by rw [List.length_drop]; omega
  have HC := Lib.hid (fun w' hS' => cutS_any (l.drop 2) hdl w' hS')
  have HN1 := Lib.hid (fun w' hS' => number_some _ (by omega) sh n1 w' hS')
  have HN2 := Lib.hid (fun w' hS' => number_some _ (by omega) tn n2 w' hS')
  have hx : (⟨l.toArray⟩ : ByteArray).extract 2 l.length = ⟨(l.drop 2).toArray⟩ := by rw [extract_list, List.take_of_length_le (by simp)]
  clear hS hk hP hb hcl hdl n1 n2
  generalize Lib.cut (l.drop 2) [47] = X at *
  obtain ⟨X1, X2, X3⟩ := X
  go_enter Tryz.func69, Tryz.ntmps69
  go_wp2_with (first | (go_at_call 111; (refine (HI.out _ _ (HP.out.below (pa (pa pr))) (by simp; omega) (by first | (go_simp; done) | (go_simp; rfl))).mono ?_); rintro e w1 ⟨rfl, hB1⟩; have P1 : Blk w1 w.heap.size 9 #[.string ⟨l.toArray⟩] := (Blk.newAt rfl).alloc.past hB1; have R1 : Blk w1 (w.heap.size + 1) 45 #[.int .i64 0, .int .i64 0, .int .i64 0, .bool false] := (Blk.newAt (by simp)).past hB1; have p0 := P1.cellAt 0 rfl) | (go_at_call 114; (with_reducible refine (HC.out _ (HS.out.kept (pt (pa (pa pr)) hB1))).mono ?_); rintro e w2 ⟨rfl, hB2⟩) | (go_at_call 70; (with_reducible refine (HN2.out _ (HS.out.kept (pt (pt (pt (pa (pa pr)) hB1) hB2) hB3))).mono ?_); rintro e w4 ⟨rfl, hB4⟩; have P4 := ((P1.past hB2).past hB3).past hB4; have R4 := ((R1.past hB2).past hB3).past hB4; have q0 := P4.cellAt 0 rfl; clear p0 P1 R1; have r0 := R4.cellAt 0 rfl; have r1 := R4.cellAt 1 rfl; have r2 := R4.cellAt 2 rfl; have r3 := R4.cellAt 3 rfl; have s0 := R4.frozen 0; have s1 := R4.frozen 1; have s2 := R4.frozen 2; have s3 := R4.frozen 3; have rl := R4.lt) | (go_at_call 70; (with_reducible refine (HN1.out _ (HS.out.kept (pt (pt (pa (pa pr)) hB1) hB2))).mono ?_); rintro e w3 ⟨rfl, hB3⟩))
  exact bodyPost_ret (v := .tuple #[.agg #[.int .i64 kd, .int .i64 tn, .int .i64 sh, .bool true], .bool true]) (by simp [results, Tryz.results69, go_sem, r0, r1, r2, r3]) rfl ⟨rfl, by repeat (first | exact (pt (pt (pt (pt (pa (pa pr)) hB1) hB2) hB3) hB4) | refine pa ?_ | refine ps ?_ (by first | (simp; done) | (simp; omega)) | refine pd ?_)⟩

end Go.Proofs.YtpdkbhjcpddnpaaGreatDoor
end

section
namespace Go.Proofs.YtpdkbhjcpddnpaaGreatDoor
open Go.RowKit

theorem patR_cons (a : UInt8) (r : List UInt8) : (patR (a :: r) = -1 ∧ kindOf a = none) ∨ (∃ k, patR (a :: r) = k ∧ 0 ≤ k ∧ k ≤ 2 ∧ kindOf a = some k) := by
  unfold patR kindOf
  rw [List.head?_cons]
  by_cases h1 : a = 121
  · exact .inr ⟨0, by rw [h1]; rfl, by decide, by decide, by rw [if_pos h1]⟩
  · by_cases h2 : a = 100
    · exact .inr ⟨1, by rw [h2]; rfl, by decide, by decide, by rw [if_neg h1, if_pos h2]⟩
    · by_cases h3 : a = 122
      · exact .inr ⟨2, by rw [h3]; rfl, by decide, by decide, by rw [if_neg h1, if_neg h2, if_pos h3]⟩
      · exact .inl ⟨by rw [if_neg (by simpa using h1), if_neg (by simpa using h2), if_neg (by simpa using h3)], by rw [if_neg h1, if_neg h2, if_neg h3]⟩
theorem byte_one (a b : UInt8) (r : List UInt8) {c : Nat} (hc : c < 256) : byteL (a :: b :: r) 1 = (c : Int) ↔ b = UInt8.ofNat c := by
  have h := drop_head (l := a :: b :: r) (k := 1) (by simp) (c := c) hc
  rw [← h]
  simp
theorem parse_two (a b : UInt8) (r : List UInt8) : parseW (a :: b :: r) = if b = 43 ∨ b = 45 then (kindOf a).bind fun kd => (restW r).map fun x => ⟨kd, x.2, x.1, b == 45⟩ else none := rfl
theorem parse_kind_none {l : List UInt8} (h : patR l = -1) : parseW l = none := by
  rcases l with _ | ⟨a, _ | ⟨b, r⟩⟩
  · rfl
  · rfl
  · rcases patR_cons a (b :: r) with ⟨_, h2⟩ | ⟨k, h2, h3, _⟩
    · rw [parse_two, h2]; split <;> rfl
    · omega
theorem parse_sign_none {a b : UInt8} {r : List UInt8} (h1 : b ≠ 43) (h2 : b ≠ 45) : parseW (a :: b :: r) = none := by
  rw [parse_two, if_neg (fun h => by rcases h with h | h; exact h1 h; exact h2 h)]
theorem parse_rest {a b : UInt8} {r : List UInt8} {k : Int} (hk : kindOf a = some k) (hb : b = 43 ∨ b = 45) : parseW (a :: b :: r) = (twoV (Lib.cut r [47]).1 (Lib.cut r [47]).2.1).map fun x => ⟨k, x.2, x.1, b == 45⟩ := by
  rw [parse_two, if_pos hb, hk, restW_cut]
  rfl

theorem winding_any (l : List UInt8) (hl : l.length ≤ 1000) (w : World) (hS : StrIn w) (hP : PatIn w) :
    Calls Tryz.prog 69 #[.string ⟨l.toArray⟩] w fun e w' => windR (parseW l) e ∧ Below w.heap.size w w' := by
  rcases l with _ | ⟨a, r⟩
  · rw [show parseW [] = none from rfl]
    exact winding_no [] hl rfl w hS hP
  · rcases patR_cons a r with ⟨h1, h2⟩ | ⟨k, h1, h2, h3, h4⟩
    · rw [parse_kind_none h1]
      exact winding_no _ hl h1 w hS hP
    · rcases r with _ | ⟨b, r⟩
      · rw [show parseW [a] = none from rfl]
        exact winding_short _ hl k h1 h2 (by simp) w hS hP
      · by_cases c1 : b = 43
        · rw [parse_rest h4 (.inl c1)]
          have hb : byteL (a :: b :: r) 1 = 43 := (byte_one a b r (c := 43) (by decide)).2 c1
          have he : (b == 45) = false := by rw [c1]; rfl
          unfold twoV
          cases n1 : numP (Lib.cut r [47]).1 with
          | none => exact winding_none1plus _ hl k h1 h2 (by simp) hb n1 w hS hP
          | some sh =>
            cases n2 : numP (Lib.cut r [47]).2.1 with
            | none => exact winding_none2plus _ hl k h1 h2 (by simp) hb sh n1 n2 w hS hP
            | some tn =>
              have q := winding_someplus _ hl k h1 h2 (by simp) hb sh n1 tn n2 w hS hP
              rw [← he] at q
              exact q
        · by_cases c2 : b = 45
          · rw [parse_rest h4 (.inr c2)]
            have hb : byteL (a :: b :: r) 1 = 45 := (byte_one a b r (c := 45) (by decide)).2 c2
            have he : (b == 45) = true := by rw [c2]; rfl
            unfold twoV
            cases n1 : numP (Lib.cut r [47]).1 with
            | none => exact winding_none1minus _ hl k h1 h2 (by simp) hb n1 w hS hP
            | some sh =>
              cases n2 : numP (Lib.cut r [47]).2.1 with
              | none => exact winding_none2minus _ hl k h1 h2 (by simp) hb sh n1 n2 w hS hP
              | some tn =>
                have q := winding_someminus _ hl k h1 h2 (by simp) hb sh n1 tn n2 w hS hP
                rw [← he] at q
                exact q
          · rw [parse_sign_none c1 c2]
            exact winding_sign _ hl k h1 h2 (by simp) (fun e => c1 ((byte_one a b r (c := 43) (by decide)).1 e)) (fun e => c2 ((byte_one a b r (c := 45) (by decide)).1 e)) w hS hP

theorem winding_some (l : List UInt8) (hl : l.length ≤ 1000) (x : Wind) (h : parseW l = some x) (w : World) (hS : StrIn w) (hP : PatIn w) : Calls Tryz.prog 69 #[.string ⟨l.toArray⟩] w fun e w' => e = .returned (.tuple #[.agg #[.int .i64 x.kind, .int .i64 x.turns, .int .i64 x.shift, .bool x.rev], .bool true]) ∧ Below w.heap.size w w' := by
  have q := winding_any l hl w hS hP
  rw [h] at q
  exact q

end Go.Proofs.YtpdkbhjcpddnpaaGreatDoor
end

section
namespace Go.Proofs.YtpdkbhjcpddnpaaGreatDoor
open Go.RowKit
attribute [local go_sem ↓] Go.wp_at_zero Go.wp_at_succ

abbrev strV (l : List UInt8) : Value := .string ⟨l.toArray⟩
end Go.Proofs.YtpdkbhjcpddnpaaGreatDoor
end
