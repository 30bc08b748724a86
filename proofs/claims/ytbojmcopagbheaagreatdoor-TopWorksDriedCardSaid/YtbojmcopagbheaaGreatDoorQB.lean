/- Contract: whether a string is a name. Strings of at most 1000 bytes.
Contracts: the error of a lot alone; whether a lot is accepted. Names of at most 1000 bytes, at most 1000 of them. -/
import Derived.Test.YtbojmcopagbheaaGreatDoorQT
import Derived.Laws.IdiomStrings
import Derived.Test.YtbojmcopagbheaaGreatDoorQ3

section
namespace Go.Proofs.YtbojmcopagbheaaGreatDoor
open Go.RowKit

def byteAt (s : ByteArray) (i : Nat) : Int := ((s.data.getD i 0).toNat : Int)
def letterB (c : Int) : Bool := (decide (97 ≤ c) && decide (c ≤ 122)) || (decide (65 ≤ c) && decide (c ≤ 90))
def charB (i : Nat) (c : Int) : Bool := letterB c || (!(i == 0) && (c == 45 || withinB c 48 57))
def charsB (s : ByteArray) (k : Nat) : Bool := (List.range k).all fun i => charB i (byteAt s i)
def nameB (s : ByteArray) : Bool := charsB s s.size && withinB s.size 1 12

theorem charsB_succ (s : ByteArray) (k : Nat) : charsB s (k + 1) = (charsB s k && charB k (byteAt s k)) := by
  unfold charsB
  rw [List.range_succ, List.all_append]
  simp
theorem charsB_false {s : ByteArray} {k : Nat} (h : charsB s k = false) : ∀ n, k ≤ n → charsB s n = false := by
  intro n hn
  obtain ⟨m, rfl⟩ : ∃ m, n = k + m := ⟨n - k, by omega⟩
  clear hn
  induction m with
  | zero => exact h
  | succ m ih => rw [← Nat.add_assoc, charsB_succ, ih]; rfl
theorem byteAt_bd (s : ByteArray) (i : Nat) : 0 ≤ byteAt s i ∧ byteAt s i ≤ 255 := by
  unfold byteAt
  have := (s.data.getD i 0).toNat_lt
  omega

/-- The cases of a byte: what decides whether it may stand at place k. -/
theorem char_cases (k : Nat) (c : Int) (h0 : 0 ≤ c) (h1 : c ≤ 255) :
    (charB k c = true ∧ ((97 ≤ c ∧ c ≤ 122) ∨ (65 ≤ c ∧ c ≤ 90))) ∨
    (charB k c = true ∧ 1 ≤ k ∧ ((c = 45) ∨ (48 ≤ c ∧ c ≤ 57))) ∨
    (charB k c = false ∧ k = 0 ∧ ((c ≤ 64) ∨ (91 ≤ c ∧ c ≤ 96) ∨ 123 ≤ c)) ∨
    (charB k c = false ∧ 1 ≤ k ∧ ((c ≤ 44) ∨ (46 ≤ c ∧ c ≤ 47) ∨ (58 ≤ c ∧ c ≤ 64) ∨ (91 ≤ c ∧ c ≤ 96) ∨ 123 ≤ c)) := by
  have e : charB k c = true ↔ ((97 ≤ c ∧ c ≤ 122) ∨ (65 ≤ c ∧ c ≤ 90)) ∨ (k ≠ 0 ∧ (c = 45 ∨ (48 ≤ c ∧ c ≤ 57))) := by
    simp [charB, letterB, withinB]
  cases h : charB k c with
  | true =>
    rcases e.1 h with e | ⟨hk, e⟩
    · exact .inl ⟨rfl, e⟩
    · exact .inr (.inl ⟨rfl, by omega, e⟩)
  | false =>
    have e2 : ¬(((97 ≤ c ∧ c ≤ 122) ∨ (65 ≤ c ∧ c ≤ 90)) ∨ (k ≠ 0 ∧ (c = 45 ∨ (48 ≤ c ∧ c ≤ 57)))) := fun hh => by
      rw [e.2 hh] at h; cases h
    by_cases hk : k = 0
    · exact .inr (.inr (.inl ⟨rfl, hk, by omega⟩))
    · exact .inr (.inr (.inr ⟨rfl, by omega, by omega⟩))

set_option maxHeartbeats 1000000 in
set_option maxRecDepth 100000 in
theorem isName_any (s : ByteArray) (w : World) (hs : s.size ≤ 1000) :
    Calls Tryz.prog 104 #[.string s] w fun e w' => e = .returned (.bool (nameB s)) ∧ Below w.heap.size w w' := by
  have hconv := fun w => run_bytes_of_string (P := Tryz.prog) w 9 145 5 s Tryz.underlying9 Tryz.underlying145 Tryz.underlying5
  obtain ⟨C, cap, fr, hC, hCe⟩ : ∃ (C : Array Value) (cap : Nat) (fr : Nat × Nat), (∀ j, j < s.size → C[j]? = some (.int .u8 (byteAt s j))) ∧ (convert 9 145 (.string s)).run Tryz.prog w = .ok (.slice (some ⟨w.heap.size, 0, none⟩) s.size cap) (w.alloc (.cells C 5 fr)).drew := by
    refine ⟨_, _, _, fun j hj => ?_, hconv w⟩
    rw [bytesRow_at s _ j hj]
    simp [byteAt, Array.getD, hj]
  have hcell : ∀ j, j < s.size → (w.alloc (.cells C 5 fr)).cell? ⟨w.heap.size, j, none⟩ = some (.int .u8 (byteAt s j)) := fun j hj => (World.cell?_alloc_mark w C 5 fr j).trans (hC j hj)
  have HCell := Lib.hid hcell
  have hb : Below w.heap.size w (w.alloc (.cells C 5 fr)).drew := pd (pa pr)
  have HB := Lib.hid hb
  clear hconv hC hcell hb
  go_enter Tryz.func104, Tryz.ntmps104
  go_wp2
  go_loop [9] (fun i => ∃ k : Nat, k ≤ s.size ∧ i = .int .i64 k ∧ charsB s k = true) (fun i => s.size - (intOf i).toNat)
  case atStart => exact ⟨0, Nat.zero_le _, rfl, rfl⟩
  case round =>
    obtain ⟨k, hk, rfl, hf⟩ := hrel
    have HF := Lib.hid hf
    clear hf
    by_cases hlt : k < s.size
    · have hcell := HCell.out k hlt
      have hbd := byteAt_bd s k
      have hcase := char_cases k (byteAt s k) hbd.1 hbd.2
      have HS := Lib.hid (charsB_succ s k)
      generalize byteAt s k = c at *
      obtain ⟨hb0, hb1⟩ := hbd
      have h48 : withinB c 48 57 = (decide (48 ≤ c) && decide (c ≤ 57)) := rfl
      rcases hcase with ⟨hc, hcs⟩ | ⟨hc, hk1, hcs⟩ | ⟨hc, hk1, hcs⟩ | ⟨hc, hk1, hcs⟩
      · have HS2 := Lib.hid (show charsB s (k + 1) = true by rw [HS.out, HF.out, hc]; rfl)
        clear hc h48
        rcases hcs with ⟨h2, h3⟩ | ⟨h2, h3⟩
        all_goals
          go_wp2
          go_round
          case rel => exact ⟨k + 1, by omega, by go_num, HS2.out⟩
          case measure => simp [intOf]; omega
      · have HS2 := Lib.hid (show charsB s (k + 1) = true by rw [HS.out, HF.out, hc]; rfl)
        have hk0 : ((k : Int) == 0) = false := by simp; omega
        clear hc
        rcases hcs with rfl | ⟨h2, h3⟩
        · clear h48
          go_wp2
          go_round
          case rel => exact ⟨k + 1, by omega, by go_num, HS2.out⟩
          case measure => simp [intOf]; omega
        · have hne : (c != 45) = true := by rw [bne_iff_ne]; omega
          have h48' : withinB c 48 57 = true := by rw [h48]; simp; omega
          clear h48
          go_wp2_with (go_at_call 61; refine (within_any _ _ _ _).mono ?_; rintro e w' ⟨rfl, rfl⟩)
          go_round
          case rel => exact ⟨k + 1, by omega, by go_num, HS2.out⟩
          case measure => simp [intOf]; omega
      · have hres : nameB s = false := by
          unfold nameB
          rw [charsB_false (k := k + 1) (by rw [HS.out, HF.out, hc]; rfl) s.size hlt]
          rfl
        have HR := Lib.hid hres
        have hk0 : ((k : Int) == 0) = true := by simp [hk1]
        clear hc hres h48 hk1
        rcases hcs with h2 | ⟨h2, h3⟩ | h2
        all_goals
          try have g1 : decide (c ≤ 90) = false := decide_eq_false (by omega)
          try have g2 : decide (c ≤ 122) = false := decide_eq_false (by omega)
          go_wp2
          go_ret
          exact ⟨ret_bool HR.out.symm, HB.out⟩
      · have hres : nameB s = false := by
          unfold nameB
          rw [charsB_false (k := k + 1) (by rw [HS.out, HF.out, hc]; rfl) s.size hlt]
          rfl
        have HR := Lib.hid hres
        have hk0 : ((k : Int) == 0) = false := by simp; omega
        have hne : (c != 45) = true := by rw [bne_iff_ne]; omega
        have h48' : withinB c 48 57 = false := by rw [h48]; simp; omega
        clear hc hres h48
        rcases hcs with h2 | ⟨h2, h3⟩ | ⟨h2, h3⟩ | ⟨h2, h3⟩ | h2
        all_goals
          try have g1 : decide (c ≤ 90) = false := decide_eq_false (by omega)
          try have g2 : decide (c ≤ 122) = false := decide_eq_false (by omega)
          go_wp2_with (go_at_call 61; refine (within_any _ _ _ _).mono ?_; rintro e w' ⟨rfl, rfl⟩)
          go_ret
          exact ⟨ret_bool HR.out.symm, HB.out⟩
    · have hke : k = s.size := by omega
      subst hke
      have HR := Lib.hid (show nameB s = withinB s.size 1 12 by unfold nameB; rw [HF.out]; rfl)
      go_wp2_with (go_at_call 61; refine (within_any _ _ _ _).mono ?_; rintro e w' ⟨rfl, rfl⟩)
      go_ret
      exact ⟨ret_bool HR.out.symm, HB.out⟩

end Go.Proofs.YtbojmcopagbheaaGreatDoor
end

section
namespace Go.Proofs.YtbojmcopagbheaaGreatDoor
open Go.RowKit

structure Lot where
  name : ByteArray
  made : List ByteArray
  mlo : Int
  mhi : Int
  llo : Int
  lhi : Int

instance : Inhabited Lot := ⟨⟨default, [], 0, 0, 0, 0⟩⟩

/-- A lot's strings are short. -/
def SmallLot (x : Lot) : Prop := x.name.size ≤ 1000 ∧ x.made.length ≤ 1000 ∧ ∀ j, (x.made.getD j default).size ≤ 1000

def lotE1 (x : Lot) : Int := firstV [unlessV (nameB x.name) 4, unlessV (decide ((x.made.length : Int) ≤ 6)) 8]
def madeErr (xs : List ByteArray) (i : Nat) : Int := firstV [unlessV (nameB (xs.getD i default)) 4, unlessV (!anyG (sameS (xs.getD i default)) (xs.take i)) 23]
def lotE3 (x : Lot) : Int := firstV [rangeErrV valueB x.mlo x.mhi, rangeErrV valueB x.llo x.lhi]
def lotE (x : Lot) : Int := if lotE1 x ≠ 0 then lotE1 x else if (scan (madeErr x.made) x.made.length 0).2 ≠ 0 then (scan (madeErr x.made) x.made.length 0).2 else lotE3 x

set_option maxHeartbeats 1000000 in
set_option maxRecDepth 100000 in
theorem lotErr_any (B : Nat) (x : Lot) (A : Option Addr) (n c : Nat) (w : World) (hn : x.made.length = n) (hr : RowIn Value.string B w A x.made) (hB : B ≤ w.heap.size) (hs : SmallLot x) (hcap : n ≤ c) :
    Calls Tryz.prog 65 #[.agg #[.string x.name, .slice A n c, .int .i64 x.mlo, .int .i64 x.mhi, .int .i64 x.llo, .int .i64 x.lhi]] w fun e w' => e = .returned (.int .i64 (lotE x)) ∧ Below w.heap.size w w' := by
  obtain ⟨nm, xs, mlo, mhi, llo, lhi⟩ := x
  obtain ⟨hs1, hs2, hs3⟩ := hs
  dsimp only at *
  have HT := Lib.hid (show lotE ⟨nm, xs, mlo, mhi, llo, lhi⟩ = if lotE1 ⟨nm, xs, mlo, mhi, llo, lhi⟩ ≠ 0 then lotE1 ⟨nm, xs, mlo, mhi, llo, lhi⟩ else if (scan (madeErr xs) xs.length 0).2 ≠ 0 then (scan (madeErr xs) xs.length 0).2 else lotE3 ⟨nm, xs, mlo, mhi, llo, lhi⟩ from rfl)
  have HV1 := Lib.hid (show firstV [unlessV (nameB nm) 4, unlessV (decide ((n : Int) ≤ 6)) 8] = lotE1 ⟨nm, xs, mlo, mhi, llo, lhi⟩ by rw [← hn]; rfl)
  have HV3 := Lib.hid (show firstV [rangeErrV valueB mlo mhi, rangeErrV valueB llo lhi] = lotE3 ⟨nm, xs, mlo, mhi, llo, lhi⟩ from rfl)
  have hn2 : n ≤ 1000 := by omega
  have HN := Lib.hid hn
  have HR := Lib.hid hr
  have HS3 := Lib.hid hs3
  clear hn hr hs3
  generalize lotE ⟨nm, xs, mlo, mhi, llo, lhi⟩ = E at *
  generalize lotE1 ⟨nm, xs, mlo, mhi, llo, lhi⟩ = E1 at *
  generalize lotE3 ⟨nm, xs, mlo, mhi, llo, lhi⟩ = E3 at *
  by_cases hE : E1 = 0
  · subst hE
    have HTE := Lib.hid (show E = if (scan (madeErr xs) xs.length 0).2 ≠ 0 then (scan (madeErr xs) xs.length 0).2 else E3 by rw [HT.out, if_neg (by simp)])
    clear HT
    go_enter Tryz.func65, Tryz.ntmps65
    go_wp2
    refine region_below 9 follows_mixed (by kernel_rfl) ?_
    intro C hC
    simp only [List.take_succ_cons, List.take_zero, List.drop_succ_cons, List.drop_zero]
    repeat (first
      | ((with_reducible refine quiet_plain rfl (fun K hK => ?_)); (focus (apply quiet_val; (focus (intro w' hw; obtain ⟨hcq, hfq⟩ := bcell ((hC.out _).1 hw); go_simp; (first | done | rfl | (with_reducible exact call_below hC hw (isName_any _ _ hs1)) | (with_reducible exact call_same hw (unless_any _ _ _))))); (simp only [Act.put, List.setIfInBounds_toArray, List.set_cons_succ, List.set_cons_zero]); (with_reducible refine hK _ ?_); clear hK K)))
      | ((with_reducible refine quiet_skip ?_ ?_); (focus (first | (simp [Region.wanted, yielded]; done) | (simp [Region.wanted, yielded, undef]; done))); simp only [Act.put, List.setIfInBounds_toArray, List.set_cons_succ, List.set_cons_zero])
      | ((with_reducible refine quiet_go ?_ (fun K hK => ?_)); (focus (first | (simp [Region.wanted, yielded]; done) | (simp [Region.wanted, yielded, undef]; done))); (focus (apply quiet_val; (focus (intro w' hw; obtain ⟨hcq, hfq⟩ := bcell ((hC.out _).1 hw); go_simp; (first | done | rfl | (with_reducible exact call_below hC hw (isName_any _ _ hs1)) | (with_reducible exact call_same hw (unless_any _ _ _))))); (simp only [Act.put, List.setIfInBounds_toArray, List.set_cons_succ, List.set_cons_zero]); (with_reducible refine hK _ ?_); clear hK K))))
    refine wpQuiet_nil ?_
    intro w1 hb1
    replace hb1 := (hC.out _).1 hb1
    clear hC C
    obtain ⟨hc1, hf1⟩ := bcell hb1
    have r0 : Blk w1 w.heap.size 58 #[.string nm, .slice A n c, .int .i64 mlo, .int .i64 mhi, .int .i64 llo, .int .i64 lhi] := (Blk.newAt rfl).past hb1
    have c1 := r0.cellAt 1 rfl
    have z0 := r0.lt
    clear hc1 hf1
    go_wp2_with (go_at_call 45; refine (first2' _ _ _ _ _ (by first | (go_simp; done) | (go_simp; rfl)) (by first | (go_simp; done) | (go_simp; rfl)) _ HV1.out).mono ?_; rintro e w' ⟨rfl, rfl⟩)
    have hb2 : Below w.heap.size w (w1.alloc (.cells #[.int .i64 (unlessV (nameB nm) 4), .int .i64 (unlessV (decide ((n : Int) ≤ 6)) 8)] 37)) := pa (pt (pa pr) hb1)
    go_loopw [25] (fun i wr => ∃ k : Nat, k ≤ n ∧ i = .int .i64 (k : Int) ∧ scan (madeErr xs) xs.length 0 = scan (madeErr xs) xs.length k ∧ Blk wr w.heap.size 58 #[.string nm, .slice A n c, .int .i64 mlo, .int .i64 mhi, .int .i64 llo, .int .i64 lhi] ∧ Below w.heap.size w wr) (fun i _ => n - (intOf i).toNat)
    case atStart => exact ⟨0, Nat.zero_le _, rfl, rfl, r0.alloc, hb2⟩
    case round =>
      obtain ⟨k, hk, rfl, hf, q0, hq⟩ := hrel
      clear r0 c1 z0 hb1 hb2
      have c1 := q0.cellAt 1 rfl
      have z0 := q0.lt
      by_cases hlt : k < n
      · obtain ⟨b, off, hA, hbB, hcell⟩ := (HR.out.below (hq.mono hB)).at_ (k := k) (by rw [HN.out]; exact hlt)
        subst hA
        have hbw := Nat.lt_of_lt_of_le hbB (Nat.le_trans hB hq.size)
        have d0 := hcell k (by rw [HN.out]; exact hlt)
        have HF := Lib.hid (hf.trans (scan_step (by rw [HN.out]; exact hlt)))
        have HE := Lib.hid (show firstV [unlessV (nameB (xs.getD k default)) 4, unlessV (!anyG (sameS (xs.getD k default)) (xs.take k)) 23] = madeErr xs k from rfl)
        have hsz := HS3.out k
        have HR1 := Lib.hid ((HR.out.below (hq.mono hB)))
        have hBq : B ≤ wr.heap.size := Nat.le_trans hB hq.size
        have HTk := Lib.hid (show (xs.take k).length = k by have := HN.out; simp; omega)
        have i0 : (0 : Int) ≤ (k : Int) := by omega
        have i1 : (k : Int) ≤ (c : Int) := by omega
        have hk1000 : k ≤ 1000 := by omega
        clear hcell hf
        generalize xs.getD k default = y at *
        go_wp2
        refine region_below 11 follows_mixed (by kernel_rfl) ?_
        intro C hC
        simp only [List.take_succ_cons, List.take_zero, List.drop_succ_cons, List.drop_zero]
        repeat (first
          | ((with_reducible refine quiet_plain rfl (fun K hK => ?_)); (focus (apply quiet_val; (focus (intro w' hw; obtain ⟨hcq, hfq⟩ := bcell ((hC.out _).1 hw); go_simp; (first | done | rfl | (with_reducible exact call_below hC hw (isName_any _ _ hsz)) | (with_reducible exact call_same hw (unless_any _ _ _)) | (with_reducible exact call_same hw (containsS_any B _ k c (xs.take k) _ _ ((HR1.out.below (((hC.out _).1 hw).mono hBq)).take k) HTk.out hk1000))))); (simp only [Act.put, List.setIfInBounds_toArray, List.set_cons_succ, List.set_cons_zero]); (with_reducible refine hK _ ?_); clear hK K)))
          | ((with_reducible refine quiet_skip ?_ ?_); (focus (first | (simp [Region.wanted, yielded]; done) | (simp [Region.wanted, yielded, undef]; done))); simp only [Act.put, List.setIfInBounds_toArray, List.set_cons_succ, List.set_cons_zero])
          | ((with_reducible refine quiet_go ?_ (fun K hK => ?_)); (focus (first | (simp [Region.wanted, yielded]; done) | (simp [Region.wanted, yielded, undef]; done))); (focus (apply quiet_val; (focus (intro w' hw; obtain ⟨hcq, hfq⟩ := bcell ((hC.out _).1 hw); go_simp; (first | done | rfl | (with_reducible exact call_below hC hw (isName_any _ _ hsz)) | (with_reducible exact call_same hw (unless_any _ _ _)) | (with_reducible exact call_same hw (containsS_any B _ k c (xs.take k) _ _ ((HR1.out.below (((hC.out _).1 hw).mono hBq)).take k) HTk.out hk1000))))); (simp only [Act.put, List.setIfInBounds_toArray, List.set_cons_succ, List.set_cons_zero]); (with_reducible refine hK _ ?_); clear hK K))))
        refine wpQuiet_nil ?_
        intro w1 hb1
        replace hb1 := (hC.out _).1 hb1
        clear hC C
        obtain ⟨hc1, hf1⟩ := bcell hb1
        have q1 := q0.past hb1
        clear hc1 hf1 c1
        by_cases hz : madeErr xs k = 0
        · have HZ := Lib.hid hz
          have HG := Lib.hid (show scan (madeErr xs) xs.length 0 = scan (madeErr xs) xs.length (k + 1) by rw [HF.out, if_pos hz])
          clear hz
          go_wp2_with (go_at_call 45; refine (first2' _ _ _ _ _ (by first | (go_simp; done) | (go_simp; rfl)) (by first | (go_simp; done) | (go_simp; rfl)) _ (HE.out.trans HZ.out)).mono ?_; rintro e w' ⟨rfl, rfl⟩)
          go_roundw
          case rel => exact ⟨k + 1, by omega, by go_num, HG.out, q1.alloc, pa (pt hq hb1)⟩
          case measure => simp [intOf]; omega
        · have hz1 : (madeErr xs k == 0) = false := by simpa using hz
          have HG := Lib.hid (show E = madeErr xs k by
            have e : scan (madeErr xs) xs.length 0 = (k, madeErr xs k) := by rw [HF.out, if_neg hz]
            rw [HTE.out, e, if_pos hz])
          clear hz
          go_wp2_with (go_at_call 45; refine (first2' _ _ _ _ _ (by first | (go_simp; done) | (go_simp; rfl)) (by first | (go_simp; done) | (go_simp; rfl)) _ HE.out).mono ?_; rintro e w' ⟨rfl, rfl⟩)
          go_ret
          exact ⟨ret_int HG.out.symm, pa (pt hq hb1)⟩
      · have HF := Lib.hid (show E = E3 by
          have e : scan (madeErr xs) xs.length 0 = (0, 0) := by rw [hf]; exact scan_end (by have := HN.out; omega)
          rw [HTE.out, e, if_neg (by simp)])
        have c2 := q0.cellAt 2 rfl
        have c3 := q0.cellAt 3 rfl
        have c4 := q0.cellAt 4 rfl
        have c5 := q0.cellAt 5 rfl
        clear hf
        go_wp2
        refine region_below 8 follows_mixed (by kernel_rfl) ?_
        intro C hC
        simp only [List.take_succ_cons, List.take_zero, List.drop_succ_cons, List.drop_zero]
        repeat (first
          | ((with_reducible refine quiet_plain rfl (fun K hK => ?_)); (focus (apply quiet_val; (focus (intro w' hw; obtain ⟨hcq, hfq⟩ := bcell ((hC.out _).1 hw); go_simp; (first | done | rfl | (with_reducible exact call_below hC hw (rangeErr_value _ _ _))))); (simp only [Act.put, List.setIfInBounds_toArray, List.set_cons_succ, List.set_cons_zero]); (with_reducible refine hK _ ?_); clear hK K)))
          | ((with_reducible refine quiet_skip ?_ ?_); (focus (first | (simp [Region.wanted, yielded]; done) | (simp [Region.wanted, yielded, undef]; done))); simp only [Act.put, List.setIfInBounds_toArray, List.set_cons_succ, List.set_cons_zero])
          | ((with_reducible refine quiet_go ?_ (fun K hK => ?_)); (focus (first | (simp [Region.wanted, yielded]; done) | (simp [Region.wanted, yielded, undef]; done))); (focus (apply quiet_val; (focus (intro w' hw; obtain ⟨hcq, hfq⟩ := bcell ((hC.out _).1 hw); go_simp; (first | done | rfl | (with_reducible exact call_below hC hw (rangeErr_value _ _ _))))); (simp only [Act.put, List.setIfInBounds_toArray, List.set_cons_succ, List.set_cons_zero]); (with_reducible refine hK _ ?_); clear hK K))))
        refine wpQuiet_nil ?_
        intro w1 hb1
        replace hb1 := (hC.out _).1 hb1
        clear hC C
        obtain ⟨hc1, hf1⟩ := bcell hb1
        clear hc1 hf1 c1 c2 c3 c4 c5
        go_wp2_with (go_at_call 45; refine (first2' _ _ _ _ _ (by first | (go_simp; done) | (go_simp; rfl)) (by first | (go_simp; done) | (go_simp; rfl)) _ HV3.out).mono ?_; rintro e w' ⟨rfl, rfl⟩)
        go_ret
        exact ⟨ret_int HF.out.symm, pa (pt hq hb1)⟩
  · have hE1 : (E1 == 0) = false := by simpa using hE
    have HTE := Lib.hid (show E = E1 by rw [HT.out, if_pos hE])
    clear HT hE
    go_enter Tryz.func65, Tryz.ntmps65
    go_wp2
    refine region_below 9 follows_mixed (by kernel_rfl) ?_
    intro C hC
    simp only [List.take_succ_cons, List.take_zero, List.drop_succ_cons, List.drop_zero]
    repeat (first
      | ((with_reducible refine quiet_plain rfl (fun K hK => ?_)); (focus (apply quiet_val; (focus (intro w' hw; obtain ⟨hcq, hfq⟩ := bcell ((hC.out _).1 hw); go_simp; (first | done | rfl | (with_reducible exact call_below hC hw (isName_any _ _ hs1)) | (with_reducible exact call_same hw (unless_any _ _ _))))); (simp only [Act.put, List.setIfInBounds_toArray, List.set_cons_succ, List.set_cons_zero]); (with_reducible refine hK _ ?_); clear hK K)))
      | ((with_reducible refine quiet_skip ?_ ?_); (focus (first | (simp [Region.wanted, yielded]; done) | (simp [Region.wanted, yielded, undef]; done))); simp only [Act.put, List.setIfInBounds_toArray, List.set_cons_succ, List.set_cons_zero])
      | ((with_reducible refine quiet_go ?_ (fun K hK => ?_)); (focus (first | (simp [Region.wanted, yielded]; done) | (simp [Region.wanted, yielded, undef]; done))); (focus (apply quiet_val; (focus (intro w' hw; obtain ⟨hcq, hfq⟩ := bcell ((hC.out _).1 hw); go_simp; (first | done | rfl | (with_reducible exact call_below hC hw (isName_any _ _ hs1)) | (with_reducible exact call_same hw (unless_any _ _ _))))); (simp only [Act.put, List.setIfInBounds_toArray, List.set_cons_succ, List.set_cons_zero]); (with_reducible refine hK _ ?_); clear hK K))))
    refine wpQuiet_nil ?_
    intro w1 hb1
    replace hb1 := (hC.out _).1 hb1
    clear hC C
    obtain ⟨hc1, hf1⟩ := bcell hb1
    clear hc1 hf1
    go_wp2_with (go_at_call 45; refine (first2' _ _ _ _ _ (by first | (go_simp; done) | (go_simp; rfl)) (by first | (go_simp; done) | (go_simp; rfl)) _ HV1.out).mono ?_; rintro e w' ⟨rfl, rfl⟩)
    go_ret
    exact ⟨ret_int HTE.out.symm, pa (pt (pa pr) hb1)⟩

/-- 2: surely accepted; 0: surely not; 1: open. -/
def acceptV (x : Lot) : Int := if x.llo ≤ x.mlo ∧ x.mhi ≤ x.lhi then 2 else if x.lhi < x.mlo ∨ x.mhi < x.llo then 0 else 1

end Go.Proofs.YtbojmcopagbheaaGreatDoor
end
