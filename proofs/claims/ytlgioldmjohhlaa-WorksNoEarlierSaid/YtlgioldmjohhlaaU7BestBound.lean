/- Contract: the program's BestBound. Valid plans. -/
import Derived.Test.YtlgioldmjohhlaaU6Other
namespace Go.Proofs.Ytlgioldmjohhlaa
open Go.RowKit Go.Shelf

def bitsUpto (set k : Nat) : List Int := ((List.range k).filter fun i => set.testBit i).map fun (i : Nat) => (i : Int)
theorem bitsUpto_succ (set k : Nat) : bitsUpto set (k + 1) = if set.testBit k = true then bitsUpto set k ++ [(k : Int)] else bitsUpto set k := by
  unfold bitsUpto
  rw [List.range_succ, List.filter_append, List.map_append]
  cases h : set.testBit k <;> simp [h]
theorem bits_mem {set k : Nat} {x : Int} : x ∈ bitsUpto set k ↔ ∃ i : Nat, x = (i : Int) ∧ i < k ∧ set.testBit i = true := by
  unfold bitsUpto
  simp only [List.mem_map, List.mem_filter, List.mem_range]
  constructor
  · rintro ⟨i, ⟨h1, h2⟩, rfl⟩; exact ⟨i, rfl, h1, h2⟩
  · rintro ⟨i, rfl, h1, h2⟩; exact ⟨i, ⟨h1, h2⟩, rfl⟩
theorem bits_len (set k : Nat) : (bitsUpto set k).length ≤ k := by
  unfold bitsUpto
  rw [List.length_map]
  have := List.length_filter_le (fun i => set.testBit i) (List.range k)
  simpa using this
theorem bits_pos {set n : Nat} (h1 : 0 < set) (h2 : set < 2 ^ n) : 0 < (bitsUpto set n).length := by
  rcases Nat.eq_zero_or_pos (bitsUpto set n).length with h | h
  · exfalso
    have h3 : bitsUpto set n = [] := List.eq_nil_of_length_eq_zero h
    have : set = 0 := by
      apply Nat.eq_of_testBit_eq
      intro i
      rw [Nat.zero_testBit]
      by_cases hi : i < n
      · cases hb : set.testBit i with
        | false => rfl
        | true =>
          have := (bits_mem (set := set) (k := n) (x := (i : Int))).2 ⟨i, rfl, hi, hb⟩
          rw [h3] at this
          cases this
      · exact Nat.testBit_lt_two_pow (Nat.lt_of_lt_of_le h2 (Nat.pow_le_pow_right (by decide) (by omega)))
    omega
  · exact h

def anyOther (ts : List Task) (l : List Int) : Bool := anyB (otherB ts l) l
def betterB (best : Option (List Int)) (bound : Int) (l : List Int) (n : Int) : Bool :=
  best.isNone || (decide (bound < n) || (decide (n = bound) && (decide (l.length < (best.getD []).length) || (decide (l.length = (best.getD []).length) && decide (cmpV l (best.getD []) < 0)))))
def bbStep (ts : List Task) (s : Option (List Int) × Int) (set : Nat) : Option (List Int) × Int :=
  if anyOther ts (bitsUpto set ts.length) = true then s
  else if betterB s.1 s.2 (bitsUpto set ts.length) (busyV ts (bitsUpto set ts.length)) = true then (some (bitsUpto set ts.length), busyV ts (bitsUpto set ts.length)) else s
/-- The best bound of the sets below a number. -/
def bbUpto (ts : List Task) : Nat → Option (List Int) × Int
  | 0 => (none, 0)
  | k + 1 => if k = 0 then (none, 0) else bbStep ts (bbUpto ts k) k

theorem bb_len (ts : List Task) : ∀ (k : Nat) (l : List Int), (bbUpto ts k).1 = some l → l.length ≤ ts.length
  | 0, l, h => by simp [bbUpto] at h
  | k + 1, l, h => by
    rw [bbUpto] at h
    by_cases hk : k = 0
    · rw [if_pos hk] at h; cases h
    · rw [if_neg hk] at h
      unfold bbStep at h
      split at h
      · exact bb_len ts k l h
      · split at h
        · injection h with h
          subst h
          exact bits_len _ _
        · exact bb_len ts k l h

theorem compare_any2 (B : Nat) (A A2 : Option Addr) (n n2 c c2 : Nat) (xs ys : List Int) (w : World) (hr : IntsIn B w A xs) (hr2 : IntsIn B w A2 ys) (hB : B ≤ w.heap.size) (hn : xs.length = n) (hn2 : ys.length = n2) (h : n2 = n) (hm : n ≤ 1000) :
    Calls Try.prog 124 #[.slice A n c, .slice A2 n2 c2] w fun e w' => e = .returned (.int .i64 (cmpV xs ys)) ∧ Below w.heap.size w w' := by
  subst h
  exact compare_any B A A2 n2 c c2 xs ys w hr hr2 hB hn hn2 hm

/-- A row that is nil or some numbers. -/
def BestRow (W : World) (o : Option (List Int)) (v : Value) : Prop := (o = none ∧ v = .slice none 0 0) ∨ ∃ l A c, o = some l ∧ v = .slice (some A) l.length c ∧ IntsIn W.heap.size W (some A) l
theorem BestRow.past {W W2 : World} {o : Option (List Int)} {v : Value} (h : BestRow W o v) (hb : Below W.heap.size W W2) : BestRow W2 o v := by
  rcases h with h | ⟨l, A, c, h1, h2, h3⟩
  · exact .inl h
  · exact .inr ⟨l, A, c, h1, h2, (h3.below hb).more hb.size⟩



set_option maxHeartbeats 4000000 in
set_option maxRecDepth 100000 in
theorem bestBound_ok (B : Nat) (ts : List Task) (A : Option Addr) (c : Nat) (m : Int) (w : World) (hr : TasksIn B w A ts) (hB : B ≤ w.heap.size) (hs : SmallPlan ts) (he : (openV m ts).2 = 0) (hn0 : 0 < ts.length) :
    Calls Try.prog 72 #[.agg #[.int .i64 m, .slice A ts.length c]] w fun e w' => ∃ bv, e = .returned (.tuple #[bv, .int .i64 (bbUpto ts (2 ^ ts.length)).2, .int .i64 0]) ∧ BestRow w' (bbUpto ts (2 ^ ts.length)).1 bv ∧ Below w.heap.size w w' := by
  obtain ⟨ha, hl, hm, _, _, hpos⟩ := open_ok he
  have hp : PosOk ts := fun i hi => (hpos i hi).2
  have h7 := ha.1.1
  have hopen := opened_any B ts A c m (w.alloc (.cells #[.int .i64 m, .slice A ts.length c] 24)) (hr.below ((pa pr).mono hB)) (by simp; omega) hs
  rw [he] at hopen
  have HO := Lib.hid hopen
  have HBusy := Lib.hid fun W A2 c2 (L : List Int) (hW : Below w.heap.size w W) (h2 : IntsIn W.heap.size W A2 L) (hE : TasksOk ts.length L) => busy_any W.heap.size ts L A A2 c c2 m W ((hr.below (hW.mono hB)).more (Nat.le_trans hB hW.size)) h2 (Nat.le_refl _) ha hl hm hp hE
  have HR := Lib.hid hr
  obtain ⟨F, hF⟩ : ∃ F, F = 2 ^ ts.length := ⟨_, rfl⟩
  have hF2 : F ≤ 128 := by rw [hF]; exact Nat.pow_le_pow_right (by decide) h7
  have hF1 : 1 < F := by rw [hF]; exact Nat.one_lt_two_pow (by omega)
  have eF : IntKind.i64.wrap (2 ^ ts.length) = (F : Int) := by
    rw [wrap_bit (by omega)]
    unfold bitV
    rw [hF]
  rw [← hF]
  have HF := Lib.hid hF
  have hz : decide (0 < ts.length) = true := decide_eq_true (by omega)
  have HV := Lib.hid (show firstV [0, unlessV true 12] = 0 from rfl)
  clear hopen he hs ha hl hm hpos hp hr hF
  go_enter Try.func72, Try.ntmps72
  go_wp2_with (first
    | (go_at_call 80; go_must (refine HO.out.mono ?_); rintro e w1 ⟨rfl, hb1⟩; have r1 := (Blk.newAt (w := w) (t := 24) (cs := #[.int .i64 m, .slice A ts.length c]) rfl).past hb1; have e1 := r1.cellAt 1 rfl; have x1 := r1.lt)
    | (go_at_call 87; refine (unless_any _ _ _).mono ?_; rintro e w' ⟨rfl, rfl⟩)
    | (go_at_call 86; refine (first2' _ _ _ _ _ (by first | (go_simp; done) | (go_simp; rfl)) (by first | (go_simp; done) | (go_simp; rfl)) _ HV.out).mono ?_; rintro e w' ⟨rfl, rfl⟩))
  have RA := Lib.hid (r1.alloc (o := .cells #[.int .i64 m, .slice A ts.length c] 107) |>.alloc (o := .cells #[.int .i64 0, .int .i64 (unlessV true 12)] 29))
  have RB := Lib.hid ((Blk.new w1 107 #[.int .i64 m, .slice A ts.length c]).alloc (o := .cells #[.int .i64 0, .int .i64 (unlessV true 12)] 29))
  have HBo := Lib.hid (show Below w.heap.size w ((w1.alloc (.cells #[.int .i64 m, .slice A ts.length c] 107)).alloc (.cells #[.int .i64 0, .int .i64 (unlessV true 12)] 29)) from pa (pa (pt (pa pr) hb1)))
  clear hb1 HV HO hz r1 e1 x1
  generalize (w1.alloc (.cells #[.int .i64 m, .slice A ts.length c] 107)).alloc (.cells #[.int .i64 0, .int .i64 (unlessV true 12)] 29) = wo at *
  generalize w1.heap.size = pb at *
  go_loopw [7, 8, 9] (fun bv nv sv wr => ∃ set : Nat, sv = .int .i64 (set : Int) ∧ nv = .int .i64 (bbUpto ts set).2 ∧ 1 ≤ set ∧ set ≤ F ∧ BestRow wr (bbUpto ts set).1 bv ∧ Below wo.heap.size wo wr) (fun _ _ sv _ => F - (intOf sv).toNat)
  case atStart => exact ⟨1, rfl, rfl, Nat.le_refl _, by omega, .inl ⟨rfl, rfl⟩, pr⟩
  case round =>
    obtain ⟨set, rfl, rfl, hs1, hsF, hbest, hq⟩ := hrel
    have HQ0 := Lib.hid hq
    have HQ := Lib.hid (pt HBo.out hq)
    have a1 := (RA.out.past hq).cellAt 1 rfl
    have x0 := (RA.out.past hq).lt
    have b0 := (RB.out.past hq).cellAt 0 rfl
    have b1 := (RB.out.past hq).cellAt 1 rfl
    have y0 := (RB.out.past hq).lt
    have HBest := Lib.hid hbest
    clear hq hbest
    by_cases hlt : set < F
    · have HStep := Lib.hid (show bbUpto ts (set + 1) = bbStep ts (bbUpto ts set) set by rw [bbUpto, if_neg (by omega)])
      have hlt2 : decide ((set : Int) < (F : Int)) = true := decide_eq_true (by omega)
      have hset : set < 2 ^ 62 := by omega
      obtain ⟨i0, hi0, hz0, hz1, hz2⟩ := info_parts int_info
      obtain ⟨wi, rfl⟩ : ∃ wi : World, wi = wr := ⟨_, rfl⟩
      go_wp2
      go_loopw [42] (fun iv wr => ∃ (i : Nat) (A' : Option Addr) (c' : Nat), iv = .int .i64 (i : Int) ∧ i ≤ ts.length ∧ Blk wr wi.heap.size 28 #[.slice A' (bitsUpto set i).length c'] ∧ wr.ownsRow (wi.heap.size + 1) 3 1 (.slice A' (bitsUpto set i).length c') (bitsUpto set i).length ((bitsUpto set i).map (Value.int .i64)) ∧ Below wi.heap.size wi wr) (fun iv _ => ts.length - (intOf iv).toNat)
      case atStart => exact ⟨0, none, 0, rfl, Nat.zero_le _, Blk.newAt rfl, World.ownsRow_nil _ _ _ _, pa pr⟩
      case round =>
        obtain ⟨i, A', c', rfl, hin, q0, hown, hq⟩ := hrel
        clear a1 x0 b0 b1 y0
        have HQi := Lib.hid hq
        have hqs := hq.size
        have a1 := (RA.out.past (pt HQ0.out hq)).cellAt 1 rfl
        have x0 := (RA.out.past (pt HQ0.out hq)).lt
        have b0 := (RB.out.past (pt HQ0.out hq)).cellAt 0 rfl
        have b1 := (RB.out.past (pt HQ0.out hq)).cellAt 1 rfl
        have y0 := (RB.out.past (pt HQ0.out hq)).lt
        have d0 := q0.cellAt 0 rfl
        have l0 := q0.lt
        have Q0 := Lib.hid q0
        have HOwn := Lib.hid hown
        clear hq q0 hown
        by_cases hli : i < ts.length
        · have e1 : IntKind.i64.wrap (2 ^ i) = bitV i := wrap_bit (by omega)
          have hbne : (bitV i != 0) = true := by unfold bne; rw [bitV_ne]; rfl
          have n0 : (0 : Int) ≤ (i : Int) := by omega
          have n1 : (i : Int) < (ts.length : Int) := by omega
          have HU := Lib.hid (bitsUpto_succ set i)
          have hlen := bits_len set i
          cases hbit : set.testBit i with
          | false =>
            have hand := bits_and_no hset (show i < 62 by omega) hbit
            have HU2 := Lib.hid (show bitsUpto set (i + 1) = bitsUpto set i by rw [HU.out, hbit]; simp)
            go_wp2
            go_roundw
            case rel => exact ⟨i + 1, A', c', by go_num, by omega, by rw [HU2.out]; exact Q0.out, by rw [HU2.out]; exact HOwn.out, HQi.out⟩
            case measure => simp [intOf]; omega
          | true =>
            have hand := bits_and_yes hset (show i < 62 by omega) hbit
            have HU2 := Lib.hid (show bitsUpto set (i + 1) = bitsUpto set i ++ [(i : Int)] by rw [HU.out, hbit]; simp)
            have HC := Lib.hid (cellsIn_new wr 3 (.int .i64 (i : Int)))
            have HO3 := Lib.hid (HOwn.out.alloc (.cells #[.int .i64 (i : Int)] 3))
            have hne : some wi.heap.size ≠ (Value.slice A' (bitsUpto set i).length c').ownBlock := fun e => by have := (HOwn.out.lt wi.heap.size e.symm).1; omega
            have HNe := Lib.hid hne
            clear hne
            generalize hK : (bitsUpto set i).length = K at *
            have HK := Lib.hid hK
            clear hK
            go_wp2_with (at_builtin; go_must (refine wpList_append_cells _ rfl (.tmp 50) (.tmp 52) _ rfl (wi.heap.size + 1) 3 i0 _ 1 8 Try.underlying28 hi0 hz0 hz1 hz2 rfl (by omega) _ K _ rfl HO3.out (wr.heap.size + 1) (some ⟨wr.heap.size, 0, none⟩) 1 1 _ rfl HC.out rfl (by simp [Value.oneCell']) (by simp only [maxLen]; omega) (by omega) (by simp; omega) ?_); intro v4 w4 hown4 hg4 hat4; obtain ⟨A4, c4, rfl, hc4, hm4⟩ := own_form hown4; have q4 := (Q0.out.alloc (o := .cells #[.int .i64 (i : Int)] 3)).grown hg4 HNe.out; have d4 := q4.cellAt 0 rfl; have f4 := q4.frozen 0; have l4 := q4.lt)
            have HB4 := Lib.hid (show Below wi.heap.size wi w4 from pg (pa HQi.out) HO3.out (Nat.le_succ _) hg4)
            have HO4 := Lib.hid hown4
            clear hown4 hg4 hat4
            go_roundw
            case rel =>
              refine ⟨i + 1, A4, c4, by go_num, by omega, ?_, ?_, ps HB4.out (Nat.le_refl _)⟩
              · rw [HU2.out, List.length_append, HK.out]
                exact q4.set_ 0 _
              · rw [HU2.out, List.length_append, HK.out, List.map_append]
                exact ownsRow_setCell_below HO4.out (Nat.lt_succ_self _) _
            case measure => simp [intOf]; omega
        · obtain rfl : i = ts.length := by omega
          clear hli hin
          have hpos := bits_pos (n := ts.length) (show 0 < set by omega) (by rw [← HF.out]; exact hlt)
          have hlen7 := bits_len set ts.length
          have hrng : ∀ j, j < (bitsUpto set ts.length).length → 0 ≤ (bitsUpto set ts.length).getD j 0 ∧ (bitsUpto set ts.length).getD j 0 < (ts.length : Int) := fun j hj => by
            obtain ⟨i, h1, h2, _⟩ := bits_mem.1 (getD_mem (d := (0 : Int)) hj)
            omega
          have HSt := Lib.hid (show bbUpto ts (set + 1) = if anyOther ts (bitsUpto set ts.length) = true then bbUpto ts set
            else if betterB (bbUpto ts set).1 (bbUpto ts set).2 (bitsUpto set ts.length) (busyV ts (bitsUpto set ts.length)) = true then (some (bitsUpto set ts.length), busyV ts (bitsUpto set ts.length)) else bbUpto ts set from HStep.out)
          have HBl := Lib.hid (bb_len ts set)
          clear HStep
          generalize hs' : bbUpto ts set = s at *
          obtain ⟨best, bound⟩ := s
          generalize hL : bitsUpto set ts.length = L at *
          have HRow := Lib.hid (intsIn_of_own HOwn.out)
          have HRng := Lib.hid hrng
          have hpos2 := hpos
          have HCb := Lib.hid fun (j : Nat) (hj : j < L.length) W (hW : Below wr.heap.size wr W) => show Calls Try.prog 122 #[.int .i64 (L.getD j 0), .pointer (some ⟨w.heap.size, 0, none⟩), .pointer (some ⟨wi.heap.size, 0, none⟩)] W fun e w' => e = .returned (.bool (otherB ts L (L.getD j 0))) ∧ Below W.heap.size W w' by
            obtain ⟨n, hn⟩ : ∃ n : Nat, L.getD j 0 = (n : Int) := ⟨(L.getD j 0).toNat, by have := HRng.out j hj; omega⟩
            have hr := HRng.out j hj
            rw [hn] at hr ⊢
            have hx := (RA.out.past (pt HQ0.out HQi.out)).past hW
            exact other1_any W.heap.size w.heap.size wi.heap.size ts L A A' c c' n W (((HR.out.below ((pt HQ.out (pt HQi.out hW)).mono hB))).more (Nat.le_trans hB (pt HQ.out (pt HQi.out hW)).size)) ((HRow.out.below hW).more hW.size) (Nat.le_refl _) (by omega) hpos2 (HRng.out 0 hpos2) (hx.cellAt 1 rfl) ((Q0.out.past hW).cellAt 0 rfl)
          have HCont := Lib.hid (containsFunc_other wr.heap.size A' L.length c' L (otherB ts L) (.pointer (some ⟨w.heap.size, 0, none⟩)) (.pointer (some ⟨wi.heap.size, 0, none⟩)) wr HRow.out (Nat.le_refl _) rfl (by omega) HCb.out)
          have HAny := Lib.hid (show anyOther ts L = anyB (otherB ts L) L from rfl)
          clear hrng hL hs' HCb
          obtain ⟨bA, oA, hA', _⟩ := HRow.out.at_ hpos
          subst hA'
          cases hany : anyB (otherB ts L) L with
          | true =>
            rw [hany] at HCont
            have HS2 := Lib.hid (show bbUpto ts (set + 1) = (best, bound) by rw [HSt.out, HAny.out, if_pos hany])
            clear hany HSt
            go_wp2_with (first | (go_at_call 123; go_must (refine HCont.out.mono ?_); rintro e w5 ⟨rfl, hbz⟩; clear a1 x0 b0 b1 y0 d0 l0; have a1 := (RA.out.past (pt (pt HQ0.out HQi.out) hbz)).cellAt 1 rfl; have x0 := (RA.out.past (pt (pt HQ0.out HQi.out) hbz)).lt; have b0 := (RB.out.past (pt (pt HQ0.out HQi.out) hbz)).cellAt 0 rfl; have b1 := (RB.out.past (pt (pt HQ0.out HQi.out) hbz)).cellAt 1 rfl; have y0 := (RB.out.past (pt (pt HQ0.out HQi.out) hbz)).lt; have d0 := (Q0.out.past hbz).cellAt 0 rfl; have l0 := (Q0.out.past hbz).lt) | (go_at_call 121; go_must (refine (HBb.out _ hbz).mono ?_); rintro e w6 ⟨rfl, hb6⟩; have hbz := pt hbz hb6; clear hb6; clear a1 x0 b0 b1 y0 d0 l0; have a1 := (RA.out.past (pt (pt HQ0.out HQi.out) hbz)).cellAt 1 rfl; have x0 := (RA.out.past (pt (pt HQ0.out HQi.out) hbz)).lt; have b0 := (RB.out.past (pt (pt HQ0.out HQi.out) hbz)).cellAt 0 rfl; have b1 := (RB.out.past (pt (pt HQ0.out HQi.out) hbz)).cellAt 1 rfl; have y0 := (RB.out.past (pt (pt HQ0.out HQi.out) hbz)).lt; have d0 := (Q0.out.past hbz).cellAt 0 rfl; have l0 := (Q0.out.past hbz).lt) | (go_at_call 124; go_must (refine (HCmp.out _ hbz).mono ?_); rintro e w7 ⟨rfl, hb7⟩; have hbz := pt hbz hb7; clear hb7; clear a1 x0 b0 b1 y0 d0 l0; have a1 := (RA.out.past (pt (pt HQ0.out HQi.out) hbz)).cellAt 1 rfl; have x0 := (RA.out.past (pt (pt HQ0.out HQi.out) hbz)).lt; have b0 := (RB.out.past (pt (pt HQ0.out HQi.out) hbz)).cellAt 0 rfl; have b1 := (RB.out.past (pt (pt HQ0.out HQi.out) hbz)).cellAt 1 rfl; have y0 := (RB.out.past (pt (pt HQ0.out HQi.out) hbz)).lt; have d0 := (Q0.out.past hbz).cellAt 0 rfl; have l0 := (Q0.out.past hbz).lt))
            have HBz := Lib.hid hbz
            clear hbz
            go_roundw
            case rel => exact ⟨set + 1, by go_num, by rw [HS2.out], by omega, by omega, by rw [HS2.out]; exact (HBest.out.past HQi.out).past HBz.out, pt (pt HQ0.out HQi.out) HBz.out⟩
            case measure => simp [intOf]; omega
          | false =>
            rw [hany] at HCont
            have HS1 := Lib.hid (show bbUpto ts (set + 1) = if betterB best bound L (busyV ts L) = true then (some L, busyV ts L) else (best, bound) by rw [HSt.out, HAny.out, if_neg (by rw [hany]; simp)])
            have HBb := Lib.hid fun W (hW : Below wr.heap.size wr W) => HBusy.out W (some ⟨bA, oA, none⟩) c' L (pt HQ.out (pt HQi.out hW)) ((HRow.out.below hW).more hW.size) ⟨hpos, by omega, HRng.out⟩
            clear hany HSt
            have HBet := Lib.hid (show ∀ n, betterB best bound L n = (best.isNone || (decide (bound < n) || (decide (n = bound) && (decide (L.length < (best.getD []).length) || (decide (L.length = (best.getD []).length) && decide (cmpV L (best.getD []) < 0)))))) from fun _ => rfl)
            generalize busyV ts L = nb at *
            rcases HBest.out with ⟨rfl, rfl⟩ | ⟨lb, Ab, cb, rfl, rfl, hib⟩
            · have HS2 := Lib.hid (show bbUpto ts (set + 1) = (some L, nb) by rw [HS1.out, HBet.out]; rfl)
              have hnil0 := fun (w : World) => Lib.run_eql_slice_nil (P := Try.prog) w 28 3 none 0 0 0 0 Try.underlying28
              have hp1 : ((L.length : Int) == 0) = false := by
                have : ¬ (L.length : Int) = 0 := by omega
                simpa using this
              have hp2 : ¬ (L.length : Int) < 0 := by omega
              clear HS1 HBet
              go_wp2_with (first | (go_at_call 123; go_must (refine HCont.out.mono ?_); rintro e w5 ⟨rfl, hbz⟩; clear a1 x0 b0 b1 y0 d0 l0; have a1 := (RA.out.past (pt (pt HQ0.out HQi.out) hbz)).cellAt 1 rfl; have x0 := (RA.out.past (pt (pt HQ0.out HQi.out) hbz)).lt; have b0 := (RB.out.past (pt (pt HQ0.out HQi.out) hbz)).cellAt 0 rfl; have b1 := (RB.out.past (pt (pt HQ0.out HQi.out) hbz)).cellAt 1 rfl; have y0 := (RB.out.past (pt (pt HQ0.out HQi.out) hbz)).lt; have d0 := (Q0.out.past hbz).cellAt 0 rfl; have l0 := (Q0.out.past hbz).lt) | (go_at_call 121; go_must (refine (HBb.out _ hbz).mono ?_); rintro e w6 ⟨rfl, hb6⟩; have hbz := pt hbz hb6; clear hb6; clear a1 x0 b0 b1 y0 d0 l0; have a1 := (RA.out.past (pt (pt HQ0.out HQi.out) hbz)).cellAt 1 rfl; have x0 := (RA.out.past (pt (pt HQ0.out HQi.out) hbz)).lt; have b0 := (RB.out.past (pt (pt HQ0.out HQi.out) hbz)).cellAt 0 rfl; have b1 := (RB.out.past (pt (pt HQ0.out HQi.out) hbz)).cellAt 1 rfl; have y0 := (RB.out.past (pt (pt HQ0.out HQi.out) hbz)).lt; have d0 := (Q0.out.past hbz).cellAt 0 rfl; have l0 := (Q0.out.past hbz).lt) | (go_at_call 124; go_must (refine (HCmp.out _ hbz).mono ?_); rintro e w7 ⟨rfl, hb7⟩; have hbz := pt hbz hb7; clear hb7; clear a1 x0 b0 b1 y0 d0 l0; have a1 := (RA.out.past (pt (pt HQ0.out HQi.out) hbz)).cellAt 1 rfl; have x0 := (RA.out.past (pt (pt HQ0.out HQi.out) hbz)).lt; have b0 := (RB.out.past (pt (pt HQ0.out HQi.out) hbz)).cellAt 0 rfl; have b1 := (RB.out.past (pt (pt HQ0.out HQi.out) hbz)).cellAt 1 rfl; have y0 := (RB.out.past (pt (pt HQ0.out HQi.out) hbz)).lt; have d0 := (Q0.out.past hbz).cellAt 0 rfl; have l0 := (Q0.out.past hbz).lt))
              have HBz := Lib.hid hbz
              clear hbz
              go_roundw
              case rel => exact ⟨set + 1, by go_num, by rw [HS2.out], by omega, by omega, by rw [HS2.out]; exact .inr ⟨L, ⟨bA, oA, none⟩, c', rfl, rfl, (HRow.out.below HBz.out).more HBz.out.size⟩, pt (pt HQ0.out HQi.out) HBz.out⟩
              case measure => simp [intOf]; omega
            · have hbl : lb.length ≤ ts.length := HBl.out lb rfl
              have hnil1 := fun (w : World) => Lib.run_eql_slice_nil (P := Try.prog) w 28 3 (some Ab) lb.length cb 0 0 Try.underlying28
              have HIb := Lib.hid hib
              clear hib
              have HBet := Lib.hid (show ∀ n, betterB (some lb) bound L n = (decide (bound < n) || (decide (n = bound) && (decide (L.length < lb.length) || (decide (L.length = lb.length) && decide (cmpV L lb < 0))))) from fun n => by rw [HBet.out]; rfl)
              by_cases c1 : L.length < lb.length
              · have c1' : decide ((L.length : Int) < (lb.length : Int)) = true := decide_eq_true (by omega)
                have HSm := Lib.hid (show (decide (L.length < lb.length) || (decide (L.length = lb.length) && decide (cmpV L lb < 0))) = true by simp [c1])
                by_cases h1 : bound < nb
                · have HS2 := Lib.hid (show bbUpto ts (set + 1) = (some L, nb) by rw [HS1.out, HBet.out]; simp [h1])
                  have h1' : decide (bound < nb) = true := decide_eq_true h1
                  clear HS1 HBet
                  go_wp2_with (first | (go_at_call 123; go_must (refine HCont.out.mono ?_); rintro e w5 ⟨rfl, hbz⟩; clear a1 x0 b0 b1 y0 d0 l0; have a1 := (RA.out.past (pt (pt HQ0.out HQi.out) hbz)).cellAt 1 rfl; have x0 := (RA.out.past (pt (pt HQ0.out HQi.out) hbz)).lt; have b0 := (RB.out.past (pt (pt HQ0.out HQi.out) hbz)).cellAt 0 rfl; have b1 := (RB.out.past (pt (pt HQ0.out HQi.out) hbz)).cellAt 1 rfl; have y0 := (RB.out.past (pt (pt HQ0.out HQi.out) hbz)).lt; have d0 := (Q0.out.past hbz).cellAt 0 rfl; have l0 := (Q0.out.past hbz).lt) | (go_at_call 121; go_must (refine (HBb.out _ hbz).mono ?_); rintro e w6 ⟨rfl, hb6⟩; have hbz := pt hbz hb6; clear hb6; clear a1 x0 b0 b1 y0 d0 l0; have a1 := (RA.out.past (pt (pt HQ0.out HQi.out) hbz)).cellAt 1 rfl; have x0 := (RA.out.past (pt (pt HQ0.out HQi.out) hbz)).lt; have b0 := (RB.out.past (pt (pt HQ0.out HQi.out) hbz)).cellAt 0 rfl; have b1 := (RB.out.past (pt (pt HQ0.out HQi.out) hbz)).cellAt 1 rfl; have y0 := (RB.out.past (pt (pt HQ0.out HQi.out) hbz)).lt; have d0 := (Q0.out.past hbz).cellAt 0 rfl; have l0 := (Q0.out.past hbz).lt) | (go_at_call 124; go_must (refine (HCmp.out _ hbz).mono ?_); rintro e w7 ⟨rfl, hb7⟩; have hbz := pt hbz hb7; clear hb7; clear a1 x0 b0 b1 y0 d0 l0; have a1 := (RA.out.past (pt (pt HQ0.out HQi.out) hbz)).cellAt 1 rfl; have x0 := (RA.out.past (pt (pt HQ0.out HQi.out) hbz)).lt; have b0 := (RB.out.past (pt (pt HQ0.out HQi.out) hbz)).cellAt 0 rfl; have b1 := (RB.out.past (pt (pt HQ0.out HQi.out) hbz)).cellAt 1 rfl; have y0 := (RB.out.past (pt (pt HQ0.out HQi.out) hbz)).lt; have d0 := (Q0.out.past hbz).cellAt 0 rfl; have l0 := (Q0.out.past hbz).lt))
                  have HBz := Lib.hid hbz
                  clear hbz
                  go_roundw
                  case rel => exact ⟨set + 1, by go_num, by rw [HS2.out], by omega, by omega, by rw [HS2.out]; exact .inr ⟨L, ⟨bA, oA, none⟩, c', rfl, rfl, (HRow.out.below HBz.out).more HBz.out.size⟩, pt (pt HQ0.out HQi.out) HBz.out⟩
                  case measure => simp [intOf]; omega
                · by_cases h2 : nb = bound
                  · have HS2 := Lib.hid (show bbUpto ts (set + 1) = (some L, nb) by rw [HS1.out, HBet.out, decide_eq_false h1, decide_eq_true h2, HSm.out]; rfl)
                    have h1' : decide (bound < nb) = false := decide_eq_false h1
                    have h2' : ((nb : Int) == bound) = true := by simpa using h2
                    have H2 := Lib.hid h2
                    clear HS1 HBet h2
                    go_wp2_with (first | (go_at_call 123; go_must (refine HCont.out.mono ?_); rintro e w5 ⟨rfl, hbz⟩; clear a1 x0 b0 b1 y0 d0 l0; have a1 := (RA.out.past (pt (pt HQ0.out HQi.out) hbz)).cellAt 1 rfl; have x0 := (RA.out.past (pt (pt HQ0.out HQi.out) hbz)).lt; have b0 := (RB.out.past (pt (pt HQ0.out HQi.out) hbz)).cellAt 0 rfl; have b1 := (RB.out.past (pt (pt HQ0.out HQi.out) hbz)).cellAt 1 rfl; have y0 := (RB.out.past (pt (pt HQ0.out HQi.out) hbz)).lt; have d0 := (Q0.out.past hbz).cellAt 0 rfl; have l0 := (Q0.out.past hbz).lt) | (go_at_call 121; go_must (refine (HBb.out _ hbz).mono ?_); rintro e w6 ⟨rfl, hb6⟩; have hbz := pt hbz hb6; clear hb6; clear a1 x0 b0 b1 y0 d0 l0; have a1 := (RA.out.past (pt (pt HQ0.out HQi.out) hbz)).cellAt 1 rfl; have x0 := (RA.out.past (pt (pt HQ0.out HQi.out) hbz)).lt; have b0 := (RB.out.past (pt (pt HQ0.out HQi.out) hbz)).cellAt 0 rfl; have b1 := (RB.out.past (pt (pt HQ0.out HQi.out) hbz)).cellAt 1 rfl; have y0 := (RB.out.past (pt (pt HQ0.out HQi.out) hbz)).lt; have d0 := (Q0.out.past hbz).cellAt 0 rfl; have l0 := (Q0.out.past hbz).lt) | (go_at_call 124; go_must (refine (HCmp.out _ hbz).mono ?_); rintro e w7 ⟨rfl, hb7⟩; have hbz := pt hbz hb7; clear hb7; clear a1 x0 b0 b1 y0 d0 l0; have a1 := (RA.out.past (pt (pt HQ0.out HQi.out) hbz)).cellAt 1 rfl; have x0 := (RA.out.past (pt (pt HQ0.out HQi.out) hbz)).lt; have b0 := (RB.out.past (pt (pt HQ0.out HQi.out) hbz)).cellAt 0 rfl; have b1 := (RB.out.past (pt (pt HQ0.out HQi.out) hbz)).cellAt 1 rfl; have y0 := (RB.out.past (pt (pt HQ0.out HQi.out) hbz)).lt; have d0 := (Q0.out.past hbz).cellAt 0 rfl; have l0 := (Q0.out.past hbz).lt))
                    have HBz := Lib.hid hbz
                    clear hbz
                    go_roundw
                    case rel => exact ⟨set + 1, by go_num, by rw [HS2.out], by omega, by omega, by rw [HS2.out]; exact .inr ⟨L, ⟨bA, oA, none⟩, c', rfl, rfl, (HRow.out.below HBz.out).more HBz.out.size⟩, pt (pt HQ0.out HQi.out) HBz.out⟩
                    case measure => simp [intOf]; omega
                  · have HS2 := Lib.hid (show bbUpto ts (set + 1) = (some lb, bound) by rw [HS1.out, HBet.out, decide_eq_false h1, decide_eq_false h2]; rfl)
                    have h1' : decide (bound < nb) = false := decide_eq_false h1
                    have h2' : ((nb : Int) == bound) = false := by simpa using h2
                    clear HS1 HBet
                    go_wp2_with (first | (go_at_call 123; go_must (refine HCont.out.mono ?_); rintro e w5 ⟨rfl, hbz⟩; clear a1 x0 b0 b1 y0 d0 l0; have a1 := (RA.out.past (pt (pt HQ0.out HQi.out) hbz)).cellAt 1 rfl; have x0 := (RA.out.past (pt (pt HQ0.out HQi.out) hbz)).lt; have b0 := (RB.out.past (pt (pt HQ0.out HQi.out) hbz)).cellAt 0 rfl; have b1 := (RB.out.past (pt (pt HQ0.out HQi.out) hbz)).cellAt 1 rfl; have y0 := (RB.out.past (pt (pt HQ0.out HQi.out) hbz)).lt; have d0 := (Q0.out.past hbz).cellAt 0 rfl; have l0 := (Q0.out.past hbz).lt) | (go_at_call 121; go_must (refine (HBb.out _ hbz).mono ?_); rintro e w6 ⟨rfl, hb6⟩; have hbz := pt hbz hb6; clear hb6; clear a1 x0 b0 b1 y0 d0 l0; have a1 := (RA.out.past (pt (pt HQ0.out HQi.out) hbz)).cellAt 1 rfl; have x0 := (RA.out.past (pt (pt HQ0.out HQi.out) hbz)).lt; have b0 := (RB.out.past (pt (pt HQ0.out HQi.out) hbz)).cellAt 0 rfl; have b1 := (RB.out.past (pt (pt HQ0.out HQi.out) hbz)).cellAt 1 rfl; have y0 := (RB.out.past (pt (pt HQ0.out HQi.out) hbz)).lt; have d0 := (Q0.out.past hbz).cellAt 0 rfl; have l0 := (Q0.out.past hbz).lt) | (go_at_call 124; go_must (refine (HCmp.out _ hbz).mono ?_); rintro e w7 ⟨rfl, hb7⟩; have hbz := pt hbz hb7; clear hb7; clear a1 x0 b0 b1 y0 d0 l0; have a1 := (RA.out.past (pt (pt HQ0.out HQi.out) hbz)).cellAt 1 rfl; have x0 := (RA.out.past (pt (pt HQ0.out HQi.out) hbz)).lt; have b0 := (RB.out.past (pt (pt HQ0.out HQi.out) hbz)).cellAt 0 rfl; have b1 := (RB.out.past (pt (pt HQ0.out HQi.out) hbz)).cellAt 1 rfl; have y0 := (RB.out.past (pt (pt HQ0.out HQi.out) hbz)).lt; have d0 := (Q0.out.past hbz).cellAt 0 rfl; have l0 := (Q0.out.past hbz).lt))
                    have HBz := Lib.hid hbz
                    clear hbz
                    go_roundw
                    case rel => exact ⟨set + 1, by go_num, by rw [HS2.out], by omega, by omega, by rw [HS2.out]; exact (HBest.out.past HQi.out).past HBz.out, pt (pt HQ0.out HQi.out) HBz.out⟩
                    case measure => simp [intOf]; omega
              · have c1' : decide ((L.length : Int) < (lb.length : Int)) = false := decide_eq_false (by omega)
                by_cases c2 : L.length = lb.length
                · have c2' : ((L.length : Int) == (lb.length : Int)) = true := by simp [c2]
                  have HCmp := Lib.hid fun W (hW : Below wr.heap.size wr W) => compare_any2 W.heap.size (some ⟨bA, oA, none⟩) (some Ab) L.length lb.length c' cb L lb W ((HRow.out.below hW).more hW.size) ((HIb.out.below (pt HQi.out hW)).more (pt HQi.out hW).size) (Nat.le_refl _) rfl rfl c2.symm (by omega)
                  have HSm0 := Lib.hid (show (decide (L.length < lb.length) || (decide (L.length = lb.length) && decide (cmpV L lb < 0))) = decide (cmpV L lb < 0) by simp [c2])
                  clear c2
                  generalize cmpV L lb = cv at *
                  by_cases c3 : cv < 0
                  · have c3' : decide (cv < 0) = true := decide_eq_true c3
                    have HSm := Lib.hid (show (decide (L.length < lb.length) || (decide (L.length = lb.length) && decide (cv < 0))) = true by rw [HSm0.out, c3'])
                    by_cases h1 : bound < nb
                    · have HS2 := Lib.hid (show bbUpto ts (set + 1) = (some L, nb) by rw [HS1.out, HBet.out]; simp [h1])
                      have h1' : decide (bound < nb) = true := decide_eq_true h1
                      clear HS1 HBet
                      go_wp2_with (first | (go_at_call 123; go_must (refine HCont.out.mono ?_); rintro e w5 ⟨rfl, hbz⟩; clear a1 x0 b0 b1 y0 d0 l0; have a1 := (RA.out.past (pt (pt HQ0.out HQi.out) hbz)).cellAt 1 rfl; have x0 := (RA.out.past (pt (pt HQ0.out HQi.out) hbz)).lt; have b0 := (RB.out.past (pt (pt HQ0.out HQi.out) hbz)).cellAt 0 rfl; have b1 := (RB.out.past (pt (pt HQ0.out HQi.out) hbz)).cellAt 1 rfl; have y0 := (RB.out.past (pt (pt HQ0.out HQi.out) hbz)).lt; have d0 := (Q0.out.past hbz).cellAt 0 rfl; have l0 := (Q0.out.past hbz).lt) | (go_at_call 121; go_must (refine (HBb.out _ hbz).mono ?_); rintro e w6 ⟨rfl, hb6⟩; have hbz := pt hbz hb6; clear hb6; clear a1 x0 b0 b1 y0 d0 l0; have a1 := (RA.out.past (pt (pt HQ0.out HQi.out) hbz)).cellAt 1 rfl; have x0 := (RA.out.past (pt (pt HQ0.out HQi.out) hbz)).lt; have b0 := (RB.out.past (pt (pt HQ0.out HQi.out) hbz)).cellAt 0 rfl; have b1 := (RB.out.past (pt (pt HQ0.out HQi.out) hbz)).cellAt 1 rfl; have y0 := (RB.out.past (pt (pt HQ0.out HQi.out) hbz)).lt; have d0 := (Q0.out.past hbz).cellAt 0 rfl; have l0 := (Q0.out.past hbz).lt) | (go_at_call 124; go_must (refine (HCmp.out _ hbz).mono ?_); rintro e w7 ⟨rfl, hb7⟩; have hbz := pt hbz hb7; clear hb7; clear a1 x0 b0 b1 y0 d0 l0; have a1 := (RA.out.past (pt (pt HQ0.out HQi.out) hbz)).cellAt 1 rfl; have x0 := (RA.out.past (pt (pt HQ0.out HQi.out) hbz)).lt; have b0 := (RB.out.past (pt (pt HQ0.out HQi.out) hbz)).cellAt 0 rfl; have b1 := (RB.out.past (pt (pt HQ0.out HQi.out) hbz)).cellAt 1 rfl; have y0 := (RB.out.past (pt (pt HQ0.out HQi.out) hbz)).lt; have d0 := (Q0.out.past hbz).cellAt 0 rfl; have l0 := (Q0.out.past hbz).lt))
                      have HBz := Lib.hid hbz
                      clear hbz
                      go_roundw
                      case rel => exact ⟨set + 1, by go_num, by rw [HS2.out], by omega, by omega, by rw [HS2.out]; exact .inr ⟨L, ⟨bA, oA, none⟩, c', rfl, rfl, (HRow.out.below HBz.out).more HBz.out.size⟩, pt (pt HQ0.out HQi.out) HBz.out⟩
                      case measure => simp [intOf]; omega
                    · by_cases h2 : nb = bound
                      · have HS2 := Lib.hid (show bbUpto ts (set + 1) = (some L, nb) by rw [HS1.out, HBet.out, decide_eq_false h1, decide_eq_true h2, HSm.out]; rfl)
                        have h1' : decide (bound < nb) = false := decide_eq_false h1
                        have h2' : ((nb : Int) == bound) = true := by simpa using h2
                        have H2 := Lib.hid h2
                        clear HS1 HBet h2
                        go_wp2_with (first | (go_at_call 123; go_must (refine HCont.out.mono ?_); rintro e w5 ⟨rfl, hbz⟩; clear a1 x0 b0 b1 y0 d0 l0; have a1 := (RA.out.past (pt (pt HQ0.out HQi.out) hbz)).cellAt 1 rfl; have x0 := (RA.out.past (pt (pt HQ0.out HQi.out) hbz)).lt; have b0 := (RB.out.past (pt (pt HQ0.out HQi.out) hbz)).cellAt 0 rfl; have b1 := (RB.out.past (pt (pt HQ0.out HQi.out) hbz)).cellAt 1 rfl; have y0 := (RB.out.past (pt (pt HQ0.out HQi.out) hbz)).lt; have d0 := (Q0.out.past hbz).cellAt 0 rfl; have l0 := (Q0.out.past hbz).lt) | (go_at_call 121; go_must (refine (HBb.out _ hbz).mono ?_); rintro e w6 ⟨rfl, hb6⟩; have hbz := pt hbz hb6; clear hb6; clear a1 x0 b0 b1 y0 d0 l0; have a1 := (RA.out.past (pt (pt HQ0.out HQi.out) hbz)).cellAt 1 rfl; have x0 := (RA.out.past (pt (pt HQ0.out HQi.out) hbz)).lt; have b0 := (RB.out.past (pt (pt HQ0.out HQi.out) hbz)).cellAt 0 rfl; have b1 := (RB.out.past (pt (pt HQ0.out HQi.out) hbz)).cellAt 1 rfl; have y0 := (RB.out.past (pt (pt HQ0.out HQi.out) hbz)).lt; have d0 := (Q0.out.past hbz).cellAt 0 rfl; have l0 := (Q0.out.past hbz).lt) | (go_at_call 124; go_must (refine (HCmp.out _ hbz).mono ?_); rintro e w7 ⟨rfl, hb7⟩; have hbz := pt hbz hb7; clear hb7; clear a1 x0 b0 b1 y0 d0 l0; have a1 := (RA.out.past (pt (pt HQ0.out HQi.out) hbz)).cellAt 1 rfl; have x0 := (RA.out.past (pt (pt HQ0.out HQi.out) hbz)).lt; have b0 := (RB.out.past (pt (pt HQ0.out HQi.out) hbz)).cellAt 0 rfl; have b1 := (RB.out.past (pt (pt HQ0.out HQi.out) hbz)).cellAt 1 rfl; have y0 := (RB.out.past (pt (pt HQ0.out HQi.out) hbz)).lt; have d0 := (Q0.out.past hbz).cellAt 0 rfl; have l0 := (Q0.out.past hbz).lt))
                        have HBz := Lib.hid hbz
                        clear hbz
                        go_roundw
                        case rel => exact ⟨set + 1, by go_num, by rw [HS2.out], by omega, by omega, by rw [HS2.out]; exact .inr ⟨L, ⟨bA, oA, none⟩, c', rfl, rfl, (HRow.out.below HBz.out).more HBz.out.size⟩, pt (pt HQ0.out HQi.out) HBz.out⟩
                        case measure => simp [intOf]; omega
                      · have HS2 := Lib.hid (show bbUpto ts (set + 1) = (some lb, bound) by rw [HS1.out, HBet.out, decide_eq_false h1, decide_eq_false h2]; rfl)
                        have h1' : decide (bound < nb) = false := decide_eq_false h1
                        have h2' : ((nb : Int) == bound) = false := by simpa using h2
                        clear HS1 HBet
                        go_wp2_with (first | (go_at_call 123; go_must (refine HCont.out.mono ?_); rintro e w5 ⟨rfl, hbz⟩; clear a1 x0 b0 b1 y0 d0 l0; have a1 := (RA.out.past (pt (pt HQ0.out HQi.out) hbz)).cellAt 1 rfl; have x0 := (RA.out.past (pt (pt HQ0.out HQi.out) hbz)).lt; have b0 := (RB.out.past (pt (pt HQ0.out HQi.out) hbz)).cellAt 0 rfl; have b1 := (RB.out.past (pt (pt HQ0.out HQi.out) hbz)).cellAt 1 rfl; have y0 := (RB.out.past (pt (pt HQ0.out HQi.out) hbz)).lt; have d0 := (Q0.out.past hbz).cellAt 0 rfl; have l0 := (Q0.out.past hbz).lt) | (go_at_call 121; go_must (refine (HBb.out _ hbz).mono ?_); rintro e w6 ⟨rfl, hb6⟩; have hbz := pt hbz hb6; clear hb6; clear a1 x0 b0 b1 y0 d0 l0; have a1 := (RA.out.past (pt (pt HQ0.out HQi.out) hbz)).cellAt 1 rfl; have x0 := (RA.out.past (pt (pt HQ0.out HQi.out) hbz)).lt; have b0 := (RB.out.past (pt (pt HQ0.out HQi.out) hbz)).cellAt 0 rfl; have b1 := (RB.out.past (pt (pt HQ0.out HQi.out) hbz)).cellAt 1 rfl; have y0 := (RB.out.past (pt (pt HQ0.out HQi.out) hbz)).lt; have d0 := (Q0.out.past hbz).cellAt 0 rfl; have l0 := (Q0.out.past hbz).lt) | (go_at_call 124; go_must (refine (HCmp.out _ hbz).mono ?_); rintro e w7 ⟨rfl, hb7⟩; have hbz := pt hbz hb7; clear hb7; clear a1 x0 b0 b1 y0 d0 l0; have a1 := (RA.out.past (pt (pt HQ0.out HQi.out) hbz)).cellAt 1 rfl; have x0 := (RA.out.past (pt (pt HQ0.out HQi.out) hbz)).lt; have b0 := (RB.out.past (pt (pt HQ0.out HQi.out) hbz)).cellAt 0 rfl; have b1 := (RB.out.past (pt (pt HQ0.out HQi.out) hbz)).cellAt 1 rfl; have y0 := (RB.out.past (pt (pt HQ0.out HQi.out) hbz)).lt; have d0 := (Q0.out.past hbz).cellAt 0 rfl; have l0 := (Q0.out.past hbz).lt))
                        have HBz := Lib.hid hbz
                        clear hbz
                        go_roundw
                        case rel => exact ⟨set + 1, by go_num, by rw [HS2.out], by omega, by omega, by rw [HS2.out]; exact (HBest.out.past HQi.out).past HBz.out, pt (pt HQ0.out HQi.out) HBz.out⟩
                        case measure => simp [intOf]; omega
                  · have c3' : decide (cv < 0) = false := decide_eq_false c3
                    have HSm := Lib.hid (show (decide (L.length < lb.length) || (decide (L.length = lb.length) && decide (cv < 0))) = false by rw [HSm0.out, c3'])
                    by_cases h1 : bound < nb
                    · have HS2 := Lib.hid (show bbUpto ts (set + 1) = (some L, nb) by rw [HS1.out, HBet.out]; simp [h1])
                      have h1' : decide (bound < nb) = true := decide_eq_true h1
                      clear HS1 HBet
                      go_wp2_with (first | (go_at_call 123; go_must (refine HCont.out.mono ?_); rintro e w5 ⟨rfl, hbz⟩; clear a1 x0 b0 b1 y0 d0 l0; have a1 := (RA.out.past (pt (pt HQ0.out HQi.out) hbz)).cellAt 1 rfl; have x0 := (RA.out.past (pt (pt HQ0.out HQi.out) hbz)).lt; have b0 := (RB.out.past (pt (pt HQ0.out HQi.out) hbz)).cellAt 0 rfl; have b1 := (RB.out.past (pt (pt HQ0.out HQi.out) hbz)).cellAt 1 rfl; have y0 := (RB.out.past (pt (pt HQ0.out HQi.out) hbz)).lt; have d0 := (Q0.out.past hbz).cellAt 0 rfl; have l0 := (Q0.out.past hbz).lt) | (go_at_call 121; go_must (refine (HBb.out _ hbz).mono ?_); rintro e w6 ⟨rfl, hb6⟩; have hbz := pt hbz hb6; clear hb6; clear a1 x0 b0 b1 y0 d0 l0; have a1 := (RA.out.past (pt (pt HQ0.out HQi.out) hbz)).cellAt 1 rfl; have x0 := (RA.out.past (pt (pt HQ0.out HQi.out) hbz)).lt; have b0 := (RB.out.past (pt (pt HQ0.out HQi.out) hbz)).cellAt 0 rfl; have b1 := (RB.out.past (pt (pt HQ0.out HQi.out) hbz)).cellAt 1 rfl; have y0 := (RB.out.past (pt (pt HQ0.out HQi.out) hbz)).lt; have d0 := (Q0.out.past hbz).cellAt 0 rfl; have l0 := (Q0.out.past hbz).lt) | (go_at_call 124; go_must (refine (HCmp.out _ hbz).mono ?_); rintro e w7 ⟨rfl, hb7⟩; have hbz := pt hbz hb7; clear hb7; clear a1 x0 b0 b1 y0 d0 l0; have a1 := (RA.out.past (pt (pt HQ0.out HQi.out) hbz)).cellAt 1 rfl; have x0 := (RA.out.past (pt (pt HQ0.out HQi.out) hbz)).lt; have b0 := (RB.out.past (pt (pt HQ0.out HQi.out) hbz)).cellAt 0 rfl; have b1 := (RB.out.past (pt (pt HQ0.out HQi.out) hbz)).cellAt 1 rfl; have y0 := (RB.out.past (pt (pt HQ0.out HQi.out) hbz)).lt; have d0 := (Q0.out.past hbz).cellAt 0 rfl; have l0 := (Q0.out.past hbz).lt))
                      have HBz := Lib.hid hbz
                      clear hbz
                      go_roundw
                      case rel => exact ⟨set + 1, by go_num, by rw [HS2.out], by omega, by omega, by rw [HS2.out]; exact .inr ⟨L, ⟨bA, oA, none⟩, c', rfl, rfl, (HRow.out.below HBz.out).more HBz.out.size⟩, pt (pt HQ0.out HQi.out) HBz.out⟩
                      case measure => simp [intOf]; omega
                    · by_cases h2 : nb = bound
                      · have HS2 := Lib.hid (show bbUpto ts (set + 1) = (some lb, bound) by rw [HS1.out, HBet.out, decide_eq_false h1, decide_eq_true h2, HSm.out]; rfl)
                        have h1' : decide (bound < nb) = false := decide_eq_false h1
                        have h2' : ((nb : Int) == bound) = true := by simpa using h2
                        have H2 := Lib.hid h2
                        clear HS1 HBet h2
                        go_wp2_with (first | (go_at_call 123; go_must (refine HCont.out.mono ?_); rintro e w5 ⟨rfl, hbz⟩; clear a1 x0 b0 b1 y0 d0 l0; have a1 := (RA.out.past (pt (pt HQ0.out HQi.out) hbz)).cellAt 1 rfl; have x0 := (RA.out.past (pt (pt HQ0.out HQi.out) hbz)).lt; have b0 := (RB.out.past (pt (pt HQ0.out HQi.out) hbz)).cellAt 0 rfl; have b1 := (RB.out.past (pt (pt HQ0.out HQi.out) hbz)).cellAt 1 rfl; have y0 := (RB.out.past (pt (pt HQ0.out HQi.out) hbz)).lt; have d0 := (Q0.out.past hbz).cellAt 0 rfl; have l0 := (Q0.out.past hbz).lt) | (go_at_call 121; go_must (refine (HBb.out _ hbz).mono ?_); rintro e w6 ⟨rfl, hb6⟩; have hbz := pt hbz hb6; clear hb6; clear a1 x0 b0 b1 y0 d0 l0; have a1 := (RA.out.past (pt (pt HQ0.out HQi.out) hbz)).cellAt 1 rfl; have x0 := (RA.out.past (pt (pt HQ0.out HQi.out) hbz)).lt; have b0 := (RB.out.past (pt (pt HQ0.out HQi.out) hbz)).cellAt 0 rfl; have b1 := (RB.out.past (pt (pt HQ0.out HQi.out) hbz)).cellAt 1 rfl; have y0 := (RB.out.past (pt (pt HQ0.out HQi.out) hbz)).lt; have d0 := (Q0.out.past hbz).cellAt 0 rfl; have l0 := (Q0.out.past hbz).lt) | (go_at_call 124; go_must (refine (HCmp.out _ hbz).mono ?_); rintro e w7 ⟨rfl, hb7⟩; have hbz := pt hbz hb7; clear hb7; clear a1 x0 b0 b1 y0 d0 l0; have a1 := (RA.out.past (pt (pt HQ0.out HQi.out) hbz)).cellAt 1 rfl; have x0 := (RA.out.past (pt (pt HQ0.out HQi.out) hbz)).lt; have b0 := (RB.out.past (pt (pt HQ0.out HQi.out) hbz)).cellAt 0 rfl; have b1 := (RB.out.past (pt (pt HQ0.out HQi.out) hbz)).cellAt 1 rfl; have y0 := (RB.out.past (pt (pt HQ0.out HQi.out) hbz)).lt; have d0 := (Q0.out.past hbz).cellAt 0 rfl; have l0 := (Q0.out.past hbz).lt))
                        have HBz := Lib.hid hbz
                        clear hbz
                        go_roundw
                        case rel => exact ⟨set + 1, by go_num, by rw [HS2.out], by omega, by omega, by rw [HS2.out]; exact (HBest.out.past HQi.out).past HBz.out, pt (pt HQ0.out HQi.out) HBz.out⟩
                        case measure => simp [intOf]; omega
                      · have HS2 := Lib.hid (show bbUpto ts (set + 1) = (some lb, bound) by rw [HS1.out, HBet.out, decide_eq_false h1, decide_eq_false h2]; rfl)
                        have h1' : decide (bound < nb) = false := decide_eq_false h1
                        have h2' : ((nb : Int) == bound) = false := by simpa using h2
                        clear HS1 HBet
                        go_wp2_with (first | (go_at_call 123; go_must (refine HCont.out.mono ?_); rintro e w5 ⟨rfl, hbz⟩; clear a1 x0 b0 b1 y0 d0 l0; have a1 := (RA.out.past (pt (pt HQ0.out HQi.out) hbz)).cellAt 1 rfl; have x0 := (RA.out.past (pt (pt HQ0.out HQi.out) hbz)).lt; have b0 := (RB.out.past (pt (pt HQ0.out HQi.out) hbz)).cellAt 0 rfl; have b1 := (RB.out.past (pt (pt HQ0.out HQi.out) hbz)).cellAt 1 rfl; have y0 := (RB.out.past (pt (pt HQ0.out HQi.out) hbz)).lt; have d0 := (Q0.out.past hbz).cellAt 0 rfl; have l0 := (Q0.out.past hbz).lt) | (go_at_call 121; go_must (refine (HBb.out _ hbz).mono ?_); rintro e w6 ⟨rfl, hb6⟩; have hbz := pt hbz hb6; clear hb6; clear a1 x0 b0 b1 y0 d0 l0; have a1 := (RA.out.past (pt (pt HQ0.out HQi.out) hbz)).cellAt 1 rfl; have x0 := (RA.out.past (pt (pt HQ0.out HQi.out) hbz)).lt; have b0 := (RB.out.past (pt (pt HQ0.out HQi.out) hbz)).cellAt 0 rfl; have b1 := (RB.out.past (pt (pt HQ0.out HQi.out) hbz)).cellAt 1 rfl; have y0 := (RB.out.past (pt (pt HQ0.out HQi.out) hbz)).lt; have d0 := (Q0.out.past hbz).cellAt 0 rfl; have l0 := (Q0.out.past hbz).lt) | (go_at_call 124; go_must (refine (HCmp.out _ hbz).mono ?_); rintro e w7 ⟨rfl, hb7⟩; have hbz := pt hbz hb7; clear hb7; clear a1 x0 b0 b1 y0 d0 l0; have a1 := (RA.out.past (pt (pt HQ0.out HQi.out) hbz)).cellAt 1 rfl; have x0 := (RA.out.past (pt (pt HQ0.out HQi.out) hbz)).lt; have b0 := (RB.out.past (pt (pt HQ0.out HQi.out) hbz)).cellAt 0 rfl; have b1 := (RB.out.past (pt (pt HQ0.out HQi.out) hbz)).cellAt 1 rfl; have y0 := (RB.out.past (pt (pt HQ0.out HQi.out) hbz)).lt; have d0 := (Q0.out.past hbz).cellAt 0 rfl; have l0 := (Q0.out.past hbz).lt))
                        have HBz := Lib.hid hbz
                        clear hbz
                        go_roundw
                        case rel => exact ⟨set + 1, by go_num, by rw [HS2.out], by omega, by omega, by rw [HS2.out]; exact (HBest.out.past HQi.out).past HBz.out, pt (pt HQ0.out HQi.out) HBz.out⟩
                        case measure => simp [intOf]; omega
                · have c2' : ((L.length : Int) == (lb.length : Int)) = false := by
                    have : ¬ (L.length : Int) = (lb.length : Int) := by omega
                    simpa using this
                  have HSm := Lib.hid (show (decide (L.length < lb.length) || (decide (L.length = lb.length) && decide (cmpV L lb < 0))) = false by simp [c1, c2])
                  by_cases h1 : bound < nb
                  · have HS2 := Lib.hid (show bbUpto ts (set + 1) = (some L, nb) by rw [HS1.out, HBet.out]; simp [h1])
                    have h1' : decide (bound < nb) = true := decide_eq_true h1
                    clear HS1 HBet
                    go_wp2_with (first | (go_at_call 123; go_must (refine HCont.out.mono ?_); rintro e w5 ⟨rfl, hbz⟩; clear a1 x0 b0 b1 y0 d0 l0; have a1 := (RA.out.past (pt (pt HQ0.out HQi.out) hbz)).cellAt 1 rfl; have x0 := (RA.out.past (pt (pt HQ0.out HQi.out) hbz)).lt; have b0 := (RB.out.past (pt (pt HQ0.out HQi.out) hbz)).cellAt 0 rfl; have b1 := (RB.out.past (pt (pt HQ0.out HQi.out) hbz)).cellAt 1 rfl; have y0 := (RB.out.past (pt (pt HQ0.out HQi.out) hbz)).lt; have d0 := (Q0.out.past hbz).cellAt 0 rfl; have l0 := (Q0.out.past hbz).lt) | (go_at_call 121; go_must (refine (HBb.out _ hbz).mono ?_); rintro e w6 ⟨rfl, hb6⟩; have hbz := pt hbz hb6; clear hb6; clear a1 x0 b0 b1 y0 d0 l0; have a1 := (RA.out.past (pt (pt HQ0.out HQi.out) hbz)).cellAt 1 rfl; have x0 := (RA.out.past (pt (pt HQ0.out HQi.out) hbz)).lt; have b0 := (RB.out.past (pt (pt HQ0.out HQi.out) hbz)).cellAt 0 rfl; have b1 := (RB.out.past (pt (pt HQ0.out HQi.out) hbz)).cellAt 1 rfl; have y0 := (RB.out.past (pt (pt HQ0.out HQi.out) hbz)).lt; have d0 := (Q0.out.past hbz).cellAt 0 rfl; have l0 := (Q0.out.past hbz).lt) | (go_at_call 124; go_must (refine (HCmp.out _ hbz).mono ?_); rintro e w7 ⟨rfl, hb7⟩; have hbz := pt hbz hb7; clear hb7; clear a1 x0 b0 b1 y0 d0 l0; have a1 := (RA.out.past (pt (pt HQ0.out HQi.out) hbz)).cellAt 1 rfl; have x0 := (RA.out.past (pt (pt HQ0.out HQi.out) hbz)).lt; have b0 := (RB.out.past (pt (pt HQ0.out HQi.out) hbz)).cellAt 0 rfl; have b1 := (RB.out.past (pt (pt HQ0.out HQi.out) hbz)).cellAt 1 rfl; have y0 := (RB.out.past (pt (pt HQ0.out HQi.out) hbz)).lt; have d0 := (Q0.out.past hbz).cellAt 0 rfl; have l0 := (Q0.out.past hbz).lt))
                    have HBz := Lib.hid hbz
                    clear hbz
                    go_roundw
                    case rel => exact ⟨set + 1, by go_num, by rw [HS2.out], by omega, by omega, by rw [HS2.out]; exact .inr ⟨L, ⟨bA, oA, none⟩, c', rfl, rfl, (HRow.out.below HBz.out).more HBz.out.size⟩, pt (pt HQ0.out HQi.out) HBz.out⟩
                    case measure => simp [intOf]; omega
                  · by_cases h2 : nb = bound
                    · have HS2 := Lib.hid (show bbUpto ts (set + 1) = (some lb, bound) by rw [HS1.out, HBet.out, decide_eq_false h1, decide_eq_true h2, HSm.out]; rfl)
                      have h1' : decide (bound < nb) = false := decide_eq_false h1
                      have h2' : ((nb : Int) == bound) = true := by simpa using h2
                      have H2 := Lib.hid h2
                      clear HS1 HBet h2
                      go_wp2_with (first | (go_at_call 123; go_must (refine HCont.out.mono ?_); rintro e w5 ⟨rfl, hbz⟩; clear a1 x0 b0 b1 y0 d0 l0; have a1 := (RA.out.past (pt (pt HQ0.out HQi.out) hbz)).cellAt 1 rfl; have x0 := (RA.out.past (pt (pt HQ0.out HQi.out) hbz)).lt; have b0 := (RB.out.past (pt (pt HQ0.out HQi.out) hbz)).cellAt 0 rfl; have b1 := (RB.out.past (pt (pt HQ0.out HQi.out) hbz)).cellAt 1 rfl; have y0 := (RB.out.past (pt (pt HQ0.out HQi.out) hbz)).lt; have d0 := (Q0.out.past hbz).cellAt 0 rfl; have l0 := (Q0.out.past hbz).lt) | (go_at_call 121; go_must (refine (HBb.out _ hbz).mono ?_); rintro e w6 ⟨rfl, hb6⟩; have hbz := pt hbz hb6; clear hb6; clear a1 x0 b0 b1 y0 d0 l0; have a1 := (RA.out.past (pt (pt HQ0.out HQi.out) hbz)).cellAt 1 rfl; have x0 := (RA.out.past (pt (pt HQ0.out HQi.out) hbz)).lt; have b0 := (RB.out.past (pt (pt HQ0.out HQi.out) hbz)).cellAt 0 rfl; have b1 := (RB.out.past (pt (pt HQ0.out HQi.out) hbz)).cellAt 1 rfl; have y0 := (RB.out.past (pt (pt HQ0.out HQi.out) hbz)).lt; have d0 := (Q0.out.past hbz).cellAt 0 rfl; have l0 := (Q0.out.past hbz).lt) | (go_at_call 124; go_must (refine (HCmp.out _ hbz).mono ?_); rintro e w7 ⟨rfl, hb7⟩; have hbz := pt hbz hb7; clear hb7; clear a1 x0 b0 b1 y0 d0 l0; have a1 := (RA.out.past (pt (pt HQ0.out HQi.out) hbz)).cellAt 1 rfl; have x0 := (RA.out.past (pt (pt HQ0.out HQi.out) hbz)).lt; have b0 := (RB.out.past (pt (pt HQ0.out HQi.out) hbz)).cellAt 0 rfl; have b1 := (RB.out.past (pt (pt HQ0.out HQi.out) hbz)).cellAt 1 rfl; have y0 := (RB.out.past (pt (pt HQ0.out HQi.out) hbz)).lt; have d0 := (Q0.out.past hbz).cellAt 0 rfl; have l0 := (Q0.out.past hbz).lt))
                      have HBz := Lib.hid hbz
                      clear hbz
                      go_roundw
                      case rel => exact ⟨set + 1, by go_num, by rw [HS2.out], by omega, by omega, by rw [HS2.out]; exact (HBest.out.past HQi.out).past HBz.out, pt (pt HQ0.out HQi.out) HBz.out⟩
                      case measure => simp [intOf]; omega
                    · have HS2 := Lib.hid (show bbUpto ts (set + 1) = (some lb, bound) by rw [HS1.out, HBet.out, decide_eq_false h1, decide_eq_false h2]; rfl)
                      have h1' : decide (bound < nb) = false := decide_eq_false h1
                      have h2' : ((nb : Int) == bound) = false := by simpa using h2
                      clear HS1 HBet
                      go_wp2_with (first | (go_at_call 123; go_must (refine HCont.out.mono ?_); rintro e w5 ⟨rfl, hbz⟩; clear a1 x0 b0 b1 y0 d0 l0; have a1 := (RA.out.past (pt (pt HQ0.out HQi.out) hbz)).cellAt 1 rfl; have x0 := (RA.out.past (pt (pt HQ0.out HQi.out) hbz)).lt; have b0 := (RB.out.past (pt (pt HQ0.out HQi.out) hbz)).cellAt 0 rfl; have b1 := (RB.out.past (pt (pt HQ0.out HQi.out) hbz)).cellAt 1 rfl; have y0 := (RB.out.past (pt (pt HQ0.out HQi.out) hbz)).lt; have d0 := (Q0.out.past hbz).cellAt 0 rfl; have l0 := (Q0.out.past hbz).lt) | (go_at_call 121; go_must (refine (HBb.out _ hbz).mono ?_); rintro e w6 ⟨rfl, hb6⟩; have hbz := pt hbz hb6; clear hb6; clear a1 x0 b0 b1 y0 d0 l0; have a1 := (RA.out.past (pt (pt HQ0.out HQi.out) hbz)).cellAt 1 rfl; have x0 := (RA.out.past (pt (pt HQ0.out HQi.out) hbz)).lt; have b0 := (RB.out.past (pt (pt HQ0.out HQi.out) hbz)).cellAt 0 rfl; have b1 := (RB.out.past (pt (pt HQ0.out HQi.out) hbz)).cellAt 1 rfl; have y0 := (RB.out.past (pt (pt HQ0.out HQi.out) hbz)).lt; have d0 := (Q0.out.past hbz).cellAt 0 rfl; have l0 := (Q0.out.past hbz).lt) | (go_at_call 124; go_must (refine (HCmp.out _ hbz).mono ?_); rintro e w7 ⟨rfl, hb7⟩; have hbz := pt hbz hb7; clear hb7; clear a1 x0 b0 b1 y0 d0 l0; have a1 := (RA.out.past (pt (pt HQ0.out HQi.out) hbz)).cellAt 1 rfl; have x0 := (RA.out.past (pt (pt HQ0.out HQi.out) hbz)).lt; have b0 := (RB.out.past (pt (pt HQ0.out HQi.out) hbz)).cellAt 0 rfl; have b1 := (RB.out.past (pt (pt HQ0.out HQi.out) hbz)).cellAt 1 rfl; have y0 := (RB.out.past (pt (pt HQ0.out HQi.out) hbz)).lt; have d0 := (Q0.out.past hbz).cellAt 0 rfl; have l0 := (Q0.out.past hbz).lt))
                      have HBz := Lib.hid hbz
                      clear hbz
                      go_roundw
                      case rel => exact ⟨set + 1, by go_num, by rw [HS2.out], by omega, by omega, by rw [HS2.out]; exact (HBest.out.past HQi.out).past HBz.out, pt (pt HQ0.out HQi.out) HBz.out⟩
                      case measure => simp [intOf]; omega
    · obtain rfl : set = F := by omega
      have hlt2 : ¬ (set : Int) < (set : Int) := by omega
      go_wp2
      go_ret3
      exact ⟨_, rfl, HBest.out, HQ.out⟩

end Go.Proofs.Ytlgioldmjohhlaa
