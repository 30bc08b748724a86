/- Contract: fractions in lowest terms (package field).
append onto a row of the call's own, whatever the source (nil, empty or not); rows that read as numbers. (Turned from the page of words for memory.) No condition. -/
import Derived.Test.YtapegimghfflhaaM6
import Derived.Test.YtapegimghfflhaaM4
import Derived.Maps.AppendAt
import Derived.Deep.AppendLies
import Derived.OwnWalk

section
namespace Go.Proofs.Ytapegimghfflhaa
open Go.RowKit
theorem frac_size : (Try.prog.info? 32).map (·.size) = some 2 := by kernel_rfl
set_option maxHeartbeats 1000000 in
theorem fractionFd_any (a b : Int) (ha : WF a) (hb : 0 < b) (hb2 : SmF b) (w : World) :
    Calls Try.prog 30 #[.int .i64 a, .int .i64 b] w fun e w' => e = .returned (.tuple #[.agg #[.int .i64 (fracV a b).1, .int .i64 (fracV a b).2.1], .int .i64 (fracV a b).2.2]) ∧ Below w.heap.size w w' := by
  have HG := Lib.hid (fun W => divisorFd_any a b ha hb2 (fun h => absurd h (by omega)) W)
  have hg := gcdI_le (a := a) hb
  have HF := Lib.hid (show fracV a b = if withinB (a.tdiv (gcdI a b)) (-1000000000) 1000000000 = true ∧ b.tdiv (gcdI a b) ≤ 1000000000 then (a.tdiv (gcdI a b), b.tdiv (gcdI a b), 0) else (0, 0, 8) from rfl)
  generalize fracV a b = V at *
  generalize gcdI a b = g at *
  have h1 : (a.tdiv g).natAbs ≤ a.natAbs := by rw [Int.natAbs_tdiv]; exact Nat.div_le_self _ _
  have h2 : (b.tdiv g).natAbs ≤ b.natAbs := by rw [Int.natAbs_tdiv]; exact Nat.div_le_self _ _
  have hd : g = 1 ∨ (a.tdiv g).natAbs * 2 ≤ a.natAbs := by
    rcases Int.lt_or_le 1 g with h | h
    · right
      have h4 := Nat.div_mul_le_self a.natAbs g.natAbs
      have h3 : a.natAbs / g.natAbs * 2 ≤ a.natAbs / g.natAbs * g.natAbs := Nat.mul_le_mul_left _ (by omega)
      rw [Int.natAbs_tdiv]
      exact Nat.le_trans h3 h4
    · left; omega
  unfold WF at ha
  unfold SmF at hb2
  have hx : -9223372036854775808 ≤ a.tdiv g ∧ a.tdiv g ≤ 9223372036854775807 := by
    rcases hd with h | h
    · rw [h, Int.tdiv_one]; exact ha
    · omega
  have hw1 : IntKind.i64.wrap (a.tdiv g) = a.tdiv g := IntWalk.i64_in _ hx
  have hw2 : IntKind.i64.wrap (b.tdiv g) = b.tdiv g := IntWalk.i64_in _ (by omega)
  have g0 : ¬ g = 0 := by omega
  have g1 : (g == 0) = false := by simpa using g0
  clear h1 h2 hd hx
  have HW := Lib.hid (fun W => isSizedFd_any (a.tdiv g) 1000000000 (by decide) (by decide) W)
  go_enter Try.func30, Try.ntmps30
  go_wp2_with (go_at_call 49; refine (HG.out _).mono ?_; rintro e w1 ⟨rfl, hb1⟩; have HB1 := Lib.hid (pt (pa pr) hb1); have Z := Lib.hid ((show Blk (w.alloc (.cells #[.int .i64 0, .int .i64 0] 32)) w.heap.size 32 #[.int .i64 0, .int .i64 0] from Blk.newAt rfl).past hb1); clear hb1)
  go_quiet (fail)
  have HB2 := Lib.hid (show Below w.heap.size w (w1.drewN nq) from below_drewN' HB1.out _)
  have Z2 := Lib.hid ((Z.out).past (show Below w1.heap.size w1 (w1.drewN nq) from below_drewN' pr _))
  generalize w1.drewN nq = wr at *
  clear hw1 hw2
  generalize a.tdiv g = x at *
  generalize b.tdiv g = y at *
  generalize withinB x (-1000000000) 1000000000 = t at *
  by_cases hy : y ≤ 1000000000
  · cases t
    · have HV : V = (0, 0, 8) := by rw [HF.out]; first | (simp; done) | (simp; omega)
      have zl := Z2.out.lt
      go_wp2_with (first | (go_at_call 28; refine (HW.out _).mono ?_; rintro e w2 ⟨rfl, rfl⟩) | ((with_reducible refine store_blk (T := 32) (x := .tmp 4) (y := .tmp 23) (vs := #[.int .i64 0, .int .i64 0]) Z2.out ?_ ?_ ?_ ?_ ?_ ?_); (focus rfl); (focus exact frac_size); (focus (simp [Value.oneCell']; done)); (focus (first | rfl | (go_simp; done))); (focus (first | rfl | (go_simp; done))); intro WF RF PF))
      have r0 := RF.cellAt 0 rfl
      have r1 := RF.cellAt 1 rfl
      refine bodyPost_ret (v := .tuple #[.agg #[.int .i64 0, .int .i64 0], .int .i64 8]) (by simp [results, Try.results30, go_sem, r0, r1]) rfl ?_
      exact ⟨by rw [HV], pp HB2.out PF (by omega)⟩
    · have HV : V = (x, y, 0) := by rw [HF.out]; first | (simp; done) | (simp; omega)
      have zl := Z2.out.lt
      go_wp2_with (first | (go_at_call 28; refine (HW.out _).mono ?_; rintro e w2 ⟨rfl, rfl⟩) | ((with_reducible refine store_blk (T := 32) (x := .tmp 4) (y := .tmp 26) (vs := #[.int .i64 x, .int .i64 y]) Z2.out ?_ ?_ ?_ ?_ ?_ ?_); (focus rfl); (focus exact frac_size); (focus (simp [Value.oneCell']; done)); (focus (first | rfl | (go_simp; done))); (focus (first | rfl | (go_simp; done))); intro WF RF PF))
      have r0 := RF.cellAt 0 rfl
      have r1 := RF.cellAt 1 rfl
      refine bodyPost_ret (v := .tuple #[.agg #[.int .i64 x, .int .i64 y], .int .i64 0]) (by simp [results, Try.results30, go_sem, r0, r1]) rfl ?_
      exact ⟨by rw [HV], pp HB2.out PF (by omega)⟩
  · cases t
    · have HV : V = (0, 0, 8) := by rw [HF.out]; first | (simp; done) | (simp; omega)
      have zl := Z2.out.lt
      go_wp2_with (first | (go_at_call 28; refine (HW.out _).mono ?_; rintro e w2 ⟨rfl, rfl⟩) | ((with_reducible refine store_blk (T := 32) (x := .tmp 4) (y := .tmp 23) (vs := #[.int .i64 0, .int .i64 0]) Z2.out ?_ ?_ ?_ ?_ ?_ ?_); (focus rfl); (focus exact frac_size); (focus (simp [Value.oneCell']; done)); (focus (first | rfl | (go_simp; done))); (focus (first | rfl | (go_simp; done))); intro WF RF PF))
      have r0 := RF.cellAt 0 rfl
      have r1 := RF.cellAt 1 rfl
      refine bodyPost_ret (v := .tuple #[.agg #[.int .i64 0, .int .i64 0], .int .i64 8]) (by simp [results, Try.results30, go_sem, r0, r1]) rfl ?_
      exact ⟨by rw [HV], pp HB2.out PF (by omega)⟩
    · have HV : V = (0, 0, 8) := by rw [HF.out]; first | (simp; done) | (simp; omega)
      have zl := Z2.out.lt
      go_wp2_with (first | (go_at_call 28; refine (HW.out _).mono ?_; rintro e w2 ⟨rfl, rfl⟩) | ((with_reducible refine store_blk (T := 32) (x := .tmp 4) (y := .tmp 23) (vs := #[.int .i64 0, .int .i64 0]) Z2.out ?_ ?_ ?_ ?_ ?_ ?_); (focus rfl); (focus exact frac_size); (focus (simp [Value.oneCell']; done)); (focus (first | rfl | (go_simp; done))); (focus (first | rfl | (go_simp; done))); intro WF RF PF))
      have r0 := RF.cellAt 0 rfl
      have r1 := RF.cellAt 1 rfl
      refine bodyPost_ret (v := .tuple #[.agg #[.int .i64 0, .int .i64 0], .int .i64 8]) (by simp [results, Try.results30, go_sem, r0, r1]) rfl ?_
      exact ⟨by rw [HV], pp HB2.out PF (by omega)⟩
end Go.Proofs.Ytapegimghfflhaa
end

section
namespace Go.Proofs.Ytapegimghfflhaa
open Go.RowKit

/-- From A on lie the cells cs, below block B. -/
def CellsIn (B : Nat) (w : World) (A : Option Addr) (cs : List Value) : Prop :=
  cs = [] ∨ ∃ b off, A = some ⟨b, off, none⟩ ∧ b < B ∧ ∀ j, j < cs.length → w.cell? ⟨b, off + j, none⟩ = cs[j]?

section
variable {w w' : World} {B B' : Nat} {A : Option Addr} {cs : List Value} {xs : List Int}
theorem CellsIn.nil : CellsIn B w A [] := .inl rfl
theorem CellsIn.keep (h : CellsIn B w A cs) (hk : ∀ b o, b < B → w'.cell? ⟨b, o, none⟩ = w.cell? ⟨b, o, none⟩) : CellsIn B w' A cs := by
  rcases h with h | ⟨b, off, hA, hb, hc⟩
  · exact .inl h
  · exact .inr ⟨b, off, hA, hb, fun j hj => (hk _ _ hb).trans (hc j hj)⟩
theorem CellsIn.below (h : CellsIn B w A cs) (hb : Below B w w') : CellsIn B w' A cs := h.keep (bcell hb).1
theorem CellsIn.more (h : CellsIn B w A cs) (hB : B ≤ B') : CellsIn B' w A cs := by
  rcases h with h | ⟨b, off, hA, hb, hc⟩
  · exact .inl h
  · exact .inr ⟨b, off, hA, by omega, hc⟩
theorem CellsIn.past (h : CellsIn B w A cs) (hB : B ≤ w.heap.size) (hb : Below w.heap.size w w') : CellsIn w'.heap.size w' A cs := ((h.more hB).below hb).more hb.size
theorem CellsIn.ints (h : CellsIn B w A (xs.map (Value.int .i64))) : IntsIn B w A xs := by
  rcases h with h | ⟨b, off, hA, hb, hc⟩
  · exact .inl (by simpa using h)
  · exact .inr ⟨b, off, hA, hb, fun j hj => by
      rw [hc j (by simpa using hj)]
      simp [List.getD, hj]⟩
theorem IntsIn.cells (h : IntsIn B w A xs) : CellsIn B w A (xs.map (Value.int .i64)) := by
  rcases h with h | ⟨b, off, hA, hb, hc⟩
  · exact .inl (by simp [h])
  · exact .inr ⟨b, off, hA, hb, fun j hj => by
      have hj' : j < xs.length := by simpa using hj
      rw [hc j hj']
      simp [List.getD, hj']⟩
/-- A row of the call's own, as cells. -/
theorem cellsIn_of_own {base : Nat} {e : TypeId} {size n c : Nat} (h : w.ownsRow base e size (.slice A n c) n cs) : CellsIn w.heap.size w A cs := by
  rcases h.2 with ⟨h1, h2⟩ | ⟨g, cap, cur, hv, _, hh, hn, _, hs, ht⟩
  · refine .inl ?_
    have := h.1
    rw [h2, Nat.zero_mul] at this
    exact List.eq_nil_of_length_eq_zero this
  · injection hv with hA _ _
    have hlt : g < w.heap.size := (Array.getElem?_eq_some_iff.1 hh).1
    exact .inr ⟨g, 0, hA, hlt, fun j hj => by
      rw [Nat.zero_add]
      have hj2 : j < n * size := by rw [h.1] at hj; exact hj
      rw [← ht, List.getElem?_take_of_lt hj2]
      simp [World.cell?, hh]⟩
/-- A row's value is a slice. -/
theorem own_form {base : Nat} {e : TypeId} {size n : Nat} {v : Value} (h : w.ownsRow base e size v n cs) : ∃ A c, v = .slice A n c ∧ n ≤ c ∧ c ≤ maxLen := by
  rcases h.2 with ⟨h1, h2⟩ | ⟨g, cap, cur, hv, _, _, hn, hm, _⟩
  · exact ⟨none, 0, by rw [h1, h2], by omega, Nat.zero_le _⟩
  · exact ⟨_, cap, hv, hn, hm⟩
end

section
variable {P : Program} (w : World)

theorem run_append_nil_src (base : Nat) (t ty e : TypeId) (i : TypeInfo) (size : Nat) (ht : P.underlying t = some (.slice e)) (hi : P.info? e = some i)
    (v : Value) (n : Nat) (xs : List Value) (hown : w.ownsRow base e size v n xs) (c : Nat) : (Builtin.append_ #[t, t] ty #[v, .slice none 0 c]).run P w = .ok v w := by
  rcases hown.2 with ⟨rfl, rfl⟩ | ⟨g, cap, cur, rfl, _, _, hnc, _⟩
  · simp [Builtin.append_, run_underlying ht, sizeOf, typeInfo, hi, Builtin.lenOf, Builtin.firstCells]
  · simp [Builtin.append_, run_underlying ht, sizeOf, typeInfo, hi, Builtin.lenOf, Builtin.firstCells, hnc, storeCells]

theorem run_append_cells (base : Nat) (t ty e : TypeId) (i : TypeInfo) (z : Value) (size bytes : Nat) (ht : P.underlying t = some (.slice e)) (hi : P.info? e = some i) (hz : i.zero = some z)
    (hsize : i.size = size) (hby : i.bytes = bytes) (hzs : z.cells.size = size) (hsz : 0 < size)
    (v : Value) (n : Nat) (xs : List Value) (hown : w.ownsRow base e size v n xs)
    (B : Nat) (A : Option Addr) (m c : Nat) (news : List Value) (hr : CellsIn B w A news) (hl : news.length = m * size) (h1 : ∀ u ∈ news, u.oneCell' = true)
    (h63 : n + m ≤ maxLen) (hbytes : (n + m) * bytes ≤ 140737488355328) (hbase : base ≤ w.heap.size) :
    ∃ v' w', (Builtin.append_ #[t, t] ty #[v, .slice A m c]).run P w = .ok v' w' ∧ w'.ownsRow base e size v' (n + m) (xs ++ news) ∧ w.grownBy w' v.ownBlock ∧
      (v'.ownBlock = v.ownBlock ∨ v'.ownBlock = some w.heap.size) := by
  rcases A with _ | ad
  · have hn : news = [] := by
      rcases hr with h | ⟨_, _, h, _⟩
      · exact h
      · cases h
    subst hn
    have hm : m = 0 := by
      have h0 : m * size = 0 := by simpa using hl.symm
      rcases Nat.mul_eq_zero.1 h0 with h | h <;> omega
    subst hm
    exact ⟨v, w, run_append_nil_src w base t ty e i size ht hi v n xs hown c, by simpa using hown, World.grownBy.refl w _, .inl rfl⟩
  · have hcells : ∀ j u, news[j]? = some u → w.cell? (ad.add j) = some u := by
      intro j u hu
      rcases hr with h | ⟨b, off, h, _, hc⟩
      · subst h; simp at hu
      · injection h with h
        subst h
        have hj : j < news.length := (List.getElem?_eq_some_iff.1 hu).1
        rw [Go.WideShapes.add_plain]
        exact (hc j hj).trans hu
    obtain ⟨v', w', hrun, h2, h3, _, h5⟩ := run_append_own_at (P := P) w base t ty e i z size bytes ht hi hz hsize hby hzs hsz v n xs hown ad m c news hl hcells h1 h63 hbytes hbase
    exact ⟨v', w', hrun, h2, h3, h5⟩

theorem wp_append_cells {o : Oper} {a : Act} {K : Act → World → Prop} {Q : Exit → Act → World → Prop} (s x : Operand) (t : TypeId)
    (ho : o.op = .call { callee := .builtin .append, args := #[s, x], argTypes := #[t, t] })
    (base : Nat) (e : TypeId) (i : TypeInfo) (z : Value) (size bytes : Nat) (ht : P.underlying t = some (.slice e)) (hi : P.info? e = some i) (hz : i.zero = some z)
    (hsize : i.size = size) (hby : i.bytes = bytes) (hzs : z.cells.size = size) (hsz : 0 < size)
    (v : Value) (n : Nat) (xs : List Value) (hs : a.eval s = v) (hown : w.ownsRow base e size v n xs)
    (B : Nat) (A : Option Addr) (m c : Nat) (news : List Value) (hx : a.eval x = .slice A m c) (hr : CellsIn B w A news) (hl : news.length = m * size) (h1 : ∀ u ∈ news, u.oneCell' = true)
    (h63 : n + m ≤ maxLen) (hbytes : (n + m) * bytes ≤ 140737488355328) (hbase : base ≤ w.heap.size)
    (h : ∀ v' w', w'.ownsRow base e size v' (n + m) (xs ++ news) → w.grownBy w' v.ownBlock → (v'.ownBlock = v.ownBlock ∨ v'.ownBlock = some w.heap.size) → K (a.put o.dst v') w') : o.wp P a w K Q := by
  obtain ⟨v', w', hrun, h2, h3, h4⟩ := run_append_cells (P := P) w base t o.type e i z size bytes ht hi hz hsize hby hzs hsz v n xs hown B A m c news hr hl h1 h63 hbytes hbase
  unfold Oper.wp execOp
  simp only [ho, resolve, invoke, builtin, Sem.run_bind, Sem.run_pure, Result.andThen_ok, List.map_toArray, List.map_cons, List.map_nil, hs, hx, hrun]
  exact h v' w' h2 h3 h4

theorem wpList_append_cells {ops : Array Oper} {rest : List Oper} {o : Oper} {a : Act} {Q : Exit → Act → World → Prop} (hgd : o.guard = none) (s x : Operand) (t : TypeId)
    (ho : o.op = .call { callee := .builtin .append, args := #[s, x], argTypes := #[t, t] })
    (base : Nat) (e : TypeId) (i : TypeInfo) (z : Value) (size bytes : Nat) (ht : P.underlying t = some (.slice e)) (hi : P.info? e = some i) (hz : i.zero = some z)
    (hsize : i.size = size) (hby : i.bytes = bytes) (hzs : z.cells.size = size) (hsz : 0 < size)
    (v : Value) (n : Nat) (xs : List Value) (hs : a.eval s = v) (hown : w.ownsRow base e size v n xs)
    (B : Nat) (A : Option Addr) (m c : Nat) (news : List Value) (hx : a.eval x = .slice A m c) (hr : CellsIn B w A news) (hl : news.length = m * size) (h1 : ∀ u ∈ news, u.oneCell' = true)
    (h63 : n + m ≤ maxLen) (hbytes : (n + m) * bytes ≤ 140737488355328) (hbase : base ≤ w.heap.size)
    (h : ∀ v' w', w'.ownsRow base e size v' (n + m) (xs ++ news) → w.grownBy w' v.ownBlock → (v'.ownBlock = v.ownBlock ∨ v'.ownBlock = some w.heap.size) → wpList P ops Q rest (a.put o.dst v') w') : wpList P ops Q (o :: rest) a w :=
  wpList_plain hgd fun _ hK => wp_append_cells w s x t ho base e i z size bytes ht hi hz hsize hby hzs hsz v n xs hs hown B A m c news hx hr hl h1 h63 hbytes hbase fun v' w' h2 h3 h4 => hK _ _ (h v' w' h2 h3 h4)
end

theorem int_info : (Try.prog.info? 3).map (fun i => (i.zero, i.size, i.bytes)) = some (some (.int .i64 0), 1, 8) := by kernel_rfl

/-- Behind an append onto a row that lies beyond the heap's size at the beginning: all before that is as it was. -/
theorem pg {w a b : World} {v : Value} {base : Nat} {e : TypeId} {size n : Nat} {xs : List Value} (h : Below w.heap.size w a) (hown : a.ownsRow base e size v n xs) (hb : w.heap.size ≤ base) (hg : a.grownBy b v.ownBlock) : Below w.heap.size w b :=
  h.grown hg h.size fun k hk => Nat.le_trans hb (hown.lt k hk).1

end Go.Proofs.Ytapegimghfflhaa
end
