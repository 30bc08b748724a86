/- Contract: what each source gives: the reference's shares, as ratios. Printed by a program (gen_shr.py). -/
import Derived.Test.YtpdkbhjcpddnpaaGreatDoorOc6
import Derived.Test.YtpdkbhjcpddnpaaGreatDoorOa3
import Derived.Deep.DeepCutAuto

section
namespace Go.Proofs.YtpdkbhjcpddnpaaGreatDoor
open Go.RowKit
attribute [local go_sem ↓] Go.wp_at_zero Go.wp_at_succ

/-- Both sums, in their own blocks. -/
structure ShrSt (w : World) (x y : Rat) (b7 b8 : Nat) (A1 : Option Addr) (c1 : Nat) (B1 : Option Addr) (d1 : Nat) (A2 : Option Addr) (c2 : Nat) (B2 : Option Addr) (d2 : Nat) (wr : World) : Prop where
  x7 : Blk wr b7 55 #[.int .i64 (signD (x).num), .slice A1 (dl (x).num) c1, .int .i64 (signD ((x).den : Int)), .slice B1 (dl ((x).den : Int)) d1]
  x8 : Blk wr b8 55 #[.int .i64 (signD (y).num), .slice A2 (dl (y).num) c2, .int .i64 (signD ((y).den : Int)), .slice B2 (dl ((y).den : Int)) d2]
  a7 : RatAt wr A1 c1 B1 d1 (x)
  a8 : RatAt wr A2 c2 B2 d2 (y)
  bel : Below w.heap.size w wr
section
variable {w wr W : World} {x y z : Rat} {b b7 b8 c1 d1 c2 d2 c3 d3 : Nat} {A1 B1 A2 B2 A3 B3 : Option Addr} {t : TypeId} {cs : Array Value} {u0 u1 u2 u3 z0 z1 z2 z3 : Value}
theorem ShrSt.past (h : ShrSt w x y b7 b8 A1 c1 B1 d1 A2 c2 B2 d2 wr) (hb : Below wr.heap.size wr W) : ShrSt w x y b7 b8 A1 c1 B1 d1 A2 c2 B2 d2 W := ⟨h.x7.past hb, h.x8.past hb, h.a7.past hb, h.a8.past hb, pt h.bel hb⟩
theorem rat4_far (hb : Blk w b 55 cs) (h : RatAt w A3 c3 B3 d3 (z)) : RatAt ((((w.setCell ⟨b, 0, none⟩ u0).setCell ⟨b, 1, none⟩ u1).setCell ⟨b, 2, none⟩ u2).setCell ⟨b, 3, none⟩ u3) A3 c3 B3 d3 z := ⟨rat_far hb h.1, rat_far hb h.2⟩
theorem blk4_far {g : Nat} (hg : g ≠ b) (h : Blk w g t cs) : Blk ((((w.setCell ⟨b, 0, none⟩ u0).setCell ⟨b, 1, none⟩ u1).setCell ⟨b, 2, none⟩ u2).setCell ⟨b, 3, none⟩ u3) g t cs := ((h.far hg).far hg).far hg |>.far hg
theorem rat4_set (h : Blk w b t #[z0, z1, z2, z3]) : Blk ((((w.setCell ⟨b, 0, none⟩ u0).setCell ⟨b, 1, none⟩ u1).setCell ⟨b, 2, none⟩ u2).setCell ⟨b, 3, none⟩ u3) b t #[u0, u1, u2, u3] := (((h.set_ 0 u0).set_ 1 u1).set_ 2 u2).set_ 3 u3
theorem bel4 {v : World} (h : Below v.heap.size v w) (hb : v.heap.size ≤ b) : Below v.heap.size v ((((w.setCell ⟨b, 0, none⟩ u0).setCell ⟨b, 1, none⟩ u1).setCell ⟨b, 2, none⟩ u2).setCell ⟨b, 3, none⟩ u3) := ps (ps (ps (ps h hb) hb) hb) hb
theorem ShrSt.off (h : ShrSt w x y b7 b8 A1 c1 B1 d1 A2 c2 B2 d2 wr) (hx : Blk wr b 55 cs) (h7 : b7 ≠ b) (h8 : b8 ≠ b) (hb : w.heap.size ≤ b) : ShrSt w x y b7 b8 A1 c1 B1 d1 A2 c2 B2 d2 ((((wr.setCell ⟨b, 0, none⟩ u0).setCell ⟨b, 1, none⟩ u1).setCell ⟨b, 2, none⟩ u2).setCell ⟨b, 3, none⟩ u3) :=
  ⟨blk4_far h7 h.x7, blk4_far h8 h.x8, rat4_far hx h.a7, rat4_far hx h.a8, bel4 h.bel hb⟩
theorem RatAt.put {g : Nat} (h : RatAt w A3 c3 B3 d3 (z)) (hp : Blk w g 55 cs) (hP : Put w W g) : RatAt W A3 c3 B3 d3 (z) := ⟨h.1.put hp (by decide) hP, h.2.put hp (by decide) hP⟩
theorem ShrSt.put7 (h : ShrSt w x y b7 b8 A1 c1 B1 d1 A2 c2 B2 d2 wr) (g : RatAt wr A3 c3 B3 d3 (z)) (hB : Blk W b7 55 #[.int .i64 (signD (z).num), .slice A3 (dl (z).num) c3, .int .i64 (signD ((z).den : Int)), .slice B3 (dl ((z).den : Int)) d3]) (hP : Put wr W b7) (h8 : b8 ≠ b7) (hb : w.heap.size ≤ b7) : ShrSt w z y b7 b8 A3 c3 B3 d3 A2 c2 B2 d2 W := ⟨hB, h.x8.put hP h8, g.put h.x7 hP, h.a8.put h.x7 hP, pp h.bel hP hb⟩
theorem ShrSt.put8 (h : ShrSt w x y b7 b8 A1 c1 B1 d1 A2 c2 B2 d2 wr) (g : RatAt wr A3 c3 B3 d3 (z)) (hB : Blk W b8 55 #[.int .i64 (signD (z).num), .slice A3 (dl (z).num) c3, .int .i64 (signD ((z).den : Int)), .slice B3 (dl ((z).den : Int)) d3]) (hP : Put wr W b8) (h7 : b7 ≠ b8) (hb : w.heap.size ≤ b8) : ShrSt w x z b7 b8 A1 c1 B1 d1 A3 c3 B3 d3 W := ⟨h.x7.put hP h7, hB, h.a7.put h.x8 hP, g.put h.x8 hP, pp h.bel hP hb⟩
end

def SharesRet (w : World) (rs : List Rat) (e : Ending) (w' : World) : Prop := ∃ (A : Option Addr) (c : Nat) (xs : List RowR), e = .returned (.slice A rs.length c) ∧ xs.map RowR.r = rs ∧ CellsIn w'.heap.size w' A (xs.flatMap rowU) ∧ RowsAt w' xs ∧ rs.length ≤ c ∧ Below w.heap.size w w'

set_option maxHeartbeats 16000000 in
set_option maxRecDepth 100000 in
theorem shares_core (n bA oA c bV oV cv : Nat) (load : Int) (ni di fi : Nat → Int) (sx sy vr yk pk tk zk rk : Nat → Rat) (bus : Rat) (w : World) (hbA : bA < w.heap.size) (hbV : bV < w.heap.size) (hn : n ≤ 4)
    (hAc : ∀ j, j < n → w.cell? ⟨bA, oA + j * 4 + 2, none⟩ = some (.int .i64 (ni j)) ∧ w.cell? ⟨bA, oA + j * 4 + 3, none⟩ = some (.int .i64 (di j)))
    (hVc : ∀ j, j < n → w.cell? ⟨bV, oV + j, none⟩ = some (.int .i64 (fi j))) (hw1 : IntKind.i64.wrap (-load) = -load) (_hw2 : RowKit.wrap64 (-load) = -load)
    (HI0 : ∀ (W : World) , Calls Tryz.prog 25 #[.int .i64 (-load)] W (RatRet W (sx 0)))
    (HI1 : ∀ (W : World) , Calls Tryz.prog 25 #[.int .i64 0] W (RatRet W (sy 0)))
    (HIn : ∀ (W : World) (k : Nat) , k < n → Calls Tryz.prog 25 #[.int .i64 (fi k)] W (RatRet W (vr k)))
    (HOf : ∀ (W : World) (k : Nat) , k < n → Calls Tryz.prog 60 #[.int .i64 (di k), .int .i64 (ni k)] W (RatRet W (yk k)))
    (HMu : ∀ (W : World) (k : Nat) (A3 : Option Addr) (c3 : Nat) (B3 : Option Addr) (d3 : Nat) (A4 : Option Addr) (c4 : Nat) (B4 : Option Addr) (d4 : Nat), k < n → RatAt W A3 c3 B3 d3 (vr k) → RatAt W A4 c4 B4 d4 (yk k) → Calls Tryz.prog 24 #[.agg #[.int .i64 (signD (vr k).num), .slice A3 (dl (vr k).num) c3, .int .i64 (signD ((vr k).den : Int)), .slice B3 (dl ((vr k).den : Int)) d3], .agg #[.int .i64 (signD (yk k).num), .slice A4 (dl (yk k).num) c4, .int .i64 (signD ((yk k).den : Int)), .slice B4 (dl ((yk k).den : Int)) d4]] W (RatRet W (pk k)))
    (HA1 : ∀ (W : World) (k : Nat) (A3 : Option Addr) (c3 : Nat) (B3 : Option Addr) (d3 : Nat) (A4 : Option Addr) (c4 : Nat) (B4 : Option Addr) (d4 : Nat), k < n → RatAt W A3 c3 B3 d3 (sx k) → RatAt W A4 c4 B4 d4 (pk k) → Calls Tryz.prog 52 #[.agg #[.int .i64 (signD (sx k).num), .slice A3 (dl (sx k).num) c3, .int .i64 (signD ((sx k).den : Int)), .slice B3 (dl ((sx k).den : Int)) d3], .agg #[.int .i64 (signD (pk k).num), .slice A4 (dl (pk k).num) c4, .int .i64 (signD ((pk k).den : Int)), .slice B4 (dl ((pk k).den : Int)) d4]] W (RatRet W (sx (k + 1))))
    (HA2 : ∀ (W : World) (k : Nat) (A3 : Option Addr) (c3 : Nat) (B3 : Option Addr) (d3 : Nat) (A4 : Option Addr) (c4 : Nat) (B4 : Option Addr) (d4 : Nat), k < n → RatAt W A3 c3 B3 d3 (sy k) → RatAt W A4 c4 B4 d4 (yk k) → Calls Tryz.prog 52 #[.agg #[.int .i64 (signD (sy k).num), .slice A3 (dl (sy k).num) c3, .int .i64 (signD ((sy k).den : Int)), .slice B3 (dl ((sy k).den : Int)) d3], .agg #[.int .i64 (signD (yk k).num), .slice A4 (dl (yk k).num) c4, .int .i64 (signD ((yk k).den : Int)), .slice B4 (dl ((yk k).den : Int)) d4]] W (RatRet W (sy (k + 1))))
    (HDb : ∀ (W : World) (A3 : Option Addr) (c3 : Nat) (B3 : Option Addr) (d3 : Nat) (A4 : Option Addr) (c4 : Nat) (B4 : Option Addr) (d4 : Nat), RatAt W A3 c3 B3 d3 (sx n) → RatAt W A4 c4 B4 d4 (sy n) → Calls Tryz.prog 98 #[.agg #[.int .i64 (signD (sx n).num), .slice A3 (dl (sx n).num) c3, .int .i64 (signD ((sx n).den : Int)), .slice B3 (dl ((sx n).den : Int)) d3], .agg #[.int .i64 (signD (sy n).num), .slice A4 (dl (sy n).num) c4, .int .i64 (signD ((sy n).den : Int)), .slice B4 (dl ((sy n).den : Int)) d4]] W (RatRet W (bus)))
    (HSu : ∀ (W : World) (k : Nat) (A3 : Option Addr) (c3 : Nat) (B3 : Option Addr) (d3 : Nat) (A4 : Option Addr) (c4 : Nat) (B4 : Option Addr) (d4 : Nat), k < n → RatAt W A3 c3 B3 d3 (vr k) → RatAt W A4 c4 B4 d4 (bus) → Calls Tryz.prog 96 #[.agg #[.int .i64 (signD (vr k).num), .slice A3 (dl (vr k).num) c3, .int .i64 (signD ((vr k).den : Int)), .slice B3 (dl ((vr k).den : Int)) d3], .agg #[.int .i64 (signD (bus).num), .slice A4 (dl (bus).num) c4, .int .i64 (signD ((bus).den : Int)), .slice B4 (dl ((bus).den : Int)) d4]] W (RatRet W (tk k)))
    (HFr : ∀ (W : World) (k : Nat) , k < n → Calls Tryz.prog 22 #[.agg #[.int .i64 (ni k), .int .i64 (di k)]] W (RatRet W (zk k)))
    (HDv : ∀ (W : World) (k : Nat) (A3 : Option Addr) (c3 : Nat) (B3 : Option Addr) (d3 : Nat) (A4 : Option Addr) (c4 : Nat) (B4 : Option Addr) (d4 : Nat), k < n → RatAt W A3 c3 B3 d3 (tk k) → RatAt W A4 c4 B4 d4 (zk k) → Calls Tryz.prog 98 #[.agg #[.int .i64 (signD (tk k).num), .slice A3 (dl (tk k).num) c3, .int .i64 (signD ((tk k).den : Int)), .slice B3 (dl ((tk k).den : Int)) d3], .agg #[.int .i64 (signD (zk k).num), .slice A4 (dl (zk k).num) c4, .int .i64 (signD ((zk k).den : Int)), .slice B4 (dl ((zk k).den : Int)) d4]] W (RatRet W (rk k))) :
    Calls Tryz.prog 53 #[.slice (some ⟨bA, oA, none⟩) n c, .slice (some ⟨bV, oV, none⟩) n cv, .int .i64 load] w (SharesRet w ((List.range n).map rk)) := by
  replace HI0 := Lib.hid HI0
  replace HI1 := Lib.hid HI1
  replace HIn := Lib.hid HIn
  replace HOf := Lib.hid HOf
  replace HMu := Lib.hid HMu
  replace HA1 := Lib.hid HA1
  replace HA2 := Lib.hid HA2
  replace HDb := Lib.hid HDb
  replace HSu := Lib.hid HSu
  replace HFr := Lib.hid HFr
  replace HDv := Lib.hid HDv
  have HN := Lib.hid hn
  have HAc := Lib.hid (show ∀ W k, Below w.heap.size w W → k < n → W.cell? ⟨bA, oA + k * 4 + 2, none⟩ = some (.int .i64 (ni k)) ∧ W.cell? ⟨bA, oA + k * 4 + 3, none⟩ = some (.int .i64 (di k)) from fun W k hW hk => ⟨((bcell hW).1 _ _ hbA).trans (hAc k hk).1, ((bcell hW).1 _ _ hbA).trans (hAc k hk).2⟩)
  have HVc := Lib.hid (show ∀ W k, Below w.heap.size w W → k < n → W.cell? ⟨bV, oV + k, none⟩ = some (.int .i64 (fi k)) from fun W k hW hk => ((bcell hW).1 _ _ hbV).trans (hVc k hk))
  have n9 : (n : Int) ≤ 4 := by omega
  clear hbA hbV hAc hVc hn
  go_enter Tryz.func53, Tryz.ntmps53
  go_wp2_with (first
    | (go_at_call 25; (with_reducible refine (HI0.out _).mono ?_); rintro e w1 ⟨A8, c8, B8, d8, rfl, h1, hb1⟩; have Q1 := Lib.hid hb1; have H1 := Lib.hid h1; clear hb1 h1 HI0; unfold ratV)
    | (go_at_call 25; (with_reducible refine (HI1.out _).mono ?_); rintro e w2 ⟨A9, c9, B9, d9, rfl, h2, hb2⟩; have Q2 := Lib.hid (pt Q1.out hb2); have H1 := Lib.hid (H1.out.past hb2); have H2 := Lib.hid h2; clear hb2 h2 HI1; unfold ratV))
  have HS0 := Lib.hid (show ShrSt w (sx 0) (sy 0) w2.heap.size (w2.heap.size + 1) A8 c8 B8 d8 A9 c9 B9 d9 ((w2.alloc (.cells #[.int .i64 (signD (sx 0).num), .slice A8 (dl (sx 0).num) c8, .int .i64 (signD ((sx 0).den : Int)), .slice B8 (dl ((sx 0).den : Int)) d8] 55)).alloc (.cells #[.int .i64 (signD (sy 0).num), .slice A9 (dl (sy 0).num) c9, .int .i64 (signD ((sy 0).den : Int)), .slice B9 (dl ((sy 0).den : Int)) d9] 55)) from ⟨(Blk.newAt rfl).alloc, Blk.newAt (by simp), H1.out.past (pa (pa pr)), H2.out.past (pa (pa pr)), pa (pa Q2.out)⟩)
  have HB7 := Lib.hid (show w.heap.size ≤ w2.heap.size from Q2.out.size)
  generalize ((w2.alloc (.cells #[.int .i64 (signD (sx 0).num), .slice A8 (dl (sx 0).num) c8, .int .i64 (signD ((sx 0).den : Int)), .slice B8 (dl ((sx 0).den : Int)) d8] 55)).alloc (.cells #[.int .i64 (signD (sy 0).num), .slice A9 (dl (sy 0).num) c9, .int .i64 (signD ((sy 0).den : Int)), .slice B9 (dl ((sy 0).den : Int)) d9] 55)) = v at *
  clear H1 H2 Q1 Q2 hw1 _hw2
  generalize w2.heap.size = b7 at *
  have HB8 := Lib.hid (show b7 < b7 + 1 from Nat.lt_succ_self b7)
  generalize b7 + 1 = b8 at *
  go_loopw [9] (fun iv wr => ∃ (k : Nat) (A1 : Option Addr) (c1 : Nat) (B1 : Option Addr) (d1 : Nat) (A2 : Option Addr) (c2 : Nat) (B2 : Option Addr) (d2 : Nat), iv = .int .i64 (k : Int) ∧ k ≤ n ∧ ShrSt w (sx k) (sy k) b7 b8 A1 c1 B1 d1 A2 c2 B2 d2 wr) (fun iv _ => n - (intOf iv).toNat)
  case atStart => exact ⟨0, A8, c8, B8, d8, A9, c9, B9, d9, rfl, Nat.zero_le _, HS0.out⟩
  case round =>
    clear HS0
    obtain ⟨k, A1, c1, B1, d1, A2, c2, B2, d2, rfl, hk, hst⟩ := hrel
    have HST := Lib.hid hst
    have i0 := src_cast k
    clear hst
    by_cases hlt : k < n
    · as_aux_lemma =>
      have i1 := src_lt hlt
      have HI := Lib.hid hlt
      have HAk := Lib.hid (fun W hW => HAc.out W k hW HI.out)
      have HVk := Lib.hid (fun W hW => HVc.out W k hW HI.out)
      have HIk := Lib.hid (fun W => HIn.out W k HI.out)
      have HOk := Lib.hid (fun W => HOf.out W k HI.out)
      have HMk := Lib.hid (fun W A3 c3 B3 d3 A4 c4 B4 d4 => HMu.out W k A3 c3 B3 d3 A4 c4 B4 d4 HI.out)
      have HX1 := Lib.hid (fun W A3 c3 B3 d3 A4 c4 B4 d4 => HA1.out W k A3 c3 B3 d3 A4 c4 B4 d4 HI.out)
      have HX2 := Lib.hid (fun W A3 c3 B3 d3 A4 c4 B4 d4 => HA2.out W k A3 c3 B3 d3 A4 c4 B4 d4 HI.out)
      clear HIn HOf HMu HA1 HA2 HDb HSu HFr HDv HAc HVc
      generalize hXE : sx (k + 1) = X' at *
      generalize hYE : sy (k + 1) = Y' at *
      have HXE := Lib.hid hXE
      have HYE := Lib.hid hYE
      clear hXE hYE
      generalize sx k = X at *
      generalize sy k = Y at *
      generalize yk k = y at *
      generalize vr k = vk at *
      generalize pk k = p at *
      generalize ni k = N_ at *
      generalize di k = D_ at *
      generalize fi k = f_ at *
      go_wp2
      go_cut [10] (fun pv wx => ∃ (bx : Nat) (A4 : Option Addr) (c4 : Nat) (B4 : Option Addr) (d4 : Nat), pv = .pointer (some ⟨bx, 0, none⟩) ∧ b8 < bx ∧ Blk wx bx 55 #[.int .i64 (signD (y).num), .slice A4 (dl (y).num) c4, .int .i64 (signD ((y).den : Int)), .slice B4 (dl ((y).den : Int)) d4] ∧ RatAt wx A4 c4 B4 d4 (y) ∧ ShrSt w X Y b7 b8 A1 c1 B1 d1 A2 c2 B2 d2 wx)
      case first =>
        have HSS := Lib.hid (show ∀ W, Below wr.heap.size wr W → W.cell? ⟨bA, oA + k * 4 + 2, none⟩ = some (.int .i64 N_) ∧ W.cell? ⟨bA, oA + k * 4 + 3, none⟩ = some (.int .i64 D_) from fun W hW => HAk.out W (pt HST.out.bel hW))
        refine wp_region_G 14 follows_mixed (fun W => W.cell? ⟨bA, oA + k * 4 + 2, none⟩ = some (.int .i64 N_) ∧ W.cell? ⟨bA, oA + k * 4 + 3, none⟩ = some (.int .i64 D_)) (HSS.out _ (pd pr)) ?_
        intro hSd inv
        have HSd := Lib.hid hSd
        clear hSd
        have HB0 := Lib.hid (show Below wr.heap.size wr wr.drew from pd pr)
        refine wpAnyG_take (i := 0) (v := ?_) rfl (by kernel_rfl) (by kernel_rfl) (by kernel_rfl) (by kernel_rfl) (by kernel_rfl) (by decide) (by decide) inv (fun _ _ _ h => h) (Or.inl ⟨by rfl, ?_⟩) HSd.out ?_; rotate_left; (focus (intro W y1; obtain ⟨y1, y2⟩ := y1; go_simp; (first | done | with_reducible rfl))); clear inv; intro inv; simp only [List.getElem_toArray, List.getElem_cons_zero, Act.put, List.setIfInBounds_toArray, List.set_cons_zero, List.set_cons_succ]
        refine wpAnyG_take (i := 1) (v := ?_) rfl (by kernel_rfl) (by kernel_rfl) (by kernel_rfl) (by kernel_rfl) (by kernel_rfl) (by decide) (by decide) inv (fun _ _ _ h => h) (Or.inl ⟨by rfl, ?_⟩) HSd.out ?_; rotate_left; (focus (intro W y1; obtain ⟨y1, y2⟩ := y1; go_simp; (first | done | with_reducible rfl))); clear inv; intro inv; simp only [List.getElem_toArray, List.getElem_cons_zero, List.getElem_cons_succ, Act.put, List.setIfInBounds_toArray, List.set_cons_zero, List.set_cons_succ]
        refine wpAnyG_take (i := 2) (v := ?_) rfl (by kernel_rfl) (by kernel_rfl) (by kernel_rfl) (by kernel_rfl) (by kernel_rfl) (by decide) (by decide) inv (fun _ _ _ h => h) (Or.inl ⟨by rfl, ?_⟩) HSd.out ?_; rotate_left; (focus (intro W y1; obtain ⟨y1, y2⟩ := y1; go_simp; (first | done | with_reducible rfl))); clear inv; intro inv; simp only [List.getElem_toArray, List.getElem_cons_zero, List.getElem_cons_succ, Act.put, List.setIfInBounds_toArray, List.set_cons_zero, List.set_cons_succ]
        refine wpAnyG_take (i := 3) (v := ?_) rfl (by kernel_rfl) (by kernel_rfl) (by kernel_rfl) (by kernel_rfl) (by kernel_rfl) (by decide) (by decide) inv (fun _ _ _ h => h) (Or.inl ⟨by rfl, ?_⟩) HSd.out ?_; rotate_left; (focus (intro W y1; obtain ⟨y1, y2⟩ := y1; go_simp; (first | done | with_reducible rfl))); clear inv; intro inv; simp only [List.getElem_toArray, List.getElem_cons_zero, List.getElem_cons_succ, Act.put, List.setIfInBounds_toArray, List.set_cons_zero, List.set_cons_succ]
        refine wpAnyG_take (i := 4) (v := ?_) rfl (by kernel_rfl) (by kernel_rfl) (by kernel_rfl) (by kernel_rfl) (by kernel_rfl) (by decide) (by decide) inv (fun _ _ _ h => h) (Or.inl ⟨by rfl, ?_⟩) HSd.out ?_; rotate_left; (focus (intro W y1; obtain ⟨y1, y2⟩ := y1; go_simp; (first | done | with_reducible rfl))); clear inv; intro inv; simp only [List.getElem_toArray, List.getElem_cons_zero, List.getElem_cons_succ, Act.put, List.setIfInBounds_toArray, List.set_cons_zero, List.set_cons_succ]
        refine wpAnyG_take (i := 5) (v := ?_) rfl (by kernel_rfl) (by kernel_rfl) (by kernel_rfl) (by kernel_rfl) (by kernel_rfl) (by decide) (by decide) inv (fun _ _ _ h => h) (Or.inl ⟨by rfl, ?_⟩) HSd.out ?_; rotate_left; (focus (intro W y1; obtain ⟨y1, y2⟩ := y1; go_simp; (first | done | with_reducible rfl))); clear inv; intro inv; simp only [List.getElem_toArray, List.getElem_cons_zero, List.getElem_cons_succ, Act.put, List.setIfInBounds_toArray, List.set_cons_zero, List.set_cons_succ]
        refine wpAnyG_take (i := 6) (v := ?_) rfl (by kernel_rfl) (by kernel_rfl) (by kernel_rfl) (by kernel_rfl) (by kernel_rfl) (by decide) (by decide) inv (fun _ _ _ h => h) (Or.inl ⟨by rfl, ?_⟩) HSd.out ?_; rotate_left; (focus (intro W y1; obtain ⟨y1, y2⟩ := y1; go_simp; (first | done | with_reducible rfl))); clear inv; intro inv; simp only [List.getElem_toArray, List.getElem_cons_zero, List.getElem_cons_succ, Act.put, List.setIfInBounds_toArray, List.set_cons_zero, List.set_cons_succ]
        refine wpAnyG_take (i := 7) (v := ?_) rfl (by kernel_rfl) (by kernel_rfl) (by kernel_rfl) (by kernel_rfl) (by kernel_rfl) (by decide) (by decide) inv (fun _ _ _ h => h) (Or.inl ⟨by rfl, ?_⟩) HSd.out ?_; rotate_left; (focus (intro W y1; obtain ⟨y1, y2⟩ := y1; go_simp; (first | done | with_reducible rfl))); clear inv; intro inv; simp only [List.getElem_toArray, List.getElem_cons_zero, List.getElem_cons_succ, Act.put, List.setIfInBounds_toArray, List.set_cons_zero, List.set_cons_succ]
        refine wpAnyG_take (i := 8) (v := ?_) rfl (by kernel_rfl) (by kernel_rfl) (by kernel_rfl) (by kernel_rfl) (by kernel_rfl) (by decide) (by decide) inv (fun _ _ _ h => h) (Or.inl ⟨by rfl, ?_⟩) HSd.out ?_; rotate_left; (focus (intro W y1; obtain ⟨y1, y2⟩ := y1; go_simp; (first | done | with_reducible rfl))); clear inv; intro inv; simp only [List.getElem_toArray, List.getElem_cons_zero, List.getElem_cons_succ, Act.put, List.setIfInBounds_toArray, List.set_cons_zero, List.set_cons_succ]
        refine wpAnyG_take (i := 9) (v := ?_) rfl (by kernel_rfl) (by kernel_rfl) (by kernel_rfl) (by kernel_rfl) (by kernel_rfl) (by decide) (by decide) inv (fun _ _ _ h => h) (Or.inl ⟨by rfl, ?_⟩) HSd.out ?_; rotate_left; (focus (intro W y1; obtain ⟨y1, y2⟩ := y1; go_simp; (first | done | with_reducible rfl))); clear inv; intro inv; simp only [List.getElem_toArray, List.getElem_cons_zero, List.getElem_cons_succ, Act.put, List.setIfInBounds_toArray, List.set_cons_zero, List.set_cons_succ]
        refine wpAnyG_take (i := 10) (v := ?_) rfl (by kernel_rfl) (by kernel_rfl) (by kernel_rfl) (by kernel_rfl) (by kernel_rfl) (by decide) (by decide) inv (fun _ _ _ h => h) (Or.inl ⟨by rfl, ?_⟩) HSd.out ?_; rotate_left; (focus (intro W y1; obtain ⟨y1, y2⟩ := y1; go_simp; (first | done | with_reducible rfl))); clear inv; intro inv; simp only [List.getElem_toArray, List.getElem_cons_zero, List.getElem_cons_succ, Act.put, List.setIfInBounds_toArray, List.set_cons_zero, List.set_cons_succ]
        refine wpAnyG_take (i := 11) (v := ?_) rfl (by kernel_rfl) (by kernel_rfl) (by kernel_rfl) (by kernel_rfl) (by kernel_rfl) (by decide) (by decide) inv (fun _ _ _ h => h) (Or.inl ⟨by rfl, ?_⟩) HSd.out ?_; rotate_left; (focus (intro W y1; obtain ⟨y1, y2⟩ := y1; go_simp; (first | done | with_reducible rfl))); clear inv; intro inv; simp only [List.getElem_toArray, List.getElem_cons_zero, List.getElem_cons_succ, Act.put, List.setIfInBounds_toArray, List.set_cons_zero, List.set_cons_succ]
        have HInv := Lib.hid inv
        clear inv
        clear HInv
        generalize wr.drew = vd at *
        refine wpAnyG_two (i := 12) (k := 13) (by kernel_rfl) rfl rfl rfl rfl (fun K hK => ?_) (fun K hK => ?_)
        · go_simp
          refine (HOk.out _).mono ?_
          rintro e wf ⟨A4, c4, B4, d4, rfl, h4, hb⟩
          have HBx12 := Lib.hid (show Below wr.heap.size wr wf from pt HB0.out hb)
          have H4 := Lib.hid h4
          clear h4
          unfold ratV
          refine hK.out _ _ (fun _ => HSS.out _ HBx12.out) ?_
          clear hK K hb
          have HNb := Lib.hid (show b8 < wf.heap.size from (HST.out.past HBx12.out).x8.lt)
          refine wpAnyG_one (i := 13) (by kernel_rfl) rfl rfl fun K hK => ?_
          go_simp
          replace H4 := Lib.hid (H4.out.past (pa (o := (Obj.cells #[.int .i64 0, .slice none 0 0, .int .i64 0, .slice none 0 0] 55)) (pr (w := wf))))
          have HBn := Lib.hid (show Below wr.heap.size wr (wf.alloc (Obj.cells #[.int .i64 0, .slice none 0 0, .int .i64 0, .slice none 0 0] 55)) from HBx12.out.alloc HBx12.out.size _)
          have XN := Lib.hid (Blk.new wf 55 #[.int .i64 0, .slice none 0 0, .int .i64 0, .slice none 0 0])
          refine hK.out _ _ (fun _ => HSS.out _ HBn.out) ?_
          clear hK K
          generalize wf.alloc (Obj.cells #[.int .i64 0, .slice none 0 0, .int .i64 0, .slice none 0 0] 55) = wn at *
          generalize wf.heap.size = nb at *
          have f0 := XN.out.frozen 0; have f1 := XN.out.frozen 1; have f2 := XN.out.frozen 2; have f3 := XN.out.frozen 3; have fl := XN.out.lt; have h0_ := XN.out.cellAt 0 rfl; have h1_ := XN.out.cellAt 1 rfl; have h2_ := XN.out.cellAt 2 rfl; have h3_ := XN.out.cellAt 3 rfl
          refine wpAnyG_one (i := 14) (by kernel_rfl) rfl rfl fun K hK => ?_
          go_simp
          refine hK.out _ _ (fun h => absurd h (by decide)) ?_
          clear hK K
          refine wpAnyG_done (by kernel_rfl) ?_
          clear f0 f1 f2 f3 fl h0_ h1_ h2_ h3_
          have hR := rat4_set (u0 := (.int .i64 (signD (y).num))) (u1 := (.slice A4 (dl (y).num) c4)) (u2 := (.int .i64 (signD ((y).den : Int)))) (u3 := (.slice B4 (dl ((y).den : Int)) d4)) XN.out
          have hA := rat4_far (u0 := (.int .i64 (signD (y).num))) (u1 := (.slice A4 (dl (y).num) c4)) (u2 := (.int .i64 (signD ((y).den : Int)))) (u3 := (.slice B4 (dl ((y).den : Int)) d4)) XN.out H4.out
          have hG := ShrSt.off (u0 := (.int .i64 (signD (y).num))) (u1 := (.slice A4 (dl (y).num) c4)) (u2 := (.int .i64 (signD ((y).den : Int)))) (u3 := (.slice B4 (dl ((y).den : Int)) d4)) (HST.out.past HBn.out) XN.out (Nat.ne_of_lt (Nat.lt_trans HB8.out HNb.out)) (Nat.ne_of_lt HNb.out) (Nat.le_trans HB7.out (Nat.le_of_lt (Nat.lt_trans HB8.out HNb.out)))
          go_wp2
          go_meet
          case rel => exact ⟨nb, A4, c4, B4, d4, rfl, HNb.out, hR, hA, hG⟩
        · go_simp
          have HNb := Lib.hid (show b8 < vd.heap.size from (HST.out.past HB0.out).x8.lt)
          have HBn := Lib.hid (show Below wr.heap.size wr (vd.alloc (Obj.cells #[.int .i64 0, .slice none 0 0, .int .i64 0, .slice none 0 0] 55)) from HB0.out.alloc HB0.out.size _)
          have XN := Lib.hid (Blk.new vd 55 #[.int .i64 0, .slice none 0 0, .int .i64 0, .slice none 0 0])
          refine hK.out _ _ (fun _ => HSS.out _ HBn.out) ?_
          clear hK K
          generalize vd.alloc (Obj.cells #[.int .i64 0, .slice none 0 0, .int .i64 0, .slice none 0 0] 55) = wn at *
          generalize vd.heap.size = nb at *
          refine wpAnyG_one (i := 12) (by kernel_rfl) rfl rfl fun K hK => ?_
          go_simp
          refine (HOk.out _).mono ?_
          rintro e wf ⟨A4, c4, B4, d4, rfl, h4, hb⟩
          have HBx12 := Lib.hid (show Below wr.heap.size wr wf from pt HBn.out hb)
          have H4 := Lib.hid h4
          clear h4
          replace XN := Lib.hid (XN.out.past hb)
          unfold ratV
          refine hK.out _ _ (fun _ => HSS.out _ HBx12.out) ?_
          clear hK K hb
          have f0 := XN.out.frozen 0; have f1 := XN.out.frozen 1; have f2 := XN.out.frozen 2; have f3 := XN.out.frozen 3; have fl := XN.out.lt; have h0_ := XN.out.cellAt 0 rfl; have h1_ := XN.out.cellAt 1 rfl; have h2_ := XN.out.cellAt 2 rfl; have h3_ := XN.out.cellAt 3 rfl
          refine wpAnyG_one (i := 14) (by kernel_rfl) rfl rfl fun K hK => ?_
          go_simp
          refine hK.out _ _ (fun h => absurd h (by decide)) ?_
          clear hK K
          refine wpAnyG_done (by kernel_rfl) ?_
          clear f0 f1 f2 f3 fl h0_ h1_ h2_ h3_
          have hR := rat4_set (u0 := (.int .i64 (signD (y).num))) (u1 := (.slice A4 (dl (y).num) c4)) (u2 := (.int .i64 (signD ((y).den : Int)))) (u3 := (.slice B4 (dl ((y).den : Int)) d4)) XN.out
          have hA := rat4_far (u0 := (.int .i64 (signD (y).num))) (u1 := (.slice A4 (dl (y).num) c4)) (u2 := (.int .i64 (signD ((y).den : Int)))) (u3 := (.slice B4 (dl ((y).den : Int)) d4)) XN.out H4.out
          have hG := ShrSt.off (u0 := (.int .i64 (signD (y).num))) (u1 := (.slice A4 (dl (y).num) c4)) (u2 := (.int .i64 (signD ((y).den : Int)))) (u3 := (.slice B4 (dl ((y).den : Int)) d4)) (HST.out.past HBx12.out) XN.out (Nat.ne_of_lt (Nat.lt_trans HB8.out HNb.out)) (Nat.ne_of_lt HNb.out) (Nat.le_trans HB7.out (Nat.le_of_lt (Nat.lt_trans HB8.out HNb.out)))
          go_wp2
          go_meet
          case rel => exact ⟨nb, A4, c4, B4, d4, rfl, HNb.out, hR, hA, hG⟩
      case rest =>
        obtain ⟨bx, A4, c4, B4, d4, rfl, hbn, hbx, hax, hst⟩ := hcut
        have HBn := Lib.hid hbn
        have HBx := Lib.hid hbx
        have H4 := Lib.hid hax
        have HST := Lib.hid hst
        clear hbn hbx hax hst HOk HAk
        go_wp2
        have HSS := Lib.hid (show ∀ W, Below wc.heap.size wc W → W.cell? ⟨b7, 0, none⟩ = some (.int .i64 (signD (X).num)) ∧ W.cell? ⟨b7, 1, none⟩ = some (.slice A1 (dl (X).num) c1) ∧ W.cell? ⟨b7, 2, none⟩ = some (.int .i64 (signD ((X).den : Int))) ∧ W.cell? ⟨b7, 3, none⟩ = some (.slice B1 (dl ((X).den : Int)) d1) ∧ W.cell? ⟨b8, 0, none⟩ = some (.int .i64 (signD (Y).num)) ∧ W.cell? ⟨b8, 1, none⟩ = some (.slice A2 (dl (Y).num) c2) ∧ W.cell? ⟨b8, 2, none⟩ = some (.int .i64 (signD ((Y).den : Int))) ∧ W.cell? ⟨b8, 3, none⟩ = some (.slice B2 (dl ((Y).den : Int)) d2) ∧ W.cell? ⟨bx, 0, none⟩ = some (.int .i64 (signD (y).num)) ∧ W.cell? ⟨bx, 1, none⟩ = some (.slice A4 (dl (y).num) c4) ∧ W.cell? ⟨bx, 2, none⟩ = some (.int .i64 (signD ((y).den : Int))) ∧ W.cell? ⟨bx, 3, none⟩ = some (.slice B4 (dl ((y).den : Int)) d4) ∧ W.cell? ⟨bV, oV + k, none⟩ = some (.int .i64 f_) from fun W hW => ⟨(HST.out.x7.past hW).cellAt 0 rfl, (HST.out.x7.past hW).cellAt 1 rfl, (HST.out.x7.past hW).cellAt 2 rfl, (HST.out.x7.past hW).cellAt 3 rfl, (HST.out.x8.past hW).cellAt 0 rfl, (HST.out.x8.past hW).cellAt 1 rfl, (HST.out.x8.past hW).cellAt 2 rfl, (HST.out.x8.past hW).cellAt 3 rfl, (HBx.out.past hW).cellAt 0 rfl, (HBx.out.past hW).cellAt 1 rfl, (HBx.out.past hW).cellAt 2 rfl, (HBx.out.past hW).cellAt 3 rfl, HVk.out W (pt HST.out.bel hW)⟩)
        refine wp_region_G 12 follows_mixed (fun W => W.cell? ⟨b7, 0, none⟩ = some (.int .i64 (signD (X).num)) ∧ W.cell? ⟨b7, 1, none⟩ = some (.slice A1 (dl (X).num) c1) ∧ W.cell? ⟨b7, 2, none⟩ = some (.int .i64 (signD ((X).den : Int))) ∧ W.cell? ⟨b7, 3, none⟩ = some (.slice B1 (dl ((X).den : Int)) d1) ∧ W.cell? ⟨b8, 0, none⟩ = some (.int .i64 (signD (Y).num)) ∧ W.cell? ⟨b8, 1, none⟩ = some (.slice A2 (dl (Y).num) c2) ∧ W.cell? ⟨b8, 2, none⟩ = some (.int .i64 (signD ((Y).den : Int))) ∧ W.cell? ⟨b8, 3, none⟩ = some (.slice B2 (dl ((Y).den : Int)) d2) ∧ W.cell? ⟨bx, 0, none⟩ = some (.int .i64 (signD (y).num)) ∧ W.cell? ⟨bx, 1, none⟩ = some (.slice A4 (dl (y).num) c4) ∧ W.cell? ⟨bx, 2, none⟩ = some (.int .i64 (signD ((y).den : Int))) ∧ W.cell? ⟨bx, 3, none⟩ = some (.slice B4 (dl ((y).den : Int)) d4) ∧ W.cell? ⟨bV, oV + k, none⟩ = some (.int .i64 f_)) (HSS.out _ (pd pr)) ?_
        intro hSd inv
        have HSd := Lib.hid hSd
        clear hSd
        have HB0 := Lib.hid (show Below wc.heap.size wc wc.drew from pd pr)
        refine wpAnyG_take (i := 0) (v := ?_) rfl (by kernel_rfl) (by kernel_rfl) (by kernel_rfl) (by kernel_rfl) (by kernel_rfl) (by decide) (by decide) inv (fun _ _ _ h => h) (Or.inl ⟨by rfl, ?_⟩) HSd.out ?_; rotate_left; (focus (intro W y1; obtain ⟨y1, y2, y3, y4, y5, y6, y7, y8, y9, y10, y11, y12, y13⟩ := y1; go_simp; (first | done | with_reducible rfl))); clear inv; intro inv; simp only [List.getElem_toArray, List.getElem_cons_zero, Act.put, List.setIfInBounds_toArray, List.set_cons_zero, List.set_cons_succ]
        refine wpAnyG_take (i := 1) (v := ?_) rfl (by kernel_rfl) (by kernel_rfl) (by kernel_rfl) (by kernel_rfl) (by kernel_rfl) (by decide) (by decide) inv (fun _ _ _ h => h) (Or.inl ⟨by rfl, ?_⟩) HSd.out ?_; rotate_left; (focus (intro W y1; obtain ⟨y1, y2, y3, y4, y5, y6, y7, y8, y9, y10, y11, y12, y13⟩ := y1; go_simp; (first | done | with_reducible rfl))); clear inv; intro inv; simp only [List.getElem_toArray, List.getElem_cons_zero, List.getElem_cons_succ, Act.put, List.setIfInBounds_toArray, List.set_cons_zero, List.set_cons_succ]
        refine wpAnyG_take (i := 2) (v := ?_) rfl (by kernel_rfl) (by kernel_rfl) (by kernel_rfl) (by kernel_rfl) (by kernel_rfl) (by decide) (by decide) inv (fun _ _ _ h => h) (Or.inl ⟨by rfl, ?_⟩) HSd.out ?_; rotate_left; (focus (intro W y1; obtain ⟨y1, y2, y3, y4, y5, y6, y7, y8, y9, y10, y11, y12, y13⟩ := y1; go_simp; (first | done | with_reducible rfl))); clear inv; intro inv; simp only [List.getElem_toArray, List.getElem_cons_zero, List.getElem_cons_succ, Act.put, List.setIfInBounds_toArray, List.set_cons_zero, List.set_cons_succ]
        refine wpAnyG_take (i := 3) (v := ?_) rfl (by kernel_rfl) (by kernel_rfl) (by kernel_rfl) (by kernel_rfl) (by kernel_rfl) (by decide) (by decide) inv (fun _ _ _ h => h) (Or.inl ⟨by rfl, ?_⟩) HSd.out ?_; rotate_left; (focus (intro W y1; obtain ⟨y1, y2, y3, y4, y5, y6, y7, y8, y9, y10, y11, y12, y13⟩ := y1; go_simp; (first | done | with_reducible rfl))); clear inv; intro inv; simp only [List.getElem_toArray, List.getElem_cons_zero, List.getElem_cons_succ, Act.put, List.setIfInBounds_toArray, List.set_cons_zero, List.set_cons_succ]
        refine wpAnyG_take (i := 4) (v := ?_) rfl (by kernel_rfl) (by kernel_rfl) (by kernel_rfl) (by kernel_rfl) (by kernel_rfl) (by decide) (by decide) inv (fun _ _ _ h => h) (Or.inl ⟨by rfl, ?_⟩) HSd.out ?_; rotate_left; (focus (intro W y1; obtain ⟨y1, y2, y3, y4, y5, y6, y7, y8, y9, y10, y11, y12, y13⟩ := y1; go_simp; (first | done | with_reducible rfl))); clear inv; intro inv; simp only [List.getElem_toArray, List.getElem_cons_zero, List.getElem_cons_succ, Act.put, List.setIfInBounds_toArray, List.set_cons_zero, List.set_cons_succ]
        refine wpAnyG_take (i := 6) (v := ?_) rfl (by kernel_rfl) (by kernel_rfl) (by kernel_rfl) (by kernel_rfl) (by kernel_rfl) (by decide) (by decide) inv (fun _ _ _ h => h) (Or.inl ⟨by rfl, ?_⟩) HSd.out ?_; rotate_left; (focus (intro W y1; obtain ⟨y1, y2, y3, y4, y5, y6, y7, y8, y9, y10, y11, y12, y13⟩ := y1; go_simp; (first | done | with_reducible rfl))); clear inv; intro inv; simp only [List.getElem_toArray, List.getElem_cons_zero, List.getElem_cons_succ, Act.put, List.setIfInBounds_toArray, List.set_cons_zero, List.set_cons_succ]
        refine wpAnyG_take (i := 9) (v := ?_) rfl (by kernel_rfl) (by kernel_rfl) (by kernel_rfl) (by kernel_rfl) (by kernel_rfl) (by decide) (by decide) inv (fun _ _ _ h => h) (Or.inl ⟨by rfl, ?_⟩) HSd.out ?_; rotate_left; (focus (intro W y1; obtain ⟨y1, y2, y3, y4, y5, y6, y7, y8, y9, y10, y11, y12, y13⟩ := y1; go_simp; (first | done | with_reducible rfl))); clear inv; intro inv; simp only [List.getElem_toArray, List.getElem_cons_zero, List.getElem_cons_succ, Act.put, List.setIfInBounds_toArray, List.set_cons_zero, List.set_cons_succ]
        refine wpAnyG_take (i := 10) (v := ?_) rfl (by kernel_rfl) (by kernel_rfl) (by kernel_rfl) (by kernel_rfl) (by kernel_rfl) (by decide) (by decide) inv (fun _ _ _ h => h) (Or.inl ⟨by rfl, ?_⟩) HSd.out ?_; rotate_left; (focus (intro W y1; obtain ⟨y1, y2, y3, y4, y5, y6, y7, y8, y9, y10, y11, y12, y13⟩ := y1; go_simp; (first | done | with_reducible rfl))); clear inv; intro inv; simp only [List.getElem_toArray, List.getElem_cons_zero, List.getElem_cons_succ, Act.put, List.setIfInBounds_toArray, List.set_cons_zero, List.set_cons_succ]
        have HInv := Lib.hid inv
        clear inv
        refine wpAnyG_one (i := 5) (by kernel_rfl) rfl rfl fun K hK => ?_
        go_simp
        refine (HIk.out _).mono ?_
        rintro e wi ⟨A3, c3, B3, d3, rfl, h3, hb⟩
        have HBx5 := Lib.hid (show Below wc.heap.size wc wi from pt HB0.out hb)
        have H3 := Lib.hid h3
        clear h3
        unfold ratV
        refine hK.out _ _ (fun _ => HSS.out _ HBx5.out) ?_
        clear hK K hb
        replace HInv := Lib.hid (inv_one (i := 5) HInv.out (by kernel_rfl) (by decide))
        refine wpAnyG_one (i := 7) (by kernel_rfl) rfl rfl fun K hK => ?_
        go_simp
        refine (HMk.out _ A3 c3 B3 d3 A4 c4 B4 d4 H3.out (H4.out.past HBx5.out)).mono ?_
        rintro e wm ⟨A5, c5, B5, d5, rfl, h5, hb⟩
        have HBx7 := Lib.hid (show Below wc.heap.size wc wm from pt HBx5.out hb)
        have H5 := Lib.hid h5
        clear h5
        unfold ratV
        refine hK.out _ _ (fun _ => HSS.out _ HBx7.out) ?_
        clear hK K hb
        replace HInv := Lib.hid (inv_one (i := 7) HInv.out (by kernel_rfl) (by decide))
        refine wpAnyG_one (i := 8) (by kernel_rfl) rfl rfl fun K hK => ?_
        go_simp
        refine (HX1.out _ A1 c1 B1 d1 A5 c5 B5 d5 (HST.out.a7.past HBx7.out) H5.out).mono ?_
        rintro e ws ⟨A6, c6, B6, d6, rfl, h6, hb⟩
        have HBx8 := Lib.hid (show Below wc.heap.size wc ws from pt HBx7.out hb)
        have H6 := Lib.hid h6
        clear h6
        unfold ratV
        refine hK.out _ _ (fun _ => HSS.out _ HBx8.out) ?_
        clear hK K hb
        replace HInv := Lib.hid (inv_one (i := 8) HInv.out (by kernel_rfl) (by decide))
        refine wpAnyG_one (i := 11) (by kernel_rfl) rfl rfl fun K hK => ?_
        go_simp
        refine (HX2.out _ A2 c2 B2 d2 A4 c4 B4 d4 (HST.out.a8.past HBx8.out) (H4.out.past HBx8.out)).mono ?_
        rintro e wt ⟨A7, c7, B7, d7, rfl, h7, hb⟩
        have HBx11 := Lib.hid (show Below wc.heap.size wc wt from pt HBx8.out hb)
        have H7 := Lib.hid h7
        have H6 := Lib.hid (H6.out.past hb)
        clear h7
        unfold ratV
        refine hK.out _ _ (fun _ => HSS.out _ HBx11.out) ?_
        clear hK K hb
        replace HInv := Lib.hid (inv_one (i := 11) HInv.out (by kernel_rfl) (by decide))
        have G1 := Lib.hid (HST.out.past HBx11.out)
        refine wpAnyG_one (i := 12) (by kernel_rfl) rfl rfl fun K hK => ?_
        refine store_one (T := 55) (b := b7) (o := 0) (vs := #[.int .i64 (signD (X').num), .slice A6 (dl (X').num) c6, .int .i64 (signD ((X').den : Int)), .slice B6 (dl ((X').den : Int)) d6]) rfl G1.out.x7 rfl rfl rfl (Nat.le_refl 4) ratio_size (by simp [Value.oneCell']) fun wu hBu hPu => ?_
        refine hK.out _ _ (fun h => absurd h (by decide)) ?_
        clear hK K
        simp only [List.getElem_toArray, List.getElem_cons_zero, List.getElem_cons_succ, Act.put]
        have G2 := Lib.hid (G1.out.put7 H6.out hBu hPu (Nat.ne_of_gt HB8.out) HB7.out)
        have H8 := Lib.hid (H7.out.put G1.out.x7 hPu)
        clear HIk HMk HX1 HX2 HVk H3 H4 H5 H6 HBx G1 HSS HSd hBu hPu
        refine wpAnyG_one (i := 13) (by kernel_rfl) rfl rfl fun K hK => ?_
        refine store_one (T := 55) (b := b8) (o := 0) (vs := #[.int .i64 (signD (Y').num), .slice A7 (dl (Y').num) c7, .int .i64 (signD ((Y').den : Int)), .slice B7 (dl ((Y').den : Int)) d7]) rfl G2.out.x8 rfl rfl rfl (Nat.le_refl 4) ratio_size (by simp [Value.oneCell']) fun wz hBz hPz => ?_
        refine hK.out _ _ (fun h => absurd h (by decide)) ?_
        clear hK K
        simp only [List.getElem_toArray, List.getElem_cons_zero, List.getElem_cons_succ, Act.put]
        have G3 := Lib.hid (G2.out.put8 H8.out hBz hPz (Nat.ne_of_lt HB8.out) (Nat.le_trans HB7.out (Nat.le_of_lt HB8.out)))
        refine wpAnyG_done (by kernel_rfl) ?_
        clear HInv HB0 hBz hPz
        go_wp2
        go_roundw
        case rel => exact ⟨k + 1, A6, c6, B6, d6, A7, c7, B7, d7, src_succ _, HI.out, HXE.out ▸ HYE.out ▸ G3.out⟩
        case measure => exact src_meas HI.out
    · as_aux_lemma =>
      have hkn : n = k := by omega
      subst hkn
      have i1 : ¬ (n : Int) < (n : Int) := Int.lt_irrefl _
      have g0 := HST.out.x7.cellAt 0 rfl; have g1 := HST.out.x7.cellAt 1 rfl; have g2 := HST.out.x7.cellAt 2 rfl; have g3 := HST.out.x7.cellAt 3 rfl
      have g4 := HST.out.x8.cellAt 0 rfl; have g5 := HST.out.x8.cellAt 1 rfl; have g6 := HST.out.x8.cellAt 2 rfl; have g7 := HST.out.x8.cellAt 3 rfl
      have gl := HST.out.x8.lt
      clear HMu HA1 HA2 HOf
      go_wp2_with (go_at_call 98; (with_reducible refine (HDb.out _ A1 c1 B1 d1 A2 c2 B2 d2 HST.out.a7 HST.out.a8).mono ?_); rintro e w3 ⟨A5, c5, B5, d5, rfl, h5, hb5⟩; have H5 := Lib.hid h5; have Q5 := Lib.hid (pt HST.out.bel hb5); clear h5 hb5 HDb HST g0 g1 g2 g3 g4 g5 g6 g7 gl; unfold ratV)
    
      have HBB := Lib.hid (show Blk (w3.alloc (.cells #[.int .i64 (signD (bus).num), .slice A5 (dl (bus).num) c5, .int .i64 (signD ((bus).den : Int)), .slice B5 (dl ((bus).den : Int)) d5] 55)) w3.heap.size 55 #[.int .i64 (signD (bus).num), .slice A5 (dl (bus).num) c5, .int .i64 (signD ((bus).den : Int)), .slice B5 (dl ((bus).den : Int)) d5] from Blk.new _ _ _)
      have HBA := Lib.hid (H5.out.past (pa (o := .cells #[.int .i64 (signD (bus).num), .slice A5 (dl (bus).num) c5, .int .i64 (signD ((bus).den : Int)), .slice B5 (dl ((bus).den : Int)) d5] 55) (pr (w := w3))))
      have HQ5 := Lib.hid (show Below w.heap.size w (w3.alloc (.cells #[.int .i64 (signD (bus).num), .slice A5 (dl (bus).num) c5, .int .i64 (signD ((bus).den : Int)), .slice B5 (dl ((bus).den : Int)) d5] 55)) from pa Q5.out)
      clear H5 Q5 HB7 HB8 i0 i1 hlt hk
      generalize w3.alloc (.cells #[.int .i64 (signD (bus).num), .slice A5 (dl (bus).num) c5, .int .i64 (signD ((bus).den : Int)), .slice B5 (dl ((bus).den : Int)) d5] 55) = v2 at *
      generalize w3.heap.size = bb at *
      as_aux_lemma =>
      go_loopw [12, 13] (fun ov iv wr => ∃ (k : Nat) (A : Option Addr) (c : Nat) (xs : List RowR), iv = .int .i64 (k : Int) ∧ k ≤ n ∧ ov = .slice A k c ∧ xs.map RowR.r = (List.range k).map rk ∧ wr.ownsRow v2.heap.size 55 4 (.slice A k c) k (xs.flatMap rowU) ∧ RowsAt wr xs ∧ Below v2.heap.size v2 wr) (fun _ iv _ => n - (intOf iv).toNat)
      case atStart => exact ⟨0, none, 0, [], rfl, Nat.zero_le _, rfl, rfl, World.ownsRow_nil _ _ _ _, (fun x hx => by cases hx), pr⟩
      case round =>
        obtain ⟨k, A, c, xs, rfl, hk, rfl, hxs, hown, hrow, hq⟩ := hrel
        have HO := Lib.hid hown
        have HX := Lib.hid hxs
        have HR := Lib.hid hrow
        have HQ := Lib.hid hq
        have HW := Lib.hid (show Below w.heap.size w wr from HQ5.out.trans (hq.mono HQ5.out.size))
        clear hown hxs hrow hq
        have i0 := src_cast k
        by_cases hlt : k < n
        · as_aux_lemma =>
          have i1 := src_lt hlt
          have HI := Lib.hid hlt
          have HAk := Lib.hid (fun W hW => HAc.out W k hW HI.out)
          have HVk := Lib.hid (fun W hW => HVc.out W k hW HI.out)
          have HIk := Lib.hid (fun W => HIn.out W k HI.out)
          have HSk := Lib.hid (fun W A3 c3 B3 d3 A4 c4 B4 d4 => HSu.out W k A3 c3 B3 d3 A4 c4 B4 d4 HI.out)
          have HFk := Lib.hid (fun W => HFr.out W k HI.out)
          have HDk := Lib.hid (fun W A3 c3 B3 d3 A4 c4 B4 d4 => HDv.out W k A3 c3 B3 d3 A4 c4 B4 d4 HI.out)
          obtain ⟨i9, hi9, hz1, hz2, hz3⟩ := info_parts ratioRow_info
          have HKn := Lib.hid (show k ≤ 4 from Nat.le_trans (Nat.le_of_lt hlt) HN.out)
          have HRs := Lib.hid (range_snoc rk k)
          clear HIn HSu HFr HDv HAc HVc HN
          generalize hRK : (List.range (k + 1)).map rk = RK at *
          generalize (List.range k).map rk = RK0 at *
          have HRK := Lib.hid hRK
          clear hRK
          generalize rk k = rr at *
          generalize tk k = tt at *
          generalize zk k = zz at *
          generalize vr k = vk at *
          generalize ni k = N_ at *
          generalize di k = D_ at *
          generalize fi k = f_ at *
          go_wp2
          have HSS := Lib.hid (show ∀ W, Below wr.heap.size wr W → W.cell? ⟨bb, 0, none⟩ = some (.int .i64 (signD (bus).num)) ∧ W.cell? ⟨bb, 1, none⟩ = some (.slice A5 (dl (bus).num) c5) ∧ W.cell? ⟨bb, 2, none⟩ = some (.int .i64 (signD ((bus).den : Int))) ∧ W.cell? ⟨bb, 3, none⟩ = some (.slice B5 (dl ((bus).den : Int)) d5) ∧ W.cell? ⟨bA, oA + k * 4 + 2, none⟩ = some (.int .i64 N_) ∧ W.cell? ⟨bA, oA + k * 4 + 3, none⟩ = some (.int .i64 D_) ∧ W.cell? ⟨bV, oV + k, none⟩ = some (.int .i64 f_) from fun W hW => ⟨(HBB.out.past (pt HQ.out hW)).cellAt 0 rfl, (HBB.out.past (pt HQ.out hW)).cellAt 1 rfl, (HBB.out.past (pt HQ.out hW)).cellAt 2 rfl, (HBB.out.past (pt HQ.out hW)).cellAt 3 rfl, (HAk.out W (pt HW.out hW)).1, (HAk.out W (pt HW.out hW)).2, HVk.out W (pt HW.out hW)⟩)
          refine wp_region_G 16 follows_mixed (fun W => W.cell? ⟨bb, 0, none⟩ = some (.int .i64 (signD (bus).num)) ∧ W.cell? ⟨bb, 1, none⟩ = some (.slice A5 (dl (bus).num) c5) ∧ W.cell? ⟨bb, 2, none⟩ = some (.int .i64 (signD ((bus).den : Int))) ∧ W.cell? ⟨bb, 3, none⟩ = some (.slice B5 (dl ((bus).den : Int)) d5) ∧ W.cell? ⟨bA, oA + k * 4 + 2, none⟩ = some (.int .i64 N_) ∧ W.cell? ⟨bA, oA + k * 4 + 3, none⟩ = some (.int .i64 D_) ∧ W.cell? ⟨bV, oV + k, none⟩ = some (.int .i64 f_)) (HSS.out _ (pd pr)) ?_
          intro hSd inv
          have HSd := Lib.hid hSd
          clear hSd
          have HB0 := Lib.hid (show Below wr.heap.size wr wr.drew from pd pr)
          refine wpAnyG_take (i := 0) (v := ?_) rfl (by kernel_rfl) (by kernel_rfl) (by kernel_rfl) (by kernel_rfl) (by kernel_rfl) (by decide) (by decide) inv (fun _ _ _ h => h) (Or.inl ⟨by rfl, ?_⟩) HSd.out ?_; rotate_left; (focus (intro W y1; obtain ⟨y1, y2, y3, y4, y5, y6, y7⟩ := y1; go_simp; (first | done | with_reducible rfl))); clear inv; intro inv; simp only [List.getElem_toArray, List.getElem_cons_zero, Act.put, List.setIfInBounds_toArray, List.set_cons_zero, List.set_cons_succ]
          refine wpAnyG_take (i := 1) (v := ?_) rfl (by kernel_rfl) (by kernel_rfl) (by kernel_rfl) (by kernel_rfl) (by kernel_rfl) (by decide) (by decide) inv (fun _ _ _ h => h) (Or.inl ⟨by rfl, ?_⟩) HSd.out ?_; rotate_left; (focus (intro W y1; obtain ⟨y1, y2, y3, y4, y5, y6, y7⟩ := y1; go_simp; (first | done | with_reducible rfl))); clear inv; intro inv; simp only [List.getElem_toArray, List.getElem_cons_zero, List.getElem_cons_succ, Act.put, List.setIfInBounds_toArray, List.set_cons_zero, List.set_cons_succ]
          refine wpAnyG_take (i := 2) (v := ?_) rfl (by kernel_rfl) (by kernel_rfl) (by kernel_rfl) (by kernel_rfl) (by kernel_rfl) (by decide) (by decide) inv (fun _ _ _ h => h) (Or.inl ⟨by rfl, ?_⟩) HSd.out ?_; rotate_left; (focus (intro W y1; obtain ⟨y1, y2, y3, y4, y5, y6, y7⟩ := y1; go_simp; (first | done | with_reducible rfl))); clear inv; intro inv; simp only [List.getElem_toArray, List.getElem_cons_zero, List.getElem_cons_succ, Act.put, List.setIfInBounds_toArray, List.set_cons_zero, List.set_cons_succ]
          refine wpAnyG_take (i := 3) (v := ?_) rfl (by kernel_rfl) (by kernel_rfl) (by kernel_rfl) (by kernel_rfl) (by kernel_rfl) (by decide) (by decide) inv (fun _ _ _ h => h) (Or.inl ⟨by rfl, ?_⟩) HSd.out ?_; rotate_left; (focus (intro W y1; obtain ⟨y1, y2, y3, y4, y5, y6, y7⟩ := y1; go_simp; (first | done | with_reducible rfl))); clear inv; intro inv; simp only [List.getElem_toArray, List.getElem_cons_zero, List.getElem_cons_succ, Act.put, List.setIfInBounds_toArray, List.set_cons_zero, List.set_cons_succ]
          refine wpAnyG_take (i := 4) (v := ?_) rfl (by kernel_rfl) (by kernel_rfl) (by kernel_rfl) (by kernel_rfl) (by kernel_rfl) (by decide) (by decide) inv (fun _ _ _ h => h) (Or.inl ⟨by rfl, ?_⟩) HSd.out ?_; rotate_left; (focus (intro W y1; obtain ⟨y1, y2, y3, y4, y5, y6, y7⟩ := y1; go_simp; (first | done | with_reducible rfl))); clear inv; intro inv; simp only [List.getElem_toArray, List.getElem_cons_zero, List.getElem_cons_succ, Act.put, List.setIfInBounds_toArray, List.set_cons_zero, List.set_cons_succ]
          refine wpAnyG_take (i := 6) (v := ?_) rfl (by kernel_rfl) (by kernel_rfl) (by kernel_rfl) (by kernel_rfl) (by kernel_rfl) (by decide) (by decide) inv (fun _ _ _ h => h) (Or.inl ⟨by rfl, ?_⟩) HSd.out ?_; rotate_left; (focus (intro W y1; obtain ⟨y1, y2, y3, y4, y5, y6, y7⟩ := y1; go_simp; (first | done | with_reducible rfl))); clear inv; intro inv; simp only [List.getElem_toArray, List.getElem_cons_zero, List.getElem_cons_succ, Act.put, List.setIfInBounds_toArray, List.set_cons_zero, List.set_cons_succ]
          refine wpAnyG_take (i := 8) (v := ?_) rfl (by kernel_rfl) (by kernel_rfl) (by kernel_rfl) (by kernel_rfl) (by kernel_rfl) (by decide) (by decide) inv (fun _ _ _ h => h) (Or.inl ⟨by rfl, ?_⟩) HSd.out ?_; rotate_left; (focus (intro W y1; obtain ⟨y1, y2, y3, y4, y5, y6, y7⟩ := y1; go_simp; (first | done | with_reducible rfl))); clear inv; intro inv; simp only [List.getElem_toArray, List.getElem_cons_zero, List.getElem_cons_succ, Act.put, List.setIfInBounds_toArray, List.set_cons_zero, List.set_cons_succ]
          refine wpAnyG_take (i := 9) (v := ?_) rfl (by kernel_rfl) (by kernel_rfl) (by kernel_rfl) (by kernel_rfl) (by kernel_rfl) (by decide) (by decide) inv (fun _ _ _ h => h) (Or.inl ⟨by rfl, ?_⟩) HSd.out ?_; rotate_left; (focus (intro W y1; obtain ⟨y1, y2, y3, y4, y5, y6, y7⟩ := y1; go_simp; (first | done | with_reducible rfl))); clear inv; intro inv; simp only [List.getElem_toArray, List.getElem_cons_zero, List.getElem_cons_succ, Act.put, List.setIfInBounds_toArray, List.set_cons_zero, List.set_cons_succ]
          refine wpAnyG_take (i := 10) (v := ?_) rfl (by kernel_rfl) (by kernel_rfl) (by kernel_rfl) (by kernel_rfl) (by kernel_rfl) (by decide) (by decide) inv (fun _ _ _ h => h) (Or.inl ⟨by rfl, ?_⟩) HSd.out ?_; rotate_left; (focus (intro W y1; obtain ⟨y1, y2, y3, y4, y5, y6, y7⟩ := y1; go_simp; (first | done | with_reducible rfl))); clear inv; intro inv; simp only [List.getElem_toArray, List.getElem_cons_zero, List.getElem_cons_succ, Act.put, List.setIfInBounds_toArray, List.set_cons_zero, List.set_cons_succ]
          refine wpAnyG_take (i := 11) (v := ?_) rfl (by kernel_rfl) (by kernel_rfl) (by kernel_rfl) (by kernel_rfl) (by kernel_rfl) (by decide) (by decide) inv (fun _ _ _ h => h) (Or.inl ⟨by rfl, ?_⟩) HSd.out ?_; rotate_left; (focus (intro W y1; obtain ⟨y1, y2, y3, y4, y5, y6, y7⟩ := y1; go_simp; (first | done | with_reducible rfl))); clear inv; intro inv; simp only [List.getElem_toArray, List.getElem_cons_zero, List.getElem_cons_succ, Act.put, List.setIfInBounds_toArray, List.set_cons_zero, List.set_cons_succ]
          refine wpAnyG_take (i := 12) (v := ?_) rfl (by kernel_rfl) (by kernel_rfl) (by kernel_rfl) (by kernel_rfl) (by kernel_rfl) (by decide) (by decide) inv (fun _ _ _ h => h) (Or.inl ⟨by rfl, ?_⟩) HSd.out ?_; rotate_left; (focus (intro W y1; obtain ⟨y1, y2, y3, y4, y5, y6, y7⟩ := y1; go_simp; (first | done | with_reducible rfl))); clear inv; intro inv; simp only [List.getElem_toArray, List.getElem_cons_zero, List.getElem_cons_succ, Act.put, List.setIfInBounds_toArray, List.set_cons_zero, List.set_cons_succ]
          have HInv := Lib.hid inv
          clear inv
          refine wpAnyG_one (i := 5) (by kernel_rfl) rfl rfl fun K hK => ?_
          go_simp
          refine (HIk.out _).mono ?_
          rintro e wi ⟨A3, c3, B3, d3, rfl, h3, hb⟩
          have HBx5 := Lib.hid (show Below wr.heap.size wr wi from pt HB0.out hb)
          have H3 := Lib.hid h3
          clear h3
          unfold ratV
          refine hK.out _ _ (fun _ => HSS.out _ HBx5.out) ?_
          clear hK K hb
          replace HInv := Lib.hid (inv_one (i := 5) HInv.out (by kernel_rfl) (by decide))
          refine wpAnyG_one (i := 7) (by kernel_rfl) rfl rfl fun K hK => ?_
          go_simp
          refine (HSk.out _ A3 c3 B3 d3 A5 c5 B5 d5 H3.out (HBA.out.past (pt HQ.out HBx5.out))).mono ?_
          rintro e ws ⟨A6, c6, B6, d6, rfl, h6, hb⟩
          have HBx7 := Lib.hid (show Below wr.heap.size wr ws from pt HBx5.out hb)
          have H6 := Lib.hid h6
          clear h6
          unfold ratV
          refine hK.out _ _ (fun _ => HSS.out _ HBx7.out) ?_
          clear hK K hb
          replace HInv := Lib.hid (inv_one (i := 7) HInv.out (by kernel_rfl) (by decide))
          refine wpAnyG_one (i := 13) (by kernel_rfl) rfl rfl fun K hK => ?_
          go_simp
          refine (HFk.out _).mono ?_
          rintro e wf ⟨A7, c7, B7, d7, rfl, h7, hb⟩
          have HBx13 := Lib.hid (show Below wr.heap.size wr wf from pt HBx7.out hb)
          have H7 := Lib.hid h7
          have H6 := Lib.hid (H6.out.past hb)
          clear h7
          unfold ratV
          refine hK.out _ _ (fun _ => HSS.out _ HBx13.out) ?_
          clear hK K hb
          replace HInv := Lib.hid (inv_one (i := 13) HInv.out (by kernel_rfl) (by decide))
          refine wpAnyG_one (i := 14) (by kernel_rfl) rfl rfl fun K hK => ?_
          go_simp
          refine (HDk.out _ A6 c6 B6 d6 A7 c7 B7 d7 H6.out H7.out).mono ?_
          rintro e wd ⟨A9, c9, B9, d9, rfl, h9, hb⟩
          have HBx14 := Lib.hid (show Below wr.heap.size wr wd from pt HBx13.out hb)
          have H9 := Lib.hid h9
          clear h9
          unfold ratV
          refine hK.out _ _ (fun _ => HSS.out _ HBx14.out) ?_
          clear hK K hb
          replace HInv := Lib.hid (inv_one (i := 14) HInv.out (by kernel_rfl) (by decide))
          refine wpAnyG_one (i := 15) (by kernel_rfl) rfl rfl fun K hK => ?_
          go_simp
          have HBn := Lib.hid (show Below wr.heap.size wr (wd.alloc (Obj.cells #[.int .i64 (signD (rr).num), .slice A9 (dl (rr).num) c9, .int .i64 (signD ((rr).den : Int)), .slice B9 (dl ((rr).den : Int)) d9] 55)) from HBx14.out.alloc HBx14.out.size _)
          have XN := Lib.hid (Blk.new wd 55 #[.int .i64 (signD (rr).num), .slice A9 (dl (rr).num) c9, .int .i64 (signD ((rr).den : Int)), .slice B9 (dl ((rr).den : Int)) d9])
          replace H9 := Lib.hid (H9.out.past (pa (o := (Obj.cells #[.int .i64 (signD (rr).num), .slice A9 (dl (rr).num) c9, .int .i64 (signD ((rr).den : Int)), .slice B9 (dl ((rr).den : Int)) d9] 55)) (pr (w := wd))))
          refine hK.out _ _ (fun _ => HSS.out _ HBn.out) ?_
          clear hK K
          replace HInv := Lib.hid (inv_one (i := 15) HInv.out (by kernel_rfl) (by decide))
          generalize wd.alloc (Obj.cells #[.int .i64 (signD (rr).num), .slice A9 (dl (rr).num) c9, .int .i64 (signD ((rr).den : Int)), .slice B9 (dl ((rr).den : Int)) d9] 55) = wn at *
          generalize wd.heap.size = nb at *
          have HO2 := Lib.hid (ownsRow_pastR HBn.out HO.out)
          have HR2 := Lib.hid ((HR.out.past HBn.out).app (x := ⟨rr, A9, c9, B9, d9⟩) H9.out)
          have HQn := Lib.hid (pt HQ.out HBn.out)
          have HC := Lib.hid (show CellsIn wn.heap.size wn (some ⟨nb, 0, none⟩) (rowU ⟨rr, A9, c9, B9, d9⟩) from .inr ⟨nb, 0, rfl, XN.out.lt, fun j hj => by rw [Nat.zero_add, XN.out.cell]; simp [rowU]⟩)
          have hk4 := HKn.out
          refine wpAnyG_one (i := 16) (by kernel_rfl) rfl rfl fun K hK => ?_
          refine wp_append_cells _ (.tmp 58) (.tmp 73) _ rfl v2.heap.size 55 i9 _ 4 64 Tryz.underlying124 hi9 hz1 hz2 hz3 rfl (by decide) _ k _ rfl HO2.out wn.heap.size (some ⟨nb, 0, none⟩) 1 1 _ rfl HC.out rfl (row_one _) (by simp only [maxLen]; omega) (by omega) HQn.out.size ?_
          intro vv ww hown2 hg2 _
          obtain ⟨A8, c8, rfl, hc8, hm8⟩ := own_form hown2
          have HBw := Lib.hid (pg HQn.out HO2.out (Nat.le_refl _) hg2)
          have HR3 := Lib.hid (HR2.out.grown HO2.out (by decide) hg2)
          have HO3 := Lib.hid hown2
          refine hK.out _ _ (fun h => absurd h (by decide)) ?_
          clear hK K hown2 hg2 hc8 hm8 HO2 HR2 HQn HC XN H9 hk4
          simp only [List.getElem_toArray, List.getElem_cons_zero, List.getElem_cons_succ, Act.put, List.setIfInBounds_toArray, List.set_cons_succ, List.set_cons_zero]
          refine wpAnyG_one (i := 17) (by kernel_rfl) rfl rfl fun K hK => ?_
          go_simp
          refine hK.out _ _ (fun h => absurd h (by decide)) ?_
          clear hK K
          refine wpAnyG_done (by kernel_rfl) ?_
          go_wp2
          go_roundw
          case rel => exact ⟨k + 1, A8, c8, xs ++ [⟨rr, A9, c9, B9, d9⟩], src_succ _, HI.out, rfl, by rw [List.map_append, HX.out, HRK.out, HRs.out]; rfl, by rw [List.flatMap_append]; simpa using HO3.out, HR3.out, HBw.out⟩
          case measure => exact src_meas HI.out
        · as_aux_lemma =>
          have hkn : n = k := by omega
          subst hkn
          have i1 : ¬ (n : Int) < (n : Int) := Int.lt_irrefl _
          clear hk hlt
          go_wp2
          go_ret
          have hl : ((List.range n).map rk).length = n := by simp
          refine ⟨A, c, xs, ?_, HX.out, cellsIn_of_own HO.out, HR.out, ?_, HW.out⟩
          · show Ending.returned (.slice A n c) = _
            rw [hl]
          · rw [hl]
            obtain ⟨_, _, e1, e2, _⟩ := own_form HO.out
            injection e1 with _ _ e3
            omega

end Go.Proofs.YtpdkbhjcpddnpaaGreatDoor
end
