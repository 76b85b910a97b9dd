/- abacusref17.of: some kinds of verbs. Condition: sizes within reach. -/
import Derived.Test.YtkdejffhdhcocaaGreatTe1c
namespace Go.Proofs.YtkdejffhdhcocaaGreat
open Go.RowKit

set_option maxRecDepth 100000 in
set_option maxHeartbeats 16000000 in
theorem dof_29 (N : Nat) (ih : DofN N) (t : Tm) (A : Option Addr) (ca : Nat) (B : Option Addr) (cb : Nat) (K : Option Addr) (ck : Nat) (w0 w : World) (hN : cnt t ≤ N + 1) (hat : TmAt w0 t A B K) (hb : Below w0.heap.size w0 w) (hwf : WfT t) (hgd : goodT false t = true) (hk : t.kind = 29) :
    Calls Tryz.prog 38 #[tmVal t A ca B cb K ck] w (DocPost t w0 w) := by
  obtain ⟨W1, hW1⟩ : ∃ W1, W1 = (w.alloc (.cells (tmCells t A ca B cb K ck) TTm)).alloc (.cells tm0 TTm) := ⟨_, rfl⟩
  have hb1 : Below w.heap.size w W1 := by rw [hW1]; exact ((Below.refl _ _).alloc (Nat.le_refl _) _).alloc (by simp) _
  have hx1 : W1.heap[w.heap.size]? = some (.cells (tmCells t A ca B cb K ck) TTm (0, 0)) := by rw [hW1]; exact (Below.heap_alloc _ _ _ (by simp)).trans (heap_alloc_new w _)
  have hz1 : W1.heap[w.heap.size + 1]? = some (.cells tm0 TTm (0, 0)) := by rw [hW1]; exact heap_new2 _ _ _
  have hs1 : W1.heap.size = w.heap.size + 2 := by rw [hW1]; simp
  have HX := Lib.hid (And.intro hb1 (And.intro hx1 (And.intro hz1 hs1)))
  have HT := Lib.hid (And.intro hat (And.intro hb (And.intro hwf hN)))
  have HW1 := Lib.hid hW1
  have HL0 : Hid (w0.heap.size ≤ w.heap.size) := Lib.hid hb.size
  have IH := Lib.hid ih
  have k0 : W1.cell? ⟨w.heap.size, 0, none⟩ = some (.int .i64 t.kind) := cell_at hx1 rfl
  have k1 : W1.cell? ⟨w.heap.size, 1, none⟩ = some (.string t.text) := cell_at hx1 rfl
  have k2 : W1.cell? ⟨w.heap.size, 2, none⟩ = some (.int .i64 t.n) := cell_at hx1 rfl
  have k3 : W1.cell? ⟨w.heap.size, 3, none⟩ = some (.slice A t.sh.length ca) := cell_at hx1 rfl
  have k4 : W1.cell? ⟨w.heap.size, 4, none⟩ = some (.slice B t.at_.length cb) := cell_at hx1 rfl
  have k5 : W1.cell? ⟨w.heap.size, 5, none⟩ = some (.slice K t.kids.length ck) := cell_at hx1 rfl
  have z0 := cell_at hz1 (j := 0) rfl
  have z1 := cell_at hz1 (j := 1) rfl
  have z2 := cell_at hz1 (j := 2) rfl
  have z3 := cell_at hz1 (j := 3) rfl
  have z4 := cell_at hz1 (j := 4) rfl
  have z5 := cell_at hz1 (j := 5) rfl
  have fz := unfrozen hz1
  have hlz := heap_lt hz1
  have hlx := heap_lt hx1
  have hpk : t.kids.length ≤ 140737488351232 := hwf.node.kids
  have TWO : Hid (∀ x y, t.kids = [x, y] → ∃ bk ok, K = some ⟨bk, ok, none⟩ ∧ PtrAt w0 bk ok x ∧ PtrAt w0 bk (ok + 6) y) := Lib.hid fun x y hks => by
    obtain ⟨bk, ok, e, h0⟩ := HT.out.1.kids.get (i := 0) (t := x) (by rw [hks]; rfl)
    obtain ⟨bk', ok', e', h1⟩ := HT.out.1.kids.get (i := 1) (t := y) (by rw [hks]; rfl)
    rw [e] at e'
    simp only [Option.some.injEq, Addr.mk.injEq, and_true] at e'
    obtain ⟨rfl, rfl⟩ := e'
    exact ⟨bk, ok, e, by simpa using h0, by simpa using h1⟩
  have SUB : Hid (∀ x y, t.kids = [x, y] → ¬ t.kind = 23 → (WfT x ∧ goodT false x = true ∧ cnt x ≤ N) ∧ (WfT y ∧ goodT false y = true ∧ cnt y ≤ N)) := Lib.hid fun x y hks h23 => by
    obtain ⟨c1, _⟩ := cnt_eq2 hks
    have := cnt_pos x
    have := cnt_pos y
    have := hN
    exact ⟨⟨hwf.node.each x (by rw [hks]; simp), good_sub hgd h23 (i := 0) (by rw [hks]; rfl), by omega⟩, ⟨hwf.node.each y (by rw [hks]; simp), good_sub hgd h23 (i := 1) (by rw [hks]; rfl), by omega⟩⟩
  clear hat hb hwf hb1 hx1 hz1 hs1 hW1 hN ih
  have e0 : obv t = (tOf 29 [(nthR (t.kids.map obv) 1).1, (nthR (t.kids.map obv) 0).1], (nthR (t.kids.map obv) 0).2 && (nthR (t.kids.map obv) 1).2) := by rw [obv_eq]; unfold obvK; rw [if_neg (by omega), if_neg (by omega), if_neg (by omega), if_pos (by omega)]
  obtain ⟨x, y, hks, fx, fy⟩ := two_kids hgd (c := 118) (d := 118) (by rw [hk]; decide) (by omega) (by omega) (by omega)
  obtain ⟨bk, ok, hKe, px, py⟩ := TWO.out x y hks
  subst hKe
  obtain ⟨sx, sy⟩ := SUB.out x y hks (by omega)
  obtain ⟨Ax, cax, Bx, cbx, Kx, ckx, ltx, x0, x1, x2, x3, x4, x5, hatx⟩ := px.cells
  obtain ⟨Ay, cay, By, cby, Ky, cky, lty, y0, y1, y2, y3, y4, y5, haty⟩ := py.cells
  have XC : Hid (∀ W, Below w0.heap.size w0 W → bk < W.heap.size ∧ W.cell? ⟨bk, ok, none⟩ = some (.int .i64 x.kind) ∧ W.cell? ⟨bk, ok + 1, none⟩ = some (.string x.text) ∧ W.cell? ⟨bk, ok + 2, none⟩ = some (.int .i64 x.n) ∧ W.cell? ⟨bk, ok + 3, none⟩ = some (.slice Ax x.sh.length cax) ∧ W.cell? ⟨bk, ok + 4, none⟩ = some (.slice Bx x.at_.length cbx) ∧ W.cell? ⟨bk, ok + 5, none⟩ = some (.slice Kx x.kids.length ckx) ∧
      W.cell? ⟨bk, ok + 6, none⟩ = some (.int .i64 y.kind) ∧ W.cell? ⟨bk, ok + 7, none⟩ = some (.string y.text) ∧ W.cell? ⟨bk, ok + 8, none⟩ = some (.int .i64 y.n) ∧ W.cell? ⟨bk, ok + 9, none⟩ = some (.slice Ay y.sh.length cay) ∧ W.cell? ⟨bk, ok + 10, none⟩ = some (.slice By y.at_.length cby) ∧ W.cell? ⟨bk, ok + 11, none⟩ = some (.slice Ky y.kids.length cky)) := Lib.hid fun W h => by
    have key : ∀ j v, w0.cell? ⟨bk, j, none⟩ = some v → W.cell? ⟨bk, j, none⟩ = some v := fun j v hv => (h.cell (p := ⟨bk, j, none⟩) ltx).trans hv
    exact ⟨Nat.lt_of_lt_of_le ltx h.size, key _ _ x0, key _ _ x1, key _ _ x2, key _ _ x3, key _ _ x4, key _ _ x5, key _ _ y0, key _ _ y1, key _ _ y2, key _ _ y3, key _ _ y4, key _ _ y5⟩
  have HPX := Lib.hid (And.intro hatx sx)
  have HPY := Lib.hid (And.intro haty sy)
  have HKS := Lib.hid hks
  have hkl : t.kids.length = 2 := by rw [hks]; rfl
  clear x0 x1 x2 x3 x4 x5 y0 y1 y2 y3 y4 y5 ltx lty hatx haty px py sx sy fx fy
  rw [hkl] at k5 hpk
  have HKL := Lib.hid hkl
  obtain ⟨hlk, x0, x1, x2, x3, x4, x5, y0, y1, y2, y3, y4, y5⟩ := XC.out W1 (HT.out.2.1.then_ HX.out.1)
  have HR0 : Hid (obv t = (tOf 29 [(obv y).1, (obv x).1], (obv x).2 && (obv y).2)) := Lib.hid (by rw [e0, hks]; rfl)
  have kk20 : (t.kind == 20) = false := by rw [hk]; rfl
  have kk39 : (t.kind == 39) = false := by rw [hk]; rfl
  have kk40 : (t.kind == 40) = false := by rw [hk]; rfl
  have kk29 : (t.kind == 29) = true := by rw [hk]; rfl
  clear hks hgd hk hkl e0
  go_enter Tryz.func38, Tryz.ntmps38
  go_upto_region 1 with fail
  rw [← HW1.out]
  go_wp2_with fail
  refine (IH.out x Ax cax Bx cbx Kx ckx w0 W1 HPX.out.2.2.2 HPX.out.1 (HT.out.2.1.then_ (HX.out.1.then_ (Below.refl _ _))) HPX.out.2.1 HPX.out.2.2.1).mono ?_
  rintro e wa ⟨ua, Pa, pa, Qa, qa, Ra, sa, rfl, hua, hata, hba⟩
  have HBa := Lib.hid (And.intro ((Below.refl _ _).then_ hba) (And.intro hata (And.intro hua hba)))
  clear hba hata hua k0 k1 k2 k3 k4 k5 z0 z1 z2 z3 z4 z5 fz hlz hlx hlk x0 x1 x2 x3 x4 x5 y0 y1 y2 y3 y4 y5
  have hx2 := ((HBa.out.1).block _ (heap_lt HX.out.2.1)).trans HX.out.2.1
  have hz2 := ((HBa.out.1).block _ (heap_lt HX.out.2.2.1)).trans HX.out.2.2.1
  have k0 : wa.cell? ⟨w.heap.size, 0, none⟩ = some (.int .i64 t.kind) := cell_at hx2 rfl
  have k1 : wa.cell? ⟨w.heap.size, 1, none⟩ = some (.string t.text) := cell_at hx2 rfl
  have k2 : wa.cell? ⟨w.heap.size, 2, none⟩ = some (.int .i64 t.n) := cell_at hx2 rfl
  have k3 : wa.cell? ⟨w.heap.size, 3, none⟩ = some (.slice A t.sh.length ca) := cell_at hx2 rfl
  have k4 : wa.cell? ⟨w.heap.size, 4, none⟩ = some (.slice B t.at_.length cb) := cell_at hx2 rfl
  have k5 : wa.cell? ⟨w.heap.size, 5, none⟩ = some (.slice (some ⟨bk, ok, none⟩) t.kids.length ck) := cell_at hx2 rfl
  have z0 := cell_at hz2 (j := 0) rfl
  have z1 := cell_at hz2 (j := 1) rfl
  have z2 := cell_at hz2 (j := 2) rfl
  have z3 := cell_at hz2 (j := 3) rfl
  have z4 := cell_at hz2 (j := 4) rfl
  have z5 := cell_at hz2 (j := 5) rfl
  have fz := unfrozen hz2
  have hlz := heap_lt hz2
  have hlx := heap_lt hx2
  clear hx2 hz2
  rw [HKL.out] at k5
  obtain ⟨hlk, x0, x1, x2, x3, x4, x5, y0, y1, y2, y3, y4, y5⟩ := XC.out wa (HT.out.2.1.then_ (HX.out.1.then_ (HBa.out.1)))
  go_upto_region 19 with fail
  obtain ⟨Wa, hWa⟩ : ∃ W, W = wa.alloc (.cells (tmCells ua Pa pa Qa qa Ra sa) TTm) := ⟨_, rfl⟩
  have hbw : Below wa.heap.size wa Wa := by rw [hWa]; exact (Below.refl _ _).alloc (Nat.le_refl _) _
  have hxw : Wa.heap[wa.heap.size]? = some (.cells (tmCells ua Pa pa Qa qa Ra sa) TTm (0, 0)) := by rw [hWa]; exact heap_alloc_new wa _
  rw [← hWa]
  have HWa := Lib.hid (And.intro (HBa.out.1.then_ hbw) (And.intro hxw (And.intro (mask_on HBa.out.2.1 hbw) hbw)))
  clear hbw hxw hWa k0 k1 k2 k3 k4 k5 z0 z1 z2 z3 z4 z5 fz hlz hlx hlk x0 x1 x2 x3 x4 x5 y0 y1 y2 y3 y4 y5
  have hx2 := ((HWa.out.1).block _ (heap_lt HX.out.2.1)).trans HX.out.2.1
  have hz2 := ((HWa.out.1).block _ (heap_lt HX.out.2.2.1)).trans HX.out.2.2.1
  have k0 : Wa.cell? ⟨w.heap.size, 0, none⟩ = some (.int .i64 t.kind) := cell_at hx2 rfl
  have k1 : Wa.cell? ⟨w.heap.size, 1, none⟩ = some (.string t.text) := cell_at hx2 rfl
  have k2 : Wa.cell? ⟨w.heap.size, 2, none⟩ = some (.int .i64 t.n) := cell_at hx2 rfl
  have k3 : Wa.cell? ⟨w.heap.size, 3, none⟩ = some (.slice A t.sh.length ca) := cell_at hx2 rfl
  have k4 : Wa.cell? ⟨w.heap.size, 4, none⟩ = some (.slice B t.at_.length cb) := cell_at hx2 rfl
  have k5 : Wa.cell? ⟨w.heap.size, 5, none⟩ = some (.slice (some ⟨bk, ok, none⟩) t.kids.length ck) := cell_at hx2 rfl
  have z0 := cell_at hz2 (j := 0) rfl
  have z1 := cell_at hz2 (j := 1) rfl
  have z2 := cell_at hz2 (j := 2) rfl
  have z3 := cell_at hz2 (j := 3) rfl
  have z4 := cell_at hz2 (j := 4) rfl
  have z5 := cell_at hz2 (j := 5) rfl
  have fz := unfrozen hz2
  have hlz := heap_lt hz2
  have hlx := heap_lt hx2
  clear hx2 hz2
  rw [HKL.out] at k5
  obtain ⟨hlk, x0, x1, x2, x3, x4, x5, y0, y1, y2, y3, y4, y5⟩ := XC.out Wa (HT.out.2.1.then_ (HX.out.1.then_ (HWa.out.1)))
  go_wp2_with fail
  refine (IH.out y Ay cay By cby Ky cky w0 Wa HPY.out.2.2.2 HPY.out.1 (HT.out.2.1.then_ (HX.out.1.then_ HWa.out.1)) HPY.out.2.1 HPY.out.2.2.1).mono ?_
  rintro e wb ⟨ub, Pb, pb, Qb, qb, Rb, sb, rfl, hub, hatb, hbb⟩
  have HBb := Lib.hid (And.intro (HWa.out.1.then_ hbb) (And.intro hatb (And.intro hub hbb)))
  clear hbb hatb hub k0 k1 k2 k3 k4 k5 z0 z1 z2 z3 z4 z5 fz hlz hlx hlk x0 x1 x2 x3 x4 x5 y0 y1 y2 y3 y4 y5
  have hx2 := ((HBb.out.1).block _ (heap_lt HX.out.2.1)).trans HX.out.2.1
  have hz2 := ((HBb.out.1).block _ (heap_lt HX.out.2.2.1)).trans HX.out.2.2.1
  have k0 : wb.cell? ⟨w.heap.size, 0, none⟩ = some (.int .i64 t.kind) := cell_at hx2 rfl
  have k1 : wb.cell? ⟨w.heap.size, 1, none⟩ = some (.string t.text) := cell_at hx2 rfl
  have k2 : wb.cell? ⟨w.heap.size, 2, none⟩ = some (.int .i64 t.n) := cell_at hx2 rfl
  have k3 : wb.cell? ⟨w.heap.size, 3, none⟩ = some (.slice A t.sh.length ca) := cell_at hx2 rfl
  have k4 : wb.cell? ⟨w.heap.size, 4, none⟩ = some (.slice B t.at_.length cb) := cell_at hx2 rfl
  have k5 : wb.cell? ⟨w.heap.size, 5, none⟩ = some (.slice (some ⟨bk, ok, none⟩) t.kids.length ck) := cell_at hx2 rfl
  have z0 := cell_at hz2 (j := 0) rfl
  have z1 := cell_at hz2 (j := 1) rfl
  have z2 := cell_at hz2 (j := 2) rfl
  have z3 := cell_at hz2 (j := 3) rfl
  have z4 := cell_at hz2 (j := 4) rfl
  have z5 := cell_at hz2 (j := 5) rfl
  have fz := unfrozen hz2
  have hlz := heap_lt hz2
  have hlx := heap_lt hx2
  clear hx2 hz2
  rw [HKL.out] at k5
  obtain ⟨hlk, x0, x1, x2, x3, x4, x5, y0, y1, y2, y3, y4, y5⟩ := XC.out wb (HT.out.2.1.then_ (HX.out.1.then_ (HBb.out.1)))
  go_upto_region 20 with fail
  obtain ⟨Wb, hWb⟩ : ∃ W, W = wb.alloc (.cells (tmCells ub Pb pb Qb qb Rb sb) TTm) := ⟨_, rfl⟩
  have hbw : Below wb.heap.size wb Wb := by rw [hWb]; exact (Below.refl _ _).alloc (Nat.le_refl _) _
  have hxw : Wb.heap[wb.heap.size]? = some (.cells (tmCells ub Pb pb Qb qb Rb sb) TTm (0, 0)) := by rw [hWb]; exact heap_alloc_new wb _
  rw [← hWb]
  have HWb := Lib.hid (And.intro (HBb.out.1.then_ hbw) (And.intro hxw (And.intro (mask_on HBb.out.2.1 hbw) hbw)))
  clear hbw hxw hWb k0 k1 k2 k3 k4 k5 z0 z1 z2 z3 z4 z5 fz hlz hlx hlk x0 x1 x2 x3 x4 x5 y0 y1 y2 y3 y4 y5
  have hx2 := ((HWb.out.1).block _ (heap_lt HX.out.2.1)).trans HX.out.2.1
  have hz2 := ((HWb.out.1).block _ (heap_lt HX.out.2.2.1)).trans HX.out.2.2.1
  have k0 : Wb.cell? ⟨w.heap.size, 0, none⟩ = some (.int .i64 t.kind) := cell_at hx2 rfl
  have k1 : Wb.cell? ⟨w.heap.size, 1, none⟩ = some (.string t.text) := cell_at hx2 rfl
  have k2 : Wb.cell? ⟨w.heap.size, 2, none⟩ = some (.int .i64 t.n) := cell_at hx2 rfl
  have k3 : Wb.cell? ⟨w.heap.size, 3, none⟩ = some (.slice A t.sh.length ca) := cell_at hx2 rfl
  have k4 : Wb.cell? ⟨w.heap.size, 4, none⟩ = some (.slice B t.at_.length cb) := cell_at hx2 rfl
  have k5 : Wb.cell? ⟨w.heap.size, 5, none⟩ = some (.slice (some ⟨bk, ok, none⟩) t.kids.length ck) := cell_at hx2 rfl
  have z0 := cell_at hz2 (j := 0) rfl
  have z1 := cell_at hz2 (j := 1) rfl
  have z2 := cell_at hz2 (j := 2) rfl
  have z3 := cell_at hz2 (j := 3) rfl
  have z4 := cell_at hz2 (j := 4) rfl
  have z5 := cell_at hz2 (j := 5) rfl
  have fz := unfrozen hz2
  have hlz := heap_lt hz2
  have hlx := heap_lt hx2
  clear hx2 hz2
  rw [HKL.out] at k5
  obtain ⟨hlk, x0, x1, x2, x3, x4, x5, y0, y1, y2, y3, y4, y5⟩ := XC.out Wb (HT.out.2.1.then_ (HX.out.1.then_ (HWb.out.1)))
  have hq1 := HWb.out.2.1
  have c0 := cell_at hq1 (j := 0) rfl
  have c1 := cell_at hq1 (j := 1) rfl
  have c2 := cell_at hq1 (j := 2) rfl
  have c3 := cell_at hq1 (j := 3) rfl
  have c4 := cell_at hq1 (j := 4) rfl
  have c5 := cell_at hq1 (j := 5) rfl
  have hl1 := heap_lt hq1
  have hq2 := ((HBb.out.2.2.2.then_ HWb.out.2.2.2).block _ (heap_lt HWa.out.2.1)).trans HWa.out.2.1
  have d0 := cell_at hq2 (j := 0) rfl
  have d1 := cell_at hq2 (j := 1) rfl
  have d2 := cell_at hq2 (j := 2) rfl
  have d3 := cell_at hq2 (j := 3) rfl
  have d4 := cell_at hq2 (j := 4) rfl
  have d5 := cell_at hq2 (j := 5) rfl
  have hl2 := heap_lt hq2
  clear hq1 hq2
  have HZ := Lib.hid ((HWb.out.1.block _ (heap_lt HX.out.2.2.1)).trans HX.out.2.2.1)
  have HSZ : Hid (w.heap.size + 2 ≤ Wb.heap.size ∧ W1.heap.size ≤ Wa.heap.size) := Lib.hid ⟨by rw [← HX.out.2.2.2]; exact HWb.out.1.size, HWa.out.1.size⟩
  have HMA : Hid (TmAt (mask Wb w0.heap.size (w.heap.size + 2)) ua Pa Qa Ra) := Lib.hid (by rw [← HX.out.2.2.2]; exact mask_on HWa.out.2.2.1 (HBb.out.2.2.2.then_ HWb.out.2.2.2))
  have HMB : Hid (TmAt (mask Wb w0.heap.size (w.heap.size + 2)) ub Pb Qb Rb) := Lib.hid (by rw [← HX.out.2.2.2]; exact mask_less HWb.out.2.2.1 HSZ.out.2)
  obtain ⟨v1, hv1⟩ : ∃ v1, v1 = (obv x).2 := ⟨_, rfl⟩
  obtain ⟨v2, hv2⟩ : ∃ v2, v2 = (obv y).2 := ⟨_, rfl⟩
  have HV := Lib.hid (And.intro hv1 hv2)
  rw [← hv1, ← hv2]
  clear hv1 hv2
  cases v1
  all_goals
    go_wp2_with fail
    obtain ⟨e1, e2, e3⟩ := doc_two (w := w) (w3 := Wb) (lo := w0.heap.size) (hi := w.heap.size + 2) (g := w.heap.size + 1) (x := ub) (y := ua) (P := Pb) (Q := Qb) (R := Rb) (p := pb) (q := qb) (r := sb) (P' := Pa) (Q' := Qa) (R' := Ra) (p' := pa) (q' := qa) (r' := sa) 29 HZ.out (HX.out.1.then_ HWb.out.1) HL0.out (Nat.le_succ _) (by omega) HSZ.out.1 HMB.out HMA.out rfl
    refine bodyPost_ret (results_tm2 (p := 2) (t := 3) rfl rfl e1) rfl ⟨_, _, _, _, _, _, _, (by rw [HR0.out, ← HV.out.1, ← HV.out.2]; rfl), fun h => ?_, e2, e3⟩
    rw [HR0.out] at h ⊢
    simp only [Bool.and_eq_true] at h
    rw [HBa.out.2.2.1 h.1, HBb.out.2.2.1 h.2]
end Go.Proofs.YtkdejffhdhcocaaGreat
