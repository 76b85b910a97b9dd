/- abacusref17.of: some kinds of verbs. Condition: sizes within reach. -/
import Derived.Test.YtkdejffhdhcocaaGreatTe1c
namespace Go.Proofs.YtkdejffhdhcocaaGreat
open Go.RowKit

theorem doc_twoL {w w3 : World} {lo hi g gl : Nat} {x y : Tm} {P Q R P' Q' R' : Option Addr} {p q r p' q' r' : Nat} {a0 a1 a2 a3 a4 a5 : Value} (k : Int) (hz : w3.heap[g]? = some (.cells #[a0, a1, a2, a3, a4, a5] TTm (0, 0))) (hb : Below w.heap.size w w3) (h0 : lo ≤ w.heap.size) (h1 : w.heap.size ≤ g) (h2 : g < hi) (h3 : hi ≤ gl)
    (hL : w3.heap[gl]? = some (.cells #[.int .i64 x.kind, .string x.text, .int .i64 x.n, .slice P x.sh.length p, .slice Q x.at_.length q, .slice R x.kids.length r, .int .i64 y.kind, .string y.text, .int .i64 y.n, .slice P' y.sh.length p', .slice Q' y.at_.length q', .slice R' y.kids.length r'] TTm (0, 0))) (hx : TmAt (mask w3 lo hi) x P Q R) (hy : TmAt (mask w3 lo hi) y P' Q' R') :
    (sixPut w3 g (.int .i64 k) (.string ⟨#[]⟩) (.int .i64 0) (.slice none 0 0) (.slice none 0 0) (.slice (some ⟨gl, 0, none⟩) 2 2)).heap[g]? = some (.cells (tmCells (tOf k [x, y]) none 0 none 0 (some ⟨gl, 0, none⟩) 2) TTm (0, 0)) ∧ TmAt (mask (sixPut w3 g (.int .i64 k) (.string ⟨#[]⟩) (.int .i64 0) (.slice none 0 0) (.slice none 0 0) (.slice (some ⟨gl, 0, none⟩) 2 2)) lo w.heap.size) (tOf k [x, y]) none none (some ⟨gl, 0, none⟩) ∧ Below w.heap.size w (sixPut w3 g (.int .i64 k) (.string ⟨#[]⟩) (.int .i64 0) (.slice none 0 0) (.slice none 0 0) (.slice (some ⟨gl, 0, none⟩) 2 2)) := by
  obtain ⟨e1, e2, e3⟩ := six (.int .i64 k) (.string ⟨#[]⟩) (.int .i64 0) (.slice none 0 0) (.slice none 0 0) (.slice (some ⟨gl, 0, none⟩) 2 2) hz hb h1
  refine ⟨e1, mask_less (mask_to (mask_two k hx hy h3 hL) (fun k _ hk => e2 k (by omega)) ?_) (by omega), e3⟩
  simp [World.setCell]
theorem take_still {P : Program} {ops : Array Oper} {Q : Exit → Act → World → Prop} {md : Region.Mode} {S : World → Prop} {i : Nat} {oi : Oper} {d : Option Nat} {v : Value} {fuel : Nat} {listed : Array Bool} {a : Act} {w : World} (hi : ops[i]? = some oi) (hd : oi.dst = d)
    (hs : Region.noSelect ops = true) (hf : Region.free md ops listed i = true) (hr : (Region.ready md ops listed).contains i = true)
    (hQ : ∀ c a w, Q (.panic c) (a.put oi.dst v) w → Q (.panic c) a w) (hy : YieldsIf P ops S oi v a) (hS : S w)
    (h : wpAnyH P md ops Q S fuel (listed.setIfInBounds i true) (a.put d v) w) : wpAnyH P md ops Q S (fuel + 1) listed a w := by
  subst hd
  exact wpAnyH_take hi hs hf hr hQ hy hS h
set_option maxRecDepth 100000 in
set_option maxHeartbeats 100000000 in
theorem dof_41 (N : Nat) (ih : DofN N) (t : Tm) (A : Option Addr) (ca : Nat) (B : Option Addr) (cb : Nat) (K : Option Addr) (ck : Nat) (w0 w : World) (hN : cnt t ≤ N + 1) (hat : TmAt w0 t A B K) (hb : Below w0.heap.size w0 w) (hwf : WfT t) (hgd : goodT false t = true) (hk : t.kind = 41) :
    Calls Tryz.prog 38 #[tmVal t A ca B cb K ck] w (DocPost t w0 w) := by
  obtain ⟨W1, hW1⟩ : ∃ W1, W1 = (w.alloc (.cells (tmCells t A ca B cb K ck) TTm)).alloc (.cells tm0 TTm) := ⟨_, rfl⟩
  have hb1 : Below w.heap.size w W1 := by rw [hW1]; exact ((Below.refl _ _).alloc (Nat.le_refl _) _).alloc (by simp) _
  have hx1 : W1.heap[w.heap.size]? = some (.cells (tmCells t A ca B cb K ck) TTm (0, 0)) := by rw [hW1]; exact (Below.heap_alloc _ _ _ (by simp)).trans (heap_alloc_new w _)
  have hz1 : W1.heap[w.heap.size + 1]? = some (.cells tm0 TTm (0, 0)) := by rw [hW1]; exact heap_new2 _ _ _
  have hs1 : W1.heap.size = w.heap.size + 2 := by rw [hW1]; simp
  have HX := Lib.hid (And.intro hb1 (And.intro hx1 (And.intro hz1 hs1)))
  have HT := Lib.hid (And.intro hat (And.intro hb (And.intro hwf hN)))
  have HW1 := Lib.hid hW1
  have HL0 : Hid (w0.heap.size ≤ w.heap.size) := Lib.hid hb.size
  have IH := Lib.hid ih
  have k0 : W1.cell? ⟨w.heap.size, 0, none⟩ = some (.int .i64 t.kind) := cell_at hx1 rfl
  have k1 : W1.cell? ⟨w.heap.size, 1, none⟩ = some (.string t.text) := cell_at hx1 rfl
  have k2 : W1.cell? ⟨w.heap.size, 2, none⟩ = some (.int .i64 t.n) := cell_at hx1 rfl
  have k3 : W1.cell? ⟨w.heap.size, 3, none⟩ = some (.slice A t.sh.length ca) := cell_at hx1 rfl
  have k4 : W1.cell? ⟨w.heap.size, 4, none⟩ = some (.slice B t.at_.length cb) := cell_at hx1 rfl
  have k5 : W1.cell? ⟨w.heap.size, 5, none⟩ = some (.slice K t.kids.length ck) := cell_at hx1 rfl
  have z0 := cell_at hz1 (j := 0) rfl
  have z1 := cell_at hz1 (j := 1) rfl
  have z2 := cell_at hz1 (j := 2) rfl
  have z3 := cell_at hz1 (j := 3) rfl
  have z4 := cell_at hz1 (j := 4) rfl
  have z5 := cell_at hz1 (j := 5) rfl
  have fz := unfrozen hz1
  have hlz := heap_lt hz1
  have hlx := heap_lt hx1
  have hpk : t.kids.length ≤ 140737488351232 := hwf.node.kids
  have TWO : Hid (∀ x y, t.kids = [x, y] → ∃ bk ok, K = some ⟨bk, ok, none⟩ ∧ PtrAt w0 bk ok x ∧ PtrAt w0 bk (ok + 6) y) := Lib.hid fun x y hks => by
    obtain ⟨bk, ok, e, h0⟩ := HT.out.1.kids.get (i := 0) (t := x) (by rw [hks]; rfl)
    obtain ⟨bk', ok', e', h1⟩ := HT.out.1.kids.get (i := 1) (t := y) (by rw [hks]; rfl)
    rw [e] at e'
    simp only [Option.some.injEq, Addr.mk.injEq, and_true] at e'
    obtain ⟨rfl, rfl⟩ := e'
    exact ⟨bk, ok, e, by simpa using h0, by simpa using h1⟩
  have SUB : Hid (∀ x y, t.kids = [x, y] → ¬ t.kind = 23 → (WfT x ∧ goodT false x = true ∧ cnt x ≤ N) ∧ (WfT y ∧ goodT false y = true ∧ cnt y ≤ N)) := Lib.hid fun x y hks h23 => by
    obtain ⟨c1, _⟩ := cnt_eq2 hks
    have := cnt_pos x
    have := cnt_pos y
    have := hN
    exact ⟨⟨hwf.node.each x (by rw [hks]; simp), good_sub hgd h23 (i := 0) (by rw [hks]; rfl), by omega⟩, ⟨hwf.node.each y (by rw [hks]; simp), good_sub hgd h23 (i := 1) (by rw [hks]; rfl), by omega⟩⟩
  clear hat hb hwf hb1 hx1 hz1 hs1 hW1 hN ih
  have e0 : obv t = (if (nthR (t.kids.map obv) 0).2 = false ∨ scalarB (nth t.kids 1) = false ∨ (nth t.kids 1).at_.getD 0 0 < 0 then (tNil, false) else (tOf 41 [(nthR (t.kids.map obv) 0).1, nth t.kids 1], true)) := by rw [obv_eq]; unfold obvK; rw [if_neg (by omega), if_neg (by omega), if_neg (by omega), if_neg (by omega), if_pos hk]
  obtain ⟨x, y, hks, fx, fy⟩ := two_kids hgd (c := 118) (d := 111) (by rw [hk]; decide) (by omega) (by omega) (by omega)
  obtain ⟨bk, ok, hKe, px, py⟩ := TWO.out x y hks
  subst hKe
  obtain ⟨sx, sy⟩ := SUB.out x y hks (by omega)
  obtain ⟨Ax, cax, Bx, cbx, Kx, ckx, ltx, x0, x1, x2, x3, x4, x5, hatx⟩ := px.cells
  obtain ⟨Ay, cay, By, cby, Ky, cky, lty, y0, y1, y2, y3, y4, y5, haty⟩ := py.cells
  have XC : Hid (∀ W, Below w0.heap.size w0 W → bk < W.heap.size ∧ W.cell? ⟨bk, ok, none⟩ = some (.int .i64 x.kind) ∧ W.cell? ⟨bk, ok + 1, none⟩ = some (.string x.text) ∧ W.cell? ⟨bk, ok + 2, none⟩ = some (.int .i64 x.n) ∧ W.cell? ⟨bk, ok + 3, none⟩ = some (.slice Ax x.sh.length cax) ∧ W.cell? ⟨bk, ok + 4, none⟩ = some (.slice Bx x.at_.length cbx) ∧ W.cell? ⟨bk, ok + 5, none⟩ = some (.slice Kx x.kids.length ckx) ∧
      W.cell? ⟨bk, ok + 6, none⟩ = some (.int .i64 y.kind) ∧ W.cell? ⟨bk, ok + 7, none⟩ = some (.string y.text) ∧ W.cell? ⟨bk, ok + 8, none⟩ = some (.int .i64 y.n) ∧ W.cell? ⟨bk, ok + 9, none⟩ = some (.slice Ay y.sh.length cay) ∧ W.cell? ⟨bk, ok + 10, none⟩ = some (.slice By y.at_.length cby) ∧ W.cell? ⟨bk, ok + 11, none⟩ = some (.slice Ky y.kids.length cky)) := Lib.hid fun W h => by
    have key : ∀ j v, w0.cell? ⟨bk, j, none⟩ = some v → W.cell? ⟨bk, j, none⟩ = some v := fun j v hv => (h.cell (p := ⟨bk, j, none⟩) ltx).trans hv
    exact ⟨Nat.lt_of_lt_of_le ltx h.size, key _ _ x0, key _ _ x1, key _ _ x2, key _ _ x3, key _ _ x4, key _ _ x5, key _ _ y0, key _ _ y1, key _ _ y2, key _ _ y3, key _ _ y4, key _ _ y5⟩
  have HPX := Lib.hid (And.intro hatx sx)
  have HPY := Lib.hid (And.intro haty sy)
  have HKS := Lib.hid hks
  have hkl : t.kids.length = 2 := by rw [hks]; rfl
  clear x0 x1 x2 x3 x4 x5 y0 y1 y2 y3 y4 y5 ltx lty hatx haty px py sx sy fx fy
  rw [hkl] at k5 hpk
  have HKL := Lib.hid hkl
  obtain ⟨hlk, x0, x1, x2, x3, x4, x5, y0, y1, y2, y3, y4, y5⟩ := XC.out W1 (HT.out.2.1.then_ HX.out.1)
  have HR0 : Hid (obv t = if (obv x).2 = false ∨ scalarB y = false ∨ y.at_.getD 0 0 < 0 then (tNil, false) else (tOf 41 [(obv x).1, y], true)) := Lib.hid (by rw [e0, hks]; rfl)
  have kk20 : (t.kind == 20) = false := by rw [hk]; rfl
  have kk39 : (t.kind == 39) = false := by rw [hk]; rfl
  have kk40 : (t.kind == 40) = false := by rw [hk]; rfl
  have kk29 : (t.kind == 29) = false := by rw [hk]; rfl
  have kk31 : (t.kind == 31) = false := by rw [hk]; rfl
  have kk46 : (t.kind == 46) = false := by rw [hk]; rfl
  have kk41 : (t.kind == 41) = true := by rw [hk]; rfl
  clear hks hgd hk hkl e0
  go_enter Tryz.func38, Tryz.ntmps38
  go_upto_region 1 with fail
  rw [← HW1.out]
  go_upto_region 23 with fail
  obtain ⟨Wn, hWn⟩ : ∃ W, W = W1.alloc (.cells (tmCells y Ay cay By cby Ky cky) TTm) := ⟨_, rfl⟩
  have hbn : Below W1.heap.size W1 Wn := by rw [hWn]; exact (Below.refl _ _).alloc (Nat.le_refl _) _
  have hxn : Wn.heap[W1.heap.size]? = some (.cells (tmCells y Ay cay By cby Ky cky) TTm (0, 0)) := by rw [hWn]; exact heap_alloc_new W1 _
  rw [← hWn]
  have HWn := Lib.hid (And.intro hbn hxn)
  clear hbn hxn hWn k0 k1 k2 k3 k4 k5 z0 z1 z2 z3 z4 z5 fz hlz hlx hlk x0 x1 x2 x3 x4 x5 y0 y1 y2 y3 y4 y5
  have hx2 := ((HWn.out.1).block _ (heap_lt HX.out.2.1)).trans HX.out.2.1
  have hz2 := ((HWn.out.1).block _ (heap_lt HX.out.2.2.1)).trans HX.out.2.2.1
  have k0 : Wn.cell? ⟨w.heap.size, 0, none⟩ = some (.int .i64 t.kind) := cell_at hx2 rfl
  have k1 : Wn.cell? ⟨w.heap.size, 1, none⟩ = some (.string t.text) := cell_at hx2 rfl
  have k2 : Wn.cell? ⟨w.heap.size, 2, none⟩ = some (.int .i64 t.n) := cell_at hx2 rfl
  have k3 : Wn.cell? ⟨w.heap.size, 3, none⟩ = some (.slice A t.sh.length ca) := cell_at hx2 rfl
  have k4 : Wn.cell? ⟨w.heap.size, 4, none⟩ = some (.slice B t.at_.length cb) := cell_at hx2 rfl
  have k5 : Wn.cell? ⟨w.heap.size, 5, none⟩ = some (.slice (some ⟨bk, ok, none⟩) t.kids.length ck) := cell_at hx2 rfl
  have z0 := cell_at hz2 (j := 0) rfl
  have z1 := cell_at hz2 (j := 1) rfl
  have z2 := cell_at hz2 (j := 2) rfl
  have z3 := cell_at hz2 (j := 3) rfl
  have z4 := cell_at hz2 (j := 4) rfl
  have z5 := cell_at hz2 (j := 5) rfl
  have fz := unfrozen hz2
  have hlz := heap_lt hz2
  have hlx := heap_lt hx2
  clear hx2 hz2
  rw [HKL.out] at k5
  obtain ⟨hlk, x0, x1, x2, x3, x4, x5, y0, y1, y2, y3, y4, y5⟩ := XC.out Wn (HT.out.2.1.then_ (HX.out.1.then_ (HWn.out.1)))
  go_wp2_with fail
  refine (IH.out x Ax cax Bx cbx Kx ckx w0 Wn HPX.out.2.2.2 HPX.out.1 (HT.out.2.1.then_ (HX.out.1.then_ HWn.out.1)) HPX.out.2.1 HPX.out.2.2.1).mono ?_
  rintro e wa ⟨ua, Pa, pa, Qa, qa, Ra, sa, rfl, hua, hata, hba⟩
  have HBa := Lib.hid (And.intro (HWn.out.1.then_ hba) (And.intro hata (And.intro hua hba)))
  clear hba hata hua k0 k1 k2 k3 k4 k5 z0 z1 z2 z3 z4 z5 fz hlz hlx hlk x0 x1 x2 x3 x4 x5 y0 y1 y2 y3 y4 y5
  have hx2 := ((HBa.out.1).block _ (heap_lt HX.out.2.1)).trans HX.out.2.1
  have hz2 := ((HBa.out.1).block _ (heap_lt HX.out.2.2.1)).trans HX.out.2.2.1
  have k0 : wa.cell? ⟨w.heap.size, 0, none⟩ = some (.int .i64 t.kind) := cell_at hx2 rfl
  have k1 : wa.cell? ⟨w.heap.size, 1, none⟩ = some (.string t.text) := cell_at hx2 rfl
  have k2 : wa.cell? ⟨w.heap.size, 2, none⟩ = some (.int .i64 t.n) := cell_at hx2 rfl
  have k3 : wa.cell? ⟨w.heap.size, 3, none⟩ = some (.slice A t.sh.length ca) := cell_at hx2 rfl
  have k4 : wa.cell? ⟨w.heap.size, 4, none⟩ = some (.slice B t.at_.length cb) := cell_at hx2 rfl
  have k5 : wa.cell? ⟨w.heap.size, 5, none⟩ = some (.slice (some ⟨bk, ok, none⟩) t.kids.length ck) := cell_at hx2 rfl
  have z0 := cell_at hz2 (j := 0) rfl
  have z1 := cell_at hz2 (j := 1) rfl
  have z2 := cell_at hz2 (j := 2) rfl
  have z3 := cell_at hz2 (j := 3) rfl
  have z4 := cell_at hz2 (j := 4) rfl
  have z5 := cell_at hz2 (j := 5) rfl
  have fz := unfrozen hz2
  have hlz := heap_lt hz2
  have hlx := heap_lt hx2
  clear hx2 hz2
  rw [HKL.out] at k5
  obtain ⟨hlk, x0, x1, x2, x3, x4, x5, y0, y1, y2, y3, y4, y5⟩ := XC.out wa (HT.out.2.1.then_ (HX.out.1.then_ (HBa.out.1)))
  go_upto_region 24 with fail
  obtain ⟨Wa, hWa⟩ : ∃ W, W = wa.alloc (.cells (tmCells ua Pa pa Qa qa Ra sa) TTm) := ⟨_, rfl⟩
  have hbw : Below wa.heap.size wa Wa := by rw [hWa]; exact (Below.refl _ _).alloc (Nat.le_refl _) _
  have hxw : Wa.heap[wa.heap.size]? = some (.cells (tmCells ua Pa pa Qa qa Ra sa) TTm (0, 0)) := by rw [hWa]; exact heap_alloc_new wa _
  rw [← hWa]
  have HWa := Lib.hid (And.intro (HBa.out.1.then_ hbw) (And.intro hxw (And.intro (mask_on HBa.out.2.1 hbw) hbw)))
  clear hbw hxw hWa k0 k1 k2 k3 k4 k5 z0 z1 z2 z3 z4 z5 fz hlz hlx hlk x0 x1 x2 x3 x4 x5 y0 y1 y2 y3 y4 y5
  have hx2 := ((HWa.out.1).block _ (heap_lt HX.out.2.1)).trans HX.out.2.1
  have hz2 := ((HWa.out.1).block _ (heap_lt HX.out.2.2.1)).trans HX.out.2.2.1
  have k0 : Wa.cell? ⟨w.heap.size, 0, none⟩ = some (.int .i64 t.kind) := cell_at hx2 rfl
  have k1 : Wa.cell? ⟨w.heap.size, 1, none⟩ = some (.string t.text) := cell_at hx2 rfl
  have k2 : Wa.cell? ⟨w.heap.size, 2, none⟩ = some (.int .i64 t.n) := cell_at hx2 rfl
  have k3 : Wa.cell? ⟨w.heap.size, 3, none⟩ = some (.slice A t.sh.length ca) := cell_at hx2 rfl
  have k4 : Wa.cell? ⟨w.heap.size, 4, none⟩ = some (.slice B t.at_.length cb) := cell_at hx2 rfl
  have k5 : Wa.cell? ⟨w.heap.size, 5, none⟩ = some (.slice (some ⟨bk, ok, none⟩) t.kids.length ck) := cell_at hx2 rfl
  have z0 := cell_at hz2 (j := 0) rfl
  have z1 := cell_at hz2 (j := 1) rfl
  have z2 := cell_at hz2 (j := 2) rfl
  have z3 := cell_at hz2 (j := 3) rfl
  have z4 := cell_at hz2 (j := 4) rfl
  have z5 := cell_at hz2 (j := 5) rfl
  have fz := unfrozen hz2
  have hlz := heap_lt hz2
  have hlx := heap_lt hx2
  clear hx2 hz2
  rw [HKL.out] at k5
  obtain ⟨hlk, x0, x1, x2, x3, x4, x5, y0, y1, y2, y3, y4, y5⟩ := XC.out Wa (HT.out.2.1.then_ (HX.out.1.then_ (HWa.out.1)))
  clear k0 k1 k2 k3 k4 k5 z0 z1 z2 z3 z4 z5 fz hlz hlx hlk x0 x1 x2 x3 x4 x5 y0 y1 y2 y3 y4 y5
  have HY13 : Hid (Wa.heap[W1.heap.size]? = some (.cells (tmCells y Ay cay By cby Ky cky) TTm (0, 0))) := Lib.hid (((HBa.out.2.2.2.then_ HWa.out.2.2.2).block _ (heap_lt HWn.out.2)).trans HWn.out.2)
  have HZ0 : Hid (Wa.heap[w.heap.size + 1]? = some (.cells tm0 TTm (0, 0))) := Lib.hid ((HWa.out.1.block _ (heap_lt HX.out.2.2.1)).trans HX.out.2.2.1)
  have FK : Hid (∀ W, Below Wa.heap.size Wa W → W.cell? ⟨W1.heap.size, 0, none⟩ = some (.int .i64 y.kind) ∧ W.cell? ⟨W1.heap.size, 1, none⟩ = some (.string y.text) ∧ W.cell? ⟨W1.heap.size, 2, none⟩ = some (.int .i64 y.n) ∧ W.cell? ⟨W1.heap.size, 3, none⟩ = some (.slice Ay y.sh.length cay) ∧ W.cell? ⟨W1.heap.size, 4, none⟩ = some (.slice By y.at_.length cby) ∧ W.cell? ⟨W1.heap.size, 5, none⟩ = some (.slice Ky y.kids.length cky) ∧ W.cell? ⟨wa.heap.size, 0, none⟩ = some (.int .i64 ua.kind) ∧ W.cell? ⟨wa.heap.size, 1, none⟩ = some (.string ua.text) ∧ W.cell? ⟨wa.heap.size, 2, none⟩ = some (.int .i64 ua.n) ∧ W.cell? ⟨wa.heap.size, 3, none⟩ = some (.slice Pa ua.sh.length pa) ∧ W.cell? ⟨wa.heap.size, 4, none⟩ = some (.slice Qa ua.at_.length qa) ∧ W.cell? ⟨wa.heap.size, 5, none⟩ = some (.slice Ra ua.kids.length sa) ∧ W.cell? ⟨w.heap.size + 1, 0, none⟩ = some (.int .i64 0) ∧ W.cell? ⟨w.heap.size + 1, 1, none⟩ = some (.string ⟨#[]⟩) ∧ W.cell? ⟨w.heap.size + 1, 2, none⟩ = some (.int .i64 0) ∧ W.cell? ⟨w.heap.size + 1, 3, none⟩ = some (.slice none 0 0) ∧ W.cell? ⟨w.heap.size + 1, 4, none⟩ = some (.slice none 0 0) ∧ W.cell? ⟨w.heap.size + 1, 5, none⟩ = some (.slice none 0 0) ∧ (∀ j, W.frozen? ⟨w.heap.size + 1, j, none⟩ = false) ∧ W1.heap.size < W.heap.size ∧ wa.heap.size < W.heap.size ∧ w.heap.size + 1 < W.heap.size) := Lib.hid fun W h => by
    have a1 := (h.block _ (heap_lt HY13.out)).trans HY13.out
    have a2 := (h.block _ (heap_lt HWa.out.2.1)).trans HWa.out.2.1
    have a3 := (h.block _ (heap_lt HZ0.out)).trans HZ0.out
    exact ⟨cell_at a1 rfl, cell_at a1 rfl, cell_at a1 rfl, cell_at a1 rfl, cell_at a1 rfl, cell_at a1 rfl, cell_at a2 rfl, cell_at a2 rfl, cell_at a2 rfl, cell_at a2 rfl, cell_at a2 rfl, cell_at a2 rfl, cell_at a3 rfl, cell_at a3 rfl, cell_at a3 rfl, cell_at a3 rfl, cell_at a3 rfl, cell_at a3 rfl, unfrozen a3, heap_lt a1, heap_lt a2, heap_lt a3⟩
  have HSZ : Hid (w.heap.size + 2 ≤ Wa.heap.size) := Lib.hid (by rw [← HX.out.2.2.2]; exact HWa.out.1.size)
  have HMA : Hid (TmAt (mask Wa w0.heap.size (w.heap.size + 2)) ua Pa Qa Ra) := Lib.hid (by rw [← HX.out.2.2.2]; exact mask_less HWa.out.2.2.1 HWn.out.1.size)
  have HMY : Hid (TmAt (mask Wa w0.heap.size (w.heap.size + 2)) y Ay By Ky) := Lib.hid (mask_old HPY.out.1 (HT.out.2.1.then_ (HX.out.1.then_ HWa.out.1)))
  have HA : Hid (Below Wa.heap.size Wa Wa.drew) := Lib.hid (Below.refl _ _).drew
  have HBL : Hid (∀ o, Below Wa.heap.size Wa (Wa.alloc o).drew) := Lib.hid fun o => ((Below.refl _ _).alloc (Nat.le_refl _) o).drew
  obtain ⟨m0, m1, m2, m3, m4, m5, c0, c1, c2, c3, c4, c5, z0, z1, z2, z3, z4, z5, fz, hl1, hl2, hl3⟩ := FK.out Wa (Below.refl _ _)
  obtain ⟨v1, hv1⟩ : ∃ v1, v1 = (obv x).2 := ⟨_, rfl⟩
  have HV := Lib.hid hv1
  rw [← hv1]
  clear hv1
  cases v1
  · have HR : Hid (obv t = (tNil, false)) := Lib.hid (by rw [HR0.out, if_pos (.inl HV.out.symm)])
    go_region
    all_goals
      go_wp2_with fail
      obtain ⟨e1, e2, e3⟩ := doc_drew (doc_two (w := w) (w3 := Wa) (lo := w0.heap.size) (hi := w.heap.size + 2) (g := w.heap.size + 1) (x := ua) (y := y) (P := Pa) (Q := Qa) (R := Ra) (p := pa) (q := qa) (r := sa) (P' := Ay) (Q' := By) (R' := Ky) (p' := cay) (q' := cby) (r' := cky) 41 HZ0.out (HX.out.1.then_ HWa.out.1) HL0.out (Nat.le_succ _) (by omega) HSZ.out HMA.out HMY.out rfl)
      exact bodyPost_ret (results_tm2 (p := 2) (t := 3) rfl rfl e1) rfl ⟨_, _, _, _, _, _, _, (by rw [HR.out]; rfl), fun h => (by rw [HR.out] at h; cases h), e2, e3⟩
  · cases hsy : scalarB y
    · have HR : Hid (obv t = (tNil, false)) := Lib.hid (by rw [HR0.out, if_pos (.inr (.inl hsy))])
      have SC : Hid (∀ W, Calls Tryz.prog 80 #[tmVal y Ay cay By cby Ky cky] W fun e w' => e = .returned (.bool false) ∧ Below W.heap.size W w') := Lib.hid fun W => (dscalar_any y Ay cay By cby Ky cky W).mono fun e w' h => ⟨by rw [h.1, hsy], h.2⟩
      have HBX := Lib.hid (HBL.out (.cells #[.int .i64 ua.kind, .string ua.text, .int .i64 ua.n, .slice Pa ua.sh.length pa, .slice Qa ua.at_.length qa, .slice Ra ua.kids.length sa, .int .i64 y.kind, .string y.text, .int .i64 y.n, .slice Ay y.sh.length cay, .slice By y.at_.length cby, .slice Ky y.kids.length cky] TTm))
      clear hsy
      unfold tmVal at SC
      have HNY : Hid (W1.heap.size ≠ w.heap.size + 1) := Lib.hid (by have := HX.out.2.2.2; omega)
      have HNU : Hid (wa.heap.size ≠ w.heap.size + 1) := Lib.hid (by have := HX.out.2.2.2; have := HBa.out.1.size; omega)
      have FS : Hid (∀ W, Below Wa.heap.size Wa W → W.heap[W1.heap.size]? = some (.cells (tmCells y Ay cay By cby Ky cky) TTm (0, 0)) ∧ W.heap[wa.heap.size]? = some (.cells (tmCells ua Pa pa Qa qa Ra sa) TTm (0, 0)) ∧ W.heap[w.heap.size + 1]? = some (.cells tm0 TTm (0, 0))) := Lib.hid fun W h => ⟨(h.block _ (heap_lt HY13.out)).trans HY13.out, (h.block _ (heap_lt HWa.out.2.1)).trans HWa.out.2.1, (h.block _ (heap_lt HZ0.out)).trans HZ0.out⟩
      have HLF : Hid (∀ w3, Below (Wa.alloc (.cells #[.int .i64 ua.kind, .string ua.text, .int .i64 ua.n, .slice Pa ua.sh.length pa, .slice Qa ua.at_.length qa, .slice Ra ua.kids.length sa, .int .i64 y.kind, .string y.text, .int .i64 y.n, .slice Ay y.sh.length cay, .slice By y.at_.length cby, .slice Ky y.kids.length cky] TTm)).drew.heap.size (Wa.alloc (.cells #[.int .i64 ua.kind, .string ua.text, .int .i64 ua.n, .slice Pa ua.sh.length pa, .slice Qa ua.at_.length qa, .slice Ra ua.kids.length sa, .int .i64 y.kind, .string y.text, .int .i64 y.n, .slice Ay y.sh.length cay, .slice By y.at_.length cby, .slice Ky y.kids.length cky] TTm)).drew w3 → w3.heap[Wa.heap.size]? = some (.cells #[.int .i64 ua.kind, .string ua.text, .int .i64 ua.n, .slice Pa ua.sh.length pa, .slice Qa ua.at_.length qa, .slice Ra ua.kids.length sa, .int .i64 y.kind, .string y.text, .int .i64 y.n, .slice Ay y.sh.length cay, .slice By y.at_.length cby, .slice Ky y.kids.length cky] TTm (0, 0))) := Lib.hid fun w3 h => (h.block Wa.heap.size (by simp)).trans (heap_alloc_new Wa (.cells #[.int .i64 ua.kind, .string ua.text, .int .i64 ua.n, .slice Pa ua.sh.length pa, .slice Qa ua.at_.length qa, .slice Ra ua.kids.length sa, .int .i64 y.kind, .string y.text, .int .i64 y.n, .slice Ay y.sh.length cay, .slice By y.at_.length cby, .slice Ky y.kids.length cky] TTm))
      refine wp_region_held_drew (S := (fun W => W.heap[W1.heap.size]? = some (.cells (tmCells y Ay cay By cby Ky cky) TTm (0, 0)) ∧ W.heap[wa.heap.size]? = some (.cells (tmCells ua Pa pa Qa qa Ra sa) TTm (0, 0)))) (by kernel_rfl) ⟨(FS.out _ HA.out).1, (FS.out _ HA.out).2.1⟩ (fun hHeld => ?_)
      refine take_still (i := 0) (d := some 119) (v := .agg #[.int .i64 ua.kind, .string ua.text, .int .i64 ua.n, .slice Pa ua.sh.length pa, .slice Qa ua.at_.length qa, .slice Ra ua.kids.length sa]) rfl rfl (by kernel_rfl) (by kernel_rfl) (by kernel_rfl) (fun _ _ _ h => h) (Or.inl ⟨by rfl, ?_⟩) hHeld ?_
      · intro W hSw; have m0 := cell_at hSw.1 (j := 0) rfl; have m1 := cell_at hSw.1 (j := 1) rfl; have m2 := cell_at hSw.1 (j := 2) rfl; have m3 := cell_at hSw.1 (j := 3) rfl; have m4 := cell_at hSw.1 (j := 4) rfl; have m5 := cell_at hSw.1 (j := 5) rfl; have c0 := cell_at hSw.2 (j := 0) rfl; have c1 := cell_at hSw.2 (j := 1) rfl; have c2 := cell_at hSw.2 (j := 2) rfl; have c3 := cell_at hSw.2 (j := 3) rfl; have c4 := cell_at hSw.2 (j := 4) rfl; have c5 := cell_at hSw.2 (j := 5) rfl; have l1 := heap_lt hSw.1; have l2 := heap_lt hSw.2; go_simp; try with_reducible rfl
      try simp only [Act.put, List.setIfInBounds_toArray, List.set_cons_zero, List.set_cons_succ]
      refine take_still (i := 1) (d := some 120) (v := .agg #[.int .i64 y.kind, .string y.text, .int .i64 y.n, .slice Ay y.sh.length cay, .slice By y.at_.length cby, .slice Ky y.kids.length cky]) rfl rfl (by kernel_rfl) (by kernel_rfl) (by kernel_rfl) (fun _ _ _ h => h) (Or.inl ⟨by rfl, ?_⟩) hHeld ?_
      · intro W hSw; have m0 := cell_at hSw.1 (j := 0) rfl; have m1 := cell_at hSw.1 (j := 1) rfl; have m2 := cell_at hSw.1 (j := 2) rfl; have m3 := cell_at hSw.1 (j := 3) rfl; have m4 := cell_at hSw.1 (j := 4) rfl; have m5 := cell_at hSw.1 (j := 5) rfl; have c0 := cell_at hSw.2 (j := 0) rfl; have c1 := cell_at hSw.2 (j := 1) rfl; have c2 := cell_at hSw.2 (j := 2) rfl; have c3 := cell_at hSw.2 (j := 3) rfl; have c4 := cell_at hSw.2 (j := 4) rfl; have c5 := cell_at hSw.2 (j := 5) rfl; have l1 := heap_lt hSw.1; have l2 := heap_lt hSw.2; go_simp; try with_reducible rfl
      try simp only [Act.put, List.setIfInBounds_toArray, List.set_cons_zero, List.set_cons_succ]
      refine take_still (i := 4) (d := some 123) (v := .bool true) rfl rfl (by kernel_rfl) (by kernel_rfl) (by kernel_rfl) (fun _ _ _ h => h) (Or.inl ⟨by rfl, ?_⟩) hHeld ?_
      · intro W hSw; go_simp; try with_reducible rfl
      try simp only [Act.put, List.setIfInBounds_toArray, List.set_cons_zero, List.set_cons_succ]
      refine take_still (i := 5) (d := some 124) (v := .bool true) rfl rfl (by kernel_rfl) (by kernel_rfl) (by kernel_rfl) (fun _ _ _ h => h) (Or.inl ⟨by rfl, ?_⟩) hHeld ?_
      · intro W hSw; go_simp; try with_reducible rfl
      try simp only [Act.put, List.setIfInBounds_toArray, List.set_cons_zero, List.set_cons_succ]
      refine take_still (i := 6) (d := some 125) (v := .agg #[.int .i64 y.kind, .string y.text, .int .i64 y.n, .slice Ay y.sh.length cay, .slice By y.at_.length cby, .slice Ky y.kids.length cky]) rfl rfl (by kernel_rfl) (by kernel_rfl) (by kernel_rfl) (fun _ _ _ h => h) (Or.inl ⟨by rfl, ?_⟩) hHeld ?_
      · intro W hSw; have m0 := cell_at hSw.1 (j := 0) rfl; have m1 := cell_at hSw.1 (j := 1) rfl; have m2 := cell_at hSw.1 (j := 2) rfl; have m3 := cell_at hSw.1 (j := 3) rfl; have m4 := cell_at hSw.1 (j := 4) rfl; have m5 := cell_at hSw.1 (j := 5) rfl; have c0 := cell_at hSw.2 (j := 0) rfl; have c1 := cell_at hSw.2 (j := 1) rfl; have c2 := cell_at hSw.2 (j := 2) rfl; have c3 := cell_at hSw.2 (j := 3) rfl; have c4 := cell_at hSw.2 (j := 4) rfl; have c5 := cell_at hSw.2 (j := 5) rfl; have l1 := heap_lt hSw.1; have l2 := heap_lt hSw.2; go_simp; try with_reducible rfl
      try simp only [Act.put, List.setIfInBounds_toArray, List.set_cons_zero, List.set_cons_succ]
      refine wpAnyH_ready (rs := [2, 7]) (by kernel_rfl) (by simp) ?_
      refine AllReadyH.cons rfl (fun K hK => ?_) ?_
      · go_simp
        refine hK.out _ _ ⟨(FS.out _ HBX.out).1, (FS.out _ HBX.out).2.1⟩ (fun hHeld => ?_)
        clear hK K
        refine take_still (i := 3) (d := some 122) (v := .agg #[.int .i64 41, .string ⟨#[]⟩, .int .i64 0, .slice none 0 0, .slice none 0 0, .slice (some ⟨Wa.heap.size, 0, none⟩) 2 2]) rfl rfl (by kernel_rfl) (by kernel_rfl) (by kernel_rfl) (fun _ _ _ h => h) (Or.inl ⟨by rfl, ?_⟩) hHeld ?_
        · intro W hSw; go_simp; try with_reducible rfl
        try simp only [Act.put, List.setIfInBounds_toArray, List.set_cons_zero, List.set_cons_succ]
        refine wpAnyH_ready (rs := [7]) (by kernel_rfl) (by simp) ?_
        refine AllReadyH.cons rfl (fun K hK => ?_) ?_
        · go_simp
          go_at_call 80
          refine (SC.out _).mono ?_
          rintro e w3 ⟨rfl, hb3⟩
          have HBW := Lib.hid (HBX.out.then_ hb3)
          have HLL := Lib.hid (HLF.out _ hb3)
          clear hb3 m0 m1 m2 m3 m4 m5 c0 c1 c2 c3 c4 c5 z0 z1 z2 z3 z4 z5 fz hl1 hl2 hl3
          obtain ⟨m0, m1, m2, m3, m4, m5, c0, c1, c2, c3, c4, c5, z0, z1, z2, z3, z4, z5, fz, hl1, hl2, hl3⟩ := FK.out w3 HBW.out
          refine hK.out _ _ ⟨(FS.out _ HBW.out).1, (FS.out _ HBW.out).2.1⟩ (fun hHeld => ?_)
          clear hK K
          refine take_still (i := 8) (d := some 127) (v := .bool false) rfl rfl (by kernel_rfl) (by kernel_rfl) (by kernel_rfl) (fun _ _ _ h => h) (Or.inl ⟨by rfl, ?_⟩) hHeld ?_
          · intro W hSw; go_simp; try with_reducible rfl
          try simp only [Act.put, List.setIfInBounds_toArray, List.set_cons_zero, List.set_cons_succ]
          refine take_still (i := 9) (d := some 128) (v := .bool false) rfl rfl (by kernel_rfl) (by kernel_rfl) (by kernel_rfl) (fun _ _ _ h => h) (Or.inl ⟨by rfl, ?_⟩) hHeld ?_
          · intro W hSw; go_simp; try with_reducible rfl
          try simp only [Act.put, List.setIfInBounds_toArray, List.set_cons_zero, List.set_cons_succ]
          refine take_still (i := 10) (d := some 129) (v := undef) rfl rfl (by kernel_rfl) (by kernel_rfl) (by kernel_rfl) (fun _ _ _ h => h) (Or.inr ⟨by rfl, rfl⟩) hHeld ?_
          try simp only [Act.put, List.setIfInBounds_toArray, List.set_cons_zero, List.set_cons_succ]
          refine take_still (i := 11) (d := some 130) (v := undef) rfl rfl (by kernel_rfl) (by kernel_rfl) (by kernel_rfl) (fun _ _ _ h => h) (Or.inr ⟨by rfl, rfl⟩) hHeld ?_
          try simp only [Act.put, List.setIfInBounds_toArray, List.set_cons_zero, List.set_cons_succ]
          refine take_still (i := 12) (d := some 131) (v := undef) rfl rfl (by kernel_rfl) (by kernel_rfl) (by kernel_rfl) (fun _ _ _ h => h) (Or.inr ⟨by rfl, rfl⟩) hHeld ?_
          try simp only [Act.put, List.setIfInBounds_toArray, List.set_cons_zero, List.set_cons_succ]
          refine take_still (i := 13) (d := some 132) (v := undef) rfl rfl (by kernel_rfl) (by kernel_rfl) (by kernel_rfl) (fun _ _ _ h => h) (Or.inr ⟨by rfl, rfl⟩) hHeld ?_
          try simp only [Act.put, List.setIfInBounds_toArray, List.set_cons_zero, List.set_cons_succ]
          refine take_still (i := 14) (d := some 133) (v := undef) rfl rfl (by kernel_rfl) (by kernel_rfl) (by kernel_rfl) (fun _ _ _ h => h) (Or.inr ⟨by rfl, rfl⟩) hHeld ?_
          try simp only [Act.put, List.setIfInBounds_toArray, List.set_cons_zero, List.set_cons_succ]
          refine take_still (i := 15) (d := some 134) (v := undef) rfl rfl (by kernel_rfl) (by kernel_rfl) (by kernel_rfl) (fun _ _ _ h => h) (Or.inr ⟨by rfl, rfl⟩) hHeld ?_
          try simp only [Act.put, List.setIfInBounds_toArray, List.set_cons_zero, List.set_cons_succ]
          refine take_still (i := 16) (d := some 135) (v := .bool false) rfl rfl (by kernel_rfl) (by kernel_rfl) (by kernel_rfl) (fun _ _ _ h => h) (Or.inl ⟨by rfl, ?_⟩) hHeld ?_
          · intro W hSw; go_simp; try with_reducible rfl
          try simp only [Act.put, List.setIfInBounds_toArray, List.set_cons_zero, List.set_cons_succ]
          refine wpAnyH_ready (rs := [17]) (by kernel_rfl) (by simp) ?_
          refine AllReadyH.cons rfl (fun K hK => ?_) ?_
          · go_simp
            obtain ⟨_, o2, _⟩ := six (.int .i64 41) (.string ⟨#[]⟩) (.int .i64 0) (.slice none 0 0) (.slice none 0 0) (.slice (some ⟨Wa.heap.size, 0, none⟩) 2 2) (FS.out _ HBW.out).2.2 (Below.refl (w.heap.size + 1) w3) (Nat.le_refl _)
            refine hK.out _ _ ⟨(o2 _ HNY.out).trans (FS.out _ HBW.out).1, (o2 _ HNU.out).trans (FS.out _ HBW.out).2.1⟩ (fun hHeld => ?_)
            clear hK K o2
            refine take_still (i := 18) (d := some 3) (v := .bool false) rfl rfl (by kernel_rfl) (by kernel_rfl) (by kernel_rfl) (fun _ _ _ h => h) (Or.inl ⟨by rfl, ?_⟩) hHeld ?_
            · intro W hSw; go_simp; try with_reducible rfl
            try simp only [Act.put, List.setIfInBounds_toArray, List.set_cons_zero, List.set_cons_succ]
            refine wpAnyH_done (by kernel_rfl) ?_ _
            go_wp2_with fail
            obtain ⟨e1, e2, e3⟩ := doc_twoL (w := w) (w3 := w3) (lo := w0.heap.size) (hi := w.heap.size + 2) (g := w.heap.size + 1) (gl := Wa.heap.size) (x := ua) (y := y) (P := Pa) (Q := Qa) (R := Ra) (p := pa) (q := qa) (r := sa) (P' := Ay) (Q' := By) (R' := Ky) (p' := cay) (q' := cby) (r' := cky) 41 (FS.out _ HBW.out).2.2 (HX.out.1.then_ (HWa.out.1.then_ HBW.out)) HL0.out (Nat.le_succ _) (by omega) HSZ.out HLL.out (mask_on HMA.out HBW.out) (mask_on HMY.out HBW.out)
            exact bodyPost_ret (results_tm2 (p := 2) (t := 3) rfl rfl e1) rfl ⟨_, _, _, _, _, _, _, (by rw [HR.out]; rfl), fun h => (by rw [HR.out] at h; cases h), e2, e3⟩
          · exact AllReadyH.nil
        · exact AllReadyH.nil
      refine AllReadyH.cons rfl (fun K hK => ?_) ?_
      · go_simp
        go_at_call 80
        refine (SC.out _).mono ?_
        rintro e w3 ⟨rfl, hb3⟩
        have HBW := Lib.hid (HA.out.then_ hb3)
        clear hb3 m0 m1 m2 m3 m4 m5 c0 c1 c2 c3 c4 c5 z0 z1 z2 z3 z4 z5 fz hl1 hl2 hl3
        obtain ⟨m0, m1, m2, m3, m4, m5, c0, c1, c2, c3, c4, c5, z0, z1, z2, z3, z4, z5, fz, hl1, hl2, hl3⟩ := FK.out w3 HBW.out
        refine hK.out _ _ ⟨(FS.out _ HBW.out).1, (FS.out _ HBW.out).2.1⟩ (fun hHeld => ?_)
        clear hK K
        refine take_still (i := 8) (d := some 127) (v := .bool false) rfl rfl (by kernel_rfl) (by kernel_rfl) (by kernel_rfl) (fun _ _ _ h => h) (Or.inl ⟨by rfl, ?_⟩) hHeld ?_
        · intro W hSw; go_simp; try with_reducible rfl
        try simp only [Act.put, List.setIfInBounds_toArray, List.set_cons_zero, List.set_cons_succ]
        refine take_still (i := 9) (d := some 128) (v := .bool false) rfl rfl (by kernel_rfl) (by kernel_rfl) (by kernel_rfl) (fun _ _ _ h => h) (Or.inl ⟨by rfl, ?_⟩) hHeld ?_
        · intro W hSw; go_simp; try with_reducible rfl
        try simp only [Act.put, List.setIfInBounds_toArray, List.set_cons_zero, List.set_cons_succ]
        refine take_still (i := 10) (d := some 129) (v := undef) rfl rfl (by kernel_rfl) (by kernel_rfl) (by kernel_rfl) (fun _ _ _ h => h) (Or.inr ⟨by rfl, rfl⟩) hHeld ?_
        try simp only [Act.put, List.setIfInBounds_toArray, List.set_cons_zero, List.set_cons_succ]
        refine take_still (i := 11) (d := some 130) (v := undef) rfl rfl (by kernel_rfl) (by kernel_rfl) (by kernel_rfl) (fun _ _ _ h => h) (Or.inr ⟨by rfl, rfl⟩) hHeld ?_
        try simp only [Act.put, List.setIfInBounds_toArray, List.set_cons_zero, List.set_cons_succ]
        refine take_still (i := 12) (d := some 131) (v := undef) rfl rfl (by kernel_rfl) (by kernel_rfl) (by kernel_rfl) (fun _ _ _ h => h) (Or.inr ⟨by rfl, rfl⟩) hHeld ?_
        try simp only [Act.put, List.setIfInBounds_toArray, List.set_cons_zero, List.set_cons_succ]
        refine take_still (i := 13) (d := some 132) (v := undef) rfl rfl (by kernel_rfl) (by kernel_rfl) (by kernel_rfl) (fun _ _ _ h => h) (Or.inr ⟨by rfl, rfl⟩) hHeld ?_
        try simp only [Act.put, List.setIfInBounds_toArray, List.set_cons_zero, List.set_cons_succ]
        refine take_still (i := 14) (d := some 133) (v := undef) rfl rfl (by kernel_rfl) (by kernel_rfl) (by kernel_rfl) (fun _ _ _ h => h) (Or.inr ⟨by rfl, rfl⟩) hHeld ?_
        try simp only [Act.put, List.setIfInBounds_toArray, List.set_cons_zero, List.set_cons_succ]
        refine take_still (i := 15) (d := some 134) (v := undef) rfl rfl (by kernel_rfl) (by kernel_rfl) (by kernel_rfl) (fun _ _ _ h => h) (Or.inr ⟨by rfl, rfl⟩) hHeld ?_
        try simp only [Act.put, List.setIfInBounds_toArray, List.set_cons_zero, List.set_cons_succ]
        refine take_still (i := 16) (d := some 135) (v := .bool false) rfl rfl (by kernel_rfl) (by kernel_rfl) (by kernel_rfl) (fun _ _ _ h => h) (Or.inl ⟨by rfl, ?_⟩) hHeld ?_
        · intro W hSw; go_simp; try with_reducible rfl
        try simp only [Act.put, List.setIfInBounds_toArray, List.set_cons_zero, List.set_cons_succ]
        refine wpAnyH_ready (rs := [2]) (by kernel_rfl) (by simp) ?_
        refine AllReadyH.cons rfl (fun K hK => ?_) ?_
        · go_simp
          have HBV := Lib.hid (HBW.out.alloc (o := (.cells #[.int .i64 ua.kind, .string ua.text, .int .i64 ua.n, .slice Pa ua.sh.length pa, .slice Qa ua.at_.length qa, .slice Ra ua.kids.length sa, .int .i64 y.kind, .string y.text, .int .i64 y.n, .slice Ay y.sh.length cay, .slice By y.at_.length cby, .slice Ky y.kids.length cky] TTm)) HBW.out.size)
          refine hK.out _ _ ⟨(FS.out _ HBV.out).1, (FS.out _ HBV.out).2.1⟩ (fun hHeld => ?_)
          clear hK K
          refine take_still (i := 3) (d := some 122) (v := .agg #[.int .i64 41, .string ⟨#[]⟩, .int .i64 0, .slice none 0 0, .slice none 0 0, .slice (some ⟨w3.heap.size, 0, none⟩) 2 2]) rfl rfl (by kernel_rfl) (by kernel_rfl) (by kernel_rfl) (fun _ _ _ h => h) (Or.inl ⟨by rfl, ?_⟩) hHeld ?_
          · intro W hSw; go_simp; try with_reducible rfl
          try simp only [Act.put, List.setIfInBounds_toArray, List.set_cons_zero, List.set_cons_succ]
          refine wpAnyH_ready (rs := [17]) (by kernel_rfl) (by simp) ?_
          refine AllReadyH.cons rfl (fun K hK => ?_) ?_
          · go_simp
            obtain ⟨_, o2, _⟩ := six (.int .i64 41) (.string ⟨#[]⟩) (.int .i64 0) (.slice none 0 0) (.slice none 0 0) (.slice (some ⟨w3.heap.size, 0, none⟩) 2 2) (FS.out _ HBW.out).2.2 (Below.refl (w.heap.size + 1) w3) (Nat.le_refl _)
            have hzz : (sixPut w3 (w.heap.size + 1) (.int .i64 41) (.string ⟨#[]⟩) (.int .i64 0) (.slice none 0 0) (.slice none 0 0) (.slice (some ⟨w3.heap.size, 0, none⟩) 2 2)).heap.size = w3.heap.size := by simp [World.setCell]
            refine hK.out _ _ ⟨(Below.heap_alloc _ _ _ (by rw [hzz]; exact hl1)).trans ((o2 _ HNY.out).trans (FS.out _ HBW.out).1), (Below.heap_alloc _ _ _ (by rw [hzz]; exact hl2)).trans ((o2 _ HNU.out).trans (FS.out _ HBW.out).2.1)⟩ (fun hHeld => ?_)
            clear hK K o2 hzz
            refine take_still (i := 18) (d := some 3) (v := .bool false) rfl rfl (by kernel_rfl) (by kernel_rfl) (by kernel_rfl) (fun _ _ _ h => h) (Or.inl ⟨by rfl, ?_⟩) hHeld ?_
            · intro W hSw; go_simp; try with_reducible rfl
            try simp only [Act.put, List.setIfInBounds_toArray, List.set_cons_zero, List.set_cons_succ]
            refine wpAnyH_done (by kernel_rfl) ?_ _
            go_wp2_with fail
            obtain ⟨e1, e2, e3⟩ := doc_two (w := w) (w3 := w3) (lo := w0.heap.size) (hi := w.heap.size + 2) (g := w.heap.size + 1) (x := ua) (y := y) (P := Pa) (Q := Qa) (R := Ra) (p := pa) (q := qa) (r := sa) (P' := Ay) (Q' := By) (R' := Ky) (p' := cay) (q' := cby) (r' := cky) 41 (FS.out _ HBW.out).2.2 (HX.out.1.then_ (HWa.out.1.then_ HBW.out)) HL0.out (Nat.le_succ _) (by omega) (Nat.le_trans HSZ.out HBW.out.size) (mask_on HMA.out HBW.out) (mask_on HMY.out HBW.out) rfl
            exact bodyPost_ret (results_tm2 (p := 2) (t := 3) rfl rfl e1) rfl ⟨_, _, _, _, _, _, _, (by rw [HR.out]; rfl), fun h => (by rw [HR.out] at h; cases h), e2, e3⟩
          · exact AllReadyH.nil
        · exact AllReadyH.nil
      · exact AllReadyH.nil
    · obtain ⟨v0, hv0⟩ : ∃ v0, y.at_ = [v0] := by
        have := lit_one HPY.out.2.2.1 hsy
        match y.at_, this with
        | [v0], _ => exact ⟨v0, rfl⟩
      have HV0 := Lib.hid hv0
      have hpos : 0 < y.at_.length := by rw [hv0]; exact Nat.zero_lt_one
      obtain ⟨b3, o3, hB, l3, c9⟩ := HPY.out.1.at_ 0 v0 (by rw [hv0]; rfl)
      subst hB
      rw [Nat.add_zero] at c9
      have HC9 : Hid (∀ W, Below Wa.heap.size Wa W → b3 < W.heap.size ∧ W.cell? ⟨b3, o3, none⟩ = some (.int .i64 v0)) := Lib.hid fun W h => by
        have hb := (HT.out.2.1.then_ (HX.out.1.then_ HWa.out.1)).then_ h
        exact ⟨Nat.lt_of_lt_of_le l3 hb.size, (hb.cell (p := ⟨b3, o3, none⟩) l3).trans c9⟩
      have HNB : Hid (b3 ≠ w.heap.size + 1) := Lib.hid (by have := HT.out.2.1.size; omega)
      have HSY := Lib.hid hsy
      clear hv0 l3 c9
      by_cases hneg : v0 < 0
      · have HR : Hid (obv t = (tNil, false)) := Lib.hid (by rw [HR0.out, if_pos (.inr (.inr (by rw [HV0.out]; exact hneg)))])
        have d0 : ¬ 0 ≤ v0 := by omega
        clear hneg
        have SC : Hid (∀ W, Calls Tryz.prog 80 #[tmVal y Ay cay (some ⟨b3, o3, none⟩) cby Ky cky] W fun e w' => e = .returned (.bool true) ∧ Below W.heap.size W w') := Lib.hid fun W => (dscalar_any y Ay cay (some ⟨b3, o3, none⟩) cby Ky cky W).mono fun e w' h => ⟨by rw [h.1, hsy], h.2⟩
        have HBX := Lib.hid (HBL.out (.cells #[.int .i64 ua.kind, .string ua.text, .int .i64 ua.n, .slice Pa ua.sh.length pa, .slice Qa ua.at_.length qa, .slice Ra ua.kids.length sa, .int .i64 y.kind, .string y.text, .int .i64 y.n, .slice Ay y.sh.length cay, .slice (some ⟨b3, o3, none⟩) y.at_.length cby, .slice Ky y.kids.length cky] TTm))
        clear hsy
        unfold tmVal at SC
        have HNY : Hid (W1.heap.size ≠ w.heap.size + 1) := Lib.hid (by have := HX.out.2.2.2; omega)
        have HNU : Hid (wa.heap.size ≠ w.heap.size + 1) := Lib.hid (by have := HX.out.2.2.2; have := HBa.out.1.size; omega)
        have FS : Hid (∀ W, Below Wa.heap.size Wa W → W.heap[W1.heap.size]? = some (.cells (tmCells y Ay cay (some ⟨b3, o3, none⟩) cby Ky cky) TTm (0, 0)) ∧ W.heap[wa.heap.size]? = some (.cells (tmCells ua Pa pa Qa qa Ra sa) TTm (0, 0)) ∧ W.heap[w.heap.size + 1]? = some (.cells tm0 TTm (0, 0))) := Lib.hid fun W h => ⟨(h.block _ (heap_lt HY13.out)).trans HY13.out, (h.block _ (heap_lt HWa.out.2.1)).trans HWa.out.2.1, (h.block _ (heap_lt HZ0.out)).trans HZ0.out⟩
        have HLF : Hid (∀ w3, Below (Wa.alloc (.cells #[.int .i64 ua.kind, .string ua.text, .int .i64 ua.n, .slice Pa ua.sh.length pa, .slice Qa ua.at_.length qa, .slice Ra ua.kids.length sa, .int .i64 y.kind, .string y.text, .int .i64 y.n, .slice Ay y.sh.length cay, .slice (some ⟨b3, o3, none⟩) y.at_.length cby, .slice Ky y.kids.length cky] TTm)).drew.heap.size (Wa.alloc (.cells #[.int .i64 ua.kind, .string ua.text, .int .i64 ua.n, .slice Pa ua.sh.length pa, .slice Qa ua.at_.length qa, .slice Ra ua.kids.length sa, .int .i64 y.kind, .string y.text, .int .i64 y.n, .slice Ay y.sh.length cay, .slice (some ⟨b3, o3, none⟩) y.at_.length cby, .slice Ky y.kids.length cky] TTm)).drew w3 → w3.heap[Wa.heap.size]? = some (.cells #[.int .i64 ua.kind, .string ua.text, .int .i64 ua.n, .slice Pa ua.sh.length pa, .slice Qa ua.at_.length qa, .slice Ra ua.kids.length sa, .int .i64 y.kind, .string y.text, .int .i64 y.n, .slice Ay y.sh.length cay, .slice (some ⟨b3, o3, none⟩) y.at_.length cby, .slice Ky y.kids.length cky] TTm (0, 0))) := Lib.hid fun w3 h => (h.block Wa.heap.size (by simp)).trans (heap_alloc_new Wa (.cells #[.int .i64 ua.kind, .string ua.text, .int .i64 ua.n, .slice Pa ua.sh.length pa, .slice Qa ua.at_.length qa, .slice Ra ua.kids.length sa, .int .i64 y.kind, .string y.text, .int .i64 y.n, .slice Ay y.sh.length cay, .slice (some ⟨b3, o3, none⟩) y.at_.length cby, .slice Ky y.kids.length cky] TTm))
        refine wp_region_held_drew (S := (fun W => W.heap[W1.heap.size]? = some (.cells (tmCells y Ay cay (some ⟨b3, o3, none⟩) cby Ky cky) TTm (0, 0)) ∧ W.heap[wa.heap.size]? = some (.cells (tmCells ua Pa pa Qa qa Ra sa) TTm (0, 0)) ∧ W.cell? ⟨b3, o3, none⟩ = some (.int .i64 v0))) (by kernel_rfl) ⟨(FS.out _ HA.out).1, (FS.out _ HA.out).2.1, (HC9.out _ HA.out).2⟩ (fun hHeld => ?_)
        refine take_still (i := 0) (d := some 119) (v := .agg #[.int .i64 ua.kind, .string ua.text, .int .i64 ua.n, .slice Pa ua.sh.length pa, .slice Qa ua.at_.length qa, .slice Ra ua.kids.length sa]) rfl rfl (by kernel_rfl) (by kernel_rfl) (by kernel_rfl) (fun _ _ _ h => h) (Or.inl ⟨by rfl, ?_⟩) hHeld ?_
        · intro W hSw; have m0 := cell_at hSw.1 (j := 0) rfl; have m1 := cell_at hSw.1 (j := 1) rfl; have m2 := cell_at hSw.1 (j := 2) rfl; have m3 := cell_at hSw.1 (j := 3) rfl; have m4 := cell_at hSw.1 (j := 4) rfl; have m5 := cell_at hSw.1 (j := 5) rfl; have c0 := cell_at hSw.2.1 (j := 0) rfl; have c1 := cell_at hSw.2.1 (j := 1) rfl; have c2 := cell_at hSw.2.1 (j := 2) rfl; have c3 := cell_at hSw.2.1 (j := 3) rfl; have c4 := cell_at hSw.2.1 (j := 4) rfl; have c5 := cell_at hSw.2.1 (j := 5) rfl; have l1 := heap_lt hSw.1; have l2 := heap_lt hSw.2.1; have c9 := hSw.2.2; go_simp; try with_reducible rfl
        try simp only [Act.put, List.setIfInBounds_toArray, List.set_cons_zero, List.set_cons_succ]
        refine take_still (i := 1) (d := some 120) (v := .agg #[.int .i64 y.kind, .string y.text, .int .i64 y.n, .slice Ay y.sh.length cay, .slice (some ⟨b3, o3, none⟩) y.at_.length cby, .slice Ky y.kids.length cky]) rfl rfl (by kernel_rfl) (by kernel_rfl) (by kernel_rfl) (fun _ _ _ h => h) (Or.inl ⟨by rfl, ?_⟩) hHeld ?_
        · intro W hSw; have m0 := cell_at hSw.1 (j := 0) rfl; have m1 := cell_at hSw.1 (j := 1) rfl; have m2 := cell_at hSw.1 (j := 2) rfl; have m3 := cell_at hSw.1 (j := 3) rfl; have m4 := cell_at hSw.1 (j := 4) rfl; have m5 := cell_at hSw.1 (j := 5) rfl; have c0 := cell_at hSw.2.1 (j := 0) rfl; have c1 := cell_at hSw.2.1 (j := 1) rfl; have c2 := cell_at hSw.2.1 (j := 2) rfl; have c3 := cell_at hSw.2.1 (j := 3) rfl; have c4 := cell_at hSw.2.1 (j := 4) rfl; have c5 := cell_at hSw.2.1 (j := 5) rfl; have l1 := heap_lt hSw.1; have l2 := heap_lt hSw.2.1; have c9 := hSw.2.2; go_simp; try with_reducible rfl
        try simp only [Act.put, List.setIfInBounds_toArray, List.set_cons_zero, List.set_cons_succ]
        refine take_still (i := 4) (d := some 123) (v := .bool true) rfl rfl (by kernel_rfl) (by kernel_rfl) (by kernel_rfl) (fun _ _ _ h => h) (Or.inl ⟨by rfl, ?_⟩) hHeld ?_
        · intro W hSw; go_simp; try with_reducible rfl
        try simp only [Act.put, List.setIfInBounds_toArray, List.set_cons_zero, List.set_cons_succ]
        refine take_still (i := 5) (d := some 124) (v := .bool true) rfl rfl (by kernel_rfl) (by kernel_rfl) (by kernel_rfl) (fun _ _ _ h => h) (Or.inl ⟨by rfl, ?_⟩) hHeld ?_
        · intro W hSw; go_simp; try with_reducible rfl
        try simp only [Act.put, List.setIfInBounds_toArray, List.set_cons_zero, List.set_cons_succ]
        refine take_still (i := 6) (d := some 125) (v := .agg #[.int .i64 y.kind, .string y.text, .int .i64 y.n, .slice Ay y.sh.length cay, .slice (some ⟨b3, o3, none⟩) y.at_.length cby, .slice Ky y.kids.length cky]) rfl rfl (by kernel_rfl) (by kernel_rfl) (by kernel_rfl) (fun _ _ _ h => h) (Or.inl ⟨by rfl, ?_⟩) hHeld ?_
        · intro W hSw; have m0 := cell_at hSw.1 (j := 0) rfl; have m1 := cell_at hSw.1 (j := 1) rfl; have m2 := cell_at hSw.1 (j := 2) rfl; have m3 := cell_at hSw.1 (j := 3) rfl; have m4 := cell_at hSw.1 (j := 4) rfl; have m5 := cell_at hSw.1 (j := 5) rfl; have c0 := cell_at hSw.2.1 (j := 0) rfl; have c1 := cell_at hSw.2.1 (j := 1) rfl; have c2 := cell_at hSw.2.1 (j := 2) rfl; have c3 := cell_at hSw.2.1 (j := 3) rfl; have c4 := cell_at hSw.2.1 (j := 4) rfl; have c5 := cell_at hSw.2.1 (j := 5) rfl; have l1 := heap_lt hSw.1; have l2 := heap_lt hSw.2.1; have c9 := hSw.2.2; go_simp; try with_reducible rfl
        try simp only [Act.put, List.setIfInBounds_toArray, List.set_cons_zero, List.set_cons_succ]
        refine wpAnyH_ready (rs := [2, 7]) (by kernel_rfl) (by simp) ?_
        refine AllReadyH.cons rfl (fun K hK => ?_) ?_
        · go_simp
          refine hK.out _ _ ⟨(FS.out _ HBX.out).1, (FS.out _ HBX.out).2.1, (HC9.out _ HBX.out).2⟩ (fun hHeld => ?_)
          clear hK K
          refine take_still (i := 3) (d := some 122) (v := .agg #[.int .i64 41, .string ⟨#[]⟩, .int .i64 0, .slice none 0 0, .slice none 0 0, .slice (some ⟨Wa.heap.size, 0, none⟩) 2 2]) rfl rfl (by kernel_rfl) (by kernel_rfl) (by kernel_rfl) (fun _ _ _ h => h) (Or.inl ⟨by rfl, ?_⟩) hHeld ?_
          · intro W hSw; go_simp; try with_reducible rfl
          try simp only [Act.put, List.setIfInBounds_toArray, List.set_cons_zero, List.set_cons_succ]
          refine wpAnyH_ready (rs := [7]) (by kernel_rfl) (by simp) ?_
          refine AllReadyH.cons rfl (fun K hK => ?_) ?_
          · go_simp
            go_at_call 80
            refine (SC.out _).mono ?_
            rintro e w3 ⟨rfl, hb3⟩
            have HBW := Lib.hid (HBX.out.then_ hb3)
            have HLL := Lib.hid (HLF.out _ hb3)
            clear hb3 m0 m1 m2 m3 m4 m5 c0 c1 c2 c3 c4 c5 z0 z1 z2 z3 z4 z5 fz hl1 hl2 hl3
            obtain ⟨m0, m1, m2, m3, m4, m5, c0, c1, c2, c3, c4, c5, z0, z1, z2, z3, z4, z5, fz, hl1, hl2, hl3⟩ := FK.out w3 HBW.out
            refine hK.out _ _ ⟨(FS.out _ HBW.out).1, (FS.out _ HBW.out).2.1, (HC9.out _ HBW.out).2⟩ (fun hHeld => ?_)
            clear hK K
            refine take_still (i := 8) (d := some 127) (v := .bool true) rfl rfl (by kernel_rfl) (by kernel_rfl) (by kernel_rfl) (fun _ _ _ h => h) (Or.inl ⟨by rfl, ?_⟩) hHeld ?_
            · intro W hSw; go_simp; try with_reducible rfl
            try simp only [Act.put, List.setIfInBounds_toArray, List.set_cons_zero, List.set_cons_succ]
            refine take_still (i := 9) (d := some 128) (v := .bool true) rfl rfl (by kernel_rfl) (by kernel_rfl) (by kernel_rfl) (fun _ _ _ h => h) (Or.inl ⟨by rfl, ?_⟩) hHeld ?_
            · intro W hSw; go_simp; try with_reducible rfl
            try simp only [Act.put, List.setIfInBounds_toArray, List.set_cons_zero, List.set_cons_succ]
            refine take_still (i := 10) (d := some 129) (v := .pointer (some ⟨W1.heap.size, 3, none⟩)) rfl rfl (by kernel_rfl) (by kernel_rfl) (by kernel_rfl) (fun _ _ _ h => h) (Or.inl ⟨by rfl, ?_⟩) hHeld ?_
            · intro W hSw; go_simp; try with_reducible rfl
            try simp only [Act.put, List.setIfInBounds_toArray, List.set_cons_zero, List.set_cons_succ]
            refine take_still (i := 11) (d := some 130) (v := .pointer (some ⟨W1.heap.size, 4, none⟩)) rfl rfl (by kernel_rfl) (by kernel_rfl) (by kernel_rfl) (fun _ _ _ h => h) (Or.inl ⟨by rfl, ?_⟩) hHeld ?_
            · intro W hSw; go_simp; try with_reducible rfl
            try simp only [Act.put, List.setIfInBounds_toArray, List.set_cons_zero, List.set_cons_succ]
            refine take_still (i := 12) (d := some 131) (v := .slice (some ⟨b3, o3, none⟩) y.at_.length cby) rfl rfl (by kernel_rfl) (by kernel_rfl) (by kernel_rfl) (fun _ _ _ h => h) (Or.inl ⟨by rfl, ?_⟩) hHeld ?_
            · intro W hSw; have m0 := cell_at hSw.1 (j := 0) rfl; have m1 := cell_at hSw.1 (j := 1) rfl; have m2 := cell_at hSw.1 (j := 2) rfl; have m3 := cell_at hSw.1 (j := 3) rfl; have m4 := cell_at hSw.1 (j := 4) rfl; have m5 := cell_at hSw.1 (j := 5) rfl; have c0 := cell_at hSw.2.1 (j := 0) rfl; have c1 := cell_at hSw.2.1 (j := 1) rfl; have c2 := cell_at hSw.2.1 (j := 2) rfl; have c3 := cell_at hSw.2.1 (j := 3) rfl; have c4 := cell_at hSw.2.1 (j := 4) rfl; have c5 := cell_at hSw.2.1 (j := 5) rfl; have l1 := heap_lt hSw.1; have l2 := heap_lt hSw.2.1; have c9 := hSw.2.2; go_simp; try with_reducible rfl
            try simp only [Act.put, List.setIfInBounds_toArray, List.set_cons_zero, List.set_cons_succ]
            refine take_still (i := 13) (d := some 132) (v := .pointer (some ⟨b3, o3, none⟩)) rfl rfl (by kernel_rfl) (by kernel_rfl) (by kernel_rfl) (fun _ _ _ h => h) (Or.inl ⟨by rfl, ?_⟩) hHeld ?_
            · intro W hSw; go_simp; try with_reducible rfl
            try simp only [Act.put, List.setIfInBounds_toArray, List.set_cons_zero, List.set_cons_succ]
            refine take_still (i := 14) (d := some 133) (v := .int .i64 v0) rfl rfl (by kernel_rfl) (by kernel_rfl) (by kernel_rfl) (fun _ _ _ h => h) (Or.inl ⟨by rfl, ?_⟩) hHeld ?_
            · intro W hSw; have m0 := cell_at hSw.1 (j := 0) rfl; have m1 := cell_at hSw.1 (j := 1) rfl; have m2 := cell_at hSw.1 (j := 2) rfl; have m3 := cell_at hSw.1 (j := 3) rfl; have m4 := cell_at hSw.1 (j := 4) rfl; have m5 := cell_at hSw.1 (j := 5) rfl; have c0 := cell_at hSw.2.1 (j := 0) rfl; have c1 := cell_at hSw.2.1 (j := 1) rfl; have c2 := cell_at hSw.2.1 (j := 2) rfl; have c3 := cell_at hSw.2.1 (j := 3) rfl; have c4 := cell_at hSw.2.1 (j := 4) rfl; have c5 := cell_at hSw.2.1 (j := 5) rfl; have l1 := heap_lt hSw.1; have l2 := heap_lt hSw.2.1; have c9 := hSw.2.2; go_simp; try with_reducible rfl
            try simp only [Act.put, List.setIfInBounds_toArray, List.set_cons_zero, List.set_cons_succ]
            refine take_still (i := 15) (d := some 134) (v := .bool false) rfl rfl (by kernel_rfl) (by kernel_rfl) (by kernel_rfl) (fun _ _ _ h => h) (Or.inl ⟨by rfl, ?_⟩) hHeld ?_
            · intro W hSw; go_simp; try with_reducible rfl
            try simp only [Act.put, List.setIfInBounds_toArray, List.set_cons_zero, List.set_cons_succ]
            refine take_still (i := 16) (d := some 135) (v := .bool false) rfl rfl (by kernel_rfl) (by kernel_rfl) (by kernel_rfl) (fun _ _ _ h => h) (Or.inl ⟨by rfl, ?_⟩) hHeld ?_
            · intro W hSw; go_simp; try with_reducible rfl
            try simp only [Act.put, List.setIfInBounds_toArray, List.set_cons_zero, List.set_cons_succ]
            refine wpAnyH_ready (rs := [17]) (by kernel_rfl) (by simp) ?_
            refine AllReadyH.cons rfl (fun K hK => ?_) ?_
            · go_simp
              obtain ⟨_, o2, _⟩ := six (.int .i64 41) (.string ⟨#[]⟩) (.int .i64 0) (.slice none 0 0) (.slice none 0 0) (.slice (some ⟨Wa.heap.size, 0, none⟩) 2 2) (FS.out _ HBW.out).2.2 (Below.refl (w.heap.size + 1) w3) (Nat.le_refl _)
              refine hK.out _ _ ⟨(o2 _ HNY.out).trans (FS.out _ HBW.out).1, (o2 _ HNU.out).trans (FS.out _ HBW.out).2.1, (World.cell?_of_block (a := ⟨b3, o3, none⟩) (o2 b3 HNB.out)).trans (HC9.out _ HBW.out).2⟩ (fun hHeld => ?_)
              clear hK K o2
              refine take_still (i := 18) (d := some 3) (v := .bool false) rfl rfl (by kernel_rfl) (by kernel_rfl) (by kernel_rfl) (fun _ _ _ h => h) (Or.inl ⟨by rfl, ?_⟩) hHeld ?_
              · intro W hSw; go_simp; try with_reducible rfl
              try simp only [Act.put, List.setIfInBounds_toArray, List.set_cons_zero, List.set_cons_succ]
              refine wpAnyH_done (by kernel_rfl) ?_ _
              go_wp2_with fail
              obtain ⟨e1, e2, e3⟩ := doc_twoL (w := w) (w3 := w3) (lo := w0.heap.size) (hi := w.heap.size + 2) (g := w.heap.size + 1) (gl := Wa.heap.size) (x := ua) (y := y) (P := Pa) (Q := Qa) (R := Ra) (p := pa) (q := qa) (r := sa) (P' := Ay) (Q' := (some ⟨b3, o3, none⟩)) (R' := Ky) (p' := cay) (q' := cby) (r' := cky) 41 (FS.out _ HBW.out).2.2 (HX.out.1.then_ (HWa.out.1.then_ HBW.out)) HL0.out (Nat.le_succ _) (by omega) HSZ.out HLL.out (mask_on HMA.out HBW.out) (mask_on HMY.out HBW.out)
              exact bodyPost_ret (results_tm2 (p := 2) (t := 3) rfl rfl e1) rfl ⟨_, _, _, _, _, _, _, (by rw [HR.out]; rfl), fun h => (by rw [HR.out] at h; cases h), e2, e3⟩
            · exact AllReadyH.nil
          · exact AllReadyH.nil
        refine AllReadyH.cons rfl (fun K hK => ?_) ?_
        · go_simp
          go_at_call 80
          refine (SC.out _).mono ?_
          rintro e w3 ⟨rfl, hb3⟩
          have HBW := Lib.hid (HA.out.then_ hb3)
          clear hb3 m0 m1 m2 m3 m4 m5 c0 c1 c2 c3 c4 c5 z0 z1 z2 z3 z4 z5 fz hl1 hl2 hl3
          obtain ⟨m0, m1, m2, m3, m4, m5, c0, c1, c2, c3, c4, c5, z0, z1, z2, z3, z4, z5, fz, hl1, hl2, hl3⟩ := FK.out w3 HBW.out
          refine hK.out _ _ ⟨(FS.out _ HBW.out).1, (FS.out _ HBW.out).2.1, (HC9.out _ HBW.out).2⟩ (fun hHeld => ?_)
          clear hK K
          refine take_still (i := 8) (d := some 127) (v := .bool true) rfl rfl (by kernel_rfl) (by kernel_rfl) (by kernel_rfl) (fun _ _ _ h => h) (Or.inl ⟨by rfl, ?_⟩) hHeld ?_
          · intro W hSw; go_simp; try with_reducible rfl
          try simp only [Act.put, List.setIfInBounds_toArray, List.set_cons_zero, List.set_cons_succ]
          refine take_still (i := 9) (d := some 128) (v := .bool true) rfl rfl (by kernel_rfl) (by kernel_rfl) (by kernel_rfl) (fun _ _ _ h => h) (Or.inl ⟨by rfl, ?_⟩) hHeld ?_
          · intro W hSw; go_simp; try with_reducible rfl
          try simp only [Act.put, List.setIfInBounds_toArray, List.set_cons_zero, List.set_cons_succ]
          refine take_still (i := 10) (d := some 129) (v := .pointer (some ⟨W1.heap.size, 3, none⟩)) rfl rfl (by kernel_rfl) (by kernel_rfl) (by kernel_rfl) (fun _ _ _ h => h) (Or.inl ⟨by rfl, ?_⟩) hHeld ?_
          · intro W hSw; go_simp; try with_reducible rfl
          try simp only [Act.put, List.setIfInBounds_toArray, List.set_cons_zero, List.set_cons_succ]
          refine take_still (i := 11) (d := some 130) (v := .pointer (some ⟨W1.heap.size, 4, none⟩)) rfl rfl (by kernel_rfl) (by kernel_rfl) (by kernel_rfl) (fun _ _ _ h => h) (Or.inl ⟨by rfl, ?_⟩) hHeld ?_
          · intro W hSw; go_simp; try with_reducible rfl
          try simp only [Act.put, List.setIfInBounds_toArray, List.set_cons_zero, List.set_cons_succ]
          refine take_still (i := 12) (d := some 131) (v := .slice (some ⟨b3, o3, none⟩) y.at_.length cby) rfl rfl (by kernel_rfl) (by kernel_rfl) (by kernel_rfl) (fun _ _ _ h => h) (Or.inl ⟨by rfl, ?_⟩) hHeld ?_
          · intro W hSw; have m0 := cell_at hSw.1 (j := 0) rfl; have m1 := cell_at hSw.1 (j := 1) rfl; have m2 := cell_at hSw.1 (j := 2) rfl; have m3 := cell_at hSw.1 (j := 3) rfl; have m4 := cell_at hSw.1 (j := 4) rfl; have m5 := cell_at hSw.1 (j := 5) rfl; have c0 := cell_at hSw.2.1 (j := 0) rfl; have c1 := cell_at hSw.2.1 (j := 1) rfl; have c2 := cell_at hSw.2.1 (j := 2) rfl; have c3 := cell_at hSw.2.1 (j := 3) rfl; have c4 := cell_at hSw.2.1 (j := 4) rfl; have c5 := cell_at hSw.2.1 (j := 5) rfl; have l1 := heap_lt hSw.1; have l2 := heap_lt hSw.2.1; have c9 := hSw.2.2; go_simp; try with_reducible rfl
          try simp only [Act.put, List.setIfInBounds_toArray, List.set_cons_zero, List.set_cons_succ]
          refine take_still (i := 13) (d := some 132) (v := .pointer (some ⟨b3, o3, none⟩)) rfl rfl (by kernel_rfl) (by kernel_rfl) (by kernel_rfl) (fun _ _ _ h => h) (Or.inl ⟨by rfl, ?_⟩) hHeld ?_
          · intro W hSw; go_simp; try with_reducible rfl
          try simp only [Act.put, List.setIfInBounds_toArray, List.set_cons_zero, List.set_cons_succ]
          refine take_still (i := 14) (d := some 133) (v := .int .i64 v0) rfl rfl (by kernel_rfl) (by kernel_rfl) (by kernel_rfl) (fun _ _ _ h => h) (Or.inl ⟨by rfl, ?_⟩) hHeld ?_
          · intro W hSw; have m0 := cell_at hSw.1 (j := 0) rfl; have m1 := cell_at hSw.1 (j := 1) rfl; have m2 := cell_at hSw.1 (j := 2) rfl; have m3 := cell_at hSw.1 (j := 3) rfl; have m4 := cell_at hSw.1 (j := 4) rfl; have m5 := cell_at hSw.1 (j := 5) rfl; have c0 := cell_at hSw.2.1 (j := 0) rfl; have c1 := cell_at hSw.2.1 (j := 1) rfl; have c2 := cell_at hSw.2.1 (j := 2) rfl; have c3 := cell_at hSw.2.1 (j := 3) rfl; have c4 := cell_at hSw.2.1 (j := 4) rfl; have c5 := cell_at hSw.2.1 (j := 5) rfl; have l1 := heap_lt hSw.1; have l2 := heap_lt hSw.2.1; have c9 := hSw.2.2; go_simp; try with_reducible rfl
          try simp only [Act.put, List.setIfInBounds_toArray, List.set_cons_zero, List.set_cons_succ]
          refine take_still (i := 15) (d := some 134) (v := .bool false) rfl rfl (by kernel_rfl) (by kernel_rfl) (by kernel_rfl) (fun _ _ _ h => h) (Or.inl ⟨by rfl, ?_⟩) hHeld ?_
          · intro W hSw; go_simp; try with_reducible rfl
          try simp only [Act.put, List.setIfInBounds_toArray, List.set_cons_zero, List.set_cons_succ]
          refine take_still (i := 16) (d := some 135) (v := .bool false) rfl rfl (by kernel_rfl) (by kernel_rfl) (by kernel_rfl) (fun _ _ _ h => h) (Or.inl ⟨by rfl, ?_⟩) hHeld ?_
          · intro W hSw; go_simp; try with_reducible rfl
          try simp only [Act.put, List.setIfInBounds_toArray, List.set_cons_zero, List.set_cons_succ]
          refine wpAnyH_ready (rs := [2]) (by kernel_rfl) (by simp) ?_
          refine AllReadyH.cons rfl (fun K hK => ?_) ?_
          · go_simp
            have HBV := Lib.hid (HBW.out.alloc (o := (.cells #[.int .i64 ua.kind, .string ua.text, .int .i64 ua.n, .slice Pa ua.sh.length pa, .slice Qa ua.at_.length qa, .slice Ra ua.kids.length sa, .int .i64 y.kind, .string y.text, .int .i64 y.n, .slice Ay y.sh.length cay, .slice (some ⟨b3, o3, none⟩) y.at_.length cby, .slice Ky y.kids.length cky] TTm)) HBW.out.size)
            refine hK.out _ _ ⟨(FS.out _ HBV.out).1, (FS.out _ HBV.out).2.1, (HC9.out _ HBV.out).2⟩ (fun hHeld => ?_)
            clear hK K
            refine take_still (i := 3) (d := some 122) (v := .agg #[.int .i64 41, .string ⟨#[]⟩, .int .i64 0, .slice none 0 0, .slice none 0 0, .slice (some ⟨w3.heap.size, 0, none⟩) 2 2]) rfl rfl (by kernel_rfl) (by kernel_rfl) (by kernel_rfl) (fun _ _ _ h => h) (Or.inl ⟨by rfl, ?_⟩) hHeld ?_
            · intro W hSw; go_simp; try with_reducible rfl
            try simp only [Act.put, List.setIfInBounds_toArray, List.set_cons_zero, List.set_cons_succ]
            refine wpAnyH_ready (rs := [17]) (by kernel_rfl) (by simp) ?_
            refine AllReadyH.cons rfl (fun K hK => ?_) ?_
            · go_simp
              obtain ⟨_, o2, _⟩ := six (.int .i64 41) (.string ⟨#[]⟩) (.int .i64 0) (.slice none 0 0) (.slice none 0 0) (.slice (some ⟨w3.heap.size, 0, none⟩) 2 2) (FS.out _ HBW.out).2.2 (Below.refl (w.heap.size + 1) w3) (Nat.le_refl _)
              have hzz : (sixPut w3 (w.heap.size + 1) (.int .i64 41) (.string ⟨#[]⟩) (.int .i64 0) (.slice none 0 0) (.slice none 0 0) (.slice (some ⟨w3.heap.size, 0, none⟩) 2 2)).heap.size = w3.heap.size := by simp [World.setCell]
              refine hK.out _ _ ⟨(Below.heap_alloc _ _ _ (by rw [hzz]; exact hl1)).trans ((o2 _ HNY.out).trans (FS.out _ HBW.out).1), (Below.heap_alloc _ _ _ (by rw [hzz]; exact hl2)).trans ((o2 _ HNU.out).trans (FS.out _ HBW.out).2.1), (World.cell?_of_block (a := ⟨b3, o3, none⟩) ((Below.heap_alloc _ _ _ (by rw [hzz]; exact (HC9.out _ HBW.out).1)).trans (o2 b3 HNB.out))).trans (HC9.out _ HBW.out).2⟩ (fun hHeld => ?_)
              clear hK K o2 hzz
              refine take_still (i := 18) (d := some 3) (v := .bool false) rfl rfl (by kernel_rfl) (by kernel_rfl) (by kernel_rfl) (fun _ _ _ h => h) (Or.inl ⟨by rfl, ?_⟩) hHeld ?_
              · intro W hSw; go_simp; try with_reducible rfl
              try simp only [Act.put, List.setIfInBounds_toArray, List.set_cons_zero, List.set_cons_succ]
              refine wpAnyH_done (by kernel_rfl) ?_ _
              go_wp2_with fail
              obtain ⟨e1, e2, e3⟩ := doc_two (w := w) (w3 := w3) (lo := w0.heap.size) (hi := w.heap.size + 2) (g := w.heap.size + 1) (x := ua) (y := y) (P := Pa) (Q := Qa) (R := Ra) (p := pa) (q := qa) (r := sa) (P' := Ay) (Q' := (some ⟨b3, o3, none⟩)) (R' := Ky) (p' := cay) (q' := cby) (r' := cky) 41 (FS.out _ HBW.out).2.2 (HX.out.1.then_ (HWa.out.1.then_ HBW.out)) HL0.out (Nat.le_succ _) (by omega) (Nat.le_trans HSZ.out HBW.out.size) (mask_on HMA.out HBW.out) (mask_on HMY.out HBW.out) rfl
              exact bodyPost_ret (results_tm2 (p := 2) (t := 3) rfl rfl e1) rfl ⟨_, _, _, _, _, _, _, (by rw [HR.out]; rfl), fun h => (by rw [HR.out] at h; cases h), e2, e3⟩
            · exact AllReadyH.nil
          · exact AllReadyH.nil
        · exact AllReadyH.nil
      · have HR : Hid (obv t = (tOf 41 [(obv x).1, y], true)) := Lib.hid (by rw [HR0.out, if_neg (by rintro (h | h | h); rw [← HV.out] at h; cases h; rw [HSY.out] at h; cases h; rw [HV0.out] at h; exact hneg h)])
        have d0 : 0 ≤ v0 := by omega
        clear hneg
        have SC : Hid (∀ W, Calls Tryz.prog 80 #[tmVal y Ay cay (some ⟨b3, o3, none⟩) cby Ky cky] W fun e w' => e = .returned (.bool true) ∧ Below W.heap.size W w') := Lib.hid fun W => (dscalar_any y Ay cay (some ⟨b3, o3, none⟩) cby Ky cky W).mono fun e w' h => ⟨by rw [h.1, hsy], h.2⟩
        have HBX := Lib.hid (HBL.out (.cells #[.int .i64 ua.kind, .string ua.text, .int .i64 ua.n, .slice Pa ua.sh.length pa, .slice Qa ua.at_.length qa, .slice Ra ua.kids.length sa, .int .i64 y.kind, .string y.text, .int .i64 y.n, .slice Ay y.sh.length cay, .slice (some ⟨b3, o3, none⟩) y.at_.length cby, .slice Ky y.kids.length cky] TTm))
        clear hsy
        unfold tmVal at SC
        have HNY : Hid (W1.heap.size ≠ w.heap.size + 1) := Lib.hid (by have := HX.out.2.2.2; omega)
        have HNU : Hid (wa.heap.size ≠ w.heap.size + 1) := Lib.hid (by have := HX.out.2.2.2; have := HBa.out.1.size; omega)
        have FS : Hid (∀ W, Below Wa.heap.size Wa W → W.heap[W1.heap.size]? = some (.cells (tmCells y Ay cay (some ⟨b3, o3, none⟩) cby Ky cky) TTm (0, 0)) ∧ W.heap[wa.heap.size]? = some (.cells (tmCells ua Pa pa Qa qa Ra sa) TTm (0, 0)) ∧ W.heap[w.heap.size + 1]? = some (.cells tm0 TTm (0, 0))) := Lib.hid fun W h => ⟨(h.block _ (heap_lt HY13.out)).trans HY13.out, (h.block _ (heap_lt HWa.out.2.1)).trans HWa.out.2.1, (h.block _ (heap_lt HZ0.out)).trans HZ0.out⟩
        have HLF : Hid (∀ w3, Below (Wa.alloc (.cells #[.int .i64 ua.kind, .string ua.text, .int .i64 ua.n, .slice Pa ua.sh.length pa, .slice Qa ua.at_.length qa, .slice Ra ua.kids.length sa, .int .i64 y.kind, .string y.text, .int .i64 y.n, .slice Ay y.sh.length cay, .slice (some ⟨b3, o3, none⟩) y.at_.length cby, .slice Ky y.kids.length cky] TTm)).drew.heap.size (Wa.alloc (.cells #[.int .i64 ua.kind, .string ua.text, .int .i64 ua.n, .slice Pa ua.sh.length pa, .slice Qa ua.at_.length qa, .slice Ra ua.kids.length sa, .int .i64 y.kind, .string y.text, .int .i64 y.n, .slice Ay y.sh.length cay, .slice (some ⟨b3, o3, none⟩) y.at_.length cby, .slice Ky y.kids.length cky] TTm)).drew w3 → w3.heap[Wa.heap.size]? = some (.cells #[.int .i64 ua.kind, .string ua.text, .int .i64 ua.n, .slice Pa ua.sh.length pa, .slice Qa ua.at_.length qa, .slice Ra ua.kids.length sa, .int .i64 y.kind, .string y.text, .int .i64 y.n, .slice Ay y.sh.length cay, .slice (some ⟨b3, o3, none⟩) y.at_.length cby, .slice Ky y.kids.length cky] TTm (0, 0))) := Lib.hid fun w3 h => (h.block Wa.heap.size (by simp)).trans (heap_alloc_new Wa (.cells #[.int .i64 ua.kind, .string ua.text, .int .i64 ua.n, .slice Pa ua.sh.length pa, .slice Qa ua.at_.length qa, .slice Ra ua.kids.length sa, .int .i64 y.kind, .string y.text, .int .i64 y.n, .slice Ay y.sh.length cay, .slice (some ⟨b3, o3, none⟩) y.at_.length cby, .slice Ky y.kids.length cky] TTm))
        refine wp_region_held_drew (S := (fun W => W.heap[W1.heap.size]? = some (.cells (tmCells y Ay cay (some ⟨b3, o3, none⟩) cby Ky cky) TTm (0, 0)) ∧ W.heap[wa.heap.size]? = some (.cells (tmCells ua Pa pa Qa qa Ra sa) TTm (0, 0)) ∧ W.cell? ⟨b3, o3, none⟩ = some (.int .i64 v0))) (by kernel_rfl) ⟨(FS.out _ HA.out).1, (FS.out _ HA.out).2.1, (HC9.out _ HA.out).2⟩ (fun hHeld => ?_)
        refine take_still (i := 0) (d := some 119) (v := .agg #[.int .i64 ua.kind, .string ua.text, .int .i64 ua.n, .slice Pa ua.sh.length pa, .slice Qa ua.at_.length qa, .slice Ra ua.kids.length sa]) rfl rfl (by kernel_rfl) (by kernel_rfl) (by kernel_rfl) (fun _ _ _ h => h) (Or.inl ⟨by rfl, ?_⟩) hHeld ?_
        · intro W hSw; have m0 := cell_at hSw.1 (j := 0) rfl; have m1 := cell_at hSw.1 (j := 1) rfl; have m2 := cell_at hSw.1 (j := 2) rfl; have m3 := cell_at hSw.1 (j := 3) rfl; have m4 := cell_at hSw.1 (j := 4) rfl; have m5 := cell_at hSw.1 (j := 5) rfl; have c0 := cell_at hSw.2.1 (j := 0) rfl; have c1 := cell_at hSw.2.1 (j := 1) rfl; have c2 := cell_at hSw.2.1 (j := 2) rfl; have c3 := cell_at hSw.2.1 (j := 3) rfl; have c4 := cell_at hSw.2.1 (j := 4) rfl; have c5 := cell_at hSw.2.1 (j := 5) rfl; have l1 := heap_lt hSw.1; have l2 := heap_lt hSw.2.1; have c9 := hSw.2.2; go_simp; try with_reducible rfl
        try simp only [Act.put, List.setIfInBounds_toArray, List.set_cons_zero, List.set_cons_succ]
        refine take_still (i := 1) (d := some 120) (v := .agg #[.int .i64 y.kind, .string y.text, .int .i64 y.n, .slice Ay y.sh.length cay, .slice (some ⟨b3, o3, none⟩) y.at_.length cby, .slice Ky y.kids.length cky]) rfl rfl (by kernel_rfl) (by kernel_rfl) (by kernel_rfl) (fun _ _ _ h => h) (Or.inl ⟨by rfl, ?_⟩) hHeld ?_
        · intro W hSw; have m0 := cell_at hSw.1 (j := 0) rfl; have m1 := cell_at hSw.1 (j := 1) rfl; have m2 := cell_at hSw.1 (j := 2) rfl; have m3 := cell_at hSw.1 (j := 3) rfl; have m4 := cell_at hSw.1 (j := 4) rfl; have m5 := cell_at hSw.1 (j := 5) rfl; have c0 := cell_at hSw.2.1 (j := 0) rfl; have c1 := cell_at hSw.2.1 (j := 1) rfl; have c2 := cell_at hSw.2.1 (j := 2) rfl; have c3 := cell_at hSw.2.1 (j := 3) rfl; have c4 := cell_at hSw.2.1 (j := 4) rfl; have c5 := cell_at hSw.2.1 (j := 5) rfl; have l1 := heap_lt hSw.1; have l2 := heap_lt hSw.2.1; have c9 := hSw.2.2; go_simp; try with_reducible rfl
        try simp only [Act.put, List.setIfInBounds_toArray, List.set_cons_zero, List.set_cons_succ]
        refine take_still (i := 4) (d := some 123) (v := .bool true) rfl rfl (by kernel_rfl) (by kernel_rfl) (by kernel_rfl) (fun _ _ _ h => h) (Or.inl ⟨by rfl, ?_⟩) hHeld ?_
        · intro W hSw; go_simp; try with_reducible rfl
        try simp only [Act.put, List.setIfInBounds_toArray, List.set_cons_zero, List.set_cons_succ]
        refine take_still (i := 5) (d := some 124) (v := .bool true) rfl rfl (by kernel_rfl) (by kernel_rfl) (by kernel_rfl) (fun _ _ _ h => h) (Or.inl ⟨by rfl, ?_⟩) hHeld ?_
        · intro W hSw; go_simp; try with_reducible rfl
        try simp only [Act.put, List.setIfInBounds_toArray, List.set_cons_zero, List.set_cons_succ]
        refine take_still (i := 6) (d := some 125) (v := .agg #[.int .i64 y.kind, .string y.text, .int .i64 y.n, .slice Ay y.sh.length cay, .slice (some ⟨b3, o3, none⟩) y.at_.length cby, .slice Ky y.kids.length cky]) rfl rfl (by kernel_rfl) (by kernel_rfl) (by kernel_rfl) (fun _ _ _ h => h) (Or.inl ⟨by rfl, ?_⟩) hHeld ?_
        · intro W hSw; have m0 := cell_at hSw.1 (j := 0) rfl; have m1 := cell_at hSw.1 (j := 1) rfl; have m2 := cell_at hSw.1 (j := 2) rfl; have m3 := cell_at hSw.1 (j := 3) rfl; have m4 := cell_at hSw.1 (j := 4) rfl; have m5 := cell_at hSw.1 (j := 5) rfl; have c0 := cell_at hSw.2.1 (j := 0) rfl; have c1 := cell_at hSw.2.1 (j := 1) rfl; have c2 := cell_at hSw.2.1 (j := 2) rfl; have c3 := cell_at hSw.2.1 (j := 3) rfl; have c4 := cell_at hSw.2.1 (j := 4) rfl; have c5 := cell_at hSw.2.1 (j := 5) rfl; have l1 := heap_lt hSw.1; have l2 := heap_lt hSw.2.1; have c9 := hSw.2.2; go_simp; try with_reducible rfl
        try simp only [Act.put, List.setIfInBounds_toArray, List.set_cons_zero, List.set_cons_succ]
        refine wpAnyH_ready (rs := [2, 7]) (by kernel_rfl) (by simp) ?_
        refine AllReadyH.cons rfl (fun K hK => ?_) ?_
        · go_simp
          refine hK.out _ _ ⟨(FS.out _ HBX.out).1, (FS.out _ HBX.out).2.1, (HC9.out _ HBX.out).2⟩ (fun hHeld => ?_)
          clear hK K
          refine take_still (i := 3) (d := some 122) (v := .agg #[.int .i64 41, .string ⟨#[]⟩, .int .i64 0, .slice none 0 0, .slice none 0 0, .slice (some ⟨Wa.heap.size, 0, none⟩) 2 2]) rfl rfl (by kernel_rfl) (by kernel_rfl) (by kernel_rfl) (fun _ _ _ h => h) (Or.inl ⟨by rfl, ?_⟩) hHeld ?_
          · intro W hSw; go_simp; try with_reducible rfl
          try simp only [Act.put, List.setIfInBounds_toArray, List.set_cons_zero, List.set_cons_succ]
          refine wpAnyH_ready (rs := [7]) (by kernel_rfl) (by simp) ?_
          refine AllReadyH.cons rfl (fun K hK => ?_) ?_
          · go_simp
            go_at_call 80
            refine (SC.out _).mono ?_
            rintro e w3 ⟨rfl, hb3⟩
            have HBW := Lib.hid (HBX.out.then_ hb3)
            have HLL := Lib.hid (HLF.out _ hb3)
            clear hb3 m0 m1 m2 m3 m4 m5 c0 c1 c2 c3 c4 c5 z0 z1 z2 z3 z4 z5 fz hl1 hl2 hl3
            obtain ⟨m0, m1, m2, m3, m4, m5, c0, c1, c2, c3, c4, c5, z0, z1, z2, z3, z4, z5, fz, hl1, hl2, hl3⟩ := FK.out w3 HBW.out
            refine hK.out _ _ ⟨(FS.out _ HBW.out).1, (FS.out _ HBW.out).2.1, (HC9.out _ HBW.out).2⟩ (fun hHeld => ?_)
            clear hK K
            refine take_still (i := 8) (d := some 127) (v := .bool true) rfl rfl (by kernel_rfl) (by kernel_rfl) (by kernel_rfl) (fun _ _ _ h => h) (Or.inl ⟨by rfl, ?_⟩) hHeld ?_
            · intro W hSw; go_simp; try with_reducible rfl
            try simp only [Act.put, List.setIfInBounds_toArray, List.set_cons_zero, List.set_cons_succ]
            refine take_still (i := 9) (d := some 128) (v := .bool true) rfl rfl (by kernel_rfl) (by kernel_rfl) (by kernel_rfl) (fun _ _ _ h => h) (Or.inl ⟨by rfl, ?_⟩) hHeld ?_
            · intro W hSw; go_simp; try with_reducible rfl
            try simp only [Act.put, List.setIfInBounds_toArray, List.set_cons_zero, List.set_cons_succ]
            refine take_still (i := 10) (d := some 129) (v := .pointer (some ⟨W1.heap.size, 3, none⟩)) rfl rfl (by kernel_rfl) (by kernel_rfl) (by kernel_rfl) (fun _ _ _ h => h) (Or.inl ⟨by rfl, ?_⟩) hHeld ?_
            · intro W hSw; go_simp; try with_reducible rfl
            try simp only [Act.put, List.setIfInBounds_toArray, List.set_cons_zero, List.set_cons_succ]
            refine take_still (i := 11) (d := some 130) (v := .pointer (some ⟨W1.heap.size, 4, none⟩)) rfl rfl (by kernel_rfl) (by kernel_rfl) (by kernel_rfl) (fun _ _ _ h => h) (Or.inl ⟨by rfl, ?_⟩) hHeld ?_
            · intro W hSw; go_simp; try with_reducible rfl
            try simp only [Act.put, List.setIfInBounds_toArray, List.set_cons_zero, List.set_cons_succ]
            refine take_still (i := 12) (d := some 131) (v := .slice (some ⟨b3, o3, none⟩) y.at_.length cby) rfl rfl (by kernel_rfl) (by kernel_rfl) (by kernel_rfl) (fun _ _ _ h => h) (Or.inl ⟨by rfl, ?_⟩) hHeld ?_
            · intro W hSw; have m0 := cell_at hSw.1 (j := 0) rfl; have m1 := cell_at hSw.1 (j := 1) rfl; have m2 := cell_at hSw.1 (j := 2) rfl; have m3 := cell_at hSw.1 (j := 3) rfl; have m4 := cell_at hSw.1 (j := 4) rfl; have m5 := cell_at hSw.1 (j := 5) rfl; have c0 := cell_at hSw.2.1 (j := 0) rfl; have c1 := cell_at hSw.2.1 (j := 1) rfl; have c2 := cell_at hSw.2.1 (j := 2) rfl; have c3 := cell_at hSw.2.1 (j := 3) rfl; have c4 := cell_at hSw.2.1 (j := 4) rfl; have c5 := cell_at hSw.2.1 (j := 5) rfl; have l1 := heap_lt hSw.1; have l2 := heap_lt hSw.2.1; have c9 := hSw.2.2; go_simp; try with_reducible rfl
            try simp only [Act.put, List.setIfInBounds_toArray, List.set_cons_zero, List.set_cons_succ]
            refine take_still (i := 13) (d := some 132) (v := .pointer (some ⟨b3, o3, none⟩)) rfl rfl (by kernel_rfl) (by kernel_rfl) (by kernel_rfl) (fun _ _ _ h => h) (Or.inl ⟨by rfl, ?_⟩) hHeld ?_
            · intro W hSw; go_simp; try with_reducible rfl
            try simp only [Act.put, List.setIfInBounds_toArray, List.set_cons_zero, List.set_cons_succ]
            refine take_still (i := 14) (d := some 133) (v := .int .i64 v0) rfl rfl (by kernel_rfl) (by kernel_rfl) (by kernel_rfl) (fun _ _ _ h => h) (Or.inl ⟨by rfl, ?_⟩) hHeld ?_
            · intro W hSw; have m0 := cell_at hSw.1 (j := 0) rfl; have m1 := cell_at hSw.1 (j := 1) rfl; have m2 := cell_at hSw.1 (j := 2) rfl; have m3 := cell_at hSw.1 (j := 3) rfl; have m4 := cell_at hSw.1 (j := 4) rfl; have m5 := cell_at hSw.1 (j := 5) rfl; have c0 := cell_at hSw.2.1 (j := 0) rfl; have c1 := cell_at hSw.2.1 (j := 1) rfl; have c2 := cell_at hSw.2.1 (j := 2) rfl; have c3 := cell_at hSw.2.1 (j := 3) rfl; have c4 := cell_at hSw.2.1 (j := 4) rfl; have c5 := cell_at hSw.2.1 (j := 5) rfl; have l1 := heap_lt hSw.1; have l2 := heap_lt hSw.2.1; have c9 := hSw.2.2; go_simp; try with_reducible rfl
            try simp only [Act.put, List.setIfInBounds_toArray, List.set_cons_zero, List.set_cons_succ]
            refine take_still (i := 15) (d := some 134) (v := .bool true) rfl rfl (by kernel_rfl) (by kernel_rfl) (by kernel_rfl) (fun _ _ _ h => h) (Or.inl ⟨by rfl, ?_⟩) hHeld ?_
            · intro W hSw; go_simp; try with_reducible rfl
            try simp only [Act.put, List.setIfInBounds_toArray, List.set_cons_zero, List.set_cons_succ]
            refine take_still (i := 16) (d := some 135) (v := .bool true) rfl rfl (by kernel_rfl) (by kernel_rfl) (by kernel_rfl) (fun _ _ _ h => h) (Or.inl ⟨by rfl, ?_⟩) hHeld ?_
            · intro W hSw; go_simp; try with_reducible rfl
            try simp only [Act.put, List.setIfInBounds_toArray, List.set_cons_zero, List.set_cons_succ]
            refine wpAnyH_ready (rs := [17]) (by kernel_rfl) (by simp) ?_
            refine AllReadyH.cons rfl (fun K hK => ?_) ?_
            · go_simp
              obtain ⟨_, o2, _⟩ := six (.int .i64 41) (.string ⟨#[]⟩) (.int .i64 0) (.slice none 0 0) (.slice none 0 0) (.slice (some ⟨Wa.heap.size, 0, none⟩) 2 2) (FS.out _ HBW.out).2.2 (Below.refl (w.heap.size + 1) w3) (Nat.le_refl _)
              refine hK.out _ _ ⟨(o2 _ HNY.out).trans (FS.out _ HBW.out).1, (o2 _ HNU.out).trans (FS.out _ HBW.out).2.1, (World.cell?_of_block (a := ⟨b3, o3, none⟩) (o2 b3 HNB.out)).trans (HC9.out _ HBW.out).2⟩ (fun hHeld => ?_)
              clear hK K o2
              refine take_still (i := 18) (d := some 3) (v := .bool true) rfl rfl (by kernel_rfl) (by kernel_rfl) (by kernel_rfl) (fun _ _ _ h => h) (Or.inl ⟨by rfl, ?_⟩) hHeld ?_
              · intro W hSw; go_simp; try with_reducible rfl
              try simp only [Act.put, List.setIfInBounds_toArray, List.set_cons_zero, List.set_cons_succ]
              refine wpAnyH_done (by kernel_rfl) ?_ _
              go_wp2_with fail
              obtain ⟨e1, e2, e3⟩ := doc_twoL (w := w) (w3 := w3) (lo := w0.heap.size) (hi := w.heap.size + 2) (g := w.heap.size + 1) (gl := Wa.heap.size) (x := ua) (y := y) (P := Pa) (Q := Qa) (R := Ra) (p := pa) (q := qa) (r := sa) (P' := Ay) (Q' := (some ⟨b3, o3, none⟩)) (R' := Ky) (p' := cay) (q' := cby) (r' := cky) 41 (FS.out _ HBW.out).2.2 (HX.out.1.then_ (HWa.out.1.then_ HBW.out)) HL0.out (Nat.le_succ _) (by omega) HSZ.out HLL.out (mask_on HMA.out HBW.out) (mask_on HMY.out HBW.out)
              exact bodyPost_ret (results_tm2 (p := 2) (t := 3) rfl rfl e1) rfl ⟨_, _, _, _, _, _, _, (by rw [HR.out]; rfl), fun h => (by rw [HR.out, HBa.out.2.2.1 HV.out.symm]), e2, e3⟩
            · exact AllReadyH.nil
          · exact AllReadyH.nil
        refine AllReadyH.cons rfl (fun K hK => ?_) ?_
        · go_simp
          go_at_call 80
          refine (SC.out _).mono ?_
          rintro e w3 ⟨rfl, hb3⟩
          have HBW := Lib.hid (HA.out.then_ hb3)
          clear hb3 m0 m1 m2 m3 m4 m5 c0 c1 c2 c3 c4 c5 z0 z1 z2 z3 z4 z5 fz hl1 hl2 hl3
          obtain ⟨m0, m1, m2, m3, m4, m5, c0, c1, c2, c3, c4, c5, z0, z1, z2, z3, z4, z5, fz, hl1, hl2, hl3⟩ := FK.out w3 HBW.out
          refine hK.out _ _ ⟨(FS.out _ HBW.out).1, (FS.out _ HBW.out).2.1, (HC9.out _ HBW.out).2⟩ (fun hHeld => ?_)
          clear hK K
          refine take_still (i := 8) (d := some 127) (v := .bool true) rfl rfl (by kernel_rfl) (by kernel_rfl) (by kernel_rfl) (fun _ _ _ h => h) (Or.inl ⟨by rfl, ?_⟩) hHeld ?_
          · intro W hSw; go_simp; try with_reducible rfl
          try simp only [Act.put, List.setIfInBounds_toArray, List.set_cons_zero, List.set_cons_succ]
          refine take_still (i := 9) (d := some 128) (v := .bool true) rfl rfl (by kernel_rfl) (by kernel_rfl) (by kernel_rfl) (fun _ _ _ h => h) (Or.inl ⟨by rfl, ?_⟩) hHeld ?_
          · intro W hSw; go_simp; try with_reducible rfl
          try simp only [Act.put, List.setIfInBounds_toArray, List.set_cons_zero, List.set_cons_succ]
          refine take_still (i := 10) (d := some 129) (v := .pointer (some ⟨W1.heap.size, 3, none⟩)) rfl rfl (by kernel_rfl) (by kernel_rfl) (by kernel_rfl) (fun _ _ _ h => h) (Or.inl ⟨by rfl, ?_⟩) hHeld ?_
          · intro W hSw; go_simp; try with_reducible rfl
          try simp only [Act.put, List.setIfInBounds_toArray, List.set_cons_zero, List.set_cons_succ]
          refine take_still (i := 11) (d := some 130) (v := .pointer (some ⟨W1.heap.size, 4, none⟩)) rfl rfl (by kernel_rfl) (by kernel_rfl) (by kernel_rfl) (fun _ _ _ h => h) (Or.inl ⟨by rfl, ?_⟩) hHeld ?_
          · intro W hSw; go_simp; try with_reducible rfl
          try simp only [Act.put, List.setIfInBounds_toArray, List.set_cons_zero, List.set_cons_succ]
          refine take_still (i := 12) (d := some 131) (v := .slice (some ⟨b3, o3, none⟩) y.at_.length cby) rfl rfl (by kernel_rfl) (by kernel_rfl) (by kernel_rfl) (fun _ _ _ h => h) (Or.inl ⟨by rfl, ?_⟩) hHeld ?_
          · intro W hSw; have m0 := cell_at hSw.1 (j := 0) rfl; have m1 := cell_at hSw.1 (j := 1) rfl; have m2 := cell_at hSw.1 (j := 2) rfl; have m3 := cell_at hSw.1 (j := 3) rfl; have m4 := cell_at hSw.1 (j := 4) rfl; have m5 := cell_at hSw.1 (j := 5) rfl; have c0 := cell_at hSw.2.1 (j := 0) rfl; have c1 := cell_at hSw.2.1 (j := 1) rfl; have c2 := cell_at hSw.2.1 (j := 2) rfl; have c3 := cell_at hSw.2.1 (j := 3) rfl; have c4 := cell_at hSw.2.1 (j := 4) rfl; have c5 := cell_at hSw.2.1 (j := 5) rfl; have l1 := heap_lt hSw.1; have l2 := heap_lt hSw.2.1; have c9 := hSw.2.2; go_simp; try with_reducible rfl
          try simp only [Act.put, List.setIfInBounds_toArray, List.set_cons_zero, List.set_cons_succ]
          refine take_still (i := 13) (d := some 132) (v := .pointer (some ⟨b3, o3, none⟩)) rfl rfl (by kernel_rfl) (by kernel_rfl) (by kernel_rfl) (fun _ _ _ h => h) (Or.inl ⟨by rfl, ?_⟩) hHeld ?_
          · intro W hSw; go_simp; try with_reducible rfl
          try simp only [Act.put, List.setIfInBounds_toArray, List.set_cons_zero, List.set_cons_succ]
          refine take_still (i := 14) (d := some 133) (v := .int .i64 v0) rfl rfl (by kernel_rfl) (by kernel_rfl) (by kernel_rfl) (fun _ _ _ h => h) (Or.inl ⟨by rfl, ?_⟩) hHeld ?_
          · intro W hSw; have m0 := cell_at hSw.1 (j := 0) rfl; have m1 := cell_at hSw.1 (j := 1) rfl; have m2 := cell_at hSw.1 (j := 2) rfl; have m3 := cell_at hSw.1 (j := 3) rfl; have m4 := cell_at hSw.1 (j := 4) rfl; have m5 := cell_at hSw.1 (j := 5) rfl; have c0 := cell_at hSw.2.1 (j := 0) rfl; have c1 := cell_at hSw.2.1 (j := 1) rfl; have c2 := cell_at hSw.2.1 (j := 2) rfl; have c3 := cell_at hSw.2.1 (j := 3) rfl; have c4 := cell_at hSw.2.1 (j := 4) rfl; have c5 := cell_at hSw.2.1 (j := 5) rfl; have l1 := heap_lt hSw.1; have l2 := heap_lt hSw.2.1; have c9 := hSw.2.2; go_simp; try with_reducible rfl
          try simp only [Act.put, List.setIfInBounds_toArray, List.set_cons_zero, List.set_cons_succ]
          refine take_still (i := 15) (d := some 134) (v := .bool true) rfl rfl (by kernel_rfl) (by kernel_rfl) (by kernel_rfl) (fun _ _ _ h => h) (Or.inl ⟨by rfl, ?_⟩) hHeld ?_
          · intro W hSw; go_simp; try with_reducible rfl
          try simp only [Act.put, List.setIfInBounds_toArray, List.set_cons_zero, List.set_cons_succ]
          refine take_still (i := 16) (d := some 135) (v := .bool true) rfl rfl (by kernel_rfl) (by kernel_rfl) (by kernel_rfl) (fun _ _ _ h => h) (Or.inl ⟨by rfl, ?_⟩) hHeld ?_
          · intro W hSw; go_simp; try with_reducible rfl
          try simp only [Act.put, List.setIfInBounds_toArray, List.set_cons_zero, List.set_cons_succ]
          refine wpAnyH_ready (rs := [2]) (by kernel_rfl) (by simp) ?_
          refine AllReadyH.cons rfl (fun K hK => ?_) ?_
          · go_simp
            have HBV := Lib.hid (HBW.out.alloc (o := (.cells #[.int .i64 ua.kind, .string ua.text, .int .i64 ua.n, .slice Pa ua.sh.length pa, .slice Qa ua.at_.length qa, .slice Ra ua.kids.length sa, .int .i64 y.kind, .string y.text, .int .i64 y.n, .slice Ay y.sh.length cay, .slice (some ⟨b3, o3, none⟩) y.at_.length cby, .slice Ky y.kids.length cky] TTm)) HBW.out.size)
            refine hK.out _ _ ⟨(FS.out _ HBV.out).1, (FS.out _ HBV.out).2.1, (HC9.out _ HBV.out).2⟩ (fun hHeld => ?_)
            clear hK K
            refine take_still (i := 3) (d := some 122) (v := .agg #[.int .i64 41, .string ⟨#[]⟩, .int .i64 0, .slice none 0 0, .slice none 0 0, .slice (some ⟨w3.heap.size, 0, none⟩) 2 2]) rfl rfl (by kernel_rfl) (by kernel_rfl) (by kernel_rfl) (fun _ _ _ h => h) (Or.inl ⟨by rfl, ?_⟩) hHeld ?_
            · intro W hSw; go_simp; try with_reducible rfl
            try simp only [Act.put, List.setIfInBounds_toArray, List.set_cons_zero, List.set_cons_succ]
            refine wpAnyH_ready (rs := [17]) (by kernel_rfl) (by simp) ?_
            refine AllReadyH.cons rfl (fun K hK => ?_) ?_
            · go_simp
              obtain ⟨_, o2, _⟩ := six (.int .i64 41) (.string ⟨#[]⟩) (.int .i64 0) (.slice none 0 0) (.slice none 0 0) (.slice (some ⟨w3.heap.size, 0, none⟩) 2 2) (FS.out _ HBW.out).2.2 (Below.refl (w.heap.size + 1) w3) (Nat.le_refl _)
              have hzz : (sixPut w3 (w.heap.size + 1) (.int .i64 41) (.string ⟨#[]⟩) (.int .i64 0) (.slice none 0 0) (.slice none 0 0) (.slice (some ⟨w3.heap.size, 0, none⟩) 2 2)).heap.size = w3.heap.size := by simp [World.setCell]
              refine hK.out _ _ ⟨(Below.heap_alloc _ _ _ (by rw [hzz]; exact hl1)).trans ((o2 _ HNY.out).trans (FS.out _ HBW.out).1), (Below.heap_alloc _ _ _ (by rw [hzz]; exact hl2)).trans ((o2 _ HNU.out).trans (FS.out _ HBW.out).2.1), (World.cell?_of_block (a := ⟨b3, o3, none⟩) ((Below.heap_alloc _ _ _ (by rw [hzz]; exact (HC9.out _ HBW.out).1)).trans (o2 b3 HNB.out))).trans (HC9.out _ HBW.out).2⟩ (fun hHeld => ?_)
              clear hK K o2 hzz
              refine take_still (i := 18) (d := some 3) (v := .bool true) rfl rfl (by kernel_rfl) (by kernel_rfl) (by kernel_rfl) (fun _ _ _ h => h) (Or.inl ⟨by rfl, ?_⟩) hHeld ?_
              · intro W hSw; go_simp; try with_reducible rfl
              try simp only [Act.put, List.setIfInBounds_toArray, List.set_cons_zero, List.set_cons_succ]
              refine wpAnyH_done (by kernel_rfl) ?_ _
              go_wp2_with fail
              obtain ⟨e1, e2, e3⟩ := doc_two (w := w) (w3 := w3) (lo := w0.heap.size) (hi := w.heap.size + 2) (g := w.heap.size + 1) (x := ua) (y := y) (P := Pa) (Q := Qa) (R := Ra) (p := pa) (q := qa) (r := sa) (P' := Ay) (Q' := (some ⟨b3, o3, none⟩)) (R' := Ky) (p' := cay) (q' := cby) (r' := cky) 41 (FS.out _ HBW.out).2.2 (HX.out.1.then_ (HWa.out.1.then_ HBW.out)) HL0.out (Nat.le_succ _) (by omega) (Nat.le_trans HSZ.out HBW.out.size) (mask_on HMA.out HBW.out) (mask_on HMY.out HBW.out) rfl
              exact bodyPost_ret (results_tm2 (p := 2) (t := 3) rfl rfl e1) rfl ⟨_, _, _, _, _, _, _, (by rw [HR.out]; rfl), fun h => (by rw [HR.out, HBa.out.2.2.1 HV.out.symm]), e2, e3⟩
            · exact AllReadyH.nil
          · exact AllReadyH.nil
        · exact AllReadyH.nil
end Go.Proofs.YtkdejffhdhcocaaGreat
