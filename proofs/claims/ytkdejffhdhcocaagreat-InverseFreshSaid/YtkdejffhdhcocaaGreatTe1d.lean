/- abacusref17.of: some kinds of verbs. Condition: sizes within reach. -/
import Derived.Test.YtkdejffhdhcocaaGreatTe1c
namespace Go.Proofs.YtkdejffhdhcocaaGreat
open Go.RowKit

set_option maxRecDepth 100000 in
set_option maxHeartbeats 100000000 in
theorem dof_39 (N : Nat) (ih : DofN N) (t : Tm) (A : Option Addr) (ca : Nat) (B : Option Addr) (cb : Nat) (K : Option Addr) (ck : Nat) (w0 w : World) (hN : cnt t ≤ N + 1) (hat : TmAt w0 t A B K) (hb : Below w0.heap.size w0 w) (hwf : WfT t) (hgd : goodT false t = true) (hk : t.kind = 39) :
    Calls Tryz.prog 38 #[tmVal t A ca B cb K ck] w (DocPost t w0 w) := by
  obtain ⟨W1, hW1⟩ : ∃ W1, W1 = (w.alloc (.cells (tmCells t A ca B cb K ck) TTm)).alloc (.cells tm0 TTm) := ⟨_, rfl⟩
  have hb1 : Below w.heap.size w W1 := by rw [hW1]; exact ((Below.refl _ _).alloc (Nat.le_refl _) _).alloc (by simp) _
  have hx1 : W1.heap[w.heap.size]? = some (.cells (tmCells t A ca B cb K ck) TTm (0, 0)) := by rw [hW1]; exact (Below.heap_alloc _ _ _ (by simp)).trans (heap_alloc_new w _)
  have hz1 : W1.heap[w.heap.size + 1]? = some (.cells tm0 TTm (0, 0)) := by rw [hW1]; exact heap_new2 _ _ _
  have hs1 : W1.heap.size = w.heap.size + 2 := by rw [hW1]; simp
  have HX := Lib.hid (And.intro hb1 (And.intro hx1 (And.intro hz1 hs1)))
  have HT := Lib.hid (And.intro hat (And.intro hb (And.intro hwf hN)))
  have HW1 := Lib.hid hW1
  have HL0 : Hid (w0.heap.size ≤ w.heap.size) := Lib.hid hb.size
  have IH := Lib.hid ih
  have k0 : W1.cell? ⟨w.heap.size, 0, none⟩ = some (.int .i64 t.kind) := cell_at hx1 rfl
  have k1 : W1.cell? ⟨w.heap.size, 1, none⟩ = some (.string t.text) := cell_at hx1 rfl
  have k2 : W1.cell? ⟨w.heap.size, 2, none⟩ = some (.int .i64 t.n) := cell_at hx1 rfl
  have k3 : W1.cell? ⟨w.heap.size, 3, none⟩ = some (.slice A t.sh.length ca) := cell_at hx1 rfl
  have k4 : W1.cell? ⟨w.heap.size, 4, none⟩ = some (.slice B t.at_.length cb) := cell_at hx1 rfl
  have k5 : W1.cell? ⟨w.heap.size, 5, none⟩ = some (.slice K t.kids.length ck) := cell_at hx1 rfl
  have z0 := cell_at hz1 (j := 0) rfl
  have z1 := cell_at hz1 (j := 1) rfl
  have z2 := cell_at hz1 (j := 2) rfl
  have z3 := cell_at hz1 (j := 3) rfl
  have z4 := cell_at hz1 (j := 4) rfl
  have z5 := cell_at hz1 (j := 5) rfl
  have fz := unfrozen hz1
  have hlz := heap_lt hz1
  have hlx := heap_lt hx1
  have hpk : t.kids.length ≤ 140737488351232 := hwf.node.kids
  have TWO : Hid (∀ x y, t.kids = [x, y] → ∃ bk ok, K = some ⟨bk, ok, none⟩ ∧ PtrAt w0 bk ok x ∧ PtrAt w0 bk (ok + 6) y) := Lib.hid fun x y hks => by
    obtain ⟨bk, ok, e, h0⟩ := HT.out.1.kids.get (i := 0) (t := x) (by rw [hks]; rfl)
    obtain ⟨bk', ok', e', h1⟩ := HT.out.1.kids.get (i := 1) (t := y) (by rw [hks]; rfl)
    rw [e] at e'
    simp only [Option.some.injEq, Addr.mk.injEq, and_true] at e'
    obtain ⟨rfl, rfl⟩ := e'
    exact ⟨bk, ok, e, by simpa using h0, by simpa using h1⟩
  have SUB : Hid (∀ x y, t.kids = [x, y] → ¬ t.kind = 23 → (WfT x ∧ goodT false x = true ∧ cnt x ≤ N) ∧ (WfT y ∧ goodT false y = true ∧ cnt y ≤ N)) := Lib.hid fun x y hks h23 => by
    obtain ⟨c1, _⟩ := cnt_eq2 hks
    have := cnt_pos x
    have := cnt_pos y
    have := hN
    exact ⟨⟨hwf.node.each x (by rw [hks]; simp), good_sub hgd h23 (i := 0) (by rw [hks]; rfl), by omega⟩, ⟨hwf.node.each y (by rw [hks]; simp), good_sub hgd h23 (i := 1) (by rw [hks]; rfl), by omega⟩⟩
  clear hat hb hwf hb1 hx1 hz1 hs1 hW1 hN ih
  have e0 : obv t = bondLT (nth t.kids 0) (nth t.kids 1) := by rw [obv_eq]; unfold obvK; repeat (first | rw [if_pos hk] | rw [if_neg (by omega)])
  obtain ⟨x, y, hks, fx, fy⟩ := two_kids hgd (c := 111) (d := 118) (by rw [hk]; decide) (by omega) (by omega) (by omega)
  obtain ⟨bk, ok, hKe, px, py⟩ := TWO.out x y hks
  subst hKe
  obtain ⟨sx, sy⟩ := SUB.out x y hks (by omega)
  obtain ⟨Ax, cax, Bx, cbx, Kx, ckx, ltx, x0, x1, x2, x3, x4, x5, hatx⟩ := px.cells
  obtain ⟨Ay, cay, By, cby, Ky, cky, lty, y0, y1, y2, y3, y4, y5, haty⟩ := py.cells
  have XC : Hid (∀ W, Below w0.heap.size w0 W → bk < W.heap.size ∧ W.cell? ⟨bk, ok, none⟩ = some (.int .i64 x.kind) ∧ W.cell? ⟨bk, ok + 1, none⟩ = some (.string x.text) ∧ W.cell? ⟨bk, ok + 2, none⟩ = some (.int .i64 x.n) ∧ W.cell? ⟨bk, ok + 3, none⟩ = some (.slice Ax x.sh.length cax) ∧ W.cell? ⟨bk, ok + 4, none⟩ = some (.slice Bx x.at_.length cbx) ∧ W.cell? ⟨bk, ok + 5, none⟩ = some (.slice Kx x.kids.length ckx) ∧
      W.cell? ⟨bk, ok + 6, none⟩ = some (.int .i64 y.kind) ∧ W.cell? ⟨bk, ok + 7, none⟩ = some (.string y.text) ∧ W.cell? ⟨bk, ok + 8, none⟩ = some (.int .i64 y.n) ∧ W.cell? ⟨bk, ok + 9, none⟩ = some (.slice Ay y.sh.length cay) ∧ W.cell? ⟨bk, ok + 10, none⟩ = some (.slice By y.at_.length cby) ∧ W.cell? ⟨bk, ok + 11, none⟩ = some (.slice Ky y.kids.length cky)) := Lib.hid fun W h => by
    have key : ∀ j v, w0.cell? ⟨bk, j, none⟩ = some v → W.cell? ⟨bk, j, none⟩ = some v := fun j v hv => (h.cell (p := ⟨bk, j, none⟩) ltx).trans hv
    exact ⟨Nat.lt_of_lt_of_le ltx h.size, key _ _ x0, key _ _ x1, key _ _ x2, key _ _ x3, key _ _ x4, key _ _ x5, key _ _ y0, key _ _ y1, key _ _ y2, key _ _ y3, key _ _ y4, key _ _ y5⟩
  have HPX := Lib.hid (And.intro hatx sx)
  have HPY := Lib.hid (And.intro haty sy)
  have HKS := Lib.hid hks
  have hkl : t.kids.length = 2 := by rw [hks]; rfl
  clear x0 x1 x2 x3 x4 x5 y0 y1 y2 y3 y4 y5 ltx lty hatx haty px py sx sy fx fy
  rw [hkl] at k5 hpk
  have HKL := Lib.hid hkl
  obtain ⟨hlk, x0, x1, x2, x3, x4, x5, y0, y1, y2, y3, y4, y5⟩ := XC.out W1 (HT.out.2.1.then_ HX.out.1)
  have HR0 : Hid (obv t = bondLT x y) := Lib.hid (by rw [e0, hks]; rfl)
  have kk20 : (t.kind == 20) = false := by rw [hk]; rfl
  have kk39 : (t.kind == 39) = true := by rw [hk]; rfl
  clear hks hgd hk hkl e0
  by_cases hv : y.kind = 20
  · have d1 : (y.kind != 20) = false := by simp [hv]
    obtain ⟨u9, b9, h9⟩ : ∃ u9 b9, bondD x y.text true = (u9, b9) := ⟨_, _, rfl⟩
    have HR : Hid (obv t = (u9, b9)) := Lib.hid (by rw [HR0.out, ← h9]; exact bondLT_text hv)
    have BOND : Hid (∀ W, Below W1.heap.size W1 W → Calls Tryz.prog 79 #[tmVal x Ax cax Bx cbx Kx ckx, .string y.text, .bool true] W (BondPost (u9, b9) w0 W)) := Lib.hid fun W h => by rw [← h9]; exact dbond_any x Ax cax Bx cbx Kx ckx y.text true w0 W HPX.out.1 (HT.out.2.1.then_ (HX.out.1.then_ h)) (fun hs => lit_one HPX.out.2.2.1 hs)
    have HA : Hid (Below W1.heap.size W1 W1.drew) := Lib.hid (Below.refl _ _).drew
    have HB : Hid (Below W1.heap.size W1 (W1.alloc (.cells tm0 TTm)).drew) := Lib.hid ((Below.refl _ _).alloc (Nat.le_refl _) _).drew
    have HLT : Hid (W1.heap.size < (W1.alloc (.cells tm0 TTm)).drew.heap.size) := Lib.hid (by simp)
    have HNW : Hid ((W1.alloc (.cells tm0 TTm)).drew.heap[W1.heap.size]? = some (.cells tm0 TTm (0, 0))) := Lib.hid (heap_alloc_new W1 (.cells tm0 TTm))
    have KP : Hid (∀ W, Below W1.heap.size W1 W → (W.cell? ⟨w.heap.size, 5, none⟩ = some (.slice (some ⟨bk, ok, none⟩) 2 ck) ∧ W.cell? ⟨bk, ok, none⟩ = some (.int .i64 x.kind) ∧ W.cell? ⟨bk, ok + 1, none⟩ = some (.string x.text) ∧ W.cell? ⟨bk, ok + 2, none⟩ = some (.int .i64 x.n) ∧ W.cell? ⟨bk, ok + 3, none⟩ = some (.slice Ax x.sh.length cax) ∧ W.cell? ⟨bk, ok + 4, none⟩ = some (.slice Bx x.at_.length cbx) ∧ W.cell? ⟨bk, ok + 5, none⟩ = some (.slice Kx x.kids.length ckx) ∧ W.cell? ⟨bk, ok + 7, none⟩ = some (.string y.text)) ∧ Hid (Below W1.heap.size W1 W)) := Lib.hid fun W h => by
      have hx := (h.block _ (heap_lt HX.out.2.1)).trans HX.out.2.1
      obtain ⟨_, a0, a1, a2, a3, a4, a5, b0, b1, b2, b3, b4, b5⟩ := XC.out W (HT.out.2.1.then_ (HX.out.1.then_ h))
      have a9 : W.cell? ⟨w.heap.size, 5, none⟩ = some (.slice (some ⟨bk, ok, none⟩) 2 ck) := by rw [← HKL.out]; exact cell_at hx rfl
      exact ⟨⟨a9, a0, a1, a2, a3, a4, a5, b1⟩, Lib.hid h⟩
    clear hv h9
    unfold tmVal at BOND
    go_enter Tryz.func38, Tryz.ntmps38
    go_upto_region 1 with fail
    rw [← HW1.out]
    go_upto_region 8 with fail
    go_cut [5, 6] from 38 (fun v5 v6 wx => ∃ (g5 : Nat) (P : Option Addr) (p : Nat) (Q : Option Addr) (q : Nat) (R : Option Addr) (r : Nat), v5 = .pointer (some ⟨g5, 0, none⟩) ∧ v6 = .bool b9 ∧ Hid (wx.heap[g5]? = some (.cells (tmCells u9 P p Q q R r) TTm (0, 0)) ∧ TmAt (mask wx w0.heap.size W1.heap.size) u9 P Q R ∧ Below W1.heap.size W1 wx))
    case first =>
      go_region_law (go_simp; go_at_call 79; refine Calls.mono (BOND.out _ (by first | with_reducible exact HA.out | with_reducible exact HB.out)) ?_; rintro e w3 ⟨P, p, Q, q, R, r, rfl, hat3, hb3⟩; first | (with_reducible have hz5 := (hb3.block W1.heap.size HLT.out).trans HNW.out; have c0 := cell_at hz5 (j := 0) rfl; have c1 := cell_at hz5 (j := 1) rfl; have c2 := cell_at hz5 (j := 2) rfl; have c3 := cell_at hz5 (j := 3) rfl; have c4 := cell_at hz5 (j := 4) rfl; have c5 := cell_at hz5 (j := 5) rfl; have f5 := unfrozen hz5; have HB3 := Lib.hid (And.intro hat3 (And.intro hb3 hz5)); clear hz5) | (have HB3 := Lib.hid (And.intro hat3 hb3)))
      all_goals
        clear hat3 hb3
        go_wp2_with fail
        go_meet
        case rel =>
          refine ⟨_, P, p, Q, q, R, r, rfl, rfl, Lib.hid ?_⟩
          first
          | (have h9 := HB3.out.1
             simp at h9
             with_reducible exact boxA (HA.out.then_ HB3.out.2) h9)
          | (have h9 := HB3.out.1
             simp at h9
             with_reducible exact boxB (Nat.le_trans HL0.out HX.out.1.size) HB3.out.2.2 (HB.out.then_ HB3.out.2.1) h9)
    obtain ⟨g5, P, p, Q, q, R, r, rfl, rfl, HC⟩ := hcut
    clear k0 k1 k2 k3 k4 k5 z0 z1 z2 z3 z4 z5 fz hlz hlx hlk x0 x1 x2 x3 x4 x5 y0 y1 y2 y3 y4 y5
    have hx2 := ((HC.out.2.2).block _ (heap_lt HX.out.2.1)).trans HX.out.2.1
    have hz2 := ((HC.out.2.2).block _ (heap_lt HX.out.2.2.1)).trans HX.out.2.2.1
    have k0 : wc.cell? ⟨w.heap.size, 0, none⟩ = some (.int .i64 t.kind) := cell_at hx2 rfl
    have k1 : wc.cell? ⟨w.heap.size, 1, none⟩ = some (.string t.text) := cell_at hx2 rfl
    have k2 : wc.cell? ⟨w.heap.size, 2, none⟩ = some (.int .i64 t.n) := cell_at hx2 rfl
    have k3 : wc.cell? ⟨w.heap.size, 3, none⟩ = some (.slice A t.sh.length ca) := cell_at hx2 rfl
    have k4 : wc.cell? ⟨w.heap.size, 4, none⟩ = some (.slice B t.at_.length cb) := cell_at hx2 rfl
    have k5 : wc.cell? ⟨w.heap.size, 5, none⟩ = some (.slice (some ⟨bk, ok, none⟩) t.kids.length ck) := cell_at hx2 rfl
    have z0 := cell_at hz2 (j := 0) rfl
    have z1 := cell_at hz2 (j := 1) rfl
    have z2 := cell_at hz2 (j := 2) rfl
    have z3 := cell_at hz2 (j := 3) rfl
    have z4 := cell_at hz2 (j := 4) rfl
    have z5 := cell_at hz2 (j := 5) rfl
    have fz := unfrozen hz2
    have hlz := heap_lt hz2
    have hlx := heap_lt hx2
    clear hx2 hz2
    rw [HKL.out] at k5
    obtain ⟨hlk, x0, x1, x2, x3, x4, x5, y0, y1, y2, y3, y4, y5⟩ := XC.out wc (HT.out.2.1.then_ (HX.out.1.then_ (HC.out.2.2)))
    have hg5 := HC.out.1
    have c0 := cell_at hg5 (j := 0) rfl
    have c1 := cell_at hg5 (j := 1) rfl
    have c2 := cell_at hg5 (j := 2) rfl
    have c3 := cell_at hg5 (j := 3) rfl
    have c4 := cell_at hg5 (j := 4) rfl
    have c5 := cell_at hg5 (j := 5) rfl
    have hl5 := heap_lt hg5
    clear hg5
    go_wp2_with fail
    obtain ⟨e1, e2, e3⟩ := doc_six (w := w) (lo := w0.heap.size) (hi := w.heap.size + 2) (u := u9) (P := P) (Q := Q) (R := R) (p := p) (q := q) (r := r) ((HC.out.2.2.block _ (heap_lt HX.out.2.2.1)).trans HX.out.2.2.1) (HX.out.1.then_ HC.out.2.2) HL0.out (Nat.le_succ _) (by omega) (by rw [← HX.out.2.2.2]; exact HC.out.2.1)
    exact bodyPost_ret (results_tm2 (p := 2) (t := 3) rfl rfl e1) rfl ⟨_, _, _, _, _, _, _, (by rw [HR.out]; rfl), fun _ => (by rw [HR.out]), e2, e3⟩
  · have d1 : (y.kind != 20) = true := by simp [hv]
    have HR : Hid (obv t = (tNil, false)) := Lib.hid (by rw [HR0.out]; unfold bondLT; rw [if_pos (Or.inr hv)])
    clear hv
    go_enter Tryz.func38, Tryz.ntmps38
    go_upto_region 1 with fail
    rw [← HW1.out]
    go_wp2_with fail
    refine bodyPost_ret (results_tm2 (p := 2) (t := 3) rfl rfl ((doc_six (w := w) (lo := w0.heap.size) (hi := w.heap.size + 2) (u := tNil) (P := none) (Q := none) (R := none) (p := 0) (q := 0) (r := 0) HX.out.2.2.1 HX.out.1 HL0.out (Nat.le_succ _) (by omega) (nil_at _ _ _ _)).1)) rfl ⟨tNil, none, 0, none, 0, none, 0, (by rw [HR.out]; rfl), fun h => (by rw [HR.out] at h; cases h), ?_⟩
    exact (doc_six (w := w) (lo := w0.heap.size) (hi := w.heap.size + 2) (u := tNil) (P := none) (Q := none) (R := none) (p := 0) (q := 0) (r := 0) HX.out.2.2.1 HX.out.1 HL0.out (Nat.le_succ _) (by omega) (nil_at _ _ _ _)).2
end Go.Proofs.YtkdejffhdhcocaaGreat
