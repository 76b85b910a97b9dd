/- abacusref16: ranks, Ranks. Condition: sizes within reach. -/
import Derived.Test.YtebiojmfieoncaaGreatTeR3
import Derived.Test.YtebiojmfieoncaaGreatTeSt
import Derived.Test.YtebiojmfieoncaaGreatTeD2
namespace Go.Proofs.YtebiojmfieoncaaGreat
open Go.RowKit

set_option maxRecDepth 100000 in
set_option maxHeartbeats 16000000 in
theorem drk_37 (N : Nat) (ih : DRkN N) (t : Tm) (A : Option Addr) (ca : Nat) (B : Option Addr) (cb : Nat) (K : Option Addr) (ck : Nat) (w : World) (hN : cnt t ≤ N + 1) (hat : TmAt w t A B K) (hwf : WfT t) (hgd : goodT false t = true) (hk : t.kind = 37) :
    Calls Tryz.prog 66 #[tmVal t A ca B cb K ck] w fun e w' => e = .returned (r3v (rkT t)) ∧ Below w.heap.size w w' := by
  obtain ⟨W1, hW1⟩ : ∃ W1, W1 = (w.alloc (.cells (tmCells t A ca B cb K ck) TTm)).alloc (.cells #[.int .i64 0, .int .i64 0, .int .i64 0] TR3) := ⟨_, rfl⟩
  have hb1 : Below w.heap.size w W1 := by rw [hW1]; exact ((Below.refl _ _).alloc (Nat.le_refl _) _).alloc (by simp) _
  have hx1 : W1.heap[w.heap.size]? = some (.cells (tmCells t A ca B cb K ck) TTm (0, 0)) := by rw [hW1]; exact (Below.heap_alloc _ _ _ (by simp)).trans (heap_alloc_new w _)
  have hz1 : W1.heap[w.heap.size + 1]? = some (.cells #[.int .i64 0, .int .i64 0, .int .i64 0] TR3 (0, 0)) := by rw [hW1]; exact heap_new2 _ _ _
  have HW1 := Lib.hid hW1
  have H1 := Lib.hid (And.intro hz1 hb1)
  have HT := Lib.hid (And.intro (hat.on hb1) (And.intro hwf (And.intro hgd hN)))
  have IH := Lib.hid ih
  have KC : Hid (∀ W, Below W1.heap.size W1 W → W.cell? ⟨w.heap.size, 0, none⟩ = some (.int .i64 t.kind) ∧ W.cell? ⟨w.heap.size, 1, none⟩ = some (.string t.text) ∧ W.cell? ⟨w.heap.size, 4, none⟩ = some (.slice B t.at_.length cb) ∧ W.cell? ⟨w.heap.size, 5, none⟩ = some (.slice K t.kids.length ck) ∧ w.heap.size < W.heap.size) := Lib.hid fun W h => by
    have hh := (h.block _ (heap_lt hx1)).trans hx1
    exact ⟨cell_at hh rfl, cell_at hh rfl, cell_at hh rfl, cell_at hh rfl, heap_lt hh⟩
  clear hW1 hz1 hb1 hx1
  obtain ⟨k0, k1, k4, k5, kl⟩ := KC.out W1 (Below.refl _ _)
  have hz := H1.out.1
  have z0 := cell_at hz (j := 0) rfl
  have z1 := cell_at hz (j := 1) rfl
  have z2 := cell_at hz (j := 2) rfl
  have fz := unfrozen hz
  have HZ := Lib.hid hz
  clear hz
  obtain ⟨x, y, hks, fx, fy⟩ := two_kids hgd (c := 118) (d := 118) (by rw [hk]; decide) (by omega) (by omega) (by omega)
  obtain ⟨bk, ok, hKe, px⟩ := HT.out.1.kids.get (i := 0) (t := x) (by rw [hks]; rfl)
  obtain ⟨bk', ok', hKe', py⟩ := HT.out.1.kids.get (i := 1) (t := y) (by rw [hks]; rfl)
  rw [hKe] at hKe'
  simp only [Option.some.injEq, Addr.mk.injEq, and_true] at hKe'
  obtain ⟨rfl, rfl⟩ := hKe'
  subst hKe
  rw [Nat.zero_add, Nat.zero_mul, Nat.add_zero] at px
  rw [Nat.zero_add, Nat.one_mul] at py
  have SX : Hid (WfT x ∧ goodT false x = true ∧ cnt x ≤ N) := Lib.hid ⟨hwf.node.each x (by rw [hks]; simp), good_sub hgd (by omega) (i := 0) (by rw [hks]; rfl), by have h1 := cnt_kid (t := t) (i := 0) (k := x) (by rw [hks]; rfl); omega⟩
  obtain ⟨Ax, cax, Bx, cbx, Kx, ckx, xl, x0, x1, x2, x3, x4, x5, hatx⟩ := px.cells
  have HAx := Lib.hid hatx
  have SY : Hid (WfT y ∧ goodT false y = true ∧ cnt y ≤ N) := Lib.hid ⟨hwf.node.each y (by rw [hks]; simp), good_sub hgd (by omega) (i := 1) (by rw [hks]; rfl), by have h1 := cnt_kid (t := t) (i := 1) (k := y) (by rw [hks]; rfl); omega⟩
  obtain ⟨Ay, cay, By, cby, Ky, cky, yl, y0, y1, y2, y3, y4, y5, haty⟩ := py.cells
  have HAy := Lib.hid haty
  have hkl : t.kids.length = 2 := by rw [hks]; rfl
  have HR : Hid (rkT t = ⟨(rkT x).a, (rkT y).b, (rkT y).c⟩) := Lib.hid (by rw [rkT_eq]; unfold rkK; rw [if_neg (by omega)]; rw [if_neg (by omega)]; rw [if_neg (by omega)]; rw [if_neg (by omega)]; rw [if_neg (by omega)]; rw [if_neg (by omega)]; rw [if_neg (by omega)]; rw [if_neg (by omega)]; rw [if_pos (by omega)]; rw [hks]; rfl)
  have kk20 : (t.kind == 20) = false := by rw [hk]; rfl
  have kk28 : (t.kind == 28) = false := by rw [hk]; rfl
  have kk30 : (t.kind == 30) = false := by rw [hk]; rfl
  have kk32 : (t.kind == 32) = false := by rw [hk]; rfl
  have kk39 : (t.kind == 39) = false := by rw [hk]; rfl
  have kk40 : (t.kind == 40) = false := by rw [hk]; rfl
  have kk42 : (t.kind == 42) = false := by rw [hk]; rfl
  have kk27 : (t.kind == 27) = false := by rw [hk]; rfl
  have kk36 : (t.kind == 36) = false := by rw [hk]; rfl
  have kk37 : (t.kind == 37) = true := by rw [hk]; rfl
  rw [hkl] at k5
  have HS1 : Hid (W1.cell? ⟨w.heap.size, 5, none⟩ = some (.slice (some ⟨bk, ok, none⟩) 2 ck) ∧ w.heap.size < W1.heap.size ∧ bk < W1.heap.size ∧ W1.cell? ⟨bk, ok, none⟩ = some (.int .i64 x.kind) ∧ W1.cell? ⟨bk, ok + 1, none⟩ = some (.string x.text) ∧ W1.cell? ⟨bk, ok + 2, none⟩ = some (.int .i64 x.n) ∧ W1.cell? ⟨bk, ok + 3, none⟩ = some (.slice Ax x.sh.length cax) ∧ W1.cell? ⟨bk, ok + 4, none⟩ = some (.slice Bx x.at_.length cbx) ∧ W1.cell? ⟨bk, ok + 5, none⟩ = some (.slice Kx x.kids.length ckx) ∧ W1.cell? ⟨bk, ok + 6, none⟩ = some (.int .i64 y.kind) ∧ W1.cell? ⟨bk, ok + 6 + 1, none⟩ = some (.string y.text) ∧ W1.cell? ⟨bk, ok + 6 + 2, none⟩ = some (.int .i64 y.n) ∧ W1.cell? ⟨bk, ok + 6 + 3, none⟩ = some (.slice Ay y.sh.length cay) ∧ W1.cell? ⟨bk, ok + 6 + 4, none⟩ = some (.slice By y.at_.length cby) ∧ W1.cell? ⟨bk, ok + 6 + 5, none⟩ = some (.slice Ky y.kids.length cky)) := Lib.hid ⟨k5, kl, xl, x0, x1, x2, x3, x4, x5, y0, y1, y2, y3, y4, y5⟩
  clear hgd hwf hN hat ih hk hks hkl px fx hatx py fy haty
  clear x0 x1 x2 x3 x4 x5 y0 y1 y2 y3 y4 y5 xl yl
  have HKW : Hid (∀ W, Below W1.heap.size W1 W → (W.cell? ⟨w.heap.size, 5, none⟩ = some (.slice (some ⟨bk, ok, none⟩) 2 ck) ∧ w.heap.size < W.heap.size ∧ bk < W.heap.size ∧ W.cell? ⟨bk, ok, none⟩ = some (.int .i64 x.kind) ∧ W.cell? ⟨bk, ok + 1, none⟩ = some (.string x.text) ∧ W.cell? ⟨bk, ok + 2, none⟩ = some (.int .i64 x.n) ∧ W.cell? ⟨bk, ok + 3, none⟩ = some (.slice Ax x.sh.length cax) ∧ W.cell? ⟨bk, ok + 4, none⟩ = some (.slice Bx x.at_.length cbx) ∧ W.cell? ⟨bk, ok + 5, none⟩ = some (.slice Kx x.kids.length ckx) ∧ W.cell? ⟨bk, ok + 6, none⟩ = some (.int .i64 y.kind) ∧ W.cell? ⟨bk, ok + 6 + 1, none⟩ = some (.string y.text) ∧ W.cell? ⟨bk, ok + 6 + 2, none⟩ = some (.int .i64 y.n) ∧ W.cell? ⟨bk, ok + 6 + 3, none⟩ = some (.slice Ay y.sh.length cay) ∧ W.cell? ⟨bk, ok + 6 + 4, none⟩ = some (.slice By y.at_.length cby) ∧ W.cell? ⟨bk, ok + 6 + 5, none⟩ = some (.slice Ky y.kids.length cky)) ∧ W.heap[w.heap.size + 1]? = some (.cells #[.int .i64 0, .int .i64 0, .int .i64 0] TR3 (0, 0)) ∧ Below w.heap.size w W) := Lib.hid fun W h => by
    obtain ⟨h5, hl, hbk, x0, x1, x2, x3, x4, x5, y0, y1, y2, y3, y4, y5⟩ := HS1.out
    have key : ∀ g j v, g < W1.heap.size → W1.cell? ⟨g, j, none⟩ = some v → W.cell? ⟨g, j, none⟩ = some v := fun g j v hg hv => (h.cell (p := ⟨g, j, none⟩) hg).trans hv
    exact ⟨⟨key _ _ _ hl h5, Nat.lt_of_lt_of_le hl h.size, Nat.lt_of_lt_of_le hbk h.size, key _ _ _ hbk x0, key _ _ _ hbk x1, key _ _ _ hbk x2, key _ _ _ hbk x3, key _ _ _ hbk x4, key _ _ _ hbk x5, key _ _ _ hbk y0, key _ _ _ hbk y1, key _ _ _ hbk y2, key _ _ _ hbk y3, key _ _ _ hbk y4, key _ _ _ hbk y5⟩, (h.block _ (heap_lt H1.out.1)).trans H1.out.1, H1.out.2.then_ h⟩
  go_enter Tryz.func66, Tryz.ntmps66
  go_upto_region 1 with fail
  rw [← HW1.out]
  go_wp2_with fail
  refine wp_region_held_drew (S := (fun W => W.cell? ⟨w.heap.size, 5, none⟩ = some (.slice (some ⟨bk, ok, none⟩) 2 ck) ∧ w.heap.size < W.heap.size ∧ bk < W.heap.size ∧ W.cell? ⟨bk, ok, none⟩ = some (.int .i64 x.kind) ∧ W.cell? ⟨bk, ok + 1, none⟩ = some (.string x.text) ∧ W.cell? ⟨bk, ok + 2, none⟩ = some (.int .i64 x.n) ∧ W.cell? ⟨bk, ok + 3, none⟩ = some (.slice Ax x.sh.length cax) ∧ W.cell? ⟨bk, ok + 4, none⟩ = some (.slice Bx x.at_.length cbx) ∧ W.cell? ⟨bk, ok + 5, none⟩ = some (.slice Kx x.kids.length ckx) ∧ W.cell? ⟨bk, ok + 6, none⟩ = some (.int .i64 y.kind) ∧ W.cell? ⟨bk, ok + 6 + 1, none⟩ = some (.string y.text) ∧ W.cell? ⟨bk, ok + 6 + 2, none⟩ = some (.int .i64 y.n) ∧ W.cell? ⟨bk, ok + 6 + 3, none⟩ = some (.slice Ay y.sh.length cay) ∧ W.cell? ⟨bk, ok + 6 + 4, none⟩ = some (.slice By y.at_.length cby) ∧ W.cell? ⟨bk, ok + 6 + 5, none⟩ = some (.slice Ky y.kids.length cky))) (by kernel_rfl) (HKW.out _ (Below.refl _ _).drew).1 (fun hHeld => ?_)
  obtain ⟨W0, hW0⟩ : ∃ W0, W0 = W1.drew := ⟨_, rfl⟩
  have HB0 : Hid (Below W1.heap.size W1 W0) := Lib.hid (by rw [hW0]; exact (Below.refl _ _).drew)
  rw [← hW0] at hHeld ⊢
  clear hW0 k0 k1 k4 k5 kl z0 z1 z2 fz HZ
  refine take_still (i := 0) (d := some 131) (v := (.pointer (some ⟨w.heap.size, 5, none⟩))) rfl rfl (by kernel_rfl) (by kernel_rfl) (by kernel_rfl) (fun _ _ _ h => h) (Or.inl ⟨by rfl, ?_⟩) hHeld ?_
  · intro W hSw; obtain ⟨h5, hl, hbk, x0, x1, x2, x3, x4, x5, y0, y1, y2, y3, y4, y5⟩ := hSw; go_simp; try with_reducible rfl
  try simp only [Act.put, List.setIfInBounds_toArray, List.set_cons_zero, List.set_cons_succ]
  refine take_still (i := 1) (d := some 132) (v := (.slice (some ⟨bk, ok, none⟩) 2 ck)) rfl rfl (by kernel_rfl) (by kernel_rfl) (by kernel_rfl) (fun _ _ _ h => h) (Or.inl ⟨by rfl, ?_⟩) hHeld ?_
  · intro W hSw; obtain ⟨h5, hl, hbk, x0, x1, x2, x3, x4, x5, y0, y1, y2, y3, y4, y5⟩ := hSw; go_simp; try with_reducible rfl
  try simp only [Act.put, List.setIfInBounds_toArray, List.set_cons_zero, List.set_cons_succ]
  refine take_still (i := 2) (d := some 133) (v := (.pointer (some ⟨bk, ok, none⟩))) rfl rfl (by kernel_rfl) (by kernel_rfl) (by kernel_rfl) (fun _ _ _ h => h) (Or.inl ⟨by rfl, ?_⟩) hHeld ?_
  · intro W hSw; obtain ⟨h5, hl, hbk, x0, x1, x2, x3, x4, x5, y0, y1, y2, y3, y4, y5⟩ := hSw; go_simp; try with_reducible rfl
  try simp only [Act.put, List.setIfInBounds_toArray, List.set_cons_zero, List.set_cons_succ]
  refine take_still (i := 3) (d := some 134) (v := (tmVal x Ax cax Bx cbx Kx ckx)) rfl rfl (by kernel_rfl) (by kernel_rfl) (by kernel_rfl) (fun _ _ _ h => h) (Or.inl ⟨by rfl, ?_⟩) hHeld ?_
  · intro W hSw; obtain ⟨h5, hl, hbk, x0, x1, x2, x3, x4, x5, y0, y1, y2, y3, y4, y5⟩ := hSw; go_simp; try with_reducible rfl
  try simp only [Act.put, List.setIfInBounds_toArray, List.set_cons_zero, List.set_cons_succ]
  refine take_still (i := 5) (d := some 136) (v := (.pointer (some ⟨w.heap.size, 5, none⟩))) rfl rfl (by kernel_rfl) (by kernel_rfl) (by kernel_rfl) (fun _ _ _ h => h) (Or.inl ⟨by rfl, ?_⟩) hHeld ?_
  · intro W hSw; obtain ⟨h5, hl, hbk, x0, x1, x2, x3, x4, x5, y0, y1, y2, y3, y4, y5⟩ := hSw; go_simp; try with_reducible rfl
  try simp only [Act.put, List.setIfInBounds_toArray, List.set_cons_zero, List.set_cons_succ]
  refine take_still (i := 6) (d := some 137) (v := (.slice (some ⟨bk, ok, none⟩) 2 ck)) rfl rfl (by kernel_rfl) (by kernel_rfl) (by kernel_rfl) (fun _ _ _ h => h) (Or.inl ⟨by rfl, ?_⟩) hHeld ?_
  · intro W hSw; obtain ⟨h5, hl, hbk, x0, x1, x2, x3, x4, x5, y0, y1, y2, y3, y4, y5⟩ := hSw; go_simp; try with_reducible rfl
  try simp only [Act.put, List.setIfInBounds_toArray, List.set_cons_zero, List.set_cons_succ]
  refine take_still (i := 7) (d := some 138) (v := (.pointer (some ⟨bk, ok + 6, none⟩))) rfl rfl (by kernel_rfl) (by kernel_rfl) (by kernel_rfl) (fun _ _ _ h => h) (Or.inl ⟨by rfl, ?_⟩) hHeld ?_
  · intro W hSw; obtain ⟨h5, hl, hbk, x0, x1, x2, x3, x4, x5, y0, y1, y2, y3, y4, y5⟩ := hSw; go_simp; try with_reducible rfl
  try simp only [Act.put, List.setIfInBounds_toArray, List.set_cons_zero, List.set_cons_succ]
  refine take_still (i := 8) (d := some 139) (v := (tmVal y Ay cay By cby Ky cky)) rfl rfl (by kernel_rfl) (by kernel_rfl) (by kernel_rfl) (fun _ _ _ h => h) (Or.inl ⟨by rfl, ?_⟩) hHeld ?_
  · intro W hSw; obtain ⟨h5, hl, hbk, x0, x1, x2, x3, x4, x5, y0, y1, y2, y3, y4, y5⟩ := hSw; go_simp; try with_reducible rfl
  try simp only [Act.put, List.setIfInBounds_toArray, List.set_cons_zero, List.set_cons_succ]
  refine wpAnyH_ready (rs := [4, 10, 11]) (by kernel_rfl) (by simp) ?_
  refine AllReadyH.cons rfl (fun K hK => ?_) ?_
  · go_simp
    go_at_call 66
    refine (IH.out x Ax cax Bx cbx Kx ckx W0 SX.out.2.2 (HAx.out.on HB0.out) SX.out.1 SX.out.2.1).mono ?_
    rintro e V1 ⟨rfl, hb2⟩
    have HV1 := Lib.hid (HB0.out.then_ hb2)
    clear hb2
    refine hK.out _ _ (HKW.out _ HV1.out).1 (fun hHeld => ?_)
    clear hK K
    refine wpAnyH_ready (rs := [9, 10, 11]) (by kernel_rfl) (by simp) ?_
    refine AllReadyH.cons rfl (fun K hK => ?_) ?_
    · go_simp
      go_at_call 66
      refine (IH.out y Ay cay By cby Ky cky V1 SY.out.2.2 (HAy.out.on HV1.out) SY.out.1 SY.out.2.1).mono ?_
      rintro e V2 ⟨rfl, hb2⟩
      have HV2 := Lib.hid (HV1.out.then_ hb2)
      clear hb2
      refine hK.out _ _ (HKW.out _ HV2.out).1 (fun hHeld => ?_)
      clear hK K
      refine wpAnyH_ready (rs := [10, 11]) (by kernel_rfl) (by simp) ?_
      refine AllReadyH.cons rfl (fun K hK => ?_) ?_
      · go_simp
        obtain ⟨V3, hV⟩ : ∃ V, V = V2.alloc (.cells #[.int .i64 0, .int .i64 0, .int .i64 0] TR3) := ⟨_, rfl⟩
        have hb2 : Below V2.heap.size V2 V3 := by rw [hV]; exact (Below.refl _ _).alloc (Nat.le_refl _) _
        have HV3 := Lib.hid (HV2.out.then_ hb2)
        obtain ⟨g8, hg⟩ : ∃ g, g = V2.heap.size := ⟨_, rfl⟩
        have Hg83 : Hid (V3.heap[g8]? = some (.cells #[.int .i64 0, .int .i64 0, .int .i64 0] TR3 (0, 0)) ∧ W1.heap.size ≤ g8) := Lib.hid ⟨by rw [hV, hg]; exact heap_alloc_new V2 _, by rw [hg]; exact HV2.out.size⟩
        rw [← hV, ← hg]
        clear hV hg hb2
        refine hK.out _ _ (HKW.out _ HV3.out).1 (fun hHeld => ?_)
        clear hK K
        refine wpAnyH_ready (rs := [11]) (by kernel_rfl) (by simp) ?_
        refine AllReadyH.cons rfl (fun K hK => ?_) ?_
        · go_simp
          obtain ⟨V4, hV⟩ : ∃ V, V = V3.alloc (.cells #[.int .i64 0, .int .i64 0, .int .i64 0] TR3) := ⟨_, rfl⟩
          have hb2 : Below V3.heap.size V3 V4 := by rw [hV]; exact (Below.refl _ _).alloc (Nat.le_refl _) _
          have HV4 := Lib.hid (HV3.out.then_ hb2)
          have Hg84 : Hid (V4.heap[g8]? = some (.cells #[.int .i64 0, .int .i64 0, .int .i64 0] TR3 (0, 0)) ∧ W1.heap.size ≤ g8) := Lib.hid ⟨(hb2.block _ (heap_lt Hg83.out.1)).trans Hg83.out.1, Hg83.out.2⟩
          obtain ⟨g9, hg⟩ : ∃ g, g = V3.heap.size := ⟨_, rfl⟩
          have Hg94 : Hid (V4.heap[g9]? = some (.cells #[.int .i64 0, .int .i64 0, .int .i64 0] TR3 (0, 0)) ∧ W1.heap.size ≤ g9) := Lib.hid ⟨by rw [hV, hg]; exact heap_alloc_new V3 _, by rw [hg]; exact HV3.out.size⟩
          have HNE : Hid (g8 ≠ g9) := Lib.hid (by have := heap_lt Hg83.out.1; omega)
          rw [← hV, ← hg]
          clear hV hg hb2
          refine hK.out _ _ (HKW.out _ HV4.out).1 (fun hHeld => ?_)
          clear hK K
          have hne := HNE.out
          have hne' := HNE.out.symm
          have h1s := (KC.out W1 (Below.refl _ _)).2.2.2.2
          have hz1 := heap_lt H1.out.1
          have hn1 : w.heap.size + 1 ≠ g8 := fun e => by have h1 := Hg84.out.2; omega
          have hn2 : w.heap.size + 1 ≠ g9 := fun e => by have h1 := Hg94.out.2; omega
          have p0 := cell_at Hg84.out.1 (j := 0) rfl
          have p1 := cell_at Hg84.out.1 (j := 1) rfl
          have p2 := cell_at Hg84.out.1 (j := 2) rfl
          have fp := unfrozen Hg84.out.1
          have q0 := cell_at Hg94.out.1 (j := 0) rfl
          have q1 := cell_at Hg94.out.1 (j := 1) rfl
          have q2 := cell_at Hg94.out.1 (j := 2) rfl
          have fq := unfrozen Hg94.out.1
          refine wpAnyH_ready (rs := [12]) (by kernel_rfl) (by simp) ?_
          refine AllReadyH.cons rfl (fun K hK => ?_) AllReadyH.nil
          go_simp
          obtain ⟨X1, hX⟩ : ∃ X, X = (((V4.setCell ⟨g8, 0, none⟩ (.int .i64 (rkT x).a)).setCell ⟨g8, 1, none⟩ (.int .i64 (rkT x).b)).setCell ⟨g8, 2, none⟩ (.int .i64 (rkT x).c)) := ⟨_, rfl⟩
          have hkX1 : ∀ j, j ≠ g8 → X1.heap[j]? = V4.heap[j]? := fun j hj => by rw [hX, Below.heap_setCell _ _ _ _ hj, Below.heap_setCell _ _ _ _ hj, Below.heap_setCell _ _ _ _ hj]
          have hxX1 : X1.heap[g8]? = some (.cells (r3c (rkT x)) TR3 (0, 0)) := by rw [hX]; exact (three _ _ _ Hg84.out.1 (Below.refl 0 _) (Nat.zero_le _)).1
          have hbX1 : Below W1.heap.size W1 X1 := by rw [hX]; exact ((Below.setCell HV4.out Hg84.out.2 _).setCell Hg84.out.2 _).setCell Hg84.out.2 _
          rw [← hX]
          refine hK.out _ _ (HKW.out _ hbX1).1 (fun hHeld => ?_)
          clear hX hK K p0 p1 p2 fp q0 q1 q2 fq
          have hq := (hkX1 g9 hne').trans Hg94.out.1
          have q0 := cell_at hq (j := 0) rfl
          have q1 := cell_at hq (j := 1) rfl
          have q2 := cell_at hq (j := 2) rfl
          have fq := unfrozen hq
          refine wpAnyH_ready (rs := [13]) (by kernel_rfl) (by simp) ?_
          refine AllReadyH.cons rfl (fun K hK => ?_) AllReadyH.nil
          go_simp
          obtain ⟨X2, hX⟩ : ∃ X, X = (((X1.setCell ⟨g9, 0, none⟩ (.int .i64 (rkT y).a)).setCell ⟨g9, 1, none⟩ (.int .i64 (rkT y).b)).setCell ⟨g9, 2, none⟩ (.int .i64 (rkT y).c)) := ⟨_, rfl⟩
          have hkX2 : ∀ j, j ≠ g9 → X2.heap[j]? = X1.heap[j]? := fun j hj => by rw [hX, Below.heap_setCell _ _ _ _ hj, Below.heap_setCell _ _ _ _ hj, Below.heap_setCell _ _ _ _ hj]
          have hxX2 : X2.heap[g9]? = some (.cells (r3c (rkT y)) TR3 (0, 0)) := by rw [hX]; exact (three _ _ _ hq (Below.refl 0 _) (Nat.zero_le _)).1
          have hbX2 : Below W1.heap.size W1 X2 := by rw [hX]; exact ((Below.setCell hbX1 Hg94.out.2 _).setCell Hg94.out.2 _).setCell Hg94.out.2 _
          rw [← hX]
          refine hK.out _ _ (HKW.out _ hbX2).1 (fun hHeld => ?_)
          clear hX hK K q0 q1 q2 fq
          have hp8 : X2.heap[g8]? = some (.cells (r3c (rkT x)) TR3 (0, 0)) := (hkX2 g8 hne).trans hxX1
          have hz : X2.heap[w.heap.size + 1]? = some (.cells #[.int .i64 0, .int .i64 0, .int .i64 0] TR3 (0, 0)) := (HKW.out _ hbX2).2.1
          have p0 := cell_at hp8 (j := 0) rfl
          have q0 := cell_at hxX2 (j := 0) rfl
          have z0 := cell_at hz (j := 0) rfl
          have p1 := cell_at hp8 (j := 1) rfl
          have q1 := cell_at hxX2 (j := 1) rfl
          have z1 := cell_at hz (j := 1) rfl
          have p2 := cell_at hp8 (j := 2) rfl
          have q2 := cell_at hxX2 (j := 2) rfl
          have z2 := cell_at hz (j := 2) rfl
          have fz := unfrozen hz
          have HZ := Lib.hid (And.intro hz (HKW.out _ hbX2).2.2)
          clear hq hp8 hz hkX1 hkX2 hxX1 hxX2 hbX1 hbX2
          refine wpAnyH_done (by kernel_rfl) ?_ _
          go_wp2_with fail
          obtain ⟨e1, e2⟩ := three (.int .i64 (rkT x).a) (.int .i64 (rkT y).b) (.int .i64 (rkT y).c) HZ.out.1 HZ.out.2 (Nat.le_succ _)
          exact bodyPost_ret (results_r3 (p := 2) rfl rfl e1) rfl ⟨by rw [HR.out], e2⟩
        exact AllReadyH.nil
      refine AllReadyH.cons rfl (fun K hK => ?_) ?_
      · go_simp
        obtain ⟨V5, hV⟩ : ∃ V, V = V2.alloc (.cells #[.int .i64 0, .int .i64 0, .int .i64 0] TR3) := ⟨_, rfl⟩
        have hb2 : Below V2.heap.size V2 V5 := by rw [hV]; exact (Below.refl _ _).alloc (Nat.le_refl _) _
        have HV5 := Lib.hid (HV2.out.then_ hb2)
        obtain ⟨g9, hg⟩ : ∃ g, g = V2.heap.size := ⟨_, rfl⟩
        have Hg95 : Hid (V5.heap[g9]? = some (.cells #[.int .i64 0, .int .i64 0, .int .i64 0] TR3 (0, 0)) ∧ W1.heap.size ≤ g9) := Lib.hid ⟨by rw [hV, hg]; exact heap_alloc_new V2 _, by rw [hg]; exact HV2.out.size⟩
        rw [← hV, ← hg]
        clear hV hg hb2
        refine hK.out _ _ (HKW.out _ HV5.out).1 (fun hHeld => ?_)
        clear hK K
        refine wpAnyH_ready (rs := [10]) (by kernel_rfl) (by simp) ?_
        refine AllReadyH.cons rfl (fun K hK => ?_) ?_
        · go_simp
          obtain ⟨V6, hV⟩ : ∃ V, V = V5.alloc (.cells #[.int .i64 0, .int .i64 0, .int .i64 0] TR3) := ⟨_, rfl⟩
          have hb2 : Below V5.heap.size V5 V6 := by rw [hV]; exact (Below.refl _ _).alloc (Nat.le_refl _) _
          have HV6 := Lib.hid (HV5.out.then_ hb2)
          have Hg96 : Hid (V6.heap[g9]? = some (.cells #[.int .i64 0, .int .i64 0, .int .i64 0] TR3 (0, 0)) ∧ W1.heap.size ≤ g9) := Lib.hid ⟨(hb2.block _ (heap_lt Hg95.out.1)).trans Hg95.out.1, Hg95.out.2⟩
          obtain ⟨g8, hg⟩ : ∃ g, g = V5.heap.size := ⟨_, rfl⟩
          have Hg86 : Hid (V6.heap[g8]? = some (.cells #[.int .i64 0, .int .i64 0, .int .i64 0] TR3 (0, 0)) ∧ W1.heap.size ≤ g8) := Lib.hid ⟨by rw [hV, hg]; exact heap_alloc_new V5 _, by rw [hg]; exact HV5.out.size⟩
          have HNE : Hid (g8 ≠ g9) := Lib.hid (by have := heap_lt Hg95.out.1; omega)
          rw [← hV, ← hg]
          clear hV hg hb2
          refine hK.out _ _ (HKW.out _ HV6.out).1 (fun hHeld => ?_)
          clear hK K
          have hne := HNE.out
          have hne' := HNE.out.symm
          have h1s := (KC.out W1 (Below.refl _ _)).2.2.2.2
          have hz1 := heap_lt H1.out.1
          have hn1 : w.heap.size + 1 ≠ g8 := fun e => by have h1 := Hg86.out.2; omega
          have hn2 : w.heap.size + 1 ≠ g9 := fun e => by have h1 := Hg96.out.2; omega
          have p0 := cell_at Hg86.out.1 (j := 0) rfl
          have p1 := cell_at Hg86.out.1 (j := 1) rfl
          have p2 := cell_at Hg86.out.1 (j := 2) rfl
          have fp := unfrozen Hg86.out.1
          have q0 := cell_at Hg96.out.1 (j := 0) rfl
          have q1 := cell_at Hg96.out.1 (j := 1) rfl
          have q2 := cell_at Hg96.out.1 (j := 2) rfl
          have fq := unfrozen Hg96.out.1
          refine wpAnyH_ready (rs := [12]) (by kernel_rfl) (by simp) ?_
          refine AllReadyH.cons rfl (fun K hK => ?_) AllReadyH.nil
          go_simp
          obtain ⟨X1, hX⟩ : ∃ X, X = (((V6.setCell ⟨g8, 0, none⟩ (.int .i64 (rkT x).a)).setCell ⟨g8, 1, none⟩ (.int .i64 (rkT x).b)).setCell ⟨g8, 2, none⟩ (.int .i64 (rkT x).c)) := ⟨_, rfl⟩
          have hkX1 : ∀ j, j ≠ g8 → X1.heap[j]? = V6.heap[j]? := fun j hj => by rw [hX, Below.heap_setCell _ _ _ _ hj, Below.heap_setCell _ _ _ _ hj, Below.heap_setCell _ _ _ _ hj]
          have hxX1 : X1.heap[g8]? = some (.cells (r3c (rkT x)) TR3 (0, 0)) := by rw [hX]; exact (three _ _ _ Hg86.out.1 (Below.refl 0 _) (Nat.zero_le _)).1
          have hbX1 : Below W1.heap.size W1 X1 := by rw [hX]; exact ((Below.setCell HV6.out Hg86.out.2 _).setCell Hg86.out.2 _).setCell Hg86.out.2 _
          rw [← hX]
          refine hK.out _ _ (HKW.out _ hbX1).1 (fun hHeld => ?_)
          clear hX hK K p0 p1 p2 fp q0 q1 q2 fq
          have hq := (hkX1 g9 hne').trans Hg96.out.1
          have q0 := cell_at hq (j := 0) rfl
          have q1 := cell_at hq (j := 1) rfl
          have q2 := cell_at hq (j := 2) rfl
          have fq := unfrozen hq
          refine wpAnyH_ready (rs := [13]) (by kernel_rfl) (by simp) ?_
          refine AllReadyH.cons rfl (fun K hK => ?_) AllReadyH.nil
          go_simp
          obtain ⟨X2, hX⟩ : ∃ X, X = (((X1.setCell ⟨g9, 0, none⟩ (.int .i64 (rkT y).a)).setCell ⟨g9, 1, none⟩ (.int .i64 (rkT y).b)).setCell ⟨g9, 2, none⟩ (.int .i64 (rkT y).c)) := ⟨_, rfl⟩
          have hkX2 : ∀ j, j ≠ g9 → X2.heap[j]? = X1.heap[j]? := fun j hj => by rw [hX, Below.heap_setCell _ _ _ _ hj, Below.heap_setCell _ _ _ _ hj, Below.heap_setCell _ _ _ _ hj]
          have hxX2 : X2.heap[g9]? = some (.cells (r3c (rkT y)) TR3 (0, 0)) := by rw [hX]; exact (three _ _ _ hq (Below.refl 0 _) (Nat.zero_le _)).1
          have hbX2 : Below W1.heap.size W1 X2 := by rw [hX]; exact ((Below.setCell hbX1 Hg96.out.2 _).setCell Hg96.out.2 _).setCell Hg96.out.2 _
          rw [← hX]
          refine hK.out _ _ (HKW.out _ hbX2).1 (fun hHeld => ?_)
          clear hX hK K q0 q1 q2 fq
          have hp8 : X2.heap[g8]? = some (.cells (r3c (rkT x)) TR3 (0, 0)) := (hkX2 g8 hne).trans hxX1
          have hz : X2.heap[w.heap.size + 1]? = some (.cells #[.int .i64 0, .int .i64 0, .int .i64 0] TR3 (0, 0)) := (HKW.out _ hbX2).2.1
          have p0 := cell_at hp8 (j := 0) rfl
          have q0 := cell_at hxX2 (j := 0) rfl
          have z0 := cell_at hz (j := 0) rfl
          have p1 := cell_at hp8 (j := 1) rfl
          have q1 := cell_at hxX2 (j := 1) rfl
          have z1 := cell_at hz (j := 1) rfl
          have p2 := cell_at hp8 (j := 2) rfl
          have q2 := cell_at hxX2 (j := 2) rfl
          have z2 := cell_at hz (j := 2) rfl
          have fz := unfrozen hz
          have HZ := Lib.hid (And.intro hz (HKW.out _ hbX2).2.2)
          clear hq hp8 hz hkX1 hkX2 hxX1 hxX2 hbX1 hbX2
          refine wpAnyH_done (by kernel_rfl) ?_ _
          go_wp2_with fail
          obtain ⟨e1, e2⟩ := three (.int .i64 (rkT x).a) (.int .i64 (rkT y).b) (.int .i64 (rkT y).c) HZ.out.1 HZ.out.2 (Nat.le_succ _)
          exact bodyPost_ret (results_r3 (p := 2) rfl rfl e1) rfl ⟨by rw [HR.out], e2⟩
        exact AllReadyH.nil
      exact AllReadyH.nil
    refine AllReadyH.cons rfl (fun K hK => ?_) ?_
    · go_simp
      obtain ⟨V7, hV⟩ : ∃ V, V = V1.alloc (.cells #[.int .i64 0, .int .i64 0, .int .i64 0] TR3) := ⟨_, rfl⟩
      have hb2 : Below V1.heap.size V1 V7 := by rw [hV]; exact (Below.refl _ _).alloc (Nat.le_refl _) _
      have HV7 := Lib.hid (HV1.out.then_ hb2)
      obtain ⟨g8, hg⟩ : ∃ g, g = V1.heap.size := ⟨_, rfl⟩
      have Hg87 : Hid (V7.heap[g8]? = some (.cells #[.int .i64 0, .int .i64 0, .int .i64 0] TR3 (0, 0)) ∧ W1.heap.size ≤ g8) := Lib.hid ⟨by rw [hV, hg]; exact heap_alloc_new V1 _, by rw [hg]; exact HV1.out.size⟩
      rw [← hV, ← hg]
      clear hV hg hb2
      refine hK.out _ _ (HKW.out _ HV7.out).1 (fun hHeld => ?_)
      clear hK K
      refine wpAnyH_ready (rs := [9, 11]) (by kernel_rfl) (by simp) ?_
      refine AllReadyH.cons rfl (fun K hK => ?_) ?_
      · go_simp
        go_at_call 66
        refine (IH.out y Ay cay By cby Ky cky V7 SY.out.2.2 (HAy.out.on HV7.out) SY.out.1 SY.out.2.1).mono ?_
        rintro e V8 ⟨rfl, hb2⟩
        have HV8 := Lib.hid (HV7.out.then_ hb2)
        have Hg88 : Hid (V8.heap[g8]? = some (.cells #[.int .i64 0, .int .i64 0, .int .i64 0] TR3 (0, 0)) ∧ W1.heap.size ≤ g8) := Lib.hid ⟨(hb2.block _ (heap_lt Hg87.out.1)).trans Hg87.out.1, Hg87.out.2⟩
        clear hb2
        refine hK.out _ _ (HKW.out _ HV8.out).1 (fun hHeld => ?_)
        clear hK K
        refine wpAnyH_ready (rs := [11]) (by kernel_rfl) (by simp) ?_
        refine AllReadyH.cons rfl (fun K hK => ?_) ?_
        · go_simp
          obtain ⟨V9, hV⟩ : ∃ V, V = V8.alloc (.cells #[.int .i64 0, .int .i64 0, .int .i64 0] TR3) := ⟨_, rfl⟩
          have hb2 : Below V8.heap.size V8 V9 := by rw [hV]; exact (Below.refl _ _).alloc (Nat.le_refl _) _
          have HV9 := Lib.hid (HV8.out.then_ hb2)
          have Hg89 : Hid (V9.heap[g8]? = some (.cells #[.int .i64 0, .int .i64 0, .int .i64 0] TR3 (0, 0)) ∧ W1.heap.size ≤ g8) := Lib.hid ⟨(hb2.block _ (heap_lt Hg88.out.1)).trans Hg88.out.1, Hg88.out.2⟩
          obtain ⟨g9, hg⟩ : ∃ g, g = V8.heap.size := ⟨_, rfl⟩
          have Hg99 : Hid (V9.heap[g9]? = some (.cells #[.int .i64 0, .int .i64 0, .int .i64 0] TR3 (0, 0)) ∧ W1.heap.size ≤ g9) := Lib.hid ⟨by rw [hV, hg]; exact heap_alloc_new V8 _, by rw [hg]; exact HV8.out.size⟩
          have HNE : Hid (g8 ≠ g9) := Lib.hid (by have := heap_lt Hg88.out.1; omega)
          rw [← hV, ← hg]
          clear hV hg hb2
          refine hK.out _ _ (HKW.out _ HV9.out).1 (fun hHeld => ?_)
          clear hK K
          have hne := HNE.out
          have hne' := HNE.out.symm
          have h1s := (KC.out W1 (Below.refl _ _)).2.2.2.2
          have hz1 := heap_lt H1.out.1
          have hn1 : w.heap.size + 1 ≠ g8 := fun e => by have h1 := Hg89.out.2; omega
          have hn2 : w.heap.size + 1 ≠ g9 := fun e => by have h1 := Hg99.out.2; omega
          have p0 := cell_at Hg89.out.1 (j := 0) rfl
          have p1 := cell_at Hg89.out.1 (j := 1) rfl
          have p2 := cell_at Hg89.out.1 (j := 2) rfl
          have fp := unfrozen Hg89.out.1
          have q0 := cell_at Hg99.out.1 (j := 0) rfl
          have q1 := cell_at Hg99.out.1 (j := 1) rfl
          have q2 := cell_at Hg99.out.1 (j := 2) rfl
          have fq := unfrozen Hg99.out.1
          refine wpAnyH_ready (rs := [12]) (by kernel_rfl) (by simp) ?_
          refine AllReadyH.cons rfl (fun K hK => ?_) AllReadyH.nil
          go_simp
          obtain ⟨X1, hX⟩ : ∃ X, X = (((V9.setCell ⟨g8, 0, none⟩ (.int .i64 (rkT x).a)).setCell ⟨g8, 1, none⟩ (.int .i64 (rkT x).b)).setCell ⟨g8, 2, none⟩ (.int .i64 (rkT x).c)) := ⟨_, rfl⟩
          have hkX1 : ∀ j, j ≠ g8 → X1.heap[j]? = V9.heap[j]? := fun j hj => by rw [hX, Below.heap_setCell _ _ _ _ hj, Below.heap_setCell _ _ _ _ hj, Below.heap_setCell _ _ _ _ hj]
          have hxX1 : X1.heap[g8]? = some (.cells (r3c (rkT x)) TR3 (0, 0)) := by rw [hX]; exact (three _ _ _ Hg89.out.1 (Below.refl 0 _) (Nat.zero_le _)).1
          have hbX1 : Below W1.heap.size W1 X1 := by rw [hX]; exact ((Below.setCell HV9.out Hg89.out.2 _).setCell Hg89.out.2 _).setCell Hg89.out.2 _
          rw [← hX]
          refine hK.out _ _ (HKW.out _ hbX1).1 (fun hHeld => ?_)
          clear hX hK K p0 p1 p2 fp q0 q1 q2 fq
          have hq := (hkX1 g9 hne').trans Hg99.out.1
          have q0 := cell_at hq (j := 0) rfl
          have q1 := cell_at hq (j := 1) rfl
          have q2 := cell_at hq (j := 2) rfl
          have fq := unfrozen hq
          refine wpAnyH_ready (rs := [13]) (by kernel_rfl) (by simp) ?_
          refine AllReadyH.cons rfl (fun K hK => ?_) AllReadyH.nil
          go_simp
          obtain ⟨X2, hX⟩ : ∃ X, X = (((X1.setCell ⟨g9, 0, none⟩ (.int .i64 (rkT y).a)).setCell ⟨g9, 1, none⟩ (.int .i64 (rkT y).b)).setCell ⟨g9, 2, none⟩ (.int .i64 (rkT y).c)) := ⟨_, rfl⟩
          have hkX2 : ∀ j, j ≠ g9 → X2.heap[j]? = X1.heap[j]? := fun j hj => by rw [hX, Below.heap_setCell _ _ _ _ hj, Below.heap_setCell _ _ _ _ hj, Below.heap_setCell _ _ _ _ hj]
          have hxX2 : X2.heap[g9]? = some (.cells (r3c (rkT y)) TR3 (0, 0)) := by rw [hX]; exact (three _ _ _ hq (Below.refl 0 _) (Nat.zero_le _)).1
          have hbX2 : Below W1.heap.size W1 X2 := by rw [hX]; exact ((Below.setCell hbX1 Hg99.out.2 _).setCell Hg99.out.2 _).setCell Hg99.out.2 _
          rw [← hX]
          refine hK.out _ _ (HKW.out _ hbX2).1 (fun hHeld => ?_)
          clear hX hK K q0 q1 q2 fq
          have hp8 : X2.heap[g8]? = some (.cells (r3c (rkT x)) TR3 (0, 0)) := (hkX2 g8 hne).trans hxX1
          have hz : X2.heap[w.heap.size + 1]? = some (.cells #[.int .i64 0, .int .i64 0, .int .i64 0] TR3 (0, 0)) := (HKW.out _ hbX2).2.1
          have p0 := cell_at hp8 (j := 0) rfl
          have q0 := cell_at hxX2 (j := 0) rfl
          have z0 := cell_at hz (j := 0) rfl
          have p1 := cell_at hp8 (j := 1) rfl
          have q1 := cell_at hxX2 (j := 1) rfl
          have z1 := cell_at hz (j := 1) rfl
          have p2 := cell_at hp8 (j := 2) rfl
          have q2 := cell_at hxX2 (j := 2) rfl
          have z2 := cell_at hz (j := 2) rfl
          have fz := unfrozen hz
          have HZ := Lib.hid (And.intro hz (HKW.out _ hbX2).2.2)
          clear hq hp8 hz hkX1 hkX2 hxX1 hxX2 hbX1 hbX2
          refine wpAnyH_done (by kernel_rfl) ?_ _
          go_wp2_with fail
          obtain ⟨e1, e2⟩ := three (.int .i64 (rkT x).a) (.int .i64 (rkT y).b) (.int .i64 (rkT y).c) HZ.out.1 HZ.out.2 (Nat.le_succ _)
          exact bodyPost_ret (results_r3 (p := 2) rfl rfl e1) rfl ⟨by rw [HR.out], e2⟩
        exact AllReadyH.nil
      refine AllReadyH.cons rfl (fun K hK => ?_) ?_
      · go_simp
        obtain ⟨V10, hV⟩ : ∃ V, V = V7.alloc (.cells #[.int .i64 0, .int .i64 0, .int .i64 0] TR3) := ⟨_, rfl⟩
        have hb2 : Below V7.heap.size V7 V10 := by rw [hV]; exact (Below.refl _ _).alloc (Nat.le_refl _) _
        have HV10 := Lib.hid (HV7.out.then_ hb2)
        have Hg810 : Hid (V10.heap[g8]? = some (.cells #[.int .i64 0, .int .i64 0, .int .i64 0] TR3 (0, 0)) ∧ W1.heap.size ≤ g8) := Lib.hid ⟨(hb2.block _ (heap_lt Hg87.out.1)).trans Hg87.out.1, Hg87.out.2⟩
        obtain ⟨g9, hg⟩ : ∃ g, g = V7.heap.size := ⟨_, rfl⟩
        have Hg910 : Hid (V10.heap[g9]? = some (.cells #[.int .i64 0, .int .i64 0, .int .i64 0] TR3 (0, 0)) ∧ W1.heap.size ≤ g9) := Lib.hid ⟨by rw [hV, hg]; exact heap_alloc_new V7 _, by rw [hg]; exact HV7.out.size⟩
        have HNE : Hid (g8 ≠ g9) := Lib.hid (by have := heap_lt Hg87.out.1; omega)
        rw [← hV, ← hg]
        clear hV hg hb2
        refine hK.out _ _ (HKW.out _ HV10.out).1 (fun hHeld => ?_)
        clear hK K
        refine wpAnyH_ready (rs := [9]) (by kernel_rfl) (by simp) ?_
        refine AllReadyH.cons rfl (fun K hK => ?_) ?_
        · go_simp
          go_at_call 66
          refine (IH.out y Ay cay By cby Ky cky V10 SY.out.2.2 (HAy.out.on HV10.out) SY.out.1 SY.out.2.1).mono ?_
          rintro e V11 ⟨rfl, hb2⟩
          have HV11 := Lib.hid (HV10.out.then_ hb2)
          have Hg811 : Hid (V11.heap[g8]? = some (.cells #[.int .i64 0, .int .i64 0, .int .i64 0] TR3 (0, 0)) ∧ W1.heap.size ≤ g8) := Lib.hid ⟨(hb2.block _ (heap_lt Hg810.out.1)).trans Hg810.out.1, Hg810.out.2⟩
          have Hg911 : Hid (V11.heap[g9]? = some (.cells #[.int .i64 0, .int .i64 0, .int .i64 0] TR3 (0, 0)) ∧ W1.heap.size ≤ g9) := Lib.hid ⟨(hb2.block _ (heap_lt Hg910.out.1)).trans Hg910.out.1, Hg910.out.2⟩
          clear hb2
          refine hK.out _ _ (HKW.out _ HV11.out).1 (fun hHeld => ?_)
          clear hK K
          have hne := HNE.out
          have hne' := HNE.out.symm
          have h1s := (KC.out W1 (Below.refl _ _)).2.2.2.2
          have hz1 := heap_lt H1.out.1
          have hn1 : w.heap.size + 1 ≠ g8 := fun e => by have h1 := Hg811.out.2; omega
          have hn2 : w.heap.size + 1 ≠ g9 := fun e => by have h1 := Hg911.out.2; omega
          have p0 := cell_at Hg811.out.1 (j := 0) rfl
          have p1 := cell_at Hg811.out.1 (j := 1) rfl
          have p2 := cell_at Hg811.out.1 (j := 2) rfl
          have fp := unfrozen Hg811.out.1
          have q0 := cell_at Hg911.out.1 (j := 0) rfl
          have q1 := cell_at Hg911.out.1 (j := 1) rfl
          have q2 := cell_at Hg911.out.1 (j := 2) rfl
          have fq := unfrozen Hg911.out.1
          refine wpAnyH_ready (rs := [12]) (by kernel_rfl) (by simp) ?_
          refine AllReadyH.cons rfl (fun K hK => ?_) AllReadyH.nil
          go_simp
          obtain ⟨X1, hX⟩ : ∃ X, X = (((V11.setCell ⟨g8, 0, none⟩ (.int .i64 (rkT x).a)).setCell ⟨g8, 1, none⟩ (.int .i64 (rkT x).b)).setCell ⟨g8, 2, none⟩ (.int .i64 (rkT x).c)) := ⟨_, rfl⟩
          have hkX1 : ∀ j, j ≠ g8 → X1.heap[j]? = V11.heap[j]? := fun j hj => by rw [hX, Below.heap_setCell _ _ _ _ hj, Below.heap_setCell _ _ _ _ hj, Below.heap_setCell _ _ _ _ hj]
          have hxX1 : X1.heap[g8]? = some (.cells (r3c (rkT x)) TR3 (0, 0)) := by rw [hX]; exact (three _ _ _ Hg811.out.1 (Below.refl 0 _) (Nat.zero_le _)).1
          have hbX1 : Below W1.heap.size W1 X1 := by rw [hX]; exact ((Below.setCell HV11.out Hg811.out.2 _).setCell Hg811.out.2 _).setCell Hg811.out.2 _
          rw [← hX]
          refine hK.out _ _ (HKW.out _ hbX1).1 (fun hHeld => ?_)
          clear hX hK K p0 p1 p2 fp q0 q1 q2 fq
          have hq := (hkX1 g9 hne').trans Hg911.out.1
          have q0 := cell_at hq (j := 0) rfl
          have q1 := cell_at hq (j := 1) rfl
          have q2 := cell_at hq (j := 2) rfl
          have fq := unfrozen hq
          refine wpAnyH_ready (rs := [13]) (by kernel_rfl) (by simp) ?_
          refine AllReadyH.cons rfl (fun K hK => ?_) AllReadyH.nil
          go_simp
          obtain ⟨X2, hX⟩ : ∃ X, X = (((X1.setCell ⟨g9, 0, none⟩ (.int .i64 (rkT y).a)).setCell ⟨g9, 1, none⟩ (.int .i64 (rkT y).b)).setCell ⟨g9, 2, none⟩ (.int .i64 (rkT y).c)) := ⟨_, rfl⟩
          have hkX2 : ∀ j, j ≠ g9 → X2.heap[j]? = X1.heap[j]? := fun j hj => by rw [hX, Below.heap_setCell _ _ _ _ hj, Below.heap_setCell _ _ _ _ hj, Below.heap_setCell _ _ _ _ hj]
          have hxX2 : X2.heap[g9]? = some (.cells (r3c (rkT y)) TR3 (0, 0)) := by rw [hX]; exact (three _ _ _ hq (Below.refl 0 _) (Nat.zero_le _)).1
          have hbX2 : Below W1.heap.size W1 X2 := by rw [hX]; exact ((Below.setCell hbX1 Hg911.out.2 _).setCell Hg911.out.2 _).setCell Hg911.out.2 _
          rw [← hX]
          refine hK.out _ _ (HKW.out _ hbX2).1 (fun hHeld => ?_)
          clear hX hK K q0 q1 q2 fq
          have hp8 : X2.heap[g8]? = some (.cells (r3c (rkT x)) TR3 (0, 0)) := (hkX2 g8 hne).trans hxX1
          have hz : X2.heap[w.heap.size + 1]? = some (.cells #[.int .i64 0, .int .i64 0, .int .i64 0] TR3 (0, 0)) := (HKW.out _ hbX2).2.1
          have p0 := cell_at hp8 (j := 0) rfl
          have q0 := cell_at hxX2 (j := 0) rfl
          have z0 := cell_at hz (j := 0) rfl
          have p1 := cell_at hp8 (j := 1) rfl
          have q1 := cell_at hxX2 (j := 1) rfl
          have z1 := cell_at hz (j := 1) rfl
          have p2 := cell_at hp8 (j := 2) rfl
          have q2 := cell_at hxX2 (j := 2) rfl
          have z2 := cell_at hz (j := 2) rfl
          have fz := unfrozen hz
          have HZ := Lib.hid (And.intro hz (HKW.out _ hbX2).2.2)
          clear hq hp8 hz hkX1 hkX2 hxX1 hxX2 hbX1 hbX2
          refine wpAnyH_done (by kernel_rfl) ?_ _
          go_wp2_with fail
          obtain ⟨e1, e2⟩ := three (.int .i64 (rkT x).a) (.int .i64 (rkT y).b) (.int .i64 (rkT y).c) HZ.out.1 HZ.out.2 (Nat.le_succ _)
          exact bodyPost_ret (results_r3 (p := 2) rfl rfl e1) rfl ⟨by rw [HR.out], e2⟩
        exact AllReadyH.nil
      exact AllReadyH.nil
    refine AllReadyH.cons rfl (fun K hK => ?_) ?_
    · go_simp
      obtain ⟨V12, hV⟩ : ∃ V, V = V1.alloc (.cells #[.int .i64 0, .int .i64 0, .int .i64 0] TR3) := ⟨_, rfl⟩
      have hb2 : Below V1.heap.size V1 V12 := by rw [hV]; exact (Below.refl _ _).alloc (Nat.le_refl _) _
      have HV12 := Lib.hid (HV1.out.then_ hb2)
      obtain ⟨g9, hg⟩ : ∃ g, g = V1.heap.size := ⟨_, rfl⟩
      have Hg912 : Hid (V12.heap[g9]? = some (.cells #[.int .i64 0, .int .i64 0, .int .i64 0] TR3 (0, 0)) ∧ W1.heap.size ≤ g9) := Lib.hid ⟨by rw [hV, hg]; exact heap_alloc_new V1 _, by rw [hg]; exact HV1.out.size⟩
      rw [← hV, ← hg]
      clear hV hg hb2
      refine hK.out _ _ (HKW.out _ HV12.out).1 (fun hHeld => ?_)
      clear hK K
      refine wpAnyH_ready (rs := [9, 10]) (by kernel_rfl) (by simp) ?_
      refine AllReadyH.cons rfl (fun K hK => ?_) ?_
      · go_simp
        go_at_call 66
        refine (IH.out y Ay cay By cby Ky cky V12 SY.out.2.2 (HAy.out.on HV12.out) SY.out.1 SY.out.2.1).mono ?_
        rintro e V13 ⟨rfl, hb2⟩
        have HV13 := Lib.hid (HV12.out.then_ hb2)
        have Hg913 : Hid (V13.heap[g9]? = some (.cells #[.int .i64 0, .int .i64 0, .int .i64 0] TR3 (0, 0)) ∧ W1.heap.size ≤ g9) := Lib.hid ⟨(hb2.block _ (heap_lt Hg912.out.1)).trans Hg912.out.1, Hg912.out.2⟩
        clear hb2
        refine hK.out _ _ (HKW.out _ HV13.out).1 (fun hHeld => ?_)
        clear hK K
        refine wpAnyH_ready (rs := [10]) (by kernel_rfl) (by simp) ?_
        refine AllReadyH.cons rfl (fun K hK => ?_) ?_
        · go_simp
          obtain ⟨V14, hV⟩ : ∃ V, V = V13.alloc (.cells #[.int .i64 0, .int .i64 0, .int .i64 0] TR3) := ⟨_, rfl⟩
          have hb2 : Below V13.heap.size V13 V14 := by rw [hV]; exact (Below.refl _ _).alloc (Nat.le_refl _) _
          have HV14 := Lib.hid (HV13.out.then_ hb2)
          have Hg914 : Hid (V14.heap[g9]? = some (.cells #[.int .i64 0, .int .i64 0, .int .i64 0] TR3 (0, 0)) ∧ W1.heap.size ≤ g9) := Lib.hid ⟨(hb2.block _ (heap_lt Hg913.out.1)).trans Hg913.out.1, Hg913.out.2⟩
          obtain ⟨g8, hg⟩ : ∃ g, g = V13.heap.size := ⟨_, rfl⟩
          have Hg814 : Hid (V14.heap[g8]? = some (.cells #[.int .i64 0, .int .i64 0, .int .i64 0] TR3 (0, 0)) ∧ W1.heap.size ≤ g8) := Lib.hid ⟨by rw [hV, hg]; exact heap_alloc_new V13 _, by rw [hg]; exact HV13.out.size⟩
          have HNE : Hid (g8 ≠ g9) := Lib.hid (by have := heap_lt Hg913.out.1; omega)
          rw [← hV, ← hg]
          clear hV hg hb2
          refine hK.out _ _ (HKW.out _ HV14.out).1 (fun hHeld => ?_)
          clear hK K
          have hne := HNE.out
          have hne' := HNE.out.symm
          have h1s := (KC.out W1 (Below.refl _ _)).2.2.2.2
          have hz1 := heap_lt H1.out.1
          have hn1 : w.heap.size + 1 ≠ g8 := fun e => by have h1 := Hg814.out.2; omega
          have hn2 : w.heap.size + 1 ≠ g9 := fun e => by have h1 := Hg914.out.2; omega
          have p0 := cell_at Hg814.out.1 (j := 0) rfl
          have p1 := cell_at Hg814.out.1 (j := 1) rfl
          have p2 := cell_at Hg814.out.1 (j := 2) rfl
          have fp := unfrozen Hg814.out.1
          have q0 := cell_at Hg914.out.1 (j := 0) rfl
          have q1 := cell_at Hg914.out.1 (j := 1) rfl
          have q2 := cell_at Hg914.out.1 (j := 2) rfl
          have fq := unfrozen Hg914.out.1
          refine wpAnyH_ready (rs := [12]) (by kernel_rfl) (by simp) ?_
          refine AllReadyH.cons rfl (fun K hK => ?_) AllReadyH.nil
          go_simp
          obtain ⟨X1, hX⟩ : ∃ X, X = (((V14.setCell ⟨g8, 0, none⟩ (.int .i64 (rkT x).a)).setCell ⟨g8, 1, none⟩ (.int .i64 (rkT x).b)).setCell ⟨g8, 2, none⟩ (.int .i64 (rkT x).c)) := ⟨_, rfl⟩
          have hkX1 : ∀ j, j ≠ g8 → X1.heap[j]? = V14.heap[j]? := fun j hj => by rw [hX, Below.heap_setCell _ _ _ _ hj, Below.heap_setCell _ _ _ _ hj, Below.heap_setCell _ _ _ _ hj]
          have hxX1 : X1.heap[g8]? = some (.cells (r3c (rkT x)) TR3 (0, 0)) := by rw [hX]; exact (three _ _ _ Hg814.out.1 (Below.refl 0 _) (Nat.zero_le _)).1
          have hbX1 : Below W1.heap.size W1 X1 := by rw [hX]; exact ((Below.setCell HV14.out Hg814.out.2 _).setCell Hg814.out.2 _).setCell Hg814.out.2 _
          rw [← hX]
          refine hK.out _ _ (HKW.out _ hbX1).1 (fun hHeld => ?_)
          clear hX hK K p0 p1 p2 fp q0 q1 q2 fq
          have hq := (hkX1 g9 hne').trans Hg914.out.1
          have q0 := cell_at hq (j := 0) rfl
          have q1 := cell_at hq (j := 1) rfl
          have q2 := cell_at hq (j := 2) rfl
          have fq := unfrozen hq
          refine wpAnyH_ready (rs := [13]) (by kernel_rfl) (by simp) ?_
          refine AllReadyH.cons rfl (fun K hK => ?_) AllReadyH.nil
          go_simp
          obtain ⟨X2, hX⟩ : ∃ X, X = (((X1.setCell ⟨g9, 0, none⟩ (.int .i64 (rkT y).a)).setCell ⟨g9, 1, none⟩ (.int .i64 (rkT y).b)).setCell ⟨g9, 2, none⟩ (.int .i64 (rkT y).c)) := ⟨_, rfl⟩
          have hkX2 : ∀ j, j ≠ g9 → X2.heap[j]? = X1.heap[j]? := fun j hj => by rw [hX, Below.heap_setCell _ _ _ _ hj, Below.heap_setCell _ _ _ _ hj, Below.heap_setCell _ _ _ _ hj]
          have hxX2 : X2.heap[g9]? = some (.cells (r3c (rkT y)) TR3 (0, 0)) := by rw [hX]; exact (three _ _ _ hq (Below.refl 0 _) (Nat.zero_le _)).1
          have hbX2 : Below W1.heap.size W1 X2 := by rw [hX]; exact ((Below.setCell hbX1 Hg914.out.2 _).setCell Hg914.out.2 _).setCell Hg914.out.2 _
          rw [← hX]
          refine hK.out _ _ (HKW.out _ hbX2).1 (fun hHeld => ?_)
          clear hX hK K q0 q1 q2 fq
          have hp8 : X2.heap[g8]? = some (.cells (r3c (rkT x)) TR3 (0, 0)) := (hkX2 g8 hne).trans hxX1
          have hz : X2.heap[w.heap.size + 1]? = some (.cells #[.int .i64 0, .int .i64 0, .int .i64 0] TR3 (0, 0)) := (HKW.out _ hbX2).2.1
          have p0 := cell_at hp8 (j := 0) rfl
          have q0 := cell_at hxX2 (j := 0) rfl
          have z0 := cell_at hz (j := 0) rfl
          have p1 := cell_at hp8 (j := 1) rfl
          have q1 := cell_at hxX2 (j := 1) rfl
          have z1 := cell_at hz (j := 1) rfl
          have p2 := cell_at hp8 (j := 2) rfl
          have q2 := cell_at hxX2 (j := 2) rfl
          have z2 := cell_at hz (j := 2) rfl
          have fz := unfrozen hz
          have HZ := Lib.hid (And.intro hz (HKW.out _ hbX2).2.2)
          clear hq hp8 hz hkX1 hkX2 hxX1 hxX2 hbX1 hbX2
          refine wpAnyH_done (by kernel_rfl) ?_ _
          go_wp2_with fail
          obtain ⟨e1, e2⟩ := three (.int .i64 (rkT x).a) (.int .i64 (rkT y).b) (.int .i64 (rkT y).c) HZ.out.1 HZ.out.2 (Nat.le_succ _)
          exact bodyPost_ret (results_r3 (p := 2) rfl rfl e1) rfl ⟨by rw [HR.out], e2⟩
        exact AllReadyH.nil
      refine AllReadyH.cons rfl (fun K hK => ?_) ?_
      · go_simp
        obtain ⟨V15, hV⟩ : ∃ V, V = V12.alloc (.cells #[.int .i64 0, .int .i64 0, .int .i64 0] TR3) := ⟨_, rfl⟩
        have hb2 : Below V12.heap.size V12 V15 := by rw [hV]; exact (Below.refl _ _).alloc (Nat.le_refl _) _
        have HV15 := Lib.hid (HV12.out.then_ hb2)
        have Hg915 : Hid (V15.heap[g9]? = some (.cells #[.int .i64 0, .int .i64 0, .int .i64 0] TR3 (0, 0)) ∧ W1.heap.size ≤ g9) := Lib.hid ⟨(hb2.block _ (heap_lt Hg912.out.1)).trans Hg912.out.1, Hg912.out.2⟩
        obtain ⟨g8, hg⟩ : ∃ g, g = V12.heap.size := ⟨_, rfl⟩
        have Hg815 : Hid (V15.heap[g8]? = some (.cells #[.int .i64 0, .int .i64 0, .int .i64 0] TR3 (0, 0)) ∧ W1.heap.size ≤ g8) := Lib.hid ⟨by rw [hV, hg]; exact heap_alloc_new V12 _, by rw [hg]; exact HV12.out.size⟩
        have HNE : Hid (g8 ≠ g9) := Lib.hid (by have := heap_lt Hg912.out.1; omega)
        rw [← hV, ← hg]
        clear hV hg hb2
        refine hK.out _ _ (HKW.out _ HV15.out).1 (fun hHeld => ?_)
        clear hK K
        refine wpAnyH_ready (rs := [9]) (by kernel_rfl) (by simp) ?_
        refine AllReadyH.cons rfl (fun K hK => ?_) ?_
        · go_simp
          go_at_call 66
          refine (IH.out y Ay cay By cby Ky cky V15 SY.out.2.2 (HAy.out.on HV15.out) SY.out.1 SY.out.2.1).mono ?_
          rintro e V16 ⟨rfl, hb2⟩
          have HV16 := Lib.hid (HV15.out.then_ hb2)
          have Hg916 : Hid (V16.heap[g9]? = some (.cells #[.int .i64 0, .int .i64 0, .int .i64 0] TR3 (0, 0)) ∧ W1.heap.size ≤ g9) := Lib.hid ⟨(hb2.block _ (heap_lt Hg915.out.1)).trans Hg915.out.1, Hg915.out.2⟩
          have Hg816 : Hid (V16.heap[g8]? = some (.cells #[.int .i64 0, .int .i64 0, .int .i64 0] TR3 (0, 0)) ∧ W1.heap.size ≤ g8) := Lib.hid ⟨(hb2.block _ (heap_lt Hg815.out.1)).trans Hg815.out.1, Hg815.out.2⟩
          clear hb2
          refine hK.out _ _ (HKW.out _ HV16.out).1 (fun hHeld => ?_)
          clear hK K
          have hne := HNE.out
          have hne' := HNE.out.symm
          have h1s := (KC.out W1 (Below.refl _ _)).2.2.2.2
          have hz1 := heap_lt H1.out.1
          have hn1 : w.heap.size + 1 ≠ g8 := fun e => by have h1 := Hg816.out.2; omega
          have hn2 : w.heap.size + 1 ≠ g9 := fun e => by have h1 := Hg916.out.2; omega
          have p0 := cell_at Hg816.out.1 (j := 0) rfl
          have p1 := cell_at Hg816.out.1 (j := 1) rfl
          have p2 := cell_at Hg816.out.1 (j := 2) rfl
          have fp := unfrozen Hg816.out.1
          have q0 := cell_at Hg916.out.1 (j := 0) rfl
          have q1 := cell_at Hg916.out.1 (j := 1) rfl
          have q2 := cell_at Hg916.out.1 (j := 2) rfl
          have fq := unfrozen Hg916.out.1
          refine wpAnyH_ready (rs := [12]) (by kernel_rfl) (by simp) ?_
          refine AllReadyH.cons rfl (fun K hK => ?_) AllReadyH.nil
          go_simp
          obtain ⟨X1, hX⟩ : ∃ X, X = (((V16.setCell ⟨g8, 0, none⟩ (.int .i64 (rkT x).a)).setCell ⟨g8, 1, none⟩ (.int .i64 (rkT x).b)).setCell ⟨g8, 2, none⟩ (.int .i64 (rkT x).c)) := ⟨_, rfl⟩
          have hkX1 : ∀ j, j ≠ g8 → X1.heap[j]? = V16.heap[j]? := fun j hj => by rw [hX, Below.heap_setCell _ _ _ _ hj, Below.heap_setCell _ _ _ _ hj, Below.heap_setCell _ _ _ _ hj]
          have hxX1 : X1.heap[g8]? = some (.cells (r3c (rkT x)) TR3 (0, 0)) := by rw [hX]; exact (three _ _ _ Hg816.out.1 (Below.refl 0 _) (Nat.zero_le _)).1
          have hbX1 : Below W1.heap.size W1 X1 := by rw [hX]; exact ((Below.setCell HV16.out Hg816.out.2 _).setCell Hg816.out.2 _).setCell Hg816.out.2 _
          rw [← hX]
          refine hK.out _ _ (HKW.out _ hbX1).1 (fun hHeld => ?_)
          clear hX hK K p0 p1 p2 fp q0 q1 q2 fq
          have hq := (hkX1 g9 hne').trans Hg916.out.1
          have q0 := cell_at hq (j := 0) rfl
          have q1 := cell_at hq (j := 1) rfl
          have q2 := cell_at hq (j := 2) rfl
          have fq := unfrozen hq
          refine wpAnyH_ready (rs := [13]) (by kernel_rfl) (by simp) ?_
          refine AllReadyH.cons rfl (fun K hK => ?_) AllReadyH.nil
          go_simp
          obtain ⟨X2, hX⟩ : ∃ X, X = (((X1.setCell ⟨g9, 0, none⟩ (.int .i64 (rkT y).a)).setCell ⟨g9, 1, none⟩ (.int .i64 (rkT y).b)).setCell ⟨g9, 2, none⟩ (.int .i64 (rkT y).c)) := ⟨_, rfl⟩
          have hkX2 : ∀ j, j ≠ g9 → X2.heap[j]? = X1.heap[j]? := fun j hj => by rw [hX, Below.heap_setCell _ _ _ _ hj, Below.heap_setCell _ _ _ _ hj, Below.heap_setCell _ _ _ _ hj]
          have hxX2 : X2.heap[g9]? = some (.cells (r3c (rkT y)) TR3 (0, 0)) := by rw [hX]; exact (three _ _ _ hq (Below.refl 0 _) (Nat.zero_le _)).1
          have hbX2 : Below W1.heap.size W1 X2 := by rw [hX]; exact ((Below.setCell hbX1 Hg916.out.2 _).setCell Hg916.out.2 _).setCell Hg916.out.2 _
          rw [← hX]
          refine hK.out _ _ (HKW.out _ hbX2).1 (fun hHeld => ?_)
          clear hX hK K q0 q1 q2 fq
          have hp8 : X2.heap[g8]? = some (.cells (r3c (rkT x)) TR3 (0, 0)) := (hkX2 g8 hne).trans hxX1
          have hz : X2.heap[w.heap.size + 1]? = some (.cells #[.int .i64 0, .int .i64 0, .int .i64 0] TR3 (0, 0)) := (HKW.out _ hbX2).2.1
          have p0 := cell_at hp8 (j := 0) rfl
          have q0 := cell_at hxX2 (j := 0) rfl
          have z0 := cell_at hz (j := 0) rfl
          have p1 := cell_at hp8 (j := 1) rfl
          have q1 := cell_at hxX2 (j := 1) rfl
          have z1 := cell_at hz (j := 1) rfl
          have p2 := cell_at hp8 (j := 2) rfl
          have q2 := cell_at hxX2 (j := 2) rfl
          have z2 := cell_at hz (j := 2) rfl
          have fz := unfrozen hz
          have HZ := Lib.hid (And.intro hz (HKW.out _ hbX2).2.2)
          clear hq hp8 hz hkX1 hkX2 hxX1 hxX2 hbX1 hbX2
          refine wpAnyH_done (by kernel_rfl) ?_ _
          go_wp2_with fail
          obtain ⟨e1, e2⟩ := three (.int .i64 (rkT x).a) (.int .i64 (rkT y).b) (.int .i64 (rkT y).c) HZ.out.1 HZ.out.2 (Nat.le_succ _)
          exact bodyPost_ret (results_r3 (p := 2) rfl rfl e1) rfl ⟨by rw [HR.out], e2⟩
        exact AllReadyH.nil
      exact AllReadyH.nil
    exact AllReadyH.nil
  refine AllReadyH.cons rfl (fun K hK => ?_) ?_
  · go_simp
    obtain ⟨V17, hV⟩ : ∃ V, V = W0.alloc (.cells #[.int .i64 0, .int .i64 0, .int .i64 0] TR3) := ⟨_, rfl⟩
    have hb2 : Below W0.heap.size W0 V17 := by rw [hV]; exact (Below.refl _ _).alloc (Nat.le_refl _) _
    have HV17 := Lib.hid (HB0.out.then_ hb2)
    obtain ⟨g8, hg⟩ : ∃ g, g = W0.heap.size := ⟨_, rfl⟩
    have Hg817 : Hid (V17.heap[g8]? = some (.cells #[.int .i64 0, .int .i64 0, .int .i64 0] TR3 (0, 0)) ∧ W1.heap.size ≤ g8) := Lib.hid ⟨by rw [hV, hg]; exact heap_alloc_new W0 _, by rw [hg]; exact HB0.out.size⟩
    rw [← hV, ← hg]
    clear hV hg hb2
    refine hK.out _ _ (HKW.out _ HV17.out).1 (fun hHeld => ?_)
    clear hK K
    refine wpAnyH_ready (rs := [4, 11]) (by kernel_rfl) (by simp) ?_
    refine AllReadyH.cons rfl (fun K hK => ?_) ?_
    · go_simp
      go_at_call 66
      refine (IH.out x Ax cax Bx cbx Kx ckx V17 SX.out.2.2 (HAx.out.on HV17.out) SX.out.1 SX.out.2.1).mono ?_
      rintro e V18 ⟨rfl, hb2⟩
      have HV18 := Lib.hid (HV17.out.then_ hb2)
      have Hg818 : Hid (V18.heap[g8]? = some (.cells #[.int .i64 0, .int .i64 0, .int .i64 0] TR3 (0, 0)) ∧ W1.heap.size ≤ g8) := Lib.hid ⟨(hb2.block _ (heap_lt Hg817.out.1)).trans Hg817.out.1, Hg817.out.2⟩
      clear hb2
      refine hK.out _ _ (HKW.out _ HV18.out).1 (fun hHeld => ?_)
      clear hK K
      refine wpAnyH_ready (rs := [9, 11]) (by kernel_rfl) (by simp) ?_
      refine AllReadyH.cons rfl (fun K hK => ?_) ?_
      · go_simp
        go_at_call 66
        refine (IH.out y Ay cay By cby Ky cky V18 SY.out.2.2 (HAy.out.on HV18.out) SY.out.1 SY.out.2.1).mono ?_
        rintro e V19 ⟨rfl, hb2⟩
        have HV19 := Lib.hid (HV18.out.then_ hb2)
        have Hg819 : Hid (V19.heap[g8]? = some (.cells #[.int .i64 0, .int .i64 0, .int .i64 0] TR3 (0, 0)) ∧ W1.heap.size ≤ g8) := Lib.hid ⟨(hb2.block _ (heap_lt Hg818.out.1)).trans Hg818.out.1, Hg818.out.2⟩
        clear hb2
        refine hK.out _ _ (HKW.out _ HV19.out).1 (fun hHeld => ?_)
        clear hK K
        refine wpAnyH_ready (rs := [11]) (by kernel_rfl) (by simp) ?_
        refine AllReadyH.cons rfl (fun K hK => ?_) ?_
        · go_simp
          obtain ⟨V20, hV⟩ : ∃ V, V = V19.alloc (.cells #[.int .i64 0, .int .i64 0, .int .i64 0] TR3) := ⟨_, rfl⟩
          have hb2 : Below V19.heap.size V19 V20 := by rw [hV]; exact (Below.refl _ _).alloc (Nat.le_refl _) _
          have HV20 := Lib.hid (HV19.out.then_ hb2)
          have Hg820 : Hid (V20.heap[g8]? = some (.cells #[.int .i64 0, .int .i64 0, .int .i64 0] TR3 (0, 0)) ∧ W1.heap.size ≤ g8) := Lib.hid ⟨(hb2.block _ (heap_lt Hg819.out.1)).trans Hg819.out.1, Hg819.out.2⟩
          obtain ⟨g9, hg⟩ : ∃ g, g = V19.heap.size := ⟨_, rfl⟩
          have Hg920 : Hid (V20.heap[g9]? = some (.cells #[.int .i64 0, .int .i64 0, .int .i64 0] TR3 (0, 0)) ∧ W1.heap.size ≤ g9) := Lib.hid ⟨by rw [hV, hg]; exact heap_alloc_new V19 _, by rw [hg]; exact HV19.out.size⟩
          have HNE : Hid (g8 ≠ g9) := Lib.hid (by have := heap_lt Hg819.out.1; omega)
          rw [← hV, ← hg]
          clear hV hg hb2
          refine hK.out _ _ (HKW.out _ HV20.out).1 (fun hHeld => ?_)
          clear hK K
          have hne := HNE.out
          have hne' := HNE.out.symm
          have h1s := (KC.out W1 (Below.refl _ _)).2.2.2.2
          have hz1 := heap_lt H1.out.1
          have hn1 : w.heap.size + 1 ≠ g8 := fun e => by have h1 := Hg820.out.2; omega
          have hn2 : w.heap.size + 1 ≠ g9 := fun e => by have h1 := Hg920.out.2; omega
          have p0 := cell_at Hg820.out.1 (j := 0) rfl
          have p1 := cell_at Hg820.out.1 (j := 1) rfl
          have p2 := cell_at Hg820.out.1 (j := 2) rfl
          have fp := unfrozen Hg820.out.1
          have q0 := cell_at Hg920.out.1 (j := 0) rfl
          have q1 := cell_at Hg920.out.1 (j := 1) rfl
          have q2 := cell_at Hg920.out.1 (j := 2) rfl
          have fq := unfrozen Hg920.out.1
          refine wpAnyH_ready (rs := [12]) (by kernel_rfl) (by simp) ?_
          refine AllReadyH.cons rfl (fun K hK => ?_) AllReadyH.nil
          go_simp
          obtain ⟨X1, hX⟩ : ∃ X, X = (((V20.setCell ⟨g8, 0, none⟩ (.int .i64 (rkT x).a)).setCell ⟨g8, 1, none⟩ (.int .i64 (rkT x).b)).setCell ⟨g8, 2, none⟩ (.int .i64 (rkT x).c)) := ⟨_, rfl⟩
          have hkX1 : ∀ j, j ≠ g8 → X1.heap[j]? = V20.heap[j]? := fun j hj => by rw [hX, Below.heap_setCell _ _ _ _ hj, Below.heap_setCell _ _ _ _ hj, Below.heap_setCell _ _ _ _ hj]
          have hxX1 : X1.heap[g8]? = some (.cells (r3c (rkT x)) TR3 (0, 0)) := by rw [hX]; exact (three _ _ _ Hg820.out.1 (Below.refl 0 _) (Nat.zero_le _)).1
          have hbX1 : Below W1.heap.size W1 X1 := by rw [hX]; exact ((Below.setCell HV20.out Hg820.out.2 _).setCell Hg820.out.2 _).setCell Hg820.out.2 _
          rw [← hX]
          refine hK.out _ _ (HKW.out _ hbX1).1 (fun hHeld => ?_)
          clear hX hK K p0 p1 p2 fp q0 q1 q2 fq
          have hq := (hkX1 g9 hne').trans Hg920.out.1
          have q0 := cell_at hq (j := 0) rfl
          have q1 := cell_at hq (j := 1) rfl
          have q2 := cell_at hq (j := 2) rfl
          have fq := unfrozen hq
          refine wpAnyH_ready (rs := [13]) (by kernel_rfl) (by simp) ?_
          refine AllReadyH.cons rfl (fun K hK => ?_) AllReadyH.nil
          go_simp
          obtain ⟨X2, hX⟩ : ∃ X, X = (((X1.setCell ⟨g9, 0, none⟩ (.int .i64 (rkT y).a)).setCell ⟨g9, 1, none⟩ (.int .i64 (rkT y).b)).setCell ⟨g9, 2, none⟩ (.int .i64 (rkT y).c)) := ⟨_, rfl⟩
          have hkX2 : ∀ j, j ≠ g9 → X2.heap[j]? = X1.heap[j]? := fun j hj => by rw [hX, Below.heap_setCell _ _ _ _ hj, Below.heap_setCell _ _ _ _ hj, Below.heap_setCell _ _ _ _ hj]
          have hxX2 : X2.heap[g9]? = some (.cells (r3c (rkT y)) TR3 (0, 0)) := by rw [hX]; exact (three _ _ _ hq (Below.refl 0 _) (Nat.zero_le _)).1
          have hbX2 : Below W1.heap.size W1 X2 := by rw [hX]; exact ((Below.setCell hbX1 Hg920.out.2 _).setCell Hg920.out.2 _).setCell Hg920.out.2 _
          rw [← hX]
          refine hK.out _ _ (HKW.out _ hbX2).1 (fun hHeld => ?_)
          clear hX hK K q0 q1 q2 fq
          have hp8 : X2.heap[g8]? = some (.cells (r3c (rkT x)) TR3 (0, 0)) := (hkX2 g8 hne).trans hxX1
          have hz : X2.heap[w.heap.size + 1]? = some (.cells #[.int .i64 0, .int .i64 0, .int .i64 0] TR3 (0, 0)) := (HKW.out _ hbX2).2.1
          have p0 := cell_at hp8 (j := 0) rfl
          have q0 := cell_at hxX2 (j := 0) rfl
          have z0 := cell_at hz (j := 0) rfl
          have p1 := cell_at hp8 (j := 1) rfl
          have q1 := cell_at hxX2 (j := 1) rfl
          have z1 := cell_at hz (j := 1) rfl
          have p2 := cell_at hp8 (j := 2) rfl
          have q2 := cell_at hxX2 (j := 2) rfl
          have z2 := cell_at hz (j := 2) rfl
          have fz := unfrozen hz
          have HZ := Lib.hid (And.intro hz (HKW.out _ hbX2).2.2)
          clear hq hp8 hz hkX1 hkX2 hxX1 hxX2 hbX1 hbX2
          refine wpAnyH_done (by kernel_rfl) ?_ _
          go_wp2_with fail
          obtain ⟨e1, e2⟩ := three (.int .i64 (rkT x).a) (.int .i64 (rkT y).b) (.int .i64 (rkT y).c) HZ.out.1 HZ.out.2 (Nat.le_succ _)
          exact bodyPost_ret (results_r3 (p := 2) rfl rfl e1) rfl ⟨by rw [HR.out], e2⟩
        exact AllReadyH.nil
      refine AllReadyH.cons rfl (fun K hK => ?_) ?_
      · go_simp
        obtain ⟨V21, hV⟩ : ∃ V, V = V18.alloc (.cells #[.int .i64 0, .int .i64 0, .int .i64 0] TR3) := ⟨_, rfl⟩
        have hb2 : Below V18.heap.size V18 V21 := by rw [hV]; exact (Below.refl _ _).alloc (Nat.le_refl _) _
        have HV21 := Lib.hid (HV18.out.then_ hb2)
        have Hg821 : Hid (V21.heap[g8]? = some (.cells #[.int .i64 0, .int .i64 0, .int .i64 0] TR3 (0, 0)) ∧ W1.heap.size ≤ g8) := Lib.hid ⟨(hb2.block _ (heap_lt Hg818.out.1)).trans Hg818.out.1, Hg818.out.2⟩
        obtain ⟨g9, hg⟩ : ∃ g, g = V18.heap.size := ⟨_, rfl⟩
        have Hg921 : Hid (V21.heap[g9]? = some (.cells #[.int .i64 0, .int .i64 0, .int .i64 0] TR3 (0, 0)) ∧ W1.heap.size ≤ g9) := Lib.hid ⟨by rw [hV, hg]; exact heap_alloc_new V18 _, by rw [hg]; exact HV18.out.size⟩
        have HNE : Hid (g8 ≠ g9) := Lib.hid (by have := heap_lt Hg818.out.1; omega)
        rw [← hV, ← hg]
        clear hV hg hb2
        refine hK.out _ _ (HKW.out _ HV21.out).1 (fun hHeld => ?_)
        clear hK K
        refine wpAnyH_ready (rs := [9]) (by kernel_rfl) (by simp) ?_
        refine AllReadyH.cons rfl (fun K hK => ?_) ?_
        · go_simp
          go_at_call 66
          refine (IH.out y Ay cay By cby Ky cky V21 SY.out.2.2 (HAy.out.on HV21.out) SY.out.1 SY.out.2.1).mono ?_
          rintro e V22 ⟨rfl, hb2⟩
          have HV22 := Lib.hid (HV21.out.then_ hb2)
          have Hg822 : Hid (V22.heap[g8]? = some (.cells #[.int .i64 0, .int .i64 0, .int .i64 0] TR3 (0, 0)) ∧ W1.heap.size ≤ g8) := Lib.hid ⟨(hb2.block _ (heap_lt Hg821.out.1)).trans Hg821.out.1, Hg821.out.2⟩
          have Hg922 : Hid (V22.heap[g9]? = some (.cells #[.int .i64 0, .int .i64 0, .int .i64 0] TR3 (0, 0)) ∧ W1.heap.size ≤ g9) := Lib.hid ⟨(hb2.block _ (heap_lt Hg921.out.1)).trans Hg921.out.1, Hg921.out.2⟩
          clear hb2
          refine hK.out _ _ (HKW.out _ HV22.out).1 (fun hHeld => ?_)
          clear hK K
          have hne := HNE.out
          have hne' := HNE.out.symm
          have h1s := (KC.out W1 (Below.refl _ _)).2.2.2.2
          have hz1 := heap_lt H1.out.1
          have hn1 : w.heap.size + 1 ≠ g8 := fun e => by have h1 := Hg822.out.2; omega
          have hn2 : w.heap.size + 1 ≠ g9 := fun e => by have h1 := Hg922.out.2; omega
          have p0 := cell_at Hg822.out.1 (j := 0) rfl
          have p1 := cell_at Hg822.out.1 (j := 1) rfl
          have p2 := cell_at Hg822.out.1 (j := 2) rfl
          have fp := unfrozen Hg822.out.1
          have q0 := cell_at Hg922.out.1 (j := 0) rfl
          have q1 := cell_at Hg922.out.1 (j := 1) rfl
          have q2 := cell_at Hg922.out.1 (j := 2) rfl
          have fq := unfrozen Hg922.out.1
          refine wpAnyH_ready (rs := [12]) (by kernel_rfl) (by simp) ?_
          refine AllReadyH.cons rfl (fun K hK => ?_) AllReadyH.nil
          go_simp
          obtain ⟨X1, hX⟩ : ∃ X, X = (((V22.setCell ⟨g8, 0, none⟩ (.int .i64 (rkT x).a)).setCell ⟨g8, 1, none⟩ (.int .i64 (rkT x).b)).setCell ⟨g8, 2, none⟩ (.int .i64 (rkT x).c)) := ⟨_, rfl⟩
          have hkX1 : ∀ j, j ≠ g8 → X1.heap[j]? = V22.heap[j]? := fun j hj => by rw [hX, Below.heap_setCell _ _ _ _ hj, Below.heap_setCell _ _ _ _ hj, Below.heap_setCell _ _ _ _ hj]
          have hxX1 : X1.heap[g8]? = some (.cells (r3c (rkT x)) TR3 (0, 0)) := by rw [hX]; exact (three _ _ _ Hg822.out.1 (Below.refl 0 _) (Nat.zero_le _)).1
          have hbX1 : Below W1.heap.size W1 X1 := by rw [hX]; exact ((Below.setCell HV22.out Hg822.out.2 _).setCell Hg822.out.2 _).setCell Hg822.out.2 _
          rw [← hX]
          refine hK.out _ _ (HKW.out _ hbX1).1 (fun hHeld => ?_)
          clear hX hK K p0 p1 p2 fp q0 q1 q2 fq
          have hq := (hkX1 g9 hne').trans Hg922.out.1
          have q0 := cell_at hq (j := 0) rfl
          have q1 := cell_at hq (j := 1) rfl
          have q2 := cell_at hq (j := 2) rfl
          have fq := unfrozen hq
          refine wpAnyH_ready (rs := [13]) (by kernel_rfl) (by simp) ?_
          refine AllReadyH.cons rfl (fun K hK => ?_) AllReadyH.nil
          go_simp
          obtain ⟨X2, hX⟩ : ∃ X, X = (((X1.setCell ⟨g9, 0, none⟩ (.int .i64 (rkT y).a)).setCell ⟨g9, 1, none⟩ (.int .i64 (rkT y).b)).setCell ⟨g9, 2, none⟩ (.int .i64 (rkT y).c)) := ⟨_, rfl⟩
          have hkX2 : ∀ j, j ≠ g9 → X2.heap[j]? = X1.heap[j]? := fun j hj => by rw [hX, Below.heap_setCell _ _ _ _ hj, Below.heap_setCell _ _ _ _ hj, Below.heap_setCell _ _ _ _ hj]
          have hxX2 : X2.heap[g9]? = some (.cells (r3c (rkT y)) TR3 (0, 0)) := by rw [hX]; exact (three _ _ _ hq (Below.refl 0 _) (Nat.zero_le _)).1
          have hbX2 : Below W1.heap.size W1 X2 := by rw [hX]; exact ((Below.setCell hbX1 Hg922.out.2 _).setCell Hg922.out.2 _).setCell Hg922.out.2 _
          rw [← hX]
          refine hK.out _ _ (HKW.out _ hbX2).1 (fun hHeld => ?_)
          clear hX hK K q0 q1 q2 fq
          have hp8 : X2.heap[g8]? = some (.cells (r3c (rkT x)) TR3 (0, 0)) := (hkX2 g8 hne).trans hxX1
          have hz : X2.heap[w.heap.size + 1]? = some (.cells #[.int .i64 0, .int .i64 0, .int .i64 0] TR3 (0, 0)) := (HKW.out _ hbX2).2.1
          have p0 := cell_at hp8 (j := 0) rfl
          have q0 := cell_at hxX2 (j := 0) rfl
          have z0 := cell_at hz (j := 0) rfl
          have p1 := cell_at hp8 (j := 1) rfl
          have q1 := cell_at hxX2 (j := 1) rfl
          have z1 := cell_at hz (j := 1) rfl
          have p2 := cell_at hp8 (j := 2) rfl
          have q2 := cell_at hxX2 (j := 2) rfl
          have z2 := cell_at hz (j := 2) rfl
          have fz := unfrozen hz
          have HZ := Lib.hid (And.intro hz (HKW.out _ hbX2).2.2)
          clear hq hp8 hz hkX1 hkX2 hxX1 hxX2 hbX1 hbX2
          refine wpAnyH_done (by kernel_rfl) ?_ _
          go_wp2_with fail
          obtain ⟨e1, e2⟩ := three (.int .i64 (rkT x).a) (.int .i64 (rkT y).b) (.int .i64 (rkT y).c) HZ.out.1 HZ.out.2 (Nat.le_succ _)
          exact bodyPost_ret (results_r3 (p := 2) rfl rfl e1) rfl ⟨by rw [HR.out], e2⟩
        exact AllReadyH.nil
      exact AllReadyH.nil
    refine AllReadyH.cons rfl (fun K hK => ?_) ?_
    · go_simp
      obtain ⟨V23, hV⟩ : ∃ V, V = V17.alloc (.cells #[.int .i64 0, .int .i64 0, .int .i64 0] TR3) := ⟨_, rfl⟩
      have hb2 : Below V17.heap.size V17 V23 := by rw [hV]; exact (Below.refl _ _).alloc (Nat.le_refl _) _
      have HV23 := Lib.hid (HV17.out.then_ hb2)
      have Hg823 : Hid (V23.heap[g8]? = some (.cells #[.int .i64 0, .int .i64 0, .int .i64 0] TR3 (0, 0)) ∧ W1.heap.size ≤ g8) := Lib.hid ⟨(hb2.block _ (heap_lt Hg817.out.1)).trans Hg817.out.1, Hg817.out.2⟩
      obtain ⟨g9, hg⟩ : ∃ g, g = V17.heap.size := ⟨_, rfl⟩
      have Hg923 : Hid (V23.heap[g9]? = some (.cells #[.int .i64 0, .int .i64 0, .int .i64 0] TR3 (0, 0)) ∧ W1.heap.size ≤ g9) := Lib.hid ⟨by rw [hV, hg]; exact heap_alloc_new V17 _, by rw [hg]; exact HV17.out.size⟩
      have HNE : Hid (g8 ≠ g9) := Lib.hid (by have := heap_lt Hg817.out.1; omega)
      rw [← hV, ← hg]
      clear hV hg hb2
      refine hK.out _ _ (HKW.out _ HV23.out).1 (fun hHeld => ?_)
      clear hK K
      refine wpAnyH_ready (rs := [4]) (by kernel_rfl) (by simp) ?_
      refine AllReadyH.cons rfl (fun K hK => ?_) ?_
      · go_simp
        go_at_call 66
        refine (IH.out x Ax cax Bx cbx Kx ckx V23 SX.out.2.2 (HAx.out.on HV23.out) SX.out.1 SX.out.2.1).mono ?_
        rintro e V24 ⟨rfl, hb2⟩
        have HV24 := Lib.hid (HV23.out.then_ hb2)
        have Hg824 : Hid (V24.heap[g8]? = some (.cells #[.int .i64 0, .int .i64 0, .int .i64 0] TR3 (0, 0)) ∧ W1.heap.size ≤ g8) := Lib.hid ⟨(hb2.block _ (heap_lt Hg823.out.1)).trans Hg823.out.1, Hg823.out.2⟩
        have Hg924 : Hid (V24.heap[g9]? = some (.cells #[.int .i64 0, .int .i64 0, .int .i64 0] TR3 (0, 0)) ∧ W1.heap.size ≤ g9) := Lib.hid ⟨(hb2.block _ (heap_lt Hg923.out.1)).trans Hg923.out.1, Hg923.out.2⟩
        clear hb2
        refine hK.out _ _ (HKW.out _ HV24.out).1 (fun hHeld => ?_)
        clear hK K
        refine wpAnyH_ready (rs := [9]) (by kernel_rfl) (by simp) ?_
        refine AllReadyH.cons rfl (fun K hK => ?_) ?_
        · go_simp
          go_at_call 66
          refine (IH.out y Ay cay By cby Ky cky V24 SY.out.2.2 (HAy.out.on HV24.out) SY.out.1 SY.out.2.1).mono ?_
          rintro e V25 ⟨rfl, hb2⟩
          have HV25 := Lib.hid (HV24.out.then_ hb2)
          have Hg825 : Hid (V25.heap[g8]? = some (.cells #[.int .i64 0, .int .i64 0, .int .i64 0] TR3 (0, 0)) ∧ W1.heap.size ≤ g8) := Lib.hid ⟨(hb2.block _ (heap_lt Hg824.out.1)).trans Hg824.out.1, Hg824.out.2⟩
          have Hg925 : Hid (V25.heap[g9]? = some (.cells #[.int .i64 0, .int .i64 0, .int .i64 0] TR3 (0, 0)) ∧ W1.heap.size ≤ g9) := Lib.hid ⟨(hb2.block _ (heap_lt Hg924.out.1)).trans Hg924.out.1, Hg924.out.2⟩
          clear hb2
          refine hK.out _ _ (HKW.out _ HV25.out).1 (fun hHeld => ?_)
          clear hK K
          have hne := HNE.out
          have hne' := HNE.out.symm
          have h1s := (KC.out W1 (Below.refl _ _)).2.2.2.2
          have hz1 := heap_lt H1.out.1
          have hn1 : w.heap.size + 1 ≠ g8 := fun e => by have h1 := Hg825.out.2; omega
          have hn2 : w.heap.size + 1 ≠ g9 := fun e => by have h1 := Hg925.out.2; omega
          have p0 := cell_at Hg825.out.1 (j := 0) rfl
          have p1 := cell_at Hg825.out.1 (j := 1) rfl
          have p2 := cell_at Hg825.out.1 (j := 2) rfl
          have fp := unfrozen Hg825.out.1
          have q0 := cell_at Hg925.out.1 (j := 0) rfl
          have q1 := cell_at Hg925.out.1 (j := 1) rfl
          have q2 := cell_at Hg925.out.1 (j := 2) rfl
          have fq := unfrozen Hg925.out.1
          refine wpAnyH_ready (rs := [12]) (by kernel_rfl) (by simp) ?_
          refine AllReadyH.cons rfl (fun K hK => ?_) AllReadyH.nil
          go_simp
          obtain ⟨X1, hX⟩ : ∃ X, X = (((V25.setCell ⟨g8, 0, none⟩ (.int .i64 (rkT x).a)).setCell ⟨g8, 1, none⟩ (.int .i64 (rkT x).b)).setCell ⟨g8, 2, none⟩ (.int .i64 (rkT x).c)) := ⟨_, rfl⟩
          have hkX1 : ∀ j, j ≠ g8 → X1.heap[j]? = V25.heap[j]? := fun j hj => by rw [hX, Below.heap_setCell _ _ _ _ hj, Below.heap_setCell _ _ _ _ hj, Below.heap_setCell _ _ _ _ hj]
          have hxX1 : X1.heap[g8]? = some (.cells (r3c (rkT x)) TR3 (0, 0)) := by rw [hX]; exact (three _ _ _ Hg825.out.1 (Below.refl 0 _) (Nat.zero_le _)).1
          have hbX1 : Below W1.heap.size W1 X1 := by rw [hX]; exact ((Below.setCell HV25.out Hg825.out.2 _).setCell Hg825.out.2 _).setCell Hg825.out.2 _
          rw [← hX]
          refine hK.out _ _ (HKW.out _ hbX1).1 (fun hHeld => ?_)
          clear hX hK K p0 p1 p2 fp q0 q1 q2 fq
          have hq := (hkX1 g9 hne').trans Hg925.out.1
          have q0 := cell_at hq (j := 0) rfl
          have q1 := cell_at hq (j := 1) rfl
          have q2 := cell_at hq (j := 2) rfl
          have fq := unfrozen hq
          refine wpAnyH_ready (rs := [13]) (by kernel_rfl) (by simp) ?_
          refine AllReadyH.cons rfl (fun K hK => ?_) AllReadyH.nil
          go_simp
          obtain ⟨X2, hX⟩ : ∃ X, X = (((X1.setCell ⟨g9, 0, none⟩ (.int .i64 (rkT y).a)).setCell ⟨g9, 1, none⟩ (.int .i64 (rkT y).b)).setCell ⟨g9, 2, none⟩ (.int .i64 (rkT y).c)) := ⟨_, rfl⟩
          have hkX2 : ∀ j, j ≠ g9 → X2.heap[j]? = X1.heap[j]? := fun j hj => by rw [hX, Below.heap_setCell _ _ _ _ hj, Below.heap_setCell _ _ _ _ hj, Below.heap_setCell _ _ _ _ hj]
          have hxX2 : X2.heap[g9]? = some (.cells (r3c (rkT y)) TR3 (0, 0)) := by rw [hX]; exact (three _ _ _ hq (Below.refl 0 _) (Nat.zero_le _)).1
          have hbX2 : Below W1.heap.size W1 X2 := by rw [hX]; exact ((Below.setCell hbX1 Hg925.out.2 _).setCell Hg925.out.2 _).setCell Hg925.out.2 _
          rw [← hX]
          refine hK.out _ _ (HKW.out _ hbX2).1 (fun hHeld => ?_)
          clear hX hK K q0 q1 q2 fq
          have hp8 : X2.heap[g8]? = some (.cells (r3c (rkT x)) TR3 (0, 0)) := (hkX2 g8 hne).trans hxX1
          have hz : X2.heap[w.heap.size + 1]? = some (.cells #[.int .i64 0, .int .i64 0, .int .i64 0] TR3 (0, 0)) := (HKW.out _ hbX2).2.1
          have p0 := cell_at hp8 (j := 0) rfl
          have q0 := cell_at hxX2 (j := 0) rfl
          have z0 := cell_at hz (j := 0) rfl
          have p1 := cell_at hp8 (j := 1) rfl
          have q1 := cell_at hxX2 (j := 1) rfl
          have z1 := cell_at hz (j := 1) rfl
          have p2 := cell_at hp8 (j := 2) rfl
          have q2 := cell_at hxX2 (j := 2) rfl
          have z2 := cell_at hz (j := 2) rfl
          have fz := unfrozen hz
          have HZ := Lib.hid (And.intro hz (HKW.out _ hbX2).2.2)
          clear hq hp8 hz hkX1 hkX2 hxX1 hxX2 hbX1 hbX2
          refine wpAnyH_done (by kernel_rfl) ?_ _
          go_wp2_with fail
          obtain ⟨e1, e2⟩ := three (.int .i64 (rkT x).a) (.int .i64 (rkT y).b) (.int .i64 (rkT y).c) HZ.out.1 HZ.out.2 (Nat.le_succ _)
          exact bodyPost_ret (results_r3 (p := 2) rfl rfl e1) rfl ⟨by rw [HR.out], e2⟩
        exact AllReadyH.nil
      exact AllReadyH.nil
    exact AllReadyH.nil
  refine AllReadyH.cons rfl (fun K hK => ?_) ?_
  · go_simp
    obtain ⟨V26, hV⟩ : ∃ V, V = W0.alloc (.cells #[.int .i64 0, .int .i64 0, .int .i64 0] TR3) := ⟨_, rfl⟩
    have hb2 : Below W0.heap.size W0 V26 := by rw [hV]; exact (Below.refl _ _).alloc (Nat.le_refl _) _
    have HV26 := Lib.hid (HB0.out.then_ hb2)
    obtain ⟨g9, hg⟩ : ∃ g, g = W0.heap.size := ⟨_, rfl⟩
    have Hg926 : Hid (V26.heap[g9]? = some (.cells #[.int .i64 0, .int .i64 0, .int .i64 0] TR3 (0, 0)) ∧ W1.heap.size ≤ g9) := Lib.hid ⟨by rw [hV, hg]; exact heap_alloc_new W0 _, by rw [hg]; exact HB0.out.size⟩
    rw [← hV, ← hg]
    clear hV hg hb2
    refine hK.out _ _ (HKW.out _ HV26.out).1 (fun hHeld => ?_)
    clear hK K
    refine wpAnyH_ready (rs := [4, 10]) (by kernel_rfl) (by simp) ?_
    refine AllReadyH.cons rfl (fun K hK => ?_) ?_
    · go_simp
      go_at_call 66
      refine (IH.out x Ax cax Bx cbx Kx ckx V26 SX.out.2.2 (HAx.out.on HV26.out) SX.out.1 SX.out.2.1).mono ?_
      rintro e V27 ⟨rfl, hb2⟩
      have HV27 := Lib.hid (HV26.out.then_ hb2)
      have Hg927 : Hid (V27.heap[g9]? = some (.cells #[.int .i64 0, .int .i64 0, .int .i64 0] TR3 (0, 0)) ∧ W1.heap.size ≤ g9) := Lib.hid ⟨(hb2.block _ (heap_lt Hg926.out.1)).trans Hg926.out.1, Hg926.out.2⟩
      clear hb2
      refine hK.out _ _ (HKW.out _ HV27.out).1 (fun hHeld => ?_)
      clear hK K
      refine wpAnyH_ready (rs := [9, 10]) (by kernel_rfl) (by simp) ?_
      refine AllReadyH.cons rfl (fun K hK => ?_) ?_
      · go_simp
        go_at_call 66
        refine (IH.out y Ay cay By cby Ky cky V27 SY.out.2.2 (HAy.out.on HV27.out) SY.out.1 SY.out.2.1).mono ?_
        rintro e V28 ⟨rfl, hb2⟩
        have HV28 := Lib.hid (HV27.out.then_ hb2)
        have Hg928 : Hid (V28.heap[g9]? = some (.cells #[.int .i64 0, .int .i64 0, .int .i64 0] TR3 (0, 0)) ∧ W1.heap.size ≤ g9) := Lib.hid ⟨(hb2.block _ (heap_lt Hg927.out.1)).trans Hg927.out.1, Hg927.out.2⟩
        clear hb2
        refine hK.out _ _ (HKW.out _ HV28.out).1 (fun hHeld => ?_)
        clear hK K
        refine wpAnyH_ready (rs := [10]) (by kernel_rfl) (by simp) ?_
        refine AllReadyH.cons rfl (fun K hK => ?_) ?_
        · go_simp
          obtain ⟨V29, hV⟩ : ∃ V, V = V28.alloc (.cells #[.int .i64 0, .int .i64 0, .int .i64 0] TR3) := ⟨_, rfl⟩
          have hb2 : Below V28.heap.size V28 V29 := by rw [hV]; exact (Below.refl _ _).alloc (Nat.le_refl _) _
          have HV29 := Lib.hid (HV28.out.then_ hb2)
          have Hg929 : Hid (V29.heap[g9]? = some (.cells #[.int .i64 0, .int .i64 0, .int .i64 0] TR3 (0, 0)) ∧ W1.heap.size ≤ g9) := Lib.hid ⟨(hb2.block _ (heap_lt Hg928.out.1)).trans Hg928.out.1, Hg928.out.2⟩
          obtain ⟨g8, hg⟩ : ∃ g, g = V28.heap.size := ⟨_, rfl⟩
          have Hg829 : Hid (V29.heap[g8]? = some (.cells #[.int .i64 0, .int .i64 0, .int .i64 0] TR3 (0, 0)) ∧ W1.heap.size ≤ g8) := Lib.hid ⟨by rw [hV, hg]; exact heap_alloc_new V28 _, by rw [hg]; exact HV28.out.size⟩
          have HNE : Hid (g8 ≠ g9) := Lib.hid (by have := heap_lt Hg928.out.1; omega)
          rw [← hV, ← hg]
          clear hV hg hb2
          refine hK.out _ _ (HKW.out _ HV29.out).1 (fun hHeld => ?_)
          clear hK K
          have hne := HNE.out
          have hne' := HNE.out.symm
          have h1s := (KC.out W1 (Below.refl _ _)).2.2.2.2
          have hz1 := heap_lt H1.out.1
          have hn1 : w.heap.size + 1 ≠ g8 := fun e => by have h1 := Hg829.out.2; omega
          have hn2 : w.heap.size + 1 ≠ g9 := fun e => by have h1 := Hg929.out.2; omega
          have p0 := cell_at Hg829.out.1 (j := 0) rfl
          have p1 := cell_at Hg829.out.1 (j := 1) rfl
          have p2 := cell_at Hg829.out.1 (j := 2) rfl
          have fp := unfrozen Hg829.out.1
          have q0 := cell_at Hg929.out.1 (j := 0) rfl
          have q1 := cell_at Hg929.out.1 (j := 1) rfl
          have q2 := cell_at Hg929.out.1 (j := 2) rfl
          have fq := unfrozen Hg929.out.1
          refine wpAnyH_ready (rs := [12]) (by kernel_rfl) (by simp) ?_
          refine AllReadyH.cons rfl (fun K hK => ?_) AllReadyH.nil
          go_simp
          obtain ⟨X1, hX⟩ : ∃ X, X = (((V29.setCell ⟨g8, 0, none⟩ (.int .i64 (rkT x).a)).setCell ⟨g8, 1, none⟩ (.int .i64 (rkT x).b)).setCell ⟨g8, 2, none⟩ (.int .i64 (rkT x).c)) := ⟨_, rfl⟩
          have hkX1 : ∀ j, j ≠ g8 → X1.heap[j]? = V29.heap[j]? := fun j hj => by rw [hX, Below.heap_setCell _ _ _ _ hj, Below.heap_setCell _ _ _ _ hj, Below.heap_setCell _ _ _ _ hj]
          have hxX1 : X1.heap[g8]? = some (.cells (r3c (rkT x)) TR3 (0, 0)) := by rw [hX]; exact (three _ _ _ Hg829.out.1 (Below.refl 0 _) (Nat.zero_le _)).1
          have hbX1 : Below W1.heap.size W1 X1 := by rw [hX]; exact ((Below.setCell HV29.out Hg829.out.2 _).setCell Hg829.out.2 _).setCell Hg829.out.2 _
          rw [← hX]
          refine hK.out _ _ (HKW.out _ hbX1).1 (fun hHeld => ?_)
          clear hX hK K p0 p1 p2 fp q0 q1 q2 fq
          have hq := (hkX1 g9 hne').trans Hg929.out.1
          have q0 := cell_at hq (j := 0) rfl
          have q1 := cell_at hq (j := 1) rfl
          have q2 := cell_at hq (j := 2) rfl
          have fq := unfrozen hq
          refine wpAnyH_ready (rs := [13]) (by kernel_rfl) (by simp) ?_
          refine AllReadyH.cons rfl (fun K hK => ?_) AllReadyH.nil
          go_simp
          obtain ⟨X2, hX⟩ : ∃ X, X = (((X1.setCell ⟨g9, 0, none⟩ (.int .i64 (rkT y).a)).setCell ⟨g9, 1, none⟩ (.int .i64 (rkT y).b)).setCell ⟨g9, 2, none⟩ (.int .i64 (rkT y).c)) := ⟨_, rfl⟩
          have hkX2 : ∀ j, j ≠ g9 → X2.heap[j]? = X1.heap[j]? := fun j hj => by rw [hX, Below.heap_setCell _ _ _ _ hj, Below.heap_setCell _ _ _ _ hj, Below.heap_setCell _ _ _ _ hj]
          have hxX2 : X2.heap[g9]? = some (.cells (r3c (rkT y)) TR3 (0, 0)) := by rw [hX]; exact (three _ _ _ hq (Below.refl 0 _) (Nat.zero_le _)).1
          have hbX2 : Below W1.heap.size W1 X2 := by rw [hX]; exact ((Below.setCell hbX1 Hg929.out.2 _).setCell Hg929.out.2 _).setCell Hg929.out.2 _
          rw [← hX]
          refine hK.out _ _ (HKW.out _ hbX2).1 (fun hHeld => ?_)
          clear hX hK K q0 q1 q2 fq
          have hp8 : X2.heap[g8]? = some (.cells (r3c (rkT x)) TR3 (0, 0)) := (hkX2 g8 hne).trans hxX1
          have hz : X2.heap[w.heap.size + 1]? = some (.cells #[.int .i64 0, .int .i64 0, .int .i64 0] TR3 (0, 0)) := (HKW.out _ hbX2).2.1
          have p0 := cell_at hp8 (j := 0) rfl
          have q0 := cell_at hxX2 (j := 0) rfl
          have z0 := cell_at hz (j := 0) rfl
          have p1 := cell_at hp8 (j := 1) rfl
          have q1 := cell_at hxX2 (j := 1) rfl
          have z1 := cell_at hz (j := 1) rfl
          have p2 := cell_at hp8 (j := 2) rfl
          have q2 := cell_at hxX2 (j := 2) rfl
          have z2 := cell_at hz (j := 2) rfl
          have fz := unfrozen hz
          have HZ := Lib.hid (And.intro hz (HKW.out _ hbX2).2.2)
          clear hq hp8 hz hkX1 hkX2 hxX1 hxX2 hbX1 hbX2
          refine wpAnyH_done (by kernel_rfl) ?_ _
          go_wp2_with fail
          obtain ⟨e1, e2⟩ := three (.int .i64 (rkT x).a) (.int .i64 (rkT y).b) (.int .i64 (rkT y).c) HZ.out.1 HZ.out.2 (Nat.le_succ _)
          exact bodyPost_ret (results_r3 (p := 2) rfl rfl e1) rfl ⟨by rw [HR.out], e2⟩
        exact AllReadyH.nil
      refine AllReadyH.cons rfl (fun K hK => ?_) ?_
      · go_simp
        obtain ⟨V30, hV⟩ : ∃ V, V = V27.alloc (.cells #[.int .i64 0, .int .i64 0, .int .i64 0] TR3) := ⟨_, rfl⟩
        have hb2 : Below V27.heap.size V27 V30 := by rw [hV]; exact (Below.refl _ _).alloc (Nat.le_refl _) _
        have HV30 := Lib.hid (HV27.out.then_ hb2)
        have Hg930 : Hid (V30.heap[g9]? = some (.cells #[.int .i64 0, .int .i64 0, .int .i64 0] TR3 (0, 0)) ∧ W1.heap.size ≤ g9) := Lib.hid ⟨(hb2.block _ (heap_lt Hg927.out.1)).trans Hg927.out.1, Hg927.out.2⟩
        obtain ⟨g8, hg⟩ : ∃ g, g = V27.heap.size := ⟨_, rfl⟩
        have Hg830 : Hid (V30.heap[g8]? = some (.cells #[.int .i64 0, .int .i64 0, .int .i64 0] TR3 (0, 0)) ∧ W1.heap.size ≤ g8) := Lib.hid ⟨by rw [hV, hg]; exact heap_alloc_new V27 _, by rw [hg]; exact HV27.out.size⟩
        have HNE : Hid (g8 ≠ g9) := Lib.hid (by have := heap_lt Hg927.out.1; omega)
        rw [← hV, ← hg]
        clear hV hg hb2
        refine hK.out _ _ (HKW.out _ HV30.out).1 (fun hHeld => ?_)
        clear hK K
        refine wpAnyH_ready (rs := [9]) (by kernel_rfl) (by simp) ?_
        refine AllReadyH.cons rfl (fun K hK => ?_) ?_
        · go_simp
          go_at_call 66
          refine (IH.out y Ay cay By cby Ky cky V30 SY.out.2.2 (HAy.out.on HV30.out) SY.out.1 SY.out.2.1).mono ?_
          rintro e V31 ⟨rfl, hb2⟩
          have HV31 := Lib.hid (HV30.out.then_ hb2)
          have Hg931 : Hid (V31.heap[g9]? = some (.cells #[.int .i64 0, .int .i64 0, .int .i64 0] TR3 (0, 0)) ∧ W1.heap.size ≤ g9) := Lib.hid ⟨(hb2.block _ (heap_lt Hg930.out.1)).trans Hg930.out.1, Hg930.out.2⟩
          have Hg831 : Hid (V31.heap[g8]? = some (.cells #[.int .i64 0, .int .i64 0, .int .i64 0] TR3 (0, 0)) ∧ W1.heap.size ≤ g8) := Lib.hid ⟨(hb2.block _ (heap_lt Hg830.out.1)).trans Hg830.out.1, Hg830.out.2⟩
          clear hb2
          refine hK.out _ _ (HKW.out _ HV31.out).1 (fun hHeld => ?_)
          clear hK K
          have hne := HNE.out
          have hne' := HNE.out.symm
          have h1s := (KC.out W1 (Below.refl _ _)).2.2.2.2
          have hz1 := heap_lt H1.out.1
          have hn1 : w.heap.size + 1 ≠ g8 := fun e => by have h1 := Hg831.out.2; omega
          have hn2 : w.heap.size + 1 ≠ g9 := fun e => by have h1 := Hg931.out.2; omega
          have p0 := cell_at Hg831.out.1 (j := 0) rfl
          have p1 := cell_at Hg831.out.1 (j := 1) rfl
          have p2 := cell_at Hg831.out.1 (j := 2) rfl
          have fp := unfrozen Hg831.out.1
          have q0 := cell_at Hg931.out.1 (j := 0) rfl
          have q1 := cell_at Hg931.out.1 (j := 1) rfl
          have q2 := cell_at Hg931.out.1 (j := 2) rfl
          have fq := unfrozen Hg931.out.1
          refine wpAnyH_ready (rs := [12]) (by kernel_rfl) (by simp) ?_
          refine AllReadyH.cons rfl (fun K hK => ?_) AllReadyH.nil
          go_simp
          obtain ⟨X1, hX⟩ : ∃ X, X = (((V31.setCell ⟨g8, 0, none⟩ (.int .i64 (rkT x).a)).setCell ⟨g8, 1, none⟩ (.int .i64 (rkT x).b)).setCell ⟨g8, 2, none⟩ (.int .i64 (rkT x).c)) := ⟨_, rfl⟩
          have hkX1 : ∀ j, j ≠ g8 → X1.heap[j]? = V31.heap[j]? := fun j hj => by rw [hX, Below.heap_setCell _ _ _ _ hj, Below.heap_setCell _ _ _ _ hj, Below.heap_setCell _ _ _ _ hj]
          have hxX1 : X1.heap[g8]? = some (.cells (r3c (rkT x)) TR3 (0, 0)) := by rw [hX]; exact (three _ _ _ Hg831.out.1 (Below.refl 0 _) (Nat.zero_le _)).1
          have hbX1 : Below W1.heap.size W1 X1 := by rw [hX]; exact ((Below.setCell HV31.out Hg831.out.2 _).setCell Hg831.out.2 _).setCell Hg831.out.2 _
          rw [← hX]
          refine hK.out _ _ (HKW.out _ hbX1).1 (fun hHeld => ?_)
          clear hX hK K p0 p1 p2 fp q0 q1 q2 fq
          have hq := (hkX1 g9 hne').trans Hg931.out.1
          have q0 := cell_at hq (j := 0) rfl
          have q1 := cell_at hq (j := 1) rfl
          have q2 := cell_at hq (j := 2) rfl
          have fq := unfrozen hq
          refine wpAnyH_ready (rs := [13]) (by kernel_rfl) (by simp) ?_
          refine AllReadyH.cons rfl (fun K hK => ?_) AllReadyH.nil
          go_simp
          obtain ⟨X2, hX⟩ : ∃ X, X = (((X1.setCell ⟨g9, 0, none⟩ (.int .i64 (rkT y).a)).setCell ⟨g9, 1, none⟩ (.int .i64 (rkT y).b)).setCell ⟨g9, 2, none⟩ (.int .i64 (rkT y).c)) := ⟨_, rfl⟩
          have hkX2 : ∀ j, j ≠ g9 → X2.heap[j]? = X1.heap[j]? := fun j hj => by rw [hX, Below.heap_setCell _ _ _ _ hj, Below.heap_setCell _ _ _ _ hj, Below.heap_setCell _ _ _ _ hj]
          have hxX2 : X2.heap[g9]? = some (.cells (r3c (rkT y)) TR3 (0, 0)) := by rw [hX]; exact (three _ _ _ hq (Below.refl 0 _) (Nat.zero_le _)).1
          have hbX2 : Below W1.heap.size W1 X2 := by rw [hX]; exact ((Below.setCell hbX1 Hg931.out.2 _).setCell Hg931.out.2 _).setCell Hg931.out.2 _
          rw [← hX]
          refine hK.out _ _ (HKW.out _ hbX2).1 (fun hHeld => ?_)
          clear hX hK K q0 q1 q2 fq
          have hp8 : X2.heap[g8]? = some (.cells (r3c (rkT x)) TR3 (0, 0)) := (hkX2 g8 hne).trans hxX1
          have hz : X2.heap[w.heap.size + 1]? = some (.cells #[.int .i64 0, .int .i64 0, .int .i64 0] TR3 (0, 0)) := (HKW.out _ hbX2).2.1
          have p0 := cell_at hp8 (j := 0) rfl
          have q0 := cell_at hxX2 (j := 0) rfl
          have z0 := cell_at hz (j := 0) rfl
          have p1 := cell_at hp8 (j := 1) rfl
          have q1 := cell_at hxX2 (j := 1) rfl
          have z1 := cell_at hz (j := 1) rfl
          have p2 := cell_at hp8 (j := 2) rfl
          have q2 := cell_at hxX2 (j := 2) rfl
          have z2 := cell_at hz (j := 2) rfl
          have fz := unfrozen hz
          have HZ := Lib.hid (And.intro hz (HKW.out _ hbX2).2.2)
          clear hq hp8 hz hkX1 hkX2 hxX1 hxX2 hbX1 hbX2
          refine wpAnyH_done (by kernel_rfl) ?_ _
          go_wp2_with fail
          obtain ⟨e1, e2⟩ := three (.int .i64 (rkT x).a) (.int .i64 (rkT y).b) (.int .i64 (rkT y).c) HZ.out.1 HZ.out.2 (Nat.le_succ _)
          exact bodyPost_ret (results_r3 (p := 2) rfl rfl e1) rfl ⟨by rw [HR.out], e2⟩
        exact AllReadyH.nil
      exact AllReadyH.nil
    refine AllReadyH.cons rfl (fun K hK => ?_) ?_
    · go_simp
      obtain ⟨V32, hV⟩ : ∃ V, V = V26.alloc (.cells #[.int .i64 0, .int .i64 0, .int .i64 0] TR3) := ⟨_, rfl⟩
      have hb2 : Below V26.heap.size V26 V32 := by rw [hV]; exact (Below.refl _ _).alloc (Nat.le_refl _) _
      have HV32 := Lib.hid (HV26.out.then_ hb2)
      have Hg932 : Hid (V32.heap[g9]? = some (.cells #[.int .i64 0, .int .i64 0, .int .i64 0] TR3 (0, 0)) ∧ W1.heap.size ≤ g9) := Lib.hid ⟨(hb2.block _ (heap_lt Hg926.out.1)).trans Hg926.out.1, Hg926.out.2⟩
      obtain ⟨g8, hg⟩ : ∃ g, g = V26.heap.size := ⟨_, rfl⟩
      have Hg832 : Hid (V32.heap[g8]? = some (.cells #[.int .i64 0, .int .i64 0, .int .i64 0] TR3 (0, 0)) ∧ W1.heap.size ≤ g8) := Lib.hid ⟨by rw [hV, hg]; exact heap_alloc_new V26 _, by rw [hg]; exact HV26.out.size⟩
      have HNE : Hid (g8 ≠ g9) := Lib.hid (by have := heap_lt Hg926.out.1; omega)
      rw [← hV, ← hg]
      clear hV hg hb2
      refine hK.out _ _ (HKW.out _ HV32.out).1 (fun hHeld => ?_)
      clear hK K
      refine wpAnyH_ready (rs := [4]) (by kernel_rfl) (by simp) ?_
      refine AllReadyH.cons rfl (fun K hK => ?_) ?_
      · go_simp
        go_at_call 66
        refine (IH.out x Ax cax Bx cbx Kx ckx V32 SX.out.2.2 (HAx.out.on HV32.out) SX.out.1 SX.out.2.1).mono ?_
        rintro e V33 ⟨rfl, hb2⟩
        have HV33 := Lib.hid (HV32.out.then_ hb2)
        have Hg933 : Hid (V33.heap[g9]? = some (.cells #[.int .i64 0, .int .i64 0, .int .i64 0] TR3 (0, 0)) ∧ W1.heap.size ≤ g9) := Lib.hid ⟨(hb2.block _ (heap_lt Hg932.out.1)).trans Hg932.out.1, Hg932.out.2⟩
        have Hg833 : Hid (V33.heap[g8]? = some (.cells #[.int .i64 0, .int .i64 0, .int .i64 0] TR3 (0, 0)) ∧ W1.heap.size ≤ g8) := Lib.hid ⟨(hb2.block _ (heap_lt Hg832.out.1)).trans Hg832.out.1, Hg832.out.2⟩
        clear hb2
        refine hK.out _ _ (HKW.out _ HV33.out).1 (fun hHeld => ?_)
        clear hK K
        refine wpAnyH_ready (rs := [9]) (by kernel_rfl) (by simp) ?_
        refine AllReadyH.cons rfl (fun K hK => ?_) ?_
        · go_simp
          go_at_call 66
          refine (IH.out y Ay cay By cby Ky cky V33 SY.out.2.2 (HAy.out.on HV33.out) SY.out.1 SY.out.2.1).mono ?_
          rintro e V34 ⟨rfl, hb2⟩
          have HV34 := Lib.hid (HV33.out.then_ hb2)
          have Hg934 : Hid (V34.heap[g9]? = some (.cells #[.int .i64 0, .int .i64 0, .int .i64 0] TR3 (0, 0)) ∧ W1.heap.size ≤ g9) := Lib.hid ⟨(hb2.block _ (heap_lt Hg933.out.1)).trans Hg933.out.1, Hg933.out.2⟩
          have Hg834 : Hid (V34.heap[g8]? = some (.cells #[.int .i64 0, .int .i64 0, .int .i64 0] TR3 (0, 0)) ∧ W1.heap.size ≤ g8) := Lib.hid ⟨(hb2.block _ (heap_lt Hg833.out.1)).trans Hg833.out.1, Hg833.out.2⟩
          clear hb2
          refine hK.out _ _ (HKW.out _ HV34.out).1 (fun hHeld => ?_)
          clear hK K
          have hne := HNE.out
          have hne' := HNE.out.symm
          have h1s := (KC.out W1 (Below.refl _ _)).2.2.2.2
          have hz1 := heap_lt H1.out.1
          have hn1 : w.heap.size + 1 ≠ g8 := fun e => by have h1 := Hg834.out.2; omega
          have hn2 : w.heap.size + 1 ≠ g9 := fun e => by have h1 := Hg934.out.2; omega
          have p0 := cell_at Hg834.out.1 (j := 0) rfl
          have p1 := cell_at Hg834.out.1 (j := 1) rfl
          have p2 := cell_at Hg834.out.1 (j := 2) rfl
          have fp := unfrozen Hg834.out.1
          have q0 := cell_at Hg934.out.1 (j := 0) rfl
          have q1 := cell_at Hg934.out.1 (j := 1) rfl
          have q2 := cell_at Hg934.out.1 (j := 2) rfl
          have fq := unfrozen Hg934.out.1
          refine wpAnyH_ready (rs := [12]) (by kernel_rfl) (by simp) ?_
          refine AllReadyH.cons rfl (fun K hK => ?_) AllReadyH.nil
          go_simp
          obtain ⟨X1, hX⟩ : ∃ X, X = (((V34.setCell ⟨g8, 0, none⟩ (.int .i64 (rkT x).a)).setCell ⟨g8, 1, none⟩ (.int .i64 (rkT x).b)).setCell ⟨g8, 2, none⟩ (.int .i64 (rkT x).c)) := ⟨_, rfl⟩
          have hkX1 : ∀ j, j ≠ g8 → X1.heap[j]? = V34.heap[j]? := fun j hj => by rw [hX, Below.heap_setCell _ _ _ _ hj, Below.heap_setCell _ _ _ _ hj, Below.heap_setCell _ _ _ _ hj]
          have hxX1 : X1.heap[g8]? = some (.cells (r3c (rkT x)) TR3 (0, 0)) := by rw [hX]; exact (three _ _ _ Hg834.out.1 (Below.refl 0 _) (Nat.zero_le _)).1
          have hbX1 : Below W1.heap.size W1 X1 := by rw [hX]; exact ((Below.setCell HV34.out Hg834.out.2 _).setCell Hg834.out.2 _).setCell Hg834.out.2 _
          rw [← hX]
          refine hK.out _ _ (HKW.out _ hbX1).1 (fun hHeld => ?_)
          clear hX hK K p0 p1 p2 fp q0 q1 q2 fq
          have hq := (hkX1 g9 hne').trans Hg934.out.1
          have q0 := cell_at hq (j := 0) rfl
          have q1 := cell_at hq (j := 1) rfl
          have q2 := cell_at hq (j := 2) rfl
          have fq := unfrozen hq
          refine wpAnyH_ready (rs := [13]) (by kernel_rfl) (by simp) ?_
          refine AllReadyH.cons rfl (fun K hK => ?_) AllReadyH.nil
          go_simp
          obtain ⟨X2, hX⟩ : ∃ X, X = (((X1.setCell ⟨g9, 0, none⟩ (.int .i64 (rkT y).a)).setCell ⟨g9, 1, none⟩ (.int .i64 (rkT y).b)).setCell ⟨g9, 2, none⟩ (.int .i64 (rkT y).c)) := ⟨_, rfl⟩
          have hkX2 : ∀ j, j ≠ g9 → X2.heap[j]? = X1.heap[j]? := fun j hj => by rw [hX, Below.heap_setCell _ _ _ _ hj, Below.heap_setCell _ _ _ _ hj, Below.heap_setCell _ _ _ _ hj]
          have hxX2 : X2.heap[g9]? = some (.cells (r3c (rkT y)) TR3 (0, 0)) := by rw [hX]; exact (three _ _ _ hq (Below.refl 0 _) (Nat.zero_le _)).1
          have hbX2 : Below W1.heap.size W1 X2 := by rw [hX]; exact ((Below.setCell hbX1 Hg934.out.2 _).setCell Hg934.out.2 _).setCell Hg934.out.2 _
          rw [← hX]
          refine hK.out _ _ (HKW.out _ hbX2).1 (fun hHeld => ?_)
          clear hX hK K q0 q1 q2 fq
          have hp8 : X2.heap[g8]? = some (.cells (r3c (rkT x)) TR3 (0, 0)) := (hkX2 g8 hne).trans hxX1
          have hz : X2.heap[w.heap.size + 1]? = some (.cells #[.int .i64 0, .int .i64 0, .int .i64 0] TR3 (0, 0)) := (HKW.out _ hbX2).2.1
          have p0 := cell_at hp8 (j := 0) rfl
          have q0 := cell_at hxX2 (j := 0) rfl
          have z0 := cell_at hz (j := 0) rfl
          have p1 := cell_at hp8 (j := 1) rfl
          have q1 := cell_at hxX2 (j := 1) rfl
          have z1 := cell_at hz (j := 1) rfl
          have p2 := cell_at hp8 (j := 2) rfl
          have q2 := cell_at hxX2 (j := 2) rfl
          have z2 := cell_at hz (j := 2) rfl
          have fz := unfrozen hz
          have HZ := Lib.hid (And.intro hz (HKW.out _ hbX2).2.2)
          clear hq hp8 hz hkX1 hkX2 hxX1 hxX2 hbX1 hbX2
          refine wpAnyH_done (by kernel_rfl) ?_ _
          go_wp2_with fail
          obtain ⟨e1, e2⟩ := three (.int .i64 (rkT x).a) (.int .i64 (rkT y).b) (.int .i64 (rkT y).c) HZ.out.1 HZ.out.2 (Nat.le_succ _)
          exact bodyPost_ret (results_r3 (p := 2) rfl rfl e1) rfl ⟨by rw [HR.out], e2⟩
        exact AllReadyH.nil
      exact AllReadyH.nil
    exact AllReadyH.nil
  exact AllReadyH.nil
theorem drk_any (N : Nat) : DRkN N := by
  induction N with
  | zero => intro t A ca B cb K ck w h; have := cnt_pos t; omega
  | succ N ih =>
    intro t A ca B cb K ck w hN hat hwf hgd
    have kd : t.kind = 20 ∨ t.kind = 28 ∨ t.kind = 30 ∨ t.kind = 32 ∨ t.kind = 39 ∨ t.kind = 40 ∨ t.kind = 42 ∨ t.kind = 27 ∨ t.kind = 36 ∨ t.kind = 37 ∨ (¬ t.kind = 20 ∧ ¬ t.kind = 28 ∧ ¬ t.kind = 30 ∧ ¬ t.kind = 32 ∧ ¬ t.kind = 39 ∧ ¬ t.kind = 40 ∧ ¬ t.kind = 42 ∧ ¬ t.kind = 27 ∧ ¬ t.kind = 36 ∧ ¬ t.kind = 37) := by omega
    rcases kd with hk | hk | hk | hk | hk | hk | hk | hk | hk | hk | hk
    · exact drk_20 N ih t A ca B cb K ck w hN hat hwf hgd hk
    · exact drk_28 N ih t A ca B cb K ck w hN hat hwf hgd hk
    · exact drk_30 N ih t A ca B cb K ck w hN hat hwf hgd hk
    · exact drk_32 N ih t A ca B cb K ck w hN hat hwf hgd hk
    · exact drk_39 N ih t A ca B cb K ck w hN hat hwf hgd hk
    · exact drk_40 N ih t A ca B cb K ck w hN hat hwf hgd hk
    · exact drk_42 N ih t A ca B cb K ck w hN hat hwf hgd hk
    · exact drk_27 N ih t A ca B cb K ck w hN hat hwf hgd hk
    · exact drk_36 N ih t A ca B cb K ck w hN hat hwf hgd hk
    · exact drk_37 N ih t A ca B cb K ck w hN hat hwf hgd hk
    · exact drk_no N ih t A ca B cb K ck w hN hat hwf hgd hk
set_option maxRecDepth 100000 in
set_option maxHeartbeats 8000000 in
theorem dranks_any (t : Tm) (A : Option Addr) (ca : Nat) (B : Option Addr) (cb : Nat) (K : Option Addr) (ck : Nat) (w : World) (hat : TmAt w t A B K) (hwf : WfT t) :
    Calls Tryz.prog 27 #[tmVal t A ca B cb K ck] w fun e w' => e = .returned (.tuple #[r3v (ranksT t).1, .int .i64 (ranksT t).2]) ∧ Below w.heap.size w w' := by
  obtain ⟨W2, hW2⟩ : ∃ W2, W2 = (w.alloc (.cells (tmCells t A ca B cb K ck) TTm)).alloc (.cells #[.int .i64 0, .int .i64 0, .int .i64 0] TR3) := ⟨_, rfl⟩
  have hb2 : Below w.heap.size w W2 := by rw [hW2]; exact ((Below.refl _ _).alloc (Nat.le_refl _) _).alloc (by simp) _
  have hx2 : W2.heap[w.heap.size]? = some (.cells (tmCells t A ca B cb K ck) TTm (0, 0)) := by rw [hW2]; exact (Below.heap_alloc _ _ _ (by simp)).trans (heap_alloc_new w _)
  have hz2 : W2.heap[w.heap.size + 1]? = some (.cells #[.int .i64 0, .int .i64 0, .int .i64 0] TR3 (0, 0)) := by rw [hW2]; exact heap_new2 _ _ _
  have HX := Lib.hid (And.intro hb2 (And.intro hx2 (And.intro hz2 (hat.on hb2))))
  have HWF := Lib.hid hwf
  have HW2 := Lib.hid hW2
  have k0 := cell_at hx2 (j := 0) rfl
  have k1 := cell_at hx2 (j := 1) rfl
  have k2 := cell_at hx2 (j := 2) rfl
  have k3 := cell_at hx2 (j := 3) rfl
  have k4 := cell_at hx2 (j := 4) rfl
  have k5 := cell_at hx2 (j := 5) rfl
  clear hat hwf hb2 hx2 hz2 hW2
  go_enter Tryz.func27, Tryz.ntmps27
  go_upto_region 1 with fail
  rw [← HW2.out]
  go_wp2_with fail
  refine (dmay_any t A ca B cb K ck 3 W2 HX.out.2.2.2 HWF.out).mono ?_
  rintro e w3 ⟨rfl, hb3⟩
  clear k0 k1 k2 k3 k4 k5
  have hx := (hb3.block _ (heap_lt HX.out.2.1)).trans HX.out.2.1
  have hz := (hb3.block _ (heap_lt HX.out.2.2.1)).trans HX.out.2.2.1
  have k0 := cell_at hx (j := 0) rfl
  have k1 := cell_at hx (j := 1) rfl
  have k2 := cell_at hx (j := 2) rfl
  have k3 := cell_at hx (j := 3) rfl
  have k4 := cell_at hx (j := 4) rfl
  have k5 := cell_at hx (j := 5) rfl
  have z0 := cell_at hz (j := 0) rfl
  have z1 := cell_at hz (j := 1) rfl
  have z2 := cell_at hz (j := 2) rfl
  have fz := unfrozen hz
  have H3 := Lib.hid (And.intro hx (And.intro hz (And.intro (HX.out.1.then_ hb3) (HX.out.2.2.2.on hb3))))
  clear hx hz hb3
  by_cases hm : mayT t 3 = 0
  · have d1 : (mayT t 3 != 0) = false := by rw [hm]; rfl
    obtain ⟨hg, _, _⟩ := may_goodT hm
    have HR : Hid (ranksT t = (rkT t, 0)) := Lib.hid (by unfold ranksT; rw [if_neg (fun h => h hm)])
    have HG := Lib.hid hg
    clear hm hg
    go_wp2_with fail
    refine (drk_any (cnt t) t A ca B cb K ck w3 (Nat.le_refl _) H3.out.2.2.2 HWF.out HG.out).mono ?_
    rintro e w4 ⟨rfl, hb4⟩
    clear z0 z1 z2 fz k0 k1 k2 k3 k4 k5
    have hz := (hb4.block _ (heap_lt H3.out.2.1)).trans H3.out.2.1
    have z0 := cell_at hz (j := 0) rfl
    have z1 := cell_at hz (j := 1) rfl
    have z2 := cell_at hz (j := 2) rfl
    have fz := unfrozen hz
    have HZ := Lib.hid (And.intro hz (H3.out.2.2.1.then_ hb4))
    clear hz hb4
    go_wp2_with fail
    obtain ⟨e1, e2⟩ := three (.int .i64 (rkT t).a) (.int .i64 (rkT t).b) (.int .i64 (rkT t).c) HZ.out.1 HZ.out.2 (Nat.le_succ _)
    exact bodyPost_ret (results_r3e (p := 2) (t := 3) rfl rfl rfl e1) rfl ⟨by rw [HR.out]; rfl, e2⟩
  · have d1 : (mayT t 3 != 0) = true := by simpa using hm
    have HR : Hid (ranksT t = (⟨0, 0, 0⟩, mayT t 3)) := Lib.hid (by unfold ranksT; rw [if_pos hm])
    clear hm
    go_wp2_with fail
    obtain ⟨e1, e2⟩ := three (.int .i64 0) (.int .i64 0) (.int .i64 0) H3.out.2.1 H3.out.2.2.1 (Nat.le_succ _)
    exact bodyPost_ret (results_r3e (p := 2) (t := 3) rfl rfl rfl e1) rfl ⟨by rw [HR.out]; rfl, e2⟩
end Go.Proofs.YtebiojmfieoncaaGreat
