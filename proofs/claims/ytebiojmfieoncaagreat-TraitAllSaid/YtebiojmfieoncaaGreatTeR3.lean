/- abacusref16.ranks by kinds. Condition: sizes within reach. -/
import Derived.Test.YtebiojmfieoncaaGreatTeR2
import Derived.Test.YtebiojmfieoncaaGreatTeT3
namespace Go.Proofs.YtebiojmfieoncaaGreat
open Go.RowKit

/-- 'ranks' of the document on terms of at most N nodes -/
def DRkN (N : Nat) : Prop := ∀ (t : Tm) (A : Option Addr) (ca : Nat) (B : Option Addr) (cb : Nat) (K : Option Addr) (ck : Nat) (w : World), cnt t ≤ N → TmAt w t A B K → WfT t → goodT false t = true → Calls Tryz.prog 66 #[tmVal t A ca B cb K ck] w fun e w' => e = .returned (r3v (rkT t)) ∧ Below w.heap.size w w'
set_option maxRecDepth 100000 in
set_option maxHeartbeats 16000000 in
theorem drk_20 (N : Nat) (ih : DRkN N) (t : Tm) (A : Option Addr) (ca : Nat) (B : Option Addr) (cb : Nat) (K : Option Addr) (ck : Nat) (w : World) (hN : cnt t ≤ N + 1) (hat : TmAt w t A B K) (hwf : WfT t) (hgd : goodT false t = true) (hk : t.kind = 20) :
    Calls Tryz.prog 66 #[tmVal t A ca B cb K ck] w fun e w' => e = .returned (r3v (rkT t)) ∧ Below w.heap.size w w' := by
  obtain ⟨W1, hW1⟩ : ∃ W1, W1 = (w.alloc (.cells (tmCells t A ca B cb K ck) TTm)).alloc (.cells #[.int .i64 0, .int .i64 0, .int .i64 0] TR3) := ⟨_, rfl⟩
  have hb1 : Below w.heap.size w W1 := by rw [hW1]; exact ((Below.refl _ _).alloc (Nat.le_refl _) _).alloc (by simp) _
  have hx1 : W1.heap[w.heap.size]? = some (.cells (tmCells t A ca B cb K ck) TTm (0, 0)) := by rw [hW1]; exact (Below.heap_alloc _ _ _ (by simp)).trans (heap_alloc_new w _)
  have hz1 : W1.heap[w.heap.size + 1]? = some (.cells #[.int .i64 0, .int .i64 0, .int .i64 0] TR3 (0, 0)) := by rw [hW1]; exact heap_new2 _ _ _
  have HW1 := Lib.hid hW1
  have H1 := Lib.hid (And.intro hz1 hb1)
  have HT := Lib.hid (And.intro (hat.on hb1) (And.intro hwf (And.intro hgd hN)))
  have IH := Lib.hid ih
  have KC : Hid (∀ W, Below W1.heap.size W1 W → W.cell? ⟨w.heap.size, 0, none⟩ = some (.int .i64 t.kind) ∧ W.cell? ⟨w.heap.size, 1, none⟩ = some (.string t.text) ∧ W.cell? ⟨w.heap.size, 4, none⟩ = some (.slice B t.at_.length cb) ∧ W.cell? ⟨w.heap.size, 5, none⟩ = some (.slice K t.kids.length ck) ∧ w.heap.size < W.heap.size) := Lib.hid fun W h => by
    have hh := (h.block _ (heap_lt hx1)).trans hx1
    exact ⟨cell_at hh rfl, cell_at hh rfl, cell_at hh rfl, cell_at hh rfl, heap_lt hh⟩
  clear hW1 hz1 hb1 hx1
  obtain ⟨k0, k1, k4, k5, kl⟩ := KC.out W1 (Below.refl _ _)
  have hz := H1.out.1
  have z0 := cell_at hz (j := 0) rfl
  have z1 := cell_at hz (j := 1) rfl
  have z2 := cell_at hz (j := 2) rfl
  have fz := unfrozen hz
  have HZ := Lib.hid hz
  clear hz
  have ht := good_text hgd
  unfold textB at ht
  rw [hk, if_neg (by decide), if_pos rfl, decide_eq_true_eq] at ht
  obtain ⟨m, hm, hlt⟩ := op_le ht
  have HR : Hid (rkT t = ⟨(entAt m).a, (entAt m).b, (entAt m).c⟩) := Lib.hid (by rw [rkT_eq]; unfold rkK; rw [if_pos (by omega)]; unfold rkE; rw [hm, Nat.add_sub_cancel])
  have HOF := Lib.hid (of9_any t.text W1)
  rw [hm] at HOF
  have kk20 : (t.kind == 20) = true := by rw [hk]; rfl
  clear hgd hwf hN hat ih hk ht hm
  go_enter Tryz.func66, Tryz.ntmps66
  go_upto_region 1 with fail
  rw [← HW1.out]
  go_wp2_with fail
  refine HOF.out.mono ?_
  rintro e w2 ⟨rfl, hb2⟩
  have HB2 := Lib.hid (H1.out.2.then_ hb2)
  clear k0 k1 k4 k5 kl z0 z1 z2 fz
  have hz := (hb2.block _ (heap_lt H1.out.1)).trans H1.out.1
  have z0 := cell_at hz (j := 0) rfl
  have z1 := cell_at hz (j := 1) rfl
  have z2 := cell_at hz (j := 2) rfl
  have fz := unfrozen hz
  have HZ := Lib.hid hz
  clear hz
  have HZ2 := Lib.hid HZ.out
  clear hb2
  have HIN := Lib.hid (info9_any m hlt w2)
  go_wp2_with fail
  refine HIN.out.mono ?_
  rintro e w3 ⟨⟨qs, qm, qd, qn, qh, qc, rfl⟩, hb3⟩
  have HB3 := Lib.hid (HB2.out.then_ hb3)
  clear z0 z1 z2 fz HZ
  have hz := (hb3.block _ (heap_lt HZ2.out)).trans HZ2.out
  have z0 := cell_at hz (j := 0) rfl
  have z1 := cell_at hz (j := 1) rfl
  have z2 := cell_at hz (j := 2) rfl
  have fz := unfrozen hz
  have HZ := Lib.hid hz
  clear hz
  have hl2 := heap_lt HZ.out
  clear hb3
  go_wp2_with fail
  obtain ⟨e1, e2⟩ := three (.int .i64 (entAt m).a) (.int .i64 (entAt m).b) (.int .i64 (entAt m).c) HZ.out HB3.out (Nat.le_succ _)
  exact bodyPost_ret (results_r3 (p := 2) rfl rfl ((Below.heap_alloc _ _ _ (by simpa [World.setCell] using hl2)).trans e1)) rfl ⟨by rw [HR.out]; try rfl, e2.alloc (by have h9 := hl2; simp [World.setCell]; omega) _⟩
set_option maxRecDepth 100000 in
set_option maxHeartbeats 16000000 in
theorem drk_28 (N : Nat) (ih : DRkN N) (t : Tm) (A : Option Addr) (ca : Nat) (B : Option Addr) (cb : Nat) (K : Option Addr) (ck : Nat) (w : World) (hN : cnt t ≤ N + 1) (hat : TmAt w t A B K) (hwf : WfT t) (hgd : goodT false t = true) (hk : t.kind = 28) :
    Calls Tryz.prog 66 #[tmVal t A ca B cb K ck] w fun e w' => e = .returned (r3v (rkT t)) ∧ Below w.heap.size w w' := by
  obtain ⟨W1, hW1⟩ : ∃ W1, W1 = (w.alloc (.cells (tmCells t A ca B cb K ck) TTm)).alloc (.cells #[.int .i64 0, .int .i64 0, .int .i64 0] TR3) := ⟨_, rfl⟩
  have hb1 : Below w.heap.size w W1 := by rw [hW1]; exact ((Below.refl _ _).alloc (Nat.le_refl _) _).alloc (by simp) _
  have hx1 : W1.heap[w.heap.size]? = some (.cells (tmCells t A ca B cb K ck) TTm (0, 0)) := by rw [hW1]; exact (Below.heap_alloc _ _ _ (by simp)).trans (heap_alloc_new w _)
  have hz1 : W1.heap[w.heap.size + 1]? = some (.cells #[.int .i64 0, .int .i64 0, .int .i64 0] TR3 (0, 0)) := by rw [hW1]; exact heap_new2 _ _ _
  have HW1 := Lib.hid hW1
  have H1 := Lib.hid (And.intro hz1 hb1)
  have HT := Lib.hid (And.intro (hat.on hb1) (And.intro hwf (And.intro hgd hN)))
  have IH := Lib.hid ih
  have KC : Hid (∀ W, Below W1.heap.size W1 W → W.cell? ⟨w.heap.size, 0, none⟩ = some (.int .i64 t.kind) ∧ W.cell? ⟨w.heap.size, 1, none⟩ = some (.string t.text) ∧ W.cell? ⟨w.heap.size, 4, none⟩ = some (.slice B t.at_.length cb) ∧ W.cell? ⟨w.heap.size, 5, none⟩ = some (.slice K t.kids.length ck) ∧ w.heap.size < W.heap.size) := Lib.hid fun W h => by
    have hh := (h.block _ (heap_lt hx1)).trans hx1
    exact ⟨cell_at hh rfl, cell_at hh rfl, cell_at hh rfl, cell_at hh rfl, heap_lt hh⟩
  clear hW1 hz1 hb1 hx1
  obtain ⟨k0, k1, k4, k5, kl⟩ := KC.out W1 (Below.refl _ _)
  have hz := H1.out.1
  have z0 := cell_at hz (j := 0) rfl
  have z1 := cell_at hz (j := 1) rfl
  have z2 := cell_at hz (j := 2) rfl
  have fz := unfrozen hz
  have HZ := Lib.hid hz
  clear hz
  obtain ⟨x, y, hks, fx, fy⟩ := two_kids hgd (c := 118) (d := 118) (by rw [hk]; decide) (by omega) (by omega) (by omega)
  obtain ⟨bk, ok, hKe, px⟩ := HT.out.1.kids.get (i := 0) (t := x) (by rw [hks]; rfl)
  obtain ⟨bk', ok', hKe', py⟩ := HT.out.1.kids.get (i := 1) (t := y) (by rw [hks]; rfl)
  rw [hKe] at hKe'
  simp only [Option.some.injEq, Addr.mk.injEq, and_true] at hKe'
  obtain ⟨rfl, rfl⟩ := hKe'
  subst hKe
  rw [Nat.zero_add, Nat.zero_mul, Nat.add_zero] at px
  rw [Nat.zero_add, Nat.one_mul] at py
  have SX : Hid (WfT x ∧ goodT false x = true ∧ cnt x ≤ N) := Lib.hid ⟨hwf.node.each x (by rw [hks]; simp), good_sub hgd (by omega) (i := 0) (by rw [hks]; rfl), by have h1 := cnt_kid (t := t) (i := 0) (k := x) (by rw [hks]; rfl); omega⟩
  obtain ⟨Ax, cax, Bx, cbx, Kx, ckx, xl, x0, x1, x2, x3, x4, x5, hatx⟩ := px.cells
  have HAx := Lib.hid hatx
  have SY : Hid (WfT y ∧ goodT false y = true ∧ cnt y ≤ N) := Lib.hid ⟨hwf.node.each y (by rw [hks]; simp), good_sub hgd (by omega) (i := 1) (by rw [hks]; rfl), by have h1 := cnt_kid (t := t) (i := 1) (k := y) (by rw [hks]; rfl); omega⟩
  obtain ⟨Ay, cay, By, cby, Ky, cky, yl, y0, y1, y2, y3, y4, y5, haty⟩ := py.cells
  have HAy := Lib.hid haty
  have hkl : t.kids.length = 2 := by rw [hks]; rfl
  have HR : Hid (rkT t = rkT y) := Lib.hid (by rw [rkT_eq]; unfold rkK; rw [if_neg (by omega)]; rw [if_pos (by omega)]; rw [hks]; rfl)
  have kk20 : (t.kind == 20) = false := by rw [hk]; rfl
  have kk28 : (t.kind == 28) = true := by rw [hk]; rfl
  rw [hkl] at k5
  clear hgd hwf hN hat ih hk hks hkl px fx hatx py fy haty
  clear x0 x1 x2 x3 x4 x5 xl
  go_enter Tryz.func66, Tryz.ntmps66
  go_upto_region 1 with fail
  rw [← HW1.out]
  go_wp2_with fail
  refine (IH.out y Ay cay By cby Ky cky W1 SY.out.2.2 HAy.out SY.out.1 SY.out.2.1).mono ?_
  rintro e w2 ⟨rfl, hb2⟩
  have HB2 := Lib.hid (H1.out.2.then_ hb2)
  clear k0 k1 k4 k5 kl z0 z1 z2 fz y0 y1 y2 y3 y4 y5 yl
  have hz := (hb2.block _ (heap_lt H1.out.1)).trans H1.out.1
  have z0 := cell_at hz (j := 0) rfl
  have z1 := cell_at hz (j := 1) rfl
  have z2 := cell_at hz (j := 2) rfl
  have fz := unfrozen hz
  have HZ := Lib.hid hz
  clear hz
  have hl2 := heap_lt HZ.out
  clear hb2
  go_wp2_with fail
  obtain ⟨e1, e2⟩ := three (.int .i64 (rkT y).a) (.int .i64 (rkT y).b) (.int .i64 (rkT y).c) HZ.out HB2.out (Nat.le_succ _)
  exact bodyPost_ret (results_r3 (p := 2) rfl rfl e1) rfl ⟨by rw [HR.out]; try rfl, e2⟩
set_option maxRecDepth 100000 in
set_option maxHeartbeats 16000000 in
theorem drk_30 (N : Nat) (ih : DRkN N) (t : Tm) (A : Option Addr) (ca : Nat) (B : Option Addr) (cb : Nat) (K : Option Addr) (ck : Nat) (w : World) (hN : cnt t ≤ N + 1) (hat : TmAt w t A B K) (hwf : WfT t) (hgd : goodT false t = true) (hk : t.kind = 30) :
    Calls Tryz.prog 66 #[tmVal t A ca B cb K ck] w fun e w' => e = .returned (r3v (rkT t)) ∧ Below w.heap.size w w' := by
  obtain ⟨W1, hW1⟩ : ∃ W1, W1 = (w.alloc (.cells (tmCells t A ca B cb K ck) TTm)).alloc (.cells #[.int .i64 0, .int .i64 0, .int .i64 0] TR3) := ⟨_, rfl⟩
  have hb1 : Below w.heap.size w W1 := by rw [hW1]; exact ((Below.refl _ _).alloc (Nat.le_refl _) _).alloc (by simp) _
  have hx1 : W1.heap[w.heap.size]? = some (.cells (tmCells t A ca B cb K ck) TTm (0, 0)) := by rw [hW1]; exact (Below.heap_alloc _ _ _ (by simp)).trans (heap_alloc_new w _)
  have hz1 : W1.heap[w.heap.size + 1]? = some (.cells #[.int .i64 0, .int .i64 0, .int .i64 0] TR3 (0, 0)) := by rw [hW1]; exact heap_new2 _ _ _
  have HW1 := Lib.hid hW1
  have H1 := Lib.hid (And.intro hz1 hb1)
  have HT := Lib.hid (And.intro (hat.on hb1) (And.intro hwf (And.intro hgd hN)))
  have IH := Lib.hid ih
  have KC : Hid (∀ W, Below W1.heap.size W1 W → W.cell? ⟨w.heap.size, 0, none⟩ = some (.int .i64 t.kind) ∧ W.cell? ⟨w.heap.size, 1, none⟩ = some (.string t.text) ∧ W.cell? ⟨w.heap.size, 4, none⟩ = some (.slice B t.at_.length cb) ∧ W.cell? ⟨w.heap.size, 5, none⟩ = some (.slice K t.kids.length ck) ∧ w.heap.size < W.heap.size) := Lib.hid fun W h => by
    have hh := (h.block _ (heap_lt hx1)).trans hx1
    exact ⟨cell_at hh rfl, cell_at hh rfl, cell_at hh rfl, cell_at hh rfl, heap_lt hh⟩
  clear hW1 hz1 hb1 hx1
  obtain ⟨k0, k1, k4, k5, kl⟩ := KC.out W1 (Below.refl _ _)
  have hz := H1.out.1
  have z0 := cell_at hz (j := 0) rfl
  have z1 := cell_at hz (j := 1) rfl
  have z2 := cell_at hz (j := 2) rfl
  have fz := unfrozen hz
  have HZ := Lib.hid hz
  clear hz
  obtain ⟨x, y, hks, fx, fy⟩ := two_kids hgd (c := 118) (d := 118) (by rw [hk]; decide) (by omega) (by omega) (by omega)
  obtain ⟨bk, ok, hKe, px⟩ := HT.out.1.kids.get (i := 0) (t := x) (by rw [hks]; rfl)
  obtain ⟨bk', ok', hKe', py⟩ := HT.out.1.kids.get (i := 1) (t := y) (by rw [hks]; rfl)
  rw [hKe] at hKe'
  simp only [Option.some.injEq, Addr.mk.injEq, and_true] at hKe'
  obtain ⟨rfl, rfl⟩ := hKe'
  subst hKe
  rw [Nat.zero_add, Nat.zero_mul, Nat.add_zero] at px
  rw [Nat.zero_add, Nat.one_mul] at py
  have SX : Hid (WfT x ∧ goodT false x = true ∧ cnt x ≤ N) := Lib.hid ⟨hwf.node.each x (by rw [hks]; simp), good_sub hgd (by omega) (i := 0) (by rw [hks]; rfl), by have h1 := cnt_kid (t := t) (i := 0) (k := x) (by rw [hks]; rfl); omega⟩
  obtain ⟨Ax, cax, Bx, cbx, Kx, ckx, xl, x0, x1, x2, x3, x4, x5, hatx⟩ := px.cells
  have HAx := Lib.hid hatx
  have SY : Hid (WfT y ∧ goodT false y = true ∧ cnt y ≤ N) := Lib.hid ⟨hwf.node.each y (by rw [hks]; simp), good_sub hgd (by omega) (i := 1) (by rw [hks]; rfl), by have h1 := cnt_kid (t := t) (i := 1) (k := y) (by rw [hks]; rfl); omega⟩
  obtain ⟨Ay, cay, By, cby, Ky, cky, yl, y0, y1, y2, y3, y4, y5, haty⟩ := py.cells
  have HAy := Lib.hid haty
  have hkl : t.kids.length = 2 := by rw [hks]; rfl
  have HR : Hid (rkT t = ⟨(rkT y).a, (rkT y).a, (rkT y).a⟩) := Lib.hid (by rw [rkT_eq]; unfold rkK; rw [if_neg (by omega)]; rw [if_neg (by omega)]; rw [if_pos (by omega)]; rw [hks]; rfl)
  have kk20 : (t.kind == 20) = false := by rw [hk]; rfl
  have kk28 : (t.kind == 28) = false := by rw [hk]; rfl
  have kk30 : (t.kind == 30) = true := by rw [hk]; rfl
  rw [hkl] at k5
  clear hgd hwf hN hat ih hk hks hkl px fx hatx py fy haty
  clear x0 x1 x2 x3 x4 x5 xl
  go_enter Tryz.func66, Tryz.ntmps66
  go_upto_region 1 with fail
  rw [← HW1.out]
  go_wp2_with fail
  refine (IH.out y Ay cay By cby Ky cky W1 SY.out.2.2 HAy.out SY.out.1 SY.out.2.1).mono ?_
  rintro e w2 ⟨rfl, hb2⟩
  have HB2 := Lib.hid (H1.out.2.then_ hb2)
  clear k0 k1 k4 k5 kl z0 z1 z2 fz y0 y1 y2 y3 y4 y5 yl
  have hz := (hb2.block _ (heap_lt H1.out.1)).trans H1.out.1
  have z0 := cell_at hz (j := 0) rfl
  have z1 := cell_at hz (j := 1) rfl
  have z2 := cell_at hz (j := 2) rfl
  have fz := unfrozen hz
  have HZ := Lib.hid hz
  clear hz
  have hl2 := heap_lt HZ.out
  clear hb2
  have ix0 := idx3_0 (rkT y)
  have ix1 := idx3_1 (rkT y)
  have ix2 := idx3_2 (rkT y)
  go_wp2_with fail
  obtain ⟨e1, e2⟩ := three (.int .i64 (rkT y).a) (.int .i64 (rkT y).a) (.int .i64 (rkT y).a) HZ.out HB2.out (Nat.le_succ _)
  exact bodyPost_ret (results_r3 (p := 2) rfl rfl ((Below.heap_alloc _ _ _ (by simpa [World.setCell] using hl2)).trans e1)) rfl ⟨by rw [HR.out]; try rfl, e2.alloc (by have h9 := hl2; simp [World.setCell]; omega) _⟩
set_option maxRecDepth 100000 in
set_option maxHeartbeats 16000000 in
theorem drk_32 (N : Nat) (ih : DRkN N) (t : Tm) (A : Option Addr) (ca : Nat) (B : Option Addr) (cb : Nat) (K : Option Addr) (ck : Nat) (w : World) (hN : cnt t ≤ N + 1) (hat : TmAt w t A B K) (hwf : WfT t) (hgd : goodT false t = true) (hk : t.kind = 32) :
    Calls Tryz.prog 66 #[tmVal t A ca B cb K ck] w fun e w' => e = .returned (r3v (rkT t)) ∧ Below w.heap.size w w' := by
  obtain ⟨W1, hW1⟩ : ∃ W1, W1 = (w.alloc (.cells (tmCells t A ca B cb K ck) TTm)).alloc (.cells #[.int .i64 0, .int .i64 0, .int .i64 0] TR3) := ⟨_, rfl⟩
  have hb1 : Below w.heap.size w W1 := by rw [hW1]; exact ((Below.refl _ _).alloc (Nat.le_refl _) _).alloc (by simp) _
  have hx1 : W1.heap[w.heap.size]? = some (.cells (tmCells t A ca B cb K ck) TTm (0, 0)) := by rw [hW1]; exact (Below.heap_alloc _ _ _ (by simp)).trans (heap_alloc_new w _)
  have hz1 : W1.heap[w.heap.size + 1]? = some (.cells #[.int .i64 0, .int .i64 0, .int .i64 0] TR3 (0, 0)) := by rw [hW1]; exact heap_new2 _ _ _
  have HW1 := Lib.hid hW1
  have H1 := Lib.hid (And.intro hz1 hb1)
  have HT := Lib.hid (And.intro (hat.on hb1) (And.intro hwf (And.intro hgd hN)))
  have IH := Lib.hid ih
  have KC : Hid (∀ W, Below W1.heap.size W1 W → W.cell? ⟨w.heap.size, 0, none⟩ = some (.int .i64 t.kind) ∧ W.cell? ⟨w.heap.size, 1, none⟩ = some (.string t.text) ∧ W.cell? ⟨w.heap.size, 4, none⟩ = some (.slice B t.at_.length cb) ∧ W.cell? ⟨w.heap.size, 5, none⟩ = some (.slice K t.kids.length ck) ∧ w.heap.size < W.heap.size) := Lib.hid fun W h => by
    have hh := (h.block _ (heap_lt hx1)).trans hx1
    exact ⟨cell_at hh rfl, cell_at hh rfl, cell_at hh rfl, cell_at hh rfl, heap_lt hh⟩
  clear hW1 hz1 hb1 hx1
  obtain ⟨k0, k1, k4, k5, kl⟩ := KC.out W1 (Below.refl _ _)
  have hz := H1.out.1
  have z0 := cell_at hz (j := 0) rfl
  have z1 := cell_at hz (j := 1) rfl
  have z2 := cell_at hz (j := 2) rfl
  have fz := unfrozen hz
  have HZ := Lib.hid hz
  clear hz
  obtain ⟨x, y, hks, fx, fy⟩ := two_kids hgd (c := 118) (d := 118) (by rw [hk]; decide) (by omega) (by omega) (by omega)
  obtain ⟨bk, ok, hKe, px⟩ := HT.out.1.kids.get (i := 0) (t := x) (by rw [hks]; rfl)
  obtain ⟨bk', ok', hKe', py⟩ := HT.out.1.kids.get (i := 1) (t := y) (by rw [hks]; rfl)
  rw [hKe] at hKe'
  simp only [Option.some.injEq, Addr.mk.injEq, and_true] at hKe'
  obtain ⟨rfl, rfl⟩ := hKe'
  subst hKe
  rw [Nat.zero_add, Nat.zero_mul, Nat.add_zero] at px
  rw [Nat.zero_add, Nat.one_mul] at py
  have SX : Hid (WfT x ∧ goodT false x = true ∧ cnt x ≤ N) := Lib.hid ⟨hwf.node.each x (by rw [hks]; simp), good_sub hgd (by omega) (i := 0) (by rw [hks]; rfl), by have h1 := cnt_kid (t := t) (i := 0) (k := x) (by rw [hks]; rfl); omega⟩
  obtain ⟨Ax, cax, Bx, cbx, Kx, ckx, xl, x0, x1, x2, x3, x4, x5, hatx⟩ := px.cells
  have HAx := Lib.hid hatx
  have SY : Hid (WfT y ∧ goodT false y = true ∧ cnt y ≤ N) := Lib.hid ⟨hwf.node.each y (by rw [hks]; simp), good_sub hgd (by omega) (i := 1) (by rw [hks]; rfl), by have h1 := cnt_kid (t := t) (i := 1) (k := y) (by rw [hks]; rfl); omega⟩
  obtain ⟨Ay, cay, By, cby, Ky, cky, yl, y0, y1, y2, y3, y4, y5, haty⟩ := py.cells
  have HAy := Lib.hid haty
  have hkl : t.kids.length = 2 := by rw [hks]; rfl
  have HR : Hid (rkT t = ⟨(rkT y).a, (rkT y).a, (rkT y).a⟩) := Lib.hid (by rw [rkT_eq]; unfold rkK; rw [if_neg (by omega)]; rw [if_neg (by omega)]; rw [if_pos (by omega)]; rw [hks]; rfl)
  have kk20 : (t.kind == 20) = false := by rw [hk]; rfl
  have kk28 : (t.kind == 28) = false := by rw [hk]; rfl
  have kk30 : (t.kind == 30) = false := by rw [hk]; rfl
  have kk32 : (t.kind == 32) = true := by rw [hk]; rfl
  rw [hkl] at k5
  clear hgd hwf hN hat ih hk hks hkl px fx hatx py fy haty
  clear x0 x1 x2 x3 x4 x5 xl
  go_enter Tryz.func66, Tryz.ntmps66
  go_upto_region 1 with fail
  rw [← HW1.out]
  go_wp2_with fail
  refine (IH.out y Ay cay By cby Ky cky W1 SY.out.2.2 HAy.out SY.out.1 SY.out.2.1).mono ?_
  rintro e w2 ⟨rfl, hb2⟩
  have HB2 := Lib.hid (H1.out.2.then_ hb2)
  clear k0 k1 k4 k5 kl z0 z1 z2 fz y0 y1 y2 y3 y4 y5 yl
  have hz := (hb2.block _ (heap_lt H1.out.1)).trans H1.out.1
  have z0 := cell_at hz (j := 0) rfl
  have z1 := cell_at hz (j := 1) rfl
  have z2 := cell_at hz (j := 2) rfl
  have fz := unfrozen hz
  have HZ := Lib.hid hz
  clear hz
  have hl2 := heap_lt HZ.out
  clear hb2
  have ix0 := idx3_0 (rkT y)
  have ix1 := idx3_1 (rkT y)
  have ix2 := idx3_2 (rkT y)
  go_wp2_with fail
  obtain ⟨e1, e2⟩ := three (.int .i64 (rkT y).a) (.int .i64 (rkT y).a) (.int .i64 (rkT y).a) HZ.out HB2.out (Nat.le_succ _)
  exact bodyPost_ret (results_r3 (p := 2) rfl rfl ((Below.heap_alloc _ _ _ (by simpa [World.setCell] using hl2)).trans e1)) rfl ⟨by rw [HR.out]; try rfl, e2.alloc (by have h9 := hl2; simp [World.setCell]; omega) _⟩
set_option maxRecDepth 100000 in
set_option maxHeartbeats 16000000 in
theorem drk_39 (N : Nat) (ih : DRkN N) (t : Tm) (A : Option Addr) (ca : Nat) (B : Option Addr) (cb : Nat) (K : Option Addr) (ck : Nat) (w : World) (hN : cnt t ≤ N + 1) (hat : TmAt w t A B K) (hwf : WfT t) (hgd : goodT false t = true) (hk : t.kind = 39) :
    Calls Tryz.prog 66 #[tmVal t A ca B cb K ck] w fun e w' => e = .returned (r3v (rkT t)) ∧ Below w.heap.size w w' := by
  obtain ⟨W1, hW1⟩ : ∃ W1, W1 = (w.alloc (.cells (tmCells t A ca B cb K ck) TTm)).alloc (.cells #[.int .i64 0, .int .i64 0, .int .i64 0] TR3) := ⟨_, rfl⟩
  have hb1 : Below w.heap.size w W1 := by rw [hW1]; exact ((Below.refl _ _).alloc (Nat.le_refl _) _).alloc (by simp) _
  have hx1 : W1.heap[w.heap.size]? = some (.cells (tmCells t A ca B cb K ck) TTm (0, 0)) := by rw [hW1]; exact (Below.heap_alloc _ _ _ (by simp)).trans (heap_alloc_new w _)
  have hz1 : W1.heap[w.heap.size + 1]? = some (.cells #[.int .i64 0, .int .i64 0, .int .i64 0] TR3 (0, 0)) := by rw [hW1]; exact heap_new2 _ _ _
  have HW1 := Lib.hid hW1
  have H1 := Lib.hid (And.intro hz1 hb1)
  have HT := Lib.hid (And.intro (hat.on hb1) (And.intro hwf (And.intro hgd hN)))
  have IH := Lib.hid ih
  have KC : Hid (∀ W, Below W1.heap.size W1 W → W.cell? ⟨w.heap.size, 0, none⟩ = some (.int .i64 t.kind) ∧ W.cell? ⟨w.heap.size, 1, none⟩ = some (.string t.text) ∧ W.cell? ⟨w.heap.size, 4, none⟩ = some (.slice B t.at_.length cb) ∧ W.cell? ⟨w.heap.size, 5, none⟩ = some (.slice K t.kids.length ck) ∧ w.heap.size < W.heap.size) := Lib.hid fun W h => by
    have hh := (h.block _ (heap_lt hx1)).trans hx1
    exact ⟨cell_at hh rfl, cell_at hh rfl, cell_at hh rfl, cell_at hh rfl, heap_lt hh⟩
  clear hW1 hz1 hb1 hx1
  obtain ⟨k0, k1, k4, k5, kl⟩ := KC.out W1 (Below.refl _ _)
  have hz := H1.out.1
  have z0 := cell_at hz (j := 0) rfl
  have z1 := cell_at hz (j := 1) rfl
  have z2 := cell_at hz (j := 2) rfl
  have fz := unfrozen hz
  have HZ := Lib.hid hz
  clear hz
  obtain ⟨x, y, hks, fx, fy⟩ := two_kids hgd (c := 111) (d := 118) (by rw [hk]; decide) (by omega) (by omega) (by omega)
  obtain ⟨bk, ok, hKe, px⟩ := HT.out.1.kids.get (i := 0) (t := x) (by rw [hks]; rfl)
  obtain ⟨bk', ok', hKe', py⟩ := HT.out.1.kids.get (i := 1) (t := y) (by rw [hks]; rfl)
  rw [hKe] at hKe'
  simp only [Option.some.injEq, Addr.mk.injEq, and_true] at hKe'
  obtain ⟨rfl, rfl⟩ := hKe'
  subst hKe
  rw [Nat.zero_add, Nat.zero_mul, Nat.add_zero] at px
  rw [Nat.zero_add, Nat.one_mul] at py
  have SX : Hid (WfT x ∧ goodT false x = true ∧ cnt x ≤ N) := Lib.hid ⟨hwf.node.each x (by rw [hks]; simp), good_sub hgd (by omega) (i := 0) (by rw [hks]; rfl), by have h1 := cnt_kid (t := t) (i := 0) (k := x) (by rw [hks]; rfl); omega⟩
  obtain ⟨Ax, cax, Bx, cbx, Kx, ckx, xl, x0, x1, x2, x3, x4, x5, hatx⟩ := px.cells
  have HAx := Lib.hid hatx
  have SY : Hid (WfT y ∧ goodT false y = true ∧ cnt y ≤ N) := Lib.hid ⟨hwf.node.each y (by rw [hks]; simp), good_sub hgd (by omega) (i := 1) (by rw [hks]; rfl), by have h1 := cnt_kid (t := t) (i := 1) (k := y) (by rw [hks]; rfl); omega⟩
  obtain ⟨Ay, cay, By, cby, Ky, cky, yl, y0, y1, y2, y3, y4, y5, haty⟩ := py.cells
  have HAy := Lib.hid haty
  have hkl : t.kids.length = 2 := by rw [hks]; rfl
  have HR : Hid (rkT t = ⟨(rkT y).c, 64, 64⟩) := Lib.hid (by rw [rkT_eq]; unfold rkK; rw [if_neg (by omega)]; rw [if_neg (by omega)]; rw [if_neg (by omega)]; rw [if_pos (by omega)]; rw [hks]; rfl)
  have kk20 : (t.kind == 20) = false := by rw [hk]; rfl
  have kk28 : (t.kind == 28) = false := by rw [hk]; rfl
  have kk30 : (t.kind == 30) = false := by rw [hk]; rfl
  have kk32 : (t.kind == 32) = false := by rw [hk]; rfl
  have kk39 : (t.kind == 39) = true := by rw [hk]; rfl
  rw [hkl] at k5
  clear hgd hwf hN hat ih hk hks hkl px fx hatx py fy haty
  clear x0 x1 x2 x3 x4 x5 xl
  go_enter Tryz.func66, Tryz.ntmps66
  go_upto_region 1 with fail
  rw [← HW1.out]
  go_wp2_with fail
  refine (IH.out y Ay cay By cby Ky cky W1 SY.out.2.2 HAy.out SY.out.1 SY.out.2.1).mono ?_
  rintro e w2 ⟨rfl, hb2⟩
  have HB2 := Lib.hid (H1.out.2.then_ hb2)
  clear k0 k1 k4 k5 kl z0 z1 z2 fz y0 y1 y2 y3 y4 y5 yl
  have hz := (hb2.block _ (heap_lt H1.out.1)).trans H1.out.1
  have z0 := cell_at hz (j := 0) rfl
  have z1 := cell_at hz (j := 1) rfl
  have z2 := cell_at hz (j := 2) rfl
  have fz := unfrozen hz
  have HZ := Lib.hid hz
  clear hz
  have hl2 := heap_lt HZ.out
  clear hb2
  have ix0 := idx3_0 (rkT y)
  have ix1 := idx3_1 (rkT y)
  have ix2 := idx3_2 (rkT y)
  go_wp2_with fail
  obtain ⟨e1, e2⟩ := three (.int .i64 (rkT y).c) (.int .i64 64) (.int .i64 64) HZ.out HB2.out (Nat.le_succ _)
  exact bodyPost_ret (results_r3 (p := 2) rfl rfl e1) rfl ⟨by rw [HR.out]; try rfl, e2⟩
set_option maxRecDepth 100000 in
set_option maxHeartbeats 16000000 in
theorem drk_40 (N : Nat) (ih : DRkN N) (t : Tm) (A : Option Addr) (ca : Nat) (B : Option Addr) (cb : Nat) (K : Option Addr) (ck : Nat) (w : World) (hN : cnt t ≤ N + 1) (hat : TmAt w t A B K) (hwf : WfT t) (hgd : goodT false t = true) (hk : t.kind = 40) :
    Calls Tryz.prog 66 #[tmVal t A ca B cb K ck] w fun e w' => e = .returned (r3v (rkT t)) ∧ Below w.heap.size w w' := by
  obtain ⟨W1, hW1⟩ : ∃ W1, W1 = (w.alloc (.cells (tmCells t A ca B cb K ck) TTm)).alloc (.cells #[.int .i64 0, .int .i64 0, .int .i64 0] TR3) := ⟨_, rfl⟩
  have hb1 : Below w.heap.size w W1 := by rw [hW1]; exact ((Below.refl _ _).alloc (Nat.le_refl _) _).alloc (by simp) _
  have hx1 : W1.heap[w.heap.size]? = some (.cells (tmCells t A ca B cb K ck) TTm (0, 0)) := by rw [hW1]; exact (Below.heap_alloc _ _ _ (by simp)).trans (heap_alloc_new w _)
  have hz1 : W1.heap[w.heap.size + 1]? = some (.cells #[.int .i64 0, .int .i64 0, .int .i64 0] TR3 (0, 0)) := by rw [hW1]; exact heap_new2 _ _ _
  have HW1 := Lib.hid hW1
  have H1 := Lib.hid (And.intro hz1 hb1)
  have HT := Lib.hid (And.intro (hat.on hb1) (And.intro hwf (And.intro hgd hN)))
  have IH := Lib.hid ih
  have KC : Hid (∀ W, Below W1.heap.size W1 W → W.cell? ⟨w.heap.size, 0, none⟩ = some (.int .i64 t.kind) ∧ W.cell? ⟨w.heap.size, 1, none⟩ = some (.string t.text) ∧ W.cell? ⟨w.heap.size, 4, none⟩ = some (.slice B t.at_.length cb) ∧ W.cell? ⟨w.heap.size, 5, none⟩ = some (.slice K t.kids.length ck) ∧ w.heap.size < W.heap.size) := Lib.hid fun W h => by
    have hh := (h.block _ (heap_lt hx1)).trans hx1
    exact ⟨cell_at hh rfl, cell_at hh rfl, cell_at hh rfl, cell_at hh rfl, heap_lt hh⟩
  clear hW1 hz1 hb1 hx1
  obtain ⟨k0, k1, k4, k5, kl⟩ := KC.out W1 (Below.refl _ _)
  have hz := H1.out.1
  have z0 := cell_at hz (j := 0) rfl
  have z1 := cell_at hz (j := 1) rfl
  have z2 := cell_at hz (j := 2) rfl
  have fz := unfrozen hz
  have HZ := Lib.hid hz
  clear hz
  obtain ⟨x, y, hks, fx, fy⟩ := two_kids hgd (c := 118) (d := 111) (by rw [hk]; decide) (by omega) (by omega) (by omega)
  obtain ⟨bk, ok, hKe, px⟩ := HT.out.1.kids.get (i := 0) (t := x) (by rw [hks]; rfl)
  obtain ⟨bk', ok', hKe', py⟩ := HT.out.1.kids.get (i := 1) (t := y) (by rw [hks]; rfl)
  rw [hKe] at hKe'
  simp only [Option.some.injEq, Addr.mk.injEq, and_true] at hKe'
  obtain ⟨rfl, rfl⟩ := hKe'
  subst hKe
  rw [Nat.zero_add, Nat.zero_mul, Nat.add_zero] at px
  rw [Nat.zero_add, Nat.one_mul] at py
  have SX : Hid (WfT x ∧ goodT false x = true ∧ cnt x ≤ N) := Lib.hid ⟨hwf.node.each x (by rw [hks]; simp), good_sub hgd (by omega) (i := 0) (by rw [hks]; rfl), by have h1 := cnt_kid (t := t) (i := 0) (k := x) (by rw [hks]; rfl); omega⟩
  obtain ⟨Ax, cax, Bx, cbx, Kx, ckx, xl, x0, x1, x2, x3, x4, x5, hatx⟩ := px.cells
  have HAx := Lib.hid hatx
  have SY : Hid (WfT y ∧ goodT false y = true ∧ cnt y ≤ N) := Lib.hid ⟨hwf.node.each y (by rw [hks]; simp), good_sub hgd (by omega) (i := 1) (by rw [hks]; rfl), by have h1 := cnt_kid (t := t) (i := 1) (k := y) (by rw [hks]; rfl); omega⟩
  obtain ⟨Ay, cay, By, cby, Ky, cky, yl, y0, y1, y2, y3, y4, y5, haty⟩ := py.cells
  have HAy := Lib.hid haty
  have hkl : t.kids.length = 2 := by rw [hks]; rfl
  have HR : Hid (rkT t = ⟨(rkT x).b, 64, 64⟩) := Lib.hid (by rw [rkT_eq]; unfold rkK; rw [if_neg (by omega)]; rw [if_neg (by omega)]; rw [if_neg (by omega)]; rw [if_neg (by omega)]; rw [if_pos (by omega)]; rw [hks]; rfl)
  have kk20 : (t.kind == 20) = false := by rw [hk]; rfl
  have kk28 : (t.kind == 28) = false := by rw [hk]; rfl
  have kk30 : (t.kind == 30) = false := by rw [hk]; rfl
  have kk32 : (t.kind == 32) = false := by rw [hk]; rfl
  have kk39 : (t.kind == 39) = false := by rw [hk]; rfl
  have kk40 : (t.kind == 40) = true := by rw [hk]; rfl
  rw [hkl] at k5
  clear hgd hwf hN hat ih hk hks hkl px fx hatx py fy haty
  clear y0 y1 y2 y3 y4 y5 yl
  go_enter Tryz.func66, Tryz.ntmps66
  go_upto_region 1 with fail
  rw [← HW1.out]
  go_wp2_with fail
  refine (IH.out x Ax cax Bx cbx Kx ckx W1 SX.out.2.2 HAx.out SX.out.1 SX.out.2.1).mono ?_
  rintro e w2 ⟨rfl, hb2⟩
  have HB2 := Lib.hid (H1.out.2.then_ hb2)
  clear k0 k1 k4 k5 kl z0 z1 z2 fz x0 x1 x2 x3 x4 x5 xl
  have hz := (hb2.block _ (heap_lt H1.out.1)).trans H1.out.1
  have z0 := cell_at hz (j := 0) rfl
  have z1 := cell_at hz (j := 1) rfl
  have z2 := cell_at hz (j := 2) rfl
  have fz := unfrozen hz
  have HZ := Lib.hid hz
  clear hz
  have hl2 := heap_lt HZ.out
  clear hb2
  have ix0 := idx3_0 (rkT x)
  have ix1 := idx3_1 (rkT x)
  have ix2 := idx3_2 (rkT x)
  go_wp2_with fail
  obtain ⟨e1, e2⟩ := three (.int .i64 (rkT x).b) (.int .i64 64) (.int .i64 64) HZ.out HB2.out (Nat.le_succ _)
  exact bodyPost_ret (results_r3 (p := 2) rfl rfl e1) rfl ⟨by rw [HR.out]; try rfl, e2⟩
set_option maxRecDepth 100000 in
set_option maxHeartbeats 16000000 in
theorem drk_42 (N : Nat) (ih : DRkN N) (t : Tm) (A : Option Addr) (ca : Nat) (B : Option Addr) (cb : Nat) (K : Option Addr) (ck : Nat) (w : World) (hN : cnt t ≤ N + 1) (hat : TmAt w t A B K) (hwf : WfT t) (hgd : goodT false t = true) (hk : t.kind = 42) :
    Calls Tryz.prog 66 #[tmVal t A ca B cb K ck] w fun e w' => e = .returned (r3v (rkT t)) ∧ Below w.heap.size w w' := by
  obtain ⟨W1, hW1⟩ : ∃ W1, W1 = (w.alloc (.cells (tmCells t A ca B cb K ck) TTm)).alloc (.cells #[.int .i64 0, .int .i64 0, .int .i64 0] TR3) := ⟨_, rfl⟩
  have hb1 : Below w.heap.size w W1 := by rw [hW1]; exact ((Below.refl _ _).alloc (Nat.le_refl _) _).alloc (by simp) _
  have hx1 : W1.heap[w.heap.size]? = some (.cells (tmCells t A ca B cb K ck) TTm (0, 0)) := by rw [hW1]; exact (Below.heap_alloc _ _ _ (by simp)).trans (heap_alloc_new w _)
  have hz1 : W1.heap[w.heap.size + 1]? = some (.cells #[.int .i64 0, .int .i64 0, .int .i64 0] TR3 (0, 0)) := by rw [hW1]; exact heap_new2 _ _ _
  have HW1 := Lib.hid hW1
  have H1 := Lib.hid (And.intro hz1 hb1)
  have HT := Lib.hid (And.intro (hat.on hb1) (And.intro hwf (And.intro hgd hN)))
  have IH := Lib.hid ih
  have KC : Hid (∀ W, Below W1.heap.size W1 W → W.cell? ⟨w.heap.size, 0, none⟩ = some (.int .i64 t.kind) ∧ W.cell? ⟨w.heap.size, 1, none⟩ = some (.string t.text) ∧ W.cell? ⟨w.heap.size, 4, none⟩ = some (.slice B t.at_.length cb) ∧ W.cell? ⟨w.heap.size, 5, none⟩ = some (.slice K t.kids.length ck) ∧ w.heap.size < W.heap.size) := Lib.hid fun W h => by
    have hh := (h.block _ (heap_lt hx1)).trans hx1
    exact ⟨cell_at hh rfl, cell_at hh rfl, cell_at hh rfl, cell_at hh rfl, heap_lt hh⟩
  clear hW1 hz1 hb1 hx1
  obtain ⟨k0, k1, k4, k5, kl⟩ := KC.out W1 (Below.refl _ _)
  have hz := H1.out.1
  have z0 := cell_at hz (j := 0) rfl
  have z1 := cell_at hz (j := 1) rfl
  have z2 := cell_at hz (j := 2) rfl
  have fz := unfrozen hz
  have HZ := Lib.hid hz
  clear hz
  have HR : Hid (rkT t = listed3 t.at_) := Lib.hid (by rw [rkT_eq]; unfold rkK; rw [if_neg (by omega)]; rw [if_neg (by omega)]; rw [if_neg (by omega)]; rw [if_neg (by omega)]; rw [if_neg (by omega)]; rw [if_pos (by omega)])
  have hrl := rank_list hgd hk
  have hB1 := HT.out.1.at_
  have kk20 : (t.kind == 20) = false := by rw [hk]; rfl
  have kk28 : (t.kind == 28) = false := by rw [hk]; rfl
  have kk30 : (t.kind == 30) = false := by rw [hk]; rfl
  have kk32 : (t.kind == 32) = false := by rw [hk]; rfl
  have kk39 : (t.kind == 39) = false := by rw [hk]; rfl
  have kk40 : (t.kind == 40) = false := by rw [hk]; rfl
  have kk42 : (t.kind == 42) = true := by rw [hk]; rfl
  clear hgd hwf hN hat ih hk
  obtain ⟨l, hl⟩ : ∃ l, l = t.at_ := ⟨_, rfl⟩
  rw [← hl] at hrl hB1 k4 HR
  clear hl
  rcases hrl with ⟨x, rfl⟩ | ⟨x, y, rfl⟩ | ⟨x, y, z, rfl⟩
  · obtain ⟨b, o, rfl, hl0, c0⟩ := hB1 0 x rfl
    rw [Nat.add_zero] at c0
    clear hB1
    go_enter Tryz.func66, Tryz.ntmps66
    go_upto_region 1 with fail
    rw [← HW1.out]
    go_wp2_with fail
    go_still_tail 10, (by kernel_rfl)
    change wpList _ _ _ _ _ W1.drew
    go_wp2_with fail
    obtain ⟨e1, e2⟩ := three (.int .i64 x) (.int .i64 x) (.int .i64 x) HZ.out H1.out.2 (Nat.le_succ _)
    exact bodyPost_ret (results_r3 (p := 2) rfl rfl e1) rfl ⟨by rw [HR.out]; try rfl, e2.drew⟩
  · obtain ⟨b, o, rfl, hl0, c0⟩ := hB1 0 x rfl
    obtain ⟨b', o', e, _, c1⟩ := hB1 1 y rfl
    simp only [Option.some.injEq, Addr.mk.injEq, and_true] at e
    obtain ⟨rfl, rfl⟩ := e
    rw [Nat.add_zero] at c0
    clear hB1
    go_enter Tryz.func66, Tryz.ntmps66
    go_upto_region 1 with fail
    rw [← HW1.out]
    go_wp2_with fail
    go_still_tail 10, (by kernel_rfl)
    change wpList _ _ _ _ _ W1.drew
    go_wp2_with fail
    obtain ⟨e1, e2⟩ := three (.int .i64 y) (.int .i64 x) (.int .i64 y) HZ.out H1.out.2 (Nat.le_succ _)
    exact bodyPost_ret (results_r3 (p := 2) rfl rfl e1) rfl ⟨by rw [HR.out]; try rfl, e2.drew⟩
  · obtain ⟨b, o, rfl, hl0, c0⟩ := hB1 0 x rfl
    obtain ⟨b', o', e, _, c1⟩ := hB1 1 y rfl
    simp only [Option.some.injEq, Addr.mk.injEq, and_true] at e
    obtain ⟨rfl, rfl⟩ := e
    obtain ⟨b', o', e, _, c2⟩ := hB1 2 z rfl
    simp only [Option.some.injEq, Addr.mk.injEq, and_true] at e
    obtain ⟨rfl, rfl⟩ := e
    rw [Nat.add_zero] at c0
    clear hB1
    go_enter Tryz.func66, Tryz.ntmps66
    go_upto_region 1 with fail
    rw [← HW1.out]
    go_wp2_with fail
    go_still_tail 10, (by kernel_rfl)
    change wpList _ _ _ _ _ W1.drew
    go_wp2_with fail
    obtain ⟨e1, e2⟩ := three (.int .i64 x) (.int .i64 y) (.int .i64 z) HZ.out H1.out.2 (Nat.le_succ _)
    exact bodyPost_ret (results_r3 (p := 2) rfl rfl e1) rfl ⟨by rw [HR.out]; try rfl, e2.drew⟩
set_option maxRecDepth 100000 in
set_option maxHeartbeats 16000000 in
theorem drk_27 (N : Nat) (ih : DRkN N) (t : Tm) (A : Option Addr) (ca : Nat) (B : Option Addr) (cb : Nat) (K : Option Addr) (ck : Nat) (w : World) (hN : cnt t ≤ N + 1) (hat : TmAt w t A B K) (hwf : WfT t) (hgd : goodT false t = true) (hk : t.kind = 27) :
    Calls Tryz.prog 66 #[tmVal t A ca B cb K ck] w fun e w' => e = .returned (r3v (rkT t)) ∧ Below w.heap.size w w' := by
  obtain ⟨W1, hW1⟩ : ∃ W1, W1 = (w.alloc (.cells (tmCells t A ca B cb K ck) TTm)).alloc (.cells #[.int .i64 0, .int .i64 0, .int .i64 0] TR3) := ⟨_, rfl⟩
  have hb1 : Below w.heap.size w W1 := by rw [hW1]; exact ((Below.refl _ _).alloc (Nat.le_refl _) _).alloc (by simp) _
  have hx1 : W1.heap[w.heap.size]? = some (.cells (tmCells t A ca B cb K ck) TTm (0, 0)) := by rw [hW1]; exact (Below.heap_alloc _ _ _ (by simp)).trans (heap_alloc_new w _)
  have hz1 : W1.heap[w.heap.size + 1]? = some (.cells #[.int .i64 0, .int .i64 0, .int .i64 0] TR3 (0, 0)) := by rw [hW1]; exact heap_new2 _ _ _
  have HW1 := Lib.hid hW1
  have H1 := Lib.hid (And.intro hz1 hb1)
  have HT := Lib.hid (And.intro (hat.on hb1) (And.intro hwf (And.intro hgd hN)))
  have IH := Lib.hid ih
  have KC : Hid (∀ W, Below W1.heap.size W1 W → W.cell? ⟨w.heap.size, 0, none⟩ = some (.int .i64 t.kind) ∧ W.cell? ⟨w.heap.size, 1, none⟩ = some (.string t.text) ∧ W.cell? ⟨w.heap.size, 4, none⟩ = some (.slice B t.at_.length cb) ∧ W.cell? ⟨w.heap.size, 5, none⟩ = some (.slice K t.kids.length ck) ∧ w.heap.size < W.heap.size) := Lib.hid fun W h => by
    have hh := (h.block _ (heap_lt hx1)).trans hx1
    exact ⟨cell_at hh rfl, cell_at hh rfl, cell_at hh rfl, cell_at hh rfl, heap_lt hh⟩
  clear hW1 hz1 hb1 hx1
  obtain ⟨k0, k1, k4, k5, kl⟩ := KC.out W1 (Below.refl _ _)
  have hz := H1.out.1
  have z0 := cell_at hz (j := 0) rfl
  have z1 := cell_at hz (j := 1) rfl
  have z2 := cell_at hz (j := 2) rfl
  have fz := unfrozen hz
  have HZ := Lib.hid hz
  clear hz
  obtain ⟨x, hks, fx⟩ := one_kid hgd (c := 118) (by rw [hk]; decide) (by omega) (by omega) (by omega)
  obtain ⟨bk, ok, hKe, px⟩ := HT.out.1.kids.get (i := 0) (t := x) (by rw [hks]; rfl)
  subst hKe
  rw [Nat.zero_add, Nat.zero_mul, Nat.add_zero] at px
  have SX : Hid (WfT x ∧ goodT false x = true ∧ cnt x ≤ N) := Lib.hid ⟨hwf.node.each x (by rw [hks]; simp), good_sub hgd (by omega) (i := 0) (by rw [hks]; rfl), by have h1 := cnt_kid (t := t) (i := 0) (k := x) (by rw [hks]; rfl); omega⟩
  obtain ⟨Ax, cax, Bx, cbx, Kx, ckx, xl, x0, x1, x2, x3, x4, x5, hatx⟩ := px.cells
  have HAx := Lib.hid hatx
  have hkl : t.kids.length = 1 := by rw [hks]; rfl
  have HR : Hid (rkT t = ⟨64, (rkT x).c, (rkT x).b⟩) := Lib.hid (by rw [rkT_eq]; unfold rkK; rw [if_neg (by omega)]; rw [if_neg (by omega)]; rw [if_neg (by omega)]; rw [if_neg (by omega)]; rw [if_neg (by omega)]; rw [if_neg (by omega)]; rw [if_pos (by omega)]; rw [hks]; rfl)
  have kk20 : (t.kind == 20) = false := by rw [hk]; rfl
  have kk28 : (t.kind == 28) = false := by rw [hk]; rfl
  have kk30 : (t.kind == 30) = false := by rw [hk]; rfl
  have kk32 : (t.kind == 32) = false := by rw [hk]; rfl
  have kk39 : (t.kind == 39) = false := by rw [hk]; rfl
  have kk40 : (t.kind == 40) = false := by rw [hk]; rfl
  have kk42 : (t.kind == 42) = false := by rw [hk]; rfl
  have kk27 : (t.kind == 27) = true := by rw [hk]; rfl
  rw [hkl] at k5
  clear hgd hwf hN hat ih hk hks hkl px fx hatx
  go_enter Tryz.func66, Tryz.ntmps66
  go_upto_region 1 with fail
  rw [← HW1.out]
  go_wp2_with fail
  refine (IH.out x Ax cax Bx cbx Kx ckx W1 SX.out.2.2 HAx.out SX.out.1 SX.out.2.1).mono ?_
  rintro e w2 ⟨rfl, hb2⟩
  have HB2 := Lib.hid (H1.out.2.then_ hb2)
  clear k0 k1 k4 k5 kl z0 z1 z2 fz x0 x1 x2 x3 x4 x5 xl
  have hz := (hb2.block _ (heap_lt H1.out.1)).trans H1.out.1
  have z0 := cell_at hz (j := 0) rfl
  have z1 := cell_at hz (j := 1) rfl
  have z2 := cell_at hz (j := 2) rfl
  have fz := unfrozen hz
  have HZ := Lib.hid hz
  clear hz
  have hl2 := heap_lt HZ.out
  clear hb2
  have ix0 := idx3_0 (rkT x)
  have ix1 := idx3_1 (rkT x)
  have ix2 := idx3_2 (rkT x)
  go_wp2_with fail
  obtain ⟨e1, e2⟩ := three (.int .i64 64) (.int .i64 (rkT x).c) (.int .i64 (rkT x).b) HZ.out HB2.out (Nat.le_succ _)
  exact bodyPost_ret (results_r3 (p := 2) rfl rfl ((Below.heap_alloc _ _ _ (by simpa [World.setCell] using hl2)).trans e1)) rfl ⟨by rw [HR.out]; try rfl, e2.alloc (by have h9 := hl2; simp [World.setCell]; omega) _⟩
set_option maxRecDepth 100000 in
set_option maxHeartbeats 16000000 in
theorem drk_36 (N : Nat) (ih : DRkN N) (t : Tm) (A : Option Addr) (ca : Nat) (B : Option Addr) (cb : Nat) (K : Option Addr) (ck : Nat) (w : World) (hN : cnt t ≤ N + 1) (hat : TmAt w t A B K) (hwf : WfT t) (hgd : goodT false t = true) (hk : t.kind = 36) :
    Calls Tryz.prog 66 #[tmVal t A ca B cb K ck] w fun e w' => e = .returned (r3v (rkT t)) ∧ Below w.heap.size w w' := by
  obtain ⟨W1, hW1⟩ : ∃ W1, W1 = (w.alloc (.cells (tmCells t A ca B cb K ck) TTm)).alloc (.cells #[.int .i64 0, .int .i64 0, .int .i64 0] TR3) := ⟨_, rfl⟩
  have hb1 : Below w.heap.size w W1 := by rw [hW1]; exact ((Below.refl _ _).alloc (Nat.le_refl _) _).alloc (by simp) _
  have hx1 : W1.heap[w.heap.size]? = some (.cells (tmCells t A ca B cb K ck) TTm (0, 0)) := by rw [hW1]; exact (Below.heap_alloc _ _ _ (by simp)).trans (heap_alloc_new w _)
  have hz1 : W1.heap[w.heap.size + 1]? = some (.cells #[.int .i64 0, .int .i64 0, .int .i64 0] TR3 (0, 0)) := by rw [hW1]; exact heap_new2 _ _ _
  have HW1 := Lib.hid hW1
  have H1 := Lib.hid (And.intro hz1 hb1)
  have HT := Lib.hid (And.intro (hat.on hb1) (And.intro hwf (And.intro hgd hN)))
  have IH := Lib.hid ih
  have KC : Hid (∀ W, Below W1.heap.size W1 W → W.cell? ⟨w.heap.size, 0, none⟩ = some (.int .i64 t.kind) ∧ W.cell? ⟨w.heap.size, 1, none⟩ = some (.string t.text) ∧ W.cell? ⟨w.heap.size, 4, none⟩ = some (.slice B t.at_.length cb) ∧ W.cell? ⟨w.heap.size, 5, none⟩ = some (.slice K t.kids.length ck) ∧ w.heap.size < W.heap.size) := Lib.hid fun W h => by
    have hh := (h.block _ (heap_lt hx1)).trans hx1
    exact ⟨cell_at hh rfl, cell_at hh rfl, cell_at hh rfl, cell_at hh rfl, heap_lt hh⟩
  clear hW1 hz1 hb1 hx1
  obtain ⟨k0, k1, k4, k5, kl⟩ := KC.out W1 (Below.refl _ _)
  have hz := H1.out.1
  have z0 := cell_at hz (j := 0) rfl
  have z1 := cell_at hz (j := 1) rfl
  have z2 := cell_at hz (j := 2) rfl
  have fz := unfrozen hz
  have HZ := Lib.hid hz
  clear hz
  obtain ⟨x, y, hks, fx, fy⟩ := two_kids hgd (c := 118) (d := 118) (by rw [hk]; decide) (by omega) (by omega) (by omega)
  obtain ⟨bk, ok, hKe, px⟩ := HT.out.1.kids.get (i := 0) (t := x) (by rw [hks]; rfl)
  obtain ⟨bk', ok', hKe', py⟩ := HT.out.1.kids.get (i := 1) (t := y) (by rw [hks]; rfl)
  rw [hKe] at hKe'
  simp only [Option.some.injEq, Addr.mk.injEq, and_true] at hKe'
  obtain ⟨rfl, rfl⟩ := hKe'
  subst hKe
  rw [Nat.zero_add, Nat.zero_mul, Nat.add_zero] at px
  rw [Nat.zero_add, Nat.one_mul] at py
  have SX : Hid (WfT x ∧ goodT false x = true ∧ cnt x ≤ N) := Lib.hid ⟨hwf.node.each x (by rw [hks]; simp), good_sub hgd (by omega) (i := 0) (by rw [hks]; rfl), by have h1 := cnt_kid (t := t) (i := 0) (k := x) (by rw [hks]; rfl); omega⟩
  obtain ⟨Ax, cax, Bx, cbx, Kx, ckx, xl, x0, x1, x2, x3, x4, x5, hatx⟩ := px.cells
  have HAx := Lib.hid hatx
  have SY : Hid (WfT y ∧ goodT false y = true ∧ cnt y ≤ N) := Lib.hid ⟨hwf.node.each y (by rw [hks]; simp), good_sub hgd (by omega) (i := 1) (by rw [hks]; rfl), by have h1 := cnt_kid (t := t) (i := 1) (k := y) (by rw [hks]; rfl); omega⟩
  obtain ⟨Ay, cay, By, cby, Ky, cky, yl, y0, y1, y2, y3, y4, y5, haty⟩ := py.cells
  have HAy := Lib.hid haty
  have hkl : t.kids.length = 2 := by rw [hks]; rfl
  have HR : Hid (rkT t = rkT x) := Lib.hid (by rw [rkT_eq]; unfold rkK; rw [if_neg (by omega)]; rw [if_neg (by omega)]; rw [if_neg (by omega)]; rw [if_neg (by omega)]; rw [if_neg (by omega)]; rw [if_neg (by omega)]; rw [if_neg (by omega)]; rw [if_pos (by omega)]; rw [hks]; rfl)
  have kk20 : (t.kind == 20) = false := by rw [hk]; rfl
  have kk28 : (t.kind == 28) = false := by rw [hk]; rfl
  have kk30 : (t.kind == 30) = false := by rw [hk]; rfl
  have kk32 : (t.kind == 32) = false := by rw [hk]; rfl
  have kk39 : (t.kind == 39) = false := by rw [hk]; rfl
  have kk40 : (t.kind == 40) = false := by rw [hk]; rfl
  have kk42 : (t.kind == 42) = false := by rw [hk]; rfl
  have kk27 : (t.kind == 27) = false := by rw [hk]; rfl
  have kk36 : (t.kind == 36) = true := by rw [hk]; rfl
  rw [hkl] at k5
  clear hgd hwf hN hat ih hk hks hkl px fx hatx py fy haty
  clear y0 y1 y2 y3 y4 y5 yl
  go_enter Tryz.func66, Tryz.ntmps66
  go_upto_region 1 with fail
  rw [← HW1.out]
  go_wp2_with fail
  refine (IH.out x Ax cax Bx cbx Kx ckx W1 SX.out.2.2 HAx.out SX.out.1 SX.out.2.1).mono ?_
  rintro e w2 ⟨rfl, hb2⟩
  have HB2 := Lib.hid (H1.out.2.then_ hb2)
  clear k0 k1 k4 k5 kl z0 z1 z2 fz x0 x1 x2 x3 x4 x5 xl
  have hz := (hb2.block _ (heap_lt H1.out.1)).trans H1.out.1
  have z0 := cell_at hz (j := 0) rfl
  have z1 := cell_at hz (j := 1) rfl
  have z2 := cell_at hz (j := 2) rfl
  have fz := unfrozen hz
  have HZ := Lib.hid hz
  clear hz
  have hl2 := heap_lt HZ.out
  clear hb2
  go_wp2_with fail
  obtain ⟨e1, e2⟩ := three (.int .i64 (rkT x).a) (.int .i64 (rkT x).b) (.int .i64 (rkT x).c) HZ.out HB2.out (Nat.le_succ _)
  exact bodyPost_ret (results_r3 (p := 2) rfl rfl e1) rfl ⟨by rw [HR.out]; try rfl, e2⟩
set_option maxRecDepth 100000 in
set_option maxHeartbeats 16000000 in
theorem drk_no (N : Nat) (ih : DRkN N) (t : Tm) (A : Option Addr) (ca : Nat) (B : Option Addr) (cb : Nat) (K : Option Addr) (ck : Nat) (w : World) (hN : cnt t ≤ N + 1) (hat : TmAt w t A B K) (hwf : WfT t) (hgd : goodT false t = true) (hk : ¬ t.kind = 20 ∧ ¬ t.kind = 28 ∧ ¬ t.kind = 30 ∧ ¬ t.kind = 32 ∧ ¬ t.kind = 39 ∧ ¬ t.kind = 40 ∧ ¬ t.kind = 42 ∧ ¬ t.kind = 27 ∧ ¬ t.kind = 36 ∧ ¬ t.kind = 37) :
    Calls Tryz.prog 66 #[tmVal t A ca B cb K ck] w fun e w' => e = .returned (r3v (rkT t)) ∧ Below w.heap.size w w' := by
  obtain ⟨W1, hW1⟩ : ∃ W1, W1 = (w.alloc (.cells (tmCells t A ca B cb K ck) TTm)).alloc (.cells #[.int .i64 0, .int .i64 0, .int .i64 0] TR3) := ⟨_, rfl⟩
  have hb1 : Below w.heap.size w W1 := by rw [hW1]; exact ((Below.refl _ _).alloc (Nat.le_refl _) _).alloc (by simp) _
  have hx1 : W1.heap[w.heap.size]? = some (.cells (tmCells t A ca B cb K ck) TTm (0, 0)) := by rw [hW1]; exact (Below.heap_alloc _ _ _ (by simp)).trans (heap_alloc_new w _)
  have hz1 : W1.heap[w.heap.size + 1]? = some (.cells #[.int .i64 0, .int .i64 0, .int .i64 0] TR3 (0, 0)) := by rw [hW1]; exact heap_new2 _ _ _
  have HW1 := Lib.hid hW1
  have H1 := Lib.hid (And.intro hz1 hb1)
  have HT := Lib.hid (And.intro (hat.on hb1) (And.intro hwf (And.intro hgd hN)))
  have IH := Lib.hid ih
  have KC : Hid (∀ W, Below W1.heap.size W1 W → W.cell? ⟨w.heap.size, 0, none⟩ = some (.int .i64 t.kind) ∧ W.cell? ⟨w.heap.size, 1, none⟩ = some (.string t.text) ∧ W.cell? ⟨w.heap.size, 4, none⟩ = some (.slice B t.at_.length cb) ∧ W.cell? ⟨w.heap.size, 5, none⟩ = some (.slice K t.kids.length ck) ∧ w.heap.size < W.heap.size) := Lib.hid fun W h => by
    have hh := (h.block _ (heap_lt hx1)).trans hx1
    exact ⟨cell_at hh rfl, cell_at hh rfl, cell_at hh rfl, cell_at hh rfl, heap_lt hh⟩
  clear hW1 hz1 hb1 hx1
  obtain ⟨k0, k1, k4, k5, kl⟩ := KC.out W1 (Below.refl _ _)
  have hz := H1.out.1
  have z0 := cell_at hz (j := 0) rfl
  have z1 := cell_at hz (j := 1) rfl
  have z2 := cell_at hz (j := 2) rfl
  have fz := unfrozen hz
  have HZ := Lib.hid hz
  clear hz
  obtain ⟨g20, g28, g30, g32, g39, g40, g42, g27, g36, g37⟩ := hk
  have HR : Hid (rkT t = inf3) := Lib.hid (by rw [rkT_eq]; unfold rkK; rw [if_neg g20, if_neg g28, if_neg (by omega), if_neg g39, if_neg g40, if_neg g42, if_neg g27, if_neg g36, if_neg g37])
  have kk20 : (t.kind == 20) = false := beq_no g20
  have kk28 : (t.kind == 28) = false := beq_no g28
  have kk30 : (t.kind == 30) = false := beq_no g30
  have kk32 : (t.kind == 32) = false := beq_no g32
  have kk39 : (t.kind == 39) = false := beq_no g39
  have kk40 : (t.kind == 40) = false := beq_no g40
  have kk42 : (t.kind == 42) = false := beq_no g42
  have kk27 : (t.kind == 27) = false := beq_no g27
  have kk36 : (t.kind == 36) = false := beq_no g36
  have kk37 : (t.kind == 37) = false := beq_no g37
  clear g20 g28 g30 g32 g39 g40 g42 g27 g36 g37
  clear hgd hwf hN hat ih
  go_enter Tryz.func66, Tryz.ntmps66
  go_upto_region 1 with fail
  rw [← HW1.out]
  go_wp2_with fail
  obtain ⟨e1, e2⟩ := three (.int .i64 64) (.int .i64 64) (.int .i64 64) HZ.out H1.out.2 (Nat.le_succ _)
  exact bodyPost_ret (results_r3 (p := 2) rfl rfl e1) rfl ⟨by rw [HR.out]; try rfl, e2⟩
end Go.Proofs.YtebiojmfieoncaaGreat
