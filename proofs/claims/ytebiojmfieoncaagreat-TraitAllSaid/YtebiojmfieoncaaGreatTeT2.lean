/- trait.ranks: by kinds. Condition: sizes within reach. -/
import Derived.Test.YtebiojmfieoncaaGreatTeT1
namespace Go.Proofs.YtebiojmfieoncaaGreat
open Go.RowKit

theorem idx3_0 (r : R3) (w : World) : (Instr.index TR3 (r3v r) (.int .i64 0)).run Tryz.prog w = .ok (.int .i64 r.a) w := by kernel_rfl
theorem idx3_1 (r : R3) (w : World) : (Instr.index TR3 (r3v r) (.int .i64 1)).run Tryz.prog w = .ok (.int .i64 r.b) w := by kernel_rfl
theorem idx3_2 (r : R3) (w : World) : (Instr.index TR3 (r3v r) (.int .i64 2)).run Tryz.prog w = .ok (.int .i64 r.c) w := by kernel_rfl
/-- 'ranks' on terms of at most N nodes -/
def RkN (N : Nat) : Prop := ∀ (t : Tm) (b off : Nat) (w : World), cnt t ≤ N → PtrAt w b off t → WfT t → goodT false t = true → Calls Tryz.prog 65 #[.pointer (some ⟨b, off, none⟩)] w fun e w' => e = .returned (r3v (rkT t)) ∧ Below w.heap.size w w'
set_option maxRecDepth 100000 in
set_option maxHeartbeats 16000000 in
theorem rk_20 (N : Nat) (ih : RkN N) (t : Tm) (b off : Nat) (w : World) (hN : cnt t ≤ N + 1) (hp : PtrAt w b off t) (hwf : WfT t) (hgd : goodT false t = true) (hk : t.kind = 20) :
    Calls Tryz.prog 65 #[.pointer (some ⟨b, off, none⟩)] w fun e w' => e = .returned (r3v (rkT t)) ∧ Below w.heap.size w w' := by
  obtain ⟨A, ca, B, cb, K, ck, hlt, p0, p1, p2, p3, p4, p5, hat⟩ := hp.cells
  obtain ⟨W1, hW1⟩ : ∃ W1, W1 = w.alloc (.cells #[.int .i64 0, .int .i64 0, .int .i64 0] TR3) := ⟨_, rfl⟩
  have hz1 : W1.heap[w.heap.size]? = some (.cells #[.int .i64 0, .int .i64 0, .int .i64 0] TR3 (0, 0)) := by rw [hW1]; exact heap_alloc_new w _
  have hb1 : Below w.heap.size w W1 := by rw [hW1]; exact (Below.refl _ _).alloc (Nat.le_refl _) _
  have HW1 := Lib.hid hW1
  have H1 := Lib.hid (And.intro hz1 hb1)
  have HT := Lib.hid (And.intro hat (And.intro hwf (And.intro hgd hN)))
  have IH := Lib.hid ih
  have KC : Hid (∀ W, Below w.heap.size w W → W.cell? ⟨b, off, none⟩ = some (.int .i64 t.kind) ∧ W.cell? ⟨b, off + 1, none⟩ = some (.string t.text) ∧ W.cell? ⟨b, off + 3, none⟩ = some (.slice A t.sh.length ca) ∧ W.cell? ⟨b, off + 4, none⟩ = some (.slice B t.at_.length cb) ∧ W.cell? ⟨b, off + 5, none⟩ = some (.slice K t.kids.length ck) ∧ b < W.heap.size) := Lib.hid fun W h => by
    have key : ∀ j v, w.cell? ⟨b, j, none⟩ = some v → W.cell? ⟨b, j, none⟩ = some v := fun j v hv => (h.cell (p := ⟨b, j, none⟩) hlt).trans hv
    exact ⟨key _ _ p0, key _ _ p1, key _ _ p3, key _ _ p4, key _ _ p5, Nat.lt_of_lt_of_le hlt h.size⟩
  clear hW1 hz1 hb1 p0 p1 p2 p3 p4 p5 hat hlt
  obtain ⟨k0, k1, k3, k4, k5, kl⟩ := KC.out W1 H1.out.2
  have hz := H1.out.1
  have z0 := cell_at hz (j := 0) rfl
  have z1 := cell_at hz (j := 1) rfl
  have z2 := cell_at hz (j := 2) rfl
  have fz := unfrozen hz
  have HZ := Lib.hid hz
  clear hz
  have ht := good_text hgd
  unfold textB at ht
  rw [hk, if_neg (by decide), if_pos rfl, decide_eq_true_eq] at ht
  obtain ⟨m, hm, hlt⟩ := op_le ht
  have HR : Hid (rkT t = ⟨(entAt m).a, (entAt m).b, (entAt m).c⟩) := Lib.hid (by rw [rkT_eq]; unfold rkK; rw [if_pos (by omega)]; unfold rkE; rw [hm, Nat.add_sub_cancel])
  have HOF := Lib.hid (of_any t.text W1 hwf.node.text)
  rw [hm] at HOF
  have kk20 : (t.kind == 20) = true := by rw [hk]; rfl
  clear hgd hwf hN hp ih hk ht hm
  go_enter Tryz.func65, Tryz.ntmps65
  go_upto_region 1 with fail
  rw [← HW1.out]
  go_wp2_with fail
  refine HOF.out.mono ?_
  rintro e w2 ⟨rfl, hb2⟩
  have HB2 := Lib.hid (H1.out.2.then_ hb2)
  clear k0 k1 k3 k4 k5 kl z0 z1 z2 fz
  have hz := (hb2.block _ (heap_lt H1.out.1)).trans H1.out.1
  have z0 := cell_at hz (j := 0) rfl
  have z1 := cell_at hz (j := 1) rfl
  have z2 := cell_at hz (j := 2) rfl
  have fz := unfrozen hz
  have HZ := Lib.hid hz
  clear hz
  have HZ2 := Lib.hid HZ.out
  clear hb2
  go_wp2_with fail
  refine (info_any m hlt w2).mono ?_
  rintro e w3 ⟨rfl, hb3⟩
  have HB3 := Lib.hid (HB2.out.then_ hb3)
  clear z0 z1 z2 fz HZ
  have hz := (hb3.block _ (heap_lt HZ2.out)).trans HZ2.out
  have z0 := cell_at hz (j := 0) rfl
  have z1 := cell_at hz (j := 1) rfl
  have z2 := cell_at hz (j := 2) rfl
  have fz := unfrozen hz
  have HZ := Lib.hid hz
  clear hz
  have hl2 := heap_lt HZ.out
  clear hb3
  go_wp2_with fail
  obtain ⟨e1, e2⟩ := three (.int .i64 (entAt m).a) (.int .i64 (entAt m).b) (.int .i64 (entAt m).c) HZ.out HB3.out (Nat.le_refl _)
  exact bodyPost_ret (results_r3 (p := 2) rfl rfl ((Below.heap_alloc _ _ _ (by simpa [World.setCell] using hl2)).trans e1)) rfl ⟨by rw [HR.out], e2.alloc (by simpa [World.setCell] using Nat.le_of_lt hl2) _⟩
set_option maxRecDepth 100000 in
set_option maxHeartbeats 16000000 in
theorem rk_28 (N : Nat) (ih : RkN N) (t : Tm) (b off : Nat) (w : World) (hN : cnt t ≤ N + 1) (hp : PtrAt w b off t) (hwf : WfT t) (hgd : goodT false t = true) (hk : t.kind = 28) :
    Calls Tryz.prog 65 #[.pointer (some ⟨b, off, none⟩)] w fun e w' => e = .returned (r3v (rkT t)) ∧ Below w.heap.size w w' := by
  obtain ⟨A, ca, B, cb, K, ck, hlt, p0, p1, p2, p3, p4, p5, hat⟩ := hp.cells
  obtain ⟨W1, hW1⟩ : ∃ W1, W1 = w.alloc (.cells #[.int .i64 0, .int .i64 0, .int .i64 0] TR3) := ⟨_, rfl⟩
  have hz1 : W1.heap[w.heap.size]? = some (.cells #[.int .i64 0, .int .i64 0, .int .i64 0] TR3 (0, 0)) := by rw [hW1]; exact heap_alloc_new w _
  have hb1 : Below w.heap.size w W1 := by rw [hW1]; exact (Below.refl _ _).alloc (Nat.le_refl _) _
  have HW1 := Lib.hid hW1
  have H1 := Lib.hid (And.intro hz1 hb1)
  have HT := Lib.hid (And.intro hat (And.intro hwf (And.intro hgd hN)))
  have IH := Lib.hid ih
  have KC : Hid (∀ W, Below w.heap.size w W → W.cell? ⟨b, off, none⟩ = some (.int .i64 t.kind) ∧ W.cell? ⟨b, off + 1, none⟩ = some (.string t.text) ∧ W.cell? ⟨b, off + 3, none⟩ = some (.slice A t.sh.length ca) ∧ W.cell? ⟨b, off + 4, none⟩ = some (.slice B t.at_.length cb) ∧ W.cell? ⟨b, off + 5, none⟩ = some (.slice K t.kids.length ck) ∧ b < W.heap.size) := Lib.hid fun W h => by
    have key : ∀ j v, w.cell? ⟨b, j, none⟩ = some v → W.cell? ⟨b, j, none⟩ = some v := fun j v hv => (h.cell (p := ⟨b, j, none⟩) hlt).trans hv
    exact ⟨key _ _ p0, key _ _ p1, key _ _ p3, key _ _ p4, key _ _ p5, Nat.lt_of_lt_of_le hlt h.size⟩
  clear hW1 hz1 hb1 p0 p1 p2 p3 p4 p5 hat hlt
  obtain ⟨k0, k1, k3, k4, k5, kl⟩ := KC.out W1 H1.out.2
  have hz := H1.out.1
  have z0 := cell_at hz (j := 0) rfl
  have z1 := cell_at hz (j := 1) rfl
  have z2 := cell_at hz (j := 2) rfl
  have fz := unfrozen hz
  have HZ := Lib.hid hz
  clear hz
  obtain ⟨x, y, hks, fx, fy⟩ := two_kids hgd (c := 118) (d := 118) (by rw [hk]; decide) (by omega) (by omega) (by omega)
  obtain ⟨bk, ok, hKe, px⟩ := HT.out.1.kids.get (i := 0) (t := x) (by rw [hks]; rfl)
  obtain ⟨bk', ok', hKe', py⟩ := HT.out.1.kids.get (i := 1) (t := y) (by rw [hks]; rfl)
  rw [hKe] at hKe'
  simp only [Option.some.injEq, Addr.mk.injEq, and_true] at hKe'
  obtain ⟨rfl, rfl⟩ := hKe'
  subst hKe
  rw [Nat.zero_add, Nat.zero_mul, Nat.add_zero] at px
  rw [Nat.zero_add, Nat.one_mul] at py
  have SX : Hid (WfT x ∧ goodT false x = true ∧ cnt x ≤ N) := Lib.hid ⟨hwf.node.each x (by rw [hks]; simp), good_sub hgd (by omega) (i := 0) (by rw [hks]; rfl), by have h1 := cnt_kid (t := t) (i := 0) (k := x) (by rw [hks]; rfl); omega⟩
  have SY : Hid (WfT y ∧ goodT false y = true ∧ cnt y ≤ N) := Lib.hid ⟨hwf.node.each y (by rw [hks]; simp), good_sub hgd (by omega) (i := 1) (by rw [hks]; rfl), by have h1 := cnt_kid (t := t) (i := 1) (k := y) (by rw [hks]; rfl); omega⟩
  have HPX := Lib.hid (px.on H1.out.2)
  have HPY := Lib.hid (py.on H1.out.2)
  have hkl : t.kids.length = 2 := by rw [hks]; rfl
  have HR : Hid (rkT t = rkT y) := Lib.hid (by rw [rkT_eq]; unfold rkK; rw [if_neg (by omega)]; rw [if_pos (by omega)]; rw [hks]; rfl)
  have kk20 : (t.kind == 20) = false := by rw [hk]; rfl
  have kk28 : (t.kind == 28) = true := by rw [hk]; rfl
  rw [hkl] at k5
  clear hgd hwf hN hp ih hk hks hkl px fx py fy
  go_enter Tryz.func65, Tryz.ntmps65
  go_upto_region 1 with fail
  rw [← HW1.out]
  go_wp2_with fail
  refine (IH.out y bk (ok + 6) W1 SY.out.2.2 HPY.out SY.out.1 SY.out.2.1).mono ?_
  rintro e w2 ⟨rfl, hb2⟩
  have HB2 := Lib.hid (H1.out.2.then_ hb2)
  clear k0 k1 k3 k4 k5 kl z0 z1 z2 fz
  have hz := (hb2.block _ (heap_lt H1.out.1)).trans H1.out.1
  have z0 := cell_at hz (j := 0) rfl
  have z1 := cell_at hz (j := 1) rfl
  have z2 := cell_at hz (j := 2) rfl
  have fz := unfrozen hz
  have HZ := Lib.hid hz
  clear hz
  have hl2 := heap_lt HZ.out
  clear hb2
  go_wp2_with fail
  obtain ⟨e1, e2⟩ := three (.int .i64 (rkT y).a) (.int .i64 (rkT y).b) (.int .i64 (rkT y).c) HZ.out HB2.out (Nat.le_refl _)
  exact bodyPost_ret (results_r3 (p := 2) rfl rfl e1) rfl ⟨by rw [HR.out]; try rfl, e2⟩
set_option maxRecDepth 100000 in
set_option maxHeartbeats 16000000 in
theorem rk_30 (N : Nat) (ih : RkN N) (t : Tm) (b off : Nat) (w : World) (hN : cnt t ≤ N + 1) (hp : PtrAt w b off t) (hwf : WfT t) (hgd : goodT false t = true) (hk : t.kind = 30) :
    Calls Tryz.prog 65 #[.pointer (some ⟨b, off, none⟩)] w fun e w' => e = .returned (r3v (rkT t)) ∧ Below w.heap.size w w' := by
  obtain ⟨A, ca, B, cb, K, ck, hlt, p0, p1, p2, p3, p4, p5, hat⟩ := hp.cells
  obtain ⟨W1, hW1⟩ : ∃ W1, W1 = w.alloc (.cells #[.int .i64 0, .int .i64 0, .int .i64 0] TR3) := ⟨_, rfl⟩
  have hz1 : W1.heap[w.heap.size]? = some (.cells #[.int .i64 0, .int .i64 0, .int .i64 0] TR3 (0, 0)) := by rw [hW1]; exact heap_alloc_new w _
  have hb1 : Below w.heap.size w W1 := by rw [hW1]; exact (Below.refl _ _).alloc (Nat.le_refl _) _
  have HW1 := Lib.hid hW1
  have H1 := Lib.hid (And.intro hz1 hb1)
  have HT := Lib.hid (And.intro hat (And.intro hwf (And.intro hgd hN)))
  have IH := Lib.hid ih
  have KC : Hid (∀ W, Below w.heap.size w W → W.cell? ⟨b, off, none⟩ = some (.int .i64 t.kind) ∧ W.cell? ⟨b, off + 1, none⟩ = some (.string t.text) ∧ W.cell? ⟨b, off + 3, none⟩ = some (.slice A t.sh.length ca) ∧ W.cell? ⟨b, off + 4, none⟩ = some (.slice B t.at_.length cb) ∧ W.cell? ⟨b, off + 5, none⟩ = some (.slice K t.kids.length ck) ∧ b < W.heap.size) := Lib.hid fun W h => by
    have key : ∀ j v, w.cell? ⟨b, j, none⟩ = some v → W.cell? ⟨b, j, none⟩ = some v := fun j v hv => (h.cell (p := ⟨b, j, none⟩) hlt).trans hv
    exact ⟨key _ _ p0, key _ _ p1, key _ _ p3, key _ _ p4, key _ _ p5, Nat.lt_of_lt_of_le hlt h.size⟩
  clear hW1 hz1 hb1 p0 p1 p2 p3 p4 p5 hat hlt
  obtain ⟨k0, k1, k3, k4, k5, kl⟩ := KC.out W1 H1.out.2
  have hz := H1.out.1
  have z0 := cell_at hz (j := 0) rfl
  have z1 := cell_at hz (j := 1) rfl
  have z2 := cell_at hz (j := 2) rfl
  have fz := unfrozen hz
  have HZ := Lib.hid hz
  clear hz
  obtain ⟨x, y, hks, fx, fy⟩ := two_kids hgd (c := 118) (d := 118) (by rw [hk]; decide) (by omega) (by omega) (by omega)
  obtain ⟨bk, ok, hKe, px⟩ := HT.out.1.kids.get (i := 0) (t := x) (by rw [hks]; rfl)
  obtain ⟨bk', ok', hKe', py⟩ := HT.out.1.kids.get (i := 1) (t := y) (by rw [hks]; rfl)
  rw [hKe] at hKe'
  simp only [Option.some.injEq, Addr.mk.injEq, and_true] at hKe'
  obtain ⟨rfl, rfl⟩ := hKe'
  subst hKe
  rw [Nat.zero_add, Nat.zero_mul, Nat.add_zero] at px
  rw [Nat.zero_add, Nat.one_mul] at py
  have SX : Hid (WfT x ∧ goodT false x = true ∧ cnt x ≤ N) := Lib.hid ⟨hwf.node.each x (by rw [hks]; simp), good_sub hgd (by omega) (i := 0) (by rw [hks]; rfl), by have h1 := cnt_kid (t := t) (i := 0) (k := x) (by rw [hks]; rfl); omega⟩
  have SY : Hid (WfT y ∧ goodT false y = true ∧ cnt y ≤ N) := Lib.hid ⟨hwf.node.each y (by rw [hks]; simp), good_sub hgd (by omega) (i := 1) (by rw [hks]; rfl), by have h1 := cnt_kid (t := t) (i := 1) (k := y) (by rw [hks]; rfl); omega⟩
  have HPX := Lib.hid (px.on H1.out.2)
  have HPY := Lib.hid (py.on H1.out.2)
  have hkl : t.kids.length = 2 := by rw [hks]; rfl
  have HR : Hid (rkT t = ⟨(rkT y).a, (rkT y).a, (rkT y).a⟩) := Lib.hid (by rw [rkT_eq]; unfold rkK; rw [if_neg (by omega)]; rw [if_neg (by omega)]; rw [if_pos (by omega)]; rw [hks]; rfl)
  have kk20 : (t.kind == 20) = false := by rw [hk]; rfl
  have kk28 : (t.kind == 28) = false := by rw [hk]; rfl
  have kk30 : (t.kind == 30) = true := by rw [hk]; rfl
  rw [hkl] at k5
  clear hgd hwf hN hp ih hk hks hkl px fx py fy
  go_enter Tryz.func65, Tryz.ntmps65
  go_upto_region 1 with fail
  rw [← HW1.out]
  go_wp2_with fail
  refine (IH.out y bk (ok + 6) W1 SY.out.2.2 HPY.out SY.out.1 SY.out.2.1).mono ?_
  rintro e w2 ⟨rfl, hb2⟩
  have HB2 := Lib.hid (H1.out.2.then_ hb2)
  clear k0 k1 k3 k4 k5 kl z0 z1 z2 fz
  have hz := (hb2.block _ (heap_lt H1.out.1)).trans H1.out.1
  have z0 := cell_at hz (j := 0) rfl
  have z1 := cell_at hz (j := 1) rfl
  have z2 := cell_at hz (j := 2) rfl
  have fz := unfrozen hz
  have HZ := Lib.hid hz
  clear hz
  have hl2 := heap_lt HZ.out
  clear hb2
  have ix0 := idx3_0 (rkT y)
  have ix1 := idx3_1 (rkT y)
  have ix2 := idx3_2 (rkT y)
  have HZ2 := Lib.hid HZ.out
  go_wp2_with fail
  refine (tall_any (rkT y).a w2).mono ?_
  rintro e w3 ⟨rfl, hb3⟩
  have HB3 := Lib.hid (HB2.out.then_ hb3)
  clear z0 z1 z2 fz HZ hl2
  have hz := (hb3.block _ (heap_lt HZ2.out)).trans HZ2.out
  have z0 := cell_at hz (j := 0) rfl
  have z1 := cell_at hz (j := 1) rfl
  have z2 := cell_at hz (j := 2) rfl
  have fz := unfrozen hz
  have HZ := Lib.hid hz
  clear hz
  clear hb3
  go_wp2_with fail
  obtain ⟨e1, e2⟩ := three (.int .i64 (rkT y).a) (.int .i64 (rkT y).a) (.int .i64 (rkT y).a) HZ.out HB3.out (Nat.le_refl _)
  exact bodyPost_ret (results_r3 (p := 2) rfl rfl e1) rfl ⟨by rw [HR.out]; try rfl, e2⟩
set_option maxRecDepth 100000 in
set_option maxHeartbeats 16000000 in
theorem rk_32 (N : Nat) (ih : RkN N) (t : Tm) (b off : Nat) (w : World) (hN : cnt t ≤ N + 1) (hp : PtrAt w b off t) (hwf : WfT t) (hgd : goodT false t = true) (hk : t.kind = 32) :
    Calls Tryz.prog 65 #[.pointer (some ⟨b, off, none⟩)] w fun e w' => e = .returned (r3v (rkT t)) ∧ Below w.heap.size w w' := by
  obtain ⟨A, ca, B, cb, K, ck, hlt, p0, p1, p2, p3, p4, p5, hat⟩ := hp.cells
  obtain ⟨W1, hW1⟩ : ∃ W1, W1 = w.alloc (.cells #[.int .i64 0, .int .i64 0, .int .i64 0] TR3) := ⟨_, rfl⟩
  have hz1 : W1.heap[w.heap.size]? = some (.cells #[.int .i64 0, .int .i64 0, .int .i64 0] TR3 (0, 0)) := by rw [hW1]; exact heap_alloc_new w _
  have hb1 : Below w.heap.size w W1 := by rw [hW1]; exact (Below.refl _ _).alloc (Nat.le_refl _) _
  have HW1 := Lib.hid hW1
  have H1 := Lib.hid (And.intro hz1 hb1)
  have HT := Lib.hid (And.intro hat (And.intro hwf (And.intro hgd hN)))
  have IH := Lib.hid ih
  have KC : Hid (∀ W, Below w.heap.size w W → W.cell? ⟨b, off, none⟩ = some (.int .i64 t.kind) ∧ W.cell? ⟨b, off + 1, none⟩ = some (.string t.text) ∧ W.cell? ⟨b, off + 3, none⟩ = some (.slice A t.sh.length ca) ∧ W.cell? ⟨b, off + 4, none⟩ = some (.slice B t.at_.length cb) ∧ W.cell? ⟨b, off + 5, none⟩ = some (.slice K t.kids.length ck) ∧ b < W.heap.size) := Lib.hid fun W h => by
    have key : ∀ j v, w.cell? ⟨b, j, none⟩ = some v → W.cell? ⟨b, j, none⟩ = some v := fun j v hv => (h.cell (p := ⟨b, j, none⟩) hlt).trans hv
    exact ⟨key _ _ p0, key _ _ p1, key _ _ p3, key _ _ p4, key _ _ p5, Nat.lt_of_lt_of_le hlt h.size⟩
  clear hW1 hz1 hb1 p0 p1 p2 p3 p4 p5 hat hlt
  obtain ⟨k0, k1, k3, k4, k5, kl⟩ := KC.out W1 H1.out.2
  have hz := H1.out.1
  have z0 := cell_at hz (j := 0) rfl
  have z1 := cell_at hz (j := 1) rfl
  have z2 := cell_at hz (j := 2) rfl
  have fz := unfrozen hz
  have HZ := Lib.hid hz
  clear hz
  obtain ⟨x, y, hks, fx, fy⟩ := two_kids hgd (c := 118) (d := 118) (by rw [hk]; decide) (by omega) (by omega) (by omega)
  obtain ⟨bk, ok, hKe, px⟩ := HT.out.1.kids.get (i := 0) (t := x) (by rw [hks]; rfl)
  obtain ⟨bk', ok', hKe', py⟩ := HT.out.1.kids.get (i := 1) (t := y) (by rw [hks]; rfl)
  rw [hKe] at hKe'
  simp only [Option.some.injEq, Addr.mk.injEq, and_true] at hKe'
  obtain ⟨rfl, rfl⟩ := hKe'
  subst hKe
  rw [Nat.zero_add, Nat.zero_mul, Nat.add_zero] at px
  rw [Nat.zero_add, Nat.one_mul] at py
  have SX : Hid (WfT x ∧ goodT false x = true ∧ cnt x ≤ N) := Lib.hid ⟨hwf.node.each x (by rw [hks]; simp), good_sub hgd (by omega) (i := 0) (by rw [hks]; rfl), by have h1 := cnt_kid (t := t) (i := 0) (k := x) (by rw [hks]; rfl); omega⟩
  have SY : Hid (WfT y ∧ goodT false y = true ∧ cnt y ≤ N) := Lib.hid ⟨hwf.node.each y (by rw [hks]; simp), good_sub hgd (by omega) (i := 1) (by rw [hks]; rfl), by have h1 := cnt_kid (t := t) (i := 1) (k := y) (by rw [hks]; rfl); omega⟩
  have HPX := Lib.hid (px.on H1.out.2)
  have HPY := Lib.hid (py.on H1.out.2)
  have hkl : t.kids.length = 2 := by rw [hks]; rfl
  have HR : Hid (rkT t = ⟨(rkT y).a, (rkT y).a, (rkT y).a⟩) := Lib.hid (by rw [rkT_eq]; unfold rkK; rw [if_neg (by omega)]; rw [if_neg (by omega)]; rw [if_pos (by omega)]; rw [hks]; rfl)
  have kk20 : (t.kind == 20) = false := by rw [hk]; rfl
  have kk28 : (t.kind == 28) = false := by rw [hk]; rfl
  have kk30 : (t.kind == 30) = false := by rw [hk]; rfl
  have kk32 : (t.kind == 32) = true := by rw [hk]; rfl
  rw [hkl] at k5
  clear hgd hwf hN hp ih hk hks hkl px fx py fy
  go_enter Tryz.func65, Tryz.ntmps65
  go_upto_region 1 with fail
  rw [← HW1.out]
  go_wp2_with fail
  refine (IH.out y bk (ok + 6) W1 SY.out.2.2 HPY.out SY.out.1 SY.out.2.1).mono ?_
  rintro e w2 ⟨rfl, hb2⟩
  have HB2 := Lib.hid (H1.out.2.then_ hb2)
  clear k0 k1 k3 k4 k5 kl z0 z1 z2 fz
  have hz := (hb2.block _ (heap_lt H1.out.1)).trans H1.out.1
  have z0 := cell_at hz (j := 0) rfl
  have z1 := cell_at hz (j := 1) rfl
  have z2 := cell_at hz (j := 2) rfl
  have fz := unfrozen hz
  have HZ := Lib.hid hz
  clear hz
  have hl2 := heap_lt HZ.out
  clear hb2
  have ix0 := idx3_0 (rkT y)
  have ix1 := idx3_1 (rkT y)
  have ix2 := idx3_2 (rkT y)
  have HZ2 := Lib.hid HZ.out
  go_wp2_with fail
  refine (tall_any (rkT y).a w2).mono ?_
  rintro e w3 ⟨rfl, hb3⟩
  have HB3 := Lib.hid (HB2.out.then_ hb3)
  clear z0 z1 z2 fz HZ hl2
  have hz := (hb3.block _ (heap_lt HZ2.out)).trans HZ2.out
  have z0 := cell_at hz (j := 0) rfl
  have z1 := cell_at hz (j := 1) rfl
  have z2 := cell_at hz (j := 2) rfl
  have fz := unfrozen hz
  have HZ := Lib.hid hz
  clear hz
  clear hb3
  go_wp2_with fail
  obtain ⟨e1, e2⟩ := three (.int .i64 (rkT y).a) (.int .i64 (rkT y).a) (.int .i64 (rkT y).a) HZ.out HB3.out (Nat.le_refl _)
  exact bodyPost_ret (results_r3 (p := 2) rfl rfl e1) rfl ⟨by rw [HR.out]; try rfl, e2⟩
set_option maxRecDepth 100000 in
set_option maxHeartbeats 16000000 in
theorem rk_39 (N : Nat) (ih : RkN N) (t : Tm) (b off : Nat) (w : World) (hN : cnt t ≤ N + 1) (hp : PtrAt w b off t) (hwf : WfT t) (hgd : goodT false t = true) (hk : t.kind = 39) :
    Calls Tryz.prog 65 #[.pointer (some ⟨b, off, none⟩)] w fun e w' => e = .returned (r3v (rkT t)) ∧ Below w.heap.size w w' := by
  obtain ⟨A, ca, B, cb, K, ck, hlt, p0, p1, p2, p3, p4, p5, hat⟩ := hp.cells
  obtain ⟨W1, hW1⟩ : ∃ W1, W1 = w.alloc (.cells #[.int .i64 0, .int .i64 0, .int .i64 0] TR3) := ⟨_, rfl⟩
  have hz1 : W1.heap[w.heap.size]? = some (.cells #[.int .i64 0, .int .i64 0, .int .i64 0] TR3 (0, 0)) := by rw [hW1]; exact heap_alloc_new w _
  have hb1 : Below w.heap.size w W1 := by rw [hW1]; exact (Below.refl _ _).alloc (Nat.le_refl _) _
  have HW1 := Lib.hid hW1
  have H1 := Lib.hid (And.intro hz1 hb1)
  have HT := Lib.hid (And.intro hat (And.intro hwf (And.intro hgd hN)))
  have IH := Lib.hid ih
  have KC : Hid (∀ W, Below w.heap.size w W → W.cell? ⟨b, off, none⟩ = some (.int .i64 t.kind) ∧ W.cell? ⟨b, off + 1, none⟩ = some (.string t.text) ∧ W.cell? ⟨b, off + 3, none⟩ = some (.slice A t.sh.length ca) ∧ W.cell? ⟨b, off + 4, none⟩ = some (.slice B t.at_.length cb) ∧ W.cell? ⟨b, off + 5, none⟩ = some (.slice K t.kids.length ck) ∧ b < W.heap.size) := Lib.hid fun W h => by
    have key : ∀ j v, w.cell? ⟨b, j, none⟩ = some v → W.cell? ⟨b, j, none⟩ = some v := fun j v hv => (h.cell (p := ⟨b, j, none⟩) hlt).trans hv
    exact ⟨key _ _ p0, key _ _ p1, key _ _ p3, key _ _ p4, key _ _ p5, Nat.lt_of_lt_of_le hlt h.size⟩
  clear hW1 hz1 hb1 p0 p1 p2 p3 p4 p5 hat hlt
  obtain ⟨k0, k1, k3, k4, k5, kl⟩ := KC.out W1 H1.out.2
  have hz := H1.out.1
  have z0 := cell_at hz (j := 0) rfl
  have z1 := cell_at hz (j := 1) rfl
  have z2 := cell_at hz (j := 2) rfl
  have fz := unfrozen hz
  have HZ := Lib.hid hz
  clear hz
  obtain ⟨x, y, hks, fx, fy⟩ := two_kids hgd (c := 111) (d := 118) (by rw [hk]; decide) (by omega) (by omega) (by omega)
  obtain ⟨bk, ok, hKe, px⟩ := HT.out.1.kids.get (i := 0) (t := x) (by rw [hks]; rfl)
  obtain ⟨bk', ok', hKe', py⟩ := HT.out.1.kids.get (i := 1) (t := y) (by rw [hks]; rfl)
  rw [hKe] at hKe'
  simp only [Option.some.injEq, Addr.mk.injEq, and_true] at hKe'
  obtain ⟨rfl, rfl⟩ := hKe'
  subst hKe
  rw [Nat.zero_add, Nat.zero_mul, Nat.add_zero] at px
  rw [Nat.zero_add, Nat.one_mul] at py
  have SX : Hid (WfT x ∧ goodT false x = true ∧ cnt x ≤ N) := Lib.hid ⟨hwf.node.each x (by rw [hks]; simp), good_sub hgd (by omega) (i := 0) (by rw [hks]; rfl), by have h1 := cnt_kid (t := t) (i := 0) (k := x) (by rw [hks]; rfl); omega⟩
  have SY : Hid (WfT y ∧ goodT false y = true ∧ cnt y ≤ N) := Lib.hid ⟨hwf.node.each y (by rw [hks]; simp), good_sub hgd (by omega) (i := 1) (by rw [hks]; rfl), by have h1 := cnt_kid (t := t) (i := 1) (k := y) (by rw [hks]; rfl); omega⟩
  have HPX := Lib.hid (px.on H1.out.2)
  have HPY := Lib.hid (py.on H1.out.2)
  have hkl : t.kids.length = 2 := by rw [hks]; rfl
  have HR : Hid (rkT t = ⟨(rkT y).c, 64, 64⟩) := Lib.hid (by rw [rkT_eq]; unfold rkK; rw [if_neg (by omega)]; rw [if_neg (by omega)]; rw [if_neg (by omega)]; rw [if_pos (by omega)]; rw [hks]; rfl)
  have kk20 : (t.kind == 20) = false := by rw [hk]; rfl
  have kk28 : (t.kind == 28) = false := by rw [hk]; rfl
  have kk30 : (t.kind == 30) = false := by rw [hk]; rfl
  have kk32 : (t.kind == 32) = false := by rw [hk]; rfl
  have kk39 : (t.kind == 39) = true := by rw [hk]; rfl
  rw [hkl] at k5
  clear hgd hwf hN hp ih hk hks hkl px fx py fy
  go_enter Tryz.func65, Tryz.ntmps65
  go_upto_region 1 with fail
  rw [← HW1.out]
  go_wp2_with fail
  refine (IH.out y bk (ok + 6) W1 SY.out.2.2 HPY.out SY.out.1 SY.out.2.1).mono ?_
  rintro e w2 ⟨rfl, hb2⟩
  have HB2 := Lib.hid (H1.out.2.then_ hb2)
  clear k0 k1 k3 k4 k5 kl z0 z1 z2 fz
  have hz := (hb2.block _ (heap_lt H1.out.1)).trans H1.out.1
  have z0 := cell_at hz (j := 0) rfl
  have z1 := cell_at hz (j := 1) rfl
  have z2 := cell_at hz (j := 2) rfl
  have fz := unfrozen hz
  have HZ := Lib.hid hz
  clear hz
  have hl2 := heap_lt HZ.out
  clear hb2
  have ix0 := idx3_0 (rkT y)
  have ix1 := idx3_1 (rkT y)
  have ix2 := idx3_2 (rkT y)
  go_wp2_with fail
  obtain ⟨e1, e2⟩ := three (.int .i64 (rkT y).c) (.int .i64 64) (.int .i64 64) HZ.out HB2.out (Nat.le_refl _)
  exact bodyPost_ret (results_r3 (p := 2) rfl rfl e1) rfl ⟨by rw [HR.out]; try rfl, e2⟩
set_option maxRecDepth 100000 in
set_option maxHeartbeats 16000000 in
theorem rk_40 (N : Nat) (ih : RkN N) (t : Tm) (b off : Nat) (w : World) (hN : cnt t ≤ N + 1) (hp : PtrAt w b off t) (hwf : WfT t) (hgd : goodT false t = true) (hk : t.kind = 40) :
    Calls Tryz.prog 65 #[.pointer (some ⟨b, off, none⟩)] w fun e w' => e = .returned (r3v (rkT t)) ∧ Below w.heap.size w w' := by
  obtain ⟨A, ca, B, cb, K, ck, hlt, p0, p1, p2, p3, p4, p5, hat⟩ := hp.cells
  obtain ⟨W1, hW1⟩ : ∃ W1, W1 = w.alloc (.cells #[.int .i64 0, .int .i64 0, .int .i64 0] TR3) := ⟨_, rfl⟩
  have hz1 : W1.heap[w.heap.size]? = some (.cells #[.int .i64 0, .int .i64 0, .int .i64 0] TR3 (0, 0)) := by rw [hW1]; exact heap_alloc_new w _
  have hb1 : Below w.heap.size w W1 := by rw [hW1]; exact (Below.refl _ _).alloc (Nat.le_refl _) _
  have HW1 := Lib.hid hW1
  have H1 := Lib.hid (And.intro hz1 hb1)
  have HT := Lib.hid (And.intro hat (And.intro hwf (And.intro hgd hN)))
  have IH := Lib.hid ih
  have KC : Hid (∀ W, Below w.heap.size w W → W.cell? ⟨b, off, none⟩ = some (.int .i64 t.kind) ∧ W.cell? ⟨b, off + 1, none⟩ = some (.string t.text) ∧ W.cell? ⟨b, off + 3, none⟩ = some (.slice A t.sh.length ca) ∧ W.cell? ⟨b, off + 4, none⟩ = some (.slice B t.at_.length cb) ∧ W.cell? ⟨b, off + 5, none⟩ = some (.slice K t.kids.length ck) ∧ b < W.heap.size) := Lib.hid fun W h => by
    have key : ∀ j v, w.cell? ⟨b, j, none⟩ = some v → W.cell? ⟨b, j, none⟩ = some v := fun j v hv => (h.cell (p := ⟨b, j, none⟩) hlt).trans hv
    exact ⟨key _ _ p0, key _ _ p1, key _ _ p3, key _ _ p4, key _ _ p5, Nat.lt_of_lt_of_le hlt h.size⟩
  clear hW1 hz1 hb1 p0 p1 p2 p3 p4 p5 hat hlt
  obtain ⟨k0, k1, k3, k4, k5, kl⟩ := KC.out W1 H1.out.2
  have hz := H1.out.1
  have z0 := cell_at hz (j := 0) rfl
  have z1 := cell_at hz (j := 1) rfl
  have z2 := cell_at hz (j := 2) rfl
  have fz := unfrozen hz
  have HZ := Lib.hid hz
  clear hz
  obtain ⟨x, y, hks, fx, fy⟩ := two_kids hgd (c := 118) (d := 111) (by rw [hk]; decide) (by omega) (by omega) (by omega)
  obtain ⟨bk, ok, hKe, px⟩ := HT.out.1.kids.get (i := 0) (t := x) (by rw [hks]; rfl)
  obtain ⟨bk', ok', hKe', py⟩ := HT.out.1.kids.get (i := 1) (t := y) (by rw [hks]; rfl)
  rw [hKe] at hKe'
  simp only [Option.some.injEq, Addr.mk.injEq, and_true] at hKe'
  obtain ⟨rfl, rfl⟩ := hKe'
  subst hKe
  rw [Nat.zero_add, Nat.zero_mul, Nat.add_zero] at px
  rw [Nat.zero_add, Nat.one_mul] at py
  have SX : Hid (WfT x ∧ goodT false x = true ∧ cnt x ≤ N) := Lib.hid ⟨hwf.node.each x (by rw [hks]; simp), good_sub hgd (by omega) (i := 0) (by rw [hks]; rfl), by have h1 := cnt_kid (t := t) (i := 0) (k := x) (by rw [hks]; rfl); omega⟩
  have SY : Hid (WfT y ∧ goodT false y = true ∧ cnt y ≤ N) := Lib.hid ⟨hwf.node.each y (by rw [hks]; simp), good_sub hgd (by omega) (i := 1) (by rw [hks]; rfl), by have h1 := cnt_kid (t := t) (i := 1) (k := y) (by rw [hks]; rfl); omega⟩
  have HPX := Lib.hid (px.on H1.out.2)
  have HPY := Lib.hid (py.on H1.out.2)
  have hkl : t.kids.length = 2 := by rw [hks]; rfl
  have HR : Hid (rkT t = ⟨(rkT x).b, 64, 64⟩) := Lib.hid (by rw [rkT_eq]; unfold rkK; rw [if_neg (by omega)]; rw [if_neg (by omega)]; rw [if_neg (by omega)]; rw [if_neg (by omega)]; rw [if_pos (by omega)]; rw [hks]; rfl)
  have kk20 : (t.kind == 20) = false := by rw [hk]; rfl
  have kk28 : (t.kind == 28) = false := by rw [hk]; rfl
  have kk30 : (t.kind == 30) = false := by rw [hk]; rfl
  have kk32 : (t.kind == 32) = false := by rw [hk]; rfl
  have kk39 : (t.kind == 39) = false := by rw [hk]; rfl
  have kk40 : (t.kind == 40) = true := by rw [hk]; rfl
  rw [hkl] at k5
  clear hgd hwf hN hp ih hk hks hkl px fx py fy
  go_enter Tryz.func65, Tryz.ntmps65
  go_upto_region 1 with fail
  rw [← HW1.out]
  go_wp2_with fail
  refine (IH.out x bk (ok) W1 SX.out.2.2 HPX.out SX.out.1 SX.out.2.1).mono ?_
  rintro e w2 ⟨rfl, hb2⟩
  have HB2 := Lib.hid (H1.out.2.then_ hb2)
  clear k0 k1 k3 k4 k5 kl z0 z1 z2 fz
  have hz := (hb2.block _ (heap_lt H1.out.1)).trans H1.out.1
  have z0 := cell_at hz (j := 0) rfl
  have z1 := cell_at hz (j := 1) rfl
  have z2 := cell_at hz (j := 2) rfl
  have fz := unfrozen hz
  have HZ := Lib.hid hz
  clear hz
  have hl2 := heap_lt HZ.out
  clear hb2
  have ix0 := idx3_0 (rkT x)
  have ix1 := idx3_1 (rkT x)
  have ix2 := idx3_2 (rkT x)
  go_wp2_with fail
  obtain ⟨e1, e2⟩ := three (.int .i64 (rkT x).b) (.int .i64 64) (.int .i64 64) HZ.out HB2.out (Nat.le_refl _)
  exact bodyPost_ret (results_r3 (p := 2) rfl rfl e1) rfl ⟨by rw [HR.out]; try rfl, e2⟩
set_option maxRecDepth 100000 in
set_option maxHeartbeats 16000000 in
theorem rk_42 (N : Nat) (ih : RkN N) (t : Tm) (b off : Nat) (w : World) (hN : cnt t ≤ N + 1) (hp : PtrAt w b off t) (hwf : WfT t) (hgd : goodT false t = true) (hk : t.kind = 42) :
    Calls Tryz.prog 65 #[.pointer (some ⟨b, off, none⟩)] w fun e w' => e = .returned (r3v (rkT t)) ∧ Below w.heap.size w w' := by
  obtain ⟨A, ca, B, cb, K, ck, hlt, p0, p1, p2, p3, p4, p5, hat⟩ := hp.cells
  obtain ⟨W1, hW1⟩ : ∃ W1, W1 = w.alloc (.cells #[.int .i64 0, .int .i64 0, .int .i64 0] TR3) := ⟨_, rfl⟩
  have hz1 : W1.heap[w.heap.size]? = some (.cells #[.int .i64 0, .int .i64 0, .int .i64 0] TR3 (0, 0)) := by rw [hW1]; exact heap_alloc_new w _
  have hb1 : Below w.heap.size w W1 := by rw [hW1]; exact (Below.refl _ _).alloc (Nat.le_refl _) _
  have HW1 := Lib.hid hW1
  have H1 := Lib.hid (And.intro hz1 hb1)
  have HT := Lib.hid (And.intro hat (And.intro hwf (And.intro hgd hN)))
  have IH := Lib.hid ih
  have KC : Hid (∀ W, Below w.heap.size w W → W.cell? ⟨b, off, none⟩ = some (.int .i64 t.kind) ∧ W.cell? ⟨b, off + 1, none⟩ = some (.string t.text) ∧ W.cell? ⟨b, off + 3, none⟩ = some (.slice A t.sh.length ca) ∧ W.cell? ⟨b, off + 4, none⟩ = some (.slice B t.at_.length cb) ∧ W.cell? ⟨b, off + 5, none⟩ = some (.slice K t.kids.length ck) ∧ b < W.heap.size) := Lib.hid fun W h => by
    have key : ∀ j v, w.cell? ⟨b, j, none⟩ = some v → W.cell? ⟨b, j, none⟩ = some v := fun j v hv => (h.cell (p := ⟨b, j, none⟩) hlt).trans hv
    exact ⟨key _ _ p0, key _ _ p1, key _ _ p3, key _ _ p4, key _ _ p5, Nat.lt_of_lt_of_le hlt h.size⟩
  clear hW1 hz1 hb1 p0 p1 p2 p3 p4 p5 hat hlt
  obtain ⟨k0, k1, k3, k4, k5, kl⟩ := KC.out W1 H1.out.2
  have hz := H1.out.1
  have z0 := cell_at hz (j := 0) rfl
  have z1 := cell_at hz (j := 1) rfl
  have z2 := cell_at hz (j := 2) rfl
  have fz := unfrozen hz
  have HZ := Lib.hid hz
  clear hz
  have HR : Hid (rkT t = listed3 t.at_) := Lib.hid (by rw [rkT_eq]; unfold rkK; rw [if_neg (by omega)]; rw [if_neg (by omega)]; rw [if_neg (by omega)]; rw [if_neg (by omega)]; rw [if_neg (by omega)]; rw [if_pos (by omega)])
  have HL := Lib.hid (listed_any t.at_ B cb W1 (HT.out.1.at_.on H1.out.2) (rank_list hgd hk))
  have kk20 : (t.kind == 20) = false := by rw [hk]; rfl
  have kk28 : (t.kind == 28) = false := by rw [hk]; rfl
  have kk30 : (t.kind == 30) = false := by rw [hk]; rfl
  have kk32 : (t.kind == 32) = false := by rw [hk]; rfl
  have kk39 : (t.kind == 39) = false := by rw [hk]; rfl
  have kk40 : (t.kind == 40) = false := by rw [hk]; rfl
  have kk42 : (t.kind == 42) = true := by rw [hk]; rfl
  clear hgd hwf hN hp ih hk
  go_enter Tryz.func65, Tryz.ntmps65
  go_upto_region 1 with fail
  rw [← HW1.out]
  go_wp2_with fail
  refine HL.out.mono ?_
  rintro e w2 ⟨rfl, hb2⟩
  have HB2 := Lib.hid (H1.out.2.then_ hb2)
  clear k0 k1 k3 k4 k5 kl z0 z1 z2 fz
  have hz := (hb2.block _ (heap_lt H1.out.1)).trans H1.out.1
  have z0 := cell_at hz (j := 0) rfl
  have z1 := cell_at hz (j := 1) rfl
  have z2 := cell_at hz (j := 2) rfl
  have fz := unfrozen hz
  have HZ := Lib.hid hz
  clear hz
  clear hb2
  go_wp2_with fail
  obtain ⟨e1, e2⟩ := three (.int .i64 (listed3 t.at_).a) (.int .i64 (listed3 t.at_).b) (.int .i64 (listed3 t.at_).c) HZ.out HB2.out (Nat.le_refl _)
  exact bodyPost_ret (results_r3 (p := 2) rfl rfl e1) rfl ⟨by rw [HR.out]; try rfl, e2⟩
set_option maxRecDepth 100000 in
set_option maxHeartbeats 16000000 in
theorem rk_27 (N : Nat) (ih : RkN N) (t : Tm) (b off : Nat) (w : World) (hN : cnt t ≤ N + 1) (hp : PtrAt w b off t) (hwf : WfT t) (hgd : goodT false t = true) (hk : t.kind = 27) :
    Calls Tryz.prog 65 #[.pointer (some ⟨b, off, none⟩)] w fun e w' => e = .returned (r3v (rkT t)) ∧ Below w.heap.size w w' := by
  obtain ⟨A, ca, B, cb, K, ck, hlt, p0, p1, p2, p3, p4, p5, hat⟩ := hp.cells
  obtain ⟨W1, hW1⟩ : ∃ W1, W1 = w.alloc (.cells #[.int .i64 0, .int .i64 0, .int .i64 0] TR3) := ⟨_, rfl⟩
  have hz1 : W1.heap[w.heap.size]? = some (.cells #[.int .i64 0, .int .i64 0, .int .i64 0] TR3 (0, 0)) := by rw [hW1]; exact heap_alloc_new w _
  have hb1 : Below w.heap.size w W1 := by rw [hW1]; exact (Below.refl _ _).alloc (Nat.le_refl _) _
  have HW1 := Lib.hid hW1
  have H1 := Lib.hid (And.intro hz1 hb1)
  have HT := Lib.hid (And.intro hat (And.intro hwf (And.intro hgd hN)))
  have IH := Lib.hid ih
  have KC : Hid (∀ W, Below w.heap.size w W → W.cell? ⟨b, off, none⟩ = some (.int .i64 t.kind) ∧ W.cell? ⟨b, off + 1, none⟩ = some (.string t.text) ∧ W.cell? ⟨b, off + 3, none⟩ = some (.slice A t.sh.length ca) ∧ W.cell? ⟨b, off + 4, none⟩ = some (.slice B t.at_.length cb) ∧ W.cell? ⟨b, off + 5, none⟩ = some (.slice K t.kids.length ck) ∧ b < W.heap.size) := Lib.hid fun W h => by
    have key : ∀ j v, w.cell? ⟨b, j, none⟩ = some v → W.cell? ⟨b, j, none⟩ = some v := fun j v hv => (h.cell (p := ⟨b, j, none⟩) hlt).trans hv
    exact ⟨key _ _ p0, key _ _ p1, key _ _ p3, key _ _ p4, key _ _ p5, Nat.lt_of_lt_of_le hlt h.size⟩
  clear hW1 hz1 hb1 p0 p1 p2 p3 p4 p5 hat hlt
  obtain ⟨k0, k1, k3, k4, k5, kl⟩ := KC.out W1 H1.out.2
  have hz := H1.out.1
  have z0 := cell_at hz (j := 0) rfl
  have z1 := cell_at hz (j := 1) rfl
  have z2 := cell_at hz (j := 2) rfl
  have fz := unfrozen hz
  have HZ := Lib.hid hz
  clear hz
  obtain ⟨x, hks, fx⟩ := one_kid hgd (c := 118) (by rw [hk]; decide) (by omega) (by omega) (by omega)
  obtain ⟨bk, ok, hKe, px⟩ := HT.out.1.kids.get (i := 0) (t := x) (by rw [hks]; rfl)
  subst hKe
  rw [Nat.zero_add, Nat.zero_mul, Nat.add_zero] at px
  have SX : Hid (WfT x ∧ goodT false x = true ∧ cnt x ≤ N) := Lib.hid ⟨hwf.node.each x (by rw [hks]; simp), good_sub hgd (by omega) (i := 0) (by rw [hks]; rfl), by have h1 := cnt_kid (t := t) (i := 0) (k := x) (by rw [hks]; rfl); omega⟩
  have HPX := Lib.hid (px.on H1.out.2)
  have hkl : t.kids.length = 1 := by rw [hks]; rfl
  have HR : Hid (rkT t = ⟨64, (rkT x).c, (rkT x).b⟩) := Lib.hid (by rw [rkT_eq]; unfold rkK; rw [if_neg (by omega)]; rw [if_neg (by omega)]; rw [if_neg (by omega)]; rw [if_neg (by omega)]; rw [if_neg (by omega)]; rw [if_neg (by omega)]; rw [if_pos (by omega)]; rw [hks]; rfl)
  have kk20 : (t.kind == 20) = false := by rw [hk]; rfl
  have kk28 : (t.kind == 28) = false := by rw [hk]; rfl
  have kk30 : (t.kind == 30) = false := by rw [hk]; rfl
  have kk32 : (t.kind == 32) = false := by rw [hk]; rfl
  have kk39 : (t.kind == 39) = false := by rw [hk]; rfl
  have kk40 : (t.kind == 40) = false := by rw [hk]; rfl
  have kk42 : (t.kind == 42) = false := by rw [hk]; rfl
  have kk27 : (t.kind == 27) = true := by rw [hk]; rfl
  rw [hkl] at k5
  clear hgd hwf hN hp ih hk hks hkl px fx
  go_enter Tryz.func65, Tryz.ntmps65
  go_upto_region 1 with fail
  rw [← HW1.out]
  go_wp2_with fail
  refine (IH.out x bk (ok) W1 SX.out.2.2 HPX.out SX.out.1 SX.out.2.1).mono ?_
  rintro e w2 ⟨rfl, hb2⟩
  have HB2 := Lib.hid (H1.out.2.then_ hb2)
  clear k0 k1 k3 k4 k5 kl z0 z1 z2 fz
  have hz := (hb2.block _ (heap_lt H1.out.1)).trans H1.out.1
  have z0 := cell_at hz (j := 0) rfl
  have z1 := cell_at hz (j := 1) rfl
  have z2 := cell_at hz (j := 2) rfl
  have fz := unfrozen hz
  have HZ := Lib.hid hz
  clear hz
  have hl2 := heap_lt HZ.out
  clear hb2
  go_wp2_with fail
  obtain ⟨e1, e2⟩ := three (.int .i64 64) (.int .i64 (rkT x).c) (.int .i64 (rkT x).b) HZ.out HB2.out (Nat.le_refl _)
  exact bodyPost_ret (results_r3 (p := 2) rfl rfl ((Below.heap_alloc _ _ _ (by simpa [World.setCell] using hl2)).trans e1)) rfl ⟨by rw [HR.out], e2.alloc (by simpa [World.setCell] using Nat.le_of_lt hl2) _⟩
set_option maxRecDepth 100000 in
set_option maxHeartbeats 16000000 in
theorem rk_36 (N : Nat) (ih : RkN N) (t : Tm) (b off : Nat) (w : World) (hN : cnt t ≤ N + 1) (hp : PtrAt w b off t) (hwf : WfT t) (hgd : goodT false t = true) (hk : t.kind = 36) :
    Calls Tryz.prog 65 #[.pointer (some ⟨b, off, none⟩)] w fun e w' => e = .returned (r3v (rkT t)) ∧ Below w.heap.size w w' := by
  obtain ⟨A, ca, B, cb, K, ck, hlt, p0, p1, p2, p3, p4, p5, hat⟩ := hp.cells
  obtain ⟨W1, hW1⟩ : ∃ W1, W1 = w.alloc (.cells #[.int .i64 0, .int .i64 0, .int .i64 0] TR3) := ⟨_, rfl⟩
  have hz1 : W1.heap[w.heap.size]? = some (.cells #[.int .i64 0, .int .i64 0, .int .i64 0] TR3 (0, 0)) := by rw [hW1]; exact heap_alloc_new w _
  have hb1 : Below w.heap.size w W1 := by rw [hW1]; exact (Below.refl _ _).alloc (Nat.le_refl _) _
  have HW1 := Lib.hid hW1
  have H1 := Lib.hid (And.intro hz1 hb1)
  have HT := Lib.hid (And.intro hat (And.intro hwf (And.intro hgd hN)))
  have IH := Lib.hid ih
  have KC : Hid (∀ W, Below w.heap.size w W → W.cell? ⟨b, off, none⟩ = some (.int .i64 t.kind) ∧ W.cell? ⟨b, off + 1, none⟩ = some (.string t.text) ∧ W.cell? ⟨b, off + 3, none⟩ = some (.slice A t.sh.length ca) ∧ W.cell? ⟨b, off + 4, none⟩ = some (.slice B t.at_.length cb) ∧ W.cell? ⟨b, off + 5, none⟩ = some (.slice K t.kids.length ck) ∧ b < W.heap.size) := Lib.hid fun W h => by
    have key : ∀ j v, w.cell? ⟨b, j, none⟩ = some v → W.cell? ⟨b, j, none⟩ = some v := fun j v hv => (h.cell (p := ⟨b, j, none⟩) hlt).trans hv
    exact ⟨key _ _ p0, key _ _ p1, key _ _ p3, key _ _ p4, key _ _ p5, Nat.lt_of_lt_of_le hlt h.size⟩
  clear hW1 hz1 hb1 p0 p1 p2 p3 p4 p5 hat hlt
  obtain ⟨k0, k1, k3, k4, k5, kl⟩ := KC.out W1 H1.out.2
  have hz := H1.out.1
  have z0 := cell_at hz (j := 0) rfl
  have z1 := cell_at hz (j := 1) rfl
  have z2 := cell_at hz (j := 2) rfl
  have fz := unfrozen hz
  have HZ := Lib.hid hz
  clear hz
  obtain ⟨x, y, hks, fx, fy⟩ := two_kids hgd (c := 118) (d := 118) (by rw [hk]; decide) (by omega) (by omega) (by omega)
  obtain ⟨bk, ok, hKe, px⟩ := HT.out.1.kids.get (i := 0) (t := x) (by rw [hks]; rfl)
  obtain ⟨bk', ok', hKe', py⟩ := HT.out.1.kids.get (i := 1) (t := y) (by rw [hks]; rfl)
  rw [hKe] at hKe'
  simp only [Option.some.injEq, Addr.mk.injEq, and_true] at hKe'
  obtain ⟨rfl, rfl⟩ := hKe'
  subst hKe
  rw [Nat.zero_add, Nat.zero_mul, Nat.add_zero] at px
  rw [Nat.zero_add, Nat.one_mul] at py
  have SX : Hid (WfT x ∧ goodT false x = true ∧ cnt x ≤ N) := Lib.hid ⟨hwf.node.each x (by rw [hks]; simp), good_sub hgd (by omega) (i := 0) (by rw [hks]; rfl), by have h1 := cnt_kid (t := t) (i := 0) (k := x) (by rw [hks]; rfl); omega⟩
  have SY : Hid (WfT y ∧ goodT false y = true ∧ cnt y ≤ N) := Lib.hid ⟨hwf.node.each y (by rw [hks]; simp), good_sub hgd (by omega) (i := 1) (by rw [hks]; rfl), by have h1 := cnt_kid (t := t) (i := 1) (k := y) (by rw [hks]; rfl); omega⟩
  have HPX := Lib.hid (px.on H1.out.2)
  have HPY := Lib.hid (py.on H1.out.2)
  have hkl : t.kids.length = 2 := by rw [hks]; rfl
  have HR : Hid (rkT t = rkT x) := Lib.hid (by rw [rkT_eq]; unfold rkK; rw [if_neg (by omega)]; rw [if_neg (by omega)]; rw [if_neg (by omega)]; rw [if_neg (by omega)]; rw [if_neg (by omega)]; rw [if_neg (by omega)]; rw [if_neg (by omega)]; rw [if_pos (by omega)]; rw [hks]; rfl)
  have kk20 : (t.kind == 20) = false := by rw [hk]; rfl
  have kk28 : (t.kind == 28) = false := by rw [hk]; rfl
  have kk30 : (t.kind == 30) = false := by rw [hk]; rfl
  have kk32 : (t.kind == 32) = false := by rw [hk]; rfl
  have kk39 : (t.kind == 39) = false := by rw [hk]; rfl
  have kk40 : (t.kind == 40) = false := by rw [hk]; rfl
  have kk42 : (t.kind == 42) = false := by rw [hk]; rfl
  have kk27 : (t.kind == 27) = false := by rw [hk]; rfl
  have kk36 : (t.kind == 36) = true := by rw [hk]; rfl
  rw [hkl] at k5
  clear hgd hwf hN hp ih hk hks hkl px fx py fy
  go_enter Tryz.func65, Tryz.ntmps65
  go_upto_region 1 with fail
  rw [← HW1.out]
  go_wp2_with fail
  refine (IH.out x bk (ok) W1 SX.out.2.2 HPX.out SX.out.1 SX.out.2.1).mono ?_
  rintro e w2 ⟨rfl, hb2⟩
  have HB2 := Lib.hid (H1.out.2.then_ hb2)
  clear k0 k1 k3 k4 k5 kl z0 z1 z2 fz
  have hz := (hb2.block _ (heap_lt H1.out.1)).trans H1.out.1
  have z0 := cell_at hz (j := 0) rfl
  have z1 := cell_at hz (j := 1) rfl
  have z2 := cell_at hz (j := 2) rfl
  have fz := unfrozen hz
  have HZ := Lib.hid hz
  clear hz
  have hl2 := heap_lt HZ.out
  clear hb2
  go_wp2_with fail
  obtain ⟨e1, e2⟩ := three (.int .i64 (rkT x).a) (.int .i64 (rkT x).b) (.int .i64 (rkT x).c) HZ.out HB2.out (Nat.le_refl _)
  exact bodyPost_ret (results_r3 (p := 2) rfl rfl e1) rfl ⟨by rw [HR.out]; try rfl, e2⟩
set_option maxRecDepth 100000 in
set_option maxHeartbeats 16000000 in
theorem rk_no (N : Nat) (ih : RkN N) (t : Tm) (b off : Nat) (w : World) (hN : cnt t ≤ N + 1) (hp : PtrAt w b off t) (hwf : WfT t) (hgd : goodT false t = true) (hk : ¬ t.kind = 20 ∧ ¬ t.kind = 28 ∧ ¬ t.kind = 30 ∧ ¬ t.kind = 32 ∧ ¬ t.kind = 39 ∧ ¬ t.kind = 40 ∧ ¬ t.kind = 42 ∧ ¬ t.kind = 27 ∧ ¬ t.kind = 36 ∧ ¬ t.kind = 37) :
    Calls Tryz.prog 65 #[.pointer (some ⟨b, off, none⟩)] w fun e w' => e = .returned (r3v (rkT t)) ∧ Below w.heap.size w w' := by
  obtain ⟨A, ca, B, cb, K, ck, hlt, p0, p1, p2, p3, p4, p5, hat⟩ := hp.cells
  obtain ⟨W1, hW1⟩ : ∃ W1, W1 = w.alloc (.cells #[.int .i64 0, .int .i64 0, .int .i64 0] TR3) := ⟨_, rfl⟩
  have hz1 : W1.heap[w.heap.size]? = some (.cells #[.int .i64 0, .int .i64 0, .int .i64 0] TR3 (0, 0)) := by rw [hW1]; exact heap_alloc_new w _
  have hb1 : Below w.heap.size w W1 := by rw [hW1]; exact (Below.refl _ _).alloc (Nat.le_refl _) _
  have HW1 := Lib.hid hW1
  have H1 := Lib.hid (And.intro hz1 hb1)
  have HT := Lib.hid (And.intro hat (And.intro hwf (And.intro hgd hN)))
  have IH := Lib.hid ih
  have KC : Hid (∀ W, Below w.heap.size w W → W.cell? ⟨b, off, none⟩ = some (.int .i64 t.kind) ∧ W.cell? ⟨b, off + 1, none⟩ = some (.string t.text) ∧ W.cell? ⟨b, off + 3, none⟩ = some (.slice A t.sh.length ca) ∧ W.cell? ⟨b, off + 4, none⟩ = some (.slice B t.at_.length cb) ∧ W.cell? ⟨b, off + 5, none⟩ = some (.slice K t.kids.length ck) ∧ b < W.heap.size) := Lib.hid fun W h => by
    have key : ∀ j v, w.cell? ⟨b, j, none⟩ = some v → W.cell? ⟨b, j, none⟩ = some v := fun j v hv => (h.cell (p := ⟨b, j, none⟩) hlt).trans hv
    exact ⟨key _ _ p0, key _ _ p1, key _ _ p3, key _ _ p4, key _ _ p5, Nat.lt_of_lt_of_le hlt h.size⟩
  clear hW1 hz1 hb1 p0 p1 p2 p3 p4 p5 hat hlt
  obtain ⟨k0, k1, k3, k4, k5, kl⟩ := KC.out W1 H1.out.2
  have hz := H1.out.1
  have z0 := cell_at hz (j := 0) rfl
  have z1 := cell_at hz (j := 1) rfl
  have z2 := cell_at hz (j := 2) rfl
  have fz := unfrozen hz
  have HZ := Lib.hid hz
  clear hz
  obtain ⟨g20, g28, g30, g32, g39, g40, g42, g27, g36, g37⟩ := hk
  have HR : Hid (rkT t = inf3) := Lib.hid (by rw [rkT_eq]; unfold rkK; rw [if_neg g20, if_neg g28, if_neg (by omega), if_neg g39, if_neg g40, if_neg g42, if_neg g27, if_neg g36, if_neg g37])
  have kk20 : (t.kind == 20) = false := beq_no g20
  have kk28 : (t.kind == 28) = false := beq_no g28
  have kk30 : (t.kind == 30) = false := beq_no g30
  have kk32 : (t.kind == 32) = false := beq_no g32
  have kk39 : (t.kind == 39) = false := beq_no g39
  have kk40 : (t.kind == 40) = false := beq_no g40
  have kk42 : (t.kind == 42) = false := beq_no g42
  have kk27 : (t.kind == 27) = false := beq_no g27
  have kk36 : (t.kind == 36) = false := beq_no g36
  have kk37 : (t.kind == 37) = false := beq_no g37
  clear g20 g28 g30 g32 g39 g40 g42 g27 g36 g37
  clear hgd hwf hN hp ih
  go_enter Tryz.func65, Tryz.ntmps65
  go_upto_region 1 with fail
  rw [← HW1.out]
  go_wp2_with fail
  refine (tall_any 64 W1).mono ?_
  rintro e w2 ⟨rfl, hb2⟩
  have HB2 := Lib.hid (H1.out.2.then_ hb2)
  clear k0 k1 k3 k4 k5 kl z0 z1 z2 fz
  have hz := (hb2.block _ (heap_lt H1.out.1)).trans H1.out.1
  have z0 := cell_at hz (j := 0) rfl
  have z1 := cell_at hz (j := 1) rfl
  have z2 := cell_at hz (j := 2) rfl
  have fz := unfrozen hz
  have HZ := Lib.hid hz
  clear hz
  clear hb2
  go_wp2_with fail
  obtain ⟨e1, e2⟩ := three (.int .i64 64) (.int .i64 64) (.int .i64 64) HZ.out HB2.out (Nat.le_refl _)
  exact bodyPost_ret (results_r3 (p := 2) rfl rfl e1) rfl ⟨by rw [HR.out]; try rfl, e2⟩
end Go.Proofs.YtebiojmfieoncaaGreat
