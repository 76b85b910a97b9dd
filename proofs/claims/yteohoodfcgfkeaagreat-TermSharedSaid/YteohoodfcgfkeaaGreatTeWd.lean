/- term: Copy. Condition: sizes within reach. -/
import Derived.Test.YteohoodfcgfkeaaGreatTeWc
namespace Go.Proofs.YteohoodfcgfkeaaGreat
open Go.RowKit

/-- what Copy leaves: new memory, or an error where the term is too great -/
def CopyPost (t : Tm) (w : World) (e : Ending) (w' : World) : Prop :=
  (greatT t = true ∧ e = .returned (.tuple #[.agg tm0, .int .i64 2]) ∧ Below w.heap.size w w') ∨
  (greatT t = false ∧ ∃ r : Rt, e = .returned (.tuple #[rtVal t r, .int .i64 0]) ∧ OwnT w' w.heap.size t r ∧ (blksT r).Nodup ∧ Below w.heap.size w w')
/-- six cells of a block are written -/
theorem six {w : World} {g : Nat} {a0 a1 a2 a3 a4 a5 : Value} (v0 v1 v2 v3 v4 v5 : Value) (h : w.heap[g]? = some (.cells #[a0, a1, a2, a3, a4, a5] TTm (0, 0))) {B : Nat} {w0 : World} (hb : Below B w0 w) (hB : B ≤ g) :
    ((((((w.setCell ⟨g, 0, none⟩ v0).setCell ⟨g, 1, none⟩ v1).setCell ⟨g, 2, none⟩ v2).setCell ⟨g, 3, none⟩ v3).setCell ⟨g, 4, none⟩ v4).setCell ⟨g, 5, none⟩ v5).heap[g]? = some (.cells #[v0, v1, v2, v3, v4, v5] TTm (0, 0)) ∧
    (∀ k, k ≠ g → ((((((w.setCell ⟨g, 0, none⟩ v0).setCell ⟨g, 1, none⟩ v1).setCell ⟨g, 2, none⟩ v2).setCell ⟨g, 3, none⟩ v3).setCell ⟨g, 4, none⟩ v4).setCell ⟨g, 5, none⟩ v5).heap[k]? = w.heap[k]?) ∧
    Below B w0 ((((((w.setCell ⟨g, 0, none⟩ v0).setCell ⟨g, 1, none⟩ v1).setCell ⟨g, 2, none⟩ v2).setCell ⟨g, 3, none⟩ v3).setCell ⟨g, 4, none⟩ v4).setCell ⟨g, 5, none⟩ v5) := by
  have e1 := Go.heap_setCell_same _ _ 0 _ TTm v0 h
  have e2 := Go.heap_setCell_same _ _ 1 _ TTm v1 e1
  have e3 := Go.heap_setCell_same _ _ 2 _ TTm v2 e2
  have e4 := Go.heap_setCell_same _ _ 3 _ TTm v3 e3
  have e5 := Go.heap_setCell_same _ _ 4 _ TTm v4 e4
  have e6 := Go.heap_setCell_same _ _ 5 _ TTm v5 e5
  refine ⟨by rw [e6]; rfl, fun k hk => ?_, (((((hb.setCell hB _).setCell hB _).setCell hB _).setCell hB _).setCell hB _).setCell hB _⟩
  rw [Below.heap_setCell _ _ _ _ hk, Below.heap_setCell _ _ _ _ hk, Below.heap_setCell _ _ _ _ hk, Below.heap_setCell _ _ _ _ hk, Below.heap_setCell _ _ _ _ hk, Below.heap_setCell _ _ _ _ hk]
theorem results_tm2 {fn : Func} {p t : Tmp} (h : fn.results = #[.cell p TTm, .tmp t]) {tmps : Array Value} {w : World} {g : Nat} (hp : tmps.getD p undef = .pointer (some ⟨g, 0, none⟩)) {v0 v1 v2 v3 v4 v5 : Value}
    (hg : w.heap[g]? = some (.cells #[v0, v1, v2, v3, v4, v5] TTm (0, 0))) : (results fn tmps).run Tryz.prog w = .ok (.tuple #[.agg #[v0, v1, v2, v3, v4, v5], tmps.getD t undef]) w := by
  have k0 := cell_at hg (j := 0) rfl
  have k1 := cell_at hg (j := 1) rfl
  have k2 := cell_at hg (j := 2) rfl
  have k3 := cell_at hg (j := 3) rfl
  have k4 := cell_at hg (j := 4) rfl
  have k5 := cell_at hg (j := 5) rfl
  rw [Array.getD_eq_getD_getElem?] at hp
  simp only [results, h]
  simp [go_sem, hp, k0, k1, k2, k3, k4, k5]
set_option maxRecDepth 100000 in
set_option maxHeartbeats 8000000 in
theorem copy_any (t : Tm) (A : Option Addr) (ca : Nat) (B : Option Addr) (cb : Nat) (K : Option Addr) (ck : Nat) (w : World) (hat : TmAt w t A B K) (hwf : WfT t) : Calls Tryz.prog 19 #[tmVal t A ca B cb K ck] w (CopyPost t w) := by
  obtain ⟨W2, hW2⟩ : ∃ W2, W2 = (w.alloc (.cells (tmCells t A ca B cb K ck) TTm)).alloc (.cells tm0 TTm) := ⟨_, rfl⟩
  have hb1 : Below w.heap.size w (w.alloc (.cells (tmCells t A ca B cb K ck) TTm)) := (Below.refl _ _).alloc (Nat.le_refl _) _
  have hb2 : Below w.heap.size w W2 := by rw [hW2]; exact hb1.alloc hb1.size _
  have hc1 : W2.heap[w.heap.size]? = some (.cells (tmCells t A ca B cb K ck) TTm (0, 0)) := by rw [hW2]; exact (Below.heap_alloc _ _ _ (by simp)).trans (heap_alloc_new w _)
  have hc2 : W2.heap[w.heap.size + 1]? = some (.cells tm0 TTm (0, 0)) := by rw [hW2]; exact heap_new2 _ _ _
  have HX := Lib.hid (And.intro hb2 (And.intro hc1 (And.intro hc2 (hat.on hb2))))
  have HWF := Lib.hid hwf
  have HW2 := Lib.hid hW2
  have HS : Hid (W2.heap.size = w.heap.size + 2) := Lib.hid (by rw [hW2]; simp)
  clear hat hwf hb1 hb2 hc1 hc2 hW2
  cases hg : greatT t with
  | true =>
    have HG := Lib.hid hg
    go_enter Tryz.func19, Tryz.ntmps19
    go_wp2_with fail
    rw [← HW2.out]
    refine (great_any t A ca B cb K ck W2 HX.out.2.2.2 HWF.out).mono ?_
    rintro e w3 ⟨rfl, hb3⟩
    have hz := (hb3.block _ (heap_lt HX.out.2.2.1)).trans HX.out.2.2.1
    have fz := unfrozen hz
    have z0 := cell_at hz (j := 0) rfl
    have z1 := cell_at hz (j := 1) rfl
    have z2 := cell_at hz (j := 2) rfl
    have z3 := cell_at hz (j := 3) rfl
    have z4 := cell_at hz (j := 4) rfl
    have z5 := cell_at hz (j := 5) rfl
    have HZ := Lib.hid hz
    have HB3 := Lib.hid (HX.out.1.then_ hb3)
    rw [hg]
    clear hg hb3 hz
    go_wp2_with fail
    obtain ⟨e1, _, e3⟩ := six (.int .i64 0) (.string ⟨#[]⟩) (.int .i64 0) (.slice none 0 0) (.slice none 0 0) (.slice none 0 0) HZ.out HB3.out (Nat.le_succ _)
    exact bodyPost_ret (results_tm2 rfl rfl e1) rfl (.inl ⟨HG.out, rfl, e3⟩)
  | false =>
    have HG := Lib.hid hg
    go_enter Tryz.func19, Tryz.ntmps19
    go_wp2_with fail
    rw [← HW2.out]
    refine (great_any t A ca B cb K ck W2 HX.out.2.2.2 HWF.out).mono ?_
    rintro e w3 ⟨rfl, hb3⟩
    have hd := (hb3.block _ (heap_lt HX.out.2.1)).trans HX.out.2.1
    have y0 := cell_at hd (j := 0) rfl
    have y1 := cell_at hd (j := 1) rfl
    have y2 := cell_at hd (j := 2) rfl
    have y3 := cell_at hd (j := 3) rfl
    have y4 := cell_at hd (j := 4) rfl
    have y5 := cell_at hd (j := 5) rfl
    have HB3 := Lib.hid hb3
    rw [hg]
    clear hg hb3 hd
    go_wp2_with fail
    refine (twin_any (cnt t) t A ca B cb K ck w3 (Nat.le_refl _) (HX.out.2.2.2.on HB3.out) HWF.out).mono ?_
    rintro e w4 ⟨r, rfl, ho, hn, hb4⟩
    have hz := ((HB3.out.then_ hb4).block _ (heap_lt HX.out.2.2.1)).trans HX.out.2.2.1
    have fz := unfrozen hz
    have z0 := cell_at hz (j := 0) rfl
    have z1 := cell_at hz (j := 1) rfl
    have z2 := cell_at hz (j := 2) rfl
    have z3 := cell_at hz (j := 3) rfl
    have z4 := cell_at hz (j := 4) rfl
    have z5 := cell_at hz (j := 5) rfl
    have HZ := Lib.hid hz
    have HO := Lib.hid (And.intro ho (And.intro hn (HX.out.1.then_ (HB3.out.then_ hb4))))
    have HS3 : Hid (w.heap.size + 2 ≤ w3.heap.size) := Lib.hid (by rw [← HS.out]; exact HB3.out.size)
    clear ho hn hb4 hz y0 y1 y2 y3 y4 y5
    go_wp2_with fail
    obtain ⟨e1, e2, e3⟩ := six (.int .i64 t.kind) (.string t.text) (.int .i64 t.n) (.slice r.s.p r.s.n r.s.c) (.slice r.a.p r.a.n r.a.c) (.slice r.k.p r.k.n r.k.c) HZ.out HO.out.2.2 (Nat.le_succ _)
    refine bodyPost_ret (results_tm2 rfl rfl e1) rfl (.inr ⟨HG.out, r, rfl, ?_, HO.out.2.1, e3⟩)
    refine (HO.out.1.kept fun g hg => e2 g ?_).mono ?_
    · have h1 := (HO.out.1.blk g hg).1
      have h2 := HS3.out
      omega
    · have h2 := HS3.out
      omega
end Go.Proofs.YteohoodfcgfkeaaGreat
