/- prim.find, prim.Info: a row of the catalogue. No condition. -/
import Derived.Test.YtebiojmfieoncaaGreatTeMP
import Derived.Test.YtebiojmfieoncaaGreatTeMC
namespace Go.Proofs.YtebiojmfieoncaaGreat
open Go.RowKit

def noEnt : Ent := ⟨⟨#[]⟩, none, none, 0, 0, 0, 0, false, false, 0⟩
/-- row k of the catalogue -/
def entAt (k : Nat) : Ent := rowsL.getD k noEnt
theorem ents_cells {e : Ent} {q : Nat} {v : Value} (hv : e.cells[q]? = some v) : ∀ (l : List Ent) (k : Nat), l[k]? = some e → (entsCells l)[k * 12 + q]? = some v := by
  intro l
  induction l with
  | nil => intro k h; simp at h
  | cons u r ih =>
    intro k h
    have hu : u.cells.toList.length = 12 := rfl
    have hq : q < 12 := by
      have := (Array.getElem?_eq_some_iff.1 hv).1
      have : e.cells.size = 12 := rfl
      omega
    simp only [entsCells, List.flatMap_cons]
    cases k with
    | zero =>
      simp only [List.getElem?_cons_zero, Option.some.injEq] at h
      subst h
      rw [Nat.zero_mul, Nat.zero_add, List.getElem?_append_left (by omega), Array.getElem?_toList]
      exact hv
    | succ k =>
      rw [List.getElem?_append_right (by omega), hu, show (k + 1) * 12 + q - 12 = k * 12 + q by omega]
      exact ih k (by simpa using h)
theorem sums_len' : sumsL.length = 21 := by decide +kernel
theorem others_len' : othersL.length = 22 := by decide +kernel
theorem entAt_low {k : Nat} (h : k < 21) : sumsL[k]? = some (entAt k) := by
  have hl : k < sumsL.length := by rw [sums_len']; exact h
  have : rowsL[k]? = sumsL[k]? := by unfold rowsL; rw [List.getElem?_append_left hl]
  unfold entAt
  rw [List.getD_eq_getElem?_getD, this, List.getElem?_eq_getElem hl]
  rfl
theorem entAt_high {k : Nat} (h : k < 22) : othersL[k]? = some (entAt (21 + k)) := by
  have hl : k < othersL.length := by rw [others_len']; exact h
  have : rowsL[21 + k]? = othersL[k]? := by unfold rowsL; rw [List.getElem?_append_right (by rw [sums_len']; omega), sums_len', Nat.add_sub_cancel_left]
  unfold entAt
  rw [List.getD_eq_getElem?_getD, this, List.getElem?_eq_getElem hl]
  rfl
theorem results_ent {fn : Func} {p t : Tmp} (h : fn.results = #[.cell p TE, .tmp t]) {tmps : Array Value} {w : World} {g : Nat} (hp : tmps.getD p undef = .pointer (some ⟨g, 0, none⟩)) {v0 v1 v2 v3 v4 v5 v6 v7 v8 v9 va vb u : Value}
    (hu : tmps.getD t undef = u) (hg : w.heap[g]? = some (.cells #[v0, v1, v2, v3, v4, v5, v6, v7, v8, v9, va, vb] TE (0, 0))) : (results fn tmps).run Tryz.prog w = .ok (.tuple #[.agg #[v0, v1, v2, v3, v4, v5, v6, v7, v8, v9, va, vb], u]) w := by
  have k0 := cell_at hg (j := 0) rfl
  have k1 := cell_at hg (j := 1) rfl
  have k2 := cell_at hg (j := 2) rfl
  have k3 := cell_at hg (j := 3) rfl
  have k4 := cell_at hg (j := 4) rfl
  have k5 := cell_at hg (j := 5) rfl
  have k6 := cell_at hg (j := 6) rfl
  have k7 := cell_at hg (j := 7) rfl
  have k8 := cell_at hg (j := 8) rfl
  have k9 := cell_at hg (j := 9) rfl
  have ka := cell_at hg (j := 10) rfl
  have kb := cell_at hg (j := 11) rfl
  rw [Array.getD_eq_getD_getElem?] at hp hu
  simp only [results, h]
  simp [go_sem, hp, hu, k0, k1, k2, k3, k4, k5, k6, k7, k8, k9, ka, kb]
abbrev entVal (e : Ent) : Value := .agg #[.string e.s, .bool (isF e.m), .bool (isF e.d), .int .i64 e.a, .int .i64 e.b, .int .i64 e.c, .int .i64 e.n, .bool e.has, .bool e.co, .int .i64 e.op, fv e.m, fv e.d]
theorem twelve {w : World} {g : Nat} {t : TypeId} {a0 a1 a2 a3 a4 a5 a6 a7 a8 a9 a10 a11 : Value} (v0 v1 v2 v3 v4 v5 v6 v7 v8 v9 v10 v11 : Value) (h : w.heap[g]? = some (.cells #[a0, a1, a2, a3, a4, a5, a6, a7, a8, a9, a10, a11] t (0, 0))) {B : Nat} {w0 : World} (hb : Below B w0 w) (hB : B ≤ g) :
    ((((((((((((w.setCell ⟨g, 0, none⟩ v0).setCell ⟨g, 1, none⟩ v1).setCell ⟨g, 2, none⟩ v2).setCell ⟨g, 3, none⟩ v3).setCell ⟨g, 4, none⟩ v4).setCell ⟨g, 5, none⟩ v5).setCell ⟨g, 6, none⟩ v6).setCell ⟨g, 7, none⟩ v7).setCell ⟨g, 8, none⟩ v8).setCell ⟨g, 9, none⟩ v9).setCell ⟨g, 10, none⟩ v10).setCell ⟨g, 11, none⟩ v11).heap[g]? = some (.cells #[v0, v1, v2, v3, v4, v5, v6, v7, v8, v9, v10, v11] t (0, 0)) ∧ Below B w0 ((((((((((((w.setCell ⟨g, 0, none⟩ v0).setCell ⟨g, 1, none⟩ v1).setCell ⟨g, 2, none⟩ v2).setCell ⟨g, 3, none⟩ v3).setCell ⟨g, 4, none⟩ v4).setCell ⟨g, 5, none⟩ v5).setCell ⟨g, 6, none⟩ v6).setCell ⟨g, 7, none⟩ v7).setCell ⟨g, 8, none⟩ v8).setCell ⟨g, 9, none⟩ v9).setCell ⟨g, 10, none⟩ v10).setCell ⟨g, 11, none⟩ v11) := by
  have e1 : (w.setCell ⟨g, 0, none⟩ v0).heap[g]? = some (.cells #[v0, a1, a2, a3, a4, a5, a6, a7, a8, a9, a10, a11] t (0, 0)) := Go.heap_setCell_same _ _ 0 _ t v0 h
  have e2 : ((w.setCell ⟨g, 0, none⟩ v0).setCell ⟨g, 1, none⟩ v1).heap[g]? = some (.cells #[v0, v1, a2, a3, a4, a5, a6, a7, a8, a9, a10, a11] t (0, 0)) := Go.heap_setCell_same _ _ 1 _ t v1 e1
  have e3 : (((w.setCell ⟨g, 0, none⟩ v0).setCell ⟨g, 1, none⟩ v1).setCell ⟨g, 2, none⟩ v2).heap[g]? = some (.cells #[v0, v1, v2, a3, a4, a5, a6, a7, a8, a9, a10, a11] t (0, 0)) := Go.heap_setCell_same _ _ 2 _ t v2 e2
  have e4 : ((((w.setCell ⟨g, 0, none⟩ v0).setCell ⟨g, 1, none⟩ v1).setCell ⟨g, 2, none⟩ v2).setCell ⟨g, 3, none⟩ v3).heap[g]? = some (.cells #[v0, v1, v2, v3, a4, a5, a6, a7, a8, a9, a10, a11] t (0, 0)) := Go.heap_setCell_same _ _ 3 _ t v3 e3
  have e5 : (((((w.setCell ⟨g, 0, none⟩ v0).setCell ⟨g, 1, none⟩ v1).setCell ⟨g, 2, none⟩ v2).setCell ⟨g, 3, none⟩ v3).setCell ⟨g, 4, none⟩ v4).heap[g]? = some (.cells #[v0, v1, v2, v3, v4, a5, a6, a7, a8, a9, a10, a11] t (0, 0)) := Go.heap_setCell_same _ _ 4 _ t v4 e4
  have e6 : ((((((w.setCell ⟨g, 0, none⟩ v0).setCell ⟨g, 1, none⟩ v1).setCell ⟨g, 2, none⟩ v2).setCell ⟨g, 3, none⟩ v3).setCell ⟨g, 4, none⟩ v4).setCell ⟨g, 5, none⟩ v5).heap[g]? = some (.cells #[v0, v1, v2, v3, v4, v5, a6, a7, a8, a9, a10, a11] t (0, 0)) := Go.heap_setCell_same _ _ 5 _ t v5 e5
  have e7 : (((((((w.setCell ⟨g, 0, none⟩ v0).setCell ⟨g, 1, none⟩ v1).setCell ⟨g, 2, none⟩ v2).setCell ⟨g, 3, none⟩ v3).setCell ⟨g, 4, none⟩ v4).setCell ⟨g, 5, none⟩ v5).setCell ⟨g, 6, none⟩ v6).heap[g]? = some (.cells #[v0, v1, v2, v3, v4, v5, v6, a7, a8, a9, a10, a11] t (0, 0)) := Go.heap_setCell_same _ _ 6 _ t v6 e6
  have e8 : ((((((((w.setCell ⟨g, 0, none⟩ v0).setCell ⟨g, 1, none⟩ v1).setCell ⟨g, 2, none⟩ v2).setCell ⟨g, 3, none⟩ v3).setCell ⟨g, 4, none⟩ v4).setCell ⟨g, 5, none⟩ v5).setCell ⟨g, 6, none⟩ v6).setCell ⟨g, 7, none⟩ v7).heap[g]? = some (.cells #[v0, v1, v2, v3, v4, v5, v6, v7, a8, a9, a10, a11] t (0, 0)) := Go.heap_setCell_same _ _ 7 _ t v7 e7
  have e9 : (((((((((w.setCell ⟨g, 0, none⟩ v0).setCell ⟨g, 1, none⟩ v1).setCell ⟨g, 2, none⟩ v2).setCell ⟨g, 3, none⟩ v3).setCell ⟨g, 4, none⟩ v4).setCell ⟨g, 5, none⟩ v5).setCell ⟨g, 6, none⟩ v6).setCell ⟨g, 7, none⟩ v7).setCell ⟨g, 8, none⟩ v8).heap[g]? = some (.cells #[v0, v1, v2, v3, v4, v5, v6, v7, v8, a9, a10, a11] t (0, 0)) := Go.heap_setCell_same _ _ 8 _ t v8 e8
  have e10 : ((((((((((w.setCell ⟨g, 0, none⟩ v0).setCell ⟨g, 1, none⟩ v1).setCell ⟨g, 2, none⟩ v2).setCell ⟨g, 3, none⟩ v3).setCell ⟨g, 4, none⟩ v4).setCell ⟨g, 5, none⟩ v5).setCell ⟨g, 6, none⟩ v6).setCell ⟨g, 7, none⟩ v7).setCell ⟨g, 8, none⟩ v8).setCell ⟨g, 9, none⟩ v9).heap[g]? = some (.cells #[v0, v1, v2, v3, v4, v5, v6, v7, v8, v9, a10, a11] t (0, 0)) := Go.heap_setCell_same _ _ 9 _ t v9 e9
  have e11 : (((((((((((w.setCell ⟨g, 0, none⟩ v0).setCell ⟨g, 1, none⟩ v1).setCell ⟨g, 2, none⟩ v2).setCell ⟨g, 3, none⟩ v3).setCell ⟨g, 4, none⟩ v4).setCell ⟨g, 5, none⟩ v5).setCell ⟨g, 6, none⟩ v6).setCell ⟨g, 7, none⟩ v7).setCell ⟨g, 8, none⟩ v8).setCell ⟨g, 9, none⟩ v9).setCell ⟨g, 10, none⟩ v10).heap[g]? = some (.cells #[v0, v1, v2, v3, v4, v5, v6, v7, v8, v9, v10, a11] t (0, 0)) := Go.heap_setCell_same _ _ 10 _ t v10 e10
  have e12 : ((((((((((((w.setCell ⟨g, 0, none⟩ v0).setCell ⟨g, 1, none⟩ v1).setCell ⟨g, 2, none⟩ v2).setCell ⟨g, 3, none⟩ v3).setCell ⟨g, 4, none⟩ v4).setCell ⟨g, 5, none⟩ v5).setCell ⟨g, 6, none⟩ v6).setCell ⟨g, 7, none⟩ v7).setCell ⟨g, 8, none⟩ v8).setCell ⟨g, 9, none⟩ v9).setCell ⟨g, 10, none⟩ v10).setCell ⟨g, 11, none⟩ v11).heap[g]? = some (.cells #[v0, v1, v2, v3, v4, v5, v6, v7, v8, v9, v10, v11] t (0, 0)) := Go.heap_setCell_same _ _ 11 _ t v11 e11
  exact ⟨e12, ((((((((((((hb.setCell hB _).setCell hB _).setCell hB _).setCell hB _).setCell hB _).setCell hB _).setCell hB _).setCell hB _).setCell hB _).setCell hB _).setCell hB _).setCell hB _)⟩
set_option maxRecDepth 100000 in
set_option maxHeartbeats 8000000 in
theorem find_any (k : Nat) (hk : k < 43) (w : World) : Calls Tryz.prog 140 #[.int .i64 ((k : Int) + 1)] w fun e w' => e = .returned (.tuple #[entVal (entAt k), .bool true]) ∧ Below w.heap.size w w' := by
  obtain ⟨W1, hW1⟩ : ∃ W1, W1 = w.alloc (.cells #[.string ⟨#[]⟩, .bool false, .bool false, .int .i64 0, .int .i64 0, .int .i64 0, .int .i64 0, .bool false, .bool false, .int .i64 0, .nilFunc, .nilFunc] TE) := ⟨_, rfl⟩
  have hz1 : W1.heap[w.heap.size]? = some (.cells #[.string ⟨#[]⟩, .bool false, .bool false, .int .i64 0, .int .i64 0, .int .i64 0, .int .i64 0, .bool false, .bool false, .int .i64 0, .nilFunc, .nilFunc] TE (0, 0)) := by rw [hW1]; exact heap_alloc_new w _
  have hb1 : Below w.heap.size w W1 := by rw [hW1]; exact (Below.refl _ _).alloc (Nat.le_refl _) _
  have HW1 := Lib.hid hW1
  have H1 := Lib.hid (And.intro hz1 hb1)
  have d1 : ¬ (k : Int) + 1 < 1 := by omega
  have d2 : ¬ 43 < (k : Int) + 1 := by omega
  have d3 : IntKind.i64.wrap (k : Int) = k := by rw [IntKind.wrap_i64]; omega
  clear hW1 hz1 hb1
  by_cases hc : k < 21
  · have d4 : (k : Int) + 1 ≤ 21 := by omega
    have d5 : (0 : Int) ≤ (k : Int) := by omega
    have d6 : (k : Int) < 21 := by omega
    go_enter Tryz.func140, Tryz.ntmps140
    go_upto_region 1 with fail
    rw [← HW1.out]
    go_wp2_with fail
    refine (sums_any W1).mono ?_
    rintro e w2 ⟨g, rfl, hg, hge, hb2⟩
    have hz := (hb2.block _ (heap_lt H1.out.1)).trans H1.out.1
    have c0 : w2.cell? ⟨g, k * 12, none⟩ = some (.string (entAt k).s) := cell_at hg (List.getElem?_toArray.trans (ents_cells (e := entAt k) (q := 0) rfl sumsL k (entAt_low hc)))
    have c1 : w2.cell? ⟨g, k * 12 + 1, none⟩ = some (.bool (isF (entAt k).m)) := cell_at hg (List.getElem?_toArray.trans (ents_cells (e := entAt k) (q := 1) rfl sumsL k (entAt_low hc)))
    have c2 : w2.cell? ⟨g, k * 12 + 2, none⟩ = some (.bool (isF (entAt k).d)) := cell_at hg (List.getElem?_toArray.trans (ents_cells (e := entAt k) (q := 2) rfl sumsL k (entAt_low hc)))
    have c3 : w2.cell? ⟨g, k * 12 + 3, none⟩ = some (.int .i64 (entAt k).a) := cell_at hg (List.getElem?_toArray.trans (ents_cells (e := entAt k) (q := 3) rfl sumsL k (entAt_low hc)))
    have c4 : w2.cell? ⟨g, k * 12 + 4, none⟩ = some (.int .i64 (entAt k).b) := cell_at hg (List.getElem?_toArray.trans (ents_cells (e := entAt k) (q := 4) rfl sumsL k (entAt_low hc)))
    have c5 : w2.cell? ⟨g, k * 12 + 5, none⟩ = some (.int .i64 (entAt k).c) := cell_at hg (List.getElem?_toArray.trans (ents_cells (e := entAt k) (q := 5) rfl sumsL k (entAt_low hc)))
    have c6 : w2.cell? ⟨g, k * 12 + 6, none⟩ = some (.int .i64 (entAt k).n) := cell_at hg (List.getElem?_toArray.trans (ents_cells (e := entAt k) (q := 6) rfl sumsL k (entAt_low hc)))
    have c7 : w2.cell? ⟨g, k * 12 + 7, none⟩ = some (.bool (entAt k).has) := cell_at hg (List.getElem?_toArray.trans (ents_cells (e := entAt k) (q := 7) rfl sumsL k (entAt_low hc)))
    have c8 : w2.cell? ⟨g, k * 12 + 8, none⟩ = some (.bool (entAt k).co) := cell_at hg (List.getElem?_toArray.trans (ents_cells (e := entAt k) (q := 8) rfl sumsL k (entAt_low hc)))
    have c9 : w2.cell? ⟨g, k * 12 + 9, none⟩ = some (.int .i64 (entAt k).op) := cell_at hg (List.getElem?_toArray.trans (ents_cells (e := entAt k) (q := 9) rfl sumsL k (entAt_low hc)))
    have c10 : w2.cell? ⟨g, k * 12 + 10, none⟩ = some (fv (entAt k).m) := cell_at hg (List.getElem?_toArray.trans (ents_cells (e := entAt k) (q := 10) rfl sumsL k (entAt_low hc)))
    have c11 : w2.cell? ⟨g, k * 12 + 11, none⟩ = some (fv (entAt k).d) := cell_at hg (List.getElem?_toArray.trans (ents_cells (e := entAt k) (q := 11) rfl sumsL k (entAt_low hc)))
    have z0 := cell_at hz (j := 0) rfl
    have z1 := cell_at hz (j := 1) rfl
    have z2 := cell_at hz (j := 2) rfl
    have z3 := cell_at hz (j := 3) rfl
    have z4 := cell_at hz (j := 4) rfl
    have z5 := cell_at hz (j := 5) rfl
    have z6 := cell_at hz (j := 6) rfl
    have z7 := cell_at hz (j := 7) rfl
    have z8 := cell_at hz (j := 8) rfl
    have z9 := cell_at hz (j := 9) rfl
    have z10 := cell_at hz (j := 10) rfl
    have z11 := cell_at hz (j := 11) rfl
    have fz := unfrozen hz
    have HZ := Lib.hid (And.intro hz (H1.out.2.then_ hb2))
    clear hz hg hge hb2
    obtain ⟨fm, hfm⟩ : ∃ x, x = (entAt k).m := ⟨_, rfl⟩
    obtain ⟨fd, hfd⟩ : ∃ x, x = (entAt k).d := ⟨_, rfl⟩
    rw [← hfm] at c1 c10
    rw [← hfd] at c2 c11
    have HF := Lib.hid (And.intro hfm hfd)
    clear hfm hfd
    cases fm <;> cases fd <;> simp only [fv] at c10 c11
    all_goals
      go_wp2_with fail
      obtain ⟨e1, e2⟩ := twelve (.string (entAt k).s) _ _ (.int .i64 (entAt k).a) (.int .i64 (entAt k).b) (.int .i64 (entAt k).c) (.int .i64 (entAt k).n) (.bool (entAt k).has) (.bool (entAt k).co) (.int .i64 (entAt k).op) _ _ HZ.out.1 HZ.out.2 (Nat.le_refl _)
      refine bodyPost_ret (results_ent (p := 2) (t := 3) rfl rfl rfl e1) rfl ⟨?_, e2⟩
      simp only [entVal, ← HF.out.1, ← HF.out.2, isF, fv]
      rfl
  · obtain ⟨m, hm⟩ : ∃ m, k = 21 + m := ⟨k - 21, by omega⟩
    have d4 : ¬ (k : Int) + 1 ≤ 21 := by omega
    have d5 : (0 : Int) ≤ (m : Int) := by omega
    have d6 : (m : Int) < 22 := by omega
    have d7 : IntKind.i64.wrap ((k : Int) - 21) = m := by rw [IntKind.wrap_i64]; omega
    have HM : Hid (m < 22 ∧ 21 + m = k) := Lib.hid ⟨by omega, hm.symm⟩
    clear hm
    go_enter Tryz.func140, Tryz.ntmps140
    go_upto_region 1 with fail
    rw [← HW1.out]
    go_wp2_with fail
    refine (others_any W1).mono ?_
    rintro e w2 ⟨g, rfl, hg, hge, hb2⟩
    have hz := (hb2.block _ (heap_lt H1.out.1)).trans H1.out.1
    have c0 : w2.cell? ⟨g, m * 12, none⟩ = some (.string (entAt k).s) := cell_at hg (List.getElem?_toArray.trans (ents_cells (e := entAt k) (q := 0) rfl othersL m (by rw [← HM.out.2]; exact entAt_high HM.out.1)))
    have c1 : w2.cell? ⟨g, m * 12 + 1, none⟩ = some (.bool (isF (entAt k).m)) := cell_at hg (List.getElem?_toArray.trans (ents_cells (e := entAt k) (q := 1) rfl othersL m (by rw [← HM.out.2]; exact entAt_high HM.out.1)))
    have c2 : w2.cell? ⟨g, m * 12 + 2, none⟩ = some (.bool (isF (entAt k).d)) := cell_at hg (List.getElem?_toArray.trans (ents_cells (e := entAt k) (q := 2) rfl othersL m (by rw [← HM.out.2]; exact entAt_high HM.out.1)))
    have c3 : w2.cell? ⟨g, m * 12 + 3, none⟩ = some (.int .i64 (entAt k).a) := cell_at hg (List.getElem?_toArray.trans (ents_cells (e := entAt k) (q := 3) rfl othersL m (by rw [← HM.out.2]; exact entAt_high HM.out.1)))
    have c4 : w2.cell? ⟨g, m * 12 + 4, none⟩ = some (.int .i64 (entAt k).b) := cell_at hg (List.getElem?_toArray.trans (ents_cells (e := entAt k) (q := 4) rfl othersL m (by rw [← HM.out.2]; exact entAt_high HM.out.1)))
    have c5 : w2.cell? ⟨g, m * 12 + 5, none⟩ = some (.int .i64 (entAt k).c) := cell_at hg (List.getElem?_toArray.trans (ents_cells (e := entAt k) (q := 5) rfl othersL m (by rw [← HM.out.2]; exact entAt_high HM.out.1)))
    have c6 : w2.cell? ⟨g, m * 12 + 6, none⟩ = some (.int .i64 (entAt k).n) := cell_at hg (List.getElem?_toArray.trans (ents_cells (e := entAt k) (q := 6) rfl othersL m (by rw [← HM.out.2]; exact entAt_high HM.out.1)))
    have c7 : w2.cell? ⟨g, m * 12 + 7, none⟩ = some (.bool (entAt k).has) := cell_at hg (List.getElem?_toArray.trans (ents_cells (e := entAt k) (q := 7) rfl othersL m (by rw [← HM.out.2]; exact entAt_high HM.out.1)))
    have c8 : w2.cell? ⟨g, m * 12 + 8, none⟩ = some (.bool (entAt k).co) := cell_at hg (List.getElem?_toArray.trans (ents_cells (e := entAt k) (q := 8) rfl othersL m (by rw [← HM.out.2]; exact entAt_high HM.out.1)))
    have c9 : w2.cell? ⟨g, m * 12 + 9, none⟩ = some (.int .i64 (entAt k).op) := cell_at hg (List.getElem?_toArray.trans (ents_cells (e := entAt k) (q := 9) rfl othersL m (by rw [← HM.out.2]; exact entAt_high HM.out.1)))
    have c10 : w2.cell? ⟨g, m * 12 + 10, none⟩ = some (fv (entAt k).m) := cell_at hg (List.getElem?_toArray.trans (ents_cells (e := entAt k) (q := 10) rfl othersL m (by rw [← HM.out.2]; exact entAt_high HM.out.1)))
    have c11 : w2.cell? ⟨g, m * 12 + 11, none⟩ = some (fv (entAt k).d) := cell_at hg (List.getElem?_toArray.trans (ents_cells (e := entAt k) (q := 11) rfl othersL m (by rw [← HM.out.2]; exact entAt_high HM.out.1)))
    have z0 := cell_at hz (j := 0) rfl
    have z1 := cell_at hz (j := 1) rfl
    have z2 := cell_at hz (j := 2) rfl
    have z3 := cell_at hz (j := 3) rfl
    have z4 := cell_at hz (j := 4) rfl
    have z5 := cell_at hz (j := 5) rfl
    have z6 := cell_at hz (j := 6) rfl
    have z7 := cell_at hz (j := 7) rfl
    have z8 := cell_at hz (j := 8) rfl
    have z9 := cell_at hz (j := 9) rfl
    have z10 := cell_at hz (j := 10) rfl
    have z11 := cell_at hz (j := 11) rfl
    have fz := unfrozen hz
    have HZ := Lib.hid (And.intro hz (H1.out.2.then_ hb2))
    clear hz hg hge hb2
    obtain ⟨fm, hfm⟩ : ∃ x, x = (entAt k).m := ⟨_, rfl⟩
    obtain ⟨fd, hfd⟩ : ∃ x, x = (entAt k).d := ⟨_, rfl⟩
    rw [← hfm] at c1 c10
    rw [← hfd] at c2 c11
    have HF := Lib.hid (And.intro hfm hfd)
    clear hfm hfd
    cases fm <;> cases fd <;> simp only [fv] at c10 c11
    all_goals
      go_wp2_with fail
      obtain ⟨e1, e2⟩ := twelve (.string (entAt k).s) _ _ (.int .i64 (entAt k).a) (.int .i64 (entAt k).b) (.int .i64 (entAt k).c) (.int .i64 (entAt k).n) (.bool (entAt k).has) (.bool (entAt k).co) (.int .i64 (entAt k).op) _ _ HZ.out.1 HZ.out.2 (Nat.le_refl _)
      refine bodyPost_ret (results_ent (p := 2) (t := 3) rfl rfl rfl e1) rfl ⟨?_, e2⟩
      simp only [entVal, ← HF.out.1, ← HF.out.2, isF, fv]
      rfl
abbrev TPr : TypeId := 126
abbrev TR3 : TypeId := 48
theorem nine {w : World} {g : Nat} {t : TypeId} {a0 a1 a2 a3 a4 a5 a6 a7 a8 : Value} (v0 v1 v2 v3 v4 v5 v6 v7 v8 : Value) (h : w.heap[g]? = some (.cells #[a0, a1, a2, a3, a4, a5, a6, a7, a8] t (0, 0))) {B : Nat} {w0 : World} (hb : Below B w0 w) (hB : B ≤ g) :
    (((((((((w.setCell ⟨g, 0, none⟩ v0).setCell ⟨g, 1, none⟩ v1).setCell ⟨g, 2, none⟩ v2).setCell ⟨g, 3, none⟩ v3).setCell ⟨g, 4, none⟩ v4).setCell ⟨g, 5, none⟩ v5).setCell ⟨g, 6, none⟩ v6).setCell ⟨g, 7, none⟩ v7).setCell ⟨g, 8, none⟩ v8).heap[g]? = some (.cells #[v0, v1, v2, v3, v4, v5, v6, v7, v8] t (0, 0)) ∧ Below B w0 (((((((((w.setCell ⟨g, 0, none⟩ v0).setCell ⟨g, 1, none⟩ v1).setCell ⟨g, 2, none⟩ v2).setCell ⟨g, 3, none⟩ v3).setCell ⟨g, 4, none⟩ v4).setCell ⟨g, 5, none⟩ v5).setCell ⟨g, 6, none⟩ v6).setCell ⟨g, 7, none⟩ v7).setCell ⟨g, 8, none⟩ v8) := by
  have e1 : (w.setCell ⟨g, 0, none⟩ v0).heap[g]? = some (.cells #[v0, a1, a2, a3, a4, a5, a6, a7, a8] t (0, 0)) := Go.heap_setCell_same _ _ 0 _ t v0 h
  have e2 : ((w.setCell ⟨g, 0, none⟩ v0).setCell ⟨g, 1, none⟩ v1).heap[g]? = some (.cells #[v0, v1, a2, a3, a4, a5, a6, a7, a8] t (0, 0)) := Go.heap_setCell_same _ _ 1 _ t v1 e1
  have e3 : (((w.setCell ⟨g, 0, none⟩ v0).setCell ⟨g, 1, none⟩ v1).setCell ⟨g, 2, none⟩ v2).heap[g]? = some (.cells #[v0, v1, v2, a3, a4, a5, a6, a7, a8] t (0, 0)) := Go.heap_setCell_same _ _ 2 _ t v2 e2
  have e4 : ((((w.setCell ⟨g, 0, none⟩ v0).setCell ⟨g, 1, none⟩ v1).setCell ⟨g, 2, none⟩ v2).setCell ⟨g, 3, none⟩ v3).heap[g]? = some (.cells #[v0, v1, v2, v3, a4, a5, a6, a7, a8] t (0, 0)) := Go.heap_setCell_same _ _ 3 _ t v3 e3
  have e5 : (((((w.setCell ⟨g, 0, none⟩ v0).setCell ⟨g, 1, none⟩ v1).setCell ⟨g, 2, none⟩ v2).setCell ⟨g, 3, none⟩ v3).setCell ⟨g, 4, none⟩ v4).heap[g]? = some (.cells #[v0, v1, v2, v3, v4, a5, a6, a7, a8] t (0, 0)) := Go.heap_setCell_same _ _ 4 _ t v4 e4
  have e6 : ((((((w.setCell ⟨g, 0, none⟩ v0).setCell ⟨g, 1, none⟩ v1).setCell ⟨g, 2, none⟩ v2).setCell ⟨g, 3, none⟩ v3).setCell ⟨g, 4, none⟩ v4).setCell ⟨g, 5, none⟩ v5).heap[g]? = some (.cells #[v0, v1, v2, v3, v4, v5, a6, a7, a8] t (0, 0)) := Go.heap_setCell_same _ _ 5 _ t v5 e5
  have e7 : (((((((w.setCell ⟨g, 0, none⟩ v0).setCell ⟨g, 1, none⟩ v1).setCell ⟨g, 2, none⟩ v2).setCell ⟨g, 3, none⟩ v3).setCell ⟨g, 4, none⟩ v4).setCell ⟨g, 5, none⟩ v5).setCell ⟨g, 6, none⟩ v6).heap[g]? = some (.cells #[v0, v1, v2, v3, v4, v5, v6, a7, a8] t (0, 0)) := Go.heap_setCell_same _ _ 6 _ t v6 e6
  have e8 : ((((((((w.setCell ⟨g, 0, none⟩ v0).setCell ⟨g, 1, none⟩ v1).setCell ⟨g, 2, none⟩ v2).setCell ⟨g, 3, none⟩ v3).setCell ⟨g, 4, none⟩ v4).setCell ⟨g, 5, none⟩ v5).setCell ⟨g, 6, none⟩ v6).setCell ⟨g, 7, none⟩ v7).heap[g]? = some (.cells #[v0, v1, v2, v3, v4, v5, v6, v7, a8] t (0, 0)) := Go.heap_setCell_same _ _ 7 _ t v7 e7
  have e9 : (((((((((w.setCell ⟨g, 0, none⟩ v0).setCell ⟨g, 1, none⟩ v1).setCell ⟨g, 2, none⟩ v2).setCell ⟨g, 3, none⟩ v3).setCell ⟨g, 4, none⟩ v4).setCell ⟨g, 5, none⟩ v5).setCell ⟨g, 6, none⟩ v6).setCell ⟨g, 7, none⟩ v7).setCell ⟨g, 8, none⟩ v8).heap[g]? = some (.cells #[v0, v1, v2, v3, v4, v5, v6, v7, v8] t (0, 0)) := Go.heap_setCell_same _ _ 8 _ t v8 e8
  exact ⟨e9, (((((((((hb.setCell hB _).setCell hB _).setCell hB _).setCell hB _).setCell hB _).setCell hB _).setCell hB _).setCell hB _).setCell hB _)⟩
theorem results_prim {fn : Func} {p t : Tmp} (h : fn.results = #[.cell p TPr, .tmp t]) {tmps : Array Value} {w : World} {g : Nat} (hp : tmps.getD p undef = .pointer (some ⟨g, 0, none⟩)) {v0 v1 v2 v3 v4 v5 v6 v7 v8 u : Value}
    (hu : tmps.getD t undef = u) (hg : w.heap[g]? = some (.cells #[v0, v1, v2, v3, v4, v5, v6, v7, v8] TPr (0, 0))) : (results fn tmps).run Tryz.prog w = .ok (.tuple #[.agg #[v0, v1, v2, v3, v4, v5, v6, v7, v8], u]) w := by
  have k0 := cell_at hg (j := 0) rfl
  have k1 := cell_at hg (j := 1) rfl
  have k2 := cell_at hg (j := 2) rfl
  have k3 := cell_at hg (j := 3) rfl
  have k4 := cell_at hg (j := 4) rfl
  have k5 := cell_at hg (j := 5) rfl
  have k6 := cell_at hg (j := 6) rfl
  have k7 := cell_at hg (j := 7) rfl
  have k8 := cell_at hg (j := 8) rfl
  rw [Array.getD_eq_getD_getElem?] at hp hu
  simp only [results, h]
  simp [go_sem, hp, hu, k0, k1, k2, k3, k4, k5, k6, k7, k8]
theorem three {w : World} {g : Nat} {t : TypeId} {a0 a1 a2 : Value} (v0 v1 v2 : Value) (h : w.heap[g]? = some (.cells #[a0, a1, a2] t (0, 0))) {B : Nat} {w0 : World} (hb : Below B w0 w) (hB : B ≤ g) :
    (((w.setCell ⟨g, 0, none⟩ v0).setCell ⟨g, 1, none⟩ v1).setCell ⟨g, 2, none⟩ v2).heap[g]? = some (.cells #[v0, v1, v2] t (0, 0)) ∧ Below B w0 (((w.setCell ⟨g, 0, none⟩ v0).setCell ⟨g, 1, none⟩ v1).setCell ⟨g, 2, none⟩ v2) := by
  have e1 : (w.setCell ⟨g, 0, none⟩ v0).heap[g]? = some (.cells #[v0, a1, a2] t (0, 0)) := Go.heap_setCell_same _ _ 0 _ t v0 h
  have e2 : ((w.setCell ⟨g, 0, none⟩ v0).setCell ⟨g, 1, none⟩ v1).heap[g]? = some (.cells #[v0, v1, a2] t (0, 0)) := Go.heap_setCell_same _ _ 1 _ t v1 e1
  have e3 : (((w.setCell ⟨g, 0, none⟩ v0).setCell ⟨g, 1, none⟩ v1).setCell ⟨g, 2, none⟩ v2).heap[g]? = some (.cells #[v0, v1, v2] t (0, 0)) := Go.heap_setCell_same _ _ 2 _ t v2 e2
  exact ⟨e3, (((hb.setCell hB _).setCell hB _).setCell hB _)⟩
theorem results_r3 {fn : Func} {p : Tmp} (h : fn.results = #[.cell p TR3]) {tmps : Array Value} {w : World} {g : Nat} (hp : tmps.getD p undef = .pointer (some ⟨g, 0, none⟩)) {v0 v1 v2 : Value}
    (hg : w.heap[g]? = some (.cells #[v0, v1, v2] TR3 (0, 0))) : (results fn tmps).run Tryz.prog w = .ok (.agg #[v0, v1, v2]) w := by
  have k0 := cell_at hg (j := 0) rfl
  have k1 := cell_at hg (j := 1) rfl
  have k2 := cell_at hg (j := 2) rfl
  rw [Array.getD_eq_getD_getElem?] at hp
  simp only [results, h]
  simp [go_sem, hp, k0, k1, k2]
theorem results_r3e {fn : Func} {p t : Tmp} (h : fn.results = #[.cell p TR3, .tmp t]) {tmps : Array Value} {w : World} {g : Nat} (hp : tmps.getD p undef = .pointer (some ⟨g, 0, none⟩)) {v0 v1 v2 u : Value}
    (hu : tmps.getD t undef = u) (hg : w.heap[g]? = some (.cells #[v0, v1, v2] TR3 (0, 0))) : (results fn tmps).run Tryz.prog w = .ok (.tuple #[.agg #[v0, v1, v2], u]) w := by
  have k0 := cell_at hg (j := 0) rfl
  have k1 := cell_at hg (j := 1) rfl
  have k2 := cell_at hg (j := 2) rfl
  rw [Array.getD_eq_getD_getElem?] at hp hu
  simp only [results, h]
  simp [go_sem, hp, hu, k0, k1, k2]
abbrev primVal (e : Ent) : Value := .agg #[.string e.s, .bool (isF e.m), .bool (isF e.d), .int .i64 e.a, .int .i64 e.b, .int .i64 e.c, .int .i64 e.n, .bool e.has, .bool e.co]
set_option maxRecDepth 100000 in
set_option maxHeartbeats 8000000 in
theorem info_any (k : Nat) (hk : k < 43) (w : World) : Calls Tryz.prog 112 #[.int .i64 ((k : Int) + 1)] w fun e w' => e = .returned (.tuple #[primVal (entAt k), .int .i64 0]) ∧ Below w.heap.size w w' := by
  obtain ⟨W1, hW1⟩ : ∃ W1, W1 = w.alloc (.cells #[.string ⟨#[]⟩, .bool false, .bool false, .int .i64 0, .int .i64 0, .int .i64 0, .int .i64 0, .bool false, .bool false] TPr) := ⟨_, rfl⟩
  have hz1 : W1.heap[w.heap.size]? = some (.cells #[.string ⟨#[]⟩, .bool false, .bool false, .int .i64 0, .int .i64 0, .int .i64 0, .int .i64 0, .bool false, .bool false] TPr (0, 0)) := by rw [hW1]; exact heap_alloc_new w _
  have hb1 : Below w.heap.size w W1 := by rw [hW1]; exact (Below.refl _ _).alloc (Nat.le_refl _) _
  have HW1 := Lib.hid hW1
  have H1 := Lib.hid (And.intro hz1 hb1)
  clear hW1 hz1 hb1
  go_enter Tryz.func112, Tryz.ntmps112
  go_upto_region 1 with fail
  rw [← HW1.out]
  go_wp2_with fail
  refine (find_any k hk W1).mono ?_
  rintro e w2 ⟨rfl, hb2⟩
  have hz := (hb2.block _ (heap_lt H1.out.1)).trans H1.out.1
  have HB2 := Lib.hid (H1.out.2.then_ hb2)
  have z0 := cell_at hz (j := 0) rfl
  have z1 := cell_at hz (j := 1) rfl
  have z2 := cell_at hz (j := 2) rfl
  have z3 := cell_at hz (j := 3) rfl
  have z4 := cell_at hz (j := 4) rfl
  have z5 := cell_at hz (j := 5) rfl
  have z6 := cell_at hz (j := 6) rfl
  have z7 := cell_at hz (j := 7) rfl
  have z8 := cell_at hz (j := 8) rfl
  have fz := unfrozen hz
  have hl := heap_lt hz
  have HZ := Lib.hid hz
  clear hz hb2
  obtain ⟨fm, hfm⟩ : ∃ x, x = (entAt k).m := ⟨_, rfl⟩
  obtain ⟨fd, hfd⟩ : ∃ x, x = (entAt k).d := ⟨_, rfl⟩
  unfold entVal
  rw [← hfm, ← hfd]
  have HF := Lib.hid (And.intro hfm hfd)
  clear hfm hfd
  cases fm <;> cases fd <;> simp only [fv, isF]
  all_goals
    go_wp2_with fail
    obtain ⟨e1, e2⟩ := nine (.string (entAt k).s) _ _ (.int .i64 (entAt k).a) (.int .i64 (entAt k).b) (.int .i64 (entAt k).c) (.int .i64 (entAt k).n) (.bool (entAt k).has) (.bool (entAt k).co) HZ.out HB2.out (Nat.le_refl _)
    refine bodyPost_ret (results_prim (p := 2) (t := 3) rfl rfl rfl ((Below.heap_alloc _ _ _ (by simpa [World.setCell] using hl)).trans e1)) rfl ⟨?_, e2.alloc (by simpa [World.setCell] using Nat.le_of_lt hl) _⟩
    simp only [primVal, ← HF.out.1, ← HF.out.2, isF]
    rfl
end Go.Proofs.YtebiojmfieoncaaGreat
