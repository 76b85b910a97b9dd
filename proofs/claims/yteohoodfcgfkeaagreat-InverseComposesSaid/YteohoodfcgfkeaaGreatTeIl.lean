/- abacuslaw17: prim, number, begun. No condition. -/
import Derived.Test.YteohoodfcgfkeaaGreatTeId
import Derived.Test.YteohoodfcgfkeaaGreatTermNamedWalk
namespace Go.Proofs.YteohoodfcgfkeaaGreat
open Go.RowKit

set_option maxRecDepth 100000 in
theorem lprim_any (s : ByteArray) (w : World) : Calls Tryz.prog 68 #[.string s] w fun e w' => e = .returned (.agg #[.int .i64 20, .string s, .int .i64 0, .slice none 0 0, .slice none 0 0, .slice none 0 0]) ∧ Below w.heap.size w w' := by
  go_enter Tryz.func68, Tryz.ntmps68
  go_wp2_with fail
  refine ret_agg ?_ rfl ?_
  · simp [results, Tryz.results68, go_sem]
  · repeat (first | exact Below.refl _ _ | refine Below.alloc ?_ (by simp) _ | refine Below.setCell ?_ (by simp) _)
/-- a number in a row of its own -/
def NumAt (w : World) (g : Nat) (n : Int) : Prop := w.heap[g]? = some (.cells #[.int .i64 n] TI6 (0, 0))
theorem NumAt.on {w w' : World} {g : Nat} {n : Int} (h : NumAt w g n) (hb : Below w.heap.size w w') : NumAt w' g n := (hb.block _ (heap_lt h)).trans h
theorem NumAt.tm {w : World} {g : Nat} {n : Int} (h : NumAt w g n) : TmAt w (tNum n) none (some ⟨g, 0, none⟩) none := by
  refine ⟨IntsAt.nil _ _, fun i x hx => ?_, KidsAt.nil _ _⟩
  match i, hx with
  | 0, hx =>
    obtain rfl := Option.some.inj hx
    exact ⟨g, 0, rfl, heap_lt h, cell_at h rfl⟩
set_option maxRecDepth 100000 in
theorem number_any (n : Int) (w : World) : Calls Tryz.prog 36 #[.int .i64 n] w fun e w' => ∃ g, e = .returned (.agg #[.int .i64 1, .string ⟨#[]⟩, .int .i64 0, .slice none 0 0, .slice (some ⟨g, 0, none⟩) 1 1, .slice none 0 0]) ∧ w.heap.size ≤ g ∧ NumAt w' g n ∧ Below w.heap.size w w' := by
  go_enter Tryz.func36, Tryz.ntmps36
  go_wp2_with fail
  exact bodyPost_ret (results_tm1 rfl rfl ((Below.heap_alloc _ _ _ (by simp)).trans (heap_alloc_new w _))) rfl ⟨w.heap.size + 1, rfl, Nat.le_succ _, heap_new2 _ _ _, ((Below.refl _ _).alloc (Nat.le_refl _) _).alloc (by simp) _⟩
theorem num_wf {n : Int} (h : In64 n) : WfT (tNum n) := by
  simp only [tNum, WfT, WfL, and_true]
  exact ⟨⟨by decide, by decide⟩, ⟨by decide, by decide⟩, fun x hx => (by cases hx), fun x hx => (by rw [List.mem_singleton.1 hx]; exact h), by decide, by decide, (by show 1 * 8 ≤ 140737488351232; decide), by decide⟩
theorem tOf_kids {w : World} {k : Int} {x y : Tm} {A B K : Option Addr} (h : TmAt w (tOf k [x, y]) A B K) : ∃ g o, K = some ⟨g, o, none⟩ ∧ PtrAt w g o x ∧ PtrAt w g (o + 6) y := by
  obtain ⟨bk, ok, e, h0⟩ := h.kids.get (i := 0) (t := x) rfl
  obtain ⟨bk', ok', e', h1⟩ := h.kids.get (i := 1) (t := y) rfl
  rw [e] at e'
  simp only [Option.some.injEq, Addr.mk.injEq, and_true] at e'
  obtain ⟨rfl, rfl⟩ := e'
  exact ⟨bk, ok, e, by simpa using h0, by simpa using h1⟩
theorem begun17_facts : obvT (tOf 39 [tNum 3, tPrim ⟨#[43]⟩]) = (tOf 40 [tPrim ⟨#[45]⟩, tNum 3], 0) ∧ obvT (tPrim ⟨#[123, 46]⟩) = (tNil, 18) ∧ obvT (tNum 3) = (tNil, 5) := by
  have e1 : mayT (tOf 39 [tNum 3, tPrim ⟨#[43]⟩]) 3 = 0 := by decide +kernel
  have e2 : mayT (tPrim ⟨#[123, 46]⟩) 3 = 0 := by decide +kernel
  have e3 : mayT (tNum 3) 3 = 5 := by decide +kernel
  have e4 : obv (tOf 39 [tNum 3, tPrim ⟨#[43]⟩]) = (tOf 40 [tPrim ⟨#[45]⟩, tNum 3], true) := by rw [obv_eq]; rfl
  have e5 : (obv (tPrim ⟨#[123, 46]⟩)).2 = false := by rw [obv_eq]; rfl
  unfold obvT
  refine ⟨?_, ?_, ?_⟩
  · rw [e1, if_neg (by decide), e4]; rfl
  · rw [e2, if_neg (by decide), e5]; rfl
  · rw [e3]; rfl
set_option maxRecDepth 100000 in
set_option maxHeartbeats 8000000 in
theorem begun17_any (w : World) : Calls Tryz.prog 33 #[] w fun e w' => e = .returned (.bool true) ∧ Below w.heap.size w w' := by
  go_enter Tryz.func33, Tryz.ntmps33
  go_wp2_with fail
  refine (number_any 3 w).mono ?_
  rintro e w1 ⟨g1, rfl, hg1, hn1, hb1⟩
  have H1 := Lib.hid (And.intro hn1 hb1)
  clear hg1 hn1 hb1
  go_wp2_with fail
  refine (lprim_any _ w1).mono ?_
  rintro e w2 ⟨rfl, hb2⟩
  have HB2 := Lib.hid hb2
  clear hb2
  go_wp2_with fail
  obtain ⟨W2, hW2⟩ : ∃ W2, W2 = w2.alloc (.cells #[.int .i64 1, .string ⟨#[]⟩, .int .i64 0, .slice none 0 0, .slice (some ⟨g1, 0, none⟩) 1 1, .slice none 0 0, .int .i64 20, .string ⟨#[43]⟩, .int .i64 0, .slice none 0 0, .slice none 0 0, .slice none 0 0] TTm) := ⟨_, rfl⟩
  have hb2 : Below w2.heap.size w2 W2 := by rw [hW2]; exact (Below.refl _ _).alloc (Nat.le_refl _) _
  have hx2 : W2.heap[w2.heap.size]? = some (.cells #[.int .i64 1, .string ⟨#[]⟩, .int .i64 0, .slice none 0 0, .slice (some ⟨g1, 0, none⟩) 1 1, .slice none 0 0, .int .i64 20, .string ⟨#[43]⟩, .int .i64 0, .slice none 0 0, .slice none 0 0, .slice none 0 0] TTm (0, 0)) := by rw [hW2]; exact heap_alloc_new w2 _
  have ht2 : TmAt W2 (tOf 39 [tNum 3, tPrim ⟨#[43]⟩]) none none (some ⟨w2.heap.size, 0, none⟩) := two_at (x := tNum 3) (y := tPrim ⟨#[43]⟩) (ca := 0) (cb := 1) (ck := 0) (A' := none) (B' := none) (K' := none) (ca' := 0) (cb' := 0) (ck' := 0) 39 ((H1.out.1.on HB2.out).on hb2).tm (tPrim_at _ _) hx2
  have H2 := Lib.hid (And.intro ht2 (H1.out.2.then_ (HB2.out.then_ hb2)))
  have HW2 := Lib.hid hW2
  clear hb2 hx2 ht2 hW2
  rw [← HW2.out]
  refine (iof_any (tOf 39 [tNum 3, tPrim ⟨#[43]⟩]) none 0 none 0 (some ⟨w2.heap.size, 0, none⟩) 2 W2 H2.out.1 (wf_tOf ⟨by decide, by decide⟩ (num_wf ⟨by decide, by decide⟩) (prim_wf _ (by decide)))).mono ?_
  rintro e w3 ⟨r, he, ho, _, hb3⟩
  rw [begun17_facts.1] at he ho
  subst he
  have H3 := Lib.hid (And.intro ho (H2.out.2.then_ hb3))
  clear ho hb3
  go_upto_region 2 with fail
  obtain ⟨W3, hW3⟩ : ∃ W3, W3 = w3.alloc (.cells #[.int .i64 40, .string ⟨#[]⟩, .int .i64 0, .slice r.s.p r.s.n r.s.c, .slice r.a.p r.a.n r.a.c, .slice r.k.p r.k.n r.k.c] TTm) := ⟨_, rfl⟩
  have hb3 : Below w3.heap.size w3 W3 := by rw [hW3]; exact (Below.refl _ _).alloc (Nat.le_refl _) _
  have hx3 : W3.heap[w3.heap.size]? = some (.cells #[.int .i64 40, .string ⟨#[]⟩, .int .i64 0, .slice r.s.p r.s.n r.s.c, .slice r.a.p r.a.n r.a.c, .slice r.k.p r.k.n r.k.c] TTm (0, 0)) := by rw [hW3]; exact heap_alloc_new w3 _
  have H3' := Lib.hid (And.intro hx3 (And.intro (H3.out.1.on hb3).read (H3.out.2.then_ hb3)))
  have HW3 := Lib.hid hW3
  clear hb3 hx3 hW3 H3
  have H3 := H3'
  clear H3'
  refine HW3.out ▸ ?_
  go_wp2_with fail
  refine (lprim_any _ W3).mono ?_
  rintro e w4 ⟨rfl, hb4⟩
  have HB4 := Lib.hid hb4
  clear hb4
  go_wp2_with fail
  refine (iof_any (tPrim ⟨#[123, 46]⟩) none 0 none 0 none 0 w4 (tPrim_at _ _) (prim_wf _ (by decide))).mono ?_
  rintro e w5 ⟨r5, he, _, _, hb5⟩
  rw [begun17_facts.2.1] at he
  subst he
  have HB5 := Lib.hid (HB4.out.then_ hb5)
  clear hb5 HB4
  go_upto_region 3 with fail
  obtain ⟨W5, hW5⟩ : ∃ W5, W5 = w5.alloc (.cells #[.int .i64 0, .string ⟨#[]⟩, .int .i64 0, .slice r5.s.p r5.s.n r5.s.c, .slice r5.a.p r5.a.n r5.a.c, .slice r5.k.p r5.k.n r5.k.c] TTm) := ⟨_, rfl⟩
  have HB5' : Hid (Below W3.heap.size W3 W5) := Lib.hid (by rw [hW5]; exact HB5.out.alloc HB5.out.size _)
  have HW5 := Lib.hid hW5
  clear hW5 HB5
  refine HW5.out ▸ ?_
  go_wp2_with fail
  refine (number_any 3 W5).mono ?_
  rintro e w6 ⟨g6, rfl, _, hn6, hb6⟩
  have H6 := Lib.hid (And.intro hn6 (HB5'.out.then_ hb6))
  clear hn6 hb6
  go_wp2_with fail
  refine (iof_any (tNum 3) none 0 (some ⟨g6, 0, none⟩) 1 none 0 w6 H6.out.1.tm (num_wf ⟨by decide, by decide⟩)).mono ?_
  rintro e w7 ⟨r7, he, _, _, hb7⟩
  rw [begun17_facts.2.2] at he
  subst he
  have HB7 := Lib.hid (H6.out.2.then_ hb7)
  clear hb7
  go_upto_region 4 with fail
  obtain ⟨W7, hW7⟩ : ∃ W7, W7 = w7.alloc (.cells #[.int .i64 0, .string ⟨#[]⟩, .int .i64 0, .slice r7.s.p r7.s.n r7.s.c, .slice r7.a.p r7.a.n r7.a.c, .slice r7.k.p r7.k.n r7.k.c] TTm) := ⟨_, rfl⟩
  have HB7' : Hid (Below W3.heap.size W3 W7) := Lib.hid (by rw [hW7]; exact HB7.out.alloc HB7.out.size _)
  have HW7 := Lib.hid hW7
  clear hW7
  refine HW7.out ▸ ?_
  obtain ⟨gk, ok, hk, pk0, pk1⟩ := tOf_kids (H3.out.2.1.1.on HB7'.out)
  have hx7 := (HB7'.out.block _ (heap_lt H3.out.1)).trans H3.out.1
  rw [hk, show r.k.n = 2 from H3.out.2.1.2.2.2] at hx7
  have x0 := cell_at hx7 (j := 0) rfl
  have x5 := cell_at hx7 (j := 5) rfl
  obtain ⟨_, _, _, _, _, _, _, _, y1, _⟩ := pk0.cells
  obtain ⟨_, _, _, _, _, _, _, u0, _⟩ := pk1.cells
  have y1' : W7.cell? ⟨gk, ok + 1, none⟩ = some (.string ⟨#[45]⟩) := y1
  have u0' : W7.cell? ⟨gk, ok + 6, none⟩ = some (.int .i64 1) := u0
  clear hx7 pk0 pk1 hk y1 u0
  go_wp2_with fail
  go_ret
  exact ⟨rfl, H3.out.2.2.then_ HB7'.out⟩
end Go.Proofs.YteohoodfcgfkeaaGreat
