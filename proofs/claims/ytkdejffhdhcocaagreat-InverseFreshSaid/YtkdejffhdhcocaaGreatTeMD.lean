/- inverse.Of: a verb's obverse. Condition: sizes within reach. · abacuslaw17: prim, number, begun. No condition. · Obverses: sizes, what Of answers. Plain laws. No condition. -/
import Derived.Test.YtkdejffhdhcocaaGreatTeIc
import Derived.Test.YtkdejffhdhcocaaGreatTeNm
namespace Go.Proofs.YtkdejffhdhcocaaGreat
open Go.RowKit Go.Maps

theorem may_good {t : Tm} {c : Int} (h : mayT t c = 0) : goodT false t = true ∧ greatT t = false ∧ cls t.kind = c := by
  unfold mayT at h
  split at h
  · cases h
  split at h
  · cases h
  rename_i hg
  split at h
  · cases h
  rename_i hd
  split at h
  · cases h
  rename_i hc
  refine ⟨?_, by simpa using hg, ?_⟩
  · cases h' : goodT false t with
    | true => rfl
    | false => exact absurd h' hd
  · exact Decidable.not_not.1 hc
/-- what a function leaves that answers a term in memory of its own, and a number -/
def TnPost (t : Tm) (n : Int) (w : World) (e : Ending) (w' : World) : Prop := ∃ r : Rt, e = .returned (.tuple #[rtVal t r, .int .i64 n]) ∧ OwnT w' w.heap.size t r ∧ (blksT r).Nodup ∧ Below w.heap.size w w'
theorem tn_nil {w W : World} {n : Int} (hb : Below w.heap.size w W) : TnPost tNil n w (.returned (.tuple #[.agg tm0, .int .i64 n])) W :=
  ⟨rt0, rfl, own_nil _ _, by rw [blks0]; exact List.nodup_nil, hb⟩
set_option maxRecDepth 100000 in
set_option maxHeartbeats 8000000 in
theorem iof_any (t : Tm) (A : Option Addr) (ca : Nat) (B : Option Addr) (cb : Nat) (K : Option Addr) (ck : Nat) (w : World) (hat : TmAt w t A B K) (hwf : WfT t) : Calls Tryz.prog 9 #[tmVal t A ca B cb K ck] w (TnPost (obvT t).1 (obvT t).2 w) := by
  obtain ⟨W2, hW2⟩ : ∃ W2, W2 = (w.alloc (.cells (tmCells t A ca B cb K ck) TTm)).alloc (.cells tm0 TTm) := ⟨_, rfl⟩
  have hb1 : Below w.heap.size w (w.alloc (.cells (tmCells t A ca B cb K ck) TTm)) := (Below.refl _ _).alloc (Nat.le_refl _) _
  have hb2 : Below w.heap.size w W2 := by rw [hW2]; exact hb1.alloc hb1.size _
  have hc1 : W2.heap[w.heap.size]? = some (.cells (tmCells t A ca B cb K ck) TTm (0, 0)) := by rw [hW2]; exact (Below.heap_alloc _ _ _ (by simp)).trans (heap_alloc_new w _)
  have hc2 : W2.heap[w.heap.size + 1]? = some (.cells tm0 TTm (0, 0)) := by rw [hW2]; exact heap_new2 _ _ _
  have HX := Lib.hid (And.intro hb2 (And.intro hc1 (And.intro hc2 (hat.on hb2))))
  have HWF := Lib.hid hwf
  have HW2 := Lib.hid hW2
  have HS : Hid (W2.heap.size = w.heap.size + 2) := Lib.hid (by rw [hW2]; simp)
  clear hat hwf hb1 hb2 hc1 hc2 hW2
  obtain ⟨m, hm⟩ : ∃ m, m = mayT t 3 := ⟨_, rfl⟩
  have HM := Lib.hid hm
  clear hm
  go_enter Tryz.func9, Tryz.ntmps9
  go_wp2_with fail
  rw [← HW2.out]
  refine (may_any t A ca B cb K ck 3 W2 HX.out.2.2.2 HWF.out).mono ?_
  rintro e w3 ⟨rfl, hb3⟩
  rw [← HM.out]
  have hz := (hb3.block _ (heap_lt HX.out.2.2.1)).trans HX.out.2.2.1
  have fz := unfrozen hz
  have z0 := cell_at hz (j := 0) rfl
  have z1 := cell_at hz (j := 1) rfl
  have z2 := cell_at hz (j := 2) rfl
  have z3 := cell_at hz (j := 3) rfl
  have z4 := cell_at hz (j := 4) rfl
  have z5 := cell_at hz (j := 5) rfl
  have hlz := heap_lt hz
  have H3 := Lib.hid (And.intro hz hb3)
  clear hz hb3
  by_cases hm0 : m = 0
  · have d0 : (m != 0) = false := by simp [hm0]
    have HG := Lib.hid (may_good (HM.out.symm.trans hm0))
    have HT : Hid (obvT t = if (obv t).2 = true then ((obv t).1, 0) else (tNil, 18)) := Lib.hid (by unfold obvT; rw [← HM.out, if_neg (by simp [hm0])])
    clear hm0 z0 z1 z2 z3 z4 z5 fz hlz
    go_wp2_with fail
    refine (plain_any w3).mono ?_
    rintro e w4 ⟨M, rfl, hM, hmap, hb4⟩
    have HB4 := Lib.hid (And.intro hM (And.intro hmap hb4))
    clear hM hmap hb4
    go_upto_region 5 with fail
    obtain ⟨W4, hW4⟩ : ∃ W4, W4 = w4.alloc (.cells #[.map (some M)] 71) := ⟨_, rfl⟩
    have hb4' : Below w4.heap.size w4 W4 := by rw [hW4]; exact (Below.refl _ _).alloc (Nat.le_refl _) _
    have hx4 : W4.heap[w4.heap.size]? = some (.cells #[.map (some M)] 71 (0, 0)) := by rw [hW4]; exact heap_alloc_new w4 _
    have HF : Hid (FindAt W4 w4.heap.size M) := Lib.hid ⟨hx4, HB4.out.2.1.on hb4', Nat.lt_of_lt_of_le (by obtain ⟨_, _, h, _⟩ := HB4.out.2.1.own; exact h.lt) hb4'.size⟩
    have H4 := Lib.hid (H3.out.2.then_ (HB4.out.2.2.then_ hb4'))
    have HW4 := Lib.hid hW4
    clear hb4' hx4 hW4
    rw [← HW4.out]
    go_wp2_with fail
    refine (fof_any w4.heap.size M (cnt t) t w.heap.size 0 W4 (Nat.le_refl _) (PtrAt.mk (HX.out.2.2.2.on H4.out) ((H4.out.block _ (heap_lt HX.out.2.1)).trans HX.out.2.1)) HWF.out HG.out.1 HG.out.2.1 HF.out).mono ?_
    rintro e w5 ⟨r, rfl, ho, hn, hb5⟩
    have HO := Lib.hid (And.intro ho (And.intro hn hb5))
    clear ho hn hb5
    cases hx2 : (obv t).2
    all_goals
      have HT2 : Hid (obvT t = if (obv t).2 = true then ((obv t).1, 0) else (tNil, 18)) := HT
      have HX2 := Lib.hid hx2
      clear hx2
      go_upto_region 6 with fail
      obtain ⟨W5, hW5⟩ : ∃ W5, W5 = w5.alloc (.cells #[.int .i64 (obv t).1.kind, .string (obv t).1.text, .int .i64 (obv t).1.n, .slice r.s.p r.s.n r.s.c, .slice r.a.p r.a.n r.a.c, .slice r.k.p r.k.n r.k.c] TTm) := ⟨_, rfl⟩
      have hb5' : Below w5.heap.size w5 W5 := by rw [hW5]; exact (Below.refl _ _).alloc (Nat.le_refl _) _
      have hx5 : W5.heap[w5.heap.size]? = some (.cells #[.int .i64 (obv t).1.kind, .string (obv t).1.text, .int .i64 (obv t).1.n, .slice r.s.p r.s.n r.s.c, .slice r.a.p r.a.n r.a.c, .slice r.k.p r.k.n r.k.c] TTm (0, 0)) := by rw [hW5]; exact heap_alloc_new w5 _
      have hbb := H4.out.then_ (HO.out.2.2.then_ hb5')
      have hz := (hbb.block _ (heap_lt HX.out.2.2.1)).trans HX.out.2.2.1
      have fz := unfrozen hz
      have z0 := cell_at hz (j := 0) rfl
      have z1 := cell_at hz (j := 1) rfl
      have z2 := cell_at hz (j := 2) rfl
      have z3 := cell_at hz (j := 3) rfl
      have z4 := cell_at hz (j := 4) rfl
      have z5 := cell_at hz (j := 5) rfl
      have x0 := cell_at hx5 (j := 0) rfl
      have x1 := cell_at hx5 (j := 1) rfl
      have x2 := cell_at hx5 (j := 2) rfl
      have x3 := cell_at hx5 (j := 3) rfl
      have x4 := cell_at hx5 (j := 4) rfl
      have x5 := cell_at hx5 (j := 5) rfl
      have H5 := Lib.hid (And.intro hz (And.intro (HX.out.1.then_ hbb) (HO.out.1.on hb5')))
      have HW5 := Lib.hid hW5
      rw [← HW5.out]
      clear hb5' hx5 hbb hz hW5
      go_wp2_with fail
    · obtain ⟨e1, e2, e3⟩ := six (.int .i64 0) (.string ⟨#[]⟩) (.int .i64 0) (.slice none 0 0) (.slice none 0 0) (.slice none 0 0) H5.out.1 H5.out.2.1 (Nat.le_succ _)
      rw [HT.out, HX2.out, if_neg (by decide)]
      exact bodyPost_ret (results_tm2 rfl rfl e1) rfl (tn_nil e3)
    · obtain ⟨e1, e2, e3⟩ := six (.int .i64 (obv t).1.kind) (.string (obv t).1.text) (.int .i64 (obv t).1.n) (.slice r.s.p r.s.n r.s.c) (.slice r.a.p r.a.n r.a.c) (.slice r.k.p r.k.n r.k.c) H5.out.1 H5.out.2.1 (Nat.le_succ _)
      rw [HT.out, HX2.out, if_pos rfl]
      have s1 := HS.out
      have s2 := H4.out.size
      refine bodyPost_ret (results_tm2 rfl rfl e1) rfl ⟨r, rfl, (H5.out.2.2.kept fun g hg => e2 g ?_).mono (by omega), HO.out.2.1, e3⟩
      have := (H5.out.2.2.blk g hg).1
      omega
  · have d0 : (m != 0) = true := by simp [hm0]
    have HT : Hid (obvT t = (tNil, m)) := Lib.hid (by unfold obvT; rw [← HM.out, if_pos hm0])
    clear hm0
    go_wp2_with fail
    obtain ⟨e1, e2, e3⟩ := six (.int .i64 0) (.string ⟨#[]⟩) (.int .i64 0) (.slice none 0 0) (.slice none 0 0) (.slice none 0 0) H3.out.1 (HX.out.1.then_ H3.out.2) (Nat.le_succ _)
    rw [HT.out]
    exact bodyPost_ret (results_tm2 rfl rfl e1) rfl (tn_nil e3)
end Go.Proofs.YtkdejffhdhcocaaGreat

namespace Go.Proofs.YtkdejffhdhcocaaGreat
open Go.RowKit

set_option maxRecDepth 100000 in
theorem lprim_any (s : ByteArray) (w : World) : Calls Tryz.prog 36 #[.string s] w fun e w' => e = .returned (.agg #[.int .i64 20, .string s, .int .i64 0, .slice none 0 0, .slice none 0 0, .slice none 0 0]) ∧ Below w.heap.size w w' := by
  go_enter Tryz.func36, Tryz.ntmps36
  go_wp2_with fail
  refine ret_agg ?_ rfl ?_
  · simp [results, Tryz.results36, go_sem]
  · repeat (first | exact Below.refl _ _ | refine Below.alloc ?_ (by simp) _ | refine Below.setCell ?_ (by simp) _)
/-- a number in a row of its own -/
def NumAt (w : World) (g : Nat) (n : Int) : Prop := w.heap[g]? = some (.cells #[.int .i64 n] TI6 (0, 0))
theorem NumAt.on {w w' : World} {g : Nat} {n : Int} (h : NumAt w g n) (hb : Below w.heap.size w w') : NumAt w' g n := (hb.block _ (heap_lt h)).trans h
theorem NumAt.tm {w : World} {g : Nat} {n : Int} (h : NumAt w g n) : TmAt w (tNum n) none (some ⟨g, 0, none⟩) none := by
  refine ⟨IntsAt.nil _ _, fun i x hx => ?_, KidsAt.nil _ _⟩
  match i, hx with
  | 0, hx =>
    obtain rfl := Option.some.inj hx
    exact ⟨g, 0, rfl, heap_lt h, cell_at h rfl⟩
set_option maxRecDepth 100000 in
theorem number_any (n : Int) (w : World) : Calls Tryz.prog 35 #[.int .i64 n] w fun e w' => ∃ g, e = .returned (.agg #[.int .i64 1, .string ⟨#[]⟩, .int .i64 0, .slice none 0 0, .slice (some ⟨g, 0, none⟩) 1 1, .slice none 0 0]) ∧ w.heap.size ≤ g ∧ NumAt w' g n ∧ Below w.heap.size w w' := by
  go_enter Tryz.func35, Tryz.ntmps35
  go_wp2_with fail
  exact bodyPost_ret (results_tm1 rfl rfl ((Below.heap_alloc _ _ _ (by simp)).trans (heap_alloc_new w _))) rfl ⟨w.heap.size + 1, rfl, Nat.le_succ _, heap_new2 _ _ _, ((Below.refl _ _).alloc (Nat.le_refl _) _).alloc (by simp) _⟩
theorem num_wf {n : Int} (h : In64 n) : WfT (tNum n) := by
  simp only [tNum, WfT, WfL, and_true]
  exact ⟨⟨by decide, by decide⟩, ⟨by decide, by decide⟩, fun x hx => (by cases hx), fun x hx => (by rw [List.mem_singleton.1 hx]; exact h), by decide, by decide, (by show 1 * 8 ≤ 140737488351232; decide), by decide⟩
theorem tOf_kids {w : World} {k : Int} {x y : Tm} {A B K : Option Addr} (h : TmAt w (tOf k [x, y]) A B K) : ∃ g o, K = some ⟨g, o, none⟩ ∧ PtrAt w g o x ∧ PtrAt w g (o + 6) y := by
  obtain ⟨bk, ok, e, h0⟩ := h.kids.get (i := 0) (t := x) rfl
  obtain ⟨bk', ok', e', h1⟩ := h.kids.get (i := 1) (t := y) rfl
  rw [e] at e'
  simp only [Option.some.injEq, Addr.mk.injEq, and_true] at e'
  obtain ⟨rfl, rfl⟩ := e'
  exact ⟨bk, ok, e, by simpa using h0, by simpa using h1⟩
theorem begun17_facts : obvT (tOf 39 [tNum 3, tPrim ⟨#[43]⟩]) = (tOf 40 [tPrim ⟨#[45]⟩, tNum 3], 0) ∧ obvT (tPrim ⟨#[123, 46]⟩) = (tNil, 18) ∧ obvT (tNum 3) = (tNil, 5) := by
  have e1 : mayT (tOf 39 [tNum 3, tPrim ⟨#[43]⟩]) 3 = 0 := by decide +kernel
  have e2 : mayT (tPrim ⟨#[123, 46]⟩) 3 = 0 := by decide +kernel
  have e3 : mayT (tNum 3) 3 = 5 := by decide +kernel
  have e4 : obv (tOf 39 [tNum 3, tPrim ⟨#[43]⟩]) = (tOf 40 [tPrim ⟨#[45]⟩, tNum 3], true) := by rw [obv_eq]; rfl
  have e5 : (obv (tPrim ⟨#[123, 46]⟩)).2 = false := by rw [obv_eq]; rfl
  unfold obvT
  refine ⟨?_, ?_, ?_⟩
  · rw [e1, if_neg (by decide), e4]; rfl
  · rw [e2, if_neg (by decide), e5]; rfl
  · rw [e3]; rfl
set_option maxRecDepth 100000 in
set_option maxHeartbeats 8000000 in
theorem begun17_any (w : World) : Calls Tryz.prog 6 #[] w fun e w' => e = .returned (.bool true) ∧ Below w.heap.size w w' := by
  go_enter Tryz.func6, Tryz.ntmps6
  go_wp2_with fail
  refine (number_any 3 w).mono ?_
  rintro e w1 ⟨g1, rfl, hg1, hn1, hb1⟩
  have H1 := Lib.hid (And.intro hn1 hb1)
  clear hg1 hn1 hb1
  go_wp2_with fail
  refine (lprim_any _ w1).mono ?_
  rintro e w2 ⟨rfl, hb2⟩
  have HB2 := Lib.hid hb2
  clear hb2
  go_wp2_with fail
  obtain ⟨W2, hW2⟩ : ∃ W2, W2 = w2.alloc (.cells #[.int .i64 1, .string ⟨#[]⟩, .int .i64 0, .slice none 0 0, .slice (some ⟨g1, 0, none⟩) 1 1, .slice none 0 0, .int .i64 20, .string ⟨#[43]⟩, .int .i64 0, .slice none 0 0, .slice none 0 0, .slice none 0 0] TTm) := ⟨_, rfl⟩
  have hb2 : Below w2.heap.size w2 W2 := by rw [hW2]; exact (Below.refl _ _).alloc (Nat.le_refl _) _
  have hx2 : W2.heap[w2.heap.size]? = some (.cells #[.int .i64 1, .string ⟨#[]⟩, .int .i64 0, .slice none 0 0, .slice (some ⟨g1, 0, none⟩) 1 1, .slice none 0 0, .int .i64 20, .string ⟨#[43]⟩, .int .i64 0, .slice none 0 0, .slice none 0 0, .slice none 0 0] TTm (0, 0)) := by rw [hW2]; exact heap_alloc_new w2 _
  have ht2 : TmAt W2 (tOf 39 [tNum 3, tPrim ⟨#[43]⟩]) none none (some ⟨w2.heap.size, 0, none⟩) := two_at (x := tNum 3) (y := tPrim ⟨#[43]⟩) (ca := 0) (cb := 1) (ck := 0) (A' := none) (B' := none) (K' := none) (ca' := 0) (cb' := 0) (ck' := 0) 39 ((H1.out.1.on HB2.out).on hb2).tm (tPrim_at _ _) hx2
  have H2 := Lib.hid (And.intro ht2 (H1.out.2.then_ (HB2.out.then_ hb2)))
  have HW2 := Lib.hid hW2
  clear hb2 hx2 ht2 hW2
  rw [← HW2.out]
  refine (iof_any (tOf 39 [tNum 3, tPrim ⟨#[43]⟩]) none 0 none 0 (some ⟨w2.heap.size, 0, none⟩) 2 W2 H2.out.1 (wf_tOf ⟨by decide, by decide⟩ (num_wf ⟨by decide, by decide⟩) (prim_wf _ (by decide)))).mono ?_
  rintro e w3 ⟨r, he, ho, _, hb3⟩
  rw [begun17_facts.1] at he ho
  subst he
  have H3 := Lib.hid (And.intro ho (H2.out.2.then_ hb3))
  clear ho hb3
  go_upto_region 2 with fail
  obtain ⟨W3, hW3⟩ : ∃ W3, W3 = w3.alloc (.cells #[.int .i64 40, .string ⟨#[]⟩, .int .i64 0, .slice r.s.p r.s.n r.s.c, .slice r.a.p r.a.n r.a.c, .slice r.k.p r.k.n r.k.c] TTm) := ⟨_, rfl⟩
  have hb3 : Below w3.heap.size w3 W3 := by rw [hW3]; exact (Below.refl _ _).alloc (Nat.le_refl _) _
  have hx3 : W3.heap[w3.heap.size]? = some (.cells #[.int .i64 40, .string ⟨#[]⟩, .int .i64 0, .slice r.s.p r.s.n r.s.c, .slice r.a.p r.a.n r.a.c, .slice r.k.p r.k.n r.k.c] TTm (0, 0)) := by rw [hW3]; exact heap_alloc_new w3 _
  have H3' := Lib.hid (And.intro hx3 (And.intro (H3.out.1.on hb3).read (H3.out.2.then_ hb3)))
  have HW3 := Lib.hid hW3
  clear hb3 hx3 hW3 H3
  have H3 := H3'
  clear H3'
  refine HW3.out ▸ ?_
  go_wp2_with fail
  refine (lprim_any _ W3).mono ?_
  rintro e w4 ⟨rfl, hb4⟩
  have HB4 := Lib.hid hb4
  clear hb4
  go_wp2_with fail
  refine (iof_any (tPrim ⟨#[123, 46]⟩) none 0 none 0 none 0 w4 (tPrim_at _ _) (prim_wf _ (by decide))).mono ?_
  rintro e w5 ⟨r5, he, _, _, hb5⟩
  rw [begun17_facts.2.1] at he
  subst he
  have HB5 := Lib.hid (HB4.out.then_ hb5)
  clear hb5 HB4
  go_upto_region 3 with fail
  obtain ⟨W5, hW5⟩ : ∃ W5, W5 = w5.alloc (.cells #[.int .i64 0, .string ⟨#[]⟩, .int .i64 0, .slice r5.s.p r5.s.n r5.s.c, .slice r5.a.p r5.a.n r5.a.c, .slice r5.k.p r5.k.n r5.k.c] TTm) := ⟨_, rfl⟩
  have HB5' : Hid (Below W3.heap.size W3 W5) := Lib.hid (by rw [hW5]; exact HB5.out.alloc HB5.out.size _)
  have HW5 := Lib.hid hW5
  clear hW5 HB5
  refine HW5.out ▸ ?_
  go_wp2_with fail
  refine (number_any 3 W5).mono ?_
  rintro e w6 ⟨g6, rfl, _, hn6, hb6⟩
  have H6 := Lib.hid (And.intro hn6 (HB5'.out.then_ hb6))
  clear hn6 hb6
  go_wp2_with fail
  refine (iof_any (tNum 3) none 0 (some ⟨g6, 0, none⟩) 1 none 0 w6 H6.out.1.tm (num_wf ⟨by decide, by decide⟩)).mono ?_
  rintro e w7 ⟨r7, he, _, _, hb7⟩
  rw [begun17_facts.2.2] at he
  subst he
  have HB7 := Lib.hid (H6.out.2.then_ hb7)
  clear hb7
  go_upto_region 4 with fail
  obtain ⟨W7, hW7⟩ : ∃ W7, W7 = w7.alloc (.cells #[.int .i64 0, .string ⟨#[]⟩, .int .i64 0, .slice r7.s.p r7.s.n r7.s.c, .slice r7.a.p r7.a.n r7.a.c, .slice r7.k.p r7.k.n r7.k.c] TTm) := ⟨_, rfl⟩
  have HB7' : Hid (Below W3.heap.size W3 W7) := Lib.hid (by rw [hW7]; exact HB7.out.alloc HB7.out.size _)
  have HW7 := Lib.hid hW7
  clear hW7
  refine HW7.out ▸ ?_
  obtain ⟨gk, ok, hk, pk0, pk1⟩ := tOf_kids (H3.out.2.1.1.on HB7'.out)
  have hx7 := (HB7'.out.block _ (heap_lt H3.out.1)).trans H3.out.1
  rw [hk, show r.k.n = 2 from H3.out.2.1.2.2.2] at hx7
  have x0 := cell_at hx7 (j := 0) rfl
  have x5 := cell_at hx7 (j := 5) rfl
  obtain ⟨_, _, _, _, _, _, _, _, y1, _⟩ := pk0.cells
  obtain ⟨_, _, _, _, _, _, _, u0, _⟩ := pk1.cells
  have y1' : W7.cell? ⟨gk, ok + 1, none⟩ = some (.string ⟨#[45]⟩) := y1
  have u0' : W7.cell? ⟨gk, ok + 6, none⟩ = some (.int .i64 1) := u0
  clear hx7 pk0 pk1 hk y1 u0
  go_wp2_with fail
  go_ret
  exact ⟨rfl, H3.out.2.2.then_ HB7'.out⟩
end Go.Proofs.YtkdejffhdhcocaaGreat

namespace Go.Proofs.YtkdejffhdhcocaaGreat
open Go.RowKit

theorem obvS_len {s r : List UInt8} (h : obvS s = some r) : r.length ≤ 2 := by
  have hm : r ∈ selfS ++ [[62, 58], [60, 58], [45, 58], [43, 58], [123, 46]] := by
    unfold obvS at h
    split at h
    · rename_i hm
      obtain rfl := Option.some.inj h
      exact List.mem_append_left _ hm
    · repeat' (split at h)
      all_goals first
        | (obtain rfl := Option.some.inj h; decide +kernel)
        | (cases h; done)
  have main : ∀ r ∈ selfS ++ [[62, 58], [60, 58], [45, 58], [43, 58], [123, 46]], r.length ≤ 2 := by decide +kernel
  exact main r hm
theorem bond_wf {n : Tm} (hn : WfT n) (k : Int) (hk : In64 k) (s : ByteArray) (hs : s.size ≤ 8) : WfT (tOf k [tPrim s, n]) ∧ WfT (tOf k [n, tPrim s]) := ⟨wf_tOf hk (prim_wf s hs) hn, wf_tOf hk hn (prim_wf s hs)⟩
theorem obv_wf (N : Nat) : ∀ (t w : Tm), cnt t ≤ N → WfT t → goodT false t = true → obv t = (w, true) → WfT w := by
  induction N with
  | zero => intro t w hN; have := cnt_pos t; omega
  | succ N ih =>
    intro t w hN hwf hg h
    rw [obv_eq] at h
    unfold obvK at h
    split at h
    · obtain ⟨h1, h2⟩ := Prod.mk.inj h
      obtain ⟨r, hr⟩ := Option.isSome_iff_exists.1 h2
      rw [hr] at h1
      obtain rfl := h1
      have := obvS_len hr
      exact prim_wf _ (by simp only [Option.getD_some, ByteArray.size, List.size_toArray]; omega)
    have kid : ∀ i k, t.kids[i]? = some k → WfT k := fun i k hk => hwf.node.each k (List.mem_of_getElem? hk)
    split at h
    · rename_i h20 hk
      obtain ⟨x, y, hks, fx, fy⟩ := two_kids hg (c := 111) (d := 118) (by rw [hk]; decide) (by omega) (by omega) (by omega)
      rw [hks] at h
      have hx := kid 0 x (by rw [hks]; rfl)
      unfold bondLT at h
      simp only [nth, List.getD_cons_zero, List.getD_cons_succ] at h
      repeat' (split at h)
      all_goals first
        | (obtain rfl := (Prod.mk.inj h).1; exact (bond_wf hx _ ⟨by decide, by decide⟩ _ (by decide)).1)
        | (obtain rfl := (Prod.mk.inj h).1; exact (bond_wf hx _ ⟨by decide, by decide⟩ _ (by decide)).2)
        | exact absurd (Prod.mk.inj h).2 (by simp)
    split at h
    · rename_i h20 h39 hk
      obtain ⟨x, y, hks, fx, fy⟩ := two_kids hg (c := 118) (d := 111) (by rw [hk]; decide) (by omega) (by omega) (by omega)
      rw [hks] at h
      have hy := kid 1 y (by rw [hks]; rfl)
      unfold bondRT at h
      simp only [nth, List.getD_cons_zero, List.getD_cons_succ] at h
      repeat' (split at h)
      all_goals first
        | (obtain rfl := (Prod.mk.inj h).1; exact (bond_wf hy _ ⟨by decide, by decide⟩ _ (by decide)).1)
        | exact absurd (Prod.mk.inj h).2 (by simp)
    have sub : ∀ x y, t.kids = [x, y] → ¬ t.kind = 23 → (∀ w, obv x = (w, true) → WfT w) ∧ (∀ w, obv y = (w, true) → WfT w) := fun x y hks h23 => by
      obtain ⟨c1, _⟩ := cnt_eq2 hks
      have := cnt_pos x
      have := cnt_pos y
      exact ⟨fun w hw => ih x w (by omega) (kid 0 x (by rw [hks]; rfl)) (good_sub hg h23 (i := 0) (by rw [hks]; rfl)) hw, fun w hw => ih y w (by omega) (kid 1 y (by rw [hks]; rfl)) (good_sub hg h23 (i := 1) (by rw [hks]; rfl)) hw⟩
    split at h
    · rename_i h20 h39 h40 hk
      obtain ⟨x, y, hks, fx, fy⟩ := two_kids hg (c := 118) (d := 118) (by rcases hk with hk | hk | hk <;> (rw [hk]; decide)) (by omega) (by omega) (by omega)
      rw [hks] at h
      obtain ⟨h1, h2⟩ := Prod.mk.inj h
      simp only [List.map_cons, List.map_nil, nthR, List.getD_cons_zero, List.getD_cons_succ, Bool.and_eq_true] at h1 h2
      obtain ⟨sx, sy⟩ := sub x y hks (by omega)
      obtain rfl := h1
      exact wf_tOf ⟨by decide, by decide⟩ (sy _ (Prod.ext rfl h2.2)) (sx _ (Prod.ext rfl h2.1))
    split at h
    · rename_i h20 h39 h40 h29 hk
      obtain ⟨x, y, hks, fx, fy⟩ := two_kids hg (c := 118) (d := 111) (by rw [hk]; decide) (by omega) (by omega) (by omega)
      rw [hks] at h
      simp only [List.map_cons, List.map_nil, nthR, nth, List.getD_cons_zero, List.getD_cons_succ] at h
      split at h
      · exact absurd (Prod.mk.inj h).2 (by simp)
      · rename_i hc
        obtain ⟨sx, _⟩ := sub x y hks (by omega)
        have hx2 : (obv x).2 = true := by cases h' : (obv x).2 with | true => rfl | false => exact absurd (.inl h') hc
        obtain rfl := (Prod.mk.inj h).1
        exact wf_tOf ⟨by decide, by decide⟩ (sx _ (Prod.ext rfl hx2)) (kid 1 y (by rw [hks]; rfl))
    split at h
    · rename_i h20 h39 h40 h29 h41 hk
      obtain ⟨x, y, hks, fx, fy⟩ := two_kids hg (c := 118) (d := 118) (by rw [hk]; decide) (by omega) (by omega) (by omega)
      rw [hks] at h
      obtain rfl := (Prod.mk.inj h).1
      exact wf_tOf ⟨by decide, by decide⟩ (kid 1 y (by rw [hks]; rfl)) (kid 0 x (by rw [hks]; rfl))
    split at h
    · rename_i h20 h39 h40 h29 h41 h36 hk
      obtain ⟨x, y, hks, fx, fy⟩ := two_kids hg (c := 118) (d := 118) (by rw [hk]; decide) (by omega) (by omega) (by omega)
      rw [hks] at h
      obtain ⟨sx, _⟩ := sub x y hks (by omega)
      exact sx w h
    · exact absurd (Prod.mk.inj h).2 (by simp)
/-- what Of answers, by cases -/
theorem obvT_cases (t : Tm) : (mayT t 3 ≠ 0 ∧ obvT t = (tNil, mayT t 3)) ∨ (mayT t 3 = 0 ∧ (obv t).2 = false ∧ obvT t = (tNil, 18)) ∨ (mayT t 3 = 0 ∧ ∃ u, obv t = (u, true) ∧ obvT t = (u, 0)) := by
  unfold obvT
  by_cases h : mayT t 3 = 0
  · rw [if_neg (by simp [h])]
    cases h2 : (obv t).2 with
    | false => exact .inr (.inl ⟨h, rfl, by rw [if_neg (by decide)]⟩)
    | true => exact .inr (.inr ⟨h, (obv t).1, Prod.ext rfl h2, by rw [if_pos rfl]⟩)
  · rw [if_pos h]
    exact .inl ⟨h, rfl⟩
/-- what is known of an obverse -/
structure ObvAll (t u : Tm) : Prop where
  may : mayT u 3 = 0
  great : greatT u = false
  wf : WfT u
  cnt : cnt u ≤ cnt t
  dep : dep u ≤ dep t
theorem obv_all {t u : Tm} (hm : mayT t 3 = 0) (hwf : WfT t) (h : obv t = (u, true)) : ObvAll t u := by
  obtain ⟨hg, hgr, _⟩ := may_good hm
  have ok := obv_ok (cnt t) t u (Nat.le_refl _) hg h
  obtain ⟨_, h1, h2⟩ := size_small hgr
  have hgu : greatT u = false := by
    have := ok.cnt
    have := ok.dep
    unfold greatT
    simp only [decide_eq_false_iff_not]
    omega
  refine ⟨?_, hgu, obv_wf (Go.Proofs.YtkdejffhdhcocaaGreat.cnt t) t u (Nat.le_refl _) hwf hg h, ok.cnt, ok.dep⟩
  unfold mayT
  rw [if_neg (by omega), if_neg (by rw [hgu]; decide), if_neg (by rw [ok.good]; decide), if_neg (by rw [ok.cls]; simp)]
/-- the third one closes the circle -/
theorem obv_circle {t u x y : Tm} (hm : mayT t 3 = 0) (h : obv t = (u, true)) (hx : obv u = (x, true)) (hy : obv x = (y, true)) : y = u :=
  obv_back (cnt t) t u x y (Nat.le_refl _) (may_good hm).1 h hx hy
end Go.Proofs.YtkdejffhdhcocaaGreat
