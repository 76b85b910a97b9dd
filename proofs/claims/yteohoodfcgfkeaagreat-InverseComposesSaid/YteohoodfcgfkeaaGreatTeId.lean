/- inverse.Of: a verb's obverse. Condition: sizes within reach. -/
import Derived.Test.YteohoodfcgfkeaaGreatTeIc
namespace Go.Proofs.YteohoodfcgfkeaaGreat
open Go.RowKit Go.Maps

theorem may_good {t : Tm} {c : Int} (h : mayT t c = 0) : goodT false t = true ∧ greatT t = false ∧ cls t.kind = c := by
  unfold mayT at h
  split at h
  · cases h
  split at h
  · cases h
  rename_i hg
  split at h
  · cases h
  rename_i hd
  split at h
  · cases h
  rename_i hc
  refine ⟨?_, by simpa using hg, ?_⟩
  · cases h' : goodT false t with
    | true => rfl
    | false => exact absurd h' hd
  · exact Decidable.not_not.1 hc
/-- what a function leaves that answers a term in memory of its own, and a number -/
def TnPost (t : Tm) (n : Int) (w : World) (e : Ending) (w' : World) : Prop := ∃ r : Rt, e = .returned (.tuple #[rtVal t r, .int .i64 n]) ∧ OwnT w' w.heap.size t r ∧ (blksT r).Nodup ∧ Below w.heap.size w w'
theorem tn_nil {w W : World} {n : Int} (hb : Below w.heap.size w W) : TnPost tNil n w (.returned (.tuple #[.agg tm0, .int .i64 n])) W :=
  ⟨rt0, rfl, own_nil _ _, by rw [blks0]; exact List.nodup_nil, hb⟩
set_option maxRecDepth 100000 in
set_option maxHeartbeats 8000000 in
theorem iof_any (t : Tm) (A : Option Addr) (ca : Nat) (B : Option Addr) (cb : Nat) (K : Option Addr) (ck : Nat) (w : World) (hat : TmAt w t A B K) (hwf : WfT t) : Calls Tryz.prog 35 #[tmVal t A ca B cb K ck] w (TnPost (obvT t).1 (obvT t).2 w) := by
  obtain ⟨W2, hW2⟩ : ∃ W2, W2 = (w.alloc (.cells (tmCells t A ca B cb K ck) TTm)).alloc (.cells tm0 TTm) := ⟨_, rfl⟩
  have hb1 : Below w.heap.size w (w.alloc (.cells (tmCells t A ca B cb K ck) TTm)) := (Below.refl _ _).alloc (Nat.le_refl _) _
  have hb2 : Below w.heap.size w W2 := by rw [hW2]; exact hb1.alloc hb1.size _
  have hc1 : W2.heap[w.heap.size]? = some (.cells (tmCells t A ca B cb K ck) TTm (0, 0)) := by rw [hW2]; exact (Below.heap_alloc _ _ _ (by simp)).trans (heap_alloc_new w _)
  have hc2 : W2.heap[w.heap.size + 1]? = some (.cells tm0 TTm (0, 0)) := by rw [hW2]; exact heap_new2 _ _ _
  have HX := Lib.hid (And.intro hb2 (And.intro hc1 (And.intro hc2 (hat.on hb2))))
  have HWF := Lib.hid hwf
  have HW2 := Lib.hid hW2
  have HS : Hid (W2.heap.size = w.heap.size + 2) := Lib.hid (by rw [hW2]; simp)
  clear hat hwf hb1 hb2 hc1 hc2 hW2
  obtain ⟨m, hm⟩ : ∃ m, m = mayT t 3 := ⟨_, rfl⟩
  have HM := Lib.hid hm
  clear hm
  go_enter Tryz.func35, Tryz.ntmps35
  go_wp2_with fail
  rw [← HW2.out]
  refine (may_any t A ca B cb K ck 3 W2 HX.out.2.2.2 HWF.out).mono ?_
  rintro e w3 ⟨rfl, hb3⟩
  rw [← HM.out]
  have hz := (hb3.block _ (heap_lt HX.out.2.2.1)).trans HX.out.2.2.1
  have fz := unfrozen hz
  have z0 := cell_at hz (j := 0) rfl
  have z1 := cell_at hz (j := 1) rfl
  have z2 := cell_at hz (j := 2) rfl
  have z3 := cell_at hz (j := 3) rfl
  have z4 := cell_at hz (j := 4) rfl
  have z5 := cell_at hz (j := 5) rfl
  have hlz := heap_lt hz
  have H3 := Lib.hid (And.intro hz hb3)
  clear hz hb3
  by_cases hm0 : m = 0
  · have d0 : (m != 0) = false := by simp [hm0]
    have HG := Lib.hid (may_good (HM.out.symm.trans hm0))
    have HT : Hid (obvT t = if (obv t).2 = true then ((obv t).1, 0) else (tNil, 18)) := Lib.hid (by unfold obvT; rw [← HM.out, if_neg (by simp [hm0])])
    clear hm0 z0 z1 z2 z3 z4 z5 fz hlz
    go_wp2_with fail
    refine (plain_any w3).mono ?_
    rintro e w4 ⟨M, rfl, hM, hmap, hb4⟩
    have HB4 := Lib.hid (And.intro hM (And.intro hmap hb4))
    clear hM hmap hb4
    go_upto_region 5 with fail
    obtain ⟨W4, hW4⟩ : ∃ W4, W4 = w4.alloc (.cells #[.map (some M)] 93) := ⟨_, rfl⟩
    have hb4' : Below w4.heap.size w4 W4 := by rw [hW4]; exact (Below.refl _ _).alloc (Nat.le_refl _) _
    have hx4 : W4.heap[w4.heap.size]? = some (.cells #[.map (some M)] 93 (0, 0)) := by rw [hW4]; exact heap_alloc_new w4 _
    have HF : Hid (FindAt W4 w4.heap.size M) := Lib.hid ⟨hx4, HB4.out.2.1.on hb4', Nat.lt_of_lt_of_le (by obtain ⟨_, _, h, _⟩ := HB4.out.2.1.own; exact h.lt) hb4'.size⟩
    have H4 := Lib.hid (H3.out.2.then_ (HB4.out.2.2.then_ hb4'))
    have HW4 := Lib.hid hW4
    clear hb4' hx4 hW4
    rw [← HW4.out]
    go_wp2_with fail
    refine (fof_any w4.heap.size M (cnt t) t w.heap.size 0 W4 (Nat.le_refl _) (PtrAt.mk (HX.out.2.2.2.on H4.out) ((H4.out.block _ (heap_lt HX.out.2.1)).trans HX.out.2.1)) HWF.out HG.out.1 HG.out.2.1 HF.out).mono ?_
    rintro e w5 ⟨r, rfl, ho, hn, hb5⟩
    have HO := Lib.hid (And.intro ho (And.intro hn hb5))
    clear ho hn hb5
    cases hx2 : (obv t).2
    all_goals
      have HT2 : Hid (obvT t = if (obv t).2 = true then ((obv t).1, 0) else (tNil, 18)) := HT
      have HX2 := Lib.hid hx2
      clear hx2
      go_upto_region 6 with fail
      obtain ⟨W5, hW5⟩ : ∃ W5, W5 = w5.alloc (.cells #[.int .i64 (obv t).1.kind, .string (obv t).1.text, .int .i64 (obv t).1.n, .slice r.s.p r.s.n r.s.c, .slice r.a.p r.a.n r.a.c, .slice r.k.p r.k.n r.k.c] TTm) := ⟨_, rfl⟩
      have hb5' : Below w5.heap.size w5 W5 := by rw [hW5]; exact (Below.refl _ _).alloc (Nat.le_refl _) _
      have hx5 : W5.heap[w5.heap.size]? = some (.cells #[.int .i64 (obv t).1.kind, .string (obv t).1.text, .int .i64 (obv t).1.n, .slice r.s.p r.s.n r.s.c, .slice r.a.p r.a.n r.a.c, .slice r.k.p r.k.n r.k.c] TTm (0, 0)) := by rw [hW5]; exact heap_alloc_new w5 _
      have hbb := H4.out.then_ (HO.out.2.2.then_ hb5')
      have hz := (hbb.block _ (heap_lt HX.out.2.2.1)).trans HX.out.2.2.1
      have fz := unfrozen hz
      have z0 := cell_at hz (j := 0) rfl
      have z1 := cell_at hz (j := 1) rfl
      have z2 := cell_at hz (j := 2) rfl
      have z3 := cell_at hz (j := 3) rfl
      have z4 := cell_at hz (j := 4) rfl
      have z5 := cell_at hz (j := 5) rfl
      have x0 := cell_at hx5 (j := 0) rfl
      have x1 := cell_at hx5 (j := 1) rfl
      have x2 := cell_at hx5 (j := 2) rfl
      have x3 := cell_at hx5 (j := 3) rfl
      have x4 := cell_at hx5 (j := 4) rfl
      have x5 := cell_at hx5 (j := 5) rfl
      have H5 := Lib.hid (And.intro hz (And.intro (HX.out.1.then_ hbb) (HO.out.1.on hb5')))
      have HW5 := Lib.hid hW5
      rw [← HW5.out]
      clear hb5' hx5 hbb hz hW5
      go_wp2_with fail
    · obtain ⟨e1, e2, e3⟩ := six (.int .i64 0) (.string ⟨#[]⟩) (.int .i64 0) (.slice none 0 0) (.slice none 0 0) (.slice none 0 0) H5.out.1 H5.out.2.1 (Nat.le_succ _)
      rw [HT.out, HX2.out, if_neg (by decide)]
      exact bodyPost_ret (results_tm2 rfl rfl e1) rfl (tn_nil e3)
    · obtain ⟨e1, e2, e3⟩ := six (.int .i64 (obv t).1.kind) (.string (obv t).1.text) (.int .i64 (obv t).1.n) (.slice r.s.p r.s.n r.s.c) (.slice r.a.p r.a.n r.a.c) (.slice r.k.p r.k.n r.k.c) H5.out.1 H5.out.2.1 (Nat.le_succ _)
      rw [HT.out, HX2.out, if_pos rfl]
      have s1 := HS.out
      have s2 := H4.out.size
      refine bodyPost_ret (results_tm2 rfl rfl e1) rfl ⟨r, rfl, (H5.out.2.2.kept fun g hg => e2 g ?_).mono (by omega), HO.out.2.1, e3⟩
      have := (H5.out.2.2.blk g hg).1
      omega
  · have d0 : (m != 0) = true := by simp [hm0]
    have HT : Hid (obvT t = (tNil, m)) := Lib.hid (by unfold obvT; rw [← HM.out, if_pos hm0])
    clear hm0
    go_wp2_with fail
    obtain ⟨e1, e2, e3⟩ := six (.int .i64 0) (.string ⟨#[]⟩) (.int .i64 0) (.slice none 0 0) (.slice none 0 0) (.slice none 0 0) H3.out.1 (HX.out.1.then_ H3.out.2) (Nat.le_succ _)
    rw [HT.out]
    exact bodyPost_ret (results_tm2 rfl rfl e1) rfl (tn_nil e3)
end Go.Proofs.YteohoodfcgfkeaaGreat
