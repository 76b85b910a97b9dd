/- abacuslaw16: prim, of, ranks. Condition: sizes within reach. -/
import Derived.Test.YtebiojmfieoncaaGreatTeT8
namespace Go.Proofs.YtebiojmfieoncaaGreat
open Go.RowKit

theorem tmIs_cells {w : World} : ∀ {t : Tm} {vs : List Value}, TmIs w t vs → vs.length = 6 ∧ ∀ u ∈ vs, u.oneCell' = true
  | .mk _ _ _ _ _ _, vs, h => by
    simp only [TmIs] at h
    obtain ⟨A, ca, B, cb, K, ck, rfl, _⟩ := h
    refine ⟨rfl, fun u hu => ?_⟩
    simp only [List.mem_cons, List.not_mem_nil, or_false] at hu
    rcases hu with rfl | rfl | rfl | rfl | rfl | rfl <;> rfl
/-- the cells of a row of terms: wherever they lie, the row lies -/
theorem kids_cells {w : World} {b off : Nat} : ∀ (ks : List Tm) (i0 : Nat), KidsAt w (some ⟨b, off, none⟩) ks i0 → ∃ vs : List Value, vs.length = ks.length * 6 ∧ (∀ u ∈ vs, u.oneCell' = true) ∧ (∀ j u, vs[j]? = some u → w.cell? ⟨b, off + i0 * 6 + j, none⟩ = some u) ∧
    ∀ (w' : World) (g' o' : Nat), Below w.heap.size w w' → g' < w'.heap.size → (∀ j u, vs[j]? = some u → w'.cell? ⟨g', o' + i0 * 6 + j, none⟩ = some u) → KidsAt w' (some ⟨g', o', none⟩) ks i0
  | [], _, _ => ⟨[], rfl, fun u h => (by cases h), fun j u h => (by simp at h), fun w' g' o' _ _ _ => by simp only [KidsAt]⟩
  | t :: r, i0, h => by
    simp only [KidsAt] at h
    obtain ⟨⟨b', off', vs0, e, hlt, h1, h2⟩, h3⟩ := h
    simp only [Option.some.injEq, Addr.mk.injEq, and_true] at e
    obtain ⟨rfl, rfl⟩ := e
    obtain ⟨vr, l1, l2, l3, l4⟩ := kids_cells r (i0 + 1) h3
    obtain ⟨m1, m2⟩ := tmIs_cells h1
    refine ⟨vs0 ++ vr, by simp [m1, l1]; omega, fun u hu => ?_, fun j u hj => ?_, fun w' g' o' hb hg hc => ?_⟩
    · rcases List.mem_append.1 hu with hu | hu
      · exact m2 u hu
      · exact l2 u hu
    · by_cases hj6 : j < 6
      · rw [List.getElem?_append_left (by omega)] at hj
        exact h2 j u hj
      · rw [List.getElem?_append_right (by omega), m1] at hj
        have := l3 (j - 6) u hj
        rwa [show off + (i0 + 1) * 6 + (j - 6) = off + i0 * 6 + j by omega] at this
    · simp only [KidsAt]
      refine ⟨⟨g', o', vs0, rfl, hg, h1.on hb, fun q u hq => ?_⟩, l4 w' g' o' hb hg fun j u hj => ?_⟩
      · have hq6 : q < 6 := by rw [← m1]; exact (List.getElem?_eq_some_iff.1 hq).1
        exact hc q u (by rw [List.getElem?_append_left (by omega)]; exact hq)
      · have := hc (6 + j) u (by rw [List.getElem?_append_right (by omega), m1, Nat.add_sub_cancel_left]; exact hj)
        rwa [show o' + i0 * 6 + (6 + j) = o' + (i0 + 1) * 6 + j by omega] at this
set_option maxRecDepth 100000 in
set_option maxHeartbeats 2000000 in
theorem eq3 (r s : R3) (w : World) : (binOp .eql TR3 (r3v r) (r3v s)).run Tryz.prog w = .ok (.bool (r.a == s.a && (r.b == s.b && r.c == s.c))) w := by
  obtain ⟨a, b, c⟩ := r
  obtain ⟨a', b', c'⟩ := s
  have u3 := Tryz.underlying3
  have a3 := Tryz.isAgg3
  have z3 := Tryz.sizeOf3
  rw [run_eql_struct, show (10000 : Nat) = 9999 + 1 from rfl, Op.equalIn]
  simp only [Sem.run_bind, run_underlying Tryz.underlying48, Result.andThen_ok]
  simp only [Std.Legacy.Range.forIn_eq_forIn_range', Std.Legacy.Range.size, Nat.sub_zero, Nat.add_sub_cancel, Nat.div_one, List.range'_succ, List.range'_zero, List.forIn_cons, List.forIn_nil]
  go_simp
  by_cases h1 : a = a' <;> by_cases h2 : b = b' <;> by_cases h3 : c = c' <;> simp [h1, h2, h3]
theorem guard3 (r s : R3) (x y : Operand) (w : World) : (eqGuard .eql TR3 x y (r3v r) (r3v s)).run Tryz.prog w = .ok () w := by
  obtain ⟨a, b, c⟩ := r
  obtain ⟨a', b', c'⟩ := s
  simp [eqGuard, go_sem]
set_option maxRecDepth 100000 in
set_option maxHeartbeats 4000000 in
theorem prim16_any (s : ByteArray) (w : World) : Calls Tryz.prog 63 #[.string s] w fun e w' => e = .returned (tmVal (tPrim s) none 0 none 0 none 0) ∧ Below w.heap.size w w' := by
  go_enter Tryz.func63, Tryz.ntmps63
  go_wp2_with fail
  exact bodyPost_ret (results_tm1 (p := 2) rfl rfl (heap_alloc_new w _)) rfl ⟨rfl, (Below.refl _ _).alloc (Nat.le_refl _) _⟩
set_option maxRecDepth 100000 in
set_option maxHeartbeats 4000000 in
/-- a verb of a kind -/
theorem of16_any (k : Int) (ks : List Tm) (b off n cp : Nat) (w : World) (hk : KidsAt w (some ⟨b, off, none⟩) ks 0) (hn : n = ks.length) (hb : n * 104 ≤ 140737488351232) (h0 : 0 < n) :
    Calls Tryz.prog 32 #[.int .i64 k, .slice (some ⟨b, off, none⟩) n cp] w fun e w' => ∃ g c, e = .returned (tmVal (tOf k ks) none 0 none 0 (some ⟨g, 0, none⟩) c) ∧ TmAt w' (tOf k ks) none none (some ⟨g, 0, none⟩) ∧ Below w.heap.size w w' := by
  obtain ⟨W1, hW1⟩ : ∃ W1, W1 = w.alloc (.cells tm0 TTm) := ⟨_, rfl⟩
  have hz1 : W1.heap[w.heap.size]? = some (.cells tm0 TTm (0, 0)) := by rw [hW1]; exact heap_alloc_new w _
  have hb1 : Below w.heap.size w W1 := by rw [hW1]; exact (Below.refl _ _).alloc (Nat.le_refl _) _
  obtain ⟨vs, v1, v2, v3, v4⟩ := kids_cells ks 0 hk
  obtain ⟨j0, hj, y0, y1, y2⟩ := info_parts info_tm
  have HNEW : Hid (∀ j u, vs[j]? = some u → W1.cell? ((⟨b, off, none⟩ : Addr).add j) = some u) := Lib.hid fun j u hu => by
    have e : (⟨b, off, none⟩ : Addr).add j = ⟨b, off + j, none⟩ := by unfold Addr.add; split <;> simp_all
    rw [e]
    have h1 := v3 j u hu
    rw [Nat.zero_mul, Nat.add_zero] at h1
    exact (hb1.cell (p := ⟨b, off + j, none⟩) (World.block_lt_of_cell? w _ h1)).trans h1
  have HV := Lib.hid (And.intro v1 (And.intro v2 v4))
  have HW1 := Lib.hid hW1
  have H1 := Lib.hid (And.intro hz1 hb1)
  have HN := Lib.hid hn
  clear hW1 hz1 hb1 v1 v2 v3 v4 hk hn
  go_enter Tryz.func32, Tryz.ntmps32
  go_upto_region 1 with fail
  rw [← HW1.out]
  go_wp2_with (at_builtin; refine wpList_append_lies _ rfl (.const (.slice none 0 0)) (.tmp 6) 22 rfl W1.heap.size TTm j0 (.agg tm0) 6 104 Tryz.underlying22 hj y0 y1 y2 rfl (by decide) (.slice none 0 0) 0 [] rfl (World.ownsRow_nil _ _ _ _) ⟨b, off, none⟩ n cp vs rfl (by rw [HV.out.1, HN.out]) HNEW.out HV.out.2.1 (by omega) (by unfold maxLen; omega) (by omega) (Nat.le_refl _) _ rfl ?_)
  intro g cap w3 hown hgr hor hlt
  have hb3 : Below W1.heap.size W1 w3 := (Below.refl _ _).grown hgr (Nat.le_refl _) (fun k hk => by cases hk)
  have HK3 : Hid (∀ j u, vs[j]? = some u → w3.cell? ⟨g, 0 + 0 * 6 + j, none⟩ = some u) := Lib.hid fun j u hu => by
    have h1 := hown.cells (g := g) rfl j u (by simpa using hu)
    have e : (⟨g, 0, none⟩ : Addr).add j = ⟨g, 0 + 0 * 6 + j, none⟩ := by unfold Addr.add; split <;> simp_all
    rwa [e] at h1
  have hz := (hb3.block _ (heap_lt H1.out.1)).trans H1.out.1
  have z0 := cell_at hz (j := 0) rfl
  have z1 := cell_at hz (j := 1) rfl
  have z2 := cell_at hz (j := 2) rfl
  have z3 := cell_at hz (j := 3) rfl
  have z4 := cell_at hz (j := 4) rfl
  have z5 := cell_at hz (j := 5) rfl
  have fz := unfrozen hz
  have H3 := Lib.hid (And.intro hz (H1.out.2.then_ hb3))
  have HG : Hid (W1.heap.size ≤ g ∧ g < w3.heap.size) := Lib.hid ⟨by rcases hor with h | h; cases h; omega, hlt⟩
  have HL1 : Hid (w.heap.size < W1.heap.size) := Lib.hid (heap_lt H1.out.1)
  clear hown hgr hor hlt hb3 hz
  go_wp2_with fail
  obtain ⟨e1, e2, e3⟩ := six (.int .i64 k) (.string ⟨#[]⟩) (.int .i64 0) (.slice none 0 0) (.slice none 0 0) (.slice (some ⟨g, 0, none⟩) n cap) H3.out.1 H3.out.2 (Nat.le_refl _)
  obtain ⟨W8, hW8⟩ : ∃ W8, W8 = ((((((w3.setCell ⟨w.heap.size, 0, none⟩ (.int .i64 k)).setCell ⟨w.heap.size, 1, none⟩ (.string ⟨#[]⟩)).setCell ⟨w.heap.size, 2, none⟩ (.int .i64 0)).setCell ⟨w.heap.size, 3, none⟩ (.slice none 0 0)).setCell ⟨w.heap.size, 4, none⟩ (.slice none 0 0)).setCell ⟨w.heap.size, 5, none⟩ (.slice (some ⟨g, 0, none⟩) n cap)) := ⟨_, rfl⟩
  rw [← hW8] at e1 e2 e3 ⊢
  have hs8 : W8.heap.size = w3.heap.size := by rw [hW8]; simp [World.setCell]
  clear hW8
  refine bodyPost_ret (results_tm1 (p := 4) rfl rfl e1) rfl ⟨g, cap, by rw [HN.out]; rfl, ⟨IntsAt.nil _ _, IntsAt.nil _ _, HV.out.2.2 W8 g 0 e3 (by have := HG.out.2; omega) fun j u hu => ?_⟩, e3⟩
  exact (World.cell?_of_block (a := ⟨g, 0 + 0 * 6 + j, none⟩) (e2 g (by have h1 := HG.out.1; have h2 := HL1.out; omega))).trans (HK3.out j u hu)
set_option maxRecDepth 100000 in
set_option maxHeartbeats 4000000 in
/-- a verb's ranks are these -/
theorem ranks16_any (t : Tm) (A : Option Addr) (ca : Nat) (B : Option Addr) (cb : Nat) (K : Option Addr) (ck : Nat) (r : R3) (w : World) (hat : TmAt w t A B K) (hwf : WfT t) (h1 : (ranksT t).2 = 0) (h2 : (ranksT t).1 = r) :
    Calls Tryz.prog 33 #[tmVal t A ca B cb K ck, r3v r] w fun e w' => e = .returned (.bool true) ∧ Below w.heap.size w w' := by
  obtain ⟨W2, hW2⟩ : ∃ W2, W2 = (w.alloc (.cells (tmCells t A ca B cb K ck) TTm)).alloc (.cells (r3c r) TR3) := ⟨_, rfl⟩
  have hb2 : Below w.heap.size w W2 := by rw [hW2]; exact ((Below.refl _ _).alloc (Nat.le_refl _) _).alloc (by simp) _
  have hx2 : W2.heap[w.heap.size]? = some (.cells (tmCells t A ca B cb K ck) TTm (0, 0)) := by rw [hW2]; exact (Below.heap_alloc _ _ _ (by simp)).trans (heap_alloc_new w _)
  have hr2 : W2.heap[w.heap.size + 1]? = some (.cells (r3c r) TR3 (0, 0)) := by rw [hW2]; exact heap_new2 _ _ _
  have HX := Lib.hid (And.intro hb2 (And.intro hr2 (hat.on hb2)))
  have HW2 := Lib.hid hW2
  have HRK : Hid (Calls Tryz.prog 26 #[tmVal t A ca B cb K ck] W2 fun e w' => e = .returned (.tuple #[r3v r, .int .i64 0]) ∧ Below W2.heap.size W2 w') := Lib.hid (by
    have h := tranks_any t A ca B cb K ck W2 (hat.on hb2) hwf
    rw [h1, h2] at h
    exact h)
  have k0 := cell_at hx2 (j := 0) rfl
  have k1 := cell_at hx2 (j := 1) rfl
  have k2 := cell_at hx2 (j := 2) rfl
  have k3 := cell_at hx2 (j := 3) rfl
  have k4 := cell_at hx2 (j := 4) rfl
  have k5 := cell_at hx2 (j := 5) rfl
  have hq := eq3 r r
  have hg := guard3 r r
  clear hat hwf h1 h2 hb2 hx2 hr2 hW2
  unfold tmVal at HRK
  go_enter Tryz.func33, Tryz.ntmps33
  go_upto_region 1 with fail
  rw [← HW2.out]
  go_wp2_with fail
  refine HRK.out.mono ?_
  rintro e w3 ⟨rfl, hb3⟩
  have hr := (hb3.block _ (heap_lt HX.out.2.1)).trans HX.out.2.1
  have r0 := cell_at hr (j := 0) rfl
  have r1 := cell_at hr (j := 1) rfl
  have r2 := cell_at hr (j := 2) rfl
  have hl := heap_lt hr
  have HB3 := Lib.hid (HX.out.1.then_ hb3)
  clear hb3 hr k0 k1 k2 k3 k4 k5
  go_wp2_with fail
  go_ret
  exact ⟨by simp, HB3.out.alloc HB3.out.size _⟩
end Go.Proofs.YtebiojmfieoncaaGreat
