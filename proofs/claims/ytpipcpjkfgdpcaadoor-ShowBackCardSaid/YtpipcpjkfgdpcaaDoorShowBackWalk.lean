/- The law ShowBack. Condition: strconv's table of powers is as laid; at most 2^62 lengths and numbers. -/
import Derived.Test.YtpipcpjkfgdpcaaDoorShBegun
namespace Go.Proofs.YtpipcpjkfgdpcaaDoor
open Go.RowKit
attribute [local go_sem] Oper.semAt_some

theorem two_boxes (w : World) (a0 a1 b0 b1 : Value) : 
    ((w.alloc (.cells #[a0, a1] 36)).alloc (.cells #[b0, b1] 36)).heap[w.heap.size]? = some (.cells #[a0, a1] 36 (0, 0)) ∧
    ((w.alloc (.cells #[a0, a1] 36)).alloc (.cells #[b0, b1] 36)).heap[w.heap.size + 1]? = some (.cells #[b0, b1] 36 (0, 0)) ∧
    Below w.heap.size w ((w.alloc (.cells #[a0, a1] 36)).alloc (.cells #[b0, b1] 36)) ∧ ((w.alloc (.cells #[a0, a1] 36)).alloc (.cells #[b0, b1] 36)).heap.size = w.heap.size + 1 + 1 := by
  refine ⟨(Below.heap_alloc _ _ _ (by simp)).trans (heap_alloc_new w _), ?_, ((Below.refl _ _).alloc (Nat.le_refl _) _).alloc (by simp) _, by simp⟩
  have := heap_alloc_new (w.alloc (.cells #[a0, a1] 36)) (.cells #[b0, b1] 36)
  rwa [World.size_alloc] at this
theorem may_err {s a : List Int} (h : arMay s a = 0) : textErr s a = 0 ∧ textOf s a = text s a ∧ flatOf s a = flat s a := by
  unfold textErr textOf flatOf
  rw [if_pos h, if_pos h, if_pos h]
  exact ⟨rfl, rfl, rfl⟩
theorem not_err {s a : List Int} (h : arMay s a ≠ 0) : textErr s a = 1 ∧ textOf s a = [] ∧ flatOf s a = [] := by
  unfold textErr textOf flatOf
  rw [if_neg h, if_neg h, if_neg h]
  exact ⟨rfl, rfl, rfl⟩

set_option maxHeartbeats 16000000 in
set_option maxRecDepth 100000 in
theorem showBack_any (A B C D : Option Addr) (ca cb cc cd : Nat) (s a t b : List Int) (w : World) (hp : Pow10 w) (h1 : ArrAt w A B s a) (h2 : ArrAt w C D t b) (hs : All64 s) (ha : All64 a) (ht : All64 t) (hb : All64 b)
    (ls : s.length ≤ 4611686018427387904) (la : a.length ≤ 4611686018427387904) (lt : t.length ≤ 4611686018427387904) (lb : b.length ≤ 4611686018427387904) :
    Calls Tryd.prog 4 #[.agg #[.slice A s.length ca, .slice B a.length cb], .agg #[.slice C t.length cc, .slice D b.length cd]] w fun e w' => e = .returned (.bool true) ∧ Below w.heap.size w w' := by
  obtain ⟨k1, k2, k3, k4⟩ := two_boxes w (.slice A s.length ca) (.slice B a.length cb) (.slice C t.length cc) (.slice D b.length cd)
  have HK4 := Lib.hid k4
  obtain ⟨W0, hW0⟩ : ∃ W0, W0 = (w.alloc (.cells #[.slice A s.length ca, .slice B a.length cb] 36)).alloc (.cells #[.slice C t.length cc, .slice D b.length cd] 36) := ⟨_, rfl⟩
  rw [← hW0] at k1 k2 k3 k4
  have HW : Hid (∀ w', Below W0.heap.size W0 w' → ArrAt w' A B s a ∧ ArrAt w' C D t b ∧ w'.heap[w.heap.size]? = some (.cells #[.slice A s.length ca, .slice B a.length cb] 36 (0, 0)) ∧
      w'.heap[w.heap.size + 1]? = some (.cells #[.slice C t.length cc, .slice D b.length cd] 36 (0, 0)) ∧ Below w.heap.size w w' ∧ Pow10 w') := Lib.hid fun w' h =>
    ⟨h1.on (k3.then_ h), h2.on (k3.then_ h), (h.block _ (by rw [k4]; omega)).trans k1, (h.block _ (by rw [k4]; omega)).trans k2, k3.then_ h, hp.on (k3.then_ h)⟩
  have H64 := Lib.hid (And.intro hs (And.intro ha (And.intro ht hb)))
  have HL := Lib.hid (And.intro ls (And.intro la (And.intro lt lb)))
  have HW0 := Lib.hid hW0
  clear k1 k2 k3 k4 h1 h2 hp hs ha ht hb hW0
  go_enter Tryd.func4, Tryd.ntmps4
  go_wp2_with fail
  rw [← HW0.out]
  refine (begun_any W0 (HW.out _ (Below.refl _ _)).2.2.2.2.2).mono ?_
  rintro e w1 ⟨rfl, hb1⟩
  have HB1 := Lib.hid hb1
  obtain ⟨x0, x1⟩ := heap2 (HW.out _ hb1).2.2.1
  obtain ⟨y0, y1⟩ := heap2 (HW.out _ hb1).2.2.2.1
  clear hb1
  go_wp2_with fail
  refine (flat_any A B ca cb s a w1 (HW.out _ HB1.out).1.1 (HW.out _ HB1.out).1.2 H64.out.1 H64.out.2.1 ls (HW.out _ HB1.out).2.2.2.2.2).mono ?_
  rintro e w2 ⟨rfl, hb2⟩
  have HB2 := Lib.hid (HB1.out.then_ hb2)
  clear x0 x1 y0 y1 hb2
  obtain ⟨y0, y1⟩ := heap2 (HW.out _ HB2.out).2.2.2.1
  go_wp2_with fail
  refine (flat_any C D cc cd t b w2 (HW.out _ HB2.out).2.1.1 (HW.out _ HB2.out).2.1.2 H64.out.2.2.1 H64.out.2.2.2 lt (HW.out _ HB2.out).2.2.2.2.2).mono ?_
  rintro e w3 ⟨rfl, hb3⟩
  have HB3 := Lib.hid (HB2.out.then_ hb3)
  clear y0 y1 hb3
  obtain ⟨x0, x1⟩ := heap2 (HW.out _ HB3.out).2.2.1
  go_wp2_with fail
  refine (text_any A B ca cb s a w3 (HW.out _ HB3.out).1.1 (HW.out _ HB3.out).1.2 H64.out.1 H64.out.2.1 ls la (HW.out _ HB3.out).2.2.2.2.2).mono ?_
  rintro e w4 ⟨rfl, hb4⟩
  have HB4 := Lib.hid (HB3.out.then_ hb4)
  clear x0 x1 hb4
  obtain ⟨x0, x1⟩ := heap2 (HW.out _ HB4.out).2.2.1
  go_wp2_with fail
  refine (arrMay_any A B ca cb s a w4 (HW.out _ HB4.out).1.1 H64.out.1 ls).mono ?_
  rintro e w5 ⟨rfl, hb5⟩
  have HB5 := Lib.hid (HB4.out.then_ hb5)
  clear x0 x1 hb5
  by_cases h0 : arMay s a = 0
  · obtain ⟨e1, e2, e3⟩ := may_err h0
    have H0 := Lib.hid h0
    rw [h0, e1, e2, e3]
    clear h0 e1 e2 e3
    go_wp2_with fail
    refine (read_ok_any ⟨(flat s a).toArray⟩ s a w5 (read_flat H0.out H64.out.1 H64.out.2.1)).mono ?_
    rintro e w6 ⟨A', B', ca', cb', rfl, hb6, o1, o2, _, _, _, _⟩
    have HO := Lib.hid (And.intro (row_ints o1) (row_ints o2))
    have hb7 : Below w6.heap.size w6 (w6.alloc (.cells #[.slice A' s.length ca', .slice B' a.length cb'] 36)) := (Below.refl _ _).alloc (Nat.le_refl _) _
    have HB7 := Lib.hid ((HB5.out.then_ hb6).then_ hb7)
    have HOX : Hid (ArrAt (w6.alloc (.cells #[.slice A' s.length ca', .slice B' a.length cb'] 36)) A' B' s a) := Lib.hid ⟨HO.out.1.on hb7, HO.out.2.on hb7⟩
    obtain ⟨z0, z1⟩ := heap2 (heap_alloc_new w6 (.cells #[.slice A' s.length ca', .slice B' a.length cb'] 36))
    obtain ⟨x0, x1⟩ := heap2 (HW.out _ HB7.out).2.2.1
    clear o1 o2 hb6 hb7
    go_wp2_with fail
    refine (eq_any A' B' A B ca' cb' ca cb s a s a _ HOX.out (HW.out _ HB7.out).1 ls la ls la).mono ?_
    rintro e w8 ⟨rfl, hb8⟩
    have hdt : decide (s = s ∧ a = a) = true := by simp
    rw [hdt]
    have HB8 := Lib.hid (HB7.out.then_ hb8)
    clear x0 x1 z0 z1 hb8 hdt
    obtain ⟨x0, x1⟩ := heap2 (HW.out _ HB8.out).2.2.1
    obtain ⟨y0, y1⟩ := heap2 (HW.out _ HB8.out).2.2.2.1
    by_cases h1 : arMay t b = 0
    · obtain ⟨e1, e2, e3⟩ := may_err h1
      have H1 := Lib.hid h1
      rw [e1, e3]
      clear h1 e1 e2 e3
      by_cases hst : s = t ∧ a = b
      · obtain ⟨rfl, rfl⟩ := hst
        go_wp2_with fail
        refine (eq_any A B C D ca cb cc cd s a s a w8 (HW.out _ HB8.out).1 (HW.out _ HB8.out).2.1 ls la ls la).mono ?_
        rintro e w9 ⟨rfl, hb9⟩
        have hdt : decide (s = s ∧ a = a) = true := by simp
        rw [hdt]
        have HB9 := Lib.hid (HB8.out.then_ hb9)
        clear x0 x1 y0 y1 hb9 hdt
        go_wp2_with fail
        go_ret
        exact ⟨rfl, (HW.out _ HB9.out).2.2.2.2.1⟩
      · have hne : flat s a ≠ flat t b := fun e => hst (flat_inj H0.out H1.out H64.out.1 H64.out.2.1 H64.out.2.2.1 H64.out.2.2.2 e)
        have hdf : decide (s = t ∧ a = b) = false := decide_eq_false hst
        have HNE := Lib.hid hne
        clear hst hne
        go_wp2_with fail
        refine (eq_any A B C D ca cb cc cd s a t b w8 (HW.out _ HB8.out).1 (HW.out _ HB8.out).2.1 ls la lt lb).mono ?_
        rintro e w9 ⟨rfl, hb9⟩
        rw [hdf]
        have HB9 := Lib.hid (HB8.out.then_ hb9)
        clear x0 x1 y0 y1 hb9 hdf
        go_wp2_with fail
        go_ret
        refine ⟨?_, (HW.out _ HB9.out).2.2.2.2.1⟩
        have hb : (!(flat s a == flat t b)) = true := by rw [beq_eq_false_iff_ne.2 HNE.out]; rfl
        exact congrArg (fun b => Ending.returned (.bool b)) hb
    · obtain ⟨e1, e2, e3⟩ := not_err h1
      rw [e1, e3]
      clear h1 e1 e2 e3
      go_wp2_with fail
      go_ret
      exact ⟨rfl, (HW.out _ HB8.out).2.2.2.2.1⟩
  · obtain ⟨e1, e2, e3⟩ := not_err h0
    have hb0 : (arMay s a != 0) = true := by simpa using h0
    rw [e1, e2, e3]
    clear h0 e1 e2 e3
    go_wp2_with fail
    go_ret
    exact ⟨rfl, (HW.out _ HB5.out).2.2.2.2.1⟩
end Go.Proofs.YtpipcpjkfgdpcaaDoor
