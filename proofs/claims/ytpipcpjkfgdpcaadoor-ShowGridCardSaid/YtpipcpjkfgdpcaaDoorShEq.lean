/- abacuslaw4.Eq: two arrays are the same. Condition: at most 2^40 lengths and numbers. -/
import Derived.Test.YtpipcpjkfgdpcaaDoorShTxt
namespace Go.Proofs.YtpipcpjkfgdpcaaDoor
open Go.RowKit
attribute [local go_sem] Oper.semAt_some

set_option maxHeartbeats 8000000 in
set_option maxRecDepth 100000 in
theorem eqInts_any (A B : Option Addr) (ca cb : Nat) (s t : List Int) (w : World) (hA : IntsAt w A s) (hB : IntsAt w B t) (hn : s.length ≤ 4611686018427387904) (hm : t.length ≤ 4611686018427387904) :
    Calls Tryd.prog 43 #[.slice A s.length ca, .slice B t.length cb] w fun e w' => e = .returned (.bool (decide (s = t))) ∧ Below w.heap.size w w' := by
  have HA := Lib.hid hA
  have HB := Lib.hid hB
  obtain ⟨n, hln⟩ : ∃ n, n = s.length := ⟨_, rfl⟩
  obtain ⟨m, hlm⟩ : ∃ m, m = t.length := ⟨_, rfl⟩
  have HN := Lib.hid (And.intro hln hlm)
  rw [← hln] at hn ⊢
  rw [← hlm] at hm ⊢
  clear hA hB hln hlm
  go_enter Tryd.func43, Tryd.ntmps43
  by_cases hnm : n = m
  · subst hnm
    go_wp2_with fail
    go_loopw [5] (fun v5 wr => ∃ i : Nat, i ≤ n ∧ v5 = .int .i64 i ∧ Hid (s.take i = t.take i) ∧ Hid (Below w.heap.size w wr)) (fun v5 _ => n - (intOf v5).toNat)
    case atStart => exact ⟨0, Nat.zero_le _, rfl, Lib.hid rfl, Lib.hid (Below.refl _ _)⟩
    case round =>
      obtain ⟨i, hi, rfl, HT, HBl⟩ := hrel
      by_cases hlt : i < n
      · obtain ⟨x, hx⟩ : ∃ x, s[i]? = some x := ⟨_, List.getElem?_eq_getElem (by rw [← HN.out.1]; exact hlt)⟩
        obtain ⟨y, hy⟩ : ∃ y, t[i]? = some y := ⟨_, List.getElem?_eq_getElem (by rw [← HN.out.2]; exact hlt)⟩
        obtain ⟨b, off, rfl, _, kc⟩ := (HA.out.on HBl.out) i x hx
        obtain ⟨b', off', rfl, _, kc'⟩ := (HB.out.on HBl.out) i y hy
        have HX := Lib.hid (And.intro hx hy)
        clear hx hy
        by_cases hxy : x = y
        · subst hxy
          go_wp2_with fail
          go_quiet (fail)
          go_wp2_with fail
          refine ⟨⟨i + 1, by omega, by go_num, Lib.hid (by rw [take_snoc HX.out.1, take_snoc HX.out.2, HT.out]), Lib.hid (bdn HBl.out _)⟩, by simp [intOf]; omega⟩
        · have hxb : (x == y) = false := by simpa using hxy
          have HXY := Lib.hid hxy
          clear hxy
          go_wp2_with fail
          go_quiet (fail)
          go_wp2_with fail
          go_ret
          refine ⟨?_, bdn HBl.out _⟩
          exact congrArg (fun b => Ending.returned (.bool b)) (decide_eq_false (fun e => HXY.out (by subst e; have := HX.out.1.symm.trans HX.out.2; injection this))).symm
      · obtain rfl : i = n := by omega
        have hge : ¬ (i : Int) < i := by omega
        go_wp2_with fail
        go_ret
        refine ⟨?_, HBl.out⟩
        have h := HT.out
        rw [List.take_of_length_le (by rw [← HN.out.1]; exact Nat.le_refl _), List.take_of_length_le (by rw [← HN.out.2]; exact Nat.le_refl _)] at h
        exact congrArg (fun b => Ending.returned (.bool b)) (decide_eq_true h).symm
  · have hnb : ((n : Int) == (m : Int)) = false := by simp; omega
    have HNM := Lib.hid hnm
    clear hnm
    go_wp2_with fail
    go_ret
    exact ⟨congrArg (fun b => Ending.returned (.bool b)) (decide_eq_false (fun e => HNM.out (by rw [HN.out.1, HN.out.2, e]))).symm, Below.refl _ _⟩

set_option maxHeartbeats 8000000 in
set_option maxRecDepth 100000 in
theorem eqAtoms_any (A B : Option Addr) (ca cb : Nat) (s t : List Int) (w : World) (hA : IntsAt w A s) (hB : IntsAt w B t) (hn : s.length ≤ 4611686018427387904) (hm : t.length ≤ 4611686018427387904) :
    Calls Tryd.prog 44 #[.slice A s.length ca, .slice B t.length cb] w fun e w' => e = .returned (.bool (decide (s = t))) ∧ Below w.heap.size w w' := by
  have HA := Lib.hid hA
  have HB := Lib.hid hB
  obtain ⟨n, hln⟩ : ∃ n, n = s.length := ⟨_, rfl⟩
  obtain ⟨m, hlm⟩ : ∃ m, m = t.length := ⟨_, rfl⟩
  have HN := Lib.hid (And.intro hln hlm)
  rw [← hln] at hn ⊢
  rw [← hlm] at hm ⊢
  clear hA hB hln hlm
  go_enter Tryd.func44, Tryd.ntmps44
  by_cases hnm : n = m
  · subst hnm
    go_wp2_with fail
    go_loopw [5] (fun v5 wr => ∃ i : Nat, i ≤ n ∧ v5 = .int .i64 i ∧ Hid (s.take i = t.take i) ∧ Hid (Below w.heap.size w wr)) (fun v5 _ => n - (intOf v5).toNat)
    case atStart => exact ⟨0, Nat.zero_le _, rfl, Lib.hid rfl, Lib.hid (Below.refl _ _)⟩
    case round =>
      obtain ⟨i, hi, rfl, HT, HBl⟩ := hrel
      by_cases hlt : i < n
      · obtain ⟨x, hx⟩ : ∃ x, s[i]? = some x := ⟨_, List.getElem?_eq_getElem (by rw [← HN.out.1]; exact hlt)⟩
        obtain ⟨y, hy⟩ : ∃ y, t[i]? = some y := ⟨_, List.getElem?_eq_getElem (by rw [← HN.out.2]; exact hlt)⟩
        obtain ⟨b, off, rfl, _, kc⟩ := (HA.out.on HBl.out) i x hx
        obtain ⟨b', off', rfl, _, kc'⟩ := (HB.out.on HBl.out) i y hy
        have HX := Lib.hid (And.intro hx hy)
        clear hx hy
        by_cases hxy : x = y
        · subst hxy
          go_wp2_with fail
          go_quiet (fail)
          go_wp2_with fail
          refine ⟨⟨i + 1, by omega, by go_num, Lib.hid (by rw [take_snoc HX.out.1, take_snoc HX.out.2, HT.out]), Lib.hid (bdn HBl.out _)⟩, by simp [intOf]; omega⟩
        · have hxb : (x == y) = false := by simpa using hxy
          have HXY := Lib.hid hxy
          clear hxy
          go_wp2_with fail
          go_quiet (fail)
          go_wp2_with fail
          go_ret
          refine ⟨?_, bdn HBl.out _⟩
          exact congrArg (fun b => Ending.returned (.bool b)) (decide_eq_false (fun e => HXY.out (by subst e; have := HX.out.1.symm.trans HX.out.2; injection this))).symm
      · obtain rfl : i = n := by omega
        have hge : ¬ (i : Int) < i := by omega
        go_wp2_with fail
        go_ret
        refine ⟨?_, HBl.out⟩
        have h := HT.out
        rw [List.take_of_length_le (by rw [← HN.out.1]; exact Nat.le_refl _), List.take_of_length_le (by rw [← HN.out.2]; exact Nat.le_refl _)] at h
        exact congrArg (fun b => Ending.returned (.bool b)) (decide_eq_true h).symm
  · have hnb : ((n : Int) == (m : Int)) = false := by simp; omega
    have HNM := Lib.hid hnm
    clear hnm
    go_wp2_with fail
    go_ret
    exact ⟨congrArg (fun b => Ending.returned (.bool b)) (decide_eq_false (fun e => HNM.out (by rw [HN.out.1, HN.out.2, e]))).symm, Below.refl _ _⟩

/-- an array: its lengths and its numbers lie at addresses -/
def ArrAt (w : World) (A B : Option Addr) (s a : List Int) : Prop := IntsAt w A s ∧ IntsAt w B a
theorem ArrAt.on {w w' : World} {A B : Option Addr} {s a : List Int} (h : ArrAt w A B s a) (hb : Below w.heap.size w w') : ArrAt w' A B s a := ⟨h.1.on hb, h.2.on hb⟩

set_option maxHeartbeats 8000000 in
set_option maxRecDepth 100000 in
theorem eq_any (A B C D : Option Addr) (ca cb cc cd : Nat) (s a t b : List Int) (w : World) (h1 : ArrAt w A B s a) (h2 : ArrAt w C D t b) (hs : s.length ≤ 4611686018427387904) (ha : a.length ≤ 4611686018427387904) (ht : t.length ≤ 4611686018427387904) (hb : b.length ≤ 4611686018427387904) :
    Calls Tryd.prog 16 #[.agg #[.slice A s.length ca, .slice B a.length cb], .agg #[.slice C t.length cc, .slice D b.length cd]] w fun e w' => e = .returned (.bool (decide (s = t ∧ a = b))) ∧ Below w.heap.size w w' := by
  have HS := Lib.hid (fun w hA hC => eqInts_any A C ca cc s t w hA hC hs ht)
  have HT := Lib.hid (fun w hB hD => eqAtoms_any B D cb cd a b w hB hD ha hb)
  have H1 := Lib.hid h1
  have H2 := Lib.hid h2
  clear h1 h2
  go_enter Tryd.func16, Tryd.ntmps16
  have hq : ((w.alloc (.cells #[.slice A s.length ca, .slice B a.length cb] 36)).alloc (.cells #[.slice C t.length cc, .slice D b.length cd] 36)).heap.size = w.heap.size + 1 + 1 := by simp
  have hb1 : Below w.heap.size w ((w.alloc (.cells #[.slice A s.length ca, .slice B a.length cb] 36)).alloc (.cells #[.slice C t.length cc, .slice D b.length cd] 36)) := ((Below.refl _ _).alloc (Nat.le_refl _) _).alloc (by simp) _
  have g0 : ((w.alloc (.cells #[.slice A s.length ca, .slice B a.length cb] 36)).alloc (.cells #[.slice C t.length cc, .slice D b.length cd] 36)).heap[w.heap.size]? = some (.cells #[.slice A s.length ca, .slice B a.length cb] 36 (0, 0)) := (Below.heap_alloc _ _ _ (by simp)).trans (heap_alloc_new w _)
  have g1 : ((w.alloc (.cells #[.slice A s.length ca, .slice B a.length cb] 36)).alloc (.cells #[.slice C t.length cc, .slice D b.length cd] 36)).heap[w.heap.size + 1]? = some (.cells #[.slice C t.length cc, .slice D b.length cd] 36 (0, 0)) := by
    have := heap_alloc_new (w.alloc (.cells #[.slice A s.length ca, .slice B a.length cb] 36)) (.cells #[.slice C t.length cc, .slice D b.length cd] 36)
    rwa [World.size_alloc] at this
  have HB1 := Lib.hid (And.intro hb1 (And.intro g0 (And.intro g1 hq)))
  clear hb1 hq g0 g1
  go_wp2_with fail
  refine (HS.out _ (H1.out.1.on HB1.out.1) (H2.out.1.on HB1.out.1)).mono ?_
  rintro e w1 ⟨rfl, hb2⟩
  obtain ⟨_, x1⟩ := heap2 ((hb2.block _ (by rw [HB1.out.2.2.2]; omega)).trans HB1.out.2.1)
  obtain ⟨_, y1⟩ := heap2 ((hb2.block _ (by rw [HB1.out.2.2.2]; omega)).trans HB1.out.2.2.1)
  have HB2 := Lib.hid (HB1.out.1.then_ hb2)
  clear hb2
  have HST := Lib.hid (show (decide (s = t) = true → s = t) ∧ (decide (s = t) = false → s ≠ t) from ⟨of_decide_eq_true, of_decide_eq_false⟩)
  generalize decide (s = t) = d at HST ⊢
  cases d with
  | true =>
    go_wp2_with fail
    refine (HT.out _ (H1.out.2.on HB2.out) (H2.out.2.on HB2.out)).mono ?_
    rintro e w2 ⟨rfl, hb3⟩
    have HB3 := Lib.hid (HB2.out.then_ hb3)
    clear hb3
    go_wp2_with fail
    go_ret
    refine ⟨?_, HB3.out⟩
    have h := HST.out.1 (by first | trivial | rfl)
    subst h
    exact congrArg (fun b => Ending.returned (.bool b)) (by simp)
  | false =>
    go_wp2_with fail
    go_ret
    exact ⟨congrArg (fun b => Ending.returned (.bool b)) (decide_eq_false (fun e => HST.out.2 (by first | trivial | rfl) e.1)).symm, HB2.out⟩
end Go.Proofs.YtpipcpjkfgdpcaaDoor
