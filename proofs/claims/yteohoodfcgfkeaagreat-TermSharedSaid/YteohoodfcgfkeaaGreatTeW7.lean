/- slices.Equal at []int, []int64. Condition: sizes within reach. -/
import Derived.Test.YteohoodfcgfkeaaGreatTeW3
namespace Go.Proofs.YteohoodfcgfkeaaGreat
open Go.RowKit

theorem drew_below {w W : World} (h : ∃ q, W = w.drewN q) : Below w.heap.size w W := by
  obtain ⟨q, rfl⟩ := h
  exact bdn (Below.refl _ _) q
theorem drew_more {w W : World} (h : ∃ q, W = w.drewN q) (n : Nat) : ∃ q, W.drewN n = w.drewN q := by
  obtain ⟨q, rfl⟩ := h
  exact ⟨q + n, World.drewN_drewN _ _ _⟩
theorem drew_then {w W W' : World} (h : ∃ q, W = w.drewN q) (h' : ∃ q, W' = W.drewN q) : ∃ q, W' = w.drewN q := by
  obtain ⟨n, rfl⟩ := h'
  exact drew_more h n
theorem dec_cons (a b : Int) (p q : List Int) : decide (a :: p = b :: q) = (decide (a = b) && decide (p = q)) := by
  by_cases h : a = b <;> by_cases h' : p = q <;> simp [h, h']
theorem eq_step {xs ys : List Int} {i : Nat} {x y : Int} (hx : xs[i]? = some x) (hy : ys[i]? = some y) : decide (xs.drop i = ys.drop i) = (decide (x = y) && decide (xs.drop (i + 1) = ys.drop (i + 1))) := by
  obtain ⟨h1, rfl⟩ := List.getElem?_eq_some_iff.1 hx
  obtain ⟨h2, rfl⟩ := List.getElem?_eq_some_iff.1 hy
  rw [List.drop_eq_getElem_cons h1, List.drop_eq_getElem_cons h2]
  exact dec_cons _ _ _ _

set_option maxRecDepth 100000 in
set_option maxHeartbeats 4000000 in
theorem equal_int (xs ys : List Int) (A : Option Addr) (ca : Nat) (B : Option Addr) (cb : Nat) (w : World) (hA : IntsAt w A xs) (hB : IntsAt w B ys) (hl : xs.length ≤ 140737488351232) (hm : ys.length ≤ 140737488351232) :
    Calls Tryz.prog 87 #[.slice A xs.length ca, .slice B ys.length cb] w fun e w' => e = .returned (.bool (decide (xs = ys))) ∧ ∃ m, w' = w.drewN m := by
  have HA := Lib.hid hA
  have HB := Lib.hid hB
  obtain ⟨n, hn⟩ : ∃ n, n = xs.length := ⟨_, rfl⟩
  obtain ⟨m, hmm⟩ : ∃ m, m = ys.length := ⟨_, rfl⟩
  have HN := Lib.hid hn
  have HM := Lib.hid hmm
  rw [← hn] at hl ⊢
  rw [← hmm] at hm ⊢
  clear hA hB hn hmm
  by_cases hnm : n = m
  · have HNM := Lib.hid hnm
    have d0 : ((n : Int) != (m : Int)) = false := by simp; omega
    have hnm1 : n ≤ m := by omega
    clear hnm
    go_enter Tryz.func87, Tryz.ntmps87
    go_wp2_with fail
    clear d0
    go_loopw [13] (fun v W => ∃ i : Nat, i ≤ n ∧ v = .int .i64 i ∧ Hid (decide (xs = ys) = decide (xs.drop i = ys.drop i) ∧ ∃ q, W = w.drewN q)) (fun v _ => n - (intOf v).toNat)
    case atStart => exact ⟨0, Nat.zero_le _, rfl, Lib.hid ⟨rfl, 0, rfl⟩⟩
    case round =>
      obtain ⟨i, hi, rfl, HI⟩ := hrel
      by_cases hlt : i < n
      · obtain ⟨x, hx⟩ : ∃ x, xs[i]? = some x := ⟨_, List.getElem?_eq_getElem (by rw [← HN.out]; exact hlt)⟩
        obtain ⟨y, hy⟩ : ∃ y, ys[i]? = some y := ⟨_, List.getElem?_eq_getElem (by rw [← HM.out]; omega)⟩
        obtain ⟨b1, o1, rfl, l1, c1⟩ := HA.out.on (drew_below HI.out.2) i x hx
        obtain ⟨b2, o2, rfl, l2, c2⟩ := HB.out.on (drew_below HI.out.2) i y hy
        have HS := Lib.hid (eq_step hx hy)
        have q1 : (0 : Int) ≤ (i : Int) := by omega
        have q2 : (i : Int) < (n : Int) := by omega
        have q3 : (i : Int) < (m : Int) := by omega
        clear hx hy
        by_cases hxy : x = y
        · have HE : Hid (decide (xs = ys) = decide (xs.drop (i + 1) = ys.drop (i + 1))) := Lib.hid (by rw [HI.out.1, HS.out, decide_eq_true hxy]; rfl)
          have d1 : (x != y) = false := by simp [hxy]
          clear hxy
          go_wp2_with fail
          go_quiet (fail)
          go_wp2_with fail
          exact ⟨⟨i + 1, by omega, by go_num, Lib.hid ⟨HE.out, drew_more HI.out.2 _⟩⟩, by simp [intOf]; omega⟩
        · have HE : Hid (decide (xs = ys) = false) := Lib.hid (by rw [HI.out.1, HS.out, decide_eq_false hxy]; rfl)
          have d1 : (x != y) = true := by simp [hxy]
          clear hxy
          go_wp2_with fail
          go_quiet (fail)
          go_wp2_with fail
          go_ret
          rw [HE.out]
          exact ⟨rfl, drew_more HI.out.2 _⟩
      · obtain rfl : i = n := by omega
        have HE : Hid (decide (xs = ys) = true) := Lib.hid (by rw [HI.out.1, List.drop_of_length_le (by rw [← HN.out]; exact Nat.le_refl _), List.drop_of_length_le (by rw [← HM.out, ← HNM.out]; exact Nat.le_refl _)]; rfl)
        clear hlt
        go_wp2_with fail
        go_ret
        rw [HE.out]
        exact ⟨rfl, HI.out.2⟩
  · have HE : Hid (decide (xs = ys) = false) := Lib.hid (decide_eq_false fun e => hnm (by rw [HN.out, HM.out, e]))
    have d0 : ((n : Int) != (m : Int)) = true := by simp; omega
    clear hnm
    go_enter Tryz.func87, Tryz.ntmps87
    go_wp2_with fail
    go_ret
    rw [HE.out]
    exact ⟨rfl, 0, rfl⟩
set_option maxRecDepth 100000 in
set_option maxHeartbeats 4000000 in
theorem equal_i64 (xs ys : List Int) (A : Option Addr) (ca : Nat) (B : Option Addr) (cb : Nat) (w : World) (hA : IntsAt w A xs) (hB : IntsAt w B ys) (hl : xs.length ≤ 140737488351232) (hm : ys.length ≤ 140737488351232) :
    Calls Tryz.prog 88 #[.slice A xs.length ca, .slice B ys.length cb] w fun e w' => e = .returned (.bool (decide (xs = ys))) ∧ ∃ m, w' = w.drewN m := by
  have HA := Lib.hid hA
  have HB := Lib.hid hB
  obtain ⟨n, hn⟩ : ∃ n, n = xs.length := ⟨_, rfl⟩
  obtain ⟨m, hmm⟩ : ∃ m, m = ys.length := ⟨_, rfl⟩
  have HN := Lib.hid hn
  have HM := Lib.hid hmm
  rw [← hn] at hl ⊢
  rw [← hmm] at hm ⊢
  clear hA hB hn hmm
  by_cases hnm : n = m
  · have HNM := Lib.hid hnm
    have d0 : ((n : Int) != (m : Int)) = false := by simp; omega
    have hnm1 : n ≤ m := by omega
    clear hnm
    go_enter Tryz.func88, Tryz.ntmps88
    go_wp2_with fail
    clear d0
    go_loopw [13] (fun v W => ∃ i : Nat, i ≤ n ∧ v = .int .i64 i ∧ Hid (decide (xs = ys) = decide (xs.drop i = ys.drop i) ∧ ∃ q, W = w.drewN q)) (fun v _ => n - (intOf v).toNat)
    case atStart => exact ⟨0, Nat.zero_le _, rfl, Lib.hid ⟨rfl, 0, rfl⟩⟩
    case round =>
      obtain ⟨i, hi, rfl, HI⟩ := hrel
      by_cases hlt : i < n
      · obtain ⟨x, hx⟩ : ∃ x, xs[i]? = some x := ⟨_, List.getElem?_eq_getElem (by rw [← HN.out]; exact hlt)⟩
        obtain ⟨y, hy⟩ : ∃ y, ys[i]? = some y := ⟨_, List.getElem?_eq_getElem (by rw [← HM.out]; omega)⟩
        obtain ⟨b1, o1, rfl, l1, c1⟩ := HA.out.on (drew_below HI.out.2) i x hx
        obtain ⟨b2, o2, rfl, l2, c2⟩ := HB.out.on (drew_below HI.out.2) i y hy
        have HS := Lib.hid (eq_step hx hy)
        have q1 : (0 : Int) ≤ (i : Int) := by omega
        have q2 : (i : Int) < (n : Int) := by omega
        have q3 : (i : Int) < (m : Int) := by omega
        clear hx hy
        by_cases hxy : x = y
        · have HE : Hid (decide (xs = ys) = decide (xs.drop (i + 1) = ys.drop (i + 1))) := Lib.hid (by rw [HI.out.1, HS.out, decide_eq_true hxy]; rfl)
          have d1 : (x != y) = false := by simp [hxy]
          clear hxy
          go_wp2_with fail
          go_quiet (fail)
          go_wp2_with fail
          exact ⟨⟨i + 1, by omega, by go_num, Lib.hid ⟨HE.out, drew_more HI.out.2 _⟩⟩, by simp [intOf]; omega⟩
        · have HE : Hid (decide (xs = ys) = false) := Lib.hid (by rw [HI.out.1, HS.out, decide_eq_false hxy]; rfl)
          have d1 : (x != y) = true := by simp [hxy]
          clear hxy
          go_wp2_with fail
          go_quiet (fail)
          go_wp2_with fail
          go_ret
          rw [HE.out]
          exact ⟨rfl, drew_more HI.out.2 _⟩
      · obtain rfl : i = n := by omega
        have HE : Hid (decide (xs = ys) = true) := Lib.hid (by rw [HI.out.1, List.drop_of_length_le (by rw [← HN.out]; exact Nat.le_refl _), List.drop_of_length_le (by rw [← HM.out, ← HNM.out]; exact Nat.le_refl _)]; rfl)
        clear hlt
        go_wp2_with fail
        go_ret
        rw [HE.out]
        exact ⟨rfl, HI.out.2⟩
  · have HE : Hid (decide (xs = ys) = false) := Lib.hid (decide_eq_false fun e => hnm (by rw [HN.out, HM.out, e]))
    have d0 : ((n : Int) != (m : Int)) = true := by simp; omega
    clear hnm
    go_enter Tryz.func88, Tryz.ntmps88
    go_wp2_with fail
    go_ret
    rw [HE.out]
    exact ⟨rfl, 0, rfl⟩
end Go.Proofs.YteohoodfcgfkeaaGreat
