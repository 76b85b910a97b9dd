/- abacuslaw13.texts: are two lists of texts the same? Condition: sizes within reach. -/
import Derived.Test.YtkdejffhdhcocaaGreatTeNc
import Derived.Test.YtkdejffhdhcocaaGreatTeMQ
import Derived.Sort.Walk0
import Derived.WalkLawsBesides
namespace Go.Proofs.YtkdejffhdhcocaaGreat
open Go.RowKit

/-- texts at an address, one by one -/
def StrsAt (w : World) (A : Option Addr) (l : List ByteArray) : Prop := ∀ i s, l[i]? = some s → ∃ b off, A = some ⟨b, off, none⟩ ∧ b < w.heap.size ∧ w.cell? ⟨b, off + i, none⟩ = some (.string s)
theorem StrsAt.on {w w' : World} {A : Option Addr} {l : List ByteArray} (h : StrsAt w A l) (hb : Below w.heap.size w w') : StrsAt w' A l := fun i x hx => by
  obtain ⟨b, off, e, hlt, hc⟩ := h i x hx
  exact ⟨b, off, e, Nat.lt_of_lt_of_le hlt hb.size, (hb.cell (p := ⟨b, off + i, none⟩) hlt).trans hc⟩
theorem StrsAt.nil (w : World) (A : Option Addr) : StrsAt w A [] := fun i s h => by simp at h
theorem strs_row {w : World} {B : Nat} {p : Option Addr} {n c : Nat} {l : List ByteArray} (h : w.ownsRow B TSt 1 (.slice p n c) l.length (l.map Value.string)) : StrsAt w p l := fun i s hi => by
  obtain ⟨_, ⟨_, h2⟩ | ⟨g, cap, cur, hv, _, hc, h4, h5, h6, h7⟩⟩ := h
  · have : l = [] := List.length_eq_zero_iff.1 h2
    subst this
    simp at hi
  · simp only [Value.slice.injEq] at hv
    obtain ⟨rfl, _, _⟩ := hv
    refine ⟨g, 0, rfl, heap_lt hc, ?_⟩
    rw [Nat.zero_add]
    refine cell_at hc ?_
    have h8 : (cur.toList.take (l.length * 1))[i]? = some (.string s) := by rw [h7, List.getElem?_map, hi]; rfl
    rw [List.getElem?_take] at h8
    split at h8
    · simpa using h8
    · cases h8
theorem str_beq {a b : ByteArray} (h : a = b) : (a.toList == b.toList) = true := by simp [h]
theorem str_bne {a b : ByteArray} (h : ¬ a = b) : (a.toList == b.toList) = false := by
  simp only [beq_eq_false_iff_ne]
  intro e
  rw [Lib.toList_data, Lib.toList_data] at e
  exact h (by cases a; cases b; simp at e; subst e; rfl)
theorem str_neq {a b : ByteArray} (h : ¬ a = b) : (a.toList != b.toList) = true := by simp only [bne, str_bne h]; rfl
theorem str_nneq {a b : ByteArray} (h : a = b) : (a.toList != b.toList) = false := by simp only [bne, str_beq h]; rfl
theorem str_less {a b : ByteArray} (h : a.data.toList < b.data.toList) : Op.bytesLess a.toList b.toList = true := by
  rw [Go.Proofs.bytesLess_eq, Lib.toList_data, Lib.toList_data]
  exact decide_eq_true h
theorem eq_step' {α : Type} [DecidableEq α] {xs ys : List α} {i : Nat} {x y : α} (hx : xs[i]? = some x) (hy : ys[i]? = some y) : decide (xs.drop i = ys.drop i) = (decide (x = y) && decide (xs.drop (i + 1) = ys.drop (i + 1))) := by
  obtain ⟨h1, rfl⟩ := List.getElem?_eq_some_iff.1 hx
  obtain ⟨h2, rfl⟩ := List.getElem?_eq_some_iff.1 hy
  rw [List.drop_eq_getElem_cons h1, List.drop_eq_getElem_cons h2]
  generalize xs.drop (i + 1) = p
  generalize ys.drop (i + 1) = q
  generalize xs[i] = a
  generalize ys[i] = b
  by_cases h : a = b <;> by_cases h' : p = q <;> simp [h, h']
set_option maxRecDepth 100000 in
set_option maxHeartbeats 4000000 in
theorem texts_any (xs ys : List ByteArray) (A : Option Addr) (ca : Nat) (B : Option Addr) (cb : Nat) (w : World) (hA : StrsAt w A xs) (hB : StrsAt w B ys) (hl : xs.length ≤ 140737488351232) (hm : ys.length ≤ 140737488351232) :
    Calls Tryz.prog 34 #[.slice A xs.length ca, .slice B ys.length cb] w fun e w' => e = .returned (.bool (decide (xs = ys))) ∧ ∃ m, w' = w.drewN m := by
  have HA := Lib.hid hA
  have HB := Lib.hid hB
  obtain ⟨n, hn⟩ : ∃ n, n = xs.length := ⟨_, rfl⟩
  obtain ⟨m, hmm⟩ : ∃ m, m = ys.length := ⟨_, rfl⟩
  have HN := Lib.hid hn
  have HM := Lib.hid hmm
  rw [← hn] at hl ⊢
  rw [← hmm] at hm ⊢
  clear hA hB hn hmm
  by_cases hnm : n = m
  · have HNM := Lib.hid hnm
    have d0 : ((n : Int) != (m : Int)) = false := by simp; omega
    have hnm1 : n ≤ m := by omega
    clear hnm
    go_enter Tryz.func34, Tryz.ntmps34
    go_wp2_with fail
    clear d0
    go_loopw [5] (fun v W => ∃ i : Nat, i ≤ n ∧ v = .int .i64 i ∧ Hid (decide (xs = ys) = decide (xs.drop i = ys.drop i) ∧ ∃ q, W = w.drewN q)) (fun v _ => n - (intOf v).toNat)
    case atStart => exact ⟨0, Nat.zero_le _, rfl, Lib.hid ⟨rfl, 0, rfl⟩⟩
    case round =>
      obtain ⟨i, hi, rfl, HI⟩ := hrel
      by_cases hlt : i < n
      · obtain ⟨x, hx⟩ : ∃ x, xs[i]? = some x := ⟨_, List.getElem?_eq_getElem (by rw [← HN.out]; exact hlt)⟩
        obtain ⟨y, hy⟩ : ∃ y, ys[i]? = some y := ⟨_, List.getElem?_eq_getElem (by rw [← HM.out]; omega)⟩
        obtain ⟨b1, o1, rfl, l1, c1⟩ := HA.out.on (drew_below HI.out.2) i x hx
        obtain ⟨b2, o2, rfl, l2, c2⟩ := HB.out.on (drew_below HI.out.2) i y hy
        have HS := Lib.hid (eq_step' hx hy)
        have q1 : (0 : Int) ≤ (i : Int) := by omega
        have q2 : (i : Int) < (n : Int) := by omega
        have q3 : (i : Int) < (m : Int) := by omega
        clear hx hy
        by_cases hxy : x = y
        · have HE : Hid (decide (xs = ys) = decide (xs.drop (i + 1) = ys.drop (i + 1))) := Lib.hid (by rw [HI.out.1, HS.out, decide_eq_true hxy]; rfl)
          have d1 := str_nneq hxy
          have d2 := str_beq hxy
          clear hxy
          go_wp2_with fail
          go_quiet (fail)
          go_wp2_with fail
          exact ⟨⟨i + 1, by omega, by go_num, Lib.hid ⟨HE.out, drew_more HI.out.2 _⟩⟩, by simp [intOf]; omega⟩
        · have HE : Hid (decide (xs = ys) = false) := Lib.hid (by rw [HI.out.1, HS.out, decide_eq_false hxy]; rfl)
          have d1 := str_neq hxy
          have d2 := str_bne hxy
          clear hxy
          go_wp2_with fail
          go_quiet (fail)
          go_wp2_with fail
          go_ret
          rw [HE.out]
          exact ⟨rfl, drew_more HI.out.2 _⟩
      · obtain rfl : i = n := by omega
        have HE : Hid (decide (xs = ys) = true) := Lib.hid (by rw [HI.out.1, List.drop_of_length_le (by rw [← HN.out]; exact Nat.le_refl _), List.drop_of_length_le (by rw [← HM.out, ← HNM.out]; exact Nat.le_refl _)]; rfl)
        clear hlt
        go_wp2_with fail
        go_ret
        rw [HE.out]
        exact ⟨rfl, HI.out.2⟩
  · have HE : Hid (decide (xs = ys) = false) := Lib.hid (decide_eq_false fun e => hnm (by rw [HN.out, HM.out, e]))
    have d0 : ((n : Int) != (m : Int)) = true := by simp; omega
    clear hnm
    go_enter Tryz.func34, Tryz.ntmps34
    go_wp2_with fail
    go_ret
    rw [HE.out]
    exact ⟨rfl, 0, rfl⟩
end Go.Proofs.YtkdejffhdhcocaaGreat
