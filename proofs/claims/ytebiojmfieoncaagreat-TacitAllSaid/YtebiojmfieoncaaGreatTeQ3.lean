/- abacusref24.below: is a number of a literal below 0? Condition: sizes within reach. -/
import Derived.Test.YtebiojmfieoncaaGreatTeQ2
namespace Go.Proofs.YtebiojmfieoncaaGreat
open Go.RowKit

set_option maxRecDepth 100000 in
set_option maxHeartbeats 8000000 in
theorem below_any (t : Tm) (A : Option Addr) (ca : Nat) (B : Option Addr) (cb : Nat) (K : Option Addr) (ck : Nat) (w : World) (hat : TmAt w t A B K) (hwf : WfT t) :
    Calls Tryz.prog 177 #[tmVal t A ca B cb K ck] w fun e w' => e = .returned (.bool (!noneBelow t)) ∧ Below w.heap.size w w' := by
  obtain ⟨n, hn⟩ : ∃ n, n = t.at_.length := ⟨_, rfl⟩
  obtain ⟨W1, hW1⟩ : ∃ W1, W1 = w.alloc (.cells (tmCells t A ca B cb K ck) TTm) := ⟨_, rfl⟩
  have hb1 : Below w.heap.size w W1 := by rw [hW1]; exact (Below.refl _ _).alloc (Nat.le_refl _) _
  have hx1 : W1.heap[w.heap.size]? = some (.cells (tmCells t A ca B cb K ck) TTm (0, 0)) := by rw [hW1]; exact heap_alloc_new w _
  have HK : Hid (∀ W, Below W1.heap.size W1 W → W.cell? ⟨w.heap.size, 4, none⟩ = some (.slice B n cb) ∧ w.heap.size < W.heap.size) := Lib.hid fun W h => by
    have hh := (h.block _ (heap_lt hx1)).trans hx1
    rw [hn]
    exact ⟨cell_at hh rfl, heap_lt hh⟩
  have HAT := Lib.hid (hat.on hb1).at_
  have hn2 : n ≤ 140737488351232 := by rw [hn]; exact hwf.node.at_
  have HN := Lib.hid hn
  have HB := Lib.hid hb1
  have HW1 := Lib.hid hW1
  clear hat hwf hW1 hb1 hx1 hn
  go_enter Tryz.func177, Tryz.ntmps177
  go_upto_region 1 with fail
  rw [← HW1.out]
  go_wp2_with fail
  go_loopw [3] (fun v W => ∃ i : Nat, i ≤ n ∧ v = .int .i64 i ∧ Hid (∀ j z, j < i → t.at_[j]? = some z → 0 ≤ z) ∧ Hid (Below W1.heap.size W1 W)) (fun v _ => n - (intOf v).toNat)
  case atStart => exact ⟨0, Nat.zero_le _, rfl, Lib.hid fun j z h => absurd h (Nat.not_lt_zero _), Lib.hid (Below.refl _ _)⟩
  case round =>
    obtain ⟨i, hi, rfl, HJ, HI⟩ := hrel
    obtain ⟨k4, kl⟩ := HK.out wr HI.out
    by_cases hlt : i < n
    · obtain ⟨z, hz⟩ : ∃ z, t.at_[i]? = some z := ⟨_, List.getElem?_eq_getElem (by rw [← HN.out]; exact hlt)⟩
      obtain ⟨g, off, rfl, gl, kc⟩ := (HAT.out.on HI.out) i z hz
      have q1 : (0 : Int) ≤ (i : Int) := by omega
      have q2 : (i : Int) < (n : Int) := by omega
      have HZ := Lib.hid hz
      clear hz
      by_cases h0 : z < 0
      · have HR : Hid (noneBelow t = false) := Lib.hid (by
          refine Bool.eq_false_iff.2 fun h => ?_
          have h1 := List.all_eq_true.1 h z (List.mem_of_getElem? HZ.out)
          simp only [decide_eq_true_eq] at h1
          omega)
        go_wp2_with fail
        go_ret
        exact ⟨by rw [HR.out]; rfl, HB.out.then_ HI.out⟩
      · have HJ2 : Hid (∀ j y, j < i + 1 → t.at_[j]? = some y → 0 ≤ y) := Lib.hid fun j y hj hy => by
          by_cases e : j = i
          · subst e
            rw [HZ.out] at hy
            injection hy with hy
            omega
          · exact HJ.out j y (by omega) hy
        go_wp2_with fail
        exact ⟨⟨i + 1, by omega, by go_num, HJ2, HI⟩, by simp [intOf]; omega⟩
    · obtain rfl : i = n := by omega
      have HR : Hid (noneBelow t = true) := Lib.hid (by
        unfold noneBelow
        rw [List.all_eq_true]
        intro z hz
        obtain ⟨j, hj⟩ := List.getElem?_of_mem hz
        exact decide_eq_true (HJ.out j z (by rw [HN.out]; exact (List.getElem?_eq_some_iff.1 hj).1) hj))
      clear hlt
      go_wp2_with fail
      go_ret
      exact ⟨by rw [HR.out]; rfl, HB.out.then_ HI.out⟩
end Go.Proofs.YtebiojmfieoncaaGreat
