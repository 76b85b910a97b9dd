/- abacuslaw24.plain: is there no noun but operands? Condition: sizes within reach. -/
import Derived.Test.YtebiojmfieoncaaGreatTeQs
namespace Go.Proofs.YtebiojmfieoncaaGreat
open Go.RowKit

/-- plain answers for terms of at most N nodes -/
def Pl24N (N : Nat) : Prop := ∀ (t : Tm) (A : Option Addr) (ca : Nat) (B : Option Addr) (cb : Nat) (K : Option Addr) (ck : Nat) (w : World), cnt t ≤ N → TmAt w t A B K → WfT t → Calls Tryz.prog 39 #[tmVal t A ca B cb K ck] w fun e w' => e = .returned (.bool (plL t)) ∧ Below w.heap.size w w'
set_option maxRecDepth 100000 in
set_option maxHeartbeats 8000000 in
theorem pl24_def (t : Tm) (A : Option Addr) (ca : Nat) (B : Option Addr) (cb : Nat) (K : Option Addr) (ck : Nat) (w : World) (hk : t.kind = 23) :
    Calls Tryz.prog 39 #[tmVal t A ca B cb K ck] w fun e w' => e = .returned (.bool (plL t)) ∧ Below w.heap.size w w' := by
  obtain ⟨n, hn⟩ : ∃ n, n = t.kids.length := ⟨_, rfl⟩
  obtain ⟨W1, hW1⟩ : ∃ W1, W1 = w.alloc (.cells (tmCells t A ca B cb K ck) TTm) := ⟨_, rfl⟩
  have hb1 : Below w.heap.size w W1 := by rw [hW1]; exact (Below.refl _ _).alloc (Nat.le_refl _) _
  have hx1 : W1.heap[w.heap.size]? = some (.cells (tmCells t A ca B cb K ck) TTm (0, 0)) := by rw [hW1]; exact heap_alloc_new w _
  have HX : Hid (∀ W, Below W1.heap.size W1 W → W.cell? ⟨w.heap.size, 0, none⟩ = some (.int .i64 t.kind) ∧ W.cell? ⟨w.heap.size, 1, none⟩ = some (.string t.text) ∧ W.cell? ⟨w.heap.size, 5, none⟩ = some (.slice K n ck) ∧ w.heap.size < W.heap.size) := Lib.hid fun W h => by
    have hh := (h.block _ (heap_lt hx1)).trans hx1
    rw [hn]
    exact ⟨cell_at hh rfl, cell_at hh rfl, cell_at hh rfl, heap_lt hh⟩
  have HB := Lib.hid hb1
  have HW1 := Lib.hid hW1
  obtain ⟨k0, k1, k5, kl⟩ := HX.out W1 (Below.refl _ _)
  have HR : Hid (plL t = true) := Lib.hid (by rw [plL_eq, if_pos hk])
  have kk23 : (t.kind == 23) = true := by rw [hk]; rfl
  clear hW1 hb1 hx1 hn hk
  go_enter Tryz.func39, Tryz.ntmps39
  go_upto_region 1 with fail
  rw [← HW1.out]
  go_wp2_with fail
  go_ret
  exact ⟨by rw [HR.out]; rfl, HB.out⟩
set_option maxRecDepth 100000 in
set_option maxHeartbeats 8000000 in
theorem pl24_k3 (t : Tm) (A : Option Addr) (ca : Nat) (B : Option Addr) (cb : Nat) (K : Option Addr) (ck : Nat) (w : World) (hk : t.kind = 3) :
    Calls Tryz.prog 39 #[tmVal t A ca B cb K ck] w fun e w' => e = .returned (.bool (plL t)) ∧ Below w.heap.size w w' := by
  obtain ⟨n, hn⟩ : ∃ n, n = t.kids.length := ⟨_, rfl⟩
  obtain ⟨W1, hW1⟩ : ∃ W1, W1 = w.alloc (.cells (tmCells t A ca B cb K ck) TTm) := ⟨_, rfl⟩
  have hb1 : Below w.heap.size w W1 := by rw [hW1]; exact (Below.refl _ _).alloc (Nat.le_refl _) _
  have hx1 : W1.heap[w.heap.size]? = some (.cells (tmCells t A ca B cb K ck) TTm (0, 0)) := by rw [hW1]; exact heap_alloc_new w _
  have HX : Hid (∀ W, Below W1.heap.size W1 W → W.cell? ⟨w.heap.size, 0, none⟩ = some (.int .i64 t.kind) ∧ W.cell? ⟨w.heap.size, 1, none⟩ = some (.string t.text) ∧ W.cell? ⟨w.heap.size, 5, none⟩ = some (.slice K n ck) ∧ w.heap.size < W.heap.size) := Lib.hid fun W h => by
    have hh := (h.block _ (heap_lt hx1)).trans hx1
    rw [hn]
    exact ⟨cell_at hh rfl, cell_at hh rfl, cell_at hh rfl, heap_lt hh⟩
  have HB := Lib.hid hb1
  have HW1 := Lib.hid hW1
  obtain ⟨k0, k1, k5, kl⟩ := HX.out W1 (Below.refl _ _)
  have HR : Hid (plL t = false) := Lib.hid (by rw [plL_eq, if_neg (by omega), if_pos (by omega)])
  have kk23 : (t.kind == 23) = false := by rw [hk]; rfl
  have kk3 : (t.kind == 3) = true := by rw [hk]; rfl
  have kk4 : (t.kind == 4) = false := by rw [hk]; rfl
  have kk5 : (t.kind == 5) = false := by rw [hk]; rfl
  have kk2 : (t.kind == 2) = false := by rw [hk]; rfl
  clear hW1 hb1 hx1 hn hk
  go_enter Tryz.func39, Tryz.ntmps39
  go_upto_region 1 with fail
  rw [← HW1.out]
  go_wp2_with fail
  go_ret
  exact ⟨by rw [HR.out]; rfl, HB.out⟩
set_option maxRecDepth 100000 in
set_option maxHeartbeats 8000000 in
theorem pl24_k4 (t : Tm) (A : Option Addr) (ca : Nat) (B : Option Addr) (cb : Nat) (K : Option Addr) (ck : Nat) (w : World) (hk : t.kind = 4) :
    Calls Tryz.prog 39 #[tmVal t A ca B cb K ck] w fun e w' => e = .returned (.bool (plL t)) ∧ Below w.heap.size w w' := by
  obtain ⟨n, hn⟩ : ∃ n, n = t.kids.length := ⟨_, rfl⟩
  obtain ⟨W1, hW1⟩ : ∃ W1, W1 = w.alloc (.cells (tmCells t A ca B cb K ck) TTm) := ⟨_, rfl⟩
  have hb1 : Below w.heap.size w W1 := by rw [hW1]; exact (Below.refl _ _).alloc (Nat.le_refl _) _
  have hx1 : W1.heap[w.heap.size]? = some (.cells (tmCells t A ca B cb K ck) TTm (0, 0)) := by rw [hW1]; exact heap_alloc_new w _
  have HX : Hid (∀ W, Below W1.heap.size W1 W → W.cell? ⟨w.heap.size, 0, none⟩ = some (.int .i64 t.kind) ∧ W.cell? ⟨w.heap.size, 1, none⟩ = some (.string t.text) ∧ W.cell? ⟨w.heap.size, 5, none⟩ = some (.slice K n ck) ∧ w.heap.size < W.heap.size) := Lib.hid fun W h => by
    have hh := (h.block _ (heap_lt hx1)).trans hx1
    rw [hn]
    exact ⟨cell_at hh rfl, cell_at hh rfl, cell_at hh rfl, heap_lt hh⟩
  have HB := Lib.hid hb1
  have HW1 := Lib.hid hW1
  obtain ⟨k0, k1, k5, kl⟩ := HX.out W1 (Below.refl _ _)
  have HR : Hid (plL t = false) := Lib.hid (by rw [plL_eq, if_neg (by omega), if_pos (by omega)])
  have kk23 : (t.kind == 23) = false := by rw [hk]; rfl
  have kk3 : (t.kind == 3) = false := by rw [hk]; rfl
  have kk4 : (t.kind == 4) = true := by rw [hk]; rfl
  have kk5 : (t.kind == 5) = false := by rw [hk]; rfl
  have kk2 : (t.kind == 2) = false := by rw [hk]; rfl
  clear hW1 hb1 hx1 hn hk
  go_enter Tryz.func39, Tryz.ntmps39
  go_upto_region 1 with fail
  rw [← HW1.out]
  go_wp2_with fail
  go_ret
  exact ⟨by rw [HR.out]; rfl, HB.out⟩
set_option maxRecDepth 100000 in
set_option maxHeartbeats 8000000 in
theorem pl24_k5 (t : Tm) (A : Option Addr) (ca : Nat) (B : Option Addr) (cb : Nat) (K : Option Addr) (ck : Nat) (w : World) (hk : t.kind = 5) :
    Calls Tryz.prog 39 #[tmVal t A ca B cb K ck] w fun e w' => e = .returned (.bool (plL t)) ∧ Below w.heap.size w w' := by
  obtain ⟨n, hn⟩ : ∃ n, n = t.kids.length := ⟨_, rfl⟩
  obtain ⟨W1, hW1⟩ : ∃ W1, W1 = w.alloc (.cells (tmCells t A ca B cb K ck) TTm) := ⟨_, rfl⟩
  have hb1 : Below w.heap.size w W1 := by rw [hW1]; exact (Below.refl _ _).alloc (Nat.le_refl _) _
  have hx1 : W1.heap[w.heap.size]? = some (.cells (tmCells t A ca B cb K ck) TTm (0, 0)) := by rw [hW1]; exact heap_alloc_new w _
  have HX : Hid (∀ W, Below W1.heap.size W1 W → W.cell? ⟨w.heap.size, 0, none⟩ = some (.int .i64 t.kind) ∧ W.cell? ⟨w.heap.size, 1, none⟩ = some (.string t.text) ∧ W.cell? ⟨w.heap.size, 5, none⟩ = some (.slice K n ck) ∧ w.heap.size < W.heap.size) := Lib.hid fun W h => by
    have hh := (h.block _ (heap_lt hx1)).trans hx1
    rw [hn]
    exact ⟨cell_at hh rfl, cell_at hh rfl, cell_at hh rfl, heap_lt hh⟩
  have HB := Lib.hid hb1
  have HW1 := Lib.hid hW1
  obtain ⟨k0, k1, k5, kl⟩ := HX.out W1 (Below.refl _ _)
  have HR : Hid (plL t = false) := Lib.hid (by rw [plL_eq, if_neg (by omega), if_pos (by omega)])
  have kk23 : (t.kind == 23) = false := by rw [hk]; rfl
  have kk3 : (t.kind == 3) = false := by rw [hk]; rfl
  have kk4 : (t.kind == 4) = false := by rw [hk]; rfl
  have kk5 : (t.kind == 5) = true := by rw [hk]; rfl
  have kk2 : (t.kind == 2) = false := by rw [hk]; rfl
  clear hW1 hb1 hx1 hn hk
  go_enter Tryz.func39, Tryz.ntmps39
  go_upto_region 1 with fail
  rw [← HW1.out]
  go_wp2_with fail
  go_ret
  exact ⟨by rw [HR.out]; rfl, HB.out⟩
set_option maxRecDepth 100000 in
set_option maxHeartbeats 8000000 in
theorem pl24_x (t : Tm) (A : Option Addr) (ca : Nat) (B : Option Addr) (cb : Nat) (K : Option Addr) (ck : Nat) (w : World) (hk : t.kind = 2) (hs : t.text.data.toList = [120]) :
    Calls Tryz.prog 39 #[tmVal t A ca B cb K ck] w fun e w' => e = .returned (.bool (plL t)) ∧ Below w.heap.size w w' := by
  obtain ⟨n, hn⟩ : ∃ n, n = t.kids.length := ⟨_, rfl⟩
  obtain ⟨W1, hW1⟩ : ∃ W1, W1 = w.alloc (.cells (tmCells t A ca B cb K ck) TTm) := ⟨_, rfl⟩
  have hb1 : Below w.heap.size w W1 := by rw [hW1]; exact (Below.refl _ _).alloc (Nat.le_refl _) _
  have hx1 : W1.heap[w.heap.size]? = some (.cells (tmCells t A ca B cb K ck) TTm (0, 0)) := by rw [hW1]; exact heap_alloc_new w _
  have HX : Hid (∀ W, Below W1.heap.size W1 W → W.cell? ⟨w.heap.size, 0, none⟩ = some (.int .i64 t.kind) ∧ W.cell? ⟨w.heap.size, 1, none⟩ = some (.string t.text) ∧ W.cell? ⟨w.heap.size, 5, none⟩ = some (.slice K n ck) ∧ w.heap.size < W.heap.size) := Lib.hid fun W h => by
    have hh := (h.block _ (heap_lt hx1)).trans hx1
    rw [hn]
    exact ⟨cell_at hh rfl, cell_at hh rfl, cell_at hh rfl, heap_lt hh⟩
  have HB := Lib.hid hb1
  have HW1 := Lib.hid hW1
  obtain ⟨k0, k1, k5, kl⟩ := HX.out W1 (Below.refl _ _)
  have HR : Hid (plL t = false) := Lib.hid (by rw [plL_eq, if_neg (by omega), if_pos (.inr (.inr (.inr ⟨hk, .inl hs⟩)))])
  have kk23 : (t.kind == 23) = false := by rw [hk]; rfl
  have kk3 : (t.kind == 3) = false := by rw [hk]; rfl
  have kk4 : (t.kind == 4) = false := by rw [hk]; rfl
  have kk5 : (t.kind == 5) = false := by rw [hk]; rfl
  have kk2 : (t.kind == 2) = true := by rw [hk]; rfl
  have d1 : (t.text.toList == [120]) = true := str_yes hs
  have d2 : (t.text.toList == [121]) = false := str_no (by rw [hs]; decide)
  clear hW1 hb1 hx1 hn hk hs
  go_enter Tryz.func39, Tryz.ntmps39
  go_upto_region 1 with fail
  rw [← HW1.out]
  go_wp2_with fail
  go_ret
  exact ⟨by rw [HR.out]; rfl, HB.out⟩
set_option maxRecDepth 100000 in
set_option maxHeartbeats 8000000 in
theorem pl24_y (t : Tm) (A : Option Addr) (ca : Nat) (B : Option Addr) (cb : Nat) (K : Option Addr) (ck : Nat) (w : World) (hk : t.kind = 2) (hs : t.text.data.toList = [121]) :
    Calls Tryz.prog 39 #[tmVal t A ca B cb K ck] w fun e w' => e = .returned (.bool (plL t)) ∧ Below w.heap.size w w' := by
  obtain ⟨n, hn⟩ : ∃ n, n = t.kids.length := ⟨_, rfl⟩
  obtain ⟨W1, hW1⟩ : ∃ W1, W1 = w.alloc (.cells (tmCells t A ca B cb K ck) TTm) := ⟨_, rfl⟩
  have hb1 : Below w.heap.size w W1 := by rw [hW1]; exact (Below.refl _ _).alloc (Nat.le_refl _) _
  have hx1 : W1.heap[w.heap.size]? = some (.cells (tmCells t A ca B cb K ck) TTm (0, 0)) := by rw [hW1]; exact heap_alloc_new w _
  have HX : Hid (∀ W, Below W1.heap.size W1 W → W.cell? ⟨w.heap.size, 0, none⟩ = some (.int .i64 t.kind) ∧ W.cell? ⟨w.heap.size, 1, none⟩ = some (.string t.text) ∧ W.cell? ⟨w.heap.size, 5, none⟩ = some (.slice K n ck) ∧ w.heap.size < W.heap.size) := Lib.hid fun W h => by
    have hh := (h.block _ (heap_lt hx1)).trans hx1
    rw [hn]
    exact ⟨cell_at hh rfl, cell_at hh rfl, cell_at hh rfl, heap_lt hh⟩
  have HB := Lib.hid hb1
  have HW1 := Lib.hid hW1
  obtain ⟨k0, k1, k5, kl⟩ := HX.out W1 (Below.refl _ _)
  have HR : Hid (plL t = false) := Lib.hid (by rw [plL_eq, if_neg (by omega), if_pos (.inr (.inr (.inr ⟨hk, .inr hs⟩)))])
  have kk23 : (t.kind == 23) = false := by rw [hk]; rfl
  have kk3 : (t.kind == 3) = false := by rw [hk]; rfl
  have kk4 : (t.kind == 4) = false := by rw [hk]; rfl
  have kk5 : (t.kind == 5) = false := by rw [hk]; rfl
  have kk2 : (t.kind == 2) = true := by rw [hk]; rfl
  have d1 : (t.text.toList == [121]) = true := str_yes hs
  have d2 : (t.text.toList == [120]) = false := str_no (by rw [hs]; decide)
  clear hW1 hb1 hx1 hn hk hs
  go_enter Tryz.func39, Tryz.ntmps39
  go_upto_region 1 with fail
  rw [← HW1.out]
  go_wp2_with fail
  go_ret
  exact ⟨by rw [HR.out]; rfl, HB.out⟩
set_option maxRecDepth 100000 in
set_option maxHeartbeats 8000000 in
theorem pl24_name (N : Nat) (ih : Pl24N N) (t : Tm) (A : Option Addr) (ca : Nat) (B : Option Addr) (cb : Nat) (K : Option Addr) (ck : Nat) (w : World) (hN : cnt t ≤ N + 1) (hat : TmAt w t A B K) (hwf : WfT t) (hk : t.kind = 2) (hs1 : ¬ t.text.data.toList = [120]) (hs2 : ¬ t.text.data.toList = [121]) :
    Calls Tryz.prog 39 #[tmVal t A ca B cb K ck] w fun e w' => e = .returned (.bool (plL t)) ∧ Below w.heap.size w w' := by
  obtain ⟨n, hn⟩ : ∃ n, n = t.kids.length := ⟨_, rfl⟩
  obtain ⟨W1, hW1⟩ : ∃ W1, W1 = w.alloc (.cells (tmCells t A ca B cb K ck) TTm) := ⟨_, rfl⟩
  have hb1 : Below w.heap.size w W1 := by rw [hW1]; exact (Below.refl _ _).alloc (Nat.le_refl _) _
  have hx1 : W1.heap[w.heap.size]? = some (.cells (tmCells t A ca B cb K ck) TTm (0, 0)) := by rw [hW1]; exact heap_alloc_new w _
  have HX : Hid (∀ W, Below W1.heap.size W1 W → W.cell? ⟨w.heap.size, 0, none⟩ = some (.int .i64 t.kind) ∧ W.cell? ⟨w.heap.size, 1, none⟩ = some (.string t.text) ∧ W.cell? ⟨w.heap.size, 5, none⟩ = some (.slice K n ck) ∧ w.heap.size < W.heap.size) := Lib.hid fun W h => by
    have hh := (h.block _ (heap_lt hx1)).trans hx1
    rw [hn]
    exact ⟨cell_at hh rfl, cell_at hh rfl, cell_at hh rfl, heap_lt hh⟩
  have HAT := Lib.hid (hat.on hb1)
  have hn2 : n ≤ 140737488351232 := by rw [hn]; exact hwf.node.kids
  have HN := Lib.hid hn
  have HWF := Lib.hid hwf
  have HNN := Lib.hid hN
  have HB := Lib.hid hb1
  have HW1 := Lib.hid hW1
  have IH := Lib.hid ih
  obtain ⟨k0, k1, k5, kl⟩ := HX.out W1 (Below.refl _ _)
  have HR : Hid (plL t = t.kids.all plL) := Lib.hid (by rw [plL_eq, if_neg (by omega), if_neg (by rintro (h | h | h | ⟨_, h | h⟩); omega; omega; omega; exact hs1 h; exact hs2 h)])
  have kk23 : (t.kind == 23) = false := by rw [hk]; rfl
  have kk3 : (t.kind == 3) = false := by rw [hk]; rfl
  have kk4 : (t.kind == 4) = false := by rw [hk]; rfl
  have kk5 : (t.kind == 5) = false := by rw [hk]; rfl
  have kk2 : (t.kind == 2) = true := by rw [hk]; rfl
  have d1 : (t.text.toList == [120]) = false := str_no hs1
  have d2 : (t.text.toList == [121]) = false := str_no hs2
  clear hat hwf hW1 hb1 hx1 hn hN ih hk hs1 hs2
  go_enter Tryz.func39, Tryz.ntmps39
  go_upto_region 1 with fail
  rw [← HW1.out]
  go_wp2_with fail
  go_loopw [3] (fun v W => ∃ i : Nat, i ≤ n ∧ v = .int .i64 i ∧ Hid (∀ j k, j < i → t.kids[j]? = some k → plL k = true) ∧ Hid (Below W1.heap.size W1 W)) (fun v _ => n - (intOf v).toNat)
  case atStart => exact ⟨0, Nat.zero_le _, rfl, Lib.hid fun j k h => absurd h (Nat.not_lt_zero _), Lib.hid (Below.refl _ _)⟩
  case round =>
    obtain ⟨i, hi, rfl, HJ, HI⟩ := hrel
    obtain ⟨k0, k1, k5, kl⟩ := HX.out wr HI.out
    by_cases hlt : i < n
    · obtain ⟨k, hk2⟩ : ∃ k, t.kids[i]? = some k := ⟨_, List.getElem?_eq_getElem (by rw [← HN.out]; exact hlt)⟩
      obtain ⟨b', off', hKx, hpk⟩ := HAT.out.kids.get hk2
      rw [Nat.zero_add] at hpk
      obtain ⟨A', ca', B', cb', K', ck', xl, x0, x1, x2, x3, x4, x5, hat'⟩ := hpk.cellsOn HI.out
      have HCL := Lib.hid (IH.out k A' ca' B' cb' K' ck' wr (by have := cnt_kid hk2; have := HNN.out; omega) (hat'.on HI.out) (HWF.out.node.each k (List.mem_of_getElem? hk2)))
      have q1 : (0 : Int) ≤ (i : Int) := by omega
      have q2 : (i : Int) < (n : Int) := by omega
      have HK2 := Lib.hid hk2
      rw [hKx] at k5
      clear hk2 hpk hat' hKx
      unfold tmVal at HCL
      go_wp2_with fail
      refine HCL.out.mono ?_
      rintro e w2 ⟨rfl, hb2⟩
      have HB2 := Lib.hid (HI.out.then_ hb2)
      clear hb2
      cases hpl : plL k with
      | true =>
        have HJ2 : Hid (∀ j y, j < i + 1 → t.kids[j]? = some y → plL y = true) := Lib.hid fun j y hj hy => by
          by_cases e : j = i
          · subst e
            rw [HK2.out] at hy
            injection hy with hy
            rw [← hy]
            exact hpl
          · exact HJ.out j y (by omega) hy
        clear hpl
        go_wp2_with fail
        exact ⟨⟨i + 1, by omega, by go_num, HJ2, HB2⟩, by simp [intOf]; omega⟩
      | false =>
        have HF : Hid (plL t = false) := Lib.hid (by
          rw [HR.out]
          refine Bool.eq_false_iff.2 fun h => ?_
          have := List.all_eq_true.1 h k (List.mem_of_getElem? HK2.out)
          rw [hpl] at this
          cases this)
        clear hpl
        go_wp2_with fail
        go_ret
        exact ⟨by rw [HF.out]; rfl, HB.out.then_ HB2.out⟩
    · obtain rfl : i = n := by omega
      have HT : Hid (plL t = true) := Lib.hid (by
        rw [HR.out, List.all_eq_true]
        intro z hz
        obtain ⟨j, hj⟩ := List.getElem?_of_mem hz
        exact HJ.out j z (by rw [HN.out]; exact (List.getElem?_eq_some_iff.1 hj).1) hj)
      clear hlt
      go_wp2_with fail
      go_ret
      exact ⟨by rw [HT.out]; rfl, HB.out.then_ HI.out⟩
set_option maxRecDepth 100000 in
set_option maxHeartbeats 8000000 in
theorem pl24_else (N : Nat) (ih : Pl24N N) (t : Tm) (A : Option Addr) (ca : Nat) (B : Option Addr) (cb : Nat) (K : Option Addr) (ck : Nat) (w : World) (hN : cnt t ≤ N + 1) (hat : TmAt w t A B K) (hwf : WfT t) (h23 : ¬ t.kind = 23) (h3 : ¬ t.kind = 3) (h4 : ¬ t.kind = 4) (h5 : ¬ t.kind = 5) (h2 : ¬ t.kind = 2) :
    Calls Tryz.prog 39 #[tmVal t A ca B cb K ck] w fun e w' => e = .returned (.bool (plL t)) ∧ Below w.heap.size w w' := by
  obtain ⟨n, hn⟩ : ∃ n, n = t.kids.length := ⟨_, rfl⟩
  obtain ⟨W1, hW1⟩ : ∃ W1, W1 = w.alloc (.cells (tmCells t A ca B cb K ck) TTm) := ⟨_, rfl⟩
  have hb1 : Below w.heap.size w W1 := by rw [hW1]; exact (Below.refl _ _).alloc (Nat.le_refl _) _
  have hx1 : W1.heap[w.heap.size]? = some (.cells (tmCells t A ca B cb K ck) TTm (0, 0)) := by rw [hW1]; exact heap_alloc_new w _
  have HX : Hid (∀ W, Below W1.heap.size W1 W → W.cell? ⟨w.heap.size, 0, none⟩ = some (.int .i64 t.kind) ∧ W.cell? ⟨w.heap.size, 1, none⟩ = some (.string t.text) ∧ W.cell? ⟨w.heap.size, 5, none⟩ = some (.slice K n ck) ∧ w.heap.size < W.heap.size) := Lib.hid fun W h => by
    have hh := (h.block _ (heap_lt hx1)).trans hx1
    rw [hn]
    exact ⟨cell_at hh rfl, cell_at hh rfl, cell_at hh rfl, heap_lt hh⟩
  have HAT := Lib.hid (hat.on hb1)
  have hn2 : n ≤ 140737488351232 := by rw [hn]; exact hwf.node.kids
  have HN := Lib.hid hn
  have HWF := Lib.hid hwf
  have HNN := Lib.hid hN
  have HB := Lib.hid hb1
  have HW1 := Lib.hid hW1
  have IH := Lib.hid ih
  obtain ⟨k0, k1, k5, kl⟩ := HX.out W1 (Below.refl _ _)
  have HR : Hid (plL t = t.kids.all plL) := Lib.hid (by rw [plL_eq, if_neg h23, if_neg (by rintro (h | h | h | ⟨h, _⟩) <;> omega)])
  have kk23 : (t.kind == 23) = false := beq_no h23
  have kk3 : (t.kind == 3) = false := beq_no h3
  have kk4 : (t.kind == 4) = false := beq_no h4
  have kk5 : (t.kind == 5) = false := beq_no h5
  have kk2 : (t.kind == 2) = false := beq_no h2
  clear hat hwf hW1 hb1 hx1 hn hN ih h23 h3 h4 h5 h2
  go_enter Tryz.func39, Tryz.ntmps39
  go_upto_region 1 with fail
  rw [← HW1.out]
  go_wp2_with fail
  go_loopw [3] (fun v W => ∃ i : Nat, i ≤ n ∧ v = .int .i64 i ∧ Hid (∀ j k, j < i → t.kids[j]? = some k → plL k = true) ∧ Hid (Below W1.heap.size W1 W)) (fun v _ => n - (intOf v).toNat)
  case atStart => exact ⟨0, Nat.zero_le _, rfl, Lib.hid fun j k h => absurd h (Nat.not_lt_zero _), Lib.hid (Below.refl _ _)⟩
  case round =>
    obtain ⟨i, hi, rfl, HJ, HI⟩ := hrel
    obtain ⟨k0, k1, k5, kl⟩ := HX.out wr HI.out
    by_cases hlt : i < n
    · obtain ⟨k, hk2⟩ : ∃ k, t.kids[i]? = some k := ⟨_, List.getElem?_eq_getElem (by rw [← HN.out]; exact hlt)⟩
      obtain ⟨b', off', hKx, hpk⟩ := HAT.out.kids.get hk2
      rw [Nat.zero_add] at hpk
      obtain ⟨A', ca', B', cb', K', ck', xl, x0, x1, x2, x3, x4, x5, hat'⟩ := hpk.cellsOn HI.out
      have HCL := Lib.hid (IH.out k A' ca' B' cb' K' ck' wr (by have := cnt_kid hk2; have := HNN.out; omega) (hat'.on HI.out) (HWF.out.node.each k (List.mem_of_getElem? hk2)))
      have q1 : (0 : Int) ≤ (i : Int) := by omega
      have q2 : (i : Int) < (n : Int) := by omega
      have HK2 := Lib.hid hk2
      rw [hKx] at k5
      clear hk2 hpk hat' hKx
      unfold tmVal at HCL
      go_wp2_with fail
      refine HCL.out.mono ?_
      rintro e w2 ⟨rfl, hb2⟩
      have HB2 := Lib.hid (HI.out.then_ hb2)
      clear hb2
      cases hpl : plL k with
      | true =>
        have HJ2 : Hid (∀ j y, j < i + 1 → t.kids[j]? = some y → plL y = true) := Lib.hid fun j y hj hy => by
          by_cases e : j = i
          · subst e
            rw [HK2.out] at hy
            injection hy with hy
            rw [← hy]
            exact hpl
          · exact HJ.out j y (by omega) hy
        clear hpl
        go_wp2_with fail
        exact ⟨⟨i + 1, by omega, by go_num, HJ2, HB2⟩, by simp [intOf]; omega⟩
      | false =>
        have HF : Hid (plL t = false) := Lib.hid (by
          rw [HR.out]
          refine Bool.eq_false_iff.2 fun h => ?_
          have := List.all_eq_true.1 h k (List.mem_of_getElem? HK2.out)
          rw [hpl] at this
          cases this)
        clear hpl
        go_wp2_with fail
        go_ret
        exact ⟨by rw [HF.out]; rfl, HB.out.then_ HB2.out⟩
    · obtain rfl : i = n := by omega
      have HT : Hid (plL t = true) := Lib.hid (by
        rw [HR.out, List.all_eq_true]
        intro z hz
        obtain ⟨j, hj⟩ := List.getElem?_of_mem hz
        exact HJ.out j z (by rw [HN.out]; exact (List.getElem?_eq_some_iff.1 hj).1) hj)
      clear hlt
      go_wp2_with fail
      go_ret
      exact ⟨by rw [HT.out]; rfl, HB.out.then_ HI.out⟩
theorem plain24_any (N : Nat) : Pl24N N := by
  induction N with
  | zero => exact fun t _ _ _ _ _ _ _ h => absurd h (by have := cntP_pos t; omega)
  | succ N ih =>
    intro t A ca B cb K ck w hN hat hwf
    by_cases h23 : t.kind = 23
    · exact pl24_def t A ca B cb K ck w h23
    · by_cases h3 : t.kind = 3
      · exact pl24_k3 t A ca B cb K ck w h3
      · by_cases h4 : t.kind = 4
        · exact pl24_k4 t A ca B cb K ck w h4
        · by_cases h5 : t.kind = 5
          · exact pl24_k5 t A ca B cb K ck w h5
          · by_cases h2 : t.kind = 2
            · by_cases hs1 : t.text.data.toList = [120]
              · exact pl24_x t A ca B cb K ck w h2 hs1
              · by_cases hs2 : t.text.data.toList = [121]
                · exact pl24_y t A ca B cb K ck w h2 hs2
                · exact pl24_name N ih t A ca B cb K ck w hN hat hwf h2 hs1 hs2
            · exact pl24_else N ih t A ca B cb K ck w hN hat hwf h23 h3 h4 h5 h2
end Go.Proofs.YtebiojmfieoncaaGreat
