/- abacusref24.Kids, by kinds. Condition: sizes within reach. -/
import Derived.Test.YtebiojmfieoncaaGreatTeQ4
import Derived.Test.YtebiojmfieoncaaGreatTeQ5
import Derived.Laws.OwnMore
namespace Go.Proofs.YtebiojmfieoncaaGreat
open Go.RowKit

/-- what Kids answers -/
def DKids (t : Tm) (v : Int) (w : World) (e : Ending) (w' : World) : Prop := (∃ (P : Option Addr) (c : Nat) (l : List Int), e = .returned (.slice P l.length c) ∧ IntsAt w' P l ∧ t.kids.length ≤ l.length ∧ ∀ i, l.getD i 0 = (valT t v).getD i 0) ∧ Below w.heap.size w w'
theorem zero_row {W : World} {B g n : Nat} (h : W.ownsRow B TIn 1 (.slice (some ⟨g, 0, none⟩) n n) n (madeCells #[Value.int .i64 0] n).toList) : W.ownsRow B TIn 1 (.slice (some ⟨g, 0, none⟩) n n) n (intVals (List.replicate n 0)) := by
  rw [toList_madeCells_one] at h
  unfold intVals
  rw [List.map_replicate]
  exact h
theorem row_ints {W : World} {B g n c : Nat} {l : List Int} (h : W.ownsRow B TIn 1 (.slice (some ⟨g, 0, none⟩) n c) n (intVals l)) : IntsAt W (some ⟨g, 0, none⟩) l := (row_ours (r := ⟨some ⟨g, 0, none⟩, n, c⟩) h).2.ints
theorem zero_getD (n i : Nat) : (List.replicate n (0 : Int)).getD i 0 = 0 := by
  rw [List.getD_eq_getElem?_getD, List.getElem?_replicate]
  split <;> rfl
set_option maxRecDepth 100000 in
set_option maxHeartbeats 8000000 in
theorem dkv_25 (t : Tm) (A : Option Addr) (ca : Nat) (B : Option Addr) (cb : Nat) (K : Option Addr) (ck : Nat) (v : Int) (b : Bool) (w : World) (hwf : WfT t) (hg : goodT b t = true) (hk : t.kind = 25) :
    Calls Tryz.prog 152 #[tmVal t A ca B cb K ck, .int .i64 v] w fun e w' => DKids t v w e w' := by
  obtain ⟨W1, hW1⟩ : ∃ W1, W1 = w.alloc (.cells (tmCells t A ca B cb K ck) TTm) := ⟨_, rfl⟩
  have hb1 : Below w.heap.size w W1 := by rw [hW1]; exact (Below.refl _ _).alloc (Nat.le_refl _) _
  have hx1 : W1.heap[w.heap.size]? = some (.cells (tmCells t A ca B cb K ck) TTm (0, 0)) := by rw [hW1]; exact heap_alloc_new w _
  have HW1 := Lib.hid hW1
  have HB1 := Lib.hid hb1
  obtain ⟨n, hn⟩ : ∃ n, n = t.kids.length := ⟨_, rfl⟩
  have hn104 : n * 104 ≤ 140737488351232 := by rw [hn]; exact hwf.node.kids104
  have HX : Hid (∀ W, Below W1.heap.size W1 W → W.cell? ⟨w.heap.size, 0, none⟩ = some (.int .i64 t.kind) ∧ W.cell? ⟨w.heap.size, 5, none⟩ = some (.slice K n ck) ∧ w.heap.size < W.heap.size) := Lib.hid fun W h => by
    have hh := (h.block _ (heap_lt hx1)).trans hx1
    rw [hn]
    exact ⟨cell_at hh rfl, cell_at hh rfl, heap_lt hh⟩
  obtain ⟨k0, k5, kl⟩ := HX.out W1 (Below.refl _ _)
  obtain ⟨j0, hj0, hz0, hz1, hz2⟩ := info_parts info_in
  have HN : Hid (t.kids.length ≤ 1) := Lib.hid (by rw [patk_len hg 25 1 hk (by decide) (by decide) (by decide) (by decide)]; exact Nat.le_refl _)
  have HR : Hid (valT t v = [1]) := Lib.hid (by unfold valT; rw [if_pos (by omega)])
  have kk25 : (t.kind == 25) = true := by rw [hk]; rfl
  clear hwf hb1 hx1 hW1 hn hk
  go_enter Tryz.func152, Tryz.ntmps152
  go_upto_region 1 with fail
  rw [← HW1.out]
  go_wp2_with (at_make; refine wpList_make_full _ rfl _ _ 24 rfl W1.heap.size TIn j0 (.int .i64 0) 1 Tryz.underlying24 hj0 hz0 hz1 .i64 .i64 (n : Int) (n : Int) n rfl rfl rfl rfl (by rw [hz2]; omega) (by unfold maxLen; omega) (Nat.le_refl _) ?_)
  intro W2 hown hg
  have hb2 : Below W1.heap.size W1 W2 := ⟨hg.os, hg.tape, hg.output, hg.size, fun k hk => hg.block k hk (by simp)⟩
  have HR2 := Lib.hid (zero_row hown)
  have HB2 := Lib.hid (HB1.out.then_ hb2)
  obtain ⟨k0, k5, kl⟩ := HX.out W2 hb2
  clear hown hg hb2 hj0 hz0 hz1 hz2
  go_wp2_with fail
  go_ret
  unfold DKids
  refine ⟨⟨some ⟨W2.heap.size, 0, none⟩, 1, [1], rfl, ints_new W2 [1] TIn, HN.out, fun i => ?_⟩, HB2.out.alloc HB2.out.size _⟩
  rw [HR.out]
  first | done | (rcases i with _ | _ | _ | i <;> rfl)
set_option maxRecDepth 100000 in
set_option maxHeartbeats 8000000 in
theorem dkv_27 (t : Tm) (A : Option Addr) (ca : Nat) (B : Option Addr) (cb : Nat) (K : Option Addr) (ck : Nat) (v : Int) (b : Bool) (w : World) (hwf : WfT t) (hg : goodT b t = true) (hk : t.kind = 27) :
    Calls Tryz.prog 152 #[tmVal t A ca B cb K ck, .int .i64 v] w fun e w' => DKids t v w e w' := by
  obtain ⟨W1, hW1⟩ : ∃ W1, W1 = w.alloc (.cells (tmCells t A ca B cb K ck) TTm) := ⟨_, rfl⟩
  have hb1 : Below w.heap.size w W1 := by rw [hW1]; exact (Below.refl _ _).alloc (Nat.le_refl _) _
  have hx1 : W1.heap[w.heap.size]? = some (.cells (tmCells t A ca B cb K ck) TTm (0, 0)) := by rw [hW1]; exact heap_alloc_new w _
  have HW1 := Lib.hid hW1
  have HB1 := Lib.hid hb1
  obtain ⟨n, hn⟩ : ∃ n, n = t.kids.length := ⟨_, rfl⟩
  have hn104 : n * 104 ≤ 140737488351232 := by rw [hn]; exact hwf.node.kids104
  have HX : Hid (∀ W, Below W1.heap.size W1 W → W.cell? ⟨w.heap.size, 0, none⟩ = some (.int .i64 t.kind) ∧ W.cell? ⟨w.heap.size, 5, none⟩ = some (.slice K n ck) ∧ w.heap.size < W.heap.size) := Lib.hid fun W h => by
    have hh := (h.block _ (heap_lt hx1)).trans hx1
    rw [hn]
    exact ⟨cell_at hh rfl, cell_at hh rfl, heap_lt hh⟩
  obtain ⟨k0, k5, kl⟩ := HX.out W1 (Below.refl _ _)
  obtain ⟨j0, hj0, hz0, hz1, hz2⟩ := info_parts info_in
  have HN : Hid (t.kids.length ≤ 1) := Lib.hid (by rw [patk_len hg 27 1 hk (by decide) (by decide) (by decide) (by decide)]; exact Nat.le_refl _)
  have HR : Hid (valT t v = [2]) := Lib.hid (by unfold valT; rw [if_neg (by omega)]; rw [if_neg (by omega)]; rw [if_pos (by omega)])
  have kk25 : (t.kind == 25) = false := by rw [hk]; rfl
  have kk26 : (t.kind == 26) = false := by rw [hk]; rfl
  have kk27 : (t.kind == 27) = true := by rw [hk]; rfl
  clear hwf hb1 hx1 hW1 hn hk
  go_enter Tryz.func152, Tryz.ntmps152
  go_upto_region 1 with fail
  rw [← HW1.out]
  go_wp2_with (at_make; refine wpList_make_full _ rfl _ _ 24 rfl W1.heap.size TIn j0 (.int .i64 0) 1 Tryz.underlying24 hj0 hz0 hz1 .i64 .i64 (n : Int) (n : Int) n rfl rfl rfl rfl (by rw [hz2]; omega) (by unfold maxLen; omega) (Nat.le_refl _) ?_)
  intro W2 hown hg
  have hb2 : Below W1.heap.size W1 W2 := ⟨hg.os, hg.tape, hg.output, hg.size, fun k hk => hg.block k hk (by simp)⟩
  have HR2 := Lib.hid (zero_row hown)
  have HB2 := Lib.hid (HB1.out.then_ hb2)
  obtain ⟨k0, k5, kl⟩ := HX.out W2 hb2
  clear hown hg hb2 hj0 hz0 hz1 hz2
  go_wp2_with fail
  go_ret
  unfold DKids
  refine ⟨⟨some ⟨W2.heap.size, 0, none⟩, 1, [2], rfl, ints_new W2 [2] TIn, HN.out, fun i => ?_⟩, HB2.out.alloc HB2.out.size _⟩
  rw [HR.out]
  first | done | (rcases i with _ | _ | _ | i <;> rfl)
set_option maxRecDepth 100000 in
set_option maxHeartbeats 8000000 in
theorem dkv_28 (t : Tm) (A : Option Addr) (ca : Nat) (B : Option Addr) (cb : Nat) (K : Option Addr) (ck : Nat) (v : Int) (b : Bool) (w : World) (hwf : WfT t) (hg : goodT b t = true) (hk : t.kind = 28) :
    Calls Tryz.prog 152 #[tmVal t A ca B cb K ck, .int .i64 v] w fun e w' => DKids t v w e w' := by
  obtain ⟨W1, hW1⟩ : ∃ W1, W1 = w.alloc (.cells (tmCells t A ca B cb K ck) TTm) := ⟨_, rfl⟩
  have hb1 : Below w.heap.size w W1 := by rw [hW1]; exact (Below.refl _ _).alloc (Nat.le_refl _) _
  have hx1 : W1.heap[w.heap.size]? = some (.cells (tmCells t A ca B cb K ck) TTm (0, 0)) := by rw [hW1]; exact heap_alloc_new w _
  have HW1 := Lib.hid hW1
  have HB1 := Lib.hid hb1
  obtain ⟨n, hn⟩ : ∃ n, n = t.kids.length := ⟨_, rfl⟩
  have hn104 : n * 104 ≤ 140737488351232 := by rw [hn]; exact hwf.node.kids104
  have HX : Hid (∀ W, Below W1.heap.size W1 W → W.cell? ⟨w.heap.size, 0, none⟩ = some (.int .i64 t.kind) ∧ W.cell? ⟨w.heap.size, 5, none⟩ = some (.slice K n ck) ∧ w.heap.size < W.heap.size) := Lib.hid fun W h => by
    have hh := (h.block _ (heap_lt hx1)).trans hx1
    rw [hn]
    exact ⟨cell_at hh rfl, cell_at hh rfl, heap_lt hh⟩
  obtain ⟨k0, k5, kl⟩ := HX.out W1 (Below.refl _ _)
  obtain ⟨j0, hj0, hz0, hz1, hz2⟩ := info_parts info_in
  have HN : Hid (t.kids.length ≤ 2) := Lib.hid (by rw [patk_len hg 28 2 hk (by decide) (by decide) (by decide) (by decide)]; exact Nat.le_refl _)
  have HR : Hid (valT t v = [1, v]) := Lib.hid (by unfold valT; rw [if_neg (by omega)]; rw [if_neg (by omega)]; rw [if_neg (by omega)]; rw [if_pos (by omega)])
  have kk25 : (t.kind == 25) = false := by rw [hk]; rfl
  have kk26 : (t.kind == 26) = false := by rw [hk]; rfl
  have kk27 : (t.kind == 27) = false := by rw [hk]; rfl
  have kk28 : (t.kind == 28) = true := by rw [hk]; rfl
  clear hwf hb1 hx1 hW1 hn hk
  go_enter Tryz.func152, Tryz.ntmps152
  go_upto_region 1 with fail
  rw [← HW1.out]
  go_wp2_with (at_make; refine wpList_make_full _ rfl _ _ 24 rfl W1.heap.size TIn j0 (.int .i64 0) 1 Tryz.underlying24 hj0 hz0 hz1 .i64 .i64 (n : Int) (n : Int) n rfl rfl rfl rfl (by rw [hz2]; omega) (by unfold maxLen; omega) (Nat.le_refl _) ?_)
  intro W2 hown hg
  have hb2 : Below W1.heap.size W1 W2 := ⟨hg.os, hg.tape, hg.output, hg.size, fun k hk => hg.block k hk (by simp)⟩
  have HR2 := Lib.hid (zero_row hown)
  have HB2 := Lib.hid (HB1.out.then_ hb2)
  obtain ⟨k0, k5, kl⟩ := HX.out W2 hb2
  clear hown hg hb2 hj0 hz0 hz1 hz2
  go_wp2_with fail
  go_ret
  unfold DKids
  refine ⟨⟨some ⟨W2.heap.size, 0, none⟩, 2, [1, v], rfl, ints_new W2 [1, v] TIn, HN.out, fun i => ?_⟩, HB2.out.alloc HB2.out.size _⟩
  rw [HR.out]
  first | done | (rcases i with _ | _ | _ | i <;> rfl)
set_option maxRecDepth 100000 in
set_option maxHeartbeats 8000000 in
theorem dkv_29 (t : Tm) (A : Option Addr) (ca : Nat) (B : Option Addr) (cb : Nat) (K : Option Addr) (ck : Nat) (v : Int) (b : Bool) (w : World) (hwf : WfT t) (hg : goodT b t = true) (hk : t.kind = 29) :
    Calls Tryz.prog 152 #[tmVal t A ca B cb K ck, .int .i64 v] w fun e w' => DKids t v w e w' := by
  obtain ⟨W1, hW1⟩ : ∃ W1, W1 = w.alloc (.cells (tmCells t A ca B cb K ck) TTm) := ⟨_, rfl⟩
  have hb1 : Below w.heap.size w W1 := by rw [hW1]; exact (Below.refl _ _).alloc (Nat.le_refl _) _
  have hx1 : W1.heap[w.heap.size]? = some (.cells (tmCells t A ca B cb K ck) TTm (0, 0)) := by rw [hW1]; exact heap_alloc_new w _
  have HW1 := Lib.hid hW1
  have HB1 := Lib.hid hb1
  obtain ⟨n, hn⟩ : ∃ n, n = t.kids.length := ⟨_, rfl⟩
  have hn104 : n * 104 ≤ 140737488351232 := by rw [hn]; exact hwf.node.kids104
  have HX : Hid (∀ W, Below W1.heap.size W1 W → W.cell? ⟨w.heap.size, 0, none⟩ = some (.int .i64 t.kind) ∧ W.cell? ⟨w.heap.size, 5, none⟩ = some (.slice K n ck) ∧ w.heap.size < W.heap.size) := Lib.hid fun W h => by
    have hh := (h.block _ (heap_lt hx1)).trans hx1
    rw [hn]
    exact ⟨cell_at hh rfl, cell_at hh rfl, heap_lt hh⟩
  obtain ⟨k0, k5, kl⟩ := HX.out W1 (Below.refl _ _)
  obtain ⟨j0, hj0, hz0, hz1, hz2⟩ := info_parts info_in
  have HN : Hid (t.kids.length ≤ 2) := Lib.hid (by rw [patk_len hg 29 2 hk (by decide) (by decide) (by decide) (by decide)]; exact Nat.le_refl _)
  have HR : Hid (valT t v = [1, v]) := Lib.hid (by unfold valT; rw [if_neg (by omega)]; rw [if_neg (by omega)]; rw [if_neg (by omega)]; rw [if_pos (by omega)])
  have kk25 : (t.kind == 25) = false := by rw [hk]; rfl
  have kk26 : (t.kind == 26) = false := by rw [hk]; rfl
  have kk27 : (t.kind == 27) = false := by rw [hk]; rfl
  have kk28 : (t.kind == 28) = false := by rw [hk]; rfl
  have kk29 : (t.kind == 29) = true := by rw [hk]; rfl
  clear hwf hb1 hx1 hW1 hn hk
  go_enter Tryz.func152, Tryz.ntmps152
  go_upto_region 1 with fail
  rw [← HW1.out]
  go_wp2_with (at_make; refine wpList_make_full _ rfl _ _ 24 rfl W1.heap.size TIn j0 (.int .i64 0) 1 Tryz.underlying24 hj0 hz0 hz1 .i64 .i64 (n : Int) (n : Int) n rfl rfl rfl rfl (by rw [hz2]; omega) (by unfold maxLen; omega) (Nat.le_refl _) ?_)
  intro W2 hown hg
  have hb2 : Below W1.heap.size W1 W2 := ⟨hg.os, hg.tape, hg.output, hg.size, fun k hk => hg.block k hk (by simp)⟩
  have HR2 := Lib.hid (zero_row hown)
  have HB2 := Lib.hid (HB1.out.then_ hb2)
  obtain ⟨k0, k5, kl⟩ := HX.out W2 hb2
  clear hown hg hb2 hj0 hz0 hz1 hz2
  go_wp2_with fail
  go_ret
  unfold DKids
  refine ⟨⟨some ⟨W2.heap.size, 0, none⟩, 2, [1, v], rfl, ints_new W2 [1, v] TIn, HN.out, fun i => ?_⟩, HB2.out.alloc HB2.out.size _⟩
  rw [HR.out]
  first | done | (rcases i with _ | _ | _ | i <;> rfl)
set_option maxRecDepth 100000 in
set_option maxHeartbeats 8000000 in
theorem dkv_46 (t : Tm) (A : Option Addr) (ca : Nat) (B : Option Addr) (cb : Nat) (K : Option Addr) (ck : Nat) (v : Int) (b : Bool) (w : World) (hwf : WfT t) (hg : goodT b t = true) (hk : t.kind = 46) :
    Calls Tryz.prog 152 #[tmVal t A ca B cb K ck, .int .i64 v] w fun e w' => DKids t v w e w' := by
  obtain ⟨W1, hW1⟩ : ∃ W1, W1 = w.alloc (.cells (tmCells t A ca B cb K ck) TTm) := ⟨_, rfl⟩
  have hb1 : Below w.heap.size w W1 := by rw [hW1]; exact (Below.refl _ _).alloc (Nat.le_refl _) _
  have hx1 : W1.heap[w.heap.size]? = some (.cells (tmCells t A ca B cb K ck) TTm (0, 0)) := by rw [hW1]; exact heap_alloc_new w _
  have HW1 := Lib.hid hW1
  have HB1 := Lib.hid hb1
  obtain ⟨n, hn⟩ : ∃ n, n = t.kids.length := ⟨_, rfl⟩
  have hn104 : n * 104 ≤ 140737488351232 := by rw [hn]; exact hwf.node.kids104
  have HX : Hid (∀ W, Below W1.heap.size W1 W → W.cell? ⟨w.heap.size, 0, none⟩ = some (.int .i64 t.kind) ∧ W.cell? ⟨w.heap.size, 5, none⟩ = some (.slice K n ck) ∧ w.heap.size < W.heap.size) := Lib.hid fun W h => by
    have hh := (h.block _ (heap_lt hx1)).trans hx1
    rw [hn]
    exact ⟨cell_at hh rfl, cell_at hh rfl, heap_lt hh⟩
  obtain ⟨k0, k5, kl⟩ := HX.out W1 (Below.refl _ _)
  obtain ⟨j0, hj0, hz0, hz1, hz2⟩ := info_parts info_in
  have HN : Hid (t.kids.length ≤ 2) := Lib.hid (by rw [patk_len hg 46 2 hk (by decide) (by decide) (by decide) (by decide)]; exact Nat.le_refl _)
  have HR : Hid (valT t v = [1, v]) := Lib.hid (by unfold valT; rw [if_neg (by omega)]; rw [if_neg (by omega)]; rw [if_neg (by omega)]; rw [if_pos (by omega)])
  have kk25 : (t.kind == 25) = false := by rw [hk]; rfl
  have kk26 : (t.kind == 26) = false := by rw [hk]; rfl
  have kk27 : (t.kind == 27) = false := by rw [hk]; rfl
  have kk28 : (t.kind == 28) = false := by rw [hk]; rfl
  have kk29 : (t.kind == 29) = false := by rw [hk]; rfl
  have kk46 : (t.kind == 46) = true := by rw [hk]; rfl
  clear hwf hb1 hx1 hW1 hn hk
  go_enter Tryz.func152, Tryz.ntmps152
  go_upto_region 1 with fail
  rw [← HW1.out]
  go_wp2_with (at_make; refine wpList_make_full _ rfl _ _ 24 rfl W1.heap.size TIn j0 (.int .i64 0) 1 Tryz.underlying24 hj0 hz0 hz1 .i64 .i64 (n : Int) (n : Int) n rfl rfl rfl rfl (by rw [hz2]; omega) (by unfold maxLen; omega) (Nat.le_refl _) ?_)
  intro W2 hown hg
  have hb2 : Below W1.heap.size W1 W2 := ⟨hg.os, hg.tape, hg.output, hg.size, fun k hk => hg.block k hk (by simp)⟩
  have HR2 := Lib.hid (zero_row hown)
  have HB2 := Lib.hid (HB1.out.then_ hb2)
  obtain ⟨k0, k5, kl⟩ := HX.out W2 hb2
  clear hown hg hb2 hj0 hz0 hz1 hz2
  go_wp2_with fail
  go_ret
  unfold DKids
  refine ⟨⟨some ⟨W2.heap.size, 0, none⟩, 2, [1, v], rfl, ints_new W2 [1, v] TIn, HN.out, fun i => ?_⟩, HB2.out.alloc HB2.out.size _⟩
  rw [HR.out]
  first | done | (rcases i with _ | _ | _ | i <;> rfl)
set_option maxRecDepth 100000 in
set_option maxHeartbeats 8000000 in
theorem dkv_30 (t : Tm) (A : Option Addr) (ca : Nat) (B : Option Addr) (cb : Nat) (K : Option Addr) (ck : Nat) (v : Int) (b : Bool) (w : World) (hwf : WfT t) (hg : goodT b t = true) (hk : t.kind = 30) :
    Calls Tryz.prog 152 #[tmVal t A ca B cb K ck, .int .i64 v] w fun e w' => DKids t v w e w' := by
  obtain ⟨W1, hW1⟩ : ∃ W1, W1 = w.alloc (.cells (tmCells t A ca B cb K ck) TTm) := ⟨_, rfl⟩
  have hb1 : Below w.heap.size w W1 := by rw [hW1]; exact (Below.refl _ _).alloc (Nat.le_refl _) _
  have hx1 : W1.heap[w.heap.size]? = some (.cells (tmCells t A ca B cb K ck) TTm (0, 0)) := by rw [hW1]; exact heap_alloc_new w _
  have HW1 := Lib.hid hW1
  have HB1 := Lib.hid hb1
  obtain ⟨n, hn⟩ : ∃ n, n = t.kids.length := ⟨_, rfl⟩
  have hn104 : n * 104 ≤ 140737488351232 := by rw [hn]; exact hwf.node.kids104
  have HX : Hid (∀ W, Below W1.heap.size W1 W → W.cell? ⟨w.heap.size, 0, none⟩ = some (.int .i64 t.kind) ∧ W.cell? ⟨w.heap.size, 5, none⟩ = some (.slice K n ck) ∧ w.heap.size < W.heap.size) := Lib.hid fun W h => by
    have hh := (h.block _ (heap_lt hx1)).trans hx1
    rw [hn]
    exact ⟨cell_at hh rfl, cell_at hh rfl, heap_lt hh⟩
  obtain ⟨k0, k5, kl⟩ := HX.out W1 (Below.refl _ _)
  obtain ⟨j0, hj0, hz0, hz1, hz2⟩ := info_parts info_in
  have HN : Hid (t.kids.length ≤ 2) := Lib.hid (by rw [patk_len hg 30 2 hk (by decide) (by decide) (by decide) (by decide)]; exact Nat.le_refl _)
  have HR : Hid (valT t v = [v, 1]) := Lib.hid (by unfold valT; rw [if_neg (by omega)]; rw [if_neg (by omega)]; rw [if_neg (by omega)]; rw [if_neg (by omega)]; rw [if_pos (by omega)])
  have kk25 : (t.kind == 25) = false := by rw [hk]; rfl
  have kk26 : (t.kind == 26) = false := by rw [hk]; rfl
  have kk27 : (t.kind == 27) = false := by rw [hk]; rfl
  have kk28 : (t.kind == 28) = false := by rw [hk]; rfl
  have kk29 : (t.kind == 29) = false := by rw [hk]; rfl
  have kk46 : (t.kind == 46) = false := by rw [hk]; rfl
  have kk30 : (t.kind == 30) = true := by rw [hk]; rfl
  clear hwf hb1 hx1 hW1 hn hk
  go_enter Tryz.func152, Tryz.ntmps152
  go_upto_region 1 with fail
  rw [← HW1.out]
  go_wp2_with (at_make; refine wpList_make_full _ rfl _ _ 24 rfl W1.heap.size TIn j0 (.int .i64 0) 1 Tryz.underlying24 hj0 hz0 hz1 .i64 .i64 (n : Int) (n : Int) n rfl rfl rfl rfl (by rw [hz2]; omega) (by unfold maxLen; omega) (Nat.le_refl _) ?_)
  intro W2 hown hg
  have hb2 : Below W1.heap.size W1 W2 := ⟨hg.os, hg.tape, hg.output, hg.size, fun k hk => hg.block k hk (by simp)⟩
  have HR2 := Lib.hid (zero_row hown)
  have HB2 := Lib.hid (HB1.out.then_ hb2)
  obtain ⟨k0, k5, kl⟩ := HX.out W2 hb2
  clear hown hg hb2 hj0 hz0 hz1 hz2
  go_wp2_with fail
  go_ret
  unfold DKids
  refine ⟨⟨some ⟨W2.heap.size, 0, none⟩, 2, [v, 1], rfl, ints_new W2 [v, 1] TIn, HN.out, fun i => ?_⟩, HB2.out.alloc HB2.out.size _⟩
  rw [HR.out]
  first | done | (rcases i with _ | _ | _ | i <;> rfl)
set_option maxRecDepth 100000 in
set_option maxHeartbeats 8000000 in
theorem dkv_31 (t : Tm) (A : Option Addr) (ca : Nat) (B : Option Addr) (cb : Nat) (K : Option Addr) (ck : Nat) (v : Int) (b : Bool) (w : World) (hwf : WfT t) (hg : goodT b t = true) (hk : t.kind = 31) :
    Calls Tryz.prog 152 #[tmVal t A ca B cb K ck, .int .i64 v] w fun e w' => DKids t v w e w' := by
  obtain ⟨W1, hW1⟩ : ∃ W1, W1 = w.alloc (.cells (tmCells t A ca B cb K ck) TTm) := ⟨_, rfl⟩
  have hb1 : Below w.heap.size w W1 := by rw [hW1]; exact (Below.refl _ _).alloc (Nat.le_refl _) _
  have hx1 : W1.heap[w.heap.size]? = some (.cells (tmCells t A ca B cb K ck) TTm (0, 0)) := by rw [hW1]; exact heap_alloc_new w _
  have HW1 := Lib.hid hW1
  have HB1 := Lib.hid hb1
  obtain ⟨n, hn⟩ : ∃ n, n = t.kids.length := ⟨_, rfl⟩
  have hn104 : n * 104 ≤ 140737488351232 := by rw [hn]; exact hwf.node.kids104
  have HX : Hid (∀ W, Below W1.heap.size W1 W → W.cell? ⟨w.heap.size, 0, none⟩ = some (.int .i64 t.kind) ∧ W.cell? ⟨w.heap.size, 5, none⟩ = some (.slice K n ck) ∧ w.heap.size < W.heap.size) := Lib.hid fun W h => by
    have hh := (h.block _ (heap_lt hx1)).trans hx1
    rw [hn]
    exact ⟨cell_at hh rfl, cell_at hh rfl, heap_lt hh⟩
  obtain ⟨k0, k5, kl⟩ := HX.out W1 (Below.refl _ _)
  obtain ⟨j0, hj0, hz0, hz1, hz2⟩ := info_parts info_in
  have HN : Hid (t.kids.length ≤ 2) := Lib.hid (by rw [patk_len hg 31 2 hk (by decide) (by decide) (by decide) (by decide)]; exact Nat.le_refl _)
  have HR : Hid (valT t v = [v, 1]) := Lib.hid (by unfold valT; rw [if_neg (by omega)]; rw [if_neg (by omega)]; rw [if_neg (by omega)]; rw [if_neg (by omega)]; rw [if_pos (by omega)])
  have kk25 : (t.kind == 25) = false := by rw [hk]; rfl
  have kk26 : (t.kind == 26) = false := by rw [hk]; rfl
  have kk27 : (t.kind == 27) = false := by rw [hk]; rfl
  have kk28 : (t.kind == 28) = false := by rw [hk]; rfl
  have kk29 : (t.kind == 29) = false := by rw [hk]; rfl
  have kk46 : (t.kind == 46) = false := by rw [hk]; rfl
  have kk30 : (t.kind == 30) = false := by rw [hk]; rfl
  have kk31 : (t.kind == 31) = true := by rw [hk]; rfl
  clear hwf hb1 hx1 hW1 hn hk
  go_enter Tryz.func152, Tryz.ntmps152
  go_upto_region 1 with fail
  rw [← HW1.out]
  go_wp2_with (at_make; refine wpList_make_full _ rfl _ _ 24 rfl W1.heap.size TIn j0 (.int .i64 0) 1 Tryz.underlying24 hj0 hz0 hz1 .i64 .i64 (n : Int) (n : Int) n rfl rfl rfl rfl (by rw [hz2]; omega) (by unfold maxLen; omega) (Nat.le_refl _) ?_)
  intro W2 hown hg
  have hb2 : Below W1.heap.size W1 W2 := ⟨hg.os, hg.tape, hg.output, hg.size, fun k hk => hg.block k hk (by simp)⟩
  have HR2 := Lib.hid (zero_row hown)
  have HB2 := Lib.hid (HB1.out.then_ hb2)
  obtain ⟨k0, k5, kl⟩ := HX.out W2 hb2
  clear hown hg hb2 hj0 hz0 hz1 hz2
  go_wp2_with fail
  go_ret
  unfold DKids
  refine ⟨⟨some ⟨W2.heap.size, 0, none⟩, 2, [v, 1], rfl, ints_new W2 [v, 1] TIn, HN.out, fun i => ?_⟩, HB2.out.alloc HB2.out.size _⟩
  rw [HR.out]
  first | done | (rcases i with _ | _ | _ | i <;> rfl)
set_option maxRecDepth 100000 in
set_option maxHeartbeats 8000000 in
theorem dkv_32 (t : Tm) (A : Option Addr) (ca : Nat) (B : Option Addr) (cb : Nat) (K : Option Addr) (ck : Nat) (v : Int) (b : Bool) (w : World) (hwf : WfT t) (hg : goodT b t = true) (hk : t.kind = 32) :
    Calls Tryz.prog 152 #[tmVal t A ca B cb K ck, .int .i64 v] w fun e w' => DKids t v w e w' := by
  obtain ⟨W1, hW1⟩ : ∃ W1, W1 = w.alloc (.cells (tmCells t A ca B cb K ck) TTm) := ⟨_, rfl⟩
  have hb1 : Below w.heap.size w W1 := by rw [hW1]; exact (Below.refl _ _).alloc (Nat.le_refl _) _
  have hx1 : W1.heap[w.heap.size]? = some (.cells (tmCells t A ca B cb K ck) TTm (0, 0)) := by rw [hW1]; exact heap_alloc_new w _
  have HW1 := Lib.hid hW1
  have HB1 := Lib.hid hb1
  obtain ⟨n, hn⟩ : ∃ n, n = t.kids.length := ⟨_, rfl⟩
  have hn104 : n * 104 ≤ 140737488351232 := by rw [hn]; exact hwf.node.kids104
  have HX : Hid (∀ W, Below W1.heap.size W1 W → W.cell? ⟨w.heap.size, 0, none⟩ = some (.int .i64 t.kind) ∧ W.cell? ⟨w.heap.size, 5, none⟩ = some (.slice K n ck) ∧ w.heap.size < W.heap.size) := Lib.hid fun W h => by
    have hh := (h.block _ (heap_lt hx1)).trans hx1
    rw [hn]
    exact ⟨cell_at hh rfl, cell_at hh rfl, heap_lt hh⟩
  obtain ⟨k0, k5, kl⟩ := HX.out W1 (Below.refl _ _)
  obtain ⟨j0, hj0, hz0, hz1, hz2⟩ := info_parts info_in
  have HN : Hid (t.kids.length ≤ 2) := Lib.hid (by rw [patk_len hg 32 2 hk (by decide) (by decide) (by decide) (by decide)]; exact Nat.le_refl _)
  have HR : Hid (valT t v = [v]) := Lib.hid (by unfold valT; rw [if_neg (by omega)]; rw [if_neg (by omega)]; rw [if_neg (by omega)]; rw [if_neg (by omega)]; rw [if_neg (by omega)]; rw [if_pos (by omega)])
  have kk25 : (t.kind == 25) = false := by rw [hk]; rfl
  have kk26 : (t.kind == 26) = false := by rw [hk]; rfl
  have kk27 : (t.kind == 27) = false := by rw [hk]; rfl
  have kk28 : (t.kind == 28) = false := by rw [hk]; rfl
  have kk29 : (t.kind == 29) = false := by rw [hk]; rfl
  have kk46 : (t.kind == 46) = false := by rw [hk]; rfl
  have kk30 : (t.kind == 30) = false := by rw [hk]; rfl
  have kk31 : (t.kind == 31) = false := by rw [hk]; rfl
  have kk32 : (t.kind == 32) = true := by rw [hk]; rfl
  clear hwf hb1 hx1 hW1 hn hk
  go_enter Tryz.func152, Tryz.ntmps152
  go_upto_region 1 with fail
  rw [← HW1.out]
  go_wp2_with (at_make; refine wpList_make_full _ rfl _ _ 24 rfl W1.heap.size TIn j0 (.int .i64 0) 1 Tryz.underlying24 hj0 hz0 hz1 .i64 .i64 (n : Int) (n : Int) n rfl rfl rfl rfl (by rw [hz2]; omega) (by unfold maxLen; omega) (Nat.le_refl _) ?_)
  intro W2 hown hg
  have hb2 : Below W1.heap.size W1 W2 := ⟨hg.os, hg.tape, hg.output, hg.size, fun k hk => hg.block k hk (by simp)⟩
  have HR2 := Lib.hid (zero_row hown)
  have HB2 := Lib.hid (HB1.out.then_ hb2)
  obtain ⟨k0, k5, kl⟩ := HX.out W2 hb2
  clear hown hg hb2 hj0 hz0 hz1 hz2
  go_wp2_with fail
  go_ret
  unfold DKids
  refine ⟨⟨some ⟨W2.heap.size, 0, none⟩, 2, [v, 0], rfl, ints_new W2 [v, 0] TIn, HN.out, fun i => ?_⟩, HB2.out.alloc HB2.out.size _⟩
  rw [HR.out]
  first | done | (rcases i with _ | _ | _ | i <;> rfl)
set_option maxRecDepth 100000 in
set_option maxHeartbeats 8000000 in
theorem dkv_33 (t : Tm) (A : Option Addr) (ca : Nat) (B : Option Addr) (cb : Nat) (K : Option Addr) (ck : Nat) (v : Int) (b : Bool) (w : World) (hwf : WfT t) (hg : goodT b t = true) (hk : t.kind = 33) :
    Calls Tryz.prog 152 #[tmVal t A ca B cb K ck, .int .i64 v] w fun e w' => DKids t v w e w' := by
  obtain ⟨W1, hW1⟩ : ∃ W1, W1 = w.alloc (.cells (tmCells t A ca B cb K ck) TTm) := ⟨_, rfl⟩
  have hb1 : Below w.heap.size w W1 := by rw [hW1]; exact (Below.refl _ _).alloc (Nat.le_refl _) _
  have hx1 : W1.heap[w.heap.size]? = some (.cells (tmCells t A ca B cb K ck) TTm (0, 0)) := by rw [hW1]; exact heap_alloc_new w _
  have HW1 := Lib.hid hW1
  have HB1 := Lib.hid hb1
  obtain ⟨n, hn⟩ : ∃ n, n = t.kids.length := ⟨_, rfl⟩
  have hn104 : n * 104 ≤ 140737488351232 := by rw [hn]; exact hwf.node.kids104
  have HX : Hid (∀ W, Below W1.heap.size W1 W → W.cell? ⟨w.heap.size, 0, none⟩ = some (.int .i64 t.kind) ∧ W.cell? ⟨w.heap.size, 5, none⟩ = some (.slice K n ck) ∧ w.heap.size < W.heap.size) := Lib.hid fun W h => by
    have hh := (h.block _ (heap_lt hx1)).trans hx1
    rw [hn]
    exact ⟨cell_at hh rfl, cell_at hh rfl, heap_lt hh⟩
  obtain ⟨k0, k5, kl⟩ := HX.out W1 (Below.refl _ _)
  obtain ⟨j0, hj0, hz0, hz1, hz2⟩ := info_parts info_in
  have HN : Hid (t.kids.length ≤ 2) := Lib.hid (by rw [patk_len hg 33 2 hk (by decide) (by decide) (by decide) (by decide)]; exact Nat.le_refl _)
  have HR : Hid (valT t v = [v]) := Lib.hid (by unfold valT; rw [if_neg (by omega)]; rw [if_neg (by omega)]; rw [if_neg (by omega)]; rw [if_neg (by omega)]; rw [if_neg (by omega)]; rw [if_pos (by omega)])
  have kk25 : (t.kind == 25) = false := by rw [hk]; rfl
  have kk26 : (t.kind == 26) = false := by rw [hk]; rfl
  have kk27 : (t.kind == 27) = false := by rw [hk]; rfl
  have kk28 : (t.kind == 28) = false := by rw [hk]; rfl
  have kk29 : (t.kind == 29) = false := by rw [hk]; rfl
  have kk46 : (t.kind == 46) = false := by rw [hk]; rfl
  have kk30 : (t.kind == 30) = false := by rw [hk]; rfl
  have kk31 : (t.kind == 31) = false := by rw [hk]; rfl
  have kk32 : (t.kind == 32) = false := by rw [hk]; rfl
  have kk33 : (t.kind == 33) = true := by rw [hk]; rfl
  clear hwf hb1 hx1 hW1 hn hk
  go_enter Tryz.func152, Tryz.ntmps152
  go_upto_region 1 with fail
  rw [← HW1.out]
  go_wp2_with (at_make; refine wpList_make_full _ rfl _ _ 24 rfl W1.heap.size TIn j0 (.int .i64 0) 1 Tryz.underlying24 hj0 hz0 hz1 .i64 .i64 (n : Int) (n : Int) n rfl rfl rfl rfl (by rw [hz2]; omega) (by unfold maxLen; omega) (Nat.le_refl _) ?_)
  intro W2 hown hg
  have hb2 : Below W1.heap.size W1 W2 := ⟨hg.os, hg.tape, hg.output, hg.size, fun k hk => hg.block k hk (by simp)⟩
  have HR2 := Lib.hid (zero_row hown)
  have HB2 := Lib.hid (HB1.out.then_ hb2)
  obtain ⟨k0, k5, kl⟩ := HX.out W2 hb2
  clear hown hg hb2 hj0 hz0 hz1 hz2
  go_wp2_with fail
  go_ret
  unfold DKids
  refine ⟨⟨some ⟨W2.heap.size, 0, none⟩, 2, [v, 0], rfl, ints_new W2 [v, 0] TIn, HN.out, fun i => ?_⟩, HB2.out.alloc HB2.out.size _⟩
  rw [HR.out]
  first | done | (rcases i with _ | _ | _ | i <;> rfl)
set_option maxRecDepth 100000 in
set_option maxHeartbeats 8000000 in
theorem dkv_36 (t : Tm) (A : Option Addr) (ca : Nat) (B : Option Addr) (cb : Nat) (K : Option Addr) (ck : Nat) (v : Int) (b : Bool) (w : World) (hwf : WfT t) (hg : goodT b t = true) (hk : t.kind = 36) :
    Calls Tryz.prog 152 #[tmVal t A ca B cb K ck, .int .i64 v] w fun e w' => DKids t v w e w' := by
  obtain ⟨W1, hW1⟩ : ∃ W1, W1 = w.alloc (.cells (tmCells t A ca B cb K ck) TTm) := ⟨_, rfl⟩
  have hb1 : Below w.heap.size w W1 := by rw [hW1]; exact (Below.refl _ _).alloc (Nat.le_refl _) _
  have hx1 : W1.heap[w.heap.size]? = some (.cells (tmCells t A ca B cb K ck) TTm (0, 0)) := by rw [hW1]; exact heap_alloc_new w _
  have HW1 := Lib.hid hW1
  have HB1 := Lib.hid hb1
  obtain ⟨n, hn⟩ : ∃ n, n = t.kids.length := ⟨_, rfl⟩
  have hn104 : n * 104 ≤ 140737488351232 := by rw [hn]; exact hwf.node.kids104
  have HX : Hid (∀ W, Below W1.heap.size W1 W → W.cell? ⟨w.heap.size, 0, none⟩ = some (.int .i64 t.kind) ∧ W.cell? ⟨w.heap.size, 5, none⟩ = some (.slice K n ck) ∧ w.heap.size < W.heap.size) := Lib.hid fun W h => by
    have hh := (h.block _ (heap_lt hx1)).trans hx1
    rw [hn]
    exact ⟨cell_at hh rfl, cell_at hh rfl, heap_lt hh⟩
  obtain ⟨k0, k5, kl⟩ := HX.out W1 (Below.refl _ _)
  obtain ⟨j0, hj0, hz0, hz1, hz2⟩ := info_parts info_in
  have HN : Hid (t.kids.length ≤ 2) := Lib.hid (by rw [patk_len hg 36 2 hk (by decide) (by decide) (by decide) (by decide)]; exact Nat.le_refl _)
  have HR : Hid (valT t v = [v]) := Lib.hid (by unfold valT; rw [if_neg (by omega)]; rw [if_neg (by omega)]; rw [if_neg (by omega)]; rw [if_neg (by omega)]; rw [if_neg (by omega)]; rw [if_pos (by omega)])
  have kk25 : (t.kind == 25) = false := by rw [hk]; rfl
  have kk26 : (t.kind == 26) = false := by rw [hk]; rfl
  have kk27 : (t.kind == 27) = false := by rw [hk]; rfl
  have kk28 : (t.kind == 28) = false := by rw [hk]; rfl
  have kk29 : (t.kind == 29) = false := by rw [hk]; rfl
  have kk46 : (t.kind == 46) = false := by rw [hk]; rfl
  have kk30 : (t.kind == 30) = false := by rw [hk]; rfl
  have kk31 : (t.kind == 31) = false := by rw [hk]; rfl
  have kk32 : (t.kind == 32) = false := by rw [hk]; rfl
  have kk33 : (t.kind == 33) = false := by rw [hk]; rfl
  have kk36 : (t.kind == 36) = true := by rw [hk]; rfl
  clear hwf hb1 hx1 hW1 hn hk
  go_enter Tryz.func152, Tryz.ntmps152
  go_upto_region 1 with fail
  rw [← HW1.out]
  go_wp2_with (at_make; refine wpList_make_full _ rfl _ _ 24 rfl W1.heap.size TIn j0 (.int .i64 0) 1 Tryz.underlying24 hj0 hz0 hz1 .i64 .i64 (n : Int) (n : Int) n rfl rfl rfl rfl (by rw [hz2]; omega) (by unfold maxLen; omega) (Nat.le_refl _) ?_)
  intro W2 hown hg
  have hb2 : Below W1.heap.size W1 W2 := ⟨hg.os, hg.tape, hg.output, hg.size, fun k hk => hg.block k hk (by simp)⟩
  have HR2 := Lib.hid (zero_row hown)
  have HB2 := Lib.hid (HB1.out.then_ hb2)
  obtain ⟨k0, k5, kl⟩ := HX.out W2 hb2
  clear hown hg hb2 hj0 hz0 hz1 hz2
  go_wp2_with fail
  go_ret
  unfold DKids
  refine ⟨⟨some ⟨W2.heap.size, 0, none⟩, 2, [v, 0], rfl, ints_new W2 [v, 0] TIn, HN.out, fun i => ?_⟩, HB2.out.alloc HB2.out.size _⟩
  rw [HR.out]
  first | done | (rcases i with _ | _ | _ | i <;> rfl)
set_option maxRecDepth 100000 in
set_option maxHeartbeats 8000000 in
theorem dkv_42 (t : Tm) (A : Option Addr) (ca : Nat) (B : Option Addr) (cb : Nat) (K : Option Addr) (ck : Nat) (v : Int) (b : Bool) (w : World) (hwf : WfT t) (hg : goodT b t = true) (hk : t.kind = 42) :
    Calls Tryz.prog 152 #[tmVal t A ca B cb K ck, .int .i64 v] w fun e w' => DKids t v w e w' := by
  obtain ⟨W1, hW1⟩ : ∃ W1, W1 = w.alloc (.cells (tmCells t A ca B cb K ck) TTm) := ⟨_, rfl⟩
  have hb1 : Below w.heap.size w W1 := by rw [hW1]; exact (Below.refl _ _).alloc (Nat.le_refl _) _
  have hx1 : W1.heap[w.heap.size]? = some (.cells (tmCells t A ca B cb K ck) TTm (0, 0)) := by rw [hW1]; exact heap_alloc_new w _
  have HW1 := Lib.hid hW1
  have HB1 := Lib.hid hb1
  obtain ⟨n, hn⟩ : ∃ n, n = t.kids.length := ⟨_, rfl⟩
  have hn104 : n * 104 ≤ 140737488351232 := by rw [hn]; exact hwf.node.kids104
  have HX : Hid (∀ W, Below W1.heap.size W1 W → W.cell? ⟨w.heap.size, 0, none⟩ = some (.int .i64 t.kind) ∧ W.cell? ⟨w.heap.size, 5, none⟩ = some (.slice K n ck) ∧ w.heap.size < W.heap.size) := Lib.hid fun W h => by
    have hh := (h.block _ (heap_lt hx1)).trans hx1
    rw [hn]
    exact ⟨cell_at hh rfl, cell_at hh rfl, heap_lt hh⟩
  obtain ⟨k0, k5, kl⟩ := HX.out W1 (Below.refl _ _)
  obtain ⟨j0, hj0, hz0, hz1, hz2⟩ := info_parts info_in
  have HN : Hid (t.kids.length ≤ 1) := Lib.hid (by rw [patk_len hg 42 1 hk (by decide) (by decide) (by decide) (by decide)]; exact Nat.le_refl _)
  have HR : Hid (valT t v = [v]) := Lib.hid (by unfold valT; rw [if_neg (by omega)]; rw [if_neg (by omega)]; rw [if_neg (by omega)]; rw [if_neg (by omega)]; rw [if_neg (by omega)]; rw [if_pos (by omega)])
  have kk25 : (t.kind == 25) = false := by rw [hk]; rfl
  have kk26 : (t.kind == 26) = false := by rw [hk]; rfl
  have kk27 : (t.kind == 27) = false := by rw [hk]; rfl
  have kk28 : (t.kind == 28) = false := by rw [hk]; rfl
  have kk29 : (t.kind == 29) = false := by rw [hk]; rfl
  have kk46 : (t.kind == 46) = false := by rw [hk]; rfl
  have kk30 : (t.kind == 30) = false := by rw [hk]; rfl
  have kk31 : (t.kind == 31) = false := by rw [hk]; rfl
  have kk32 : (t.kind == 32) = false := by rw [hk]; rfl
  have kk33 : (t.kind == 33) = false := by rw [hk]; rfl
  have kk36 : (t.kind == 36) = false := by rw [hk]; rfl
  have kk34 : (t.kind == 34) = false := by rw [hk]; rfl
  have kk35 : (t.kind == 35) = false := by rw [hk]; rfl
  have kk37 : (t.kind == 37) = false := by rw [hk]; rfl
  have kk38 : (t.kind == 38) = false := by rw [hk]; rfl
  have kk41 : (t.kind == 41) = false := by rw [hk]; rfl
  have kk39 : (t.kind == 39) = false := by rw [hk]; rfl
  have kk40 : (t.kind == 40) = false := by rw [hk]; rfl
  have kk42 : (t.kind == 42) = true := by rw [hk]; rfl
  clear hwf hb1 hx1 hW1 hn hk
  go_enter Tryz.func152, Tryz.ntmps152
  go_upto_region 1 with fail
  rw [← HW1.out]
  go_wp2_with (at_make; refine wpList_make_full _ rfl _ _ 24 rfl W1.heap.size TIn j0 (.int .i64 0) 1 Tryz.underlying24 hj0 hz0 hz1 .i64 .i64 (n : Int) (n : Int) n rfl rfl rfl rfl (by rw [hz2]; omega) (by unfold maxLen; omega) (Nat.le_refl _) ?_)
  intro W2 hown hg
  have hb2 : Below W1.heap.size W1 W2 := ⟨hg.os, hg.tape, hg.output, hg.size, fun k hk => hg.block k hk (by simp)⟩
  have HR2 := Lib.hid (zero_row hown)
  have HB2 := Lib.hid (HB1.out.then_ hb2)
  obtain ⟨k0, k5, kl⟩ := HX.out W2 hb2
  clear hown hg hb2 hj0 hz0 hz1 hz2
  go_wp2_with fail
  go_ret
  unfold DKids
  refine ⟨⟨some ⟨W2.heap.size, 0, none⟩, 1, [v], rfl, ints_new W2 [v] TIn, HN.out, fun i => ?_⟩, HB2.out.alloc HB2.out.size _⟩
  rw [HR.out]
  first | done | (rcases i with _ | _ | _ | i <;> rfl)
set_option maxRecDepth 100000 in
set_option maxHeartbeats 8000000 in
theorem dkv_35 (t : Tm) (A : Option Addr) (ca : Nat) (B : Option Addr) (cb : Nat) (K : Option Addr) (ck : Nat) (v : Int) (b : Bool) (w : World) (hwf : WfT t) (hg : goodT b t = true) (hk : t.kind = 35) :
    Calls Tryz.prog 152 #[tmVal t A ca B cb K ck, .int .i64 v] w fun e w' => DKids t v w e w' := by
  obtain ⟨W1, hW1⟩ : ∃ W1, W1 = w.alloc (.cells (tmCells t A ca B cb K ck) TTm) := ⟨_, rfl⟩
  have hb1 : Below w.heap.size w W1 := by rw [hW1]; exact (Below.refl _ _).alloc (Nat.le_refl _) _
  have hx1 : W1.heap[w.heap.size]? = some (.cells (tmCells t A ca B cb K ck) TTm (0, 0)) := by rw [hW1]; exact heap_alloc_new w _
  have HW1 := Lib.hid hW1
  have HB1 := Lib.hid hb1
  obtain ⟨n, hn⟩ : ∃ n, n = t.kids.length := ⟨_, rfl⟩
  have hn104 : n * 104 ≤ 140737488351232 := by rw [hn]; exact hwf.node.kids104
  have HX : Hid (∀ W, Below W1.heap.size W1 W → W.cell? ⟨w.heap.size, 0, none⟩ = some (.int .i64 t.kind) ∧ W.cell? ⟨w.heap.size, 5, none⟩ = some (.slice K n ck) ∧ w.heap.size < W.heap.size) := Lib.hid fun W h => by
    have hh := (h.block _ (heap_lt hx1)).trans hx1
    rw [hn]
    exact ⟨cell_at hh rfl, cell_at hh rfl, heap_lt hh⟩
  obtain ⟨k0, k5, kl⟩ := HX.out W1 (Below.refl _ _)
  obtain ⟨j0, hj0, hz0, hz1, hz2⟩ := info_parts info_in
  have HN : Hid (t.kids.length ≤ 2) := Lib.hid (by rw [patk_len hg 35 2 hk (by decide) (by decide) (by decide) (by decide)]; exact Nat.le_refl _)
  have HR : Hid (valT t v = [v, v]) := Lib.hid (by unfold valT; rw [if_neg (by omega)]; rw [if_neg (by omega)]; rw [if_neg (by omega)]; rw [if_neg (by omega)]; rw [if_neg (by omega)]; rw [if_neg (by omega)]; rw [if_neg (by omega)]; rw [if_pos (by omega)])
  have kk25 : (t.kind == 25) = false := by rw [hk]; rfl
  have kk26 : (t.kind == 26) = false := by rw [hk]; rfl
  have kk27 : (t.kind == 27) = false := by rw [hk]; rfl
  have kk28 : (t.kind == 28) = false := by rw [hk]; rfl
  have kk29 : (t.kind == 29) = false := by rw [hk]; rfl
  have kk46 : (t.kind == 46) = false := by rw [hk]; rfl
  have kk30 : (t.kind == 30) = false := by rw [hk]; rfl
  have kk31 : (t.kind == 31) = false := by rw [hk]; rfl
  have kk32 : (t.kind == 32) = false := by rw [hk]; rfl
  have kk33 : (t.kind == 33) = false := by rw [hk]; rfl
  have kk36 : (t.kind == 36) = false := by rw [hk]; rfl
  have kk34 : (t.kind == 34) = false := by rw [hk]; rfl
  have kk35 : (t.kind == 35) = true := by rw [hk]; rfl
  clear hwf hb1 hx1 hW1 hn hk
  go_enter Tryz.func152, Tryz.ntmps152
  go_upto_region 1 with fail
  rw [← HW1.out]
  go_wp2_with (at_make; refine wpList_make_full _ rfl _ _ 24 rfl W1.heap.size TIn j0 (.int .i64 0) 1 Tryz.underlying24 hj0 hz0 hz1 .i64 .i64 (n : Int) (n : Int) n rfl rfl rfl rfl (by rw [hz2]; omega) (by unfold maxLen; omega) (Nat.le_refl _) ?_)
  intro W2 hown hg
  have hb2 : Below W1.heap.size W1 W2 := ⟨hg.os, hg.tape, hg.output, hg.size, fun k hk => hg.block k hk (by simp)⟩
  have HR2 := Lib.hid (zero_row hown)
  have HB2 := Lib.hid (HB1.out.then_ hb2)
  obtain ⟨k0, k5, kl⟩ := HX.out W2 hb2
  clear hown hg hb2 hj0 hz0 hz1 hz2
  go_wp2_with fail
  go_ret
  unfold DKids
  refine ⟨⟨some ⟨W2.heap.size, 0, none⟩, 2, [v, v], rfl, ints_new W2 [v, v] TIn, HN.out, fun i => ?_⟩, HB2.out.alloc HB2.out.size _⟩
  rw [HR.out]
  first | done | (rcases i with _ | _ | _ | i <;> rfl)
set_option maxRecDepth 100000 in
set_option maxHeartbeats 8000000 in
theorem dkv_44 (t : Tm) (A : Option Addr) (ca : Nat) (B : Option Addr) (cb : Nat) (K : Option Addr) (ck : Nat) (v : Int) (b : Bool) (w : World) (hwf : WfT t) (hg : goodT b t = true) (hk : t.kind = 44) :
    Calls Tryz.prog 152 #[tmVal t A ca B cb K ck, .int .i64 v] w fun e w' => DKids t v w e w' := by
  obtain ⟨W1, hW1⟩ : ∃ W1, W1 = w.alloc (.cells (tmCells t A ca B cb K ck) TTm) := ⟨_, rfl⟩
  have hb1 : Below w.heap.size w W1 := by rw [hW1]; exact (Below.refl _ _).alloc (Nat.le_refl _) _
  have hx1 : W1.heap[w.heap.size]? = some (.cells (tmCells t A ca B cb K ck) TTm (0, 0)) := by rw [hW1]; exact heap_alloc_new w _
  have HW1 := Lib.hid hW1
  have HB1 := Lib.hid hb1
  obtain ⟨n, hn⟩ : ∃ n, n = t.kids.length := ⟨_, rfl⟩
  have hn104 : n * 104 ≤ 140737488351232 := by rw [hn]; exact hwf.node.kids104
  have HX : Hid (∀ W, Below W1.heap.size W1 W → W.cell? ⟨w.heap.size, 0, none⟩ = some (.int .i64 t.kind) ∧ W.cell? ⟨w.heap.size, 5, none⟩ = some (.slice K n ck) ∧ w.heap.size < W.heap.size) := Lib.hid fun W h => by
    have hh := (h.block _ (heap_lt hx1)).trans hx1
    rw [hn]
    exact ⟨cell_at hh rfl, cell_at hh rfl, heap_lt hh⟩
  obtain ⟨k0, k5, kl⟩ := HX.out W1 (Below.refl _ _)
  obtain ⟨j0, hj0, hz0, hz1, hz2⟩ := info_parts info_in
  have HN : Hid (t.kids.length ≤ 2) := Lib.hid (by rw [patk_len hg 44 2 hk (by decide) (by decide) (by decide) (by decide)]; exact Nat.le_refl _)
  have HR : Hid (valT t v = [2, 1]) := Lib.hid (by unfold valT; rw [if_neg (by omega)]; rw [if_neg (by omega)]; rw [if_neg (by omega)]; rw [if_neg (by omega)]; rw [if_neg (by omega)]; rw [if_neg (by omega)]; rw [if_neg (by omega)]; rw [if_neg (by omega)]; rw [if_neg (by omega)]; rw [if_neg (by omega)]; rw [if_neg (by omega)]; rw [if_neg (by omega)]; rw [if_neg (by omega)]; rw [if_neg (by omega)]; rw [if_pos (by omega)])
  have kk25 : (t.kind == 25) = false := by rw [hk]; rfl
  have kk26 : (t.kind == 26) = false := by rw [hk]; rfl
  have kk27 : (t.kind == 27) = false := by rw [hk]; rfl
  have kk28 : (t.kind == 28) = false := by rw [hk]; rfl
  have kk29 : (t.kind == 29) = false := by rw [hk]; rfl
  have kk46 : (t.kind == 46) = false := by rw [hk]; rfl
  have kk30 : (t.kind == 30) = false := by rw [hk]; rfl
  have kk31 : (t.kind == 31) = false := by rw [hk]; rfl
  have kk32 : (t.kind == 32) = false := by rw [hk]; rfl
  have kk33 : (t.kind == 33) = false := by rw [hk]; rfl
  have kk36 : (t.kind == 36) = false := by rw [hk]; rfl
  have kk34 : (t.kind == 34) = false := by rw [hk]; rfl
  have kk35 : (t.kind == 35) = false := by rw [hk]; rfl
  have kk37 : (t.kind == 37) = false := by rw [hk]; rfl
  have kk38 : (t.kind == 38) = false := by rw [hk]; rfl
  have kk41 : (t.kind == 41) = false := by rw [hk]; rfl
  have kk39 : (t.kind == 39) = false := by rw [hk]; rfl
  have kk40 : (t.kind == 40) = false := by rw [hk]; rfl
  have kk42 : (t.kind == 42) = false := by rw [hk]; rfl
  have kk43 : (t.kind == 43) = false := by rw [hk]; rfl
  have kk44 : (t.kind == 44) = true := by rw [hk]; rfl
  clear hwf hb1 hx1 hW1 hn hk
  go_enter Tryz.func152, Tryz.ntmps152
  go_upto_region 1 with fail
  rw [← HW1.out]
  go_wp2_with (at_make; refine wpList_make_full _ rfl _ _ 24 rfl W1.heap.size TIn j0 (.int .i64 0) 1 Tryz.underlying24 hj0 hz0 hz1 .i64 .i64 (n : Int) (n : Int) n rfl rfl rfl rfl (by rw [hz2]; omega) (by unfold maxLen; omega) (Nat.le_refl _) ?_)
  intro W2 hown hg
  have hb2 : Below W1.heap.size W1 W2 := ⟨hg.os, hg.tape, hg.output, hg.size, fun k hk => hg.block k hk (by simp)⟩
  have HR2 := Lib.hid (zero_row hown)
  have HB2 := Lib.hid (HB1.out.then_ hb2)
  obtain ⟨k0, k5, kl⟩ := HX.out W2 hb2
  clear hown hg hb2 hj0 hz0 hz1 hz2
  go_wp2_with fail
  go_ret
  unfold DKids
  refine ⟨⟨some ⟨W2.heap.size, 0, none⟩, 2, [2, 1], rfl, ints_new W2 [2, 1] TIn, HN.out, fun i => ?_⟩, HB2.out.alloc HB2.out.size _⟩
  rw [HR.out]
  first | done | (rcases i with _ | _ | _ | i <;> rfl)
set_option maxRecDepth 100000 in
set_option maxHeartbeats 8000000 in
theorem dkv_45 (t : Tm) (A : Option Addr) (ca : Nat) (B : Option Addr) (cb : Nat) (K : Option Addr) (ck : Nat) (v : Int) (b : Bool) (w : World) (hwf : WfT t) (hg : goodT b t = true) (hk : t.kind = 45) :
    Calls Tryz.prog 152 #[tmVal t A ca B cb K ck, .int .i64 v] w fun e w' => DKids t v w e w' := by
  obtain ⟨W1, hW1⟩ : ∃ W1, W1 = w.alloc (.cells (tmCells t A ca B cb K ck) TTm) := ⟨_, rfl⟩
  have hb1 : Below w.heap.size w W1 := by rw [hW1]; exact (Below.refl _ _).alloc (Nat.le_refl _) _
  have hx1 : W1.heap[w.heap.size]? = some (.cells (tmCells t A ca B cb K ck) TTm (0, 0)) := by rw [hW1]; exact heap_alloc_new w _
  have HW1 := Lib.hid hW1
  have HB1 := Lib.hid hb1
  obtain ⟨n, hn⟩ : ∃ n, n = t.kids.length := ⟨_, rfl⟩
  have hn104 : n * 104 ≤ 140737488351232 := by rw [hn]; exact hwf.node.kids104
  have HX : Hid (∀ W, Below W1.heap.size W1 W → W.cell? ⟨w.heap.size, 0, none⟩ = some (.int .i64 t.kind) ∧ W.cell? ⟨w.heap.size, 5, none⟩ = some (.slice K n ck) ∧ w.heap.size < W.heap.size) := Lib.hid fun W h => by
    have hh := (h.block _ (heap_lt hx1)).trans hx1
    rw [hn]
    exact ⟨cell_at hh rfl, cell_at hh rfl, heap_lt hh⟩
  obtain ⟨k0, k5, kl⟩ := HX.out W1 (Below.refl _ _)
  obtain ⟨j0, hj0, hz0, hz1, hz2⟩ := info_parts info_in
  have HN : Hid (t.kids.length ≤ 3) := Lib.hid (by rw [patk_len hg 45 3 hk (by decide) (by decide) (by decide) (by decide)]; exact Nat.le_refl _)
  have HR : Hid (valT t v = [v, 2, v]) := Lib.hid (by unfold valT; rw [if_neg (by omega)]; rw [if_neg (by omega)]; rw [if_neg (by omega)]; rw [if_neg (by omega)]; rw [if_neg (by omega)]; rw [if_neg (by omega)]; rw [if_neg (by omega)]; rw [if_neg (by omega)]; rw [if_neg (by omega)]; rw [if_neg (by omega)]; rw [if_neg (by omega)]; rw [if_neg (by omega)]; rw [if_neg (by omega)]; rw [if_neg (by omega)]; rw [if_neg (by omega)]; rw [if_pos (by omega)])
  have kk25 : (t.kind == 25) = false := by rw [hk]; rfl
  have kk26 : (t.kind == 26) = false := by rw [hk]; rfl
  have kk27 : (t.kind == 27) = false := by rw [hk]; rfl
  have kk28 : (t.kind == 28) = false := by rw [hk]; rfl
  have kk29 : (t.kind == 29) = false := by rw [hk]; rfl
  have kk46 : (t.kind == 46) = false := by rw [hk]; rfl
  have kk30 : (t.kind == 30) = false := by rw [hk]; rfl
  have kk31 : (t.kind == 31) = false := by rw [hk]; rfl
  have kk32 : (t.kind == 32) = false := by rw [hk]; rfl
  have kk33 : (t.kind == 33) = false := by rw [hk]; rfl
  have kk36 : (t.kind == 36) = false := by rw [hk]; rfl
  have kk34 : (t.kind == 34) = false := by rw [hk]; rfl
  have kk35 : (t.kind == 35) = false := by rw [hk]; rfl
  have kk37 : (t.kind == 37) = false := by rw [hk]; rfl
  have kk38 : (t.kind == 38) = false := by rw [hk]; rfl
  have kk41 : (t.kind == 41) = false := by rw [hk]; rfl
  have kk39 : (t.kind == 39) = false := by rw [hk]; rfl
  have kk40 : (t.kind == 40) = false := by rw [hk]; rfl
  have kk42 : (t.kind == 42) = false := by rw [hk]; rfl
  have kk43 : (t.kind == 43) = false := by rw [hk]; rfl
  have kk44 : (t.kind == 44) = false := by rw [hk]; rfl
  have kk45 : (t.kind == 45) = true := by rw [hk]; rfl
  clear hwf hb1 hx1 hW1 hn hk
  go_enter Tryz.func152, Tryz.ntmps152
  go_upto_region 1 with fail
  rw [← HW1.out]
  go_wp2_with (at_make; refine wpList_make_full _ rfl _ _ 24 rfl W1.heap.size TIn j0 (.int .i64 0) 1 Tryz.underlying24 hj0 hz0 hz1 .i64 .i64 (n : Int) (n : Int) n rfl rfl rfl rfl (by rw [hz2]; omega) (by unfold maxLen; omega) (Nat.le_refl _) ?_)
  intro W2 hown hg
  have hb2 : Below W1.heap.size W1 W2 := ⟨hg.os, hg.tape, hg.output, hg.size, fun k hk => hg.block k hk (by simp)⟩
  have HR2 := Lib.hid (zero_row hown)
  have HB2 := Lib.hid (HB1.out.then_ hb2)
  obtain ⟨k0, k5, kl⟩ := HX.out W2 hb2
  clear hown hg hb2 hj0 hz0 hz1 hz2
  go_wp2_with fail
  go_ret
  unfold DKids
  refine ⟨⟨some ⟨W2.heap.size, 0, none⟩, 3, [v, 2, v], rfl, ints_new W2 [v, 2, v] TIn, HN.out, fun i => ?_⟩, HB2.out.alloc HB2.out.size _⟩
  rw [HR.out]
  first | done | (rcases i with _ | _ | _ | i <;> rfl)
set_option maxRecDepth 100000 in
set_option maxHeartbeats 8000000 in
theorem dkv_26 (t : Tm) (A : Option Addr) (ca : Nat) (B : Option Addr) (cb : Nat) (K : Option Addr) (ck : Nat) (v : Int) (b : Bool) (w : World) (hwf : WfT t) (hg : goodT b t = true) (hv : v = 1 ∨ v = 2) (hk : t.kind = 26) :
    Calls Tryz.prog 152 #[tmVal t A ca B cb K ck, .int .i64 v] w fun e w' => DKids t v w e w' := by
  obtain ⟨W1, hW1⟩ : ∃ W1, W1 = w.alloc (.cells (tmCells t A ca B cb K ck) TTm) := ⟨_, rfl⟩
  have hb1 : Below w.heap.size w W1 := by rw [hW1]; exact (Below.refl _ _).alloc (Nat.le_refl _) _
  have hx1 : W1.heap[w.heap.size]? = some (.cells (tmCells t A ca B cb K ck) TTm (0, 0)) := by rw [hW1]; exact heap_alloc_new w _
  have HW1 := Lib.hid hW1
  have HB1 := Lib.hid hb1
  obtain ⟨n, hn⟩ : ∃ n, n = t.kids.length := ⟨_, rfl⟩
  have hn104 : n * 104 ≤ 140737488351232 := by rw [hn]; exact hwf.node.kids104
  have HX : Hid (∀ W, Below W1.heap.size W1 W → W.cell? ⟨w.heap.size, 0, none⟩ = some (.int .i64 t.kind) ∧ W.cell? ⟨w.heap.size, 5, none⟩ = some (.slice K n ck) ∧ w.heap.size < W.heap.size) := Lib.hid fun W h => by
    have hh := (h.block _ (heap_lt hx1)).trans hx1
    rw [hn]
    exact ⟨cell_at hh rfl, cell_at hh rfl, heap_lt hh⟩
  obtain ⟨k0, k5, kl⟩ := HX.out W1 (Below.refl _ _)
  obtain ⟨j0, hj0, hz0, hz1, hz2⟩ := info_parts info_in
  have HN : Hid (t.kids.length ≤ 1) := Lib.hid (by rw [patk_len hg 26 1 hk (by decide) (by decide) (by decide) (by decide)]; exact Nat.le_refl _)
  have kk25 : (t.kind == 25) = false := by rw [hk]; rfl
  have kk26 : (t.kind == 26) = true := by rw [hk]; rfl
  rcases hv with rfl | rfl
  · have HR : Hid (valT t 1 = [1]) := Lib.hid (by unfold valT; rw [if_neg (by omega)]; rw [if_pos (by omega)]; rfl)
    clear hwf hb1 hx1 hW1 hn hk
    go_enter Tryz.func152, Tryz.ntmps152
    go_upto_region 1 with fail
    rw [← HW1.out]
    go_wp2_with (at_make; refine wpList_make_full _ rfl _ _ 24 rfl W1.heap.size TIn j0 (.int .i64 0) 1 Tryz.underlying24 hj0 hz0 hz1 .i64 .i64 (n : Int) (n : Int) n rfl rfl rfl rfl (by rw [hz2]; omega) (by unfold maxLen; omega) (Nat.le_refl _) ?_)
    intro W2 hown hg
    have hb2 : Below W1.heap.size W1 W2 := ⟨hg.os, hg.tape, hg.output, hg.size, fun k hk => hg.block k hk (by simp)⟩
    have HR2 := Lib.hid (zero_row hown)
    have HB2 := Lib.hid (HB1.out.then_ hb2)
    obtain ⟨k0, k5, kl⟩ := HX.out W2 hb2
    clear hown hg hb2 hj0 hz0 hz1 hz2
    go_wp2_with fail
    go_ret
    unfold DKids
    refine ⟨⟨some ⟨W2.heap.size, 0, none⟩, 1, [1], rfl, ints_new W2 [1] TIn, HN.out, fun i => ?_⟩, HB2.out.alloc HB2.out.size _⟩
    rw [HR.out]
    first | done | (rcases i with _ | _ | _ | i <;> rfl)
  · have HR : Hid (valT t 2 = []) := Lib.hid (by unfold valT; rw [if_neg (by omega)]; rw [if_pos (by omega)]; rfl)
    clear hwf hb1 hx1 hW1 hn hk
    go_enter Tryz.func152, Tryz.ntmps152
    go_upto_region 1 with fail
    rw [← HW1.out]
    go_wp2_with (at_make; refine wpList_make_full _ rfl _ _ 24 rfl W1.heap.size TIn j0 (.int .i64 0) 1 Tryz.underlying24 hj0 hz0 hz1 .i64 .i64 (n : Int) (n : Int) n rfl rfl rfl rfl (by rw [hz2]; omega) (by unfold maxLen; omega) (Nat.le_refl _) ?_)
    intro W2 hown hg
    have hb2 : Below W1.heap.size W1 W2 := ⟨hg.os, hg.tape, hg.output, hg.size, fun k hk => hg.block k hk (by simp)⟩
    have HR2 := Lib.hid (zero_row hown)
    have HB2 := Lib.hid (HB1.out.then_ hb2)
    obtain ⟨k0, k5, kl⟩ := HX.out W2 hb2
    clear hown hg hb2 hj0 hz0 hz1 hz2
    go_wp2_with fail
    go_ret
    unfold DKids
    refine ⟨⟨some ⟨W2.heap.size, 0, none⟩, 1, [0], rfl, ints_new W2 [0] TIn, HN.out, fun i => ?_⟩, HB2.out.alloc HB2.out.size _⟩
    rw [HR.out]
    first | done | (rcases i with _ | _ | _ | i <;> rfl)
set_option maxRecDepth 100000 in
set_option maxHeartbeats 8000000 in
theorem dkv_38 (t : Tm) (A : Option Addr) (ca : Nat) (B : Option Addr) (cb : Nat) (K : Option Addr) (ck : Nat) (v : Int) (b : Bool) (w : World) (hwf : WfT t) (hg : goodT b t = true) (hv : v = 1 ∨ v = 2) (hk : t.kind = 38) :
    Calls Tryz.prog 152 #[tmVal t A ca B cb K ck, .int .i64 v] w fun e w' => DKids t v w e w' := by
  obtain ⟨W1, hW1⟩ : ∃ W1, W1 = w.alloc (.cells (tmCells t A ca B cb K ck) TTm) := ⟨_, rfl⟩
  have hb1 : Below w.heap.size w W1 := by rw [hW1]; exact (Below.refl _ _).alloc (Nat.le_refl _) _
  have hx1 : W1.heap[w.heap.size]? = some (.cells (tmCells t A ca B cb K ck) TTm (0, 0)) := by rw [hW1]; exact heap_alloc_new w _
  have HW1 := Lib.hid hW1
  have HB1 := Lib.hid hb1
  obtain ⟨n, hn⟩ : ∃ n, n = t.kids.length := ⟨_, rfl⟩
  have hn104 : n * 104 ≤ 140737488351232 := by rw [hn]; exact hwf.node.kids104
  have HX : Hid (∀ W, Below W1.heap.size W1 W → W.cell? ⟨w.heap.size, 0, none⟩ = some (.int .i64 t.kind) ∧ W.cell? ⟨w.heap.size, 5, none⟩ = some (.slice K n ck) ∧ w.heap.size < W.heap.size) := Lib.hid fun W h => by
    have hh := (h.block _ (heap_lt hx1)).trans hx1
    rw [hn]
    exact ⟨cell_at hh rfl, cell_at hh rfl, heap_lt hh⟩
  obtain ⟨k0, k5, kl⟩ := HX.out W1 (Below.refl _ _)
  obtain ⟨j0, hj0, hz0, hz1, hz2⟩ := info_parts info_in
  have HN : Hid (t.kids.length ≤ 2) := Lib.hid (by rw [patk_len hg 38 2 hk (by decide) (by decide) (by decide) (by decide)]; exact Nat.le_refl _)
  have kk25 : (t.kind == 25) = false := by rw [hk]; rfl
  have kk26 : (t.kind == 26) = false := by rw [hk]; rfl
  have kk27 : (t.kind == 27) = false := by rw [hk]; rfl
  have kk28 : (t.kind == 28) = false := by rw [hk]; rfl
  have kk29 : (t.kind == 29) = false := by rw [hk]; rfl
  have kk46 : (t.kind == 46) = false := by rw [hk]; rfl
  have kk30 : (t.kind == 30) = false := by rw [hk]; rfl
  have kk31 : (t.kind == 31) = false := by rw [hk]; rfl
  have kk32 : (t.kind == 32) = false := by rw [hk]; rfl
  have kk33 : (t.kind == 33) = false := by rw [hk]; rfl
  have kk36 : (t.kind == 36) = false := by rw [hk]; rfl
  have kk34 : (t.kind == 34) = false := by rw [hk]; rfl
  have kk35 : (t.kind == 35) = false := by rw [hk]; rfl
  have kk37 : (t.kind == 37) = false := by rw [hk]; rfl
  have kk38 : (t.kind == 38) = true := by rw [hk]; rfl
  rcases hv with rfl | rfl
  · have HR : Hid (valT t 1 = [0, 1]) := Lib.hid (by unfold valT; rw [if_neg (by omega)]; rw [if_neg (by omega)]; rw [if_neg (by omega)]; rw [if_neg (by omega)]; rw [if_neg (by omega)]; rw [if_neg (by omega)]; rw [if_neg (by omega)]; rw [if_neg (by omega)]; rw [if_neg (by omega)]; rw [if_pos (by omega)]; rfl)
    clear hwf hb1 hx1 hW1 hn hk
    go_enter Tryz.func152, Tryz.ntmps152
    go_upto_region 1 with fail
    rw [← HW1.out]
    go_wp2_with (at_make; refine wpList_make_full _ rfl _ _ 24 rfl W1.heap.size TIn j0 (.int .i64 0) 1 Tryz.underlying24 hj0 hz0 hz1 .i64 .i64 (n : Int) (n : Int) n rfl rfl rfl rfl (by rw [hz2]; omega) (by unfold maxLen; omega) (Nat.le_refl _) ?_)
    intro W2 hown hg
    have hb2 : Below W1.heap.size W1 W2 := ⟨hg.os, hg.tape, hg.output, hg.size, fun k hk => hg.block k hk (by simp)⟩
    have HR2 := Lib.hid (zero_row hown)
    have HB2 := Lib.hid (HB1.out.then_ hb2)
    obtain ⟨k0, k5, kl⟩ := HX.out W2 hb2
    clear hown hg hb2 hj0 hz0 hz1 hz2
    go_wp2_with fail
    go_ret
    unfold DKids
    refine ⟨⟨some ⟨W2.heap.size, 0, none⟩, 2, [0, 1], rfl, ints_new W2 [0, 1] TIn, HN.out, fun i => ?_⟩, HB2.out.alloc HB2.out.size _⟩
    rw [HR.out]
    first | done | (rcases i with _ | _ | _ | i <;> rfl)
  · have HR : Hid (valT t 2 = [2, 2]) := Lib.hid (by unfold valT; rw [if_neg (by omega)]; rw [if_neg (by omega)]; rw [if_neg (by omega)]; rw [if_neg (by omega)]; rw [if_neg (by omega)]; rw [if_neg (by omega)]; rw [if_neg (by omega)]; rw [if_neg (by omega)]; rw [if_neg (by omega)]; rw [if_pos (by omega)]; rfl)
    clear hwf hb1 hx1 hW1 hn hk
    go_enter Tryz.func152, Tryz.ntmps152
    go_upto_region 1 with fail
    rw [← HW1.out]
    go_wp2_with (at_make; refine wpList_make_full _ rfl _ _ 24 rfl W1.heap.size TIn j0 (.int .i64 0) 1 Tryz.underlying24 hj0 hz0 hz1 .i64 .i64 (n : Int) (n : Int) n rfl rfl rfl rfl (by rw [hz2]; omega) (by unfold maxLen; omega) (Nat.le_refl _) ?_)
    intro W2 hown hg
    have hb2 : Below W1.heap.size W1 W2 := ⟨hg.os, hg.tape, hg.output, hg.size, fun k hk => hg.block k hk (by simp)⟩
    have HR2 := Lib.hid (zero_row hown)
    have HB2 := Lib.hid (HB1.out.then_ hb2)
    obtain ⟨k0, k5, kl⟩ := HX.out W2 hb2
    clear hown hg hb2 hj0 hz0 hz1 hz2
    go_wp2_with fail
    go_ret
    unfold DKids
    refine ⟨⟨some ⟨W2.heap.size, 0, none⟩, 2, [2, 2], rfl, ints_new W2 [2, 2] TIn, HN.out, fun i => ?_⟩, HB2.out.alloc HB2.out.size _⟩
    rw [HR.out]
    first | done | (rcases i with _ | _ | _ | i <;> rfl)
set_option maxRecDepth 100000 in
set_option maxHeartbeats 8000000 in
theorem dkv_39 (t : Tm) (A : Option Addr) (ca : Nat) (B : Option Addr) (cb : Nat) (K : Option Addr) (ck : Nat) (v : Int) (b : Bool) (w : World) (hwf : WfT t) (hg : goodT b t = true) (hv : v = 1 ∨ v = 2) (hk : t.kind = 39) :
    Calls Tryz.prog 152 #[tmVal t A ca B cb K ck, .int .i64 v] w fun e w' => DKids t v w e w' := by
  obtain ⟨W1, hW1⟩ : ∃ W1, W1 = w.alloc (.cells (tmCells t A ca B cb K ck) TTm) := ⟨_, rfl⟩
  have hb1 : Below w.heap.size w W1 := by rw [hW1]; exact (Below.refl _ _).alloc (Nat.le_refl _) _
  have hx1 : W1.heap[w.heap.size]? = some (.cells (tmCells t A ca B cb K ck) TTm (0, 0)) := by rw [hW1]; exact heap_alloc_new w _
  have HW1 := Lib.hid hW1
  have HB1 := Lib.hid hb1
  obtain ⟨n, hn⟩ : ∃ n, n = t.kids.length := ⟨_, rfl⟩
  have hn104 : n * 104 ≤ 140737488351232 := by rw [hn]; exact hwf.node.kids104
  have HX : Hid (∀ W, Below W1.heap.size W1 W → W.cell? ⟨w.heap.size, 0, none⟩ = some (.int .i64 t.kind) ∧ W.cell? ⟨w.heap.size, 5, none⟩ = some (.slice K n ck) ∧ w.heap.size < W.heap.size) := Lib.hid fun W h => by
    have hh := (h.block _ (heap_lt hx1)).trans hx1
    rw [hn]
    exact ⟨cell_at hh rfl, cell_at hh rfl, heap_lt hh⟩
  obtain ⟨k0, k5, kl⟩ := HX.out W1 (Below.refl _ _)
  obtain ⟨j0, hj0, hz0, hz1, hz2⟩ := info_parts info_in
  have HN : Hid (t.kids.length ≤ 2) := Lib.hid (by rw [patk_len hg 39 2 hk (by decide) (by decide) (by decide) (by decide)]; exact Nat.le_refl _)
  have kk25 : (t.kind == 25) = false := by rw [hk]; rfl
  have kk26 : (t.kind == 26) = false := by rw [hk]; rfl
  have kk27 : (t.kind == 27) = false := by rw [hk]; rfl
  have kk28 : (t.kind == 28) = false := by rw [hk]; rfl
  have kk29 : (t.kind == 29) = false := by rw [hk]; rfl
  have kk46 : (t.kind == 46) = false := by rw [hk]; rfl
  have kk30 : (t.kind == 30) = false := by rw [hk]; rfl
  have kk31 : (t.kind == 31) = false := by rw [hk]; rfl
  have kk32 : (t.kind == 32) = false := by rw [hk]; rfl
  have kk33 : (t.kind == 33) = false := by rw [hk]; rfl
  have kk36 : (t.kind == 36) = false := by rw [hk]; rfl
  have kk34 : (t.kind == 34) = false := by rw [hk]; rfl
  have kk35 : (t.kind == 35) = false := by rw [hk]; rfl
  have kk37 : (t.kind == 37) = false := by rw [hk]; rfl
  have kk38 : (t.kind == 38) = false := by rw [hk]; rfl
  have kk41 : (t.kind == 41) = false := by rw [hk]; rfl
  have kk39 : (t.kind == 39) = true := by rw [hk]; rfl
  rcases hv with rfl | rfl
  · have HR : Hid (valT t 1 = [0, 2]) := Lib.hid (by unfold valT; rw [if_neg (by omega)]; rw [if_neg (by omega)]; rw [if_neg (by omega)]; rw [if_neg (by omega)]; rw [if_neg (by omega)]; rw [if_neg (by omega)]; rw [if_neg (by omega)]; rw [if_neg (by omega)]; rw [if_neg (by omega)]; rw [if_neg (by omega)]; rw [if_neg (by omega)]; rw [if_pos (by omega)]; rfl)
    clear hwf hb1 hx1 hW1 hn hk
    go_enter Tryz.func152, Tryz.ntmps152
    go_upto_region 1 with fail
    rw [← HW1.out]
    go_wp2_with (at_make; refine wpList_make_full _ rfl _ _ 24 rfl W1.heap.size TIn j0 (.int .i64 0) 1 Tryz.underlying24 hj0 hz0 hz1 .i64 .i64 (n : Int) (n : Int) n rfl rfl rfl rfl (by rw [hz2]; omega) (by unfold maxLen; omega) (Nat.le_refl _) ?_)
    intro W2 hown hg
    have hb2 : Below W1.heap.size W1 W2 := ⟨hg.os, hg.tape, hg.output, hg.size, fun k hk => hg.block k hk (by simp)⟩
    have HR2 := Lib.hid (zero_row hown)
    have HB2 := Lib.hid (HB1.out.then_ hb2)
    obtain ⟨k0, k5, kl⟩ := HX.out W2 hb2
    clear hown hg hb2 hj0 hz0 hz1 hz2
    go_wp2_with fail
    go_ret
    unfold DKids
    refine ⟨⟨some ⟨W2.heap.size, 0, none⟩, 2, [0, 2], rfl, ints_new W2 [0, 2] TIn, HN.out, fun i => ?_⟩, HB2.out.alloc HB2.out.size _⟩
    rw [HR.out]
    first | done | (rcases i with _ | _ | _ | i <;> rfl)
  · have HR : Hid (valT t 2 = []) := Lib.hid (by unfold valT; rw [if_neg (by omega)]; rw [if_neg (by omega)]; rw [if_neg (by omega)]; rw [if_neg (by omega)]; rw [if_neg (by omega)]; rw [if_neg (by omega)]; rw [if_neg (by omega)]; rw [if_neg (by omega)]; rw [if_neg (by omega)]; rw [if_neg (by omega)]; rw [if_neg (by omega)]; rw [if_pos (by omega)]; rfl)
    clear hwf hb1 hx1 hW1 hn hk
    go_enter Tryz.func152, Tryz.ntmps152
    go_upto_region 1 with fail
    rw [← HW1.out]
    go_wp2_with (at_make; refine wpList_make_full _ rfl _ _ 24 rfl W1.heap.size TIn j0 (.int .i64 0) 1 Tryz.underlying24 hj0 hz0 hz1 .i64 .i64 (n : Int) (n : Int) n rfl rfl rfl rfl (by rw [hz2]; omega) (by unfold maxLen; omega) (Nat.le_refl _) ?_)
    intro W2 hown hg
    have hb2 : Below W1.heap.size W1 W2 := ⟨hg.os, hg.tape, hg.output, hg.size, fun k hk => hg.block k hk (by simp)⟩
    have HR2 := Lib.hid (zero_row hown)
    have HB2 := Lib.hid (HB1.out.then_ hb2)
    obtain ⟨k0, k5, kl⟩ := HX.out W2 hb2
    clear hown hg hb2 hj0 hz0 hz1 hz2
    go_wp2_with fail
    go_ret
    unfold DKids
    refine ⟨⟨some ⟨W2.heap.size, 0, none⟩, 2, [0, 0], rfl, ints_new W2 [0, 0] TIn, HN.out, fun i => ?_⟩, HB2.out.alloc HB2.out.size _⟩
    rw [HR.out]
    first | done | (rcases i with _ | _ | _ | i <;> rfl)
set_option maxRecDepth 100000 in
set_option maxHeartbeats 8000000 in
theorem dkv_40 (t : Tm) (A : Option Addr) (ca : Nat) (B : Option Addr) (cb : Nat) (K : Option Addr) (ck : Nat) (v : Int) (b : Bool) (w : World) (hwf : WfT t) (hg : goodT b t = true) (hv : v = 1 ∨ v = 2) (hk : t.kind = 40) :
    Calls Tryz.prog 152 #[tmVal t A ca B cb K ck, .int .i64 v] w fun e w' => DKids t v w e w' := by
  obtain ⟨W1, hW1⟩ : ∃ W1, W1 = w.alloc (.cells (tmCells t A ca B cb K ck) TTm) := ⟨_, rfl⟩
  have hb1 : Below w.heap.size w W1 := by rw [hW1]; exact (Below.refl _ _).alloc (Nat.le_refl _) _
  have hx1 : W1.heap[w.heap.size]? = some (.cells (tmCells t A ca B cb K ck) TTm (0, 0)) := by rw [hW1]; exact heap_alloc_new w _
  have HW1 := Lib.hid hW1
  have HB1 := Lib.hid hb1
  obtain ⟨n, hn⟩ : ∃ n, n = t.kids.length := ⟨_, rfl⟩
  have hn104 : n * 104 ≤ 140737488351232 := by rw [hn]; exact hwf.node.kids104
  have HX : Hid (∀ W, Below W1.heap.size W1 W → W.cell? ⟨w.heap.size, 0, none⟩ = some (.int .i64 t.kind) ∧ W.cell? ⟨w.heap.size, 5, none⟩ = some (.slice K n ck) ∧ w.heap.size < W.heap.size) := Lib.hid fun W h => by
    have hh := (h.block _ (heap_lt hx1)).trans hx1
    rw [hn]
    exact ⟨cell_at hh rfl, cell_at hh rfl, heap_lt hh⟩
  obtain ⟨k0, k5, kl⟩ := HX.out W1 (Below.refl _ _)
  obtain ⟨j0, hj0, hz0, hz1, hz2⟩ := info_parts info_in
  have HN : Hid (t.kids.length ≤ 2) := Lib.hid (by rw [patk_len hg 40 2 hk (by decide) (by decide) (by decide) (by decide)]; exact Nat.le_refl _)
  have kk25 : (t.kind == 25) = false := by rw [hk]; rfl
  have kk26 : (t.kind == 26) = false := by rw [hk]; rfl
  have kk27 : (t.kind == 27) = false := by rw [hk]; rfl
  have kk28 : (t.kind == 28) = false := by rw [hk]; rfl
  have kk29 : (t.kind == 29) = false := by rw [hk]; rfl
  have kk46 : (t.kind == 46) = false := by rw [hk]; rfl
  have kk30 : (t.kind == 30) = false := by rw [hk]; rfl
  have kk31 : (t.kind == 31) = false := by rw [hk]; rfl
  have kk32 : (t.kind == 32) = false := by rw [hk]; rfl
  have kk33 : (t.kind == 33) = false := by rw [hk]; rfl
  have kk36 : (t.kind == 36) = false := by rw [hk]; rfl
  have kk34 : (t.kind == 34) = false := by rw [hk]; rfl
  have kk35 : (t.kind == 35) = false := by rw [hk]; rfl
  have kk37 : (t.kind == 37) = false := by rw [hk]; rfl
  have kk38 : (t.kind == 38) = false := by rw [hk]; rfl
  have kk41 : (t.kind == 41) = false := by rw [hk]; rfl
  have kk39 : (t.kind == 39) = false := by rw [hk]; rfl
  have kk40 : (t.kind == 40) = true := by rw [hk]; rfl
  rcases hv with rfl | rfl
  · have HR : Hid (valT t 1 = [2]) := Lib.hid (by unfold valT; rw [if_neg (by omega)]; rw [if_neg (by omega)]; rw [if_neg (by omega)]; rw [if_neg (by omega)]; rw [if_neg (by omega)]; rw [if_neg (by omega)]; rw [if_neg (by omega)]; rw [if_neg (by omega)]; rw [if_neg (by omega)]; rw [if_neg (by omega)]; rw [if_neg (by omega)]; rw [if_neg (by omega)]; rw [if_pos (by omega)]; rfl)
    clear hwf hb1 hx1 hW1 hn hk
    go_enter Tryz.func152, Tryz.ntmps152
    go_upto_region 1 with fail
    rw [← HW1.out]
    go_wp2_with (at_make; refine wpList_make_full _ rfl _ _ 24 rfl W1.heap.size TIn j0 (.int .i64 0) 1 Tryz.underlying24 hj0 hz0 hz1 .i64 .i64 (n : Int) (n : Int) n rfl rfl rfl rfl (by rw [hz2]; omega) (by unfold maxLen; omega) (Nat.le_refl _) ?_)
    intro W2 hown hg
    have hb2 : Below W1.heap.size W1 W2 := ⟨hg.os, hg.tape, hg.output, hg.size, fun k hk => hg.block k hk (by simp)⟩
    have HR2 := Lib.hid (zero_row hown)
    have HB2 := Lib.hid (HB1.out.then_ hb2)
    obtain ⟨k0, k5, kl⟩ := HX.out W2 hb2
    clear hown hg hb2 hj0 hz0 hz1 hz2
    go_wp2_with fail
    go_ret
    unfold DKids
    refine ⟨⟨some ⟨W2.heap.size, 0, none⟩, 2, [2, 0], rfl, ints_new W2 [2, 0] TIn, HN.out, fun i => ?_⟩, HB2.out.alloc HB2.out.size _⟩
    rw [HR.out]
    first | done | (rcases i with _ | _ | _ | i <;> rfl)
  · have HR : Hid (valT t 2 = []) := Lib.hid (by unfold valT; rw [if_neg (by omega)]; rw [if_neg (by omega)]; rw [if_neg (by omega)]; rw [if_neg (by omega)]; rw [if_neg (by omega)]; rw [if_neg (by omega)]; rw [if_neg (by omega)]; rw [if_neg (by omega)]; rw [if_neg (by omega)]; rw [if_neg (by omega)]; rw [if_neg (by omega)]; rw [if_neg (by omega)]; rw [if_pos (by omega)]; rfl)
    clear hwf hb1 hx1 hW1 hn hk
    go_enter Tryz.func152, Tryz.ntmps152
    go_upto_region 1 with fail
    rw [← HW1.out]
    go_wp2_with (at_make; refine wpList_make_full _ rfl _ _ 24 rfl W1.heap.size TIn j0 (.int .i64 0) 1 Tryz.underlying24 hj0 hz0 hz1 .i64 .i64 (n : Int) (n : Int) n rfl rfl rfl rfl (by rw [hz2]; omega) (by unfold maxLen; omega) (Nat.le_refl _) ?_)
    intro W2 hown hg
    have hb2 : Below W1.heap.size W1 W2 := ⟨hg.os, hg.tape, hg.output, hg.size, fun k hk => hg.block k hk (by simp)⟩
    have HR2 := Lib.hid (zero_row hown)
    have HB2 := Lib.hid (HB1.out.then_ hb2)
    obtain ⟨k0, k5, kl⟩ := HX.out W2 hb2
    clear hown hg hb2 hj0 hz0 hz1 hz2
    go_wp2_with fail
    go_ret
    unfold DKids
    refine ⟨⟨some ⟨W2.heap.size, 0, none⟩, 2, [0, 0], rfl, ints_new W2 [0, 0] TIn, HN.out, fun i => ?_⟩, HB2.out.alloc HB2.out.size _⟩
    rw [HR.out]
    first | done | (rcases i with _ | _ | _ | i <;> rfl)
set_option maxRecDepth 100000 in
set_option maxHeartbeats 8000000 in
theorem dkv_34 (t : Tm) (A : Option Addr) (ca : Nat) (B : Option Addr) (cb : Nat) (K : Option Addr) (ck : Nat) (v : Int) (b : Bool) (w : World) (hwf : WfT t) (hg : goodT b t = true) (hv : v = 1 ∨ v = 2) (hk : t.kind = 34) :
    Calls Tryz.prog 152 #[tmVal t A ca B cb K ck, .int .i64 v] w fun e w' => DKids t v w e w' := by
  obtain ⟨W1, hW1⟩ : ∃ W1, W1 = w.alloc (.cells (tmCells t A ca B cb K ck) TTm) := ⟨_, rfl⟩
  have hb1 : Below w.heap.size w W1 := by rw [hW1]; exact (Below.refl _ _).alloc (Nat.le_refl _) _
  have hx1 : W1.heap[w.heap.size]? = some (.cells (tmCells t A ca B cb K ck) TTm (0, 0)) := by rw [hW1]; exact heap_alloc_new w _
  have HW1 := Lib.hid hW1
  have HB1 := Lib.hid hb1
  obtain ⟨n, hn⟩ : ∃ n, n = t.kids.length := ⟨_, rfl⟩
  have hn104 : n * 104 ≤ 140737488351232 := by rw [hn]; exact hwf.node.kids104
  have HX : Hid (∀ W, Below W1.heap.size W1 W → W.cell? ⟨w.heap.size, 0, none⟩ = some (.int .i64 t.kind) ∧ W.cell? ⟨w.heap.size, 5, none⟩ = some (.slice K n ck) ∧ w.heap.size < W.heap.size) := Lib.hid fun W h => by
    have hh := (h.block _ (heap_lt hx1)).trans hx1
    rw [hn]
    exact ⟨cell_at hh rfl, cell_at hh rfl, heap_lt hh⟩
  obtain ⟨k0, k5, kl⟩ := HX.out W1 (Below.refl _ _)
  obtain ⟨j0, hj0, hz0, hz1, hz2⟩ := info_parts info_in
  have kk25 : (t.kind == 25) = false := by rw [hk]; rfl
  have kk26 : (t.kind == 26) = false := by rw [hk]; rfl
  have kk27 : (t.kind == 27) = false := by rw [hk]; rfl
  have kk28 : (t.kind == 28) = false := by rw [hk]; rfl
  have kk29 : (t.kind == 29) = false := by rw [hk]; rfl
  have kk46 : (t.kind == 46) = false := by rw [hk]; rfl
  have kk30 : (t.kind == 30) = false := by rw [hk]; rfl
  have kk31 : (t.kind == 31) = false := by rw [hk]; rfl
  have kk32 : (t.kind == 32) = false := by rw [hk]; rfl
  have kk33 : (t.kind == 33) = false := by rw [hk]; rfl
  have kk36 : (t.kind == 36) = false := by rw [hk]; rfl
  have kk34 : (t.kind == 34) = true := by rw [hk]; rfl
  rcases hv with rfl | rfl
  · have HR : Hid (valT t 1 = []) := Lib.hid (by unfold valT; rw [if_neg (by omega)]; rw [if_neg (by omega)]; rw [if_neg (by omega)]; rw [if_neg (by omega)]; rw [if_neg (by omega)]; rw [if_neg (by omega)]; rw [if_pos (by omega)]; rfl)
    have HN : Hid (t.kids.length = n) := Lib.hid hn.symm
    clear hwf hb1 hx1 hW1 hn hk
    go_enter Tryz.func152, Tryz.ntmps152
    go_upto_region 1 with fail
    rw [← HW1.out]
    go_wp2_with (at_make; refine wpList_make_full _ rfl _ _ 24 rfl W1.heap.size TIn j0 (.int .i64 0) 1 Tryz.underlying24 hj0 hz0 hz1 .i64 .i64 (n : Int) (n : Int) n rfl rfl rfl rfl (by rw [hz2]; omega) (by unfold maxLen; omega) (Nat.le_refl _) ?_)
    intro W2 hown hg
    have hb2 : Below W1.heap.size W1 W2 := ⟨hg.os, hg.tape, hg.output, hg.size, fun k hk => hg.block k hk (by simp)⟩
    have HR2 := Lib.hid (zero_row hown)
    have HB2 := Lib.hid (HB1.out.then_ hb2)
    obtain ⟨k0, k5, kl⟩ := HX.out W2 hb2
    clear hown hg hb2 hj0 hz0 hz1 hz2
    go_wp2_with fail
    go_ret
    unfold DKids
    refine ⟨⟨some ⟨W1.heap.size, 0, none⟩, n, List.replicate n 0, by rw [List.length_replicate]; rfl, row_ints HR2.out, by rw [List.length_replicate, HN.out]; exact Nat.le_refl _, fun i => ?_⟩, HB2.out⟩
    rw [HR.out, zero_getD]
    first | done | rfl
  · have HR : Hid (valT t 2 = [1, 2]) := Lib.hid (by unfold valT; rw [if_neg (by omega)]; rw [if_neg (by omega)]; rw [if_neg (by omega)]; rw [if_neg (by omega)]; rw [if_neg (by omega)]; rw [if_neg (by omega)]; rw [if_pos (by omega)]; rfl)
    have HN : Hid (t.kids.length ≤ 2) := Lib.hid (by rw [patk_len hg 34 2 hk (by decide) (by decide) (by decide) (by decide)]; exact Nat.le_refl _)
    clear hwf hb1 hx1 hW1 hn hk
    go_enter Tryz.func152, Tryz.ntmps152
    go_upto_region 1 with fail
    rw [← HW1.out]
    go_wp2_with (at_make; refine wpList_make_full _ rfl _ _ 24 rfl W1.heap.size TIn j0 (.int .i64 0) 1 Tryz.underlying24 hj0 hz0 hz1 .i64 .i64 (n : Int) (n : Int) n rfl rfl rfl rfl (by rw [hz2]; omega) (by unfold maxLen; omega) (Nat.le_refl _) ?_)
    intro W2 hown hg
    have hb2 : Below W1.heap.size W1 W2 := ⟨hg.os, hg.tape, hg.output, hg.size, fun k hk => hg.block k hk (by simp)⟩
    have HR2 := Lib.hid (zero_row hown)
    have HB2 := Lib.hid (HB1.out.then_ hb2)
    obtain ⟨k0, k5, kl⟩ := HX.out W2 hb2
    clear hown hg hb2 hj0 hz0 hz1 hz2
    go_wp2_with fail
    go_ret
    unfold DKids
    refine ⟨⟨some ⟨W2.heap.size, 0, none⟩, 2, [1, 2], rfl, ints_new W2 [1, 2] TIn, HN.out, fun i => ?_⟩, HB2.out.alloc HB2.out.size _⟩
    rw [HR.out]
    first | done | (rcases i with _ | _ | _ | i <;> rfl)
set_option maxRecDepth 100000 in
set_option maxHeartbeats 8000000 in
theorem dkv_no (t : Tm) (A : Option Addr) (ca : Nat) (B : Option Addr) (cb : Nat) (K : Option Addr) (ck : Nat) (v : Int) (w : World) (hwf : WfT t) (hk : ¬ t.kind = 25 ∧ ¬ t.kind = 26 ∧ ¬ t.kind = 27 ∧ ¬ t.kind = 28 ∧ ¬ t.kind = 29 ∧ ¬ t.kind = 46 ∧ ¬ t.kind = 30 ∧ ¬ t.kind = 31 ∧ ¬ t.kind = 32 ∧ ¬ t.kind = 33 ∧ ¬ t.kind = 36 ∧ ¬ t.kind = 34 ∧ ¬ t.kind = 35 ∧ ¬ t.kind = 37 ∧ ¬ t.kind = 38 ∧ ¬ t.kind = 41 ∧ ¬ t.kind = 39 ∧ ¬ t.kind = 40 ∧ ¬ t.kind = 42 ∧ ¬ t.kind = 43 ∧ ¬ t.kind = 44 ∧ ¬ t.kind = 45) :
    Calls Tryz.prog 152 #[tmVal t A ca B cb K ck, .int .i64 v] w fun e w' => DKids t v w e w' := by
  obtain ⟨W1, hW1⟩ : ∃ W1, W1 = w.alloc (.cells (tmCells t A ca B cb K ck) TTm) := ⟨_, rfl⟩
  have hb1 : Below w.heap.size w W1 := by rw [hW1]; exact (Below.refl _ _).alloc (Nat.le_refl _) _
  have hx1 : W1.heap[w.heap.size]? = some (.cells (tmCells t A ca B cb K ck) TTm (0, 0)) := by rw [hW1]; exact heap_alloc_new w _
  have HW1 := Lib.hid hW1
  have HB1 := Lib.hid hb1
  obtain ⟨n, hn⟩ : ∃ n, n = t.kids.length := ⟨_, rfl⟩
  have hn104 : n * 104 ≤ 140737488351232 := by rw [hn]; exact hwf.node.kids104
  have HX : Hid (∀ W, Below W1.heap.size W1 W → W.cell? ⟨w.heap.size, 0, none⟩ = some (.int .i64 t.kind) ∧ W.cell? ⟨w.heap.size, 5, none⟩ = some (.slice K n ck) ∧ w.heap.size < W.heap.size) := Lib.hid fun W h => by
    have hh := (h.block _ (heap_lt hx1)).trans hx1
    rw [hn]
    exact ⟨cell_at hh rfl, cell_at hh rfl, heap_lt hh⟩
  obtain ⟨k0, k5, kl⟩ := HX.out W1 (Below.refl _ _)
  obtain ⟨j0, hj0, hz0, hz1, hz2⟩ := info_parts info_in
  obtain ⟨g25, g26, g27, g28, g29, g46, g30, g31, g32, g33, g36, g34, g35, g37, g38, g41, g39, g40, g42, g43, g44, g45⟩ := hk
  have HR : Hid (valT t v = []) := Lib.hid (by unfold valT; rw [if_neg (by omega)]; rw [if_neg (by omega)]; rw [if_neg (by omega)]; rw [if_neg (by omega)]; rw [if_neg (by omega)]; rw [if_neg (by omega)]; rw [if_neg (by omega)]; rw [if_neg (by omega)]; rw [if_neg (by omega)]; rw [if_neg (by omega)]; rw [if_neg (by omega)]; rw [if_neg (by omega)]; rw [if_neg (by omega)]; rw [if_neg (by omega)]; rw [if_neg (by omega)]; rw [if_neg (by omega)])
  have kk25 : (t.kind == 25) = false := beq_no g25
  have kk26 : (t.kind == 26) = false := beq_no g26
  have kk27 : (t.kind == 27) = false := beq_no g27
  have kk28 : (t.kind == 28) = false := beq_no g28
  have kk29 : (t.kind == 29) = false := beq_no g29
  have kk46 : (t.kind == 46) = false := beq_no g46
  have kk30 : (t.kind == 30) = false := beq_no g30
  have kk31 : (t.kind == 31) = false := beq_no g31
  have kk32 : (t.kind == 32) = false := beq_no g32
  have kk33 : (t.kind == 33) = false := beq_no g33
  have kk36 : (t.kind == 36) = false := beq_no g36
  have kk34 : (t.kind == 34) = false := beq_no g34
  have kk35 : (t.kind == 35) = false := beq_no g35
  have kk37 : (t.kind == 37) = false := beq_no g37
  have kk38 : (t.kind == 38) = false := beq_no g38
  have kk41 : (t.kind == 41) = false := beq_no g41
  have kk39 : (t.kind == 39) = false := beq_no g39
  have kk40 : (t.kind == 40) = false := beq_no g40
  have kk42 : (t.kind == 42) = false := beq_no g42
  have kk43 : (t.kind == 43) = false := beq_no g43
  have kk44 : (t.kind == 44) = false := beq_no g44
  have kk45 : (t.kind == 45) = false := beq_no g45
  have HN : Hid (t.kids.length = n) := Lib.hid hn.symm
  clear g25 g26 g27 g28 g29 g46 g30 g31 g32 g33 g36 g34 g35 g37 g38 g41 g39 g40 g42 g43 g44 g45
  clear hwf hb1 hx1 hW1 hn
  go_enter Tryz.func152, Tryz.ntmps152
  go_upto_region 1 with fail
  rw [← HW1.out]
  go_wp2_with (at_make; refine wpList_make_full _ rfl _ _ 24 rfl W1.heap.size TIn j0 (.int .i64 0) 1 Tryz.underlying24 hj0 hz0 hz1 .i64 .i64 (n : Int) (n : Int) n rfl rfl rfl rfl (by rw [hz2]; omega) (by unfold maxLen; omega) (Nat.le_refl _) ?_)
  intro W2 hown hg
  have hb2 : Below W1.heap.size W1 W2 := ⟨hg.os, hg.tape, hg.output, hg.size, fun k hk => hg.block k hk (by simp)⟩
  have HR2 := Lib.hid (zero_row hown)
  have HB2 := Lib.hid (HB1.out.then_ hb2)
  obtain ⟨k0, k5, kl⟩ := HX.out W2 hb2
  clear hown hg hb2 hj0 hz0 hz1 hz2
  go_wp2_with fail
  go_ret
  unfold DKids
  refine ⟨⟨some ⟨W1.heap.size, 0, none⟩, n, List.replicate n 0, by rw [List.length_replicate]; rfl, row_ints HR2.out, by rw [List.length_replicate, HN.out]; exact Nat.le_refl _, fun i => ?_⟩, HB2.out⟩
  rw [HR.out, zero_getD]
  first | done | rfl
set_option maxRecDepth 100000 in
set_option maxHeartbeats 8000000 in
theorem dkv_37 (t : Tm) (A : Option Addr) (ca : Nat) (B : Option Addr) (cb : Nat) (K : Option Addr) (ck : Nat) (v : Int) (b : Bool) (w : World) (hwf : WfT t) (hg : goodT b t = true) (hv : v = 1 ∨ v = 2) (hk : t.kind = 37) :
    Calls Tryz.prog 152 #[tmVal t A ca B cb K ck, .int .i64 v] w fun e w' => DKids t v w e w' := by
  obtain ⟨W1, hW1⟩ : ∃ W1, W1 = w.alloc (.cells (tmCells t A ca B cb K ck) TTm) := ⟨_, rfl⟩
  have hb1 : Below w.heap.size w W1 := by rw [hW1]; exact (Below.refl _ _).alloc (Nat.le_refl _) _
  have hx1 : W1.heap[w.heap.size]? = some (.cells (tmCells t A ca B cb K ck) TTm (0, 0)) := by rw [hW1]; exact heap_alloc_new w _
  have HW1 := Lib.hid hW1
  have HB1 := Lib.hid hb1
  obtain ⟨n, hn⟩ : ∃ n, n = t.kids.length := ⟨_, rfl⟩
  have hn104 : n * 104 ≤ 140737488351232 := by rw [hn]; exact hwf.node.kids104
  have HX : Hid (∀ W, Below W1.heap.size W1 W → W.cell? ⟨w.heap.size, 0, none⟩ = some (.int .i64 t.kind) ∧ W.cell? ⟨w.heap.size, 5, none⟩ = some (.slice K n ck) ∧ w.heap.size < W.heap.size) := Lib.hid fun W h => by
    have hh := (h.block _ (heap_lt hx1)).trans hx1
    rw [hn]
    exact ⟨cell_at hh rfl, cell_at hh rfl, heap_lt hh⟩
  obtain ⟨k0, k5, kl⟩ := HX.out W1 (Below.refl _ _)
  obtain ⟨j0, hj0, hz0, hz1, hz2⟩ := info_parts info_in
  have HN : Hid (t.kids.length ≤ 2) := Lib.hid (by rw [patk_len hg 37 2 hk (by decide) (by decide) (by decide) (by decide)]; exact Nat.le_refl _)
  have hn2 : n = 2 := by rw [hn, patk_len hg 37 2 hk (by decide) (by decide) (by decide) (by decide)]
  clear hn
  subst hn2
  have kk25 : (t.kind == 25) = false := by rw [hk]; rfl
  have kk26 : (t.kind == 26) = false := by rw [hk]; rfl
  have kk27 : (t.kind == 27) = false := by rw [hk]; rfl
  have kk28 : (t.kind == 28) = false := by rw [hk]; rfl
  have kk29 : (t.kind == 29) = false := by rw [hk]; rfl
  have kk46 : (t.kind == 46) = false := by rw [hk]; rfl
  have kk30 : (t.kind == 30) = false := by rw [hk]; rfl
  have kk31 : (t.kind == 31) = false := by rw [hk]; rfl
  have kk32 : (t.kind == 32) = false := by rw [hk]; rfl
  have kk33 : (t.kind == 33) = false := by rw [hk]; rfl
  have kk36 : (t.kind == 36) = false := by rw [hk]; rfl
  have kk34 : (t.kind == 34) = false := by rw [hk]; rfl
  have kk35 : (t.kind == 35) = false := by rw [hk]; rfl
  have kk37 : (t.kind == 37) = true := by rw [hk]; rfl
  rcases hv with rfl | rfl
  · have HR : Hid (valT t 1 = [1]) := Lib.hid (by unfold valT; rw [if_neg (by omega)]; rw [if_neg (by omega)]; rw [if_neg (by omega)]; rw [if_neg (by omega)]; rw [if_neg (by omega)]; rw [if_neg (by omega)]; rw [if_neg (by omega)]; rw [if_neg (by omega)]; rw [if_pos (by omega)]; rfl)
    clear hwf hb1 hx1 hW1 hk
    go_enter Tryz.func152, Tryz.ntmps152
    go_upto_region 1 with fail
    rw [← HW1.out]
    go_wp2_with (at_make; refine wpList_make_full _ rfl _ _ 24 rfl W1.heap.size TIn j0 (.int .i64 0) 1 Tryz.underlying24 hj0 hz0 hz1 .i64 .i64 (2 : Int) (2 : Int) 2 rfl rfl rfl rfl (by rw [hz2]; omega) (by unfold maxLen; omega) (Nat.le_refl _) ?_)
    intro W2 hown hg
    have hb2 : Below W1.heap.size W1 W2 := ⟨hg.os, hg.tape, hg.output, hg.size, fun k hk => hg.block k hk (by simp)⟩
    have HR2 := Lib.hid (zero_row hown)
    have HB2 := Lib.hid (HB1.out.then_ hb2)
    obtain ⟨k0, k5, kl⟩ := HX.out W2 hb2
    clear hown hg hb2 hj0 hz0 hz1 hz2
    have c0 : W2.cell? ⟨W1.heap.size, 0, none⟩ = some (.int .i64 0) := by rw [HR2.out.cellAt 0 (by omega)]; rfl
    have f0 := HR2.out.frozenAt 0
    have l0 := (HR2.out.lt W1.heap.size rfl).2
    go_wp2_with fail
    go_ret
    unfold DKids
    obtain ⟨h1, h2⟩ := HR2.out.stored 0 (.int .i64 1)
    refine ⟨⟨some ⟨W1.heap.size, 0, none⟩, 2, [1, 0], rfl, row_ints (B := W1.heap.size) (n := 2) (c := 2) h1, HN.out, fun i => ?_⟩, HB2.out.grown h2 HB2.out.size (fun k hk => by injection hk with hk; have := HB1.out.size; omega)⟩
    rw [HR.out]
    first | done | (rcases i with _ | _ | _ | i <;> rfl)
  · have HR : Hid (valT t 2 = [0, 2]) := Lib.hid (by unfold valT; rw [if_neg (by omega)]; rw [if_neg (by omega)]; rw [if_neg (by omega)]; rw [if_neg (by omega)]; rw [if_neg (by omega)]; rw [if_neg (by omega)]; rw [if_neg (by omega)]; rw [if_neg (by omega)]; rw [if_pos (by omega)]; rfl)
    clear hwf hb1 hx1 hW1 hk
    go_enter Tryz.func152, Tryz.ntmps152
    go_upto_region 1 with fail
    rw [← HW1.out]
    go_wp2_with (at_make; refine wpList_make_full _ rfl _ _ 24 rfl W1.heap.size TIn j0 (.int .i64 0) 1 Tryz.underlying24 hj0 hz0 hz1 .i64 .i64 (2 : Int) (2 : Int) 2 rfl rfl rfl rfl (by rw [hz2]; omega) (by unfold maxLen; omega) (Nat.le_refl _) ?_)
    intro W2 hown hg
    have hb2 : Below W1.heap.size W1 W2 := ⟨hg.os, hg.tape, hg.output, hg.size, fun k hk => hg.block k hk (by simp)⟩
    have HR2 := Lib.hid (zero_row hown)
    have HB2 := Lib.hid (HB1.out.then_ hb2)
    obtain ⟨k0, k5, kl⟩ := HX.out W2 hb2
    clear hown hg hb2 hj0 hz0 hz1 hz2
    have c0 : W2.cell? ⟨W1.heap.size, 1, none⟩ = some (.int .i64 0) := by rw [HR2.out.cellAt 1 (by omega)]; rfl
    have f0 := HR2.out.frozenAt 1
    have l0 := (HR2.out.lt W1.heap.size rfl).2
    go_wp2_with fail
    go_ret
    unfold DKids
    obtain ⟨h1, h2⟩ := HR2.out.stored 1 (.int .i64 2)
    refine ⟨⟨some ⟨W1.heap.size, 0, none⟩, 2, [0, 2], rfl, row_ints (B := W1.heap.size) (n := 2) (c := 2) h1, HN.out, fun i => ?_⟩, HB2.out.grown h2 HB2.out.size (fun k hk => by injection hk with hk; have := HB1.out.size; omega)⟩
    rw [HR.out]
    first | done | (rcases i with _ | _ | _ | i <;> rfl)
set_option maxRecDepth 100000 in
set_option maxHeartbeats 8000000 in
theorem dkv_41 (t : Tm) (A : Option Addr) (ca : Nat) (B : Option Addr) (cb : Nat) (K : Option Addr) (ck : Nat) (v : Int) (b : Bool) (w : World) (hat : TmAt w t A B K) (hwf : WfT t) (hg : goodT b t = true) (hv : v = 1 ∨ v = 2) (hk : t.kind = 41) :
    Calls Tryz.prog 152 #[tmVal t A ca B cb K ck, .int .i64 v] w fun e w' => DKids t v w e w' := by
  obtain ⟨x, y, hks, _, _⟩ := two_kids hg (c := 118) (d := 111) (by rw [hk]; decide) (by omega) (by omega) (by omega)
  obtain ⟨W1, hW1⟩ : ∃ W1, W1 = w.alloc (.cells (tmCells t A ca B cb K ck) TTm) := ⟨_, rfl⟩
  have hb1 : Below w.heap.size w W1 := by rw [hW1]; exact (Below.refl _ _).alloc (Nat.le_refl _) _
  have hx1 : W1.heap[w.heap.size]? = some (.cells (tmCells t A ca B cb K ck) TTm (0, 0)) := by rw [hW1]; exact heap_alloc_new w _
  have HW1 := Lib.hid hW1
  have HB1 := Lib.hid hb1
  obtain ⟨n, hn⟩ : ∃ n, n = t.kids.length := ⟨_, rfl⟩
  have hn104 : n * 104 ≤ 140737488351232 := by rw [hn]; exact hwf.node.kids104
  have HX : Hid (∀ W, Below W1.heap.size W1 W → W.cell? ⟨w.heap.size, 0, none⟩ = some (.int .i64 t.kind) ∧ W.cell? ⟨w.heap.size, 5, none⟩ = some (.slice K n ck) ∧ w.heap.size < W.heap.size) := Lib.hid fun W h => by
    have hh := (h.block _ (heap_lt hx1)).trans hx1
    rw [hn]
    exact ⟨cell_at hh rfl, cell_at hh rfl, heap_lt hh⟩
  obtain ⟨k0, k5, kl⟩ := HX.out W1 (Below.refl _ _)
  obtain ⟨j0, hj0, hz0, hz1, hz2⟩ := info_parts info_in
  have kk25 : (t.kind == 25) = false := by rw [hk]; rfl
  have kk26 : (t.kind == 26) = false := by rw [hk]; rfl
  have kk27 : (t.kind == 27) = false := by rw [hk]; rfl
  have kk28 : (t.kind == 28) = false := by rw [hk]; rfl
  have kk29 : (t.kind == 29) = false := by rw [hk]; rfl
  have kk46 : (t.kind == 46) = false := by rw [hk]; rfl
  have kk30 : (t.kind == 30) = false := by rw [hk]; rfl
  have kk31 : (t.kind == 31) = false := by rw [hk]; rfl
  have kk32 : (t.kind == 32) = false := by rw [hk]; rfl
  have kk33 : (t.kind == 33) = false := by rw [hk]; rfl
  have kk36 : (t.kind == 36) = false := by rw [hk]; rfl
  have kk34 : (t.kind == 34) = false := by rw [hk]; rfl
  have kk35 : (t.kind == 35) = false := by rw [hk]; rfl
  have kk37 : (t.kind == 37) = false := by rw [hk]; rfl
  have kk38 : (t.kind == 38) = false := by rw [hk]; rfl
  have kk41 : (t.kind == 41) = true := by rw [hk]; rfl
  rcases hv with rfl | rfl
  · obtain ⟨gy, oy, hKy, py⟩ := hat.kids.get (i := 1) (t := y) (by rw [hks]; rfl)
    rw [show oy + (0 + 1) * 6 = oy + 6 from rfl] at py
    obtain ⟨Ay, cay, By, cby, Ky, cky, yl0, _, _, _, _, _, _, haty⟩ := py.cells
    have hny : nth t.kids 1 = y := by rw [hks]; rfl
    have HRV : Hid (valT t 1 = if decide (y.kind = 1) && noneBelow y then [1] else []) := Lib.hid (by unfold valT; rw [if_neg (by omega)]; rw [if_neg (by omega)]; rw [if_neg (by omega)]; rw [if_neg (by omega)]; rw [if_neg (by omega)]; rw [if_neg (by omega)]; rw [if_neg (by omega)]; rw [if_neg (by omega)]; rw [if_neg (by omega)]; rw [if_neg (by omega)]; rw [if_pos (by omega)]; rw [if_neg (by decide), hny])
    have HN2 : Hid (n = 2) := Lib.hid (by rw [hn, hks]; rfl)
    have HN : Hid (t.kids.length = n) := Lib.hid hn.symm
    have HWY := Lib.hid (hwf.node.each y (by rw [hks]; simp))
    have HY : Hid (∀ W, Below W1.heap.size W1 W → (∃ u : Unit, True) ∧ W.cell? ⟨gy, oy + 6, none⟩ = some (.int .i64 y.kind) ∧ W.cell? ⟨gy, oy + 6 + 1, none⟩ = some (.string y.text) ∧ W.cell? ⟨gy, oy + 6 + 2, none⟩ = some (.int .i64 y.n) ∧ W.cell? ⟨gy, oy + 6 + 3, none⟩ = some (.slice Ay y.sh.length cay) ∧ W.cell? ⟨gy, oy + 6 + 4, none⟩ = some (.slice By y.at_.length cby) ∧ W.cell? ⟨gy, oy + 6 + 5, none⟩ = some (.slice Ky y.kids.length cky) ∧ gy < W.heap.size ∧ TmAt W y Ay By Ky) := Lib.hid fun W h => by
      have hb := hb1.then_ h
      have key : ∀ j v, w.cell? ⟨gy, j, none⟩ = some v → W.cell? ⟨gy, j, none⟩ = some v := fun j v hv => (hb.cell (p := ⟨gy, j, none⟩) yl0).trans hv
      exact ⟨⟨(), trivial⟩, key _ _ ‹w.cell? ⟨gy, oy + 6, none⟩ = _›, key _ _ ‹w.cell? ⟨gy, oy + 6 + 1, none⟩ = _›, key _ _ ‹w.cell? ⟨gy, oy + 6 + 2, none⟩ = _›, key _ _ ‹w.cell? ⟨gy, oy + 6 + 3, none⟩ = _›, key _ _ ‹w.cell? ⟨gy, oy + 6 + 4, none⟩ = _›, key _ _ ‹w.cell? ⟨gy, oy + 6 + 5, none⟩ = _›, Nat.lt_of_lt_of_le yl0 hb.size, haty.on hb⟩
    by_cases hy1 : y.kind = 1
    · have d1 : (y.kind == 1) = true := by rw [hy1]; rfl
      have HD1 : Hid (decide (y.kind = 1) = true) := Lib.hid (decide_eq_true hy1)
      have HK2 := Lib.hid hKy
      clear hat hwf hg hb1 hx1 hW1 hn hk hks hKy py haty hny hy1 yl0
      go_enter Tryz.func152, Tryz.ntmps152
      go_upto_region 1 with fail
      rw [← HW1.out]
      go_wp2_with (at_make; refine wpList_make_full _ rfl _ _ 24 rfl W1.heap.size TIn j0 (.int .i64 0) 1 Tryz.underlying24 hj0 hz0 hz1 .i64 .i64 (n : Int) (n : Int) n rfl rfl rfl rfl (by rw [hz2]; omega) (by unfold maxLen; omega) (Nat.le_refl _) ?_)
      intro W2 hown hg
      have hb2 : Below W1.heap.size W1 W2 := ⟨hg.os, hg.tape, hg.output, hg.size, fun k hk => hg.block k hk (by simp)⟩
      have HR2 := Lib.hid (zero_row hown)
      have HB2 := Lib.hid (HB1.out.then_ hb2)
      obtain ⟨k0, k5, kl⟩ := HX.out W2 hb2
      obtain ⟨_, y0, y1, y2, y3, y4, y5, yl, haty⟩ := HY.out W2 hb2
      have HAY := Lib.hid haty
      rw [HK2.out, HN2.out] at k5
      clear haty
      clear hown hg hb2 hj0 hz0 hz1 hz2
      go_wp2_with fail
      refine (below_any y Ay cay By cby Ky cky W2 HAY.out HWY.out).mono ?_
      rintro e w3 ⟨rfl, hb3⟩
      have HB3 := Lib.hid (HB2.out.then_ hb3)
      have HI3 : Hid (IntsAt w3 (some ⟨W1.heap.size, 0, none⟩) (List.replicate n 0)) := Lib.hid ((row_ints HR2.out).on hb3)
      clear hb3
      cases hnb : noneBelow y with
      | true =>
        have HR : Hid (valT t 1 = [1]) := Lib.hid (by rw [HRV.out, HD1.out, hnb]; rfl)
        clear hnb
        go_wp2_with fail
        go_ret
        unfold DKids
        refine ⟨⟨some ⟨w3.heap.size, 0, none⟩, 2, [1, 0], rfl, ints_new w3 [1, 0] TIn, by rw [HN.out]; exact Nat.le_of_eq HN2.out, fun i => ?_⟩, HB3.out.alloc HB3.out.size _⟩
        rw [HR.out]
        first | done | (rcases i with _ | _ | _ | i <;> rfl)
      | false =>
        have HR : Hid (valT t 1 = []) := Lib.hid (by rw [HRV.out, HD1.out, hnb]; rfl)
        clear hnb
        go_wp2_with fail
        go_ret
        unfold DKids
        refine ⟨⟨some ⟨W1.heap.size, 0, none⟩, n, List.replicate n 0, by rw [List.length_replicate]; rfl, HI3.out, by rw [List.length_replicate, HN.out]; exact Nat.le_refl _, fun i => ?_⟩, HB3.out⟩
        rw [HR.out, zero_getD]
        first | done | rfl
    · have d1 : (y.kind == 1) = false := beq_no hy1
      have HD1 : Hid (decide (y.kind = 1) = false) := Lib.hid (decide_eq_false hy1)
      have HK2 := Lib.hid hKy
      clear hat hwf hg hb1 hx1 hW1 hn hk hks hKy py haty hny hy1 yl0
      go_enter Tryz.func152, Tryz.ntmps152
      go_upto_region 1 with fail
      rw [← HW1.out]
      go_wp2_with (at_make; refine wpList_make_full _ rfl _ _ 24 rfl W1.heap.size TIn j0 (.int .i64 0) 1 Tryz.underlying24 hj0 hz0 hz1 .i64 .i64 (n : Int) (n : Int) n rfl rfl rfl rfl (by rw [hz2]; omega) (by unfold maxLen; omega) (Nat.le_refl _) ?_)
      intro W2 hown hg
      have hb2 : Below W1.heap.size W1 W2 := ⟨hg.os, hg.tape, hg.output, hg.size, fun k hk => hg.block k hk (by simp)⟩
      have HR2 := Lib.hid (zero_row hown)
      have HB2 := Lib.hid (HB1.out.then_ hb2)
      obtain ⟨k0, k5, kl⟩ := HX.out W2 hb2
      obtain ⟨_, y0, y1, y2, y3, y4, y5, yl, haty⟩ := HY.out W2 hb2
      have HAY := Lib.hid haty
      rw [HK2.out, HN2.out] at k5
      clear haty
      clear hown hg hb2 hj0 hz0 hz1 hz2
      have HR : Hid (valT t 1 = []) := Lib.hid (by rw [HRV.out, HD1.out]; rfl)
      go_wp2_with fail
      go_ret
      unfold DKids
      refine ⟨⟨some ⟨W1.heap.size, 0, none⟩, n, List.replicate n 0, by rw [List.length_replicate]; rfl, row_ints HR2.out, by rw [List.length_replicate, HN.out]; exact Nat.le_refl _, fun i => ?_⟩, HB2.out⟩
      rw [HR.out, zero_getD]
      first | done | rfl
  · have HR : Hid (valT t 2 = [2]) := Lib.hid (by unfold valT; rw [if_neg (by omega)]; rw [if_neg (by omega)]; rw [if_neg (by omega)]; rw [if_neg (by omega)]; rw [if_neg (by omega)]; rw [if_neg (by omega)]; rw [if_neg (by omega)]; rw [if_neg (by omega)]; rw [if_neg (by omega)]; rw [if_neg (by omega)]; rw [if_pos (by omega)]; rw [if_pos rfl])
    have HN : Hid (t.kids.length ≤ 2) := Lib.hid (by rw [patk_len hg 41 2 hk (by decide) (by decide) (by decide) (by decide)]; exact Nat.le_refl _)
    clear hat hwf hg hb1 hx1 hW1 hn hk hks
    go_enter Tryz.func152, Tryz.ntmps152
    go_upto_region 1 with fail
    rw [← HW1.out]
    go_wp2_with (at_make; refine wpList_make_full _ rfl _ _ 24 rfl W1.heap.size TIn j0 (.int .i64 0) 1 Tryz.underlying24 hj0 hz0 hz1 .i64 .i64 (n : Int) (n : Int) n rfl rfl rfl rfl (by rw [hz2]; omega) (by unfold maxLen; omega) (Nat.le_refl _) ?_)
    intro W2 hown hg
    have hb2 : Below W1.heap.size W1 W2 := ⟨hg.os, hg.tape, hg.output, hg.size, fun k hk => hg.block k hk (by simp)⟩
    have HR2 := Lib.hid (zero_row hown)
    have HB2 := Lib.hid (HB1.out.then_ hb2)
    obtain ⟨k0, k5, kl⟩ := HX.out W2 hb2
    clear hown hg hb2 hj0 hz0 hz1 hz2
    go_wp2_with fail
    go_ret
    unfold DKids
    refine ⟨⟨some ⟨W2.heap.size, 0, none⟩, 2, [2, 0], rfl, ints_new W2 [2, 0] TIn, HN.out, fun i => ?_⟩, HB2.out.alloc HB2.out.size _⟩
    rw [HR.out]
    first | done | (rcases i with _ | _ | _ | i <;> rfl)
set_option maxRecDepth 100000 in
set_option maxHeartbeats 8000000 in
theorem dkv_43 (t : Tm) (A : Option Addr) (ca : Nat) (B : Option Addr) (cb : Nat) (K : Option Addr) (ck : Nat) (v : Int) (w : World) (hwf : WfT t) (hk : t.kind = 43) :
    Calls Tryz.prog 152 #[tmVal t A ca B cb K ck, .int .i64 v] w fun e w' => DKids t v w e w' := by
  obtain ⟨W1, hW1⟩ : ∃ W1, W1 = w.alloc (.cells (tmCells t A ca B cb K ck) TTm) := ⟨_, rfl⟩
  have hb1 : Below w.heap.size w W1 := by rw [hW1]; exact (Below.refl _ _).alloc (Nat.le_refl _) _
  have hx1 : W1.heap[w.heap.size]? = some (.cells (tmCells t A ca B cb K ck) TTm (0, 0)) := by rw [hW1]; exact heap_alloc_new w _
  have HW1 := Lib.hid hW1
  have HB1 := Lib.hid hb1
  obtain ⟨n, hn⟩ : ∃ n, n = t.kids.length := ⟨_, rfl⟩
  have hn104 : n * 104 ≤ 140737488351232 := by rw [hn]; exact hwf.node.kids104
  have HX : Hid (∀ W, Below W1.heap.size W1 W → W.cell? ⟨w.heap.size, 0, none⟩ = some (.int .i64 t.kind) ∧ W.cell? ⟨w.heap.size, 5, none⟩ = some (.slice K n ck) ∧ w.heap.size < W.heap.size) := Lib.hid fun W h => by
    have hh := (h.block _ (heap_lt hx1)).trans hx1
    rw [hn]
    exact ⟨cell_at hh rfl, cell_at hh rfl, heap_lt hh⟩
  obtain ⟨k0, k5, kl⟩ := HX.out W1 (Below.refl _ _)
  obtain ⟨j0, hj0, hz0, hz1, hz2⟩ := info_parts info_in
  have HR : Hid (valT t v = List.replicate n v) := Lib.hid (by rw [hn]; unfold valT; rw [if_neg (by omega)]; rw [if_neg (by omega)]; rw [if_neg (by omega)]; rw [if_neg (by omega)]; rw [if_neg (by omega)]; rw [if_neg (by omega)]; rw [if_neg (by omega)]; rw [if_neg (by omega)]; rw [if_neg (by omega)]; rw [if_neg (by omega)]; rw [if_neg (by omega)]; rw [if_neg (by omega)]; rw [if_neg (by omega)]; rw [if_pos (by omega)])
  have HN : Hid (t.kids.length = n) := Lib.hid hn.symm
  have kk25 : (t.kind == 25) = false := by rw [hk]; rfl
  have kk26 : (t.kind == 26) = false := by rw [hk]; rfl
  have kk27 : (t.kind == 27) = false := by rw [hk]; rfl
  have kk28 : (t.kind == 28) = false := by rw [hk]; rfl
  have kk29 : (t.kind == 29) = false := by rw [hk]; rfl
  have kk46 : (t.kind == 46) = false := by rw [hk]; rfl
  have kk30 : (t.kind == 30) = false := by rw [hk]; rfl
  have kk31 : (t.kind == 31) = false := by rw [hk]; rfl
  have kk32 : (t.kind == 32) = false := by rw [hk]; rfl
  have kk33 : (t.kind == 33) = false := by rw [hk]; rfl
  have kk36 : (t.kind == 36) = false := by rw [hk]; rfl
  have kk34 : (t.kind == 34) = false := by rw [hk]; rfl
  have kk35 : (t.kind == 35) = false := by rw [hk]; rfl
  have kk37 : (t.kind == 37) = false := by rw [hk]; rfl
  have kk38 : (t.kind == 38) = false := by rw [hk]; rfl
  have kk41 : (t.kind == 41) = false := by rw [hk]; rfl
  have kk39 : (t.kind == 39) = false := by rw [hk]; rfl
  have kk40 : (t.kind == 40) = false := by rw [hk]; rfl
  have kk42 : (t.kind == 42) = false := by rw [hk]; rfl
  have kk43 : (t.kind == 43) = true := by rw [hk]; rfl
  clear hwf hb1 hx1 hW1 hn hk
  go_enter Tryz.func152, Tryz.ntmps152
  go_upto_region 1 with fail
  rw [← HW1.out]
  go_wp2_with (at_make; refine wpList_make_full _ rfl _ _ 24 rfl W1.heap.size TIn j0 (.int .i64 0) 1 Tryz.underlying24 hj0 hz0 hz1 .i64 .i64 (n : Int) (n : Int) n rfl rfl rfl rfl (by rw [hz2]; omega) (by unfold maxLen; omega) (Nat.le_refl _) ?_)
  intro W2 hown hg
  have hb2 : Below W1.heap.size W1 W2 := ⟨hg.os, hg.tape, hg.output, hg.size, fun k hk => hg.block k hk (by simp)⟩
  have HR2 := Lib.hid (zero_row hown)
  have HB2 := Lib.hid (HB1.out.then_ hb2)
  obtain ⟨k0, k5, kl⟩ := HX.out W2 hb2
  clear hown hg hb2 hj0 hz0 hz1 hz2
  go_wp2_with fail
  go_loopw [6] (fun v6 W => ∃ i : Nat, i ≤ n ∧ v6 = .int .i64 i ∧ Hid (W.ownsRow W1.heap.size TIn 1 (.slice (some ⟨W1.heap.size, 0, none⟩) n n) n (intVals (List.replicate i v ++ List.replicate (n - i) 0))) ∧ Hid (Below w.heap.size w W)) (fun v6 _ => n - (intOf v6).toNat)
  case atStart => exact ⟨0, Nat.zero_le _, rfl, Lib.hid (by rw [List.replicate_zero, List.nil_append, Nat.sub_zero]; exact HR2.out), HB2⟩
  case round =>
    obtain ⟨i, hi, rfl, HO, HI⟩ := hrel
    by_cases hlt : i < n
    · have q1 : (0 : Int) ≤ (i : Int) := by omega
      have q2 : (i : Int) < (n : Int) := by omega
      have e0 : (intVals (List.replicate i v ++ List.replicate (n - i) 0))[i]? = some (.int .i64 0) := by
        unfold intVals
        rw [List.getElem?_map, List.getElem?_append_right (by rw [List.length_replicate]; exact Nat.le_refl _), List.length_replicate, Nat.sub_self, List.getElem?_replicate, if_pos (by omega)]
        rfl
      have c0 : wr.cell? ⟨W1.heap.size, i, none⟩ = some (.int .i64 0) := by rw [HO.out.cellAt i (by omega)]; exact e0
      have f0 := HO.out.frozenAt i
      have l0 := (HO.out.lt W1.heap.size rfl).2
      clear e0
      go_wp2_with fail
      obtain ⟨h1, h2⟩ := HO.out.stored i (.int .i64 v)
      refine ⟨⟨i + 1, by omega, by go_num, Lib.hid ?_, Lib.hid (HI.out.grown h2 HI.out.size (fun k hk => by injection hk with hk; have := HB1.out.size; omega))⟩, by simp [intOf]; omega⟩
      have e1 : (intVals (List.replicate i v ++ List.replicate (n - i) 0)).set i (.int .i64 v) = intVals (List.replicate (i + 1) v ++ List.replicate (n - (i + 1)) 0) := by
        unfold intVals
        rw [List.map_append, List.map_append, List.set_append, if_neg (by rw [List.length_map, List.length_replicate]; omega), List.length_map, List.length_replicate, Nat.sub_self, show n - i = (n - (i + 1)) + 1 by omega, List.replicate_succ, List.map_cons, List.set_cons_zero, List.replicate_succ', List.map_append, List.append_assoc]
        rfl
      rw [e1] at h1
      exact h1
    · obtain rfl : i = n := by omega
      clear hlt
      have HO2 : Hid (wr.ownsRow W1.heap.size TIn 1 (.slice (some ⟨W1.heap.size, 0, none⟩) i i) i (intVals (List.replicate i v))) := Lib.hid (by
        have h := HO.out
        rw [Nat.sub_self, List.replicate_zero, List.append_nil] at h
        exact h)
      go_wp2_with fail
      go_ret
      unfold DKids
      refine ⟨⟨some ⟨W1.heap.size, 0, none⟩, i, List.replicate i v, by rw [List.length_replicate]; rfl, row_ints HO2.out, by rw [List.length_replicate, HN.out]; exact Nat.le_refl _, fun j => by rw [HR.out]⟩, HI.out⟩
theorem dkv_any (t : Tm) (A : Option Addr) (ca : Nat) (B : Option Addr) (cb : Nat) (K : Option Addr) (ck : Nat) (v : Int) (b : Bool) (w : World) (hat : TmAt w t A B K) (hwf : WfT t) (hg : goodT b t = true) (hv : v = 1 ∨ v = 2) :
    Calls Tryz.prog 152 #[tmVal t A ca B cb K ck, .int .i64 v] w fun e w' => DKids t v w e w' := by
  by_cases h25 : t.kind = 25
  · exact dkv_25 t A ca B cb K ck v b w hwf hg h25
  by_cases h26 : t.kind = 26
  · exact dkv_26 t A ca B cb K ck v b w hwf hg hv h26
  by_cases h27 : t.kind = 27
  · exact dkv_27 t A ca B cb K ck v b w hwf hg h27
  by_cases h28 : t.kind = 28
  · exact dkv_28 t A ca B cb K ck v b w hwf hg h28
  by_cases h29 : t.kind = 29
  · exact dkv_29 t A ca B cb K ck v b w hwf hg h29
  by_cases h46 : t.kind = 46
  · exact dkv_46 t A ca B cb K ck v b w hwf hg h46
  by_cases h30 : t.kind = 30
  · exact dkv_30 t A ca B cb K ck v b w hwf hg h30
  by_cases h31 : t.kind = 31
  · exact dkv_31 t A ca B cb K ck v b w hwf hg h31
  by_cases h32 : t.kind = 32
  · exact dkv_32 t A ca B cb K ck v b w hwf hg h32
  by_cases h33 : t.kind = 33
  · exact dkv_33 t A ca B cb K ck v b w hwf hg h33
  by_cases h36 : t.kind = 36
  · exact dkv_36 t A ca B cb K ck v b w hwf hg h36
  by_cases h34 : t.kind = 34
  · exact dkv_34 t A ca B cb K ck v b w hwf hg hv h34
  by_cases h35 : t.kind = 35
  · exact dkv_35 t A ca B cb K ck v b w hwf hg h35
  by_cases h37 : t.kind = 37
  · exact dkv_37 t A ca B cb K ck v b w hwf hg hv h37
  by_cases h38 : t.kind = 38
  · exact dkv_38 t A ca B cb K ck v b w hwf hg hv h38
  by_cases h41 : t.kind = 41
  · exact dkv_41 t A ca B cb K ck v b w hat hwf hg hv h41
  by_cases h39 : t.kind = 39
  · exact dkv_39 t A ca B cb K ck v b w hwf hg hv h39
  by_cases h40 : t.kind = 40
  · exact dkv_40 t A ca B cb K ck v b w hwf hg hv h40
  by_cases h42 : t.kind = 42
  · exact dkv_42 t A ca B cb K ck v b w hwf hg h42
  by_cases h44 : t.kind = 44
  · exact dkv_44 t A ca B cb K ck v b w hwf hg h44
  by_cases h45 : t.kind = 45
  · exact dkv_45 t A ca B cb K ck v b w hwf hg h45
  by_cases h43 : t.kind = 43
  · exact dkv_43 t A ca B cb K ck v w hwf h43
  exact dkv_no t A ca B cb K ck v w hwf ⟨h25, h26, h27, h28, h29, h46, h30, h31, h32, h33, h36, h34, h35, h37, h38, h41, h39, h40, h42, h43, h44, h45⟩
end Go.Proofs.YtebiojmfieoncaaGreat
