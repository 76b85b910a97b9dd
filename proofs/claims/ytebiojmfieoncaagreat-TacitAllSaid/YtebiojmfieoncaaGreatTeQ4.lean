/- tacit.valences, by kinds. Condition: sizes within reach. -/
import Derived.Test.YtebiojmfieoncaaGreatTeQ3
namespace Go.Proofs.YtebiojmfieoncaaGreat
open Go.RowKit

/-- what valences answers -/
def ValPost (t : Tm) (v : Int) (w : World) (e : Ending) (w' : World) : Prop := (∃ (P : Option Addr) (c : Nat), e = .returned (.slice P (valT t v).length c) ∧ IntsAt w' P (valT t v)) ∧ Below w.heap.size w w'
theorem ints_new (w : World) (l : List Int) (t : TypeId) : IntsAt (w.alloc (.cells (l.map fun x => Value.int .i64 x).toArray t)) (some ⟨w.heap.size, 0, none⟩) l := fun i x h => by
  refine ⟨w.heap.size, 0, rfl, by simp, ?_⟩
  rw [Nat.zero_add]
  exact cell_at (heap_alloc_new w _) (by simp [h])
theorem ints_nil (w : World) (P : Option Addr) : IntsAt w P [] := fun i x h => by simp at h
set_option maxRecDepth 100000 in
set_option maxHeartbeats 4000000 in
theorem only_any (want v : Int) (P : Option Addr) (n c g : Nat) (w : World) (hc : w.cell? ⟨g, 0, none⟩ = some (.int .i64 v)) :
    Calls Tryz.prog 173 #[.int .i64 want, .slice P n c, .pointer (some ⟨g, 0, none⟩)] w fun e w' => (v = want ∧ e = .returned (.slice P n c) ∨ ¬ v = want ∧ e = .returned (.slice none 0 0)) ∧ Below w.heap.size w w' := by
  by_cases h : v = want
  · have d : (v == want) = true := by rw [h]; simp
    have H := Lib.hid h
    clear h
    go_enter Tryz.func173, Tryz.ntmps173
    go_wp2_with fail
    go_ret
    exact ⟨.inl ⟨H.out, rfl⟩, Below.refl _ _⟩
  · have d : (v == want) = false := beq_no h
    have H := Lib.hid h
    clear h
    go_enter Tryz.func173, Tryz.ntmps173
    go_wp2_with fail
    go_ret
    exact ⟨.inr ⟨H.out, rfl⟩, Below.refl _ _⟩
set_option maxRecDepth 100000 in
set_option maxHeartbeats 8000000 in
theorem val_25 (t : Tm) (A : Option Addr) (ca : Nat) (B : Option Addr) (cb : Nat) (K : Option Addr) (ck : Nat) (v : Int) (w : World) (hv : v = 1 ∨ v = 2) (hk : t.kind = 25) :
    Calls Tryz.prog 151 #[tmVal t A ca B cb K ck, .int .i64 v] w fun e w' => ValPost t v w e w' := by
  obtain ⟨W1, hW1⟩ : ∃ W1, W1 = (w.alloc (.cells (tmCells t A ca B cb K ck) TTm)).alloc (.cells #[.int .i64 v] 3) := ⟨_, rfl⟩
  have hb1 : Below w.heap.size w W1 := by rw [hW1]; exact ((Below.refl _ _).alloc (Nat.le_refl _) _).alloc (by simp) _
  have hx1 : W1.heap[w.heap.size]? = some (.cells (tmCells t A ca B cb K ck) TTm (0, 0)) := by rw [hW1]; exact (Below.heap_alloc _ _ _ (by simp)).trans (heap_alloc_new w _)
  have hv1 : W1.heap[w.heap.size + 1]? = some (.cells #[.int .i64 v] 3 (0, 0)) := by rw [hW1]; exact heap_new2 _ _ _
  have HW1 := Lib.hid hW1
  have H1 := Lib.hid (And.intro hb1 hv1)
  have HV := Lib.hid hv
  have k0 : W1.cell? ⟨w.heap.size, 0, none⟩ = some (.int .i64 t.kind) := cell_at hx1 rfl
  have kl := heap_lt hx1
  have cv := cell_at hv1 (j := 0) rfl
  have cl := heap_lt hv1
  clear hW1 hb1 hx1 hv1
  have HR : Hid (valT t v = [1]) := Lib.hid (by unfold valT; rw [if_pos (by omega)])
  have kk25 : (t.kind == 25) = true := by rw [hk]; rfl
  clear hk hv
  go_enter Tryz.func151, Tryz.ntmps151
  go_upto_region 1 with fail
  rw [← HW1.out]
  go_wp2_with fail
  go_ret
  unfold ValPost
  refine ⟨⟨some ⟨W1.heap.size, 0, none⟩, 1, by rw [HR.out]; rfl, ?_⟩, H1.out.1.alloc H1.out.1.size _⟩
  rw [HR.out]
  exact ints_new W1 [1] TIn
set_option maxRecDepth 100000 in
set_option maxHeartbeats 8000000 in
theorem val_27 (t : Tm) (A : Option Addr) (ca : Nat) (B : Option Addr) (cb : Nat) (K : Option Addr) (ck : Nat) (v : Int) (w : World) (hv : v = 1 ∨ v = 2) (hk : t.kind = 27) :
    Calls Tryz.prog 151 #[tmVal t A ca B cb K ck, .int .i64 v] w fun e w' => ValPost t v w e w' := by
  obtain ⟨W1, hW1⟩ : ∃ W1, W1 = (w.alloc (.cells (tmCells t A ca B cb K ck) TTm)).alloc (.cells #[.int .i64 v] 3) := ⟨_, rfl⟩
  have hb1 : Below w.heap.size w W1 := by rw [hW1]; exact ((Below.refl _ _).alloc (Nat.le_refl _) _).alloc (by simp) _
  have hx1 : W1.heap[w.heap.size]? = some (.cells (tmCells t A ca B cb K ck) TTm (0, 0)) := by rw [hW1]; exact (Below.heap_alloc _ _ _ (by simp)).trans (heap_alloc_new w _)
  have hv1 : W1.heap[w.heap.size + 1]? = some (.cells #[.int .i64 v] 3 (0, 0)) := by rw [hW1]; exact heap_new2 _ _ _
  have HW1 := Lib.hid hW1
  have H1 := Lib.hid (And.intro hb1 hv1)
  have HV := Lib.hid hv
  have k0 : W1.cell? ⟨w.heap.size, 0, none⟩ = some (.int .i64 t.kind) := cell_at hx1 rfl
  have kl := heap_lt hx1
  have cv := cell_at hv1 (j := 0) rfl
  have cl := heap_lt hv1
  clear hW1 hb1 hx1 hv1
  have HR : Hid (valT t v = [2]) := Lib.hid (by unfold valT; rw [if_neg (by omega)]; rw [if_neg (by omega)]; rw [if_pos (by omega)])
  have kk25 : (t.kind == 25) = false := by rw [hk]; rfl
  have kk26 : (t.kind == 26) = false := by rw [hk]; rfl
  have kk27 : (t.kind == 27) = true := by rw [hk]; rfl
  clear hk hv
  go_enter Tryz.func151, Tryz.ntmps151
  go_upto_region 1 with fail
  rw [← HW1.out]
  go_wp2_with fail
  go_ret
  unfold ValPost
  refine ⟨⟨some ⟨W1.heap.size, 0, none⟩, 1, by rw [HR.out]; rfl, ?_⟩, H1.out.1.alloc H1.out.1.size _⟩
  rw [HR.out]
  exact ints_new W1 [2] TIn
set_option maxRecDepth 100000 in
set_option maxHeartbeats 8000000 in
theorem val_28 (t : Tm) (A : Option Addr) (ca : Nat) (B : Option Addr) (cb : Nat) (K : Option Addr) (ck : Nat) (v : Int) (w : World) (hv : v = 1 ∨ v = 2) (hk : t.kind = 28) :
    Calls Tryz.prog 151 #[tmVal t A ca B cb K ck, .int .i64 v] w fun e w' => ValPost t v w e w' := by
  obtain ⟨W1, hW1⟩ : ∃ W1, W1 = (w.alloc (.cells (tmCells t A ca B cb K ck) TTm)).alloc (.cells #[.int .i64 v] 3) := ⟨_, rfl⟩
  have hb1 : Below w.heap.size w W1 := by rw [hW1]; exact ((Below.refl _ _).alloc (Nat.le_refl _) _).alloc (by simp) _
  have hx1 : W1.heap[w.heap.size]? = some (.cells (tmCells t A ca B cb K ck) TTm (0, 0)) := by rw [hW1]; exact (Below.heap_alloc _ _ _ (by simp)).trans (heap_alloc_new w _)
  have hv1 : W1.heap[w.heap.size + 1]? = some (.cells #[.int .i64 v] 3 (0, 0)) := by rw [hW1]; exact heap_new2 _ _ _
  have HW1 := Lib.hid hW1
  have H1 := Lib.hid (And.intro hb1 hv1)
  have HV := Lib.hid hv
  have k0 : W1.cell? ⟨w.heap.size, 0, none⟩ = some (.int .i64 t.kind) := cell_at hx1 rfl
  have kl := heap_lt hx1
  have cv := cell_at hv1 (j := 0) rfl
  have cl := heap_lt hv1
  clear hW1 hb1 hx1 hv1
  have HR : Hid (valT t v = [1, v]) := Lib.hid (by unfold valT; rw [if_neg (by omega)]; rw [if_neg (by omega)]; rw [if_neg (by omega)]; rw [if_pos (by omega)])
  have kk25 : (t.kind == 25) = false := by rw [hk]; rfl
  have kk26 : (t.kind == 26) = false := by rw [hk]; rfl
  have kk27 : (t.kind == 27) = false := by rw [hk]; rfl
  have kk28 : (t.kind == 28) = true := by rw [hk]; rfl
  clear hk hv
  go_enter Tryz.func151, Tryz.ntmps151
  go_upto_region 1 with fail
  rw [← HW1.out]
  go_wp2_with fail
  go_ret
  unfold ValPost
  refine ⟨⟨some ⟨W1.heap.size, 0, none⟩, 2, by rw [HR.out]; rfl, ?_⟩, H1.out.1.alloc H1.out.1.size _⟩
  rw [HR.out]
  exact ints_new W1 [1, v] TIn
set_option maxRecDepth 100000 in
set_option maxHeartbeats 8000000 in
theorem val_29 (t : Tm) (A : Option Addr) (ca : Nat) (B : Option Addr) (cb : Nat) (K : Option Addr) (ck : Nat) (v : Int) (w : World) (hv : v = 1 ∨ v = 2) (hk : t.kind = 29) :
    Calls Tryz.prog 151 #[tmVal t A ca B cb K ck, .int .i64 v] w fun e w' => ValPost t v w e w' := by
  obtain ⟨W1, hW1⟩ : ∃ W1, W1 = (w.alloc (.cells (tmCells t A ca B cb K ck) TTm)).alloc (.cells #[.int .i64 v] 3) := ⟨_, rfl⟩
  have hb1 : Below w.heap.size w W1 := by rw [hW1]; exact ((Below.refl _ _).alloc (Nat.le_refl _) _).alloc (by simp) _
  have hx1 : W1.heap[w.heap.size]? = some (.cells (tmCells t A ca B cb K ck) TTm (0, 0)) := by rw [hW1]; exact (Below.heap_alloc _ _ _ (by simp)).trans (heap_alloc_new w _)
  have hv1 : W1.heap[w.heap.size + 1]? = some (.cells #[.int .i64 v] 3 (0, 0)) := by rw [hW1]; exact heap_new2 _ _ _
  have HW1 := Lib.hid hW1
  have H1 := Lib.hid (And.intro hb1 hv1)
  have HV := Lib.hid hv
  have k0 : W1.cell? ⟨w.heap.size, 0, none⟩ = some (.int .i64 t.kind) := cell_at hx1 rfl
  have kl := heap_lt hx1
  have cv := cell_at hv1 (j := 0) rfl
  have cl := heap_lt hv1
  clear hW1 hb1 hx1 hv1
  have HR : Hid (valT t v = [1, v]) := Lib.hid (by unfold valT; rw [if_neg (by omega)]; rw [if_neg (by omega)]; rw [if_neg (by omega)]; rw [if_pos (by omega)])
  have kk25 : (t.kind == 25) = false := by rw [hk]; rfl
  have kk26 : (t.kind == 26) = false := by rw [hk]; rfl
  have kk27 : (t.kind == 27) = false := by rw [hk]; rfl
  have kk28 : (t.kind == 28) = false := by rw [hk]; rfl
  have kk29 : (t.kind == 29) = true := by rw [hk]; rfl
  clear hk hv
  go_enter Tryz.func151, Tryz.ntmps151
  go_upto_region 1 with fail
  rw [← HW1.out]
  go_wp2_with fail
  go_ret
  unfold ValPost
  refine ⟨⟨some ⟨W1.heap.size, 0, none⟩, 2, by rw [HR.out]; rfl, ?_⟩, H1.out.1.alloc H1.out.1.size _⟩
  rw [HR.out]
  exact ints_new W1 [1, v] TIn
set_option maxRecDepth 100000 in
set_option maxHeartbeats 8000000 in
theorem val_46 (t : Tm) (A : Option Addr) (ca : Nat) (B : Option Addr) (cb : Nat) (K : Option Addr) (ck : Nat) (v : Int) (w : World) (hv : v = 1 ∨ v = 2) (hk : t.kind = 46) :
    Calls Tryz.prog 151 #[tmVal t A ca B cb K ck, .int .i64 v] w fun e w' => ValPost t v w e w' := by
  obtain ⟨W1, hW1⟩ : ∃ W1, W1 = (w.alloc (.cells (tmCells t A ca B cb K ck) TTm)).alloc (.cells #[.int .i64 v] 3) := ⟨_, rfl⟩
  have hb1 : Below w.heap.size w W1 := by rw [hW1]; exact ((Below.refl _ _).alloc (Nat.le_refl _) _).alloc (by simp) _
  have hx1 : W1.heap[w.heap.size]? = some (.cells (tmCells t A ca B cb K ck) TTm (0, 0)) := by rw [hW1]; exact (Below.heap_alloc _ _ _ (by simp)).trans (heap_alloc_new w _)
  have hv1 : W1.heap[w.heap.size + 1]? = some (.cells #[.int .i64 v] 3 (0, 0)) := by rw [hW1]; exact heap_new2 _ _ _
  have HW1 := Lib.hid hW1
  have H1 := Lib.hid (And.intro hb1 hv1)
  have HV := Lib.hid hv
  have k0 : W1.cell? ⟨w.heap.size, 0, none⟩ = some (.int .i64 t.kind) := cell_at hx1 rfl
  have kl := heap_lt hx1
  have cv := cell_at hv1 (j := 0) rfl
  have cl := heap_lt hv1
  clear hW1 hb1 hx1 hv1
  have HR : Hid (valT t v = [1, v]) := Lib.hid (by unfold valT; rw [if_neg (by omega)]; rw [if_neg (by omega)]; rw [if_neg (by omega)]; rw [if_pos (by omega)])
  have kk25 : (t.kind == 25) = false := by rw [hk]; rfl
  have kk26 : (t.kind == 26) = false := by rw [hk]; rfl
  have kk27 : (t.kind == 27) = false := by rw [hk]; rfl
  have kk28 : (t.kind == 28) = false := by rw [hk]; rfl
  have kk29 : (t.kind == 29) = false := by rw [hk]; rfl
  have kk46 : (t.kind == 46) = true := by rw [hk]; rfl
  clear hk hv
  go_enter Tryz.func151, Tryz.ntmps151
  go_upto_region 1 with fail
  rw [← HW1.out]
  go_wp2_with fail
  go_ret
  unfold ValPost
  refine ⟨⟨some ⟨W1.heap.size, 0, none⟩, 2, by rw [HR.out]; rfl, ?_⟩, H1.out.1.alloc H1.out.1.size _⟩
  rw [HR.out]
  exact ints_new W1 [1, v] TIn
set_option maxRecDepth 100000 in
set_option maxHeartbeats 8000000 in
theorem val_30 (t : Tm) (A : Option Addr) (ca : Nat) (B : Option Addr) (cb : Nat) (K : Option Addr) (ck : Nat) (v : Int) (w : World) (hv : v = 1 ∨ v = 2) (hk : t.kind = 30) :
    Calls Tryz.prog 151 #[tmVal t A ca B cb K ck, .int .i64 v] w fun e w' => ValPost t v w e w' := by
  obtain ⟨W1, hW1⟩ : ∃ W1, W1 = (w.alloc (.cells (tmCells t A ca B cb K ck) TTm)).alloc (.cells #[.int .i64 v] 3) := ⟨_, rfl⟩
  have hb1 : Below w.heap.size w W1 := by rw [hW1]; exact ((Below.refl _ _).alloc (Nat.le_refl _) _).alloc (by simp) _
  have hx1 : W1.heap[w.heap.size]? = some (.cells (tmCells t A ca B cb K ck) TTm (0, 0)) := by rw [hW1]; exact (Below.heap_alloc _ _ _ (by simp)).trans (heap_alloc_new w _)
  have hv1 : W1.heap[w.heap.size + 1]? = some (.cells #[.int .i64 v] 3 (0, 0)) := by rw [hW1]; exact heap_new2 _ _ _
  have HW1 := Lib.hid hW1
  have H1 := Lib.hid (And.intro hb1 hv1)
  have HV := Lib.hid hv
  have k0 : W1.cell? ⟨w.heap.size, 0, none⟩ = some (.int .i64 t.kind) := cell_at hx1 rfl
  have kl := heap_lt hx1
  have cv := cell_at hv1 (j := 0) rfl
  have cl := heap_lt hv1
  clear hW1 hb1 hx1 hv1
  have HR : Hid (valT t v = [v, 1]) := Lib.hid (by unfold valT; rw [if_neg (by omega)]; rw [if_neg (by omega)]; rw [if_neg (by omega)]; rw [if_neg (by omega)]; rw [if_pos (by omega)])
  have kk25 : (t.kind == 25) = false := by rw [hk]; rfl
  have kk26 : (t.kind == 26) = false := by rw [hk]; rfl
  have kk27 : (t.kind == 27) = false := by rw [hk]; rfl
  have kk28 : (t.kind == 28) = false := by rw [hk]; rfl
  have kk29 : (t.kind == 29) = false := by rw [hk]; rfl
  have kk46 : (t.kind == 46) = false := by rw [hk]; rfl
  have kk30 : (t.kind == 30) = true := by rw [hk]; rfl
  clear hk hv
  go_enter Tryz.func151, Tryz.ntmps151
  go_upto_region 1 with fail
  rw [← HW1.out]
  go_wp2_with fail
  go_ret
  unfold ValPost
  refine ⟨⟨some ⟨W1.heap.size, 0, none⟩, 2, by rw [HR.out]; rfl, ?_⟩, H1.out.1.alloc H1.out.1.size _⟩
  rw [HR.out]
  exact ints_new W1 [v, 1] TIn
set_option maxRecDepth 100000 in
set_option maxHeartbeats 8000000 in
theorem val_31 (t : Tm) (A : Option Addr) (ca : Nat) (B : Option Addr) (cb : Nat) (K : Option Addr) (ck : Nat) (v : Int) (w : World) (hv : v = 1 ∨ v = 2) (hk : t.kind = 31) :
    Calls Tryz.prog 151 #[tmVal t A ca B cb K ck, .int .i64 v] w fun e w' => ValPost t v w e w' := by
  obtain ⟨W1, hW1⟩ : ∃ W1, W1 = (w.alloc (.cells (tmCells t A ca B cb K ck) TTm)).alloc (.cells #[.int .i64 v] 3) := ⟨_, rfl⟩
  have hb1 : Below w.heap.size w W1 := by rw [hW1]; exact ((Below.refl _ _).alloc (Nat.le_refl _) _).alloc (by simp) _
  have hx1 : W1.heap[w.heap.size]? = some (.cells (tmCells t A ca B cb K ck) TTm (0, 0)) := by rw [hW1]; exact (Below.heap_alloc _ _ _ (by simp)).trans (heap_alloc_new w _)
  have hv1 : W1.heap[w.heap.size + 1]? = some (.cells #[.int .i64 v] 3 (0, 0)) := by rw [hW1]; exact heap_new2 _ _ _
  have HW1 := Lib.hid hW1
  have H1 := Lib.hid (And.intro hb1 hv1)
  have HV := Lib.hid hv
  have k0 : W1.cell? ⟨w.heap.size, 0, none⟩ = some (.int .i64 t.kind) := cell_at hx1 rfl
  have kl := heap_lt hx1
  have cv := cell_at hv1 (j := 0) rfl
  have cl := heap_lt hv1
  clear hW1 hb1 hx1 hv1
  have HR : Hid (valT t v = [v, 1]) := Lib.hid (by unfold valT; rw [if_neg (by omega)]; rw [if_neg (by omega)]; rw [if_neg (by omega)]; rw [if_neg (by omega)]; rw [if_pos (by omega)])
  have kk25 : (t.kind == 25) = false := by rw [hk]; rfl
  have kk26 : (t.kind == 26) = false := by rw [hk]; rfl
  have kk27 : (t.kind == 27) = false := by rw [hk]; rfl
  have kk28 : (t.kind == 28) = false := by rw [hk]; rfl
  have kk29 : (t.kind == 29) = false := by rw [hk]; rfl
  have kk46 : (t.kind == 46) = false := by rw [hk]; rfl
  have kk30 : (t.kind == 30) = false := by rw [hk]; rfl
  have kk31 : (t.kind == 31) = true := by rw [hk]; rfl
  clear hk hv
  go_enter Tryz.func151, Tryz.ntmps151
  go_upto_region 1 with fail
  rw [← HW1.out]
  go_wp2_with fail
  go_ret
  unfold ValPost
  refine ⟨⟨some ⟨W1.heap.size, 0, none⟩, 2, by rw [HR.out]; rfl, ?_⟩, H1.out.1.alloc H1.out.1.size _⟩
  rw [HR.out]
  exact ints_new W1 [v, 1] TIn
set_option maxRecDepth 100000 in
set_option maxHeartbeats 8000000 in
theorem val_32 (t : Tm) (A : Option Addr) (ca : Nat) (B : Option Addr) (cb : Nat) (K : Option Addr) (ck : Nat) (v : Int) (w : World) (hv : v = 1 ∨ v = 2) (hk : t.kind = 32) :
    Calls Tryz.prog 151 #[tmVal t A ca B cb K ck, .int .i64 v] w fun e w' => ValPost t v w e w' := by
  obtain ⟨W1, hW1⟩ : ∃ W1, W1 = (w.alloc (.cells (tmCells t A ca B cb K ck) TTm)).alloc (.cells #[.int .i64 v] 3) := ⟨_, rfl⟩
  have hb1 : Below w.heap.size w W1 := by rw [hW1]; exact ((Below.refl _ _).alloc (Nat.le_refl _) _).alloc (by simp) _
  have hx1 : W1.heap[w.heap.size]? = some (.cells (tmCells t A ca B cb K ck) TTm (0, 0)) := by rw [hW1]; exact (Below.heap_alloc _ _ _ (by simp)).trans (heap_alloc_new w _)
  have hv1 : W1.heap[w.heap.size + 1]? = some (.cells #[.int .i64 v] 3 (0, 0)) := by rw [hW1]; exact heap_new2 _ _ _
  have HW1 := Lib.hid hW1
  have H1 := Lib.hid (And.intro hb1 hv1)
  have HV := Lib.hid hv
  have k0 : W1.cell? ⟨w.heap.size, 0, none⟩ = some (.int .i64 t.kind) := cell_at hx1 rfl
  have kl := heap_lt hx1
  have cv := cell_at hv1 (j := 0) rfl
  have cl := heap_lt hv1
  clear hW1 hb1 hx1 hv1
  have HR : Hid (valT t v = [v]) := Lib.hid (by unfold valT; rw [if_neg (by omega)]; rw [if_neg (by omega)]; rw [if_neg (by omega)]; rw [if_neg (by omega)]; rw [if_neg (by omega)]; rw [if_pos (by omega)])
  have kk25 : (t.kind == 25) = false := by rw [hk]; rfl
  have kk26 : (t.kind == 26) = false := by rw [hk]; rfl
  have kk27 : (t.kind == 27) = false := by rw [hk]; rfl
  have kk28 : (t.kind == 28) = false := by rw [hk]; rfl
  have kk29 : (t.kind == 29) = false := by rw [hk]; rfl
  have kk46 : (t.kind == 46) = false := by rw [hk]; rfl
  have kk30 : (t.kind == 30) = false := by rw [hk]; rfl
  have kk31 : (t.kind == 31) = false := by rw [hk]; rfl
  have kk32 : (t.kind == 32) = true := by rw [hk]; rfl
  clear hk hv
  go_enter Tryz.func151, Tryz.ntmps151
  go_upto_region 1 with fail
  rw [← HW1.out]
  go_wp2_with fail
  go_ret
  unfold ValPost
  refine ⟨⟨some ⟨W1.heap.size, 0, none⟩, 1, by rw [HR.out]; rfl, ?_⟩, H1.out.1.alloc H1.out.1.size _⟩
  rw [HR.out]
  exact ints_new W1 [v] TIn
set_option maxRecDepth 100000 in
set_option maxHeartbeats 8000000 in
theorem val_33 (t : Tm) (A : Option Addr) (ca : Nat) (B : Option Addr) (cb : Nat) (K : Option Addr) (ck : Nat) (v : Int) (w : World) (hv : v = 1 ∨ v = 2) (hk : t.kind = 33) :
    Calls Tryz.prog 151 #[tmVal t A ca B cb K ck, .int .i64 v] w fun e w' => ValPost t v w e w' := by
  obtain ⟨W1, hW1⟩ : ∃ W1, W1 = (w.alloc (.cells (tmCells t A ca B cb K ck) TTm)).alloc (.cells #[.int .i64 v] 3) := ⟨_, rfl⟩
  have hb1 : Below w.heap.size w W1 := by rw [hW1]; exact ((Below.refl _ _).alloc (Nat.le_refl _) _).alloc (by simp) _
  have hx1 : W1.heap[w.heap.size]? = some (.cells (tmCells t A ca B cb K ck) TTm (0, 0)) := by rw [hW1]; exact (Below.heap_alloc _ _ _ (by simp)).trans (heap_alloc_new w _)
  have hv1 : W1.heap[w.heap.size + 1]? = some (.cells #[.int .i64 v] 3 (0, 0)) := by rw [hW1]; exact heap_new2 _ _ _
  have HW1 := Lib.hid hW1
  have H1 := Lib.hid (And.intro hb1 hv1)
  have HV := Lib.hid hv
  have k0 : W1.cell? ⟨w.heap.size, 0, none⟩ = some (.int .i64 t.kind) := cell_at hx1 rfl
  have kl := heap_lt hx1
  have cv := cell_at hv1 (j := 0) rfl
  have cl := heap_lt hv1
  clear hW1 hb1 hx1 hv1
  have HR : Hid (valT t v = [v]) := Lib.hid (by unfold valT; rw [if_neg (by omega)]; rw [if_neg (by omega)]; rw [if_neg (by omega)]; rw [if_neg (by omega)]; rw [if_neg (by omega)]; rw [if_pos (by omega)])
  have kk25 : (t.kind == 25) = false := by rw [hk]; rfl
  have kk26 : (t.kind == 26) = false := by rw [hk]; rfl
  have kk27 : (t.kind == 27) = false := by rw [hk]; rfl
  have kk28 : (t.kind == 28) = false := by rw [hk]; rfl
  have kk29 : (t.kind == 29) = false := by rw [hk]; rfl
  have kk46 : (t.kind == 46) = false := by rw [hk]; rfl
  have kk30 : (t.kind == 30) = false := by rw [hk]; rfl
  have kk31 : (t.kind == 31) = false := by rw [hk]; rfl
  have kk32 : (t.kind == 32) = false := by rw [hk]; rfl
  have kk33 : (t.kind == 33) = true := by rw [hk]; rfl
  clear hk hv
  go_enter Tryz.func151, Tryz.ntmps151
  go_upto_region 1 with fail
  rw [← HW1.out]
  go_wp2_with fail
  go_ret
  unfold ValPost
  refine ⟨⟨some ⟨W1.heap.size, 0, none⟩, 1, by rw [HR.out]; rfl, ?_⟩, H1.out.1.alloc H1.out.1.size _⟩
  rw [HR.out]
  exact ints_new W1 [v] TIn
set_option maxRecDepth 100000 in
set_option maxHeartbeats 8000000 in
theorem val_36 (t : Tm) (A : Option Addr) (ca : Nat) (B : Option Addr) (cb : Nat) (K : Option Addr) (ck : Nat) (v : Int) (w : World) (hv : v = 1 ∨ v = 2) (hk : t.kind = 36) :
    Calls Tryz.prog 151 #[tmVal t A ca B cb K ck, .int .i64 v] w fun e w' => ValPost t v w e w' := by
  obtain ⟨W1, hW1⟩ : ∃ W1, W1 = (w.alloc (.cells (tmCells t A ca B cb K ck) TTm)).alloc (.cells #[.int .i64 v] 3) := ⟨_, rfl⟩
  have hb1 : Below w.heap.size w W1 := by rw [hW1]; exact ((Below.refl _ _).alloc (Nat.le_refl _) _).alloc (by simp) _
  have hx1 : W1.heap[w.heap.size]? = some (.cells (tmCells t A ca B cb K ck) TTm (0, 0)) := by rw [hW1]; exact (Below.heap_alloc _ _ _ (by simp)).trans (heap_alloc_new w _)
  have hv1 : W1.heap[w.heap.size + 1]? = some (.cells #[.int .i64 v] 3 (0, 0)) := by rw [hW1]; exact heap_new2 _ _ _
  have HW1 := Lib.hid hW1
  have H1 := Lib.hid (And.intro hb1 hv1)
  have HV := Lib.hid hv
  have k0 : W1.cell? ⟨w.heap.size, 0, none⟩ = some (.int .i64 t.kind) := cell_at hx1 rfl
  have kl := heap_lt hx1
  have cv := cell_at hv1 (j := 0) rfl
  have cl := heap_lt hv1
  clear hW1 hb1 hx1 hv1
  have HR : Hid (valT t v = [v]) := Lib.hid (by unfold valT; rw [if_neg (by omega)]; rw [if_neg (by omega)]; rw [if_neg (by omega)]; rw [if_neg (by omega)]; rw [if_neg (by omega)]; rw [if_pos (by omega)])
  have kk25 : (t.kind == 25) = false := by rw [hk]; rfl
  have kk26 : (t.kind == 26) = false := by rw [hk]; rfl
  have kk27 : (t.kind == 27) = false := by rw [hk]; rfl
  have kk28 : (t.kind == 28) = false := by rw [hk]; rfl
  have kk29 : (t.kind == 29) = false := by rw [hk]; rfl
  have kk46 : (t.kind == 46) = false := by rw [hk]; rfl
  have kk30 : (t.kind == 30) = false := by rw [hk]; rfl
  have kk31 : (t.kind == 31) = false := by rw [hk]; rfl
  have kk32 : (t.kind == 32) = false := by rw [hk]; rfl
  have kk33 : (t.kind == 33) = false := by rw [hk]; rfl
  have kk36 : (t.kind == 36) = true := by rw [hk]; rfl
  clear hk hv
  go_enter Tryz.func151, Tryz.ntmps151
  go_upto_region 1 with fail
  rw [← HW1.out]
  go_wp2_with fail
  go_ret
  unfold ValPost
  refine ⟨⟨some ⟨W1.heap.size, 0, none⟩, 1, by rw [HR.out]; rfl, ?_⟩, H1.out.1.alloc H1.out.1.size _⟩
  rw [HR.out]
  exact ints_new W1 [v] TIn
set_option maxRecDepth 100000 in
set_option maxHeartbeats 8000000 in
theorem val_42 (t : Tm) (A : Option Addr) (ca : Nat) (B : Option Addr) (cb : Nat) (K : Option Addr) (ck : Nat) (v : Int) (w : World) (hv : v = 1 ∨ v = 2) (hk : t.kind = 42) :
    Calls Tryz.prog 151 #[tmVal t A ca B cb K ck, .int .i64 v] w fun e w' => ValPost t v w e w' := by
  obtain ⟨W1, hW1⟩ : ∃ W1, W1 = (w.alloc (.cells (tmCells t A ca B cb K ck) TTm)).alloc (.cells #[.int .i64 v] 3) := ⟨_, rfl⟩
  have hb1 : Below w.heap.size w W1 := by rw [hW1]; exact ((Below.refl _ _).alloc (Nat.le_refl _) _).alloc (by simp) _
  have hx1 : W1.heap[w.heap.size]? = some (.cells (tmCells t A ca B cb K ck) TTm (0, 0)) := by rw [hW1]; exact (Below.heap_alloc _ _ _ (by simp)).trans (heap_alloc_new w _)
  have hv1 : W1.heap[w.heap.size + 1]? = some (.cells #[.int .i64 v] 3 (0, 0)) := by rw [hW1]; exact heap_new2 _ _ _
  have HW1 := Lib.hid hW1
  have H1 := Lib.hid (And.intro hb1 hv1)
  have HV := Lib.hid hv
  have k0 : W1.cell? ⟨w.heap.size, 0, none⟩ = some (.int .i64 t.kind) := cell_at hx1 rfl
  have kl := heap_lt hx1
  have cv := cell_at hv1 (j := 0) rfl
  have cl := heap_lt hv1
  clear hW1 hb1 hx1 hv1
  have HR : Hid (valT t v = [v]) := Lib.hid (by unfold valT; rw [if_neg (by omega)]; rw [if_neg (by omega)]; rw [if_neg (by omega)]; rw [if_neg (by omega)]; rw [if_neg (by omega)]; rw [if_pos (by omega)])
  have kk25 : (t.kind == 25) = false := by rw [hk]; rfl
  have kk26 : (t.kind == 26) = false := by rw [hk]; rfl
  have kk27 : (t.kind == 27) = false := by rw [hk]; rfl
  have kk28 : (t.kind == 28) = false := by rw [hk]; rfl
  have kk29 : (t.kind == 29) = false := by rw [hk]; rfl
  have kk46 : (t.kind == 46) = false := by rw [hk]; rfl
  have kk30 : (t.kind == 30) = false := by rw [hk]; rfl
  have kk31 : (t.kind == 31) = false := by rw [hk]; rfl
  have kk32 : (t.kind == 32) = false := by rw [hk]; rfl
  have kk33 : (t.kind == 33) = false := by rw [hk]; rfl
  have kk36 : (t.kind == 36) = false := by rw [hk]; rfl
  have kk42 : (t.kind == 42) = true := by rw [hk]; rfl
  clear hk hv
  go_enter Tryz.func151, Tryz.ntmps151
  go_upto_region 1 with fail
  rw [← HW1.out]
  go_wp2_with fail
  go_ret
  unfold ValPost
  refine ⟨⟨some ⟨W1.heap.size, 0, none⟩, 1, by rw [HR.out]; rfl, ?_⟩, H1.out.1.alloc H1.out.1.size _⟩
  rw [HR.out]
  exact ints_new W1 [v] TIn
set_option maxRecDepth 100000 in
set_option maxHeartbeats 8000000 in
theorem val_35 (t : Tm) (A : Option Addr) (ca : Nat) (B : Option Addr) (cb : Nat) (K : Option Addr) (ck : Nat) (v : Int) (w : World) (hv : v = 1 ∨ v = 2) (hk : t.kind = 35) :
    Calls Tryz.prog 151 #[tmVal t A ca B cb K ck, .int .i64 v] w fun e w' => ValPost t v w e w' := by
  obtain ⟨W1, hW1⟩ : ∃ W1, W1 = (w.alloc (.cells (tmCells t A ca B cb K ck) TTm)).alloc (.cells #[.int .i64 v] 3) := ⟨_, rfl⟩
  have hb1 : Below w.heap.size w W1 := by rw [hW1]; exact ((Below.refl _ _).alloc (Nat.le_refl _) _).alloc (by simp) _
  have hx1 : W1.heap[w.heap.size]? = some (.cells (tmCells t A ca B cb K ck) TTm (0, 0)) := by rw [hW1]; exact (Below.heap_alloc _ _ _ (by simp)).trans (heap_alloc_new w _)
  have hv1 : W1.heap[w.heap.size + 1]? = some (.cells #[.int .i64 v] 3 (0, 0)) := by rw [hW1]; exact heap_new2 _ _ _
  have HW1 := Lib.hid hW1
  have H1 := Lib.hid (And.intro hb1 hv1)
  have HV := Lib.hid hv
  have k0 : W1.cell? ⟨w.heap.size, 0, none⟩ = some (.int .i64 t.kind) := cell_at hx1 rfl
  have kl := heap_lt hx1
  have cv := cell_at hv1 (j := 0) rfl
  have cl := heap_lt hv1
  clear hW1 hb1 hx1 hv1
  have HR : Hid (valT t v = [v, v]) := Lib.hid (by unfold valT; rw [if_neg (by omega)]; rw [if_neg (by omega)]; rw [if_neg (by omega)]; rw [if_neg (by omega)]; rw [if_neg (by omega)]; rw [if_neg (by omega)]; rw [if_neg (by omega)]; rw [if_pos (by omega)])
  have kk25 : (t.kind == 25) = false := by rw [hk]; rfl
  have kk26 : (t.kind == 26) = false := by rw [hk]; rfl
  have kk27 : (t.kind == 27) = false := by rw [hk]; rfl
  have kk28 : (t.kind == 28) = false := by rw [hk]; rfl
  have kk29 : (t.kind == 29) = false := by rw [hk]; rfl
  have kk46 : (t.kind == 46) = false := by rw [hk]; rfl
  have kk30 : (t.kind == 30) = false := by rw [hk]; rfl
  have kk31 : (t.kind == 31) = false := by rw [hk]; rfl
  have kk32 : (t.kind == 32) = false := by rw [hk]; rfl
  have kk33 : (t.kind == 33) = false := by rw [hk]; rfl
  have kk36 : (t.kind == 36) = false := by rw [hk]; rfl
  have kk42 : (t.kind == 42) = false := by rw [hk]; rfl
  have kk34 : (t.kind == 34) = false := by rw [hk]; rfl
  have kk35 : (t.kind == 35) = true := by rw [hk]; rfl
  clear hk hv
  go_enter Tryz.func151, Tryz.ntmps151
  go_upto_region 1 with fail
  rw [← HW1.out]
  go_wp2_with fail
  go_ret
  unfold ValPost
  refine ⟨⟨some ⟨W1.heap.size, 0, none⟩, 2, by rw [HR.out]; rfl, ?_⟩, H1.out.1.alloc H1.out.1.size _⟩
  rw [HR.out]
  exact ints_new W1 [v, v] TIn
set_option maxRecDepth 100000 in
set_option maxHeartbeats 8000000 in
theorem val_44 (t : Tm) (A : Option Addr) (ca : Nat) (B : Option Addr) (cb : Nat) (K : Option Addr) (ck : Nat) (v : Int) (w : World) (hv : v = 1 ∨ v = 2) (hk : t.kind = 44) :
    Calls Tryz.prog 151 #[tmVal t A ca B cb K ck, .int .i64 v] w fun e w' => ValPost t v w e w' := by
  obtain ⟨W1, hW1⟩ : ∃ W1, W1 = (w.alloc (.cells (tmCells t A ca B cb K ck) TTm)).alloc (.cells #[.int .i64 v] 3) := ⟨_, rfl⟩
  have hb1 : Below w.heap.size w W1 := by rw [hW1]; exact ((Below.refl _ _).alloc (Nat.le_refl _) _).alloc (by simp) _
  have hx1 : W1.heap[w.heap.size]? = some (.cells (tmCells t A ca B cb K ck) TTm (0, 0)) := by rw [hW1]; exact (Below.heap_alloc _ _ _ (by simp)).trans (heap_alloc_new w _)
  have hv1 : W1.heap[w.heap.size + 1]? = some (.cells #[.int .i64 v] 3 (0, 0)) := by rw [hW1]; exact heap_new2 _ _ _
  have HW1 := Lib.hid hW1
  have H1 := Lib.hid (And.intro hb1 hv1)
  have HV := Lib.hid hv
  have k0 : W1.cell? ⟨w.heap.size, 0, none⟩ = some (.int .i64 t.kind) := cell_at hx1 rfl
  have kl := heap_lt hx1
  have cv := cell_at hv1 (j := 0) rfl
  have cl := heap_lt hv1
  clear hW1 hb1 hx1 hv1
  have HR : Hid (valT t v = [2, 1]) := Lib.hid (by unfold valT; rw [if_neg (by omega)]; rw [if_neg (by omega)]; rw [if_neg (by omega)]; rw [if_neg (by omega)]; rw [if_neg (by omega)]; rw [if_neg (by omega)]; rw [if_neg (by omega)]; rw [if_neg (by omega)]; rw [if_neg (by omega)]; rw [if_neg (by omega)]; rw [if_neg (by omega)]; rw [if_neg (by omega)]; rw [if_neg (by omega)]; rw [if_neg (by omega)]; rw [if_pos (by omega)])
  have kk25 : (t.kind == 25) = false := by rw [hk]; rfl
  have kk26 : (t.kind == 26) = false := by rw [hk]; rfl
  have kk27 : (t.kind == 27) = false := by rw [hk]; rfl
  have kk28 : (t.kind == 28) = false := by rw [hk]; rfl
  have kk29 : (t.kind == 29) = false := by rw [hk]; rfl
  have kk46 : (t.kind == 46) = false := by rw [hk]; rfl
  have kk30 : (t.kind == 30) = false := by rw [hk]; rfl
  have kk31 : (t.kind == 31) = false := by rw [hk]; rfl
  have kk32 : (t.kind == 32) = false := by rw [hk]; rfl
  have kk33 : (t.kind == 33) = false := by rw [hk]; rfl
  have kk36 : (t.kind == 36) = false := by rw [hk]; rfl
  have kk42 : (t.kind == 42) = false := by rw [hk]; rfl
  have kk34 : (t.kind == 34) = false := by rw [hk]; rfl
  have kk35 : (t.kind == 35) = false := by rw [hk]; rfl
  have kk37 : (t.kind == 37) = false := by rw [hk]; rfl
  have kk38 : (t.kind == 38) = false := by rw [hk]; rfl
  have kk41 : (t.kind == 41) = false := by rw [hk]; rfl
  have kk39 : (t.kind == 39) = false := by rw [hk]; rfl
  have kk40 : (t.kind == 40) = false := by rw [hk]; rfl
  have kk43 : (t.kind == 43) = false := by rw [hk]; rfl
  have kk44 : (t.kind == 44) = true := by rw [hk]; rfl
  clear hk hv
  go_enter Tryz.func151, Tryz.ntmps151
  go_upto_region 1 with fail
  rw [← HW1.out]
  go_wp2_with fail
  go_ret
  unfold ValPost
  refine ⟨⟨some ⟨W1.heap.size, 0, none⟩, 2, by rw [HR.out]; rfl, ?_⟩, H1.out.1.alloc H1.out.1.size _⟩
  rw [HR.out]
  exact ints_new W1 [2, 1] TIn
set_option maxRecDepth 100000 in
set_option maxHeartbeats 8000000 in
theorem val_45 (t : Tm) (A : Option Addr) (ca : Nat) (B : Option Addr) (cb : Nat) (K : Option Addr) (ck : Nat) (v : Int) (w : World) (hv : v = 1 ∨ v = 2) (hk : t.kind = 45) :
    Calls Tryz.prog 151 #[tmVal t A ca B cb K ck, .int .i64 v] w fun e w' => ValPost t v w e w' := by
  obtain ⟨W1, hW1⟩ : ∃ W1, W1 = (w.alloc (.cells (tmCells t A ca B cb K ck) TTm)).alloc (.cells #[.int .i64 v] 3) := ⟨_, rfl⟩
  have hb1 : Below w.heap.size w W1 := by rw [hW1]; exact ((Below.refl _ _).alloc (Nat.le_refl _) _).alloc (by simp) _
  have hx1 : W1.heap[w.heap.size]? = some (.cells (tmCells t A ca B cb K ck) TTm (0, 0)) := by rw [hW1]; exact (Below.heap_alloc _ _ _ (by simp)).trans (heap_alloc_new w _)
  have hv1 : W1.heap[w.heap.size + 1]? = some (.cells #[.int .i64 v] 3 (0, 0)) := by rw [hW1]; exact heap_new2 _ _ _
  have HW1 := Lib.hid hW1
  have H1 := Lib.hid (And.intro hb1 hv1)
  have HV := Lib.hid hv
  have k0 : W1.cell? ⟨w.heap.size, 0, none⟩ = some (.int .i64 t.kind) := cell_at hx1 rfl
  have kl := heap_lt hx1
  have cv := cell_at hv1 (j := 0) rfl
  have cl := heap_lt hv1
  clear hW1 hb1 hx1 hv1
  have HR : Hid (valT t v = [v, 2, v]) := Lib.hid (by unfold valT; rw [if_neg (by omega)]; rw [if_neg (by omega)]; rw [if_neg (by omega)]; rw [if_neg (by omega)]; rw [if_neg (by omega)]; rw [if_neg (by omega)]; rw [if_neg (by omega)]; rw [if_neg (by omega)]; rw [if_neg (by omega)]; rw [if_neg (by omega)]; rw [if_neg (by omega)]; rw [if_neg (by omega)]; rw [if_neg (by omega)]; rw [if_neg (by omega)]; rw [if_neg (by omega)]; rw [if_pos (by omega)])
  have kk25 : (t.kind == 25) = false := by rw [hk]; rfl
  have kk26 : (t.kind == 26) = false := by rw [hk]; rfl
  have kk27 : (t.kind == 27) = false := by rw [hk]; rfl
  have kk28 : (t.kind == 28) = false := by rw [hk]; rfl
  have kk29 : (t.kind == 29) = false := by rw [hk]; rfl
  have kk46 : (t.kind == 46) = false := by rw [hk]; rfl
  have kk30 : (t.kind == 30) = false := by rw [hk]; rfl
  have kk31 : (t.kind == 31) = false := by rw [hk]; rfl
  have kk32 : (t.kind == 32) = false := by rw [hk]; rfl
  have kk33 : (t.kind == 33) = false := by rw [hk]; rfl
  have kk36 : (t.kind == 36) = false := by rw [hk]; rfl
  have kk42 : (t.kind == 42) = false := by rw [hk]; rfl
  have kk34 : (t.kind == 34) = false := by rw [hk]; rfl
  have kk35 : (t.kind == 35) = false := by rw [hk]; rfl
  have kk37 : (t.kind == 37) = false := by rw [hk]; rfl
  have kk38 : (t.kind == 38) = false := by rw [hk]; rfl
  have kk41 : (t.kind == 41) = false := by rw [hk]; rfl
  have kk39 : (t.kind == 39) = false := by rw [hk]; rfl
  have kk40 : (t.kind == 40) = false := by rw [hk]; rfl
  have kk43 : (t.kind == 43) = false := by rw [hk]; rfl
  have kk44 : (t.kind == 44) = false := by rw [hk]; rfl
  have kk45 : (t.kind == 45) = true := by rw [hk]; rfl
  clear hk hv
  go_enter Tryz.func151, Tryz.ntmps151
  go_upto_region 1 with fail
  rw [← HW1.out]
  go_wp2_with fail
  go_ret
  unfold ValPost
  refine ⟨⟨some ⟨W1.heap.size, 0, none⟩, 3, by rw [HR.out]; rfl, ?_⟩, H1.out.1.alloc H1.out.1.size _⟩
  rw [HR.out]
  exact ints_new W1 [v, 2, v] TIn
set_option maxRecDepth 100000 in
set_option maxHeartbeats 8000000 in
theorem val_37 (t : Tm) (A : Option Addr) (ca : Nat) (B : Option Addr) (cb : Nat) (K : Option Addr) (ck : Nat) (v : Int) (w : World) (hv : v = 1 ∨ v = 2) (hk : t.kind = 37) :
    Calls Tryz.prog 151 #[tmVal t A ca B cb K ck, .int .i64 v] w fun e w' => ValPost t v w e w' := by
  obtain ⟨W1, hW1⟩ : ∃ W1, W1 = (w.alloc (.cells (tmCells t A ca B cb K ck) TTm)).alloc (.cells #[.int .i64 v] 3) := ⟨_, rfl⟩
  have hb1 : Below w.heap.size w W1 := by rw [hW1]; exact ((Below.refl _ _).alloc (Nat.le_refl _) _).alloc (by simp) _
  have hx1 : W1.heap[w.heap.size]? = some (.cells (tmCells t A ca B cb K ck) TTm (0, 0)) := by rw [hW1]; exact (Below.heap_alloc _ _ _ (by simp)).trans (heap_alloc_new w _)
  have hv1 : W1.heap[w.heap.size + 1]? = some (.cells #[.int .i64 v] 3 (0, 0)) := by rw [hW1]; exact heap_new2 _ _ _
  have HW1 := Lib.hid hW1
  have H1 := Lib.hid (And.intro hb1 hv1)
  have HV := Lib.hid hv
  have k0 : W1.cell? ⟨w.heap.size, 0, none⟩ = some (.int .i64 t.kind) := cell_at hx1 rfl
  have kl := heap_lt hx1
  have cv := cell_at hv1 (j := 0) rfl
  have cl := heap_lt hv1
  clear hW1 hb1 hx1 hv1
  have kk25 : (t.kind == 25) = false := by rw [hk]; rfl
  have kk26 : (t.kind == 26) = false := by rw [hk]; rfl
  have kk27 : (t.kind == 27) = false := by rw [hk]; rfl
  have kk28 : (t.kind == 28) = false := by rw [hk]; rfl
  have kk29 : (t.kind == 29) = false := by rw [hk]; rfl
  have kk46 : (t.kind == 46) = false := by rw [hk]; rfl
  have kk30 : (t.kind == 30) = false := by rw [hk]; rfl
  have kk31 : (t.kind == 31) = false := by rw [hk]; rfl
  have kk32 : (t.kind == 32) = false := by rw [hk]; rfl
  have kk33 : (t.kind == 33) = false := by rw [hk]; rfl
  have kk36 : (t.kind == 36) = false := by rw [hk]; rfl
  have kk42 : (t.kind == 42) = false := by rw [hk]; rfl
  have kk34 : (t.kind == 34) = false := by rw [hk]; rfl
  have kk35 : (t.kind == 35) = false := by rw [hk]; rfl
  have kk37 : (t.kind == 37) = true := by rw [hk]; rfl
  rcases hv with rfl | rfl
  · have HR : Hid (valT t 1 = [1]) := Lib.hid (by unfold valT; rw [if_neg (by omega)]; rw [if_neg (by omega)]; rw [if_neg (by omega)]; rw [if_neg (by omega)]; rw [if_neg (by omega)]; rw [if_neg (by omega)]; rw [if_neg (by omega)]; rw [if_neg (by omega)]; rw [if_pos (by omega)]; rfl)
    clear hk
    go_enter Tryz.func151, Tryz.ntmps151
    go_upto_region 1 with fail
    rw [← HW1.out]
    go_wp2_with fail
    go_ret
    unfold ValPost
    refine ⟨⟨some ⟨W1.heap.size, 0, none⟩, 1, by rw [HR.out]; rfl, ?_⟩, H1.out.1.alloc H1.out.1.size _⟩
    rw [HR.out]
    exact ints_new W1 [1] TIn
  · have HR : Hid (valT t 2 = [0, 2]) := Lib.hid (by unfold valT; rw [if_neg (by omega)]; rw [if_neg (by omega)]; rw [if_neg (by omega)]; rw [if_neg (by omega)]; rw [if_neg (by omega)]; rw [if_neg (by omega)]; rw [if_neg (by omega)]; rw [if_neg (by omega)]; rw [if_pos (by omega)]; rfl)
    clear hk
    go_enter Tryz.func151, Tryz.ntmps151
    go_upto_region 1 with fail
    rw [← HW1.out]
    go_wp2_with fail
    go_ret
    unfold ValPost
    refine ⟨⟨some ⟨W1.heap.size, 0, none⟩, 2, by rw [HR.out]; rfl, ?_⟩, H1.out.1.alloc H1.out.1.size _⟩
    rw [HR.out]
    exact ints_new W1 [0, 2] TIn
set_option maxRecDepth 100000 in
set_option maxHeartbeats 8000000 in
theorem val_38 (t : Tm) (A : Option Addr) (ca : Nat) (B : Option Addr) (cb : Nat) (K : Option Addr) (ck : Nat) (v : Int) (w : World) (hv : v = 1 ∨ v = 2) (hk : t.kind = 38) :
    Calls Tryz.prog 151 #[tmVal t A ca B cb K ck, .int .i64 v] w fun e w' => ValPost t v w e w' := by
  obtain ⟨W1, hW1⟩ : ∃ W1, W1 = (w.alloc (.cells (tmCells t A ca B cb K ck) TTm)).alloc (.cells #[.int .i64 v] 3) := ⟨_, rfl⟩
  have hb1 : Below w.heap.size w W1 := by rw [hW1]; exact ((Below.refl _ _).alloc (Nat.le_refl _) _).alloc (by simp) _
  have hx1 : W1.heap[w.heap.size]? = some (.cells (tmCells t A ca B cb K ck) TTm (0, 0)) := by rw [hW1]; exact (Below.heap_alloc _ _ _ (by simp)).trans (heap_alloc_new w _)
  have hv1 : W1.heap[w.heap.size + 1]? = some (.cells #[.int .i64 v] 3 (0, 0)) := by rw [hW1]; exact heap_new2 _ _ _
  have HW1 := Lib.hid hW1
  have H1 := Lib.hid (And.intro hb1 hv1)
  have HV := Lib.hid hv
  have k0 : W1.cell? ⟨w.heap.size, 0, none⟩ = some (.int .i64 t.kind) := cell_at hx1 rfl
  have kl := heap_lt hx1
  have cv := cell_at hv1 (j := 0) rfl
  have cl := heap_lt hv1
  clear hW1 hb1 hx1 hv1
  have kk25 : (t.kind == 25) = false := by rw [hk]; rfl
  have kk26 : (t.kind == 26) = false := by rw [hk]; rfl
  have kk27 : (t.kind == 27) = false := by rw [hk]; rfl
  have kk28 : (t.kind == 28) = false := by rw [hk]; rfl
  have kk29 : (t.kind == 29) = false := by rw [hk]; rfl
  have kk46 : (t.kind == 46) = false := by rw [hk]; rfl
  have kk30 : (t.kind == 30) = false := by rw [hk]; rfl
  have kk31 : (t.kind == 31) = false := by rw [hk]; rfl
  have kk32 : (t.kind == 32) = false := by rw [hk]; rfl
  have kk33 : (t.kind == 33) = false := by rw [hk]; rfl
  have kk36 : (t.kind == 36) = false := by rw [hk]; rfl
  have kk42 : (t.kind == 42) = false := by rw [hk]; rfl
  have kk34 : (t.kind == 34) = false := by rw [hk]; rfl
  have kk35 : (t.kind == 35) = false := by rw [hk]; rfl
  have kk37 : (t.kind == 37) = false := by rw [hk]; rfl
  have kk38 : (t.kind == 38) = true := by rw [hk]; rfl
  rcases hv with rfl | rfl
  · have HR : Hid (valT t 1 = [0, 1]) := Lib.hid (by unfold valT; rw [if_neg (by omega)]; rw [if_neg (by omega)]; rw [if_neg (by omega)]; rw [if_neg (by omega)]; rw [if_neg (by omega)]; rw [if_neg (by omega)]; rw [if_neg (by omega)]; rw [if_neg (by omega)]; rw [if_neg (by omega)]; rw [if_pos (by omega)]; rfl)
    clear hk
    go_enter Tryz.func151, Tryz.ntmps151
    go_upto_region 1 with fail
    rw [← HW1.out]
    go_wp2_with fail
    go_ret
    unfold ValPost
    refine ⟨⟨some ⟨W1.heap.size, 0, none⟩, 2, by rw [HR.out]; rfl, ?_⟩, H1.out.1.alloc H1.out.1.size _⟩
    rw [HR.out]
    exact ints_new W1 [0, 1] TIn
  · have HR : Hid (valT t 2 = [2, 2]) := Lib.hid (by unfold valT; rw [if_neg (by omega)]; rw [if_neg (by omega)]; rw [if_neg (by omega)]; rw [if_neg (by omega)]; rw [if_neg (by omega)]; rw [if_neg (by omega)]; rw [if_neg (by omega)]; rw [if_neg (by omega)]; rw [if_neg (by omega)]; rw [if_pos (by omega)]; rfl)
    clear hk
    go_enter Tryz.func151, Tryz.ntmps151
    go_upto_region 1 with fail
    rw [← HW1.out]
    go_wp2_with fail
    go_ret
    unfold ValPost
    refine ⟨⟨some ⟨W1.heap.size, 0, none⟩, 2, by rw [HR.out]; rfl, ?_⟩, H1.out.1.alloc H1.out.1.size _⟩
    rw [HR.out]
    exact ints_new W1 [2, 2] TIn
set_option maxRecDepth 100000 in
set_option maxHeartbeats 8000000 in
theorem val_26 (t : Tm) (A : Option Addr) (ca : Nat) (B : Option Addr) (cb : Nat) (K : Option Addr) (ck : Nat) (v : Int) (w : World) (hv : v = 1 ∨ v = 2) (hk : t.kind = 26) :
    Calls Tryz.prog 151 #[tmVal t A ca B cb K ck, .int .i64 v] w fun e w' => ValPost t v w e w' := by
  obtain ⟨W1, hW1⟩ : ∃ W1, W1 = (w.alloc (.cells (tmCells t A ca B cb K ck) TTm)).alloc (.cells #[.int .i64 v] 3) := ⟨_, rfl⟩
  have hb1 : Below w.heap.size w W1 := by rw [hW1]; exact ((Below.refl _ _).alloc (Nat.le_refl _) _).alloc (by simp) _
  have hx1 : W1.heap[w.heap.size]? = some (.cells (tmCells t A ca B cb K ck) TTm (0, 0)) := by rw [hW1]; exact (Below.heap_alloc _ _ _ (by simp)).trans (heap_alloc_new w _)
  have hv1 : W1.heap[w.heap.size + 1]? = some (.cells #[.int .i64 v] 3 (0, 0)) := by rw [hW1]; exact heap_new2 _ _ _
  have HW1 := Lib.hid hW1
  have H1 := Lib.hid (And.intro hb1 hv1)
  have HV := Lib.hid hv
  have k0 : W1.cell? ⟨w.heap.size, 0, none⟩ = some (.int .i64 t.kind) := cell_at hx1 rfl
  have kl := heap_lt hx1
  have cv := cell_at hv1 (j := 0) rfl
  have cl := heap_lt hv1
  clear hW1 hb1 hx1 hv1
  have HR : Hid (valT t v = if v = 1 then [1] else []) := Lib.hid (by unfold valT; rw [if_neg (by omega)]; rw [if_pos (by omega)])
  have kk25 : (t.kind == 25) = false := by rw [hk]; rfl
  have kk26 : (t.kind == 26) = true := by rw [hk]; rfl
  clear hk hv
  go_enter Tryz.func151, Tryz.ntmps151
  go_upto_region 1 with fail
  rw [← HW1.out]
  go_wp2_with fail
  obtain ⟨W2, hW2⟩ : ∃ W2, W2 = W1.alloc (.cells #[.int .i64 1] TIn) := ⟨_, rfl⟩
  have hb2 : Below W1.heap.size W1 W2 := by rw [hW2]; exact (Below.refl _ _).alloc (Nat.le_refl _) _
  have HI : Hid (IntsAt W2 (some ⟨W1.heap.size, 0, none⟩) [1]) := Lib.hid (by rw [hW2]; exact ints_new W1 [1] TIn)
  have hv2 := (hb2.block _ (heap_lt H1.out.2)).trans H1.out.2
  have HB2 := Lib.hid hb2
  have HO := Lib.hid (only_any 1 v (some ⟨W1.heap.size, 0, none⟩) 1 1 (w.heap.size + 1) W2 (cell_at hv2 rfl))
  rw [← hW2]
  clear hW2 hb2 hv2
  refine HO.out.mono ?_
  rintro e w3 ⟨⟨h1, rfl⟩ | ⟨h1, rfl⟩, hb3⟩
  · have HX := Lib.hid (And.intro h1 hb3)
    clear h1 hb3
    go_wp2_with fail
    go_ret
    unfold ValPost
    refine ⟨⟨some ⟨W1.heap.size, 0, none⟩, 1, by rw [HR.out, if_pos HX.out.1]; rfl, ?_⟩, H1.out.1.then_ (HB2.out.then_ HX.out.2)⟩
    rw [HR.out, if_pos HX.out.1]
    exact HI.out.on HX.out.2
  · have HX := Lib.hid (And.intro h1 hb3)
    clear h1 hb3
    go_wp2_with fail
    go_ret
    unfold ValPost
    refine ⟨⟨none, 0, by rw [HR.out, if_neg HX.out.1]; rfl, ?_⟩, H1.out.1.then_ (HB2.out.then_ HX.out.2)⟩
    rw [HR.out, if_neg HX.out.1]
    exact ints_nil _ _
set_option maxRecDepth 100000 in
set_option maxHeartbeats 8000000 in
theorem val_34 (t : Tm) (A : Option Addr) (ca : Nat) (B : Option Addr) (cb : Nat) (K : Option Addr) (ck : Nat) (v : Int) (w : World) (hv : v = 1 ∨ v = 2) (hk : t.kind = 34) :
    Calls Tryz.prog 151 #[tmVal t A ca B cb K ck, .int .i64 v] w fun e w' => ValPost t v w e w' := by
  obtain ⟨W1, hW1⟩ : ∃ W1, W1 = (w.alloc (.cells (tmCells t A ca B cb K ck) TTm)).alloc (.cells #[.int .i64 v] 3) := ⟨_, rfl⟩
  have hb1 : Below w.heap.size w W1 := by rw [hW1]; exact ((Below.refl _ _).alloc (Nat.le_refl _) _).alloc (by simp) _
  have hx1 : W1.heap[w.heap.size]? = some (.cells (tmCells t A ca B cb K ck) TTm (0, 0)) := by rw [hW1]; exact (Below.heap_alloc _ _ _ (by simp)).trans (heap_alloc_new w _)
  have hv1 : W1.heap[w.heap.size + 1]? = some (.cells #[.int .i64 v] 3 (0, 0)) := by rw [hW1]; exact heap_new2 _ _ _
  have HW1 := Lib.hid hW1
  have H1 := Lib.hid (And.intro hb1 hv1)
  have HV := Lib.hid hv
  have k0 : W1.cell? ⟨w.heap.size, 0, none⟩ = some (.int .i64 t.kind) := cell_at hx1 rfl
  have kl := heap_lt hx1
  have cv := cell_at hv1 (j := 0) rfl
  have cl := heap_lt hv1
  clear hW1 hb1 hx1 hv1
  have HR : Hid (valT t v = if v = 2 then [1, 2] else []) := Lib.hid (by unfold valT; rw [if_neg (by omega)]; rw [if_neg (by omega)]; rw [if_neg (by omega)]; rw [if_neg (by omega)]; rw [if_neg (by omega)]; rw [if_neg (by omega)]; rw [if_pos (by omega)])
  have kk25 : (t.kind == 25) = false := by rw [hk]; rfl
  have kk26 : (t.kind == 26) = false := by rw [hk]; rfl
  have kk27 : (t.kind == 27) = false := by rw [hk]; rfl
  have kk28 : (t.kind == 28) = false := by rw [hk]; rfl
  have kk29 : (t.kind == 29) = false := by rw [hk]; rfl
  have kk46 : (t.kind == 46) = false := by rw [hk]; rfl
  have kk30 : (t.kind == 30) = false := by rw [hk]; rfl
  have kk31 : (t.kind == 31) = false := by rw [hk]; rfl
  have kk32 : (t.kind == 32) = false := by rw [hk]; rfl
  have kk33 : (t.kind == 33) = false := by rw [hk]; rfl
  have kk36 : (t.kind == 36) = false := by rw [hk]; rfl
  have kk42 : (t.kind == 42) = false := by rw [hk]; rfl
  have kk34 : (t.kind == 34) = true := by rw [hk]; rfl
  clear hk hv
  go_enter Tryz.func151, Tryz.ntmps151
  go_upto_region 1 with fail
  rw [← HW1.out]
  go_wp2_with fail
  obtain ⟨W2, hW2⟩ : ∃ W2, W2 = W1.alloc (.cells #[.int .i64 1, .int .i64 2] TIn) := ⟨_, rfl⟩
  have hb2 : Below W1.heap.size W1 W2 := by rw [hW2]; exact (Below.refl _ _).alloc (Nat.le_refl _) _
  have HI : Hid (IntsAt W2 (some ⟨W1.heap.size, 0, none⟩) [1, 2]) := Lib.hid (by rw [hW2]; exact ints_new W1 [1, 2] TIn)
  have hv2 := (hb2.block _ (heap_lt H1.out.2)).trans H1.out.2
  have HB2 := Lib.hid hb2
  have HO := Lib.hid (only_any 2 v (some ⟨W1.heap.size, 0, none⟩) 2 2 (w.heap.size + 1) W2 (cell_at hv2 rfl))
  rw [← hW2]
  clear hW2 hb2 hv2
  refine HO.out.mono ?_
  rintro e w3 ⟨⟨h1, rfl⟩ | ⟨h1, rfl⟩, hb3⟩
  · have HX := Lib.hid (And.intro h1 hb3)
    clear h1 hb3
    go_wp2_with fail
    go_ret
    unfold ValPost
    refine ⟨⟨some ⟨W1.heap.size, 0, none⟩, 2, by rw [HR.out, if_pos HX.out.1]; rfl, ?_⟩, H1.out.1.then_ (HB2.out.then_ HX.out.2)⟩
    rw [HR.out, if_pos HX.out.1]
    exact HI.out.on HX.out.2
  · have HX := Lib.hid (And.intro h1 hb3)
    clear h1 hb3
    go_wp2_with fail
    go_ret
    unfold ValPost
    refine ⟨⟨none, 0, by rw [HR.out, if_neg HX.out.1]; rfl, ?_⟩, H1.out.1.then_ (HB2.out.then_ HX.out.2)⟩
    rw [HR.out, if_neg HX.out.1]
    exact ints_nil _ _
set_option maxRecDepth 100000 in
set_option maxHeartbeats 8000000 in
theorem val_39 (t : Tm) (A : Option Addr) (ca : Nat) (B : Option Addr) (cb : Nat) (K : Option Addr) (ck : Nat) (v : Int) (w : World) (hv : v = 1 ∨ v = 2) (hk : t.kind = 39) :
    Calls Tryz.prog 151 #[tmVal t A ca B cb K ck, .int .i64 v] w fun e w' => ValPost t v w e w' := by
  obtain ⟨W1, hW1⟩ : ∃ W1, W1 = (w.alloc (.cells (tmCells t A ca B cb K ck) TTm)).alloc (.cells #[.int .i64 v] 3) := ⟨_, rfl⟩
  have hb1 : Below w.heap.size w W1 := by rw [hW1]; exact ((Below.refl _ _).alloc (Nat.le_refl _) _).alloc (by simp) _
  have hx1 : W1.heap[w.heap.size]? = some (.cells (tmCells t A ca B cb K ck) TTm (0, 0)) := by rw [hW1]; exact (Below.heap_alloc _ _ _ (by simp)).trans (heap_alloc_new w _)
  have hv1 : W1.heap[w.heap.size + 1]? = some (.cells #[.int .i64 v] 3 (0, 0)) := by rw [hW1]; exact heap_new2 _ _ _
  have HW1 := Lib.hid hW1
  have H1 := Lib.hid (And.intro hb1 hv1)
  have HV := Lib.hid hv
  have k0 : W1.cell? ⟨w.heap.size, 0, none⟩ = some (.int .i64 t.kind) := cell_at hx1 rfl
  have kl := heap_lt hx1
  have cv := cell_at hv1 (j := 0) rfl
  have cl := heap_lt hv1
  clear hW1 hb1 hx1 hv1
  have HR : Hid (valT t v = if v = 1 then [0, 2] else []) := Lib.hid (by unfold valT; rw [if_neg (by omega)]; rw [if_neg (by omega)]; rw [if_neg (by omega)]; rw [if_neg (by omega)]; rw [if_neg (by omega)]; rw [if_neg (by omega)]; rw [if_neg (by omega)]; rw [if_neg (by omega)]; rw [if_neg (by omega)]; rw [if_neg (by omega)]; rw [if_neg (by omega)]; rw [if_pos (by omega)])
  have kk25 : (t.kind == 25) = false := by rw [hk]; rfl
  have kk26 : (t.kind == 26) = false := by rw [hk]; rfl
  have kk27 : (t.kind == 27) = false := by rw [hk]; rfl
  have kk28 : (t.kind == 28) = false := by rw [hk]; rfl
  have kk29 : (t.kind == 29) = false := by rw [hk]; rfl
  have kk46 : (t.kind == 46) = false := by rw [hk]; rfl
  have kk30 : (t.kind == 30) = false := by rw [hk]; rfl
  have kk31 : (t.kind == 31) = false := by rw [hk]; rfl
  have kk32 : (t.kind == 32) = false := by rw [hk]; rfl
  have kk33 : (t.kind == 33) = false := by rw [hk]; rfl
  have kk36 : (t.kind == 36) = false := by rw [hk]; rfl
  have kk42 : (t.kind == 42) = false := by rw [hk]; rfl
  have kk34 : (t.kind == 34) = false := by rw [hk]; rfl
  have kk35 : (t.kind == 35) = false := by rw [hk]; rfl
  have kk37 : (t.kind == 37) = false := by rw [hk]; rfl
  have kk38 : (t.kind == 38) = false := by rw [hk]; rfl
  have kk41 : (t.kind == 41) = false := by rw [hk]; rfl
  have kk39 : (t.kind == 39) = true := by rw [hk]; rfl
  clear hk hv
  go_enter Tryz.func151, Tryz.ntmps151
  go_upto_region 1 with fail
  rw [← HW1.out]
  go_wp2_with fail
  obtain ⟨W2, hW2⟩ : ∃ W2, W2 = W1.alloc (.cells #[.int .i64 0, .int .i64 2] TIn) := ⟨_, rfl⟩
  have hb2 : Below W1.heap.size W1 W2 := by rw [hW2]; exact (Below.refl _ _).alloc (Nat.le_refl _) _
  have HI : Hid (IntsAt W2 (some ⟨W1.heap.size, 0, none⟩) [0, 2]) := Lib.hid (by rw [hW2]; exact ints_new W1 [0, 2] TIn)
  have hv2 := (hb2.block _ (heap_lt H1.out.2)).trans H1.out.2
  have HB2 := Lib.hid hb2
  have HO := Lib.hid (only_any 1 v (some ⟨W1.heap.size, 0, none⟩) 2 2 (w.heap.size + 1) W2 (cell_at hv2 rfl))
  rw [← hW2]
  clear hW2 hb2 hv2
  refine HO.out.mono ?_
  rintro e w3 ⟨⟨h1, rfl⟩ | ⟨h1, rfl⟩, hb3⟩
  · have HX := Lib.hid (And.intro h1 hb3)
    clear h1 hb3
    go_wp2_with fail
    go_ret
    unfold ValPost
    refine ⟨⟨some ⟨W1.heap.size, 0, none⟩, 2, by rw [HR.out, if_pos HX.out.1]; rfl, ?_⟩, H1.out.1.then_ (HB2.out.then_ HX.out.2)⟩
    rw [HR.out, if_pos HX.out.1]
    exact HI.out.on HX.out.2
  · have HX := Lib.hid (And.intro h1 hb3)
    clear h1 hb3
    go_wp2_with fail
    go_ret
    unfold ValPost
    refine ⟨⟨none, 0, by rw [HR.out, if_neg HX.out.1]; rfl, ?_⟩, H1.out.1.then_ (HB2.out.then_ HX.out.2)⟩
    rw [HR.out, if_neg HX.out.1]
    exact ints_nil _ _
set_option maxRecDepth 100000 in
set_option maxHeartbeats 8000000 in
theorem val_40 (t : Tm) (A : Option Addr) (ca : Nat) (B : Option Addr) (cb : Nat) (K : Option Addr) (ck : Nat) (v : Int) (w : World) (hv : v = 1 ∨ v = 2) (hk : t.kind = 40) :
    Calls Tryz.prog 151 #[tmVal t A ca B cb K ck, .int .i64 v] w fun e w' => ValPost t v w e w' := by
  obtain ⟨W1, hW1⟩ : ∃ W1, W1 = (w.alloc (.cells (tmCells t A ca B cb K ck) TTm)).alloc (.cells #[.int .i64 v] 3) := ⟨_, rfl⟩
  have hb1 : Below w.heap.size w W1 := by rw [hW1]; exact ((Below.refl _ _).alloc (Nat.le_refl _) _).alloc (by simp) _
  have hx1 : W1.heap[w.heap.size]? = some (.cells (tmCells t A ca B cb K ck) TTm (0, 0)) := by rw [hW1]; exact (Below.heap_alloc _ _ _ (by simp)).trans (heap_alloc_new w _)
  have hv1 : W1.heap[w.heap.size + 1]? = some (.cells #[.int .i64 v] 3 (0, 0)) := by rw [hW1]; exact heap_new2 _ _ _
  have HW1 := Lib.hid hW1
  have H1 := Lib.hid (And.intro hb1 hv1)
  have HV := Lib.hid hv
  have k0 : W1.cell? ⟨w.heap.size, 0, none⟩ = some (.int .i64 t.kind) := cell_at hx1 rfl
  have kl := heap_lt hx1
  have cv := cell_at hv1 (j := 0) rfl
  have cl := heap_lt hv1
  clear hW1 hb1 hx1 hv1
  have HR : Hid (valT t v = if v = 1 then [2] else []) := Lib.hid (by unfold valT; rw [if_neg (by omega)]; rw [if_neg (by omega)]; rw [if_neg (by omega)]; rw [if_neg (by omega)]; rw [if_neg (by omega)]; rw [if_neg (by omega)]; rw [if_neg (by omega)]; rw [if_neg (by omega)]; rw [if_neg (by omega)]; rw [if_neg (by omega)]; rw [if_neg (by omega)]; rw [if_neg (by omega)]; rw [if_pos (by omega)])
  have kk25 : (t.kind == 25) = false := by rw [hk]; rfl
  have kk26 : (t.kind == 26) = false := by rw [hk]; rfl
  have kk27 : (t.kind == 27) = false := by rw [hk]; rfl
  have kk28 : (t.kind == 28) = false := by rw [hk]; rfl
  have kk29 : (t.kind == 29) = false := by rw [hk]; rfl
  have kk46 : (t.kind == 46) = false := by rw [hk]; rfl
  have kk30 : (t.kind == 30) = false := by rw [hk]; rfl
  have kk31 : (t.kind == 31) = false := by rw [hk]; rfl
  have kk32 : (t.kind == 32) = false := by rw [hk]; rfl
  have kk33 : (t.kind == 33) = false := by rw [hk]; rfl
  have kk36 : (t.kind == 36) = false := by rw [hk]; rfl
  have kk42 : (t.kind == 42) = false := by rw [hk]; rfl
  have kk34 : (t.kind == 34) = false := by rw [hk]; rfl
  have kk35 : (t.kind == 35) = false := by rw [hk]; rfl
  have kk37 : (t.kind == 37) = false := by rw [hk]; rfl
  have kk38 : (t.kind == 38) = false := by rw [hk]; rfl
  have kk41 : (t.kind == 41) = false := by rw [hk]; rfl
  have kk39 : (t.kind == 39) = false := by rw [hk]; rfl
  have kk40 : (t.kind == 40) = true := by rw [hk]; rfl
  clear hk hv
  go_enter Tryz.func151, Tryz.ntmps151
  go_upto_region 1 with fail
  rw [← HW1.out]
  go_wp2_with fail
  obtain ⟨W2, hW2⟩ : ∃ W2, W2 = W1.alloc (.cells #[.int .i64 2] TIn) := ⟨_, rfl⟩
  have hb2 : Below W1.heap.size W1 W2 := by rw [hW2]; exact (Below.refl _ _).alloc (Nat.le_refl _) _
  have HI : Hid (IntsAt W2 (some ⟨W1.heap.size, 0, none⟩) [2]) := Lib.hid (by rw [hW2]; exact ints_new W1 [2] TIn)
  have hv2 := (hb2.block _ (heap_lt H1.out.2)).trans H1.out.2
  have HB2 := Lib.hid hb2
  have HO := Lib.hid (only_any 1 v (some ⟨W1.heap.size, 0, none⟩) 1 1 (w.heap.size + 1) W2 (cell_at hv2 rfl))
  rw [← hW2]
  clear hW2 hb2 hv2
  refine HO.out.mono ?_
  rintro e w3 ⟨⟨h1, rfl⟩ | ⟨h1, rfl⟩, hb3⟩
  · have HX := Lib.hid (And.intro h1 hb3)
    clear h1 hb3
    go_wp2_with fail
    go_ret
    unfold ValPost
    refine ⟨⟨some ⟨W1.heap.size, 0, none⟩, 1, by rw [HR.out, if_pos HX.out.1]; rfl, ?_⟩, H1.out.1.then_ (HB2.out.then_ HX.out.2)⟩
    rw [HR.out, if_pos HX.out.1]
    exact HI.out.on HX.out.2
  · have HX := Lib.hid (And.intro h1 hb3)
    clear h1 hb3
    go_wp2_with fail
    go_ret
    unfold ValPost
    refine ⟨⟨none, 0, by rw [HR.out, if_neg HX.out.1]; rfl, ?_⟩, H1.out.1.then_ (HB2.out.then_ HX.out.2)⟩
    rw [HR.out, if_neg HX.out.1]
    exact ints_nil _ _
set_option maxRecDepth 100000 in
set_option maxHeartbeats 8000000 in
theorem val_no (t : Tm) (A : Option Addr) (ca : Nat) (B : Option Addr) (cb : Nat) (K : Option Addr) (ck : Nat) (v : Int) (w : World) (hv : v = 1 ∨ v = 2) (hk : ¬ t.kind = 25 ∧ ¬ t.kind = 26 ∧ ¬ t.kind = 27 ∧ ¬ t.kind = 28 ∧ ¬ t.kind = 29 ∧ ¬ t.kind = 46 ∧ ¬ t.kind = 30 ∧ ¬ t.kind = 31 ∧ ¬ t.kind = 32 ∧ ¬ t.kind = 33 ∧ ¬ t.kind = 36 ∧ ¬ t.kind = 42 ∧ ¬ t.kind = 34 ∧ ¬ t.kind = 35 ∧ ¬ t.kind = 37 ∧ ¬ t.kind = 38 ∧ ¬ t.kind = 41 ∧ ¬ t.kind = 39 ∧ ¬ t.kind = 40 ∧ ¬ t.kind = 43 ∧ ¬ t.kind = 44 ∧ ¬ t.kind = 45) :
    Calls Tryz.prog 151 #[tmVal t A ca B cb K ck, .int .i64 v] w fun e w' => ValPost t v w e w' := by
  obtain ⟨W1, hW1⟩ : ∃ W1, W1 = (w.alloc (.cells (tmCells t A ca B cb K ck) TTm)).alloc (.cells #[.int .i64 v] 3) := ⟨_, rfl⟩
  have hb1 : Below w.heap.size w W1 := by rw [hW1]; exact ((Below.refl _ _).alloc (Nat.le_refl _) _).alloc (by simp) _
  have hx1 : W1.heap[w.heap.size]? = some (.cells (tmCells t A ca B cb K ck) TTm (0, 0)) := by rw [hW1]; exact (Below.heap_alloc _ _ _ (by simp)).trans (heap_alloc_new w _)
  have hv1 : W1.heap[w.heap.size + 1]? = some (.cells #[.int .i64 v] 3 (0, 0)) := by rw [hW1]; exact heap_new2 _ _ _
  have HW1 := Lib.hid hW1
  have H1 := Lib.hid (And.intro hb1 hv1)
  have HV := Lib.hid hv
  have k0 : W1.cell? ⟨w.heap.size, 0, none⟩ = some (.int .i64 t.kind) := cell_at hx1 rfl
  have kl := heap_lt hx1
  have cv := cell_at hv1 (j := 0) rfl
  have cl := heap_lt hv1
  clear hW1 hb1 hx1 hv1
  obtain ⟨g25, g26, g27, g28, g29, g46, g30, g31, g32, g33, g36, g42, g34, g35, g37, g38, g41, g39, g40, g43, g44, g45⟩ := hk
  have HR : Hid (valT t v = []) := Lib.hid (by unfold valT; rw [if_neg (by omega)]; rw [if_neg (by omega)]; rw [if_neg (by omega)]; rw [if_neg (by omega)]; rw [if_neg (by omega)]; rw [if_neg (by omega)]; rw [if_neg (by omega)]; rw [if_neg (by omega)]; rw [if_neg (by omega)]; rw [if_neg (by omega)]; rw [if_neg (by omega)]; rw [if_neg (by omega)]; rw [if_neg (by omega)]; rw [if_neg (by omega)]; rw [if_neg (by omega)]; rw [if_neg (by omega)])
  have kk25 : (t.kind == 25) = false := beq_no g25
  have kk26 : (t.kind == 26) = false := beq_no g26
  have kk27 : (t.kind == 27) = false := beq_no g27
  have kk28 : (t.kind == 28) = false := beq_no g28
  have kk29 : (t.kind == 29) = false := beq_no g29
  have kk46 : (t.kind == 46) = false := beq_no g46
  have kk30 : (t.kind == 30) = false := beq_no g30
  have kk31 : (t.kind == 31) = false := beq_no g31
  have kk32 : (t.kind == 32) = false := beq_no g32
  have kk33 : (t.kind == 33) = false := beq_no g33
  have kk36 : (t.kind == 36) = false := beq_no g36
  have kk42 : (t.kind == 42) = false := beq_no g42
  have kk34 : (t.kind == 34) = false := beq_no g34
  have kk35 : (t.kind == 35) = false := beq_no g35
  have kk37 : (t.kind == 37) = false := beq_no g37
  have kk38 : (t.kind == 38) = false := beq_no g38
  have kk41 : (t.kind == 41) = false := beq_no g41
  have kk39 : (t.kind == 39) = false := beq_no g39
  have kk40 : (t.kind == 40) = false := beq_no g40
  have kk43 : (t.kind == 43) = false := beq_no g43
  have kk44 : (t.kind == 44) = false := beq_no g44
  have kk45 : (t.kind == 45) = false := beq_no g45
  clear g25 g26 g27 g28 g29 g46 g30 g31 g32 g33 g36 g42 g34 g35 g37 g38 g41 g39 g40 g43 g44 g45 hv
  go_enter Tryz.func151, Tryz.ntmps151
  go_upto_region 1 with fail
  rw [← HW1.out]
  go_wp2_with fail
  go_ret
  unfold ValPost
  refine ⟨⟨none, 0, by rw [HR.out]; rfl, ?_⟩, H1.out.1⟩
  rw [HR.out]
  exact ints_nil _ _
end Go.Proofs.YtebiojmfieoncaaGreat
