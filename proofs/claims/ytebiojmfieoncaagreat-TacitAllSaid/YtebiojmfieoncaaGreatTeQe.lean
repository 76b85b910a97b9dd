/- abacusref24.train, by kinds (all but a pick). Condition: sizes within reach. -/
import Derived.Test.YtebiojmfieoncaaGreatTeQa
namespace Go.Proofs.YtebiojmfieoncaaGreat
open Go.RowKit

set_option maxRecDepth 100000 in
set_option maxHeartbeats 16000000 in
theorem dtrain_x (t : Tm) (A : Option Addr) (ca : Nat) (B : Option Addr) (cb : Nat) (K : Option Addr) (ck : Nat) (N : Nat) (lo : Nat) (b : Bool) (w : World) (hlo : lo ≤ w.heap.size) (hat : TmAt (mask w lo w.heap.size) t A B K) (hwf : WfT t) (hg : goodT b t = true) (hk : t.kind = 2) (hs : t.text.data.toList = [120]) :
    Calls Tryz.prog 82 #[tmVal t A ca B cb K ck] w (TrPost (trn (N + 1) t) lo w) := by
  obtain ⟨W1, hW1⟩ : ∃ W1, W1 = (w.alloc (.cells (tmCells t A ca B cb K ck) TTm)).alloc (.cells tm0 TTm) := ⟨_, rfl⟩
  have hb1 : Below w.heap.size w W1 := by rw [hW1]; exact ((Below.refl _ _).alloc (Nat.le_refl _) _).alloc (by simp) _
  have hx1 : W1.heap[w.heap.size]? = some (.cells (tmCells t A ca B cb K ck) TTm (0, 0)) := by rw [hW1]; exact (Below.heap_alloc _ _ _ (by simp)).trans (heap_alloc_new w _)
  have hz1 : W1.heap[w.heap.size + 1]? = some (.cells #[.int .i64 0, .string ⟨#[]⟩, .int .i64 0, .slice none 0 0, .slice none 0 0, .slice none 0 0] TTm (0, 0)) := by rw [hW1]; exact heap_new2 _ _ _
  have CX : Hid (TrCx w W1 lo) := Lib.hid ⟨hlo, by rw [hW1]; simp, hz1⟩
  have HW1 := Lib.hid hW1
  have HB1 := Lib.hid hb1
  have HX1 : Hid (∀ W, Below (w.heap.size + 1) W1 W → W.heap[w.heap.size]? = some (.cells (tmCells t A ca B cb K ck) TTm (0, 0))) := Lib.hid fun W h => (h.block _ (by omega)).trans hx1
  have HAT := Lib.hid hat
  have HWF := Lib.hid hwf
  have HG := Lib.hid hg
  have k0 : W1.cell? ⟨w.heap.size, 0, none⟩ = some (.int .i64 t.kind) := cell_at hx1 rfl
  have k1 : W1.cell? ⟨w.heap.size, 1, none⟩ = some (.string t.text) := cell_at hx1 rfl
  have k2 : W1.cell? ⟨w.heap.size, 2, none⟩ = some (.int .i64 t.n) := cell_at hx1 rfl
  have k3 : W1.cell? ⟨w.heap.size, 3, none⟩ = some (.slice A t.sh.length ca) := cell_at hx1 rfl
  have k4 : W1.cell? ⟨w.heap.size, 4, none⟩ = some (.slice B t.at_.length cb) := cell_at hx1 rfl
  have k5 : W1.cell? ⟨w.heap.size, 5, none⟩ = some (.slice K t.kids.length ck) := cell_at hx1 rfl
  have kl := heap_lt hx1
  have HR : Hid (trn (N + 1) t = primT ⟨#[91]⟩) := Lib.hid (by simp only [trn]; rw [if_pos hk, if_pos hs])
  have d3 : (t.text.toList == [120]) = true := str_yes hs
  have d4 : (t.text.toList == [121]) = false := str_no (by rw [hs]; decide)
  have kk2 : (t.kind == 2) = true := by rw [hk]; rfl
  clear hat hwf hb1 hx1 hz1 hW1 hg hlo hk hs
  go_enter Tryz.func82, Tryz.ntmps82
  go_upto_region 1 with fail
  rw [← HW1.out]
  go_wp2_with fail
  refine (dprim_any ⟨#[91]⟩ W1).mono ?_
  rintro e w2 ⟨rfl, hb2⟩
  have HB2 := Lib.hid hb2
  clear hb2
  have hz := (HB2.out.block (w.heap.size + 1) (heap_lt CX.out.hz)).trans CX.out.hz
  have z0 := cell_at hz (j := 0) rfl
  have z1 := cell_at hz (j := 1) rfl
  have z2 := cell_at hz (j := 2) rfl
  have z3 := cell_at hz (j := 3) rfl
  have z4 := cell_at hz (j := 4) rfl
  have z5 := cell_at hz (j := 5) rfl
  have fz := unfrozen hz
  have lz := heap_lt hz
  clear hz
  go_wp2_with fail
  obtain ⟨e1, e2, e3⟩ := tr_done (u := primT ⟨#[91]⟩) (A := none) (ca := 0) (B := none) (cb := 0) (K := none) (ck := 0) CX.out HB1.out HB2.out ⟨IntsAt.nil _ _, IntsAt.nil _ _, KidsAt.nil _ _⟩ rfl
  exact bodyPost_ret (results_tm1 (p := 2) rfl rfl e1) rfl (TrPost.mk HR.out e2 e3)
set_option maxRecDepth 100000 in
set_option maxHeartbeats 16000000 in
theorem dtrain_y (t : Tm) (A : Option Addr) (ca : Nat) (B : Option Addr) (cb : Nat) (K : Option Addr) (ck : Nat) (N : Nat) (lo : Nat) (b : Bool) (w : World) (hlo : lo ≤ w.heap.size) (hat : TmAt (mask w lo w.heap.size) t A B K) (hwf : WfT t) (hg : goodT b t = true) (hk : t.kind = 2) (hs : t.text.data.toList = [121]) :
    Calls Tryz.prog 82 #[tmVal t A ca B cb K ck] w (TrPost (trn (N + 1) t) lo w) := by
  obtain ⟨W1, hW1⟩ : ∃ W1, W1 = (w.alloc (.cells (tmCells t A ca B cb K ck) TTm)).alloc (.cells tm0 TTm) := ⟨_, rfl⟩
  have hb1 : Below w.heap.size w W1 := by rw [hW1]; exact ((Below.refl _ _).alloc (Nat.le_refl _) _).alloc (by simp) _
  have hx1 : W1.heap[w.heap.size]? = some (.cells (tmCells t A ca B cb K ck) TTm (0, 0)) := by rw [hW1]; exact (Below.heap_alloc _ _ _ (by simp)).trans (heap_alloc_new w _)
  have hz1 : W1.heap[w.heap.size + 1]? = some (.cells #[.int .i64 0, .string ⟨#[]⟩, .int .i64 0, .slice none 0 0, .slice none 0 0, .slice none 0 0] TTm (0, 0)) := by rw [hW1]; exact heap_new2 _ _ _
  have CX : Hid (TrCx w W1 lo) := Lib.hid ⟨hlo, by rw [hW1]; simp, hz1⟩
  have HW1 := Lib.hid hW1
  have HB1 := Lib.hid hb1
  have HX1 : Hid (∀ W, Below (w.heap.size + 1) W1 W → W.heap[w.heap.size]? = some (.cells (tmCells t A ca B cb K ck) TTm (0, 0))) := Lib.hid fun W h => (h.block _ (by omega)).trans hx1
  have HAT := Lib.hid hat
  have HWF := Lib.hid hwf
  have HG := Lib.hid hg
  have k0 : W1.cell? ⟨w.heap.size, 0, none⟩ = some (.int .i64 t.kind) := cell_at hx1 rfl
  have k1 : W1.cell? ⟨w.heap.size, 1, none⟩ = some (.string t.text) := cell_at hx1 rfl
  have k2 : W1.cell? ⟨w.heap.size, 2, none⟩ = some (.int .i64 t.n) := cell_at hx1 rfl
  have k3 : W1.cell? ⟨w.heap.size, 3, none⟩ = some (.slice A t.sh.length ca) := cell_at hx1 rfl
  have k4 : W1.cell? ⟨w.heap.size, 4, none⟩ = some (.slice B t.at_.length cb) := cell_at hx1 rfl
  have k5 : W1.cell? ⟨w.heap.size, 5, none⟩ = some (.slice K t.kids.length ck) := cell_at hx1 rfl
  have kl := heap_lt hx1
  have HR : Hid (trn (N + 1) t = primT ⟨#[93]⟩) := Lib.hid (by simp only [trn]; rw [if_pos hk, if_neg (by rw [hs]; decide), if_pos hs])
  have d3 : (t.text.toList == [121]) = true := str_yes hs
  have d4 : (t.text.toList == [120]) = false := str_no (by rw [hs]; decide)
  have kk2 : (t.kind == 2) = true := by rw [hk]; rfl
  clear hat hwf hb1 hx1 hz1 hW1 hg hlo hk hs
  go_enter Tryz.func82, Tryz.ntmps82
  go_upto_region 1 with fail
  rw [← HW1.out]
  go_wp2_with fail
  refine (dprim_any ⟨#[93]⟩ W1).mono ?_
  rintro e w2 ⟨rfl, hb2⟩
  have HB2 := Lib.hid hb2
  clear hb2
  have hz := (HB2.out.block (w.heap.size + 1) (heap_lt CX.out.hz)).trans CX.out.hz
  have z0 := cell_at hz (j := 0) rfl
  have z1 := cell_at hz (j := 1) rfl
  have z2 := cell_at hz (j := 2) rfl
  have z3 := cell_at hz (j := 3) rfl
  have z4 := cell_at hz (j := 4) rfl
  have z5 := cell_at hz (j := 5) rfl
  have fz := unfrozen hz
  have lz := heap_lt hz
  clear hz
  go_wp2_with fail
  obtain ⟨e1, e2, e3⟩ := tr_done (u := primT ⟨#[93]⟩) (A := none) (ca := 0) (B := none) (cb := 0) (K := none) (ck := 0) CX.out HB1.out HB2.out ⟨IntsAt.nil _ _, IntsAt.nil _ _, KidsAt.nil _ _⟩ rfl
  exact bodyPost_ret (results_tm1 (p := 2) rfl rfl e1) rfl (TrPost.mk HR.out e2 e3)
set_option maxRecDepth 100000 in
set_option maxHeartbeats 16000000 in
theorem dtrain_name (t : Tm) (A : Option Addr) (ca : Nat) (B : Option Addr) (cb : Nat) (K : Option Addr) (ck : Nat) (N : Nat) (lo : Nat) (b : Bool) (w : World) (hlo : lo ≤ w.heap.size) (hat : TmAt (mask w lo w.heap.size) t A B K) (hwf : WfT t) (hg : goodT b t = true) (hk : t.kind = 2) (hs1 : ¬ t.text.data.toList = [120]) (hs2 : ¬ t.text.data.toList = [121]) :
    Calls Tryz.prog 82 #[tmVal t A ca B cb K ck] w (TrPost (trn (N + 1) t) lo w) := by
  obtain ⟨W1, hW1⟩ : ∃ W1, W1 = (w.alloc (.cells (tmCells t A ca B cb K ck) TTm)).alloc (.cells tm0 TTm) := ⟨_, rfl⟩
  have hb1 : Below w.heap.size w W1 := by rw [hW1]; exact ((Below.refl _ _).alloc (Nat.le_refl _) _).alloc (by simp) _
  have hx1 : W1.heap[w.heap.size]? = some (.cells (tmCells t A ca B cb K ck) TTm (0, 0)) := by rw [hW1]; exact (Below.heap_alloc _ _ _ (by simp)).trans (heap_alloc_new w _)
  have hz1 : W1.heap[w.heap.size + 1]? = some (.cells #[.int .i64 0, .string ⟨#[]⟩, .int .i64 0, .slice none 0 0, .slice none 0 0, .slice none 0 0] TTm (0, 0)) := by rw [hW1]; exact heap_new2 _ _ _
  have CX : Hid (TrCx w W1 lo) := Lib.hid ⟨hlo, by rw [hW1]; simp, hz1⟩
  have HW1 := Lib.hid hW1
  have HB1 := Lib.hid hb1
  have HX1 : Hid (∀ W, Below (w.heap.size + 1) W1 W → W.heap[w.heap.size]? = some (.cells (tmCells t A ca B cb K ck) TTm (0, 0))) := Lib.hid fun W h => (h.block _ (by omega)).trans hx1
  have HAT := Lib.hid hat
  have HWF := Lib.hid hwf
  have HG := Lib.hid hg
  have k0 : W1.cell? ⟨w.heap.size, 0, none⟩ = some (.int .i64 t.kind) := cell_at hx1 rfl
  have k1 : W1.cell? ⟨w.heap.size, 1, none⟩ = some (.string t.text) := cell_at hx1 rfl
  have k2 : W1.cell? ⟨w.heap.size, 2, none⟩ = some (.int .i64 t.n) := cell_at hx1 rfl
  have k3 : W1.cell? ⟨w.heap.size, 3, none⟩ = some (.slice A t.sh.length ca) := cell_at hx1 rfl
  have k4 : W1.cell? ⟨w.heap.size, 4, none⟩ = some (.slice B t.at_.length cb) := cell_at hx1 rfl
  have k5 : W1.cell? ⟨w.heap.size, 5, none⟩ = some (.slice K t.kids.length ck) := cell_at hx1 rfl
  have kl := heap_lt hx1
  have HR : Hid (trn (N + 1) t = tOf 22 [t]) := Lib.hid (by simp only [trn]; rw [if_pos hk, if_neg hs1, if_neg hs2])
  have HTM : Hid (TmAt (mask W1 lo W1.heap.size) t A B K) := Lib.hid (mask_grow hat hb1)
  have d3 : (t.text.toList == [120]) = false := str_no hs1
  have d4 : (t.text.toList == [121]) = false := str_no hs2
  have kk2 : (t.kind == 2) = true := by rw [hk]; rfl
  clear hat hwf hb1 hx1 hz1 hW1 hg hlo hk hs1 hs2
  go_enter Tryz.func82, Tryz.ntmps82
  go_upto_region 1 with fail
  rw [← HW1.out]
  go_wp2_with fail
  obtain ⟨V, hV⟩ : ∃ V, V = W1.alloc (.cells (tmCells t A ca B cb K ck) TTm) := ⟨_, rfl⟩
  have HBV : Hid (Below W1.heap.size W1 V) := Lib.hid (by rw [hV]; exact (Below.refl _ _).alloc (Nat.le_refl _) _)
  have HKV : Hid (KidsAt (mask V lo W1.heap.size) (some ⟨W1.heap.size, 0, none⟩) [t] 0) := Lib.hid (by
    rw [hV]
    exact row_new_m (Nat.le_refl _) [(t, A, ca, B, cb, K, ck)] (fun x hx => by
      simp only [List.mem_cons, List.not_mem_nil, or_false] at hx
      subst hx
      exact HTM.out) rfl)
  rw [← hV]
  clear hV
  refine (dmade_any 22 [t] W1.heap.size 0 1 1 V (lo := lo) (hi := W1.heap.size) HBV.out.size HKV.out rfl (by omega) (by omega)).mono ?_
  rintro e w2 ⟨gm, cm, rfl, hm, hb2⟩
  have HU := Lib.hid hm
  have HB2 := Lib.hid (HBV.out.then_ hb2)
  clear hb2 hm
  have hz := (HB2.out.block (w.heap.size + 1) (heap_lt CX.out.hz)).trans CX.out.hz
  have z0 := cell_at hz (j := 0) rfl
  have z1 := cell_at hz (j := 1) rfl
  have z2 := cell_at hz (j := 2) rfl
  have z3 := cell_at hz (j := 3) rfl
  have z4 := cell_at hz (j := 4) rfl
  have z5 := cell_at hz (j := 5) rfl
  have fz := unfrozen hz
  have lz := heap_lt hz
  clear hz
  go_wp2_with fail
  obtain ⟨e1, e2, e3⟩ := tr_done (u := tOf 22 [t]) (A := none) (ca := 0) (B := none) (cb := 0) (K := (some ⟨gm, 0, none⟩)) (ck := cm) CX.out HB1.out HB2.out HU.out rfl
  exact bodyPost_ret (results_tm1 (p := 2) rfl rfl e1) rfl (TrPost.mk HR.out e2 e3)
set_option maxRecDepth 100000 in
set_option maxHeartbeats 16000000 in
theorem dtrain_lit (t : Tm) (A : Option Addr) (ca : Nat) (B : Option Addr) (cb : Nat) (K : Option Addr) (ck : Nat) (N : Nat) (lo : Nat) (b : Bool) (w : World) (hlo : lo ≤ w.heap.size) (hat : TmAt (mask w lo w.heap.size) t A B K) (hwf : WfT t) (hg : goodT b t = true) (hk : t.kind = 1) :
    Calls Tryz.prog 82 #[tmVal t A ca B cb K ck] w (TrPost (trn (N + 1) t) lo w) := by
  obtain ⟨W1, hW1⟩ : ∃ W1, W1 = (w.alloc (.cells (tmCells t A ca B cb K ck) TTm)).alloc (.cells tm0 TTm) := ⟨_, rfl⟩
  have hb1 : Below w.heap.size w W1 := by rw [hW1]; exact ((Below.refl _ _).alloc (Nat.le_refl _) _).alloc (by simp) _
  have hx1 : W1.heap[w.heap.size]? = some (.cells (tmCells t A ca B cb K ck) TTm (0, 0)) := by rw [hW1]; exact (Below.heap_alloc _ _ _ (by simp)).trans (heap_alloc_new w _)
  have hz1 : W1.heap[w.heap.size + 1]? = some (.cells #[.int .i64 0, .string ⟨#[]⟩, .int .i64 0, .slice none 0 0, .slice none 0 0, .slice none 0 0] TTm (0, 0)) := by rw [hW1]; exact heap_new2 _ _ _
  have CX : Hid (TrCx w W1 lo) := Lib.hid ⟨hlo, by rw [hW1]; simp, hz1⟩
  have HW1 := Lib.hid hW1
  have HB1 := Lib.hid hb1
  have HX1 : Hid (∀ W, Below (w.heap.size + 1) W1 W → W.heap[w.heap.size]? = some (.cells (tmCells t A ca B cb K ck) TTm (0, 0))) := Lib.hid fun W h => (h.block _ (by omega)).trans hx1
  have HAT := Lib.hid hat
  have HWF := Lib.hid hwf
  have HG := Lib.hid hg
  have k0 : W1.cell? ⟨w.heap.size, 0, none⟩ = some (.int .i64 t.kind) := cell_at hx1 rfl
  have k1 : W1.cell? ⟨w.heap.size, 1, none⟩ = some (.string t.text) := cell_at hx1 rfl
  have k2 : W1.cell? ⟨w.heap.size, 2, none⟩ = some (.int .i64 t.n) := cell_at hx1 rfl
  have k3 : W1.cell? ⟨w.heap.size, 3, none⟩ = some (.slice A t.sh.length ca) := cell_at hx1 rfl
  have k4 : W1.cell? ⟨w.heap.size, 4, none⟩ = some (.slice B t.at_.length cb) := cell_at hx1 rfl
  have k5 : W1.cell? ⟨w.heap.size, 5, none⟩ = some (.slice K t.kids.length ck) := cell_at hx1 rfl
  have kl := heap_lt hx1
  have HR : Hid (trn (N + 1) t = tOf 22 [t]) := Lib.hid (by simp only [trn]; rw [if_neg (by omega), if_neg (by omega), if_neg (by omega), if_neg (by omega)])
  have HTM : Hid (TmAt (mask W1 lo W1.heap.size) t A B K) := Lib.hid (mask_grow hat hb1)
  have kk2 : (t.kind == 2) = false := by rw [hk]; rfl
  have kk1 : (t.kind == 1) = true := by rw [hk]; rfl
  clear hat hwf hb1 hx1 hz1 hW1 hg hlo hk
  go_enter Tryz.func82, Tryz.ntmps82
  go_upto_region 1 with fail
  rw [← HW1.out]
  go_wp2_with fail
  obtain ⟨V, hV⟩ : ∃ V, V = W1.alloc (.cells (tmCells t A ca B cb K ck) TTm) := ⟨_, rfl⟩
  have HBV : Hid (Below W1.heap.size W1 V) := Lib.hid (by rw [hV]; exact (Below.refl _ _).alloc (Nat.le_refl _) _)
  have HKV : Hid (KidsAt (mask V lo W1.heap.size) (some ⟨W1.heap.size, 0, none⟩) [t] 0) := Lib.hid (by
    rw [hV]
    exact row_new_m (Nat.le_refl _) [(t, A, ca, B, cb, K, ck)] (fun x hx => by
      simp only [List.mem_cons, List.not_mem_nil, or_false] at hx
      subst hx
      exact HTM.out) rfl)
  rw [← hV]
  clear hV
  refine (dmade_any 22 [t] W1.heap.size 0 1 1 V (lo := lo) (hi := W1.heap.size) HBV.out.size HKV.out rfl (by omega) (by omega)).mono ?_
  rintro e w2 ⟨gm, cm, rfl, hm, hb2⟩
  have HU := Lib.hid hm
  have HB2 := Lib.hid (HBV.out.then_ hb2)
  clear hb2 hm
  have hz := (HB2.out.block (w.heap.size + 1) (heap_lt CX.out.hz)).trans CX.out.hz
  have z0 := cell_at hz (j := 0) rfl
  have z1 := cell_at hz (j := 1) rfl
  have z2 := cell_at hz (j := 2) rfl
  have z3 := cell_at hz (j := 3) rfl
  have z4 := cell_at hz (j := 4) rfl
  have z5 := cell_at hz (j := 5) rfl
  have fz := unfrozen hz
  have lz := heap_lt hz
  clear hz
  go_wp2_with fail
  obtain ⟨e1, e2, e3⟩ := tr_done (u := tOf 22 [t]) (A := none) (ca := 0) (B := none) (cb := 0) (K := (some ⟨gm, 0, none⟩)) (ck := cm) CX.out HB1.out HB2.out HU.out rfl
  exact bodyPost_ret (results_tm1 (p := 2) rfl rfl e1) rfl (TrPost.mk HR.out e2 e3)
set_option maxRecDepth 100000 in
set_option maxHeartbeats 16000000 in
theorem dtrain_mon (t : Tm) (A : Option Addr) (ca : Nat) (B : Option Addr) (cb : Nat) (K : Option Addr) (ck : Nat) (N : Nat) (ihT : TrN 82 N) (ihD : TdN 124 N) (lo : Nat) (b : Bool) (w : World) (hN : cnt t ≤ N + 1) (hlo : lo ≤ w.heap.size) (hat : TmAt (mask w lo w.heap.size) t A B K) (hwf : WfT t) (hg : goodT b t = true) (hk : t.kind = 3) :
    Calls Tryz.prog 82 #[tmVal t A ca B cb K ck] w (TrPost (trn (N + 1) t) lo w) := by
  obtain ⟨W1, hW1⟩ : ∃ W1, W1 = (w.alloc (.cells (tmCells t A ca B cb K ck) TTm)).alloc (.cells tm0 TTm) := ⟨_, rfl⟩
  have hb1 : Below w.heap.size w W1 := by rw [hW1]; exact ((Below.refl _ _).alloc (Nat.le_refl _) _).alloc (by simp) _
  have hx1 : W1.heap[w.heap.size]? = some (.cells (tmCells t A ca B cb K ck) TTm (0, 0)) := by rw [hW1]; exact (Below.heap_alloc _ _ _ (by simp)).trans (heap_alloc_new w _)
  have hz1 : W1.heap[w.heap.size + 1]? = some (.cells #[.int .i64 0, .string ⟨#[]⟩, .int .i64 0, .slice none 0 0, .slice none 0 0, .slice none 0 0] TTm (0, 0)) := by rw [hW1]; exact heap_new2 _ _ _
  have CX : Hid (TrCx w W1 lo) := Lib.hid ⟨hlo, by rw [hW1]; simp, hz1⟩
  have HW1 := Lib.hid hW1
  have HB1 := Lib.hid hb1
  have HX1 : Hid (∀ W, Below (w.heap.size + 1) W1 W → W.heap[w.heap.size]? = some (.cells (tmCells t A ca B cb K ck) TTm (0, 0))) := Lib.hid fun W h => (h.block _ (by omega)).trans hx1
  have HAT := Lib.hid hat
  have HWF := Lib.hid hwf
  have HG := Lib.hid hg
  have k0 : W1.cell? ⟨w.heap.size, 0, none⟩ = some (.int .i64 t.kind) := cell_at hx1 rfl
  have k1 : W1.cell? ⟨w.heap.size, 1, none⟩ = some (.string t.text) := cell_at hx1 rfl
  have k2 : W1.cell? ⟨w.heap.size, 2, none⟩ = some (.int .i64 t.n) := cell_at hx1 rfl
  have k3 : W1.cell? ⟨w.heap.size, 3, none⟩ = some (.slice A t.sh.length ca) := cell_at hx1 rfl
  have k4 : W1.cell? ⟨w.heap.size, 4, none⟩ = some (.slice B t.at_.length cb) := cell_at hx1 rfl
  have k5 : W1.cell? ⟨w.heap.size, 5, none⟩ = some (.slice K t.kids.length ck) := cell_at hx1 rfl
  have kl := heap_lt hx1
  obtain ⟨x, y, hks, _, hfy⟩ := two_kids hg (c := 118) (d := 110) (by rw [hk]; decide) (by omega) (by omega) (by omega)
  obtain ⟨gk0, ok0, hK0, px⟩ := hat.kids.get (i := 0) (t := x) (by rw [hks]; rfl)
  obtain ⟨Ax, cax, Bx, cbx, Kx, ckx, xl, x0, x1, x2, x3, x4, x5, hatx⟩ := px.cells
  obtain ⟨gk1, ok1, hK1, py⟩ := hat.kids.get (i := 1) (t := y) (by rw [hks]; rfl)
  rw [hK0] at hK1
  simp only [Option.some.injEq, Addr.mk.injEq, and_true] at hK1
  obtain ⟨rfl, rfl⟩ := hK1
  obtain ⟨Ay, cay, By, cby, Ky, cky, yl, y0, y1, y2, y3, y4, y5, haty⟩ := py.cells
  have hkl : t.kids.length = 2 := by rw [hks]; rfl
  rw [hkl, hK0] at k5
  have FC : Hid (∀ W, Below (w.heap.size + 1) W1 W → W.cell? ⟨gk0, ok0, none⟩ = some (.int .i64 x.kind) ∧ W.cell? ⟨gk0, ok0 + 1, none⟩ = some (.string x.text) ∧ W.cell? ⟨gk0, ok0 + 2, none⟩ = some (.int .i64 x.n) ∧ W.cell? ⟨gk0, ok0 + 3, none⟩ = some (.slice Ax x.sh.length cax) ∧ W.cell? ⟨gk0, ok0 + 4, none⟩ = some (.slice Bx x.at_.length cbx) ∧ W.cell? ⟨gk0, ok0 + 5, none⟩ = some (.slice Kx x.kids.length ckx) ∧ W.cell? ⟨gk0, ok0 + 6, none⟩ = some (.int .i64 y.kind) ∧ W.cell? ⟨gk0, ok0 + 7, none⟩ = some (.string y.text) ∧ W.cell? ⟨gk0, ok0 + 8, none⟩ = some (.int .i64 y.n) ∧ W.cell? ⟨gk0, ok0 + 9, none⟩ = some (.slice Ay y.sh.length cay) ∧ W.cell? ⟨gk0, ok0 + 10, none⟩ = some (.slice By y.at_.length cby) ∧ W.cell? ⟨gk0, ok0 + 11, none⟩ = some (.slice Ky y.kids.length cky) ∧ gk0 < W.heap.size ∧ W.cell? ⟨w.heap.size, 5, none⟩ = some (.slice (some ⟨gk0, ok0, none⟩) 2 ck) ∧ w.heap.size < W.heap.size) := Lib.hid fun W h => by
    have h2 : Below w.heap.size w W := hb1.trans (h.mono (Nat.le_succ _))
    have key : ∀ j v, (mask w lo w.heap.size).cell? ⟨gk0, j, none⟩ = some v → W.cell? ⟨gk0, j, none⟩ = some v := fun j v hv => (h2.cell (cell_lt' (mask_cell hv).2)).trans (mask_cell hv).2
    have kk5 : W.cell? ⟨w.heap.size, 5, none⟩ = some (.slice (some ⟨gk0, ok0, none⟩) 2 ck) := by
      rw [← hK0, ← hkl]
      exact cell_at (HX1.out W h) rfl
    exact ⟨key _ _ x0, key _ _ x1, key _ _ x2, key _ _ x3, key _ _ x4, key _ _ x5, key _ _ y0, key _ _ y1, key _ _ y2, key _ _ y3, key _ _ y4, key _ _ y5, Nat.lt_of_lt_of_le xl (by rw [mask_size]; exact h2.size), kk5, heap_lt (HX1.out W h)⟩
  have C0 : Hid (∀ W, Below W1.heap.size W1 W → Calls Tryz.prog 124 #[tmVal x Ax cax Bx cbx Kx ckx, .int .i64 1] W (TrPost (trd N 1 x) lo W)) := Lib.hid fun W h => ihD x Ax cax Bx cbx Kx ckx 1 lo _ W (by have := cnt_kid (t := t) (i := 0) (k := x) (by rw [hks]; rfl); omega) (Nat.le_trans hlo (hb1.then_ h).size) (mask_grow hatx (hb1.then_ h)) (hwf.node.each x (by rw [hks]; simp)) (good_kid hg (i := 0) (k := x) (by rw [hks]; rfl)) (by omega)
  have C1 : Hid (∀ W, Below W1.heap.size W1 W → Calls Tryz.prog 82 #[tmVal y Ay cay By cby Ky cky] W (TrPost (trn N y) lo W)) := Lib.hid fun W h => ihT y Ay cay By cby Ky cky lo _ W (by have := cnt_kid (t := t) (i := 1) (k := y) (by rw [hks]; rfl); omega) (Nat.le_trans hlo (hb1.then_ h).size) (mask_grow haty (hb1.then_ h)) (hwf.node.each y (by rw [hks]; simp)) (good_kid hg (i := 1) (k := y) (by rw [hks]; rfl)) (fits_noun hfy)
  have HR : Hid (trn (N + 1) t = tOf 46 [trd N 1 x, trn N y]) := Lib.hid (by simp only [trn]; rw [if_neg (by omega), if_pos hk]; unfold nth; rw [hks]; rfl)
  have kk2 : (t.kind == 2) = false := by rw [hk]; rfl
  have kk1 : (t.kind == 1) = false := by rw [hk]; rfl
  have kk3 : (t.kind == 3) = true := by rw [hk]; rfl
  clear px py hatx haty hK0 hks hkl hfy
  clear hat hwf hb1 hx1 hz1 hW1 hg hN hlo hk ihT ihD xl x0 x1 x2 x3 x4 x5 yl y0 y1 y2 y3 y4 y5
  go_enter Tryz.func82, Tryz.ntmps82
  go_upto_region 1 with fail
  rw [← HW1.out]
  go_upto_region 11 with fail
  refine dtr11 CX.out FC.out C0.out C1.out ?_ ?_
  · exact fun _ _ _ _ _ h => h
  intro _ _ _ _ _ _ _ _ _ _ _ _ X c W W' hb hm hW'
  have HE := Lib.hid (tr_done (u := tOf 46 [trd N 1 x, trn N y]) (A := none) (ca := 0) (B := none) (cb := 0) (K := X) (ck := c) CX.out HB1.out hb hm hW')
  clear hb hm hW'
  go_wp2_with fail
  exact bodyPost_ret (results_tm1 (p := 2) rfl rfl HE.out.1) rfl (TrPost.mk HR.out HE.out.2.1 HE.out.2.2)
set_option maxRecDepth 100000 in
set_option maxHeartbeats 16000000 in
theorem dtrain_dy (t : Tm) (A : Option Addr) (ca : Nat) (B : Option Addr) (cb : Nat) (K : Option Addr) (ck : Nat) (N : Nat) (ihT : TrN 82 N) (ihD : TdN 124 N) (lo : Nat) (b : Bool) (w : World) (hN : cnt t ≤ N + 1) (hlo : lo ≤ w.heap.size) (hat : TmAt (mask w lo w.heap.size) t A B K) (hwf : WfT t) (hg : goodT b t = true) (hk : t.kind = 4) :
    Calls Tryz.prog 82 #[tmVal t A ca B cb K ck] w (TrPost (trn (N + 1) t) lo w) := by
  obtain ⟨W1, hW1⟩ : ∃ W1, W1 = (w.alloc (.cells (tmCells t A ca B cb K ck) TTm)).alloc (.cells tm0 TTm) := ⟨_, rfl⟩
  have hb1 : Below w.heap.size w W1 := by rw [hW1]; exact ((Below.refl _ _).alloc (Nat.le_refl _) _).alloc (by simp) _
  have hx1 : W1.heap[w.heap.size]? = some (.cells (tmCells t A ca B cb K ck) TTm (0, 0)) := by rw [hW1]; exact (Below.heap_alloc _ _ _ (by simp)).trans (heap_alloc_new w _)
  have hz1 : W1.heap[w.heap.size + 1]? = some (.cells #[.int .i64 0, .string ⟨#[]⟩, .int .i64 0, .slice none 0 0, .slice none 0 0, .slice none 0 0] TTm (0, 0)) := by rw [hW1]; exact heap_new2 _ _ _
  have CX : Hid (TrCx w W1 lo) := Lib.hid ⟨hlo, by rw [hW1]; simp, hz1⟩
  have HW1 := Lib.hid hW1
  have HB1 := Lib.hid hb1
  have HX1 : Hid (∀ W, Below (w.heap.size + 1) W1 W → W.heap[w.heap.size]? = some (.cells (tmCells t A ca B cb K ck) TTm (0, 0))) := Lib.hid fun W h => (h.block _ (by omega)).trans hx1
  have HAT := Lib.hid hat
  have HWF := Lib.hid hwf
  have HG := Lib.hid hg
  have k0 : W1.cell? ⟨w.heap.size, 0, none⟩ = some (.int .i64 t.kind) := cell_at hx1 rfl
  have k1 : W1.cell? ⟨w.heap.size, 1, none⟩ = some (.string t.text) := cell_at hx1 rfl
  have k2 : W1.cell? ⟨w.heap.size, 2, none⟩ = some (.int .i64 t.n) := cell_at hx1 rfl
  have k3 : W1.cell? ⟨w.heap.size, 3, none⟩ = some (.slice A t.sh.length ca) := cell_at hx1 rfl
  have k4 : W1.cell? ⟨w.heap.size, 4, none⟩ = some (.slice B t.at_.length cb) := cell_at hx1 rfl
  have k5 : W1.cell? ⟨w.heap.size, 5, none⟩ = some (.slice K t.kids.length ck) := cell_at hx1 rfl
  have kl := heap_lt hx1
  obtain ⟨x, y, z, hks, _, hfy, hfz⟩ := three_fits hg (c := 118) (d := 110) (e := 110) (by rw [hk]; decide) (by omega) (by omega) (by omega)
  obtain ⟨gk0, ok0, hK0, px⟩ := hat.kids.get (i := 0) (t := x) (by rw [hks]; rfl)
  obtain ⟨Ax, cax, Bx, cbx, Kx, ckx, xl, x0, x1, x2, x3, x4, x5, hatx⟩ := px.cells
  obtain ⟨gk1, ok1, hK1, py⟩ := hat.kids.get (i := 1) (t := y) (by rw [hks]; rfl)
  rw [hK0] at hK1
  simp only [Option.some.injEq, Addr.mk.injEq, and_true] at hK1
  obtain ⟨rfl, rfl⟩ := hK1
  obtain ⟨Ay, cay, By, cby, Ky, cky, yl, y0, y1, y2, y3, y4, y5, haty⟩ := py.cells
  obtain ⟨gk2, ok2, hK2, pz⟩ := hat.kids.get (i := 2) (t := z) (by rw [hks]; rfl)
  rw [hK0] at hK2
  simp only [Option.some.injEq, Addr.mk.injEq, and_true] at hK2
  obtain ⟨rfl, rfl⟩ := hK2
  obtain ⟨Az, caz, Bz, cbz, Kz, ckz, zl, z0, z1, z2, z3, z4, z5, hatz⟩ := pz.cells
  have hkl : t.kids.length = 3 := by rw [hks]; rfl
  rw [hkl, hK0] at k5
  have FC : Hid (∀ W, Below (w.heap.size + 1) W1 W → W.cell? ⟨gk0, ok0, none⟩ = some (.int .i64 x.kind) ∧ W.cell? ⟨gk0, ok0 + 1, none⟩ = some (.string x.text) ∧ W.cell? ⟨gk0, ok0 + 2, none⟩ = some (.int .i64 x.n) ∧ W.cell? ⟨gk0, ok0 + 3, none⟩ = some (.slice Ax x.sh.length cax) ∧ W.cell? ⟨gk0, ok0 + 4, none⟩ = some (.slice Bx x.at_.length cbx) ∧ W.cell? ⟨gk0, ok0 + 5, none⟩ = some (.slice Kx x.kids.length ckx) ∧ W.cell? ⟨gk0, ok0 + 6, none⟩ = some (.int .i64 y.kind) ∧ W.cell? ⟨gk0, ok0 + 7, none⟩ = some (.string y.text) ∧ W.cell? ⟨gk0, ok0 + 8, none⟩ = some (.int .i64 y.n) ∧ W.cell? ⟨gk0, ok0 + 9, none⟩ = some (.slice Ay y.sh.length cay) ∧ W.cell? ⟨gk0, ok0 + 10, none⟩ = some (.slice By y.at_.length cby) ∧ W.cell? ⟨gk0, ok0 + 11, none⟩ = some (.slice Ky y.kids.length cky) ∧ W.cell? ⟨gk0, ok0 + 12, none⟩ = some (.int .i64 z.kind) ∧ W.cell? ⟨gk0, ok0 + 13, none⟩ = some (.string z.text) ∧ W.cell? ⟨gk0, ok0 + 14, none⟩ = some (.int .i64 z.n) ∧ W.cell? ⟨gk0, ok0 + 15, none⟩ = some (.slice Az z.sh.length caz) ∧ W.cell? ⟨gk0, ok0 + 16, none⟩ = some (.slice Bz z.at_.length cbz) ∧ W.cell? ⟨gk0, ok0 + 17, none⟩ = some (.slice Kz z.kids.length ckz) ∧ gk0 < W.heap.size ∧ W.cell? ⟨w.heap.size, 5, none⟩ = some (.slice (some ⟨gk0, ok0, none⟩) 3 ck) ∧ w.heap.size < W.heap.size) := Lib.hid fun W h => by
    have h2 : Below w.heap.size w W := hb1.trans (h.mono (Nat.le_succ _))
    have key : ∀ j v, (mask w lo w.heap.size).cell? ⟨gk0, j, none⟩ = some v → W.cell? ⟨gk0, j, none⟩ = some v := fun j v hv => (h2.cell (cell_lt' (mask_cell hv).2)).trans (mask_cell hv).2
    have kk5 : W.cell? ⟨w.heap.size, 5, none⟩ = some (.slice (some ⟨gk0, ok0, none⟩) 3 ck) := by
      rw [← hK0, ← hkl]
      exact cell_at (HX1.out W h) rfl
    exact ⟨key _ _ x0, key _ _ x1, key _ _ x2, key _ _ x3, key _ _ x4, key _ _ x5, key _ _ y0, key _ _ y1, key _ _ y2, key _ _ y3, key _ _ y4, key _ _ y5, key _ _ z0, key _ _ z1, key _ _ z2, key _ _ z3, key _ _ z4, key _ _ z5, Nat.lt_of_lt_of_le xl (by rw [mask_size]; exact h2.size), kk5, heap_lt (HX1.out W h)⟩
  have C1 : Hid (∀ W, Below W1.heap.size W1 W → Calls Tryz.prog 82 #[tmVal y Ay cay By cby Ky cky] W (TrPost (trn N y) lo W)) := Lib.hid fun W h => ihT y Ay cay By cby Ky cky lo _ W (by have := cnt_kid (t := t) (i := 1) (k := y) (by rw [hks]; rfl); omega) (Nat.le_trans hlo (hb1.then_ h).size) (mask_grow haty (hb1.then_ h)) (hwf.node.each y (by rw [hks]; simp)) (good_kid hg (i := 1) (k := y) (by rw [hks]; rfl)) (fits_noun hfy)
  have C0 : Hid (∀ W, Below W1.heap.size W1 W → Calls Tryz.prog 124 #[tmVal x Ax cax Bx cbx Kx ckx, .int .i64 2] W (TrPost (trd N 2 x) lo W)) := Lib.hid fun W h => ihD x Ax cax Bx cbx Kx ckx 2 lo _ W (by have := cnt_kid (t := t) (i := 0) (k := x) (by rw [hks]; rfl); omega) (Nat.le_trans hlo (hb1.then_ h).size) (mask_grow hatx (hb1.then_ h)) (hwf.node.each x (by rw [hks]; simp)) (good_kid hg (i := 0) (k := x) (by rw [hks]; rfl)) (by omega)
  have C2 : Hid (∀ W, Below W1.heap.size W1 W → Calls Tryz.prog 82 #[tmVal z Az caz Bz cbz Kz ckz] W (TrPost (trn N z) lo W)) := Lib.hid fun W h => ihT z Az caz Bz cbz Kz ckz lo _ W (by have := cnt_kid (t := t) (i := 2) (k := z) (by rw [hks]; rfl); omega) (Nat.le_trans hlo (hb1.then_ h).size) (mask_grow hatz (hb1.then_ h)) (hwf.node.each z (by rw [hks]; simp)) (good_kid hg (i := 2) (k := z) (by rw [hks]; rfl)) (fits_noun hfz)
  have HR : Hid (trn (N + 1) t = tOf 45 [trn N y, trd N 2 x, trn N z]) := Lib.hid (by simp only [trn]; rw [if_neg (by omega), if_neg (by omega), if_pos hk]; unfold nth; rw [hks]; rfl)
  have kk2 : (t.kind == 2) = false := by rw [hk]; rfl
  have kk1 : (t.kind == 1) = false := by rw [hk]; rfl
  have kk3 : (t.kind == 3) = false := by rw [hk]; rfl
  have kk4 : (t.kind == 4) = true := by rw [hk]; rfl
  clear px py pz hatx haty hatz hK0 hks hkl hfy hfz
  clear hat hwf hb1 hx1 hz1 hW1 hg hN hlo hk ihT ihD xl x0 x1 x2 x3 x4 x5 yl y0 y1 y2 y3 y4 y5 zl z0 z1 z2 z3 z4 z5
  go_enter Tryz.func82, Tryz.ntmps82
  go_upto_region 1 with fail
  rw [← HW1.out]
  go_upto_region 13 with fail
  refine dtr13 CX.out FC.out C1.out C0.out C2.out ?_ ?_
  · exact fun _ _ _ _ _ h => h
  intro _ _ _ _ _ _ _ _ _ _ _ _ _ _ _ _ _ X c W W' hb hm hW'
  have HE := Lib.hid (tr_done (u := tOf 45 [trn N y, trd N 2 x, trn N z]) (A := none) (ca := 0) (B := none) (cb := 0) (K := X) (ck := c) CX.out HB1.out hb hm hW')
  clear hb hm hW'
  go_wp2_with fail
  exact bodyPost_ret (results_tm1 (p := 2) rfl rfl HE.out.1) rfl (TrPost.mk HR.out HE.out.2.1 HE.out.2.2)
end Go.Proofs.YtebiojmfieoncaaGreat
