/- tacit.turned. Condition: sizes within reach. -/
import Derived.Test.YtebiojmfieoncaaGreatTeQb
import Derived.Test.YtebiojmfieoncaaGreatTeQ8
import Derived.Test.YtebiojmfieoncaaGreatTeQj
import Derived.Test.YtebiojmfieoncaaGreatTeQf
namespace Go.Proofs.YtebiojmfieoncaaGreat
open Go.RowKit

set_option maxRecDepth 100000 in
set_option maxHeartbeats 32000000 in
theorem tturned_yes (t : Tm) (A : Option Addr) (ca : Nat) (B : Option Addr) (cb : Nat) (K : Option Addr) (ck : Nat) (v : Int) (N : Nat) (ihT : TrN 79 N) (lo : Nat) (b : Bool) (w : World) (hN : cnt t ≤ N + 1) (hlo : lo ≤ w.heap.size) (hat : TmAt (mask w lo w.heap.size) t A B K) (hwf : WfT t) (hg : goodT b t = true) (hp : plainT t = true) (hn : t.n = v) :
    Calls Tryz.prog 121 #[tmVal t A ca B cb K ck, .int .i64 v] w (TrPost (trd (N + 1) v t) lo w) := by
  obtain ⟨W1, hW1⟩ : ∃ W1, W1 = (w.alloc (.cells (tmCells t A ca B cb K ck) TTm)).alloc (.cells tm0 TTm) := ⟨_, rfl⟩
  have hb1 : Below w.heap.size w W1 := by rw [hW1]; exact ((Below.refl _ _).alloc (Nat.le_refl _) _).alloc (by simp) _
  have hx1 : W1.heap[w.heap.size]? = some (.cells (tmCells t A ca B cb K ck) TTm (0, 0)) := by rw [hW1]; exact (Below.heap_alloc _ _ _ (by simp)).trans (heap_alloc_new w _)
  have hz1 : W1.heap[w.heap.size + 1]? = some (.cells #[.int .i64 0, .string ⟨#[]⟩, .int .i64 0, .slice none 0 0, .slice none 0 0, .slice none 0 0] TTm (0, 0)) := by rw [hW1]; exact heap_new2 _ _ _
  have CX : Hid (TrCx w W1 lo) := Lib.hid ⟨hlo, by rw [hW1]; simp, hz1⟩
  have HW1 := Lib.hid hW1
  have HB1 := Lib.hid hb1
  have HX1 : Hid (∀ W, Below (w.heap.size + 1) W1 W → W.heap[w.heap.size]? = some (.cells (tmCells t A ca B cb K ck) TTm (0, 0))) := Lib.hid fun W h => (h.block _ (by omega)).trans hx1
  have HAT := Lib.hid hat
  have HWF := Lib.hid hwf
  have HG := Lib.hid hg
  have k0 : W1.cell? ⟨w.heap.size, 0, none⟩ = some (.int .i64 t.kind) := cell_at hx1 rfl
  have k1 : W1.cell? ⟨w.heap.size, 1, none⟩ = some (.string t.text) := cell_at hx1 rfl
  have k2 : W1.cell? ⟨w.heap.size, 2, none⟩ = some (.int .i64 t.n) := cell_at hx1 rfl
  have k3 : W1.cell? ⟨w.heap.size, 3, none⟩ = some (.slice A t.sh.length ca) := cell_at hx1 rfl
  have k4 : W1.cell? ⟨w.heap.size, 4, none⟩ = some (.slice B t.at_.length cb) := cell_at hx1 rfl
  have k5 : W1.cell? ⟨w.heap.size, 5, none⟩ = some (.slice K t.kids.length ck) := cell_at hx1 rfl
  have kl := heap_lt hx1
  have HPL := Lib.hid (tplain_any t A ca B cb K ck b lo W1 (mask_grow hat hb1) hwf hg)
  obtain ⟨hcl, ⟨bz, hgz⟩, hcz⟩ := noun_parts hg hp
  have HR : Hid (trd (N + 1) v t = trn N (nounT t)) := Lib.hid (trd_yes hp hn)
  have hnv : (t.n == v) = true := by rw [hn]; simp
  have HZC : Hid (cnt (nounT t) ≤ N ∧ WfT (nounT t) ∧ goodT bz (nounT t) = true ∧ cls (nounT t).kind = 1) := Lib.hid ⟨by omega, by unfold nounT; exact nth_wf (nth_wf (nth_wf hwf 0) 0) 0, hgz, hcl⟩
  have IH := Lib.hid ihT
  have HLO := Lib.hid hlo
  have HP2 := Lib.hid hp
  clear hat hwf hb1 hx1 hz1 hW1 hg hN hlo ihT hp hn hcl hgz hcz
  go_enter Tryz.func121, Tryz.ntmps121
  go_upto_region 1 with fail
  rw [← HW1.out]
  go_wp2_with fail
  refine HPL.out.mono ?_
  rintro e w2 (⟨hp, _, _⟩ | ⟨_, z, A', ca', B', cb', K', ck', hz, rfl, hatz, hb2⟩)
  · exact absurd HP2.out (by rw [hp]; decide)
  have HZZ := Lib.hid hz
  clear hz
  go_upto_region 2 with fail
  obtain ⟨W3, hW3⟩ : ∃ W, W = w2.alloc (.cells (tmCells z A' ca' B' cb' K' ck') TTm) := ⟨_, rfl⟩
  have hb3 : Below w2.heap.size w2 W3 := by rw [hW3]; exact (Below.refl _ _).alloc (Nat.le_refl _) _
  have hx3 : W3.heap[w2.heap.size]? = some (.cells (tmCells z A' ca' B' cb' K' ck') TTm (0, 0)) := by rw [hW3]; exact heap_alloc_new _ _
  rw [← hW3]
  have HB3 := Lib.hid (hb2.then_ hb3)
  have HCL : Hid (Calls Tryz.prog 79 #[tmVal z A' ca' B' cb' K' ck'] W3 (TrPost (trn N (nounT t)) lo W3)) := Lib.hid (by
    have h := HZC.out
    have hz := HZZ.out
    rw [← hz] at h ⊢
    exact IH.out z A' ca' B' cb' K' ck' lo bz W3 h.1 (Nat.le_trans HLO.out (HB1.out.then_ (hb2.then_ hb3)).size) (mask_grow hatz (hb2.then_ hb3)) h.2.1 h.2.2.1 h.2.2.2)
  have m0 := cell_at hx3 (j := 0) rfl
  have m1 := cell_at hx3 (j := 1) rfl
  have m2 := cell_at hx3 (j := 2) rfl
  have m3 := cell_at hx3 (j := 3) rfl
  have m4 := cell_at hx3 (j := 4) rfl
  have m5 := cell_at hx3 (j := 5) rfl
  have ml := heap_lt hx3
  clear k0 k1 k2 k3 k4 k5 kl
  have hx := HX1.out W3 (HB3.out.mono (by rw [CX.out.s1]; omega))
  have k0 : W3.cell? ⟨w.heap.size, 0, none⟩ = some (.int .i64 t.kind) := cell_at hx rfl
  have k1 : W3.cell? ⟨w.heap.size, 1, none⟩ = some (.string t.text) := cell_at hx rfl
  have k2 : W3.cell? ⟨w.heap.size, 2, none⟩ = some (.int .i64 t.n) := cell_at hx rfl
  have k3 : W3.cell? ⟨w.heap.size, 3, none⟩ = some (.slice A t.sh.length ca) := cell_at hx rfl
  have k4 : W3.cell? ⟨w.heap.size, 4, none⟩ = some (.slice B t.at_.length cb) := cell_at hx rfl
  have k5 : W3.cell? ⟨w.heap.size, 5, none⟩ = some (.slice K t.kids.length ck) := cell_at hx rfl
  have kl := heap_lt hx
  clear hx
  clear hW3 hb3 hx3 hb2 hatz
  unfold tmVal at HCL
  go_wp2_with fail
  refine HCL.out.mono ?_
  rintro e w4 ⟨Au, cau, Bu, cbu, Ku, cku, rfl, hu, hb4⟩
  have HU : Hid (TmAt (mask w4 lo W1.heap.size) (trn N (nounT t)) Au Bu Ku) := Lib.hid (mask_less hu HB3.out.size)
  have HB2 := Lib.hid (HB3.out.then_ hb4)
  clear hu hb4
  have hz := (HB2.out.block (w.heap.size + 1) (heap_lt CX.out.hz)).trans CX.out.hz
  have z0 := cell_at hz (j := 0) rfl
  have z1 := cell_at hz (j := 1) rfl
  have z2 := cell_at hz (j := 2) rfl
  have z3 := cell_at hz (j := 3) rfl
  have z4 := cell_at hz (j := 4) rfl
  have z5 := cell_at hz (j := 5) rfl
  have fz := unfrozen hz
  have lz := heap_lt hz
  clear hz
  go_wp2_with fail
  obtain ⟨e1, e2, e3⟩ := tr_done (u := trn N (nounT t)) (A := Au) (ca := cau) (B := Bu) (cb := cbu) (K := Ku) (ck := cku) CX.out HB1.out HB2.out HU.out rfl
  exact bodyPost_ret (results_tm1 (p := 4) rfl rfl e1) rfl (TrPost.mk HR.out e2 e3)
set_option maxRecDepth 100000 in
set_option maxHeartbeats 32000000 in
theorem tturned_no1 (t : Tm) (A : Option Addr) (ca : Nat) (B : Option Addr) (cb : Nat) (K : Option Addr) (ck : Nat) (v : Int) (N : Nat) (lo : Nat) (b : Bool) (w : World) (hlo : lo ≤ w.heap.size) (hat : TmAt (mask w lo w.heap.size) t A B K) (hwf : WfT t) (hg : goodT b t = true) (hp : plainT t = true) (hn : ¬ t.n = v) :
    Calls Tryz.prog 121 #[tmVal t A ca B cb K ck, .int .i64 v] w (TrPost (trd (N + 1) v t) lo w) := by
  obtain ⟨W1, hW1⟩ : ∃ W1, W1 = (w.alloc (.cells (tmCells t A ca B cb K ck) TTm)).alloc (.cells tm0 TTm) := ⟨_, rfl⟩
  have hb1 : Below w.heap.size w W1 := by rw [hW1]; exact ((Below.refl _ _).alloc (Nat.le_refl _) _).alloc (by simp) _
  have hx1 : W1.heap[w.heap.size]? = some (.cells (tmCells t A ca B cb K ck) TTm (0, 0)) := by rw [hW1]; exact (Below.heap_alloc _ _ _ (by simp)).trans (heap_alloc_new w _)
  have hz1 : W1.heap[w.heap.size + 1]? = some (.cells #[.int .i64 0, .string ⟨#[]⟩, .int .i64 0, .slice none 0 0, .slice none 0 0, .slice none 0 0] TTm (0, 0)) := by rw [hW1]; exact heap_new2 _ _ _
  have CX : Hid (TrCx w W1 lo) := Lib.hid ⟨hlo, by rw [hW1]; simp, hz1⟩
  have HW1 := Lib.hid hW1
  have HB1 := Lib.hid hb1
  have HX1 : Hid (∀ W, Below (w.heap.size + 1) W1 W → W.heap[w.heap.size]? = some (.cells (tmCells t A ca B cb K ck) TTm (0, 0))) := Lib.hid fun W h => (h.block _ (by omega)).trans hx1
  have HAT := Lib.hid hat
  have HWF := Lib.hid hwf
  have HG := Lib.hid hg
  have k0 : W1.cell? ⟨w.heap.size, 0, none⟩ = some (.int .i64 t.kind) := cell_at hx1 rfl
  have k1 : W1.cell? ⟨w.heap.size, 1, none⟩ = some (.string t.text) := cell_at hx1 rfl
  have k2 : W1.cell? ⟨w.heap.size, 2, none⟩ = some (.int .i64 t.n) := cell_at hx1 rfl
  have k3 : W1.cell? ⟨w.heap.size, 3, none⟩ = some (.slice A t.sh.length ca) := cell_at hx1 rfl
  have k4 : W1.cell? ⟨w.heap.size, 4, none⟩ = some (.slice B t.at_.length cb) := cell_at hx1 rfl
  have k5 : W1.cell? ⟨w.heap.size, 5, none⟩ = some (.slice K t.kids.length ck) := cell_at hx1 rfl
  have kl := heap_lt hx1
  have HPL := Lib.hid (tplain_any t A ca B cb K ck b lo W1 (mask_grow hat hb1) hwf hg)
  have HR : Hid (trd (N + 1) v t = t) := Lib.hid (trd_no hp hn)
  have hnv : (t.n == v) = false := beq_no hn
  have HP2 := Lib.hid hp
  clear hat hwf hb1 hx1 hz1 hW1 hg hlo hp hn
  go_enter Tryz.func121, Tryz.ntmps121
  go_upto_region 1 with fail
  rw [← HW1.out]
  go_wp2_with fail
  refine HPL.out.mono ?_
  rintro e w2 (⟨hp, _, _⟩ | ⟨_, z, A', ca', B', cb', K', ck', hz, rfl, hatz, hb2⟩)
  · exact absurd HP2.out (by rw [hp]; decide)
  have HZZ := Lib.hid hz
  clear hz
  have HB2' := Lib.hid hb2
  go_upto_region 2 with fail
  obtain ⟨W3, hW3⟩ : ∃ W, W = w2.alloc (.cells (tmCells z A' ca' B' cb' K' ck') TTm) := ⟨_, rfl⟩
  have hb3 : Below w2.heap.size w2 W3 := by rw [hW3]; exact (Below.refl _ _).alloc (Nat.le_refl _) _
  rw [← hW3]
  have HB2 := Lib.hid (hb2.then_ hb3)
  have HU : Hid (TmAt (mask W3 lo W1.heap.size) t A B K) := Lib.hid (mask_grow HAT.out (HB1.out.then_ HB2.out))
  clear k0 k1 k2 k3 k4 k5 kl hW3 hb3 hb2 hatz
  have hx := HX1.out W3 (HB2.out.mono (by rw [CX.out.s1]; omega))
  have k0 : W3.cell? ⟨w.heap.size, 0, none⟩ = some (.int .i64 t.kind) := cell_at hx rfl
  have k1 : W3.cell? ⟨w.heap.size, 1, none⟩ = some (.string t.text) := cell_at hx rfl
  have k2 : W3.cell? ⟨w.heap.size, 2, none⟩ = some (.int .i64 t.n) := cell_at hx rfl
  have k3 : W3.cell? ⟨w.heap.size, 3, none⟩ = some (.slice A t.sh.length ca) := cell_at hx rfl
  have k4 : W3.cell? ⟨w.heap.size, 4, none⟩ = some (.slice B t.at_.length cb) := cell_at hx rfl
  have k5 : W3.cell? ⟨w.heap.size, 5, none⟩ = some (.slice K t.kids.length ck) := cell_at hx rfl
  have kl := heap_lt hx
  clear hx
  have hz := (HB2.out.block (w.heap.size + 1) (heap_lt CX.out.hz)).trans CX.out.hz
  have z0 := cell_at hz (j := 0) rfl
  have z1 := cell_at hz (j := 1) rfl
  have z2 := cell_at hz (j := 2) rfl
  have z3 := cell_at hz (j := 3) rfl
  have z4 := cell_at hz (j := 4) rfl
  have z5 := cell_at hz (j := 5) rfl
  have fz := unfrozen hz
  have lz := heap_lt hz
  clear hz
  go_wp2_with fail
  obtain ⟨e1, e2, e3⟩ := tr_done (u := t) (A := A) (ca := ca) (B := B) (cb := cb) (K := K) (ck := ck) CX.out HB1.out HB2.out HU.out rfl
  exact bodyPost_ret (results_tm1 (p := 4) rfl rfl e1) rfl (TrPost.mk HR.out e2 e3)
set_option maxRecDepth 100000 in
set_option maxHeartbeats 32000000 in
theorem tturned_none (t : Tm) (A : Option Addr) (ca : Nat) (B : Option Addr) (cb : Nat) (K : Option Addr) (ck : Nat) (v : Int) (N : Nat) (lo : Nat) (b : Bool) (w : World) (hlo : lo ≤ w.heap.size) (hat : TmAt (mask w lo w.heap.size) t A B K) (hwf : WfT t) (hg : goodT b t = true) (hv : v = 1 ∨ v = 2) (hp : plainT t = false) (hv0 : valT t v = []) :
    Calls Tryz.prog 121 #[tmVal t A ca B cb K ck, .int .i64 v] w (TrPost (trd (N + 1) v t) lo w) := by
  obtain ⟨W1, hW1⟩ : ∃ W1, W1 = (w.alloc (.cells (tmCells t A ca B cb K ck) TTm)).alloc (.cells tm0 TTm) := ⟨_, rfl⟩
  have hb1 : Below w.heap.size w W1 := by rw [hW1]; exact ((Below.refl _ _).alloc (Nat.le_refl _) _).alloc (by simp) _
  have hx1 : W1.heap[w.heap.size]? = some (.cells (tmCells t A ca B cb K ck) TTm (0, 0)) := by rw [hW1]; exact (Below.heap_alloc _ _ _ (by simp)).trans (heap_alloc_new w _)
  have hz1 : W1.heap[w.heap.size + 1]? = some (.cells #[.int .i64 0, .string ⟨#[]⟩, .int .i64 0, .slice none 0 0, .slice none 0 0, .slice none 0 0] TTm (0, 0)) := by rw [hW1]; exact heap_new2 _ _ _
  have CX : Hid (TrCx w W1 lo) := Lib.hid ⟨hlo, by rw [hW1]; simp, hz1⟩
  have HW1 := Lib.hid hW1
  have HB1 := Lib.hid hb1
  have HX1 : Hid (∀ W, Below (w.heap.size + 1) W1 W → W.heap[w.heap.size]? = some (.cells (tmCells t A ca B cb K ck) TTm (0, 0))) := Lib.hid fun W h => (h.block _ (by omega)).trans hx1
  have HAT := Lib.hid hat
  have HWF := Lib.hid hwf
  have HG := Lib.hid hg
  have k0 : W1.cell? ⟨w.heap.size, 0, none⟩ = some (.int .i64 t.kind) := cell_at hx1 rfl
  have k1 : W1.cell? ⟨w.heap.size, 1, none⟩ = some (.string t.text) := cell_at hx1 rfl
  have k2 : W1.cell? ⟨w.heap.size, 2, none⟩ = some (.int .i64 t.n) := cell_at hx1 rfl
  have k3 : W1.cell? ⟨w.heap.size, 3, none⟩ = some (.slice A t.sh.length ca) := cell_at hx1 rfl
  have k4 : W1.cell? ⟨w.heap.size, 4, none⟩ = some (.slice B t.at_.length cb) := cell_at hx1 rfl
  have k5 : W1.cell? ⟨w.heap.size, 5, none⟩ = some (.slice K t.kids.length ck) := cell_at hx1 rfl
  have kl := heap_lt hx1
  have HPL := Lib.hid (tplain_any t A ca B cb K ck b lo W1 (mask_grow hat hb1) hwf hg)
  have HP2 := Lib.hid hp
  have HVA := Lib.hid (fun W (h : Below W1.heap.size W1 W) => val_any t A ca B cb K ck v b W (mask_out (hi := W.heap.size) (mask_grow hat (hb1.then_ h))) hwf hg hv)
  have HR : Hid (trd (N + 1) v t = t) := Lib.hid (trd_none hp hv0)
  have HV0 := Lib.hid hv0
  clear hat hwf hb1 hx1 hz1 hW1 hg hlo hv hp hv0
  go_enter Tryz.func121, Tryz.ntmps121
  go_upto_region 1 with fail
  rw [← HW1.out]
  go_wp2_with fail
  refine HPL.out.mono ?_
  rintro e w2 (⟨_, rfl, hb2⟩ | ⟨hp, _⟩)
  rotate_left
  · exact absurd HP2.out (by rw [hp]; decide)
  go_upto_region 2 with fail
  obtain ⟨W3, hW3⟩ : ∃ W, W = w2.alloc (.cells #[.int .i64 0, .string ⟨#[]⟩, .int .i64 0, .slice none 0 0, .slice none 0 0, .slice none 0 0] TTm) := ⟨_, rfl⟩
  have hb3 : Below w2.heap.size w2 W3 := by rw [hW3]; exact (Below.refl _ _).alloc (Nat.le_refl _) _
  rw [← hW3]
  have HB3 := Lib.hid (hb2.then_ hb3)
  have HVL := Lib.hid (HVA.out W3 (hb2.then_ hb3))
  clear k0 k1 k2 k3 k4 k5 kl hW3 hb3 hb2
  have hx := HX1.out W3 (HB3.out.mono (by rw [CX.out.s1]; omega))
  have k0 : W3.cell? ⟨w.heap.size, 0, none⟩ = some (.int .i64 t.kind) := cell_at hx rfl
  have k1 : W3.cell? ⟨w.heap.size, 1, none⟩ = some (.string t.text) := cell_at hx rfl
  have k2 : W3.cell? ⟨w.heap.size, 2, none⟩ = some (.int .i64 t.n) := cell_at hx rfl
  have k3 : W3.cell? ⟨w.heap.size, 3, none⟩ = some (.slice A t.sh.length ca) := cell_at hx rfl
  have k4 : W3.cell? ⟨w.heap.size, 4, none⟩ = some (.slice B t.at_.length cb) := cell_at hx rfl
  have k5 : W3.cell? ⟨w.heap.size, 5, none⟩ = some (.slice K t.kids.length ck) := cell_at hx rfl
  have kl := heap_lt hx
  clear hx
  unfold tmVal at HVL
  go_wp2_with fail
  refine HVL.out.mono ?_
  rintro e w4 ⟨⟨P, c, rfl, hi⟩, hb4⟩
  rw [HV0.out, List.length_nil]
  have HB2 := Lib.hid (HB3.out.then_ hb4)
  have HU : Hid (TmAt (mask w4 lo W1.heap.size) t A B K) := Lib.hid (mask_grow HAT.out (HB1.out.then_ HB2.out))
  clear hi hb4 k0 k1 k2 k3 k4 k5 kl
  have hx := HX1.out w4 (HB2.out.mono (by rw [CX.out.s1]; omega))
  have k0 : w4.cell? ⟨w.heap.size, 0, none⟩ = some (.int .i64 t.kind) := cell_at hx rfl
  have k1 : w4.cell? ⟨w.heap.size, 1, none⟩ = some (.string t.text) := cell_at hx rfl
  have k2 : w4.cell? ⟨w.heap.size, 2, none⟩ = some (.int .i64 t.n) := cell_at hx rfl
  have k3 : w4.cell? ⟨w.heap.size, 3, none⟩ = some (.slice A t.sh.length ca) := cell_at hx rfl
  have k4 : w4.cell? ⟨w.heap.size, 4, none⟩ = some (.slice B t.at_.length cb) := cell_at hx rfl
  have k5 : w4.cell? ⟨w.heap.size, 5, none⟩ = some (.slice K t.kids.length ck) := cell_at hx rfl
  have kl := heap_lt hx
  clear hx
  have hz := (HB2.out.block (w.heap.size + 1) (heap_lt CX.out.hz)).trans CX.out.hz
  have z0 := cell_at hz (j := 0) rfl
  have z1 := cell_at hz (j := 1) rfl
  have z2 := cell_at hz (j := 2) rfl
  have z3 := cell_at hz (j := 3) rfl
  have z4 := cell_at hz (j := 4) rfl
  have z5 := cell_at hz (j := 5) rfl
  have fz := unfrozen hz
  have lz := heap_lt hz
  clear hz
  go_wp2_with fail
  obtain ⟨e1, e2, e3⟩ := tr_done (u := t) (A := A) (ca := ca) (B := B) (cb := cb) (K := K) (ck := ck) CX.out HB1.out HB2.out HU.out rfl
  exact bodyPost_ret (results_tm1 (p := 4) rfl rfl e1) rfl (TrPost.mk HR.out e2 e3)
set_option maxRecDepth 100000 in
set_option maxHeartbeats 32000000 in
theorem tturned_some (t : Tm) (A : Option Addr) (ca : Nat) (B : Option Addr) (cb : Nat) (K : Option Addr) (ck : Nat) (v : Int) (N : Nat) (ihD : TdN 121 N) (lo : Nat) (b : Bool) (w : World) (hN : cnt t ≤ N + 1) (hlo : lo ≤ w.heap.size) (hat : TmAt (mask w lo w.heap.size) t A B K) (hwf : WfT t) (hg : goodT b t = true) (hv : v = 1 ∨ v = 2) (hp : plainT t = false) (hv0 : ¬ valT t v = []) :
    Calls Tryz.prog 121 #[tmVal t A ca B cb K ck, .int .i64 v] w (TrPost (trd (N + 1) v t) lo w) := by
  obtain ⟨W1, hW1⟩ : ∃ W1, W1 = (w.alloc (.cells (tmCells t A ca B cb K ck) TTm)).alloc (.cells tm0 TTm) := ⟨_, rfl⟩
  have hb1 : Below w.heap.size w W1 := by rw [hW1]; exact ((Below.refl _ _).alloc (Nat.le_refl _) _).alloc (by simp) _
  have hx1 : W1.heap[w.heap.size]? = some (.cells (tmCells t A ca B cb K ck) TTm (0, 0)) := by rw [hW1]; exact (Below.heap_alloc _ _ _ (by simp)).trans (heap_alloc_new w _)
  have hz1 : W1.heap[w.heap.size + 1]? = some (.cells #[.int .i64 0, .string ⟨#[]⟩, .int .i64 0, .slice none 0 0, .slice none 0 0, .slice none 0 0] TTm (0, 0)) := by rw [hW1]; exact heap_new2 _ _ _
  have CX : Hid (TrCx w W1 lo) := Lib.hid ⟨hlo, by rw [hW1]; simp, hz1⟩
  have HW1 := Lib.hid hW1
  have HB1 := Lib.hid hb1
  have HX1 : Hid (∀ W, Below (w.heap.size + 1) W1 W → W.heap[w.heap.size]? = some (.cells (tmCells t A ca B cb K ck) TTm (0, 0))) := Lib.hid fun W h => (h.block _ (by omega)).trans hx1
  have HAT := Lib.hid hat
  have HWF := Lib.hid hwf
  have HG := Lib.hid hg
  have k0 : W1.cell? ⟨w.heap.size, 0, none⟩ = some (.int .i64 t.kind) := cell_at hx1 rfl
  have k1 : W1.cell? ⟨w.heap.size, 1, none⟩ = some (.string t.text) := cell_at hx1 rfl
  have k2 : W1.cell? ⟨w.heap.size, 2, none⟩ = some (.int .i64 t.n) := cell_at hx1 rfl
  have k3 : W1.cell? ⟨w.heap.size, 3, none⟩ = some (.slice A t.sh.length ca) := cell_at hx1 rfl
  have k4 : W1.cell? ⟨w.heap.size, 4, none⟩ = some (.slice B t.at_.length cb) := cell_at hx1 rfl
  have k5 : W1.cell? ⟨w.heap.size, 5, none⟩ = some (.slice K t.kids.length ck) := cell_at hx1 rfl
  have kl := heap_lt hx1
  have HPL := Lib.hid (tplain_any t A ca B cb K ck b lo W1 (mask_grow hat hb1) hwf hg)
  have HP2 := Lib.hid hp
  have HVA := Lib.hid (fun W (h : Below W1.heap.size W1 W) => val_any t A ca B cb K ck v b W (mask_out (hi := W.heap.size) (mask_grow hat (hb1.then_ h))) hwf hg hv)
  have hvl := valT_len hg v
  obtain ⟨m, hm⟩ : ∃ m, m = (valT t v).length := ⟨_, rfl⟩
  obtain ⟨n, hn⟩ : ∃ n, n = t.kids.length := ⟨_, rfl⟩
  have hm0 : 0 < m := by
    rw [hm]
    exact List.length_pos_iff.2 hv0
  have hmn : m ≤ n := by omega
  obtain ⟨k0', hk0'⟩ : ∃ k, t.kids[0]? = some k := ⟨_, List.getElem?_eq_getElem (by omega)⟩
  obtain ⟨gk, ok, hK, _⟩ := hat.kids.get hk0'
  have HR : Hid (trd (N + 1) v t = withK t (mixT N v t m)) := Lib.hid (trd_mix hp (.inl (by omega)))
  have HM := Lib.hid (And.intro hm hn)
  have HG2 : Hid (∀ i, 0 < (valT t v).getD i 0 → (valT t v).getD i 0 = 1 ∨ (valT t v).getD i 0 = 2) := Lib.hid fun i h => by have := valT_get (t := t) hv i; omega
  have HKD : Hid (∀ i k, t.kids[i]? = some k → cnt k ≤ N ∧ WfT k ∧ ∃ c, goodT c k = true) := Lib.hid fun i k h => ⟨by have := cnt_kid h; omega, hwf.node.each k (List.mem_of_getElem? h), ⟨_, good_kid hg h⟩⟩
  have HVK : Hid (∀ i, 0 < (valT t v).getD i 0 → i < n) := Lib.hid fun i h => by rw [hn]; exact valT_kid hg h
  have hn104 : n * 104 ≤ 140737488351232 := by rw [hn]; exact hwf.node.kids104
  have IH := Lib.hid ihD
  have HLO := Lib.hid hlo
  have HKK := Lib.hid hK
  clear hat hwf hb1 hx1 hz1 hW1 hg hN hlo ihD hv hp hv0 hvl hk0' hm hn hK
  go_enter Tryz.func121, Tryz.ntmps121
  go_upto_region 1 with fail
  rw [← HW1.out]
  go_wp2_with fail
  refine HPL.out.mono ?_
  rintro e w2 (⟨_, rfl, hb2⟩ | ⟨hp, _⟩)
  rotate_left
  · exact absurd HP2.out (by rw [hp]; decide)
  go_upto_region 2 with fail
  obtain ⟨W3, hW3⟩ : ∃ W, W = w2.alloc (.cells #[.int .i64 0, .string ⟨#[]⟩, .int .i64 0, .slice none 0 0, .slice none 0 0, .slice none 0 0] TTm) := ⟨_, rfl⟩
  have hb3 : Below w2.heap.size w2 W3 := by rw [hW3]; exact (Below.refl _ _).alloc (Nat.le_refl _) _
  rw [← hW3]
  have HB3 := Lib.hid (hb2.then_ hb3)
  have HVL := Lib.hid (HVA.out W3 (hb2.then_ hb3))
  clear k0 k1 k2 k3 k4 k5 kl hW3 hb3 hb2
  have hx := HX1.out W3 (HB3.out.mono (by rw [CX.out.s1]; omega))
  have k0 : W3.cell? ⟨w.heap.size, 0, none⟩ = some (.int .i64 t.kind) := cell_at hx rfl
  have k1 : W3.cell? ⟨w.heap.size, 1, none⟩ = some (.string t.text) := cell_at hx rfl
  have k2 : W3.cell? ⟨w.heap.size, 2, none⟩ = some (.int .i64 t.n) := cell_at hx rfl
  have k3 : W3.cell? ⟨w.heap.size, 3, none⟩ = some (.slice A t.sh.length ca) := cell_at hx rfl
  have k4 : W3.cell? ⟨w.heap.size, 4, none⟩ = some (.slice B t.at_.length cb) := cell_at hx rfl
  have k5 : W3.cell? ⟨w.heap.size, 5, none⟩ = some (.slice K t.kids.length ck) := cell_at hx rfl
  have kl := heap_lt hx
  clear hx
  unfold tmVal at HVL
  go_wp2_with fail
  refine HVL.out.mono ?_
  rintro e w4 ⟨⟨P, c, rfl, hi⟩, hb4⟩
  rw [← HM.out.1]
  have HI4 := Lib.hid hi
  have HB4 := Lib.hid (HB3.out.then_ hb4)
  have HKS : Hid (KidsAt (mask w4 lo w4.heap.size) (some ⟨gk, ok, none⟩) t.kids 0) := Lib.hid (by
    rw [← HKK.out]
    exact (mask_grow HAT.out (HB1.out.then_ HB4.out)).kids)
  have HCLN := Lib.hid (clone_tms t.kids gk ok ck n w4 (lo := lo) (hi := w4.heap.size) (Nat.le_refl _) HM.out.2 (by omega) hn104 HKS.out)
  have q0 : ((m : Int) == 0) = false := beq_no (by omega)
  clear hi hb4 k0 k1 k2 k3 k4 k5 kl
  have hx := HX1.out w4 (HB4.out.mono (by rw [CX.out.s1]; omega))
  have k0 : w4.cell? ⟨w.heap.size, 0, none⟩ = some (.int .i64 t.kind) := cell_at hx rfl
  have k1 : w4.cell? ⟨w.heap.size, 1, none⟩ = some (.string t.text) := cell_at hx rfl
  have k2 : w4.cell? ⟨w.heap.size, 2, none⟩ = some (.int .i64 t.n) := cell_at hx rfl
  have k3 : w4.cell? ⟨w.heap.size, 3, none⟩ = some (.slice A t.sh.length ca) := cell_at hx rfl
  have k4 : w4.cell? ⟨w.heap.size, 4, none⟩ = some (.slice B t.at_.length cb) := cell_at hx rfl
  have k5 : w4.cell? ⟨w.heap.size, 5, none⟩ = some (.slice K t.kids.length ck) := cell_at hx rfl
  have kl := heap_lt hx
  clear hx
  rw [← HM.out.2, HKK.out] at k5
  go_wp2_with fail
  refine HCLN.out.mono ?_
  rintro e w5 ⟨g, cap, rs0, rfl, hs5, hs0, hg5, hb5⟩
  have hx5 := HX1.out w5 ((HB4.out.then_ hb5).mono (by rw [CX.out.s1]; omega))
  have HS0 := Lib.hid hs0
  have HG5 := Lib.hid hg5
  have HB5 := Lib.hid hb5
  have HX5 := Lib.hid hx5
  have HS5 := Lib.hid hs5
  clear k0 k1 k2 k3 k4 k5 kl hs5 hs0 hg5 hb5
  have k5 := cell_at hx5 (j := 5) rfl
  have fk := unfrozen hx5 5
  have kl := heap_lt hx5
  clear hx5
  go_upto_region 10 with fail
  obtain ⟨W6, hW6⟩ : ∃ W, W = w5.setCell ⟨w.heap.size, 5, none⟩ (.slice (some ⟨g, 0, none⟩) n cap) := ⟨_, rfl⟩
  have hsz4 : w.heap.size + 2 ≤ w4.heap.size := by have h1 := HB4.out.size; have h2 := CX.out.s1; omega
  have HX6 : Hid (W6.heap[w.heap.size]? = some (.cells #[.int .i64 t.kind, .string t.text, .int .i64 t.n, .slice A t.sh.length ca, .slice B t.at_.length cb, .slice (some ⟨g, 0, none⟩) n cap] TTm (0, 0))) := Lib.hid (by rw [hW6]; exact Go.heap_setCell_same _ _ 5 _ TTm _ HX5.out)
  have HZ6 : Hid (W6.heap[w.heap.size + 1]? = some (.cells #[.int .i64 0, .string ⟨#[]⟩, .int .i64 0, .slice none 0 0, .slice none 0 0, .slice none 0 0] TTm (0, 0))) := Lib.hid (by
    rw [hW6, Below.heap_setCell _ _ _ _ (by show w.heap.size + 1 ≠ w.heap.size; omega)]
    exact (((HB4.out.then_ HB5.out)).block _ (heap_lt CX.out.hz)).trans CX.out.hz)
  have HB6 : Hid (Below w.heap.size w W6) := Lib.hid (by rw [hW6]; exact (HB1.out.then_ (HB4.out.then_ HB5.out)).setCell (Nat.le_refl _) _)
  have HSZ : Hid (w.heap.size + 2 ≤ w4.heap.size ∧ w4.heap.size ≤ W6.heap.size) := Lib.hid ⟨hsz4, by rw [hW6]; simp [World.setCell]; exact HB5.out.size⟩
  have HP6 : Hid (TdW W6 W6 w4.heap.size lo N v t 0 rs0 rs0 g n cap) := Lib.hid ⟨Below.refl _ _, by
    rw [mix_zero, hW6]
    exact HS5.out.set (by show lo ≤ w.heap.size; exact HLO.out) (by show w.heap.size < w4.heap.size; omega) _, fun _ _ => rfl⟩
  have HI6 : Hid (IntsAt W6 P (valT t v)) := Lib.hid fun i x hx => by
    obtain ⟨pb, po, e1, e2, e3⟩ := HI4.out i x hx
    have e4 := (HB5.out.cell (p := ⟨pb, po + i, none⟩) e2).trans e3
    refine ⟨pb, po, e1, by rw [hW6]; simp [World.setCell]; exact Nat.lt_of_lt_of_le e2 HB5.out.size, ?_⟩
    rw [hW6, World.cell?_setCell_other _ _ _ _ (fun e => by
      have h5 := cell_at HX5.out (j := 5) rfl
      rw [e, e4] at h5
      cases h5)]
    exact e4
  have HPL4 : Hid (∀ pb po, P = some ⟨pb, po, none⟩ → 0 < m → pb < w4.heap.size) := Lib.hid fun pb po hP hm => by
    obtain ⟨x, hx⟩ : ∃ x, (valT t v)[0]? = some x := ⟨_, List.getElem?_eq_getElem (by have := HM.out.1; omega)⟩
    obtain ⟨pb', po', e1, e2, _⟩ := HI4.out 0 x hx
    rw [hP] at e1
    injection e1 with e1
    injection e1 with e1
    omega
  rw [← hW6]
  clear hW6 hsz4 k5 fk kl
  go_wp2_with fail
  go_loopw [36] (fun v36 W => ∃ (i : Nat) (rs : List Rt), i ≤ m ∧ v36 = .int .i64 i ∧ Hid (TdW W6 W w4.heap.size lo N v t i rs rs0 g n cap)) (fun v36 _ => m - (intOf v36).toNat)
  case atStart => exact ⟨0, rs0, Nat.zero_le _, rfl, HP6⟩
  case round =>
    obtain ⟨i, rs, hi, rfl, HI⟩ := hrel
    by_cases hlt : i < m
    · obtain ⟨z, hz⟩ : ∃ z, (valT t v)[i]? = some z := ⟨_, List.getElem?_eq_getElem (by have := HM.out.1; omega)⟩
      have HZD : Hid ((valT t v).getD i 0 = z) := Lib.hid (by rw [List.getD_eq_getElem?_getD, hz]; rfl)
      obtain ⟨pb, po, hP, _, hc6⟩ := HI6.out i z hz
      have hpb := HPL4.out pb po hP (by omega)
      have hcr : wr.cell? ⟨pb, po + i, none⟩ = some (.int .i64 z) := (HI.out.be.cell (p := ⟨pb, po + i, none⟩) hpb).trans hc6
      have hpl : pb < wr.heap.size := Nat.lt_of_lt_of_le (Nat.lt_of_lt_of_le hpb HSZ.out.2) HI.out.be.size
      have q1 : (0 : Int) ≤ (i : Int) := by omega
      have q2 : (i : Int) < (m : Int) := by omega
      have hPP := hP
      subst hPP
      clear hz hc6 hpb hP
      by_cases hz0 : 0 < z
      · have hin := HVK.out i (by rw [HZD.out]; exact hz0)
        obtain ⟨k, hk⟩ : ∃ k, t.kids[i]? = some k := ⟨_, List.getElem?_eq_getElem (by have := HM.out.2; omega)⟩
        obtain ⟨r, hr⟩ : ∃ r, rs0[i]? = some r := ⟨_, List.getElem?_eq_getElem (by have h1 := HS5.out.len; have h2 := HM.out.2; omega)⟩
        have hst := HS0.out i k r hk hr
        obtain ⟨⟨Ax, n1, cax⟩, ⟨Bx, n2, cbx⟩, ⟨Kx, n3, ckx⟩, q⟩ := r
        obtain ⟨hst1, rfl, rfl, rfl⟩ := hst
        have FX := Lib.hid (HI.out.cells HM.out.2 hk hr)
        obtain ⟨hc1, hc2, ⟨bk, hc3⟩⟩ := HKD.out i k hk
        have hzd := HZD.out
        have HCD : Hid (∀ W, Below wr.heap.size wr W → Calls Tryz.prog 121 #[tmVal k Ax cax Bx cbx Kx ckx, .int .i64 z] W (TrPost (trd N z k) lo W)) := Lib.hid fun W h => by
          have hw : Below w.heap.size w W := (HB6.out.trans (HI.out.be.mono (by have := HSZ.out; omega))).then_ h
          have hback := mask_back (w := w) hst1 (HB1.out.then_ HB4.out) HLO.out
          exact IH.out k Ax cax Bx cbx Kx ckx z lo bk W hc1 (Nat.le_trans HLO.out hw.size) (mask_grow hback hw) hc2 hc3 (by rw [← hzd]; exact HG2.out i (by rw [hzd]; exact hz0))
        have FS : Hid (∀ W, Below wr.heap.size wr W → W.cell? ⟨w.heap.size, 5, none⟩ = some (.slice (some ⟨g, 0, none⟩) n cap) ∧ w.heap.size < W.heap.size) := Lib.hid fun W h => by
          have h6 : wr.heap[w.heap.size]? = _ := (HI.out.be.block w.heap.size (by have := HSZ.out; omega)).trans HX6.out
          have h7 := (h.block _ (heap_lt h6)).trans h6
          exact ⟨cell_at h7 rfl, heap_lt h7⟩
        have HHK := Lib.hid (And.intro hk hz0)
        clear hk hr hst1 hc1 hc2 hc3 hzd
        go_upto_region 14 with fail
        refine ttd14 FX.out FS.out (by have h1 := HG5.out; have h2 := HSZ.out; omega) hin HCD.out ?_ ?_
        · exact fun _ _ _ _ _ h => h
        intro _ _ _ _ _ _ _ _ _ _ _ Au cau Bu cbu Ku cku W W' hb hm hW'
        have HE : Hid (TdW W6 W' w4.heap.size lo N v t (i + 1) (rs.set i (rtOf (trd N z k) Au cau Bu cbu Ku cku)) rs0 g n cap) := Lib.hid (by
          have hzd := HZD.out
          subst hzd
          exact HI.out.put HM.out.2 HHK.out.1 HHK.out.2 (by have h1 := HLO.out; have h2 := HSZ.out; omega) (Nat.le_trans HSZ.out.2 HI.out.be.size) hb hm hW')
        clear hb hm hW'
        try simp only [Exit.inBlock, Exit.then]
        go_wp2_with fail
        exact ⟨⟨i + 1, _, by omega, by go_num, HE⟩, by simp [intOf]; omega⟩
      · have HE : Hid (TdW W6 wr w4.heap.size lo N v t (i + 1) rs rs0 g n cap) := Lib.hid (HI.out.skip (by rw [HZD.out]; exact hz0))
        go_wp2_with fail
        exact ⟨⟨i + 1, _, by omega, by go_num, HE⟩, by simp [intOf]; omega⟩
    · obtain rfl : i = m := by omega
      have hx : wr.heap[w.heap.size]? = _ := (HI.out.be.block w.heap.size (by have := HSZ.out; omega)).trans HX6.out
      have hz : wr.heap[w.heap.size + 1]? = _ := (HI.out.be.block (w.heap.size + 1) (by have := HSZ.out; omega)).trans HZ6.out
      have HZR := Lib.hid hz
      have k0 := cell_at hx (j := 0) rfl
      have k1 := cell_at hx (j := 1) rfl
      have k2 := cell_at hx (j := 2) rfl
      have k3 := cell_at hx (j := 3) rfl
      have k4 := cell_at hx (j := 4) rfl
      have k5 := cell_at hx (j := 5) rfl
      have kl := heap_lt hx
      have z0 := cell_at hz (j := 0) rfl
      have z1 := cell_at hz (j := 1) rfl
      have z2 := cell_at hz (j := 2) rfl
      have z3 := cell_at hz (j := 3) rfl
      have z4 := cell_at hz (j := 4) rfl
      have z5 := cell_at hz (j := 5) rfl
      have fz := unfrozen hz
      have lz := heap_lt hz
      have HBE : Hid (Below w.heap.size w wr) := Lib.hid (HB6.out.trans (HI.out.be.mono (by have := HSZ.out; omega)))
      have HU : Hid (TmAt (mask wr lo w4.heap.size) (withK t (mixT N v t i)) A B (some ⟨g, 0, none⟩)) := Lib.hid ⟨(mask_grow HAT.out HBE.out).sh, (mask_grow HAT.out HBE.out).at_, HI.out.sh.kids (Nat.le_refl _)⟩
      have HML : Hid ((mixT N v t i).length = n) := Lib.hid (by rw [mix_len, HM.out.2])
      clear hx hz hlt
      go_wp2_with fail
      have hW : sixPutQ wr (w.heap.size + 1) (.int .i64 t.kind) (.string t.text) (.int .i64 t.n) (.slice A t.sh.length ca) (.slice B t.at_.length cb) (.slice (some ⟨g, 0, none⟩) n cap) = sixPutQ wr (w.heap.size + 1) (.int .i64 (withK t (mixT N v t i)).kind) (.string (withK t (mixT N v t i)).text) (.int .i64 (withK t (mixT N v t i)).n) (.slice A (withK t (mixT N v t i)).sh.length ca) (.slice B (withK t (mixT N v t i)).at_.length cb) (.slice (some ⟨g, 0, none⟩) (withK t (mixT N v t i)).kids.length cap) := by
        rw [show (withK t (mixT N v t i)).kids.length = n from HML.out]
        rfl
      obtain ⟨e1, e2, e3⟩ := tr_done2 (u := withK t (mixT N v t i)) (A := A) (ca := ca) (B := B) (cb := cb) (K := some ⟨g, 0, none⟩) (ck := cap) HLO.out (by have := HSZ.out; omega) HZR.out HBE.out HU.out hW
      exact bodyPost_ret (results_tm1 (p := 4) rfl rfl e1) rfl (TrPost.mk HR.out e2 e3)
theorem tturned_step (N : Nat) (ihT : TrN 79 N) (ihD : TdN 121 N) : TdN 121 (N + 1) := by
  intro t A ca B cb K ck v lo b w hN hlo hat hwf hg hv
  cases hp : plainT t with
  | true =>
    by_cases hn : t.n = v
    · exact tturned_yes t A ca B cb K ck v N ihT lo b w hN hlo hat hwf hg hp hn
    · exact tturned_no1 t A ca B cb K ck v N lo b w hlo hat hwf hg hp hn
  | false =>
    by_cases h0 : valT t v = []
    · exact tturned_none t A ca B cb K ck v N lo b w hlo hat hwf hg hv hp h0
    · exact tturned_some t A ca B cb K ck v N ihD lo b w hN hlo hat hwf hg hv hp h0
theorem ttr_all (N : Nat) : TrN 79 N ∧ TdN 121 N := by
  induction N with
  | zero => exact ⟨fun t _ _ _ _ _ _ _ _ _ h => by cases t; simp [cnt] at h, fun t _ _ _ _ _ _ _ _ _ _ h => by cases t; simp [cnt] at h⟩
  | succ N ih => exact ⟨ttrain_step N ih.1 ih.2, tturned_step N ih.1 ih.2⟩
end Go.Proofs.YtebiojmfieoncaaGreat
