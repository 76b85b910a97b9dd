/- abacusref24.Of. Condition: sizes within reach. -/
import Derived.Test.YtebiojmfieoncaaGreatTeQm
import Derived.Test.YtebiojmfieoncaaGreatTeQl
import Derived.Test.YtebiojmfieoncaaGreatTeD2
namespace Go.Proofs.YtebiojmfieoncaaGreat
open Go.RowKit

set_option maxRecDepth 100000 in
set_option maxHeartbeats 16000000 in
theorem dof24_may (t : Tm) (A : Option Addr) (ca : Nat) (B : Option Addr) (cb : Nat) (K : Option Addr) (ck : Nat) (w : World) (hat : TmAt w t A B K) (hwf : WfT t) (hm : ¬ mayT t 3 = 0) :
    Calls Tryz.prog 36 #[tmVal t A ca B cb K ck] w (OfPost t w) := by
  obtain ⟨W1, hW1⟩ : ∃ W1, W1 = (w.alloc (.cells (tmCells t A ca B cb K ck) TTm)).alloc (.cells tm0 TTm) := ⟨_, rfl⟩
  have hb1 : Below w.heap.size w W1 := by rw [hW1]; exact ((Below.refl _ _).alloc (Nat.le_refl _) _).alloc (by simp) _
  have hx1 : W1.heap[w.heap.size]? = some (.cells (tmCells t A ca B cb K ck) TTm (0, 0)) := by rw [hW1]; exact (Below.heap_alloc _ _ _ (by simp)).trans (heap_alloc_new w _)
  have hz1 : W1.heap[w.heap.size + 1]? = some (.cells #[.int .i64 0, .string ⟨#[]⟩, .int .i64 0, .slice none 0 0, .slice none 0 0, .slice none 0 0] TTm (0, 0)) := by rw [hW1]; exact heap_new2 _ _ _
  have HS1 : Hid (W1.heap.size = w.heap.size + 2) := Lib.hid (by rw [hW1]; simp)
  have HW1 := Lib.hid hW1
  have HB1 := Lib.hid hb1
  have HX : Hid (∀ W, Below W1.heap.size W1 W → W.heap[w.heap.size]? = some (.cells (tmCells t A ca B cb K ck) TTm (0, 0))) := Lib.hid fun W h => (h.block _ (heap_lt hx1)).trans hx1
  have HZ : Hid (∀ W, Below W1.heap.size W1 W → W.heap[w.heap.size + 1]? = some (.cells #[.int .i64 0, .string ⟨#[]⟩, .int .i64 0, .slice none 0 0, .slice none 0 0, .slice none 0 0] TTm (0, 0))) := Lib.hid fun W h => (h.block _ (heap_lt hz1)).trans hz1
  have HM := Lib.hid (fun W (h : Below W1.heap.size W1 W) => dmay_any t A ca B cb K ck 3 W (hat.on (hb1.then_ h)) hwf)
  have HSZ := Lib.hid (fun W (h : Below W1.heap.size W1 W) => dsize_any t A ca B cb K ck W (hat.on (hb1.then_ h)) hwf)
  have hx := hx1
  have k0 : W1.cell? ⟨w.heap.size, 0, none⟩ = some (.int .i64 t.kind) := cell_at hx rfl
  have k1 : W1.cell? ⟨w.heap.size, 1, none⟩ = some (.string t.text) := cell_at hx rfl
  have k2 : W1.cell? ⟨w.heap.size, 2, none⟩ = some (.int .i64 t.n) := cell_at hx rfl
  have k3 : W1.cell? ⟨w.heap.size, 3, none⟩ = some (.slice A t.sh.length ca) := cell_at hx rfl
  have k4 : W1.cell? ⟨w.heap.size, 4, none⟩ = some (.slice B t.at_.length cb) := cell_at hx rfl
  have k5 : W1.cell? ⟨w.heap.size, 5, none⟩ = some (.slice K t.kids.length ck) := cell_at hx rfl
  have kl := heap_lt hx
  clear hx
  obtain ⟨R, hR⟩ : ∃ R, R = mayT t 3 := ⟨_, rfl⟩
  have HR : Hid (ofT t = (tNil, R)) := Lib.hid (by unfold ofT; rw [if_pos hm, hR])
  have HRR := Lib.hid hR
  have d1 : (R != 0) = true := by rw [hR]; simpa using hm
  clear hm hat hwf hb1 hx1 hz1 hW1 hR
  go_enter Tryz.func36, Tryz.ntmps36
  go_upto_region 1 with fail
  rw [← HW1.out]
  have HML := Lib.hid (HM.out W1 (Below.refl _ _))
  unfold tmVal at HML
  rw [← HRR.out] at HML
  go_wp2_with fail
  refine HML.out.mono ?_
  rintro e w2 ⟨rfl, hb2⟩
  have HB2 := Lib.hid hb2
  clear hb2 HML
  clear k0 k1 k2 k3 k4 k5 kl
  have hz := HZ.out _ HB2.out
  have z0 := cell_at hz (j := 0) rfl
  have z1 := cell_at hz (j := 1) rfl
  have z2 := cell_at hz (j := 2) rfl
  have z3 := cell_at hz (j := 3) rfl
  have z4 := cell_at hz (j := 4) rfl
  have z5 := cell_at hz (j := 5) rfl
  have fz := unfrozen hz
  have lz := heap_lt hz
  clear hz
  go_wp2_with fail
  obtain ⟨e1, e2, e3⟩ := of_done (u := tNil) (r := rt24) (B := w.heap.size + 2) (by omega) (HZ.out _ HB2.out) (HB1.out.then_ HB2.out) (own24 _ _) rfl
  exact bodyPost_ret (results_tm2 (p := 2) (t := 3) rfl rfl e1) rfl (OfPost.mk HR.out e2 nil_nodup e3)
set_option maxRecDepth 100000 in
set_option maxHeartbeats 16000000 in
theorem dof24_long (t : Tm) (A : Option Addr) (ca : Nat) (B : Option Addr) (cb : Nat) (K : Option Addr) (ck : Nat) (w : World) (hat : TmAt w t A B K) (hwf : WfT t) (hm : mayT t 3 = 0) (hl : 2048 < (sizeT t).1) :
    Calls Tryz.prog 36 #[tmVal t A ca B cb K ck] w (OfPost t w) := by
  obtain ⟨W1, hW1⟩ : ∃ W1, W1 = (w.alloc (.cells (tmCells t A ca B cb K ck) TTm)).alloc (.cells tm0 TTm) := ⟨_, rfl⟩
  have hb1 : Below w.heap.size w W1 := by rw [hW1]; exact ((Below.refl _ _).alloc (Nat.le_refl _) _).alloc (by simp) _
  have hx1 : W1.heap[w.heap.size]? = some (.cells (tmCells t A ca B cb K ck) TTm (0, 0)) := by rw [hW1]; exact (Below.heap_alloc _ _ _ (by simp)).trans (heap_alloc_new w _)
  have hz1 : W1.heap[w.heap.size + 1]? = some (.cells #[.int .i64 0, .string ⟨#[]⟩, .int .i64 0, .slice none 0 0, .slice none 0 0, .slice none 0 0] TTm (0, 0)) := by rw [hW1]; exact heap_new2 _ _ _
  have HS1 : Hid (W1.heap.size = w.heap.size + 2) := Lib.hid (by rw [hW1]; simp)
  have HW1 := Lib.hid hW1
  have HB1 := Lib.hid hb1
  have HX : Hid (∀ W, Below W1.heap.size W1 W → W.heap[w.heap.size]? = some (.cells (tmCells t A ca B cb K ck) TTm (0, 0))) := Lib.hid fun W h => (h.block _ (heap_lt hx1)).trans hx1
  have HZ : Hid (∀ W, Below W1.heap.size W1 W → W.heap[w.heap.size + 1]? = some (.cells #[.int .i64 0, .string ⟨#[]⟩, .int .i64 0, .slice none 0 0, .slice none 0 0, .slice none 0 0] TTm (0, 0))) := Lib.hid fun W h => (h.block _ (heap_lt hz1)).trans hz1
  have HM := Lib.hid (fun W (h : Below W1.heap.size W1 W) => dmay_any t A ca B cb K ck 3 W (hat.on (hb1.then_ h)) hwf)
  have HSZ := Lib.hid (fun W (h : Below W1.heap.size W1 W) => dsize_any t A ca B cb K ck W (hat.on (hb1.then_ h)) hwf)
  have hx := hx1
  have k0 : W1.cell? ⟨w.heap.size, 0, none⟩ = some (.int .i64 t.kind) := cell_at hx rfl
  have k1 : W1.cell? ⟨w.heap.size, 1, none⟩ = some (.string t.text) := cell_at hx rfl
  have k2 : W1.cell? ⟨w.heap.size, 2, none⟩ = some (.int .i64 t.n) := cell_at hx rfl
  have k3 : W1.cell? ⟨w.heap.size, 3, none⟩ = some (.slice A t.sh.length ca) := cell_at hx rfl
  have k4 : W1.cell? ⟨w.heap.size, 4, none⟩ = some (.slice B t.at_.length cb) := cell_at hx rfl
  have k5 : W1.cell? ⟨w.heap.size, 5, none⟩ = some (.slice K t.kids.length ck) := cell_at hx rfl
  have kl := heap_lt hx
  clear hx
  have HR : Hid (ofT t = (tNil, 2)) := Lib.hid (by unfold ofT; rw [if_neg (by rw [hm]; decide), if_pos hl])
  obtain ⟨n, hn⟩ : ∃ n, n = (sizeT t).1 := ⟨_, rfl⟩
  have HN := Lib.hid hn
  have HM0 := Lib.hid hm
  have d1 : (2048 : Int) < (n : Int) := by omega
  clear hm hl hat hwf hb1 hx1 hz1 hW1 hn
  go_enter Tryz.func36, Tryz.ntmps36
  go_upto_region 1 with fail
  rw [← HW1.out]
  have HML := Lib.hid (HM.out W1 (Below.refl _ _))
  unfold tmVal at HML
  go_wp2_with fail
  refine HML.out.mono ?_
  rintro e w2 ⟨rfl, hb2⟩
  have HB2 := Lib.hid hb2
  clear hb2 HML
  rw [HM0.out]
  have HSL := Lib.hid (HSZ.out w2 HB2.out)
  rw [← HN.out] at HSL
  clear k0 k1 k2 k3 k4 k5 kl
  have hx := HX.out w2 HB2.out
  have k0 : w2.cell? ⟨w.heap.size, 0, none⟩ = some (.int .i64 t.kind) := cell_at hx rfl
  have k1 : w2.cell? ⟨w.heap.size, 1, none⟩ = some (.string t.text) := cell_at hx rfl
  have k2 : w2.cell? ⟨w.heap.size, 2, none⟩ = some (.int .i64 t.n) := cell_at hx rfl
  have k3 : w2.cell? ⟨w.heap.size, 3, none⟩ = some (.slice A t.sh.length ca) := cell_at hx rfl
  have k4 : w2.cell? ⟨w.heap.size, 4, none⟩ = some (.slice B t.at_.length cb) := cell_at hx rfl
  have k5 : w2.cell? ⟨w.heap.size, 5, none⟩ = some (.slice K t.kids.length ck) := cell_at hx rfl
  have kl := heap_lt hx
  clear hx
  unfold tmVal at HSL
  go_wp2_with fail
  refine HSL.out.mono ?_
  rintro e w3 ⟨rfl, hb3⟩
  have HB3 := Lib.hid (HB2.out.then_ hb3)
  clear hb3 HSL
  clear k0 k1 k2 k3 k4 k5 kl
  have hz := HZ.out _ HB3.out
  have z0 := cell_at hz (j := 0) rfl
  have z1 := cell_at hz (j := 1) rfl
  have z2 := cell_at hz (j := 2) rfl
  have z3 := cell_at hz (j := 3) rfl
  have z4 := cell_at hz (j := 4) rfl
  have z5 := cell_at hz (j := 5) rfl
  have fz := unfrozen hz
  have lz := heap_lt hz
  clear hz
  go_wp2_with fail
  obtain ⟨e1, e2, e3⟩ := of_done (u := tNil) (r := rt24) (B := w.heap.size + 2) (by omega) (HZ.out _ HB3.out) (HB1.out.then_ HB3.out) (own24 _ _) rfl
  exact bodyPost_ret (results_tm2 (p := 2) (t := 3) rfl rfl e1) rfl (OfPost.mk HR.out e2 nil_nodup e3)
set_option maxRecDepth 100000 in
set_option maxHeartbeats 16000000 in
theorem dof24_not (t : Tm) (A : Option Addr) (ca : Nat) (B : Option Addr) (cb : Nat) (K : Option Addr) (ck : Nat) (w : World) (hat : TmAt w t A B K) (hwf : WfT t) (hm : mayT t 3 = 0) (hl : ¬ 2048 < (sizeT t).1) (hp : plainT t = false) :
    Calls Tryz.prog 36 #[tmVal t A ca B cb K ck] w (OfPost t w) := by
  have hg : goodT false t = true := (may_goodT hm).1
  obtain ⟨W1, hW1⟩ : ∃ W1, W1 = (w.alloc (.cells (tmCells t A ca B cb K ck) TTm)).alloc (.cells tm0 TTm) := ⟨_, rfl⟩
  have hb1 : Below w.heap.size w W1 := by rw [hW1]; exact ((Below.refl _ _).alloc (Nat.le_refl _) _).alloc (by simp) _
  have hx1 : W1.heap[w.heap.size]? = some (.cells (tmCells t A ca B cb K ck) TTm (0, 0)) := by rw [hW1]; exact (Below.heap_alloc _ _ _ (by simp)).trans (heap_alloc_new w _)
  have hz1 : W1.heap[w.heap.size + 1]? = some (.cells #[.int .i64 0, .string ⟨#[]⟩, .int .i64 0, .slice none 0 0, .slice none 0 0, .slice none 0 0] TTm (0, 0)) := by rw [hW1]; exact heap_new2 _ _ _
  have HS1 : Hid (W1.heap.size = w.heap.size + 2) := Lib.hid (by rw [hW1]; simp)
  have HW1 := Lib.hid hW1
  have HB1 := Lib.hid hb1
  have HX : Hid (∀ W, Below W1.heap.size W1 W → W.heap[w.heap.size]? = some (.cells (tmCells t A ca B cb K ck) TTm (0, 0))) := Lib.hid fun W h => (h.block _ (heap_lt hx1)).trans hx1
  have HZ : Hid (∀ W, Below W1.heap.size W1 W → W.heap[w.heap.size + 1]? = some (.cells #[.int .i64 0, .string ⟨#[]⟩, .int .i64 0, .slice none 0 0, .slice none 0 0, .slice none 0 0] TTm (0, 0))) := Lib.hid fun W h => (h.block _ (heap_lt hz1)).trans hz1
  have HM := Lib.hid (fun W (h : Below W1.heap.size W1 W) => dmay_any t A ca B cb K ck 3 W (hat.on (hb1.then_ h)) hwf)
  have HSZ := Lib.hid (fun W (h : Below W1.heap.size W1 W) => dsize_any t A ca B cb K ck W (hat.on (hb1.then_ h)) hwf)
  have hx := hx1
  have k0 : W1.cell? ⟨w.heap.size, 0, none⟩ = some (.int .i64 t.kind) := cell_at hx rfl
  have k1 : W1.cell? ⟨w.heap.size, 1, none⟩ = some (.string t.text) := cell_at hx rfl
  have k2 : W1.cell? ⟨w.heap.size, 2, none⟩ = some (.int .i64 t.n) := cell_at hx rfl
  have k3 : W1.cell? ⟨w.heap.size, 3, none⟩ = some (.slice A t.sh.length ca) := cell_at hx rfl
  have k4 : W1.cell? ⟨w.heap.size, 4, none⟩ = some (.slice B t.at_.length cb) := cell_at hx rfl
  have k5 : W1.cell? ⟨w.heap.size, 5, none⟩ = some (.slice K t.kids.length ck) := cell_at hx rfl
  have kl := heap_lt hx
  clear hx
  have HPL := Lib.hid (fun W (h : Below W1.heap.size W1 W) => dPlain_any t A ca B cb K ck false w.heap.size W (mask_grow (mask_none hat) (hb1.then_ h)) hwf hg)
  have HR : Hid (ofT t = (tNil, 35)) := Lib.hid (by unfold ofT; rw [if_neg (by rw [hm]; decide), if_neg hl, if_pos hp])
  obtain ⟨n, hn⟩ : ∃ n, n = (sizeT t).1 := ⟨_, rfl⟩
  have HN := Lib.hid hn
  have HM0 := Lib.hid hm
  have HP2 := Lib.hid hp
  have d1 : ¬ (2048 : Int) < (n : Int) := by omega
  clear hm hl hp hg hat hwf hb1 hx1 hz1 hW1 hn
  go_enter Tryz.func36, Tryz.ntmps36
  go_upto_region 1 with fail
  rw [← HW1.out]
  have HML := Lib.hid (HM.out W1 (Below.refl _ _))
  unfold tmVal at HML
  go_wp2_with fail
  refine HML.out.mono ?_
  rintro e w2 ⟨rfl, hb2⟩
  have HB2 := Lib.hid hb2
  clear hb2 HML
  rw [HM0.out]
  have HSL := Lib.hid (HSZ.out w2 HB2.out)
  rw [← HN.out] at HSL
  clear k0 k1 k2 k3 k4 k5 kl
  have hx := HX.out w2 HB2.out
  have k0 : w2.cell? ⟨w.heap.size, 0, none⟩ = some (.int .i64 t.kind) := cell_at hx rfl
  have k1 : w2.cell? ⟨w.heap.size, 1, none⟩ = some (.string t.text) := cell_at hx rfl
  have k2 : w2.cell? ⟨w.heap.size, 2, none⟩ = some (.int .i64 t.n) := cell_at hx rfl
  have k3 : w2.cell? ⟨w.heap.size, 3, none⟩ = some (.slice A t.sh.length ca) := cell_at hx rfl
  have k4 : w2.cell? ⟨w.heap.size, 4, none⟩ = some (.slice B t.at_.length cb) := cell_at hx rfl
  have k5 : w2.cell? ⟨w.heap.size, 5, none⟩ = some (.slice K t.kids.length ck) := cell_at hx rfl
  have kl := heap_lt hx
  clear hx
  unfold tmVal at HSL
  go_wp2_with fail
  refine HSL.out.mono ?_
  rintro e w3 ⟨rfl, hb3⟩
  have HB3 := Lib.hid (HB2.out.then_ hb3)
  clear hb3 HSL
  clear k0 k1 k2 k3 k4 k5 kl
  have hx := HX.out w3 HB3.out
  have k0 : w3.cell? ⟨w.heap.size, 0, none⟩ = some (.int .i64 t.kind) := cell_at hx rfl
  have k1 : w3.cell? ⟨w.heap.size, 1, none⟩ = some (.string t.text) := cell_at hx rfl
  have k2 : w3.cell? ⟨w.heap.size, 2, none⟩ = some (.int .i64 t.n) := cell_at hx rfl
  have k3 : w3.cell? ⟨w.heap.size, 3, none⟩ = some (.slice A t.sh.length ca) := cell_at hx rfl
  have k4 : w3.cell? ⟨w.heap.size, 4, none⟩ = some (.slice B t.at_.length cb) := cell_at hx rfl
  have k5 : w3.cell? ⟨w.heap.size, 5, none⟩ = some (.slice K t.kids.length ck) := cell_at hx rfl
  have kl := heap_lt hx
  clear hx
  have HPP := Lib.hid (HPL.out w3 HB3.out)
  rw [HP2.out] at HPP
  unfold tmVal at HPP
  go_wp2_with fail
  refine HPP.out.mono ?_
  rintro e w4 ⟨rfl, hb4⟩
  have HB5 := Lib.hid (HB3.out.then_ hb4)
  clear hb4 HPP
  clear k0 k1 k2 k3 k4 k5 kl
  have hz := HZ.out _ HB5.out
  have z0 := cell_at hz (j := 0) rfl
  have z1 := cell_at hz (j := 1) rfl
  have z2 := cell_at hz (j := 2) rfl
  have z3 := cell_at hz (j := 3) rfl
  have z4 := cell_at hz (j := 4) rfl
  have z5 := cell_at hz (j := 5) rfl
  have fz := unfrozen hz
  have lz := heap_lt hz
  clear hz
  go_wp2_with fail
  obtain ⟨e1, e2, e3⟩ := of_done (u := tNil) (r := rt24) (B := w.heap.size + 2) (by omega) (HZ.out _ HB5.out) (HB1.out.then_ HB5.out) (own24 _ _) rfl
  exact bodyPost_ret (results_tm2 (p := 2) (t := 3) rfl rfl e1) rfl (OfPost.mk HR.out e2 nil_nodup e3)
set_option maxRecDepth 100000 in
set_option maxHeartbeats 16000000 in
theorem dof24_train (t : Tm) (A : Option Addr) (ca : Nat) (B : Option Addr) (cb : Nat) (K : Option Addr) (ck : Nat) (w : World) (hat : TmAt w t A B K) (hwf : WfT t) (hm : mayT t 3 = 0) (hl : ¬ 2048 < (sizeT t).1) (hp : plainT t = true) :
    Calls Tryz.prog 36 #[tmVal t A ca B cb K ck] w (OfPost t w) := by
  have hg : goodT false t = true := (may_goodT hm).1
  obtain ⟨W1, hW1⟩ : ∃ W1, W1 = (w.alloc (.cells (tmCells t A ca B cb K ck) TTm)).alloc (.cells tm0 TTm) := ⟨_, rfl⟩
  have hb1 : Below w.heap.size w W1 := by rw [hW1]; exact ((Below.refl _ _).alloc (Nat.le_refl _) _).alloc (by simp) _
  have hx1 : W1.heap[w.heap.size]? = some (.cells (tmCells t A ca B cb K ck) TTm (0, 0)) := by rw [hW1]; exact (Below.heap_alloc _ _ _ (by simp)).trans (heap_alloc_new w _)
  have hz1 : W1.heap[w.heap.size + 1]? = some (.cells #[.int .i64 0, .string ⟨#[]⟩, .int .i64 0, .slice none 0 0, .slice none 0 0, .slice none 0 0] TTm (0, 0)) := by rw [hW1]; exact heap_new2 _ _ _
  have HS1 : Hid (W1.heap.size = w.heap.size + 2) := Lib.hid (by rw [hW1]; simp)
  have HW1 := Lib.hid hW1
  have HB1 := Lib.hid hb1
  have HX : Hid (∀ W, Below W1.heap.size W1 W → W.heap[w.heap.size]? = some (.cells (tmCells t A ca B cb K ck) TTm (0, 0))) := Lib.hid fun W h => (h.block _ (heap_lt hx1)).trans hx1
  have HZ : Hid (∀ W, Below W1.heap.size W1 W → W.heap[w.heap.size + 1]? = some (.cells #[.int .i64 0, .string ⟨#[]⟩, .int .i64 0, .slice none 0 0, .slice none 0 0, .slice none 0 0] TTm (0, 0))) := Lib.hid fun W h => (h.block _ (heap_lt hz1)).trans hz1
  have HM := Lib.hid (fun W (h : Below W1.heap.size W1 W) => dmay_any t A ca B cb K ck 3 W (hat.on (hb1.then_ h)) hwf)
  have HSZ := Lib.hid (fun W (h : Below W1.heap.size W1 W) => dsize_any t A ca B cb K ck W (hat.on (hb1.then_ h)) hwf)
  have hx := hx1
  have k0 : W1.cell? ⟨w.heap.size, 0, none⟩ = some (.int .i64 t.kind) := cell_at hx rfl
  have k1 : W1.cell? ⟨w.heap.size, 1, none⟩ = some (.string t.text) := cell_at hx rfl
  have k2 : W1.cell? ⟨w.heap.size, 2, none⟩ = some (.int .i64 t.n) := cell_at hx rfl
  have k3 : W1.cell? ⟨w.heap.size, 3, none⟩ = some (.slice A t.sh.length ca) := cell_at hx rfl
  have k4 : W1.cell? ⟨w.heap.size, 4, none⟩ = some (.slice B t.at_.length cb) := cell_at hx rfl
  have k5 : W1.cell? ⟨w.heap.size, 5, none⟩ = some (.slice K t.kids.length ck) := cell_at hx rfl
  have kl := heap_lt hx
  clear hx
  have HPL := Lib.hid (fun W (h : Below W1.heap.size W1 W) => dPlain_any t A ca B cb K ck false w.heap.size W (mask_grow (mask_none hat) (hb1.then_ h)) hwf hg)
  obtain ⟨u, hu⟩ : ∃ u, u = trn (cnt t) (nounT t) := ⟨_, rfl⟩
  obtain ⟨hcl, ⟨bz, hgz⟩, hcz⟩ := noun_parts hg hp
  have hwz : WfT (nounT t) := by unfold nounT; exact nth_wf (nth_wf (nth_wf hwf 0) 0) 0
  have HWU : Hid (WfT u) := Lib.hid (by rw [hu]; exact (tr_wf (cnt t)).1 _ hwz)
  have HTR : Hid (∀ (z : Tm) (A' : Option Addr) (ca' : Nat) (B' : Option Addr) (cb' : Nat) (K' : Option Addr) (ck' : Nat) (lo : Nat) (W : World), z = nounT t → lo ≤ W.heap.size → TmAt (mask W lo W.heap.size) z A' B' K' → Calls Tryz.prog 82 #[tmVal z A' ca' B' cb' K' ck'] W (TrPost u lo W)) := Lib.hid fun z A' ca' B' cb' K' ck' lo W hz hlo h => by
    subst hz
    rw [hu]
    exact (dtr_all (cnt t)).1 _ A' ca' B' cb' K' ck' lo bz W (by omega) hlo h hwz hgz hcl
  have HU := Lib.hid hu
  have HNO := Lib.hid (fun W (h : Below W1.heap.size W1 W) => dnoun_any t A ca B cb K ck false w.heap.size W (mask_grow (mask_none hat) (hb1.then_ h)) hwf hg hp)
  obtain ⟨n, hn⟩ : ∃ n, n = (sizeT t).1 := ⟨_, rfl⟩
  have HN := Lib.hid hn
  have HM0 := Lib.hid hm
  have HL0 := Lib.hid hl
  have HP2 := Lib.hid hp
  have d1 : ¬ (2048 : Int) < (n : Int) := by omega
  clear hm hl hp hg hat hwf hb1 hx1 hz1 hW1 hn hu hcl hgz hcz hwz
  go_enter Tryz.func36, Tryz.ntmps36
  go_upto_region 1 with fail
  rw [← HW1.out]
  have HML := Lib.hid (HM.out W1 (Below.refl _ _))
  unfold tmVal at HML
  go_wp2_with fail
  refine HML.out.mono ?_
  rintro e w2 ⟨rfl, hb2⟩
  have HB2 := Lib.hid hb2
  clear hb2 HML
  rw [HM0.out]
  have HSL := Lib.hid (HSZ.out w2 HB2.out)
  rw [← HN.out] at HSL
  clear k0 k1 k2 k3 k4 k5 kl
  have hx := HX.out w2 HB2.out
  have k0 : w2.cell? ⟨w.heap.size, 0, none⟩ = some (.int .i64 t.kind) := cell_at hx rfl
  have k1 : w2.cell? ⟨w.heap.size, 1, none⟩ = some (.string t.text) := cell_at hx rfl
  have k2 : w2.cell? ⟨w.heap.size, 2, none⟩ = some (.int .i64 t.n) := cell_at hx rfl
  have k3 : w2.cell? ⟨w.heap.size, 3, none⟩ = some (.slice A t.sh.length ca) := cell_at hx rfl
  have k4 : w2.cell? ⟨w.heap.size, 4, none⟩ = some (.slice B t.at_.length cb) := cell_at hx rfl
  have k5 : w2.cell? ⟨w.heap.size, 5, none⟩ = some (.slice K t.kids.length ck) := cell_at hx rfl
  have kl := heap_lt hx
  clear hx
  unfold tmVal at HSL
  go_wp2_with fail
  refine HSL.out.mono ?_
  rintro e w3 ⟨rfl, hb3⟩
  have HB3 := Lib.hid (HB2.out.then_ hb3)
  clear hb3 HSL
  clear k0 k1 k2 k3 k4 k5 kl
  have hx := HX.out w3 HB3.out
  have k0 : w3.cell? ⟨w.heap.size, 0, none⟩ = some (.int .i64 t.kind) := cell_at hx rfl
  have k1 : w3.cell? ⟨w.heap.size, 1, none⟩ = some (.string t.text) := cell_at hx rfl
  have k2 : w3.cell? ⟨w.heap.size, 2, none⟩ = some (.int .i64 t.n) := cell_at hx rfl
  have k3 : w3.cell? ⟨w.heap.size, 3, none⟩ = some (.slice A t.sh.length ca) := cell_at hx rfl
  have k4 : w3.cell? ⟨w.heap.size, 4, none⟩ = some (.slice B t.at_.length cb) := cell_at hx rfl
  have k5 : w3.cell? ⟨w.heap.size, 5, none⟩ = some (.slice K t.kids.length ck) := cell_at hx rfl
  have kl := heap_lt hx
  clear hx
  have HPP := Lib.hid (HPL.out w3 HB3.out)
  rw [HP2.out] at HPP
  unfold tmVal at HPP
  go_wp2_with fail
  refine HPP.out.mono ?_
  rintro e w4 ⟨rfl, hb4⟩
  have HB4 := Lib.hid (HB3.out.then_ hb4)
  have HNL := Lib.hid (HNO.out w4 HB4.out)
  clear hb4 HPP
  clear k0 k1 k2 k3 k4 k5 kl
  have hx := HX.out w4 HB4.out
  have k0 : w4.cell? ⟨w.heap.size, 0, none⟩ = some (.int .i64 t.kind) := cell_at hx rfl
  have k1 : w4.cell? ⟨w.heap.size, 1, none⟩ = some (.string t.text) := cell_at hx rfl
  have k2 : w4.cell? ⟨w.heap.size, 2, none⟩ = some (.int .i64 t.n) := cell_at hx rfl
  have k3 : w4.cell? ⟨w.heap.size, 3, none⟩ = some (.slice A t.sh.length ca) := cell_at hx rfl
  have k4 : w4.cell? ⟨w.heap.size, 4, none⟩ = some (.slice B t.at_.length cb) := cell_at hx rfl
  have k5 : w4.cell? ⟨w.heap.size, 5, none⟩ = some (.slice K t.kids.length ck) := cell_at hx rfl
  have kl := heap_lt hx
  clear hx
  unfold tmVal at HNL
  go_wp2_with fail
  refine HNL.out.mono ?_
  rintro e w5 ⟨z, A', ca', B', cb', K', ck', hz, rfl, hatz, hb5⟩
  have HZZ := Lib.hid hz
  have HB5 := Lib.hid (HB4.out.then_ hb5)
  have HCL := Lib.hid (HTR.out z A' ca' B' cb' K' ck' w.heap.size w5 hz (HB1.out.then_ HB5.out).size (mask_grow hatz hb5))
  clear hb5 hz hatz
  clear k0 k1 k2 k3 k4 k5 kl
  unfold tmVal at HCL
  go_wp2_with fail
  refine HCL.out.mono ?_
  rintro e w6 ⟨Au, cau, Bu, cbu, Ku, cku, rfl, hut, hb6⟩
  have HUT := Lib.hid hut
  have HB6 := Lib.hid (HB5.out.then_ hb6)
  clear hut hb6
  go_wp2_with fail
  refine (dcopy_any u Au cau Bu cbu Ku cku w6 (mask_out HUT.out) HWU.out).mono ?_
  rintro e w7 (⟨hgr, rfl, hb7⟩ | ⟨hgr, r, rfl, ho, hnd, hb7⟩)
  · have HB7 := Lib.hid (HB6.out.then_ hb7)
    have HR : Hid (ofT t = (tNil, 0)) := Lib.hid (by unfold ofT; rw [if_neg (by rw [HM0.out]; decide), if_neg HL0.out, if_neg (by rw [HP2.out]; decide), ← HU.out, if_pos hgr])
    clear hgr hb7
    go_upto_region 10 with fail
    obtain ⟨W8, hW8⟩ : ∃ W, W = w7.alloc (.cells #[.int .i64 0, .string ⟨#[]⟩, .int .i64 0, .slice none 0 0, .slice none 0 0, .slice none 0 0] TTm) := ⟨_, rfl⟩
    have HB8 : Hid (Below W1.heap.size W1 W8) := Lib.hid (HB7.out.then_ (by rw [hW8]; exact (Below.refl _ _).alloc (Nat.le_refl _) _))
    have hc8 : W8.heap[w7.heap.size]? = some (.cells #[.int .i64 0, .string ⟨#[]⟩, .int .i64 0, .slice none 0 0, .slice none 0 0, .slice none 0 0] TTm (0, 0)) := by rw [hW8]; exact heap_alloc_new _ _
    rw [← hW8]
    have y0 := cell_at hc8 (j := 0) rfl
    have y1 := cell_at hc8 (j := 1) rfl
    have y2 := cell_at hc8 (j := 2) rfl
    have y3 := cell_at hc8 (j := 3) rfl
    have y4 := cell_at hc8 (j := 4) rfl
    have y5 := cell_at hc8 (j := 5) rfl
    have yl := heap_lt hc8
    clear hW8 hc8
    have hz := HZ.out _ HB8.out
    have z0 := cell_at hz (j := 0) rfl
    have z1 := cell_at hz (j := 1) rfl
    have z2 := cell_at hz (j := 2) rfl
    have z3 := cell_at hz (j := 3) rfl
    have z4 := cell_at hz (j := 4) rfl
    have z5 := cell_at hz (j := 5) rfl
    have fz := unfrozen hz
    have lz := heap_lt hz
    clear hz
    go_wp2_with fail
    obtain ⟨e1, e2, e3⟩ := of_done (u := tNil) (r := rt24) (B := w.heap.size + 2) (by omega) (HZ.out _ HB8.out) (HB1.out.then_ HB8.out) (own24 _ _) rfl
    exact bodyPost_ret (results_tm2 (p := 2) (t := 3) rfl rfl e1) rfl (OfPost.mk HR.out e2 nil_nodup e3)
  · have HB7 := Lib.hid (HB6.out.then_ hb7)
    have HR : Hid (ofT t = (u, 0)) := Lib.hid (by unfold ofT; rw [if_neg (by rw [HM0.out]; decide), if_neg HL0.out, if_neg (by rw [HP2.out]; decide), ← HU.out, if_neg (by rw [hgr]; decide)])
    have HSB : Hid (w.heap.size + 1 < w6.heap.size) := Lib.hid (by have h1 := HB6.out.size; have h2 := HS1.out; omega)
    have HO := Lib.hid (And.intro ho hnd)
    clear hgr hb7 ho hnd
    go_upto_region 10 with fail
    obtain ⟨W8, hW8⟩ : ∃ W, W = w7.alloc (.cells #[.int .i64 u.kind, .string u.text, .int .i64 u.n, .slice r.s.p r.s.n r.s.c, .slice r.a.p r.a.n r.a.c, .slice r.k.p r.k.n r.k.c] TTm) := ⟨_, rfl⟩
    have hb8 : Below w7.heap.size w7 W8 := by rw [hW8]; exact (Below.refl _ _).alloc (Nat.le_refl _) _
    have HB8 := Lib.hid (HB7.out.then_ hb8)
    have HO8 := Lib.hid (HO.out.1.on hb8)
    have hc8 : W8.heap[w7.heap.size]? = some (.cells #[.int .i64 u.kind, .string u.text, .int .i64 u.n, .slice r.s.p r.s.n r.s.c, .slice r.a.p r.a.n r.a.c, .slice r.k.p r.k.n r.k.c] TTm (0, 0)) := by rw [hW8]; exact heap_alloc_new _ _
    rw [← hW8]
    have y0 := cell_at hc8 (j := 0) rfl
    have y1 := cell_at hc8 (j := 1) rfl
    have y2 := cell_at hc8 (j := 2) rfl
    have y3 := cell_at hc8 (j := 3) rfl
    have y4 := cell_at hc8 (j := 4) rfl
    have y5 := cell_at hc8 (j := 5) rfl
    have yl := heap_lt hc8
    clear hW8 hc8 hb8
    have hz := HZ.out _ HB8.out
    have z0 := cell_at hz (j := 0) rfl
    have z1 := cell_at hz (j := 1) rfl
    have z2 := cell_at hz (j := 2) rfl
    have z3 := cell_at hz (j := 3) rfl
    have z4 := cell_at hz (j := 4) rfl
    have z5 := cell_at hz (j := 5) rfl
    have fz := unfrozen hz
    have lz := heap_lt hz
    clear hz
    go_wp2_with fail
    obtain ⟨e1, e2, e3⟩ := of_done HSB.out (HZ.out _ HB8.out) (HB1.out.then_ HB8.out) HO8.out rfl
    exact bodyPost_ret (results_tm2 (p := 2) (t := 3) rfl rfl e1) rfl (OfPost.mk HR.out e2 HO.out.2 e3)
theorem dof24_any (t : Tm) (A : Option Addr) (ca : Nat) (B : Option Addr) (cb : Nat) (K : Option Addr) (ck : Nat) (w : World) (hat : TmAt w t A B K) (hwf : WfT t) : Calls Tryz.prog 36 #[tmVal t A ca B cb K ck] w (OfPost t w) := by
  by_cases hm : mayT t 3 = 0
  · by_cases hl : 2048 < (sizeT t).1
    · exact dof24_long t A ca B cb K ck w hat hwf hm hl
    · cases hp : plainT t with
      | false => exact dof24_not t A ca B cb K ck w hat hwf hm hl hp
      | true => exact dof24_train t A ca B cb K ck w hat hwf hm hl hp
  · exact dof24_may t A ca B cb K ck w hat hwf hm
end Go.Proofs.YtebiojmfieoncaaGreat
