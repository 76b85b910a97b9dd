/- abacusref24.train: a pick; all kinds. Condition: sizes within reach. -/
import Derived.Test.YtebiojmfieoncaaGreatTeQe
namespace Go.Proofs.YtebiojmfieoncaaGreat
open Go.RowKit

theorem take_mapd {ks : List Tm} {N i : Nat} {k : Tm} (h : ks[i]? = some k) : (ks.take (i + 1)).map (trn N) = (ks.take i).map (trn N) ++ [trn N k] := by
  rw [List.take_add_one, h]
  simp
set_option maxRecDepth 100000 in
set_option maxHeartbeats 16000000 in
theorem dtrain_pick (t : Tm) (A : Option Addr) (ca : Nat) (B : Option Addr) (cb : Nat) (K : Option Addr) (ck : Nat) (N : Nat) (ihT : TrN 82 N) (lo : Nat) (b : Bool) (w : World) (hN : cnt t ≤ N + 1) (hlo : lo ≤ w.heap.size) (hat : TmAt (mask w lo w.heap.size) t A B K) (hwf : WfT t) (hg : goodT b t = true) (hk : t.kind = 5) :
    Calls Tryz.prog 82 #[tmVal t A ca B cb K ck] w (TrPost (trn (N + 1) t) lo w) := by
  obtain ⟨W1, hW1⟩ : ∃ W1, W1 = (w.alloc (.cells (tmCells t A ca B cb K ck) TTm)).alloc (.cells tm0 TTm) := ⟨_, rfl⟩
  have hb1 : Below w.heap.size w W1 := by rw [hW1]; exact ((Below.refl _ _).alloc (Nat.le_refl _) _).alloc (by simp) _
  have hx1 : W1.heap[w.heap.size]? = some (.cells (tmCells t A ca B cb K ck) TTm (0, 0)) := by rw [hW1]; exact (Below.heap_alloc _ _ _ (by simp)).trans (heap_alloc_new w _)
  have hz1 : W1.heap[w.heap.size + 1]? = some (.cells #[.int .i64 0, .string ⟨#[]⟩, .int .i64 0, .slice none 0 0, .slice none 0 0, .slice none 0 0] TTm (0, 0)) := by rw [hW1]; exact heap_new2 _ _ _
  have CX : Hid (TrCx w W1 lo) := Lib.hid ⟨hlo, by rw [hW1]; simp, hz1⟩
  have HW1 := Lib.hid hW1
  have HB1 := Lib.hid hb1
  have HX1 : Hid (∀ W, Below (w.heap.size + 1) W1 W → W.heap[w.heap.size]? = some (.cells (tmCells t A ca B cb K ck) TTm (0, 0))) := Lib.hid fun W h => (h.block _ (by omega)).trans hx1
  have HAT := Lib.hid hat
  have HWF := Lib.hid hwf
  have HG := Lib.hid hg
  have k0 : W1.cell? ⟨w.heap.size, 0, none⟩ = some (.int .i64 t.kind) := cell_at hx1 rfl
  have k1 : W1.cell? ⟨w.heap.size, 1, none⟩ = some (.string t.text) := cell_at hx1 rfl
  have k2 : W1.cell? ⟨w.heap.size, 2, none⟩ = some (.int .i64 t.n) := cell_at hx1 rfl
  have k3 : W1.cell? ⟨w.heap.size, 3, none⟩ = some (.slice A t.sh.length ca) := cell_at hx1 rfl
  have k4 : W1.cell? ⟨w.heap.size, 4, none⟩ = some (.slice B t.at_.length cb) := cell_at hx1 rfl
  have k5 : W1.cell? ⟨w.heap.size, 5, none⟩ = some (.slice K t.kids.length ck) := cell_at hx1 rfl
  have kl := heap_lt hx1
  have HR : Hid (trn (N + 1) t = tOf 43 (t.kids.map (trn N))) := Lib.hid (by simp only [trn]; rw [if_neg (by omega), if_neg (by omega), if_neg (by omega), if_pos hk])
  obtain ⟨⟨hn2, hn17⟩, hcl⟩ := pick_fits hg hk
  obtain ⟨n, hn⟩ : ∃ n, n = t.kids.length := ⟨_, rfl⟩
  have HC : Hid (∀ (i : Nat) (k : Tm), t.kids[i]? = some k → cnt k ≤ N ∧ WfT k ∧ (∃ c, goodT c k = true) ∧ cls k.kind = 1) := Lib.hid fun i k h => ⟨by have := cnt_kid h; omega, hwf.node.each k (List.mem_of_getElem? h), ⟨_, good_kid hg h⟩, hcl k (List.mem_of_getElem? h)⟩
  have IH := Lib.hid ihT
  have HLO := Lib.hid hlo
  rw [← hn] at k5 hn2 hn17
  have HN := Lib.hid hn
  obtain ⟨j0, hj, y0, y1, y2⟩ := info_parts info_tm
  have HKK : Hid (∀ W, Below W1.heap.size W1 W → W.cell? ⟨w.heap.size, 5, none⟩ = some (.slice K n ck) ∧ w.heap.size < W.heap.size) := Lib.hid fun W h => by
    have hh := (h.block _ (heap_lt hx1)).trans hx1
    rw [hn]
    exact ⟨cell_at hh rfl, heap_lt hh⟩
  have kk2 : (t.kind == 2) = false := beq_no (by rw [hk]; decide)
  have kk1 : (t.kind == 1) = false := beq_no (by rw [hk]; decide)
  have kk3 : (t.kind == 3) = false := beq_no (by rw [hk]; decide)
  have kk4 : (t.kind == 4) = false := beq_no (by rw [hk]; decide)
  clear hat hwf hb1 hx1 hz1 hW1 hg hN hlo hcl hk ihT hn
  go_enter Tryz.func82, Tryz.ntmps82
  go_upto_region 1 with fail
  rw [← HW1.out]
  go_wp2_with fail
  have HP0 : Hid (Below W1.heap.size W1 W1 ∧ ShW W1 W1.heap.size lo W1.heap.size ((t.kids.take 0).map (trn N)) [] (.slice none 0 0)) := Lib.hid ⟨Below.refl _ _, ShW.empty _ _ _ _⟩
  go_loopw [3, 4] (fun v3 v4 W => ∃ (i : Nat) (rs : List Rt), i ≤ n ∧ v4 = .int .i64 i ∧ Hid (Below W1.heap.size W1 W ∧ ShW W W1.heap.size lo W1.heap.size ((t.kids.take i).map (trn N)) rs v3)) (fun _ v4 _ => n - (intOf v4).toNat)
  case atStart => exact ⟨0, [], Nat.zero_le _, rfl, HP0⟩
  case round =>
    obtain ⟨i, rs, hi, rfl, HI⟩ := hrel
    have HBW : Hid (Below w.heap.size w wr) := Lib.hid (HB1.out.then_ HI.out.1)
    obtain ⟨k5, kl⟩ := HKK.out wr HI.out.1
    by_cases hlt : i < n
    · obtain ⟨k, hk2⟩ : ∃ k, t.kids[i]? = some k := ⟨_, List.getElem?_eq_getElem (by rw [← HN.out]; exact hlt)⟩
      obtain ⟨hc1, hc2, ⟨hc3, hc4⟩, hc5⟩ := HC.out i k hk2
      obtain ⟨gk, ok, hK, hpk⟩ := HAT.out.kids.get hk2
      rw [Nat.zero_add] at hpk
      obtain ⟨Ax, cax, Bx, cbx, Kx, ckx, xl, x0, x1, x2, x3, x4, x5, hatx⟩ := hpk.cells
      rw [mask_size] at xl
      have key : ∀ j v, (mask w lo w.heap.size).cell? ⟨gk, j, none⟩ = some v → wr.cell? ⟨gk, j, none⟩ = some v := fun j v hv => (HBW.out.cell (cell_lt' (mask_cell hv).2)).trans (mask_cell hv).2
      have x0 := key _ _ x0
      have x1 := key _ _ x1
      have x2 := key _ _ x2
      have x3 := key _ _ x3
      have x4 := key _ _ x4
      have x5 := key _ _ x5
      have xl := Nat.lt_of_lt_of_le xl HBW.out.size
      have HCL : Hid (Calls Tryz.prog 82 #[tmVal k Ax cax Bx cbx Kx ckx] wr (TrPost (trn N k) lo wr)) := Lib.hid (IH.out k Ax cax Bx cbx Kx ckx lo _ wr hc1 (Nat.le_trans HLO.out HBW.out.size) (mask_grow hatx HBW.out) hc2 hc4 hc5)
      have HK2 := Lib.hid hk2
      have q1 : (0 : Int) ≤ (i : Int) := by omega
      have q2 : (i : Int) < (n : Int) := by omega
      obtain ⟨us, hus⟩ : ∃ us, us = (t.kids.take i).map (trn N) := ⟨_, rfl⟩
      have HUS := Lib.hid hus
      have HIL : Hid (us.length = i) := Lib.hid (by rw [hus, List.length_map, List.length_take, ← HN.out]; omega)
      have HI2 : Hid (ShW wr W1.heap.size lo W1.heap.size us rs u3) := Lib.hid (by rw [hus]; exact HI.out.2)
      clear hus
      rw [hK] at k5
      clear hk2 hpk hatx key hc1 hc2 hc4 hc5 hK
      unfold tmVal at HCL
      go_wp2_with fail
      refine HCL.out.mono ?_
      rintro e w7 ⟨Au, cau, Bu, cbu, Ku, cku, rfl, hu, hb7⟩
      obtain ⟨u, hu0⟩ : ∃ u, u = trn N k := ⟨_, rfl⟩
      rw [← hu0] at hu ⊢
      have HU := Lib.hid hu
      have HB7 := Lib.hid hb7
      have HU0 := Lib.hid hu0
      clear hu hb7 hu0
      go_upto_region 19 with fail
      obtain ⟨W8, hW8⟩ : ∃ W, W = (w7.alloc (.cells (tmCells u Au cau Bu cbu Ku cku) TTm)).alloc (.cells (tmCells u Au cau Bu cbu Ku cku) TTm) := ⟨_, rfl⟩
      obtain ⟨W9, hW9⟩ : ∃ W, W = w7.alloc (.cells (tmCells u Au cau Bu cbu Ku cku) TTm) := ⟨_, rfl⟩
      rw [← hW9] at hW8
      have hc9 : W9.heap[w7.heap.size]? = some (.cells (tmCells u Au cau Bu cbu Ku cku) TTm (0, 0)) := by rw [hW9]; exact heap_alloc_new _ _
      have hb9 : Below w7.heap.size w7 W9 := by rw [hW9]; exact (Below.refl _ _).alloc (Nat.le_refl _) _
      have hb8 : Below W9.heap.size W9 W8 := by rw [hW8]; exact (Below.refl _ _).alloc (Nat.le_refl _) _
      have HB9 := Lib.hid (hb9.then_ hb8)
      have HNEWS : Hid (∀ j y, (rtCells u (rtOf u Au cau Bu cbu Ku cku))[j]? = some y → W8.cell? ((⟨W9.heap.size, 0, none⟩ : Addr).add j) = some y) := Lib.hid fun j y hy => by
        have e2 : (⟨W9.heap.size, 0, none⟩ : Addr).add j = ⟨W9.heap.size, j, none⟩ := by unfold Addr.add; split <;> simp_all
        rw [e2, hW8]
        exact cell_at (heap_alloc_new W9 _) (by rw [← Array.getElem?_toList]; exact hy)
      have HSZ : Hid (W1.heap.size ≤ W8.heap.size) := Lib.hid (Nat.le_trans HI.out.1.size (Nat.le_trans HB7.out.size (hb9.then_ hb8).size))
      have HS8 : Hid (W8.ownsRow W1.heap.size TTm 6 u3 i (rtCellsL us rs)) := Lib.hid (by have h := (HI2.out.below HB7.out |>.below (hb9.then_ hb8)).row; rw [HIL.out] at h; exact h)
      have HW8 := Lib.hid hW8
      rw [← hW9]
      have y6 := cell_at hc9 (j := 0) rfl
      have y7 := cell_at hc9 (j := 1) rfl
      have y8 := cell_at hc9 (j := 2) rfl
      have y9 := cell_at hc9 (j := 3) rfl
      have ya := cell_at hc9 (j := 4) rfl
      have yb := cell_at hc9 (j := 5) rfl
      have yl := heap_lt hc9
      clear hW8 hW9 hc9 hb9 hb8 x0 x1 x2 x3 x4 x5 xl k5 kl
      go_wp2_with (at_builtin; rw [← HW8.out]; refine wpList_append_lies _ rfl (.tmp 72) (.tmp 74) 22 rfl W1.heap.size TTm j0 (.agg tm0) 6 104 Tryz.underlying22 hj y0 y1 y2 rfl (by decide) u3 i (rtCellsL us rs) rfl HS8.out ⟨W9.heap.size, 0, none⟩ 1 1 (rtCells u (rtOf u Au cau Bu cbu Ku cku)) rfl rfl HNEWS.out (fun y hy => rt_one [u] [rtOf u Au cau Bu cbu Ku cku] y (by simp only [rtCellsL, List.append_nil]; exact hy)) (by omega) (by unfold maxLen; omega) (by omega) HSZ.out _ rfl ?_)
      intro g cap wf hown hgr hor _
      have HT : Hid (ShW wf W1.heap.size lo W1.heap.size ((t.kids.take (i + 1)).map (trn N)) (rs ++ [rtOf u Au cau Bu cbu Ku cku]) (.slice (some ⟨g, 0, none⟩) (i + 1) cap)) := Lib.hid (by
        rw [take_mapd HK2.out, ← HU0.out, ← HUS.out]
        exact HI2.out.take (by have h1 := CX.out.s1; have h2 := HLO.out; omega) HI.out.1.size HB7.out HU.out HB9.out (by rw [HIL.out]; exact hown) hgr (hor.imp (fun e => e.symm) (fun e => by rw [e]; rfl)))
      have HBF : Hid (Below W1.heap.size W1 wf) := Lib.hid ((HI.out.1.then_ (HB7.out.then_ HB9.out)).grown hgr HSZ.out (fun k hk => (HI2.out.row.lt k hk).1))
      clear hown hgr hor
      go_wp2_with fail
      exact ⟨⟨i + 1, _, by omega, by go_num, Lib.hid ⟨HBF.out, HT.out⟩⟩, by simp [intOf]; omega⟩
    · obtain rfl : i = n := by omega
      have HUS : Hid ((t.kids.take i).map (trn N) = t.kids.map (trn N)) := Lib.hid (by rw [List.take_of_length_le (by rw [← HN.out]; exact Nat.le_refl _)])
      have hul : ((t.kids.take i).map (trn N)).length = i := by rw [HUS.out, List.length_map, HN.out]
      have hsh := HI.out.2
      rcases hsh.row.2 with ⟨_, h0⟩ | ⟨g, cap, cur, rfl, _⟩
      · omega
      have HKD : Hid (KidsAt (mask wr lo W1.heap.size) (some ⟨g, 0, none⟩) (t.kids.map (trn N)) 0) := Lib.hid (by
        have h := hsh.kids (Nat.le_refl _)
        rw [HUS.out] at h
        exact h)
      have HML : Hid (i = (t.kids.map (trn N)).length) := Lib.hid (by rw [List.length_map, HN.out])
      rw [hul]
      clear hlt hsh hul
      go_wp2_with fail
      refine (dmade_any 43 (t.kids.map (trn N)) g 0 i cap wr (lo := lo) (hi := W1.heap.size) HI.out.1.size HKD.out HML.out (by omega) (by omega)).mono ?_
      rintro e w2 ⟨gm, cm, rfl, hm, hb2⟩
      have HU := Lib.hid hm
      have HB2 := Lib.hid (HI.out.1.then_ hb2)
      clear hb2 hm k5 kl
      have hz := (HB2.out.block (w.heap.size + 1) (heap_lt CX.out.hz)).trans CX.out.hz
      have z0 := cell_at hz (j := 0) rfl
      have z1 := cell_at hz (j := 1) rfl
      have z2 := cell_at hz (j := 2) rfl
      have z3 := cell_at hz (j := 3) rfl
      have z4 := cell_at hz (j := 4) rfl
      have z5 := cell_at hz (j := 5) rfl
      have fz := unfrozen hz
      have lz := heap_lt hz
      clear hz
      go_wp2_with fail
      obtain ⟨e1, e2, e3⟩ := tr_done (u := tOf 43 (t.kids.map (trn N))) (A := none) (ca := 0) (B := none) (cb := 0) (K := (some ⟨gm, 0, none⟩)) (ck := cm) CX.out HB1.out HB2.out HU.out rfl
      exact bodyPost_ret (results_tm1 (p := 2) rfl rfl e1) rfl (TrPost.mk HR.out e2 e3)
theorem dtrain_step (N : Nat) (ihT : TrN 82 N) (ihD : TdN 124 N) : TrN 82 (N + 1) := by
  intro t A ca B cb K ck lo b w hN hlo hat hwf hg hc
  unfold cls at hc
  have h15 : 1 ≤ t.kind ∧ t.kind ≤ 5 := by
    by_cases h : 1 ≤ t.kind ∧ t.kind ≤ 5
    · exact h
    · rw [if_neg h] at hc
      split at hc
      · omega
      · split at hc <;> omega
  by_cases h2 : t.kind = 2
  · by_cases hs1 : t.text.data.toList = [120]
    · exact dtrain_x t A ca B cb K ck N lo b w hlo hat hwf hg h2 hs1
    · by_cases hs2 : t.text.data.toList = [121]
      · exact dtrain_y t A ca B cb K ck N lo b w hlo hat hwf hg h2 hs2
      · exact dtrain_name t A ca B cb K ck N lo b w hlo hat hwf hg h2 hs1 hs2
  · by_cases h1 : t.kind = 1
    · exact dtrain_lit t A ca B cb K ck N lo b w hlo hat hwf hg h1
    · by_cases h3 : t.kind = 3
      · exact dtrain_mon t A ca B cb K ck N ihT ihD lo b w hN hlo hat hwf hg h3
      · by_cases h4 : t.kind = 4
        · exact dtrain_dy t A ca B cb K ck N ihT ihD lo b w hN hlo hat hwf hg h4
        · exact dtrain_pick t A ca B cb K ck N ihT lo b w hN hlo hat hwf hg (by omega)
end Go.Proofs.YtebiojmfieoncaaGreat
