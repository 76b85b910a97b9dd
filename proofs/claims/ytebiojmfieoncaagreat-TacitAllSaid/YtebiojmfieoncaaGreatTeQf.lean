/- tacit.train: a pick; all kinds. Condition: sizes within reach. -/
import Derived.Test.YtebiojmfieoncaaGreatTeQb
import Derived.Test.YtebiojmfieoncaaGreatTeQd
namespace Go.Proofs.YtebiojmfieoncaaGreat
open Go.RowKit

/-- what stands while a pick's parts become trains -/
structure PickW (W3 W : World) (g4 B lo N : Nat) (ks : List Tm) (i : Nat) (rs : List Rt) (v4 : Value) : Prop where
  be : Below g4 W3 W
  c4 : W.heap[g4]? = some (.cells #[.int .i64 43, .string ⟨#[]⟩, .int .i64 0, .slice none 0 0, .slice none 0 0, v4] TTm (0, 0))
  sh : ShW W B lo B ((ks.take i).map (trn N)) rs v4
theorem take_map {ks : List Tm} {N i : Nat} {k : Tm} (h : ks[i]? = some k) : (ks.take (i + 1)).map (trn N) = (ks.take i).map (trn N) ++ [trn N k] := by
  rw [List.take_add_one, h]
  simp
set_option maxRecDepth 100000 in
set_option maxHeartbeats 16000000 in
theorem ttrain_pick (t : Tm) (A : Option Addr) (ca : Nat) (B : Option Addr) (cb : Nat) (K : Option Addr) (ck : Nat) (N : Nat) (ihT : TrN 79 N) (lo : Nat) (b : Bool) (w : World) (hN : cnt t ≤ N + 1) (hlo : lo ≤ w.heap.size) (hat : TmAt (mask w lo w.heap.size) t A B K) (hwf : WfT t) (hg : goodT b t = true) (hk : t.kind = 5) :
    Calls Tryz.prog 79 #[tmVal t A ca B cb K ck] w (TrPost (trn (N + 1) t) lo w) := by
  obtain ⟨W1, hW1⟩ : ∃ W1, W1 = (w.alloc (.cells (tmCells t A ca B cb K ck) TTm)).alloc (.cells tm0 TTm) := ⟨_, rfl⟩
  have hb1 : Below w.heap.size w W1 := by rw [hW1]; exact ((Below.refl _ _).alloc (Nat.le_refl _) _).alloc (by simp) _
  have hx1 : W1.heap[w.heap.size]? = some (.cells (tmCells t A ca B cb K ck) TTm (0, 0)) := by rw [hW1]; exact (Below.heap_alloc _ _ _ (by simp)).trans (heap_alloc_new w _)
  have hz1 : W1.heap[w.heap.size + 1]? = some (.cells #[.int .i64 0, .string ⟨#[]⟩, .int .i64 0, .slice none 0 0, .slice none 0 0, .slice none 0 0] TTm (0, 0)) := by rw [hW1]; exact heap_new2 _ _ _
  have CX : Hid (TrCx w W1 lo) := Lib.hid ⟨hlo, by rw [hW1]; simp, hz1⟩
  have HW1 := Lib.hid hW1
  have HB1 := Lib.hid hb1
  have HX1 : Hid (∀ W, Below (w.heap.size + 1) W1 W → W.heap[w.heap.size]? = some (.cells (tmCells t A ca B cb K ck) TTm (0, 0))) := Lib.hid fun W h => (h.block _ (by omega)).trans hx1
  have HAT := Lib.hid hat
  have HWF := Lib.hid hwf
  have HG := Lib.hid hg
  have k0 : W1.cell? ⟨w.heap.size, 0, none⟩ = some (.int .i64 t.kind) := cell_at hx1 rfl
  have k1 : W1.cell? ⟨w.heap.size, 1, none⟩ = some (.string t.text) := cell_at hx1 rfl
  have k2 : W1.cell? ⟨w.heap.size, 2, none⟩ = some (.int .i64 t.n) := cell_at hx1 rfl
  have k3 : W1.cell? ⟨w.heap.size, 3, none⟩ = some (.slice A t.sh.length ca) := cell_at hx1 rfl
  have k4 : W1.cell? ⟨w.heap.size, 4, none⟩ = some (.slice B t.at_.length cb) := cell_at hx1 rfl
  have k5 : W1.cell? ⟨w.heap.size, 5, none⟩ = some (.slice K t.kids.length ck) := cell_at hx1 rfl
  have kl := heap_lt hx1
  have HR : Hid (trn (N + 1) t = tOf 43 (t.kids.map (trn N))) := Lib.hid (by simp only [trn]; rw [if_neg (by omega), if_neg (by omega), if_neg (by omega), if_pos hk])
  obtain ⟨⟨hn2, hn17⟩, hcl⟩ := pick_fits hg hk
  obtain ⟨n, hn⟩ : ∃ n, n = t.kids.length := ⟨_, rfl⟩
  have HC : Hid (∀ (i : Nat) (k : Tm), t.kids[i]? = some k → cnt k ≤ N ∧ WfT k ∧ (∃ c, goodT c k = true) ∧ cls k.kind = 1) := Lib.hid fun i k h => ⟨by have := cnt_kid h; omega, hwf.node.each k (List.mem_of_getElem? h), ⟨_, good_kid hg h⟩, hcl k (List.mem_of_getElem? h)⟩
  have IH := Lib.hid ihT
  have HLO := Lib.hid hlo
  rw [← hn] at k5 hn2 hn17
  have HN := Lib.hid hn
  have kk2 : (t.kind == 2) = false := by rw [hk]; rfl
  have kk3 : (t.kind == 3) = false := by rw [hk]; rfl
  have kk4 : (t.kind == 4) = false := by rw [hk]; rfl
  have kk5 : (t.kind == 5) = true := by rw [hk]; rfl
  clear hat hwf hb1 hx1 hz1 hW1 hg hN hlo hcl hk ihT hn
  go_enter Tryz.func79, Tryz.ntmps79
  go_upto_region 1 with fail
  rw [← HW1.out]
  go_wp2_with fail
  refine (tmade_any 43 [] none 0 0 W1 rfl).mono ?_
  rintro e w2 ⟨rfl, hb2⟩
  have HB2 := Lib.hid hb2
  go_upto_region 16 with fail
  obtain ⟨g4, hg4⟩ : ∃ g, g = w2.heap.size := ⟨_, rfl⟩
  obtain ⟨W3, hW3⟩ : ∃ W, W = w2.alloc (.cells (tmCells (tOf 43 []) none 0 none 0 none 0) TTm) := ⟨_, rfl⟩
  have hb3 : Below w2.heap.size w2 W3 := by rw [hW3]; exact (Below.refl _ _).alloc (Nat.le_refl _) _
  have hc3 : W3.heap[g4]? = some (.cells #[.int .i64 43, .string ⟨#[]⟩, .int .i64 0, .slice none 0 0, .slice none 0 0, .slice none 0 0] TTm (0, 0)) := by rw [hW3, hg4]; exact heap_alloc_new _ _
  have HS3 : Hid (W3.heap.size = g4 + 1) := Lib.hid (by rw [hW3, hg4]; simp)
  have HB3 : Hid (Below W1.heap.size W1 W3) := Lib.hid (hb2.then_ hb3)
  have HG4 : Hid (W1.heap.size ≤ g4) := Lib.hid (by rw [hg4]; exact hb2.size)
  have HP0 : Hid (PickW W3 W3 g4 (g4 + 1) lo N t.kids 0 [] (.slice none 0 0)) := Lib.hid ⟨Below.refl _ _, hc3, ShW.empty _ _ _ _⟩
  rw [← hW3, ← hg4]
  clear hW3 hg4 hb2 hb3 hc3
  go_wp2_with fail
  go_loopw [57] (fun v W => ∃ (i : Nat) (rs : List Rt) (v4 : Value), i ≤ n ∧ v = .int .i64 i ∧ Hid (PickW W3 W g4 (g4 + 1) lo N t.kids i rs v4)) (fun v _ => n - (intOf v).toNat)
  case atStart => exact ⟨0, [], _, Nat.zero_le _, rfl, HP0⟩
  case round =>
    obtain ⟨i, rs, v4, hi, rfl, HI⟩ := hrel
    have HBW : Hid (Below w.heap.size w wr) := Lib.hid (HB1.out.then_ (HB3.out.trans (HI.out.be.mono HG4.out)))
    by_cases hlt : i < n
    · obtain ⟨k, hk2⟩ : ∃ k, t.kids[i]? = some k := ⟨_, List.getElem?_eq_getElem (by rw [← HN.out]; exact hlt)⟩
      obtain ⟨hc1, hc2, ⟨hc3, hc4⟩, hc5⟩ := HC.out i k hk2
      obtain ⟨gk, ok, hK, hpk⟩ := HAT.out.kids.get hk2
      rw [Nat.zero_add] at hpk
      obtain ⟨Ax, cax, Bx, cbx, Kx, ckx, xl, x0, x1, x2, x3, x4, x5, hatx⟩ := hpk.cells
      rw [mask_size] at xl
      have key : ∀ j v, (mask w lo w.heap.size).cell? ⟨gk, j, none⟩ = some v → wr.cell? ⟨gk, j, none⟩ = some v := fun j v hv => (HBW.out.cell (cell_lt' (mask_cell hv).2)).trans (mask_cell hv).2
      have x0 := key _ _ x0
      have x1 := key _ _ x1
      have x2 := key _ _ x2
      have x3 := key _ _ x3
      have x4 := key _ _ x4
      have x5 := key _ _ x5
      have xl := Nat.lt_of_lt_of_le xl HBW.out.size
      have HAX : Hid (TmAt (mask w lo w.heap.size) k Ax Bx Kx ∧ cnt k ≤ N ∧ WfT k ∧ goodT hc3 k = true ∧ cls k.kind = 1) := Lib.hid ⟨hatx, hc1, hc2, hc4, hc5⟩
      have HK2 := Lib.hid hk2
      have q1 : (0 : Int) ≤ (i : Int) := by omega
      have q2 : (i : Int) < (n : Int) := by omega
      rw [hK] at *
      clear hk2 hpk hatx key hc1 hc2 hc4 hc5 hK
      go_upto_region 19 with fail
      obtain ⟨W5, hW5⟩ : ∃ W, W = wr.alloc (.cells (tmCells k Ax cax Bx cbx Kx ckx) TTm) := ⟨_, rfl⟩
      have hb5 : Below wr.heap.size wr W5 := by rw [hW5]; exact (Below.refl _ _).alloc (Nat.le_refl _) _
      have hc6 : W5.heap[wr.heap.size]? = some (.cells (tmCells k Ax cax Bx cbx Kx ckx) TTm (0, 0)) := by rw [hW5]; exact heap_alloc_new _ _
      rw [← hW5]
      have hsz : g4 + 1 ≤ wr.heap.size := heap_lt HI.out.c4
      have hc45 := (hb5.block g4 (heap_lt HI.out.c4)).trans HI.out.c4
      have HBX := Lib.hid (HI.out.be.trans (hb5.mono (by omega)))
      have HXS := Lib.hid (HI.out.sh.below hb5)
      have HC6 := Lib.hid hc6
      have HC4 := Lib.hid hc45
      have HSZ := Lib.hid (And.intro hsz hb5.size)
      have HNE : Hid (v4.ownBlock ≠ some wr.heap.size) := Lib.hid fun e => by have := (HI.out.sh.row.lt _ e).2; omega
      have HCL : Hid (∀ W, Below W5.heap.size W5 W → Calls Tryz.prog 79 #[tmVal k Ax cax Bx cbx Kx ckx] W (TrPost (trn N k) lo W)) := Lib.hid fun W h => by
        have hw := (HBW.out.then_ hb5).then_ h
        exact IH.out k Ax cax Bx cbx Kx ckx lo _ W HAX.out.2.1 (Nat.le_trans HLO.out hw.size) (mask_grow HAX.out.1 hw) HAX.out.2.2.1 HAX.out.2.2.2.1 HAX.out.2.2.2.2
      clear hW5 hb5 hc6 hsz hc45 x0 x1 x2 x3 x4 x5 xl
      refine ttr19 HC4.out HC6.out HNE.out (by have := HSZ.out; omega) (Nat.lt_succ_self _) (by have h1 := HG4.out; have h2 := CX.out.s1; have h3 := HLO.out; omega) (by have := HSZ.out; omega) (by rw [List.length_map, List.length_take]; omega) HXS.out HCL.out ?_ ?_
      · exact fun _ _ _ _ _ h => h
      intro _ _ _ _ _ _ _ Au cau Bu cbu Ku cku gn cap W' hb' hc' hs'
      have HE : Hid (PickW W3 W' g4 (g4 + 1) lo N t.kids (i + 1) (rs ++ [rtOf (trn N k) Au cau Bu cbu Ku cku]) (.slice (some ⟨gn, 0, none⟩) (((t.kids.take i).map (trn N)).length + 1) cap)) := Lib.hid ⟨HBX.out.trans hb', hc', by rw [take_map HK2.out]; exact hs'⟩
      clear hb' hc' hs'
      try simp only [Exit.inBlock, Exit.then]
      go_wp2_with fail
      exact ⟨⟨i + 1, _, _, by omega, by go_num, HE⟩, by simp [intOf]; omega⟩
    · obtain rfl : i = n := by omega
      obtain ⟨P, c, rfl⟩ := HI.out.sh.form
      have HUS : Hid ((t.kids.take i).map (trn N) = t.kids.map (trn N)) := Lib.hid (by rw [List.take_of_length_le (by rw [← HN.out]; exact Nat.le_refl _)])
      have hul : ((t.kids.take i).map (trn N)).length = i := by rw [HUS.out, List.length_map, HN.out]
      have hcc := HI.out.c4
      rw [hul] at hcc
      have HB2 : Hid (Below W1.heap.size W1 wr) := Lib.hid (HB3.out.trans (HI.out.be.mono HG4.out))
      have HU : Hid (TmAt (mask wr lo W1.heap.size) (tOf 43 (t.kids.map (trn N))) none none P) := Lib.hid (by
        refine mask_less (hi := g4 + 1) ⟨IntsAt.nil _ _, IntsAt.nil _ _, ?_⟩ (Nat.le_succ_of_le HG4.out)
        have h := HI.out.sh.kids (Nat.le_refl _)
        rw [HUS.out] at h
        exact h)
      have hml : (t.kids.map (trn N)).length = i := by rw [List.length_map, HN.out]
      have y0 := cell_at hcc (j := 0) rfl
      have y1 := cell_at hcc (j := 1) rfl
      have y2 := cell_at hcc (j := 2) rfl
      have y3 := cell_at hcc (j := 3) rfl
      have y4 := cell_at hcc (j := 4) rfl
      have y5 := cell_at hcc (j := 5) rfl
      have yl := heap_lt hcc
      have HML := Lib.hid hml
      clear hlt hcc hul hml
      have hz := (HB2.out.block (w.heap.size + 1) (heap_lt CX.out.hz)).trans CX.out.hz
      have z0 := cell_at hz (j := 0) rfl
      have z1 := cell_at hz (j := 1) rfl
      have z2 := cell_at hz (j := 2) rfl
      have z3 := cell_at hz (j := 3) rfl
      have z4 := cell_at hz (j := 4) rfl
      have z5 := cell_at hz (j := 5) rfl
      have fz := unfrozen hz
      have lz := heap_lt hz
      clear hz
      go_wp2_with fail
      have hW : sixPutQ wr (w.heap.size + 1) (.int .i64 43) (.string ⟨#[]⟩) (.int .i64 0) (.slice none 0 0) (.slice none 0 0) (.slice P i c) = sixPutQ wr (w.heap.size + 1) (.int .i64 (tOf 43 (t.kids.map (trn N))).kind) (.string (tOf 43 (t.kids.map (trn N))).text) (.int .i64 (tOf 43 (t.kids.map (trn N))).n) (.slice none (tOf 43 (t.kids.map (trn N))).sh.length 0) (.slice none (tOf 43 (t.kids.map (trn N))).at_.length 0) (.slice P (tOf 43 (t.kids.map (trn N))).kids.length c) := by
        rw [show (tOf 43 (t.kids.map (trn N))).kids.length = i from HML.out]
        rfl
      obtain ⟨e1, e2, e3⟩ := tr_done (u := tOf 43 (t.kids.map (trn N))) (A := none) (ca := 0) (B := none) (cb := 0) (K := P) (ck := c) CX.out HB1.out HB2.out HU.out hW
      exact bodyPost_ret (results_tm1 (p := 2) rfl rfl e1) rfl (TrPost.mk HR.out e2 e3)
theorem ttrain_step (N : Nat) (ihT : TrN 79 N) (ihD : TdN 121 N) : TrN 79 (N + 1) := by
  intro t A ca B cb K ck lo b w hN hlo hat hwf hg hc
  unfold cls at hc
  have h15 : 1 ≤ t.kind ∧ t.kind ≤ 5 := by
    by_cases h : 1 ≤ t.kind ∧ t.kind ≤ 5
    · exact h
    · rw [if_neg h] at hc
      split at hc
      · omega
      · split at hc <;> omega
  by_cases h2 : t.kind = 2
  · by_cases hs1 : t.text.data.toList = [120]
    · exact ttrain_x t A ca B cb K ck N lo b w hlo hat hwf hg h2 hs1
    · by_cases hs2 : t.text.data.toList = [121]
      · exact ttrain_y t A ca B cb K ck N lo b w hlo hat hwf hg h2 hs2
      · exact ttrain_name t A ca B cb K ck N lo b w hlo hat hwf hg h2 hs1 hs2
  · by_cases h1 : t.kind = 1
    · exact ttrain_lit t A ca B cb K ck N lo b w hlo hat hwf hg h1
    · by_cases h3 : t.kind = 3
      · exact ttrain_mon t A ca B cb K ck N ihT ihD lo b w hN hlo hat hwf hg h3
      · by_cases h4 : t.kind = 4
        · exact ttrain_dy t A ca B cb K ck N ihT ihD lo b w hN hlo hat hwf hg h4
        · exact ttrain_pick t A ca B cb K ck N ihT lo b w hN hlo hat hwf hg (by omega)
end Go.Proofs.YtebiojmfieoncaaGreat
