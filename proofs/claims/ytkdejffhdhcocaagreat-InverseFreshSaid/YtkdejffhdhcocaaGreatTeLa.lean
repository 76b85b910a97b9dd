/- abacus/abacuslaw13.own: a term in memory of its own. Condition: sizes within reach. -/
import Derived.Test.YtkdejffhdhcocaaGreatTeMC
namespace Go.Proofs.YtkdejffhdhcocaaGreat
open Go.RowKit

set_option maxRecDepth 100000 in
set_option maxHeartbeats 16000000 in
theorem own_any (N : Nat) : ∀ (t : Tm) (A : Option Addr) (ca : Nat) (B : Option Addr) (cb : Nat) (K : Option Addr) (ck : Nat) (w : World), cnt t ≤ N → TmAt w t A B K → WfT t → Calls Tryz.prog 43 #[tmVal t A ca B cb K ck] w (OwnPost t w) := by
  induction N with
  | zero => intro t A ca B cb K ck w h; cases t; simp [cnt] at h
  | succ N ih =>
    intro t A ca B cb K ck w hN hat hwf
    obtain ⟨W2, hW2⟩ : ∃ W2, W2 = (w.alloc (.cells (tmCells t A ca B cb K ck) TTm)).alloc (.cells tm0 TTm) := ⟨_, rfl⟩
    have hb1 : Below w.heap.size w (w.alloc (.cells (tmCells t A ca B cb K ck) TTm)) := (Below.refl _ _).alloc (Nat.le_refl _) _
    have hb2 : Below w.heap.size w W2 := by rw [hW2]; exact hb1.alloc hb1.size _
    have hc1 : W2.heap[w.heap.size]? = some (.cells (tmCells t A ca B cb K ck) TTm (0, 0)) := by rw [hW2]; exact (Below.heap_alloc _ _ _ (by simp)).trans (heap_alloc_new w _)
    have hc2 : W2.heap[w.heap.size + 1]? = some (.cells tm0 TTm (0, 0)) := by rw [hW2]; exact heap_new2 _ _ _
    have HS : Hid (W2.heap.size = w.heap.size + 2) := Lib.hid (by rw [hW2]; simp)
    have HX := Lib.hid (And.intro hb2 (And.intro hc1 (And.intro hc2 (hat.on hb2))))
    have HWF := Lib.hid hwf
    have HW2 := Lib.hid hW2
    have HNN := Lib.hid hN
    have HAT := Lib.hid hat
    have IH := Lib.hid ih
    obtain ⟨j0, hj, hz0, hz1, hz2⟩ := info_parts info_tm
    obtain ⟨ji, hji, hi0, hi1, hi2⟩ := info_parts info_in
    obtain ⟨j6, hj6, h60, h61, h62⟩ := info_parts info_i6
    obtain ⟨ns, hns⟩ : ∃ n, n = t.sh.length := ⟨_, rfl⟩
    obtain ⟨na, hna⟩ : ∃ n, n = t.at_.length := ⟨_, rfl⟩
    obtain ⟨n, hn⟩ : ∃ n, n = t.kids.length := ⟨_, rfl⟩
    have HNS := Lib.hid hns
    have HNA := Lib.hid hna
    have HN := Lib.hid hn
    have hs8 : ns * 8 ≤ 140737488351232 := by rw [hns]; exact hwf.node.sh8
    have ha8 : na * 8 ≤ 140737488351232 := by rw [hna]; exact hwf.node.at8
    have hk104 : n * 104 ≤ 140737488351232 := by rw [hn]; exact hwf.node.kids104
    have HKC : Hid (∀ W, Below W2.heap.size W2 W → (W.cell? ⟨w.heap.size, 3, none⟩ = some (.slice A ns ca) ∧ W.cell? ⟨w.heap.size, 4, none⟩ = some (.slice B na cb) ∧ W.cell? ⟨w.heap.size, 5, none⟩ = some (.slice K n ck)) ∧ (W.frozen? ⟨w.heap.size, 3, none⟩ = false ∧ W.frozen? ⟨w.heap.size, 4, none⟩ = false)) := Lib.hid fun W h => by
      have hh := (h.block _ (heap_lt hc1)).trans hc1
      rw [hns, hna, hn]
      exact ⟨⟨cell_at hh rfl, cell_at hh rfl, cell_at hh rfl⟩, unfrozen hh 3, unfrozen hh 4⟩
    clear hat hwf hb1 hb2 hc1 hc2 hW2 hN ih hns hna hn
    go_enter Tryz.func43, Tryz.ntmps43
    go_upto_region 1 with fail
    rw [← HW2.out]
    go_cut [14] from 15 (fun v14 wx => ∃ rs ra : Rw, Hid (wx.heap[w.heap.size]? = some (.cells #[.int .i64 t.kind, .string t.text, .int .i64 t.n, .slice rs.p rs.n rs.c, .slice ra.p ra.n ra.c, .slice K n ck] TTm (0, 0)) ∧ wx.heap[w.heap.size + 1]? = some (.cells tm0 TTm (0, 0)) ∧ wx.ownsRow (w.heap.size + 2) TIn 1 rs.val ns (intVals t.sh) ∧ wx.ownsRow (w.heap.size + 2) TI6 1 ra.val na (intVals t.at_) ∧ w.heap.size + 2 ≤ wx.heap.size ∧ Below w.heap.size w wx))
    case first =>
      have HD2 : Hid (Below W2.heap.size W2 W2.drew) := Lib.hid (Below.refl _ _).drew
      have HSI : Hid (IntsAt W2.drew A t.sh) := Lib.hid (HX.out.2.2.2.sh.on HD2.out)
      obtain ⟨⟨q3, q4, q5⟩, f3, f4⟩ := HKC.out W2.drew HD2.out
      go_region_law (first
        | (refine step_append_ints _ rfl (.const (.slice none 0 0)) (.tmp 7) 33 rfl W2.heap.size TIn ji Tryz.underlying33 hji hi0 hi1 hi2 (.slice none 0 0) 0 [] (by simp [Act.eval]) (World.ownsRow_nil _ _ _ _) A ca t.sh ns HNS.out (by simp [Act.eval]) HSI.out (by omega) (Nat.le_refl _) ?_; intro v8 w8 hown8 hgr8 hv8; obtain ⟨rs, rfl, hrn, hro⟩ := own_of_row hown8; replace hro : w8.ownsRow W2.heap.size TIn 1 rs.val ns (intVals t.sh) := (by rw [Nat.zero_add, List.nil_append] at hown8; exact hown8); have hb8 := HD2.out.grown hgr8 (Nat.le_refl _) (fun k hk => (by cases hk)); obtain ⟨⟨q3, q4, q5⟩, f3, f4⟩ := HKC.out w8 hb8; have HB8 := Lib.hid (And.intro hb8 (And.intro (HAT.out.at_.on (HX.out.1.then_ hb8)) hro)); clear hown8 hgr8 hv8 hrn hro hb8)
        | (refine step_append_ints _ rfl (.const (.slice none 0 0)) (.tmp 11) 34 rfl w8.heap.size TI6 j6 Tryz.underlying34 hj6 h60 h61 h62 (.slice none 0 0) 0 [] (by simp [Act.eval]) (World.ownsRow_nil _ _ _ _) B cb t.at_ na HNA.out (by simp [Act.eval]) HB8.out.2.1 (by omega) (Nat.le_refl _) ?_; intro v12 w12 hown12 hgr12 hv12; obtain ⟨ra, rfl, hrn, hro⟩ := own_of_row hown12; replace hro : w12.ownsRow w8.heap.size TI6 1 ra.val na (intVals t.at_) := (by rw [Nat.zero_add, List.nil_append] at hown12; exact hown12); have hb12 := (Below.refl w8.heap.size w8).grown hgr12 (Nat.le_refl _) (fun k hk => (by cases hk)); obtain ⟨⟨q3, q4, q5⟩, f3, f4⟩ := HKC.out w12 (HB8.out.1.then_ hb12); have HB12 := Lib.hid (And.intro hb12 hro); clear hown12 hgr12 hv12 hrn hro hb12))
      all_goals
        go_wp2_with fail
        go_meet
        case rel =>
          have hbw : Below W2.heap.size W2 w12 := HB8.out.1.then_ HB12.out.1
          have hD := (hbw.block _ (heap_lt HX.out.2.1)).trans HX.out.2.1
          have hs2 := HS.out
          have hs8' := HB8.out.1.size
          have hs12 := HB12.out.1.size
          have e3 := Go.heap_setCell_same _ _ 3 _ TTm (.slice rs.p rs.n rs.c) hD
          have e4 := Go.heap_setCell_same _ _ 4 _ TTm (.slice ra.p ra.n ra.c) e3
          have ho : ∀ g, g ≠ w.heap.size → ((w12.setCell ⟨w.heap.size, 3, none⟩ (.slice rs.p rs.n rs.c)).setCell ⟨w.heap.size, 4, none⟩ (.slice ra.p ra.n ra.c)).heap[g]? = w12.heap[g]? := fun g hg => by
            rw [Below.heap_setCell _ _ _ _ hg, Below.heap_setCell _ _ _ _ hg]
          refine ⟨rs, ra, Lib.hid ⟨?_, ?_, ?_, ?_, ?_, ?_⟩⟩
          · rw [e4, HN.out]; rfl
          · exact (ho _ (by omega)).trans ((hbw.block _ (heap_lt HX.out.2.2.1)).trans HX.out.2.2.1)
          · refine row_keep (row_low (row_on HB8.out.2.2 HB12.out.1) (by omega)) fun g hg => ho g ?_
            have h1 := (HB8.out.2.2.lt g hg).1
            omega
          · refine row_keep (row_low HB12.out.2 (by omega)) fun g hg => ho g ?_
            have h1 := (HB12.out.2.lt g hg).1
            omega
          · simp [World.setCell]; omega
          · exact ((HX.out.1.then_ hbw).setCell (Nat.le_refl _) _).setCell (Nat.le_refl _) _
    obtain ⟨rs, ra, HC⟩ := hcut
    clear hs8 ha8
    have hd := HC.out.1
    have q5 := cell_at hd (j := 5) rfl
    have f5 := unfrozen hd 5
    obtain ⟨W6, hW6⟩ : ∃ W6, W6 = wc.setCell ⟨w.heap.size, 5, none⟩ (.slice none 0 0) := ⟨_, rfl⟩
    have hd6 : W6.heap[w.heap.size]? = some (.cells #[.int .i64 t.kind, .string t.text, .int .i64 t.n, .slice rs.p rs.n rs.c, .slice ra.p ra.n ra.c, .slice none 0 0] TTm (0, 0)) := by
      rw [hW6, Go.heap_setCell_same _ _ 5 _ TTm _ hd]
      rfl
    have ho6 : ∀ g, g ≠ w.heap.size → W6.heap[g]? = wc.heap[g]? := fun g hg => by rw [hW6]; exact Below.heap_setCell _ _ _ _ hg
    have hs6 : W6.heap.size = wc.heap.size := by rw [hW6]; simp [World.setCell]
    have hb6 : Below w.heap.size w W6 := by rw [hW6]; exact HC.out.2.2.2.2.2.setCell (Nat.le_refl _) _
    have hso6 : W6.ownsRow (w.heap.size + 2) TIn 1 rs.val ns (intVals t.sh) := row_keep HC.out.2.2.1 fun g hg => ho6 g (by have := (HC.out.2.2.1.lt g hg).1; omega)
    have hao6 : W6.ownsRow (w.heap.size + 2) TI6 1 ra.val na (intVals t.at_) := row_keep HC.out.2.2.2.1 fun g hg => ho6 g (by have := (HC.out.2.2.2.1.lt g hg).1; omega)
    have HSZ : Hid (w.heap.size + 2 ≤ W6.heap.size) := Lib.hid (by have := HC.out.2.2.2.2.1; omega)
    have H6 := Lib.hid (And.intro hb6 (And.intro hd6 (And.intro ((ho6 (w.heap.size + 1) (by omega)).trans HC.out.2.1) (And.intro hso6 hao6))))
    have HW6 := Lib.hid hW6
    have HT0 : Hid (TwinW w W6.heap.size t.kids W6 [] 0 (.slice none 0 0)) := Lib.hid ⟨World.ownsRow_nil _ _ _ _, by simp only [List.take_zero, OwnL], by simp only [blksL]; exact List.nodup_nil, fun k hk => (by cases hk), by have := HSZ.out; omega, hb6⟩
    clear hd hd6 ho6 hs6 hb6 hso6 hao6 hW6
    go_wp2_with fail
    rw [← HW6.out]
    clear q5 f5
    go_loopw [4] (fun v4 W => ∃ (i : Nat) (rl : List Rt) (v : Value), i ≤ n ∧ v4 = .int .i64 i ∧ Hid (TwinW w W6.heap.size t.kids W rl i v ∧ W.heap[w.heap.size]? = some (.cells #[.int .i64 t.kind, .string t.text, .int .i64 t.n, .slice rs.p rs.n rs.c, .slice ra.p ra.n ra.c, v] TTm (0, 0)) ∧ (∀ g, g ≠ w.heap.size → g < W6.heap.size → W.heap[g]? = W6.heap[g]?))) (fun v _ => n - (intOf v).toNat)
    case atStart => exact ⟨0, [], _, Nat.zero_le _, rfl, Lib.hid ⟨HT0.out, H6.out.2.1, fun _ _ _ => rfl⟩⟩
    case round =>
      obtain ⟨i, rl, v, hi, rfl, HI⟩ := hrel
      by_cases hlt : i < n
      · obtain ⟨k, hk2⟩ : ∃ k, t.kids[i]? = some k := ⟨_, List.getElem?_eq_getElem (by rw [← HN.out]; exact hlt)⟩
        obtain ⟨b', off', rfl, hpk⟩ := (HAT.out.kids.on HI.out.1.be).get hk2
        rw [Nat.zero_add] at hpk
        obtain ⟨A', ca', B', cb', K', ck', hlt', p0, p1, p2, p3, p4, p5, hat'⟩ := hpk.cells
        have HC2 : Hid (cnt k ≤ N) := Lib.hid (by have := cnt_kid hk2; have := HNN.out; omega)
        have HKW : Hid (WfT k) := Lib.hid (HWF.out.node.each k (List.mem_of_getElem? hk2))
        have HKT := Lib.hid hk2
        have HAT' := Lib.hid hat'
        have HD : Hid (Below wr.heap.size wr wr.drew) := Lib.hid (Below.refl _ _).drew
        have HT1 := Lib.hid (HI.out.1.below HD.out)
        have HHB : Hid (w.heap.size < wr.heap.size ∧ v.ownBlock ≠ some w.heap.size ∧ W6.heap.size ≤ wr.drew.heap.size) := Lib.hid ⟨heap_lt HI.out.2.1, fun e => by have h1 := (HI.out.1.row.lt _ e).1; have h2 := HSZ.out; omega, by
          show W6.heap.size ≤ wr.heap.size
          rcases Nat.lt_or_ge wr.heap.size W6.heap.size with h | h
          · exfalso
            have h1 : w.heap.size < wr.heap.size := heap_lt HI.out.2.1
            have h2 := HI.out.2.2 wr.heap.size (by omega) h
            rw [Array.getElem?_eq_none (Nat.le_refl _), Array.getElem?_eq_getElem h] at h2
            cases h2
          · exact h⟩
        have q5 := cell_at HI.out.2.1 (j := 5) rfl
        clear hk2 hpk hat'
        go_upto_region 7 with fail
        go_region_law (first
          | (refine step_append_lies _ rfl (.tmp 25) (.tmp 31) 22 rfl W6.heap.size TTm j0 (.agg tm0) 6 104 Tryz.underlying22 hj hz0 hz1 hz2 rfl (by decide) v i (rtCellsL (t.kids.take i) rl) (by simp [Act.eval]) HT8.out.row ⟨w7.heap.size, 0, none⟩ 1 1 (rtCells k r) (by simp [Act.eval]) rfl HNEWS.out (by intro u hu; simp only [rtCells, List.mem_cons, List.not_mem_nil, or_false] at hu; rcases hu with rfl | rfl | rfl | rfl | rfl | rfl <;> rfl) (by decide) (by unfold maxLen; omega) (by omega) HBASE.out _ rfl ?_; intro g' cap' w9 hown9 hgr9 hor9 hlt9; have hq' := (hgr9.block w.heap.size HH8.out.1 (fun e => HHB.out.2.1 e.symm)).trans HH8.out.2; have q5 := cell_at hq' (j := 5) rfl; have f5 := unfrozen hq' 5)
          | (go_simp; go_at_call 43; refine (IH.out k A' ca' B' cb' K' ck' _ HC2.out (HAT'.out.on HD.out) HKW.out).mono ?_; rintro e w7 ⟨r, rfl, ho7, hn7, hb7, _⟩; have hq7 := ((HD.out.then_ hb7).block _ HHB.out.1).trans HI.out.2.1; have HB8 : Hid (Below w7.heap.size w7 (w7.alloc (.cells #[.int .i64 k.kind, .string k.text, .int .i64 k.n, .slice r.s.p r.s.n r.s.c, .slice r.a.p r.a.n r.a.c, .slice r.k.p r.k.n r.k.c] TTm))) := Lib.hid ((Below.refl _ _).alloc (Nat.le_refl _) _); have HT8 := Lib.hid (HT1.out.below (hb7.then_ HB8.out)); have HNEWS : Hid (∀ j u, (rtCells k r)[j]? = some u → (w7.alloc (.cells #[.int .i64 k.kind, .string k.text, .int .i64 k.n, .slice r.s.p r.s.n r.s.c, .slice r.a.p r.a.n r.a.c, .slice r.k.p r.k.n r.k.c] TTm)).cell? ((⟨w7.heap.size, 0, none⟩ : Addr).add j) = some u) := Lib.hid (World.news_of_block (heap_alloc_new w7 _)); have HBASE := Lib.hid (Nat.le_trans HHB.out.2.2 (hb7.then_ HB8.out).size); have HH8 := Lib.hid (And.intro (Nat.lt_of_lt_of_le (heap_lt hq7) HB8.out.size) ((HB8.out.block _ (heap_lt hq7)).trans hq7)); have q5 := cell_at hq7 (j := 5) rfl; have q58 := cell_at HH8.out.2 (j := 5) rfl; have H7 := Lib.hid (And.intro ho7 (And.intro hn7 hb7)); clear ho7 hn7 hb7 hq7))
        all_goals
          have HT9 : Hid (TwinW w W6.heap.size t.kids (w9.setCell ⟨w.heap.size, 5, none⟩ (.slice (some ⟨g', 0, none⟩) (i + 1) cap')) (rl ++ [r]) (i + 1) (.slice (some ⟨g', 0, none⟩) (i + 1) cap')) := Lib.hid ((HT1.out.take HHB.out.2.2 HKT.out H7.out.2.2 H7.out.1 H7.out.2.1 HB8.out hown9 hgr9 (hor9.imp (fun e => by rw [e]; rfl) (fun e => by rw [e]; rfl))).put (Nat.le_refl _) (by have h1 := HSZ.out; show w.heap.size < _; omega) _)
          have HQ9 : Hid ((w9.setCell ⟨w.heap.size, 5, none⟩ (.slice (some ⟨g', 0, none⟩) (i + 1) cap')).heap[w.heap.size]? = some (.cells #[.int .i64 t.kind, .string t.text, .int .i64 t.n, .slice rs.p rs.n rs.c, .slice ra.p ra.n ra.c, .slice (some ⟨g', 0, none⟩) (i + 1) cap'] TTm (0, 0))) := Lib.hid (by
            rw [Go.heap_setCell_same _ _ 5 _ TTm _ hq']
            rfl)
          have HF9 : Hid (∀ g, g ≠ w.heap.size → g < W6.heap.size → (w9.setCell ⟨w.heap.size, 5, none⟩ (.slice (some ⟨g', 0, none⟩) (i + 1) cap')).heap[g]? = W6.heap[g]?) := Lib.hid (fun g h1 h2 => by
            have hlg : g < wr.drew.heap.size := Nat.lt_of_lt_of_le h2 HHB.out.2.2
            have hl7 : g < w7.heap.size := Nat.lt_of_lt_of_le hlg H7.out.2.2.size
            rw [Below.heap_setCell _ _ _ _ h1, hgr9.block g (Nat.lt_of_lt_of_le hl7 HB8.out.size) (fun e => by have h3 := (HI.out.1.row.lt g e.symm).1; omega), HB8.out.block g hl7, H7.out.2.2.block g hlg]
            exact HI.out.2.2 g h1 h2)
          clear hown9 hgr9 hor9 hlt9 hq' q5 f5
          go_wp2_with fail
          exact ⟨⟨i + 1, rl ++ [r], _, by omega, by go_num, Lib.hid ⟨HT9.out, HQ9.out, HF9.out⟩⟩, by simp [intOf]; omega⟩
      · obtain rfl : i = n := by omega
        obtain ⟨kr, rfl, hkn, hko⟩ := own_of_row HI.out.1.row
        have HKO := Lib.hid (And.intro hko (And.intro HI.out.1.row HI.out.1.ap))
        have hd := HI.out.2.1
        have hz := (HI.out.2.2 (w.heap.size + 1) (by omega) (by have := HSZ.out; omega)).trans H6.out.2.2.1
        have fz := unfrozen hz
        have y0 := cell_at hd (j := 0) rfl
        have y1 := cell_at hd (j := 1) rfl
        have y2 := cell_at hd (j := 2) rfl
        have y3 := cell_at hd (j := 3) rfl
        have y4 := cell_at hd (j := 4) rfl
        have y5 := cell_at hd (j := 5) rfl
        have z0 := cell_at hz (j := 0) rfl
        have z1 := cell_at hz (j := 1) rfl
        have z2 := cell_at hz (j := 2) rfl
        have z3 := cell_at hz (j := 3) rfl
        have z4 := cell_at hz (j := 4) rfl
        have z5 := cell_at hz (j := 5) rfl
        have HZ := Lib.hid hz
        clear hlt hko hkn hd hz
        go_wp2_with fail
        obtain ⟨e1, e2, e3⟩ := six (.int .i64 t.kind) (.string t.text) (.int .i64 t.n) (.slice rs.p rs.n rs.c) (.slice ra.p ra.n ra.c) (.slice kr.p kr.n kr.c) HZ.out HI.out.1.be (Nat.le_succ _)
        have hsz := HSZ.out
        have hown := HI.out.1.own
        have hkk := HKO.out.1
        have hkw := HKO.out.2.1
        have hap := HKO.out.2.2
        have htk : t.kids.take i = t.kids := by rw [HN.out]; exact List.take_length
        rw [htk] at hown hkk hkw
        have hsw : wr.ownsRow (w.heap.size + 2) TIn 1 rs.val ns (intVals t.sh) := row_keep H6.out.2.2.2.1 fun g hg => HI.out.2.2 g (by have := (H6.out.2.2.2.1.lt g hg).1; omega) (H6.out.2.2.2.1.lt g hg).2
        have haw : wr.ownsRow (w.heap.size + 2) TI6 1 ra.val na (intVals t.at_) := row_keep H6.out.2.2.2.2 fun g hg => HI.out.2.2 g (by have := (H6.out.2.2.2.2.lt g hg).1; omega) (H6.out.2.2.2.2.lt g hg).2
        have hso := (row_ours hsw).2
        have hao := (row_ours haw).2
        have hso6 := (row_ours H6.out.2.2.2.1).2
        have hao6 := (row_ours H6.out.2.2.2.2).2
        have hnd : ((rs.blk.toList ++ ra.blk.toList ++ kr.blk.toList) ++ blksL rl).Nodup := by
          have hs1 : ∀ g, rs.blk = some g → g < W6.heap.size ∧ ∃ cur, W6.heap[g]? = some (.cells cur TIn (0, 0)) := fun g hg => by
            obtain ⟨_, cur, hc⟩ := hso6.blk_lt hg; exact ⟨heap_lt hc, cur, hc⟩
          have ha1 : ∀ g, ra.blk = some g → g < W6.heap.size ∧ ∃ cur, W6.heap[g]? = some (.cells cur TI6 (0, 0)) := fun g hg => by
            obtain ⟨_, cur, hc⟩ := hao6.blk_lt hg; exact ⟨heap_lt hc, cur, hc⟩
          have hk1 : ∀ g, kr.blk = some g → W6.heap.size ≤ g := fun g hg => (hkk.blk_lt hg).1
          have hl1 : ∀ g ∈ blksL rl, W6.heap.size ≤ g := fun g hg => (hown.blk g hg).1
          have ntl : ∀ o : Option Nat, o.toList.Nodup := fun o => by cases o <;> simp
          refine List.nodup_append.2 ⟨List.nodup_append.2 ⟨List.nodup_append.2 ⟨ntl _, ntl _, fun a ha b hb e => ?_⟩, ntl _, fun a ha b hb e => ?_⟩, HI.out.1.nd, fun a ha b hb e => ?_⟩
          · subst e
            rw [Option.mem_toList] at ha hb
            obtain ⟨_, c1, e1⟩ := hs1 a ha
            obtain ⟨_, c2, e2⟩ := ha1 a hb
            exact absurd (types_apart e1 e2) (by decide)
          · subst e
            rw [Option.mem_toList] at hb
            have := hk1 a hb
            rcases List.mem_append.1 ha with ha | ha
            · rw [Option.mem_toList] at ha; have := (hs1 a ha).1; omega
            · rw [Option.mem_toList] at ha; have := (ha1 a ha).1; omega
          · subst e
            have := hl1 a hb
            rcases List.mem_append.1 ha with ha | ha
            · rcases List.mem_append.1 ha with ha | ha
              · rw [Option.mem_toList] at ha; have := (hs1 a ha).1; omega
              · rw [Option.mem_toList] at ha; have := (ha1 a ha).1; omega
            · rw [Option.mem_toList] at ha
              exact hap a (blk_own ha) hb
        have hnd2 : ((rs.val.ownBlock.toList ++ ra.val.ownBlock.toList ++ kr.val.ownBlock.toList) ++ blksL rl).Nodup := by
          have hs1 : ∀ g, rs.val.ownBlock = some g → g < W6.heap.size ∧ ∃ cur, W6.heap[g]? = some (.cells cur TIn (0, 0)) := fun g hg => by
            exact ⟨(H6.out.2.2.2.1.lt g hg).2, row_type' H6.out.2.2.2.1 g hg⟩
          have ha1 : ∀ g, ra.val.ownBlock = some g → g < W6.heap.size ∧ ∃ cur, W6.heap[g]? = some (.cells cur TI6 (0, 0)) := fun g hg => by
            exact ⟨(H6.out.2.2.2.2.lt g hg).2, row_type' H6.out.2.2.2.2 g hg⟩
          have hk1 : ∀ g, kr.val.ownBlock = some g → W6.heap.size ≤ g := fun g hg => (hkw.lt g hg).1
          have hl1 : ∀ g ∈ blksL rl, W6.heap.size ≤ g := fun g hg => (hown.blk g hg).1
          have ntl : ∀ o : Option Nat, o.toList.Nodup := fun o => by cases o <;> simp
          refine List.nodup_append.2 ⟨List.nodup_append.2 ⟨List.nodup_append.2 ⟨ntl _, ntl _, fun a ha b hb e => ?_⟩, ntl _, fun a ha b hb e => ?_⟩, HI.out.1.nd, fun a ha b hb e => ?_⟩
          · subst e
            rw [Option.mem_toList] at ha hb
            obtain ⟨_, c1, e1⟩ := hs1 a ha
            obtain ⟨_, c2, e2⟩ := ha1 a hb
            exact absurd (types_apart e1 e2) (by decide)
          · subst e
            rw [Option.mem_toList] at hb
            have := hk1 a hb
            rcases List.mem_append.1 ha with ha | ha
            · rw [Option.mem_toList] at ha; have := (hs1 a ha).1; omega
            · rw [Option.mem_toList] at ha; have := (ha1 a ha).1; omega
          · subst e
            have := hl1 a hb
            rcases List.mem_append.1 ha with ha | ha
            · rcases List.mem_append.1 ha with ha | ha
              · rw [Option.mem_toList] at ha; have := (hs1 a ha).1; omega
              · rw [Option.mem_toList] at ha; have := (ha1 a ha).1; omega
            · rw [Option.mem_toList] at ha
              exact hap a ha hb
        refine bodyPost_ret (results_tm1 rfl rfl e1) rfl ⟨.mk rs ra kr rl, rfl, OwnT.mk_ ?_ ?_ ?_ hown.len ?_, hnd, e3, ?_, ?_, ?_, hnd2⟩
        · exact (hso.kept fun g hg => e2 g (by have := (hso.blk_lt hg).1; omega)).mono (by omega)
        · exact (hao.kept fun g hg => e2 g (by have := (hao.blk_lt hg).1; omega)).mono (by omega)
        · exact (hkk.kept fun g hg => e2 g (by have := (hkk.blk_lt hg).1; omega)).mono (by omega)
        · exact (hown.kept fun g hg => e2 g (by have := (hown.blk g hg).1; omega)).mono (by omega)
        · rw [← HNS.out]
          exact row_low (row_keep hsw fun g hg => e2 g (by have := (hsw.lt g hg).1; omega)) (by omega)
        · rw [← HNA.out]
          exact row_low (row_keep haw fun g hg => e2 g (by have := (haw.lt g hg).1; omega)) (by omega)
        · rw [← HN.out]
          exact row_low (row_keep hkw fun g hg => e2 g (by have := (hkw.lt g hg).1; omega)) (by omega)
end Go.Proofs.YtkdejffhdhcocaaGreat
