/- tacit.train, region 19; tacit.turned, region 14. No condition. -/
import Derived.Test.YtebiojmfieoncaaGreatTeQ8
import Derived.Test.YtebiojmfieoncaaGreatTeTX
namespace Go.Proofs.YtebiojmfieoncaaGreat
open Go.RowKit

set_option maxRecDepth 100000 in
set_option maxHeartbeats 100000000 in
theorem ttr19 {x : Tm} {Ax : Option Addr} {cax : Nat} {Bx : Option Addr} {cbx : Nat} {Kx : Option Addr} {ckx : Nat} {u : Tm} {us : List Tm} {rs : List Rt} {v : Value} {B lo g4 g6 : Nat} {Wr : World} (h4 : Wr.heap[g4]? = some (.cells #[.int .i64 43, .string ⟨#[]⟩, .int .i64 0, .slice none 0 0, .slice none 0 0, v] TTm (0, 0))) (h6 : Wr.heap[g6]? = some (.cells (tmCells x Ax cax Bx cbx Kx ckx) TTm (0, 0))) (hne : v.ownBlock ≠ some g6) (hne46 : g6 ≠ g4) (h4B : g4 < B) (hl4 : lo ≤ g4) (hBW : B ≤ Wr.heap.size) (hus : us.length ≤ 1000) (hs : ShW Wr B lo B us rs v)
    (hc : ∀ W, Below Wr.heap.size Wr W → Calls Tryz.prog 79 #[tmVal x Ax cax Bx cbx Kx ckx] W (TrPost u lo W)) {Q' : Exit → Act → World → Prop} {s0 s1 s2 s3 s5 s7 s8 s9 s10 s11 s12 s13 s14 s15 s16 s17 s18 s19 s20 s21 s22 s23 s24 s25 s26 s27 s28 s29 s30 s31 s32 s33 s34 s35 s36 s37 s38 s39 s40 s41 s42 s43 s44 s45 s46 s47 s48 s49 s50 s51 s52 s53 s54 s55 s56 s57 s58 s59 s60 s61 s62 s63 s64 s65 s66 s67 s68 s69 s70 s71 s72 : Value}
    (hP : ∀ c (a : Act) d v w, Q' (.panic c) (a.put (some d) v) w → Q' (.panic c) a w)
    (hK : ∀ (r61 r62 r63 r64 r65 r66 r67 : Value) (Au : Option Addr) (cau : Nat) (Bu : Option Addr) (cbu : Nat) (Ku : Option Addr) (cku g cap : Nat) (W' : World), Below g4 Wr W' → W'.heap[g4]? = some (.cells #[.int .i64 43, .string ⟨#[]⟩, .int .i64 0, .slice none 0 0, .slice none 0 0, .slice (some ⟨g, 0, none⟩) (us.length + 1) cap] TTm (0, 0)) → ShW W' B lo B (us ++ [u]) (rs ++ [rtOf u Au cau Bu cbu Ku cku]) (.slice (some ⟨g, 0, none⟩) (us.length + 1) cap) → Q' .normal { tmps := List.toArray (s0 :: s1 :: s2 :: s3 :: (.pointer (some ⟨g4, 0, none⟩)) :: s5 :: (.pointer (some ⟨g6, 0, none⟩)) :: s7 :: s8 :: s9 :: s10 :: s11 :: s12 :: s13 :: s14 :: s15 :: s16 :: s17 :: s18 :: s19 :: s20 :: s21 :: s22 :: s23 :: s24 :: s25 :: s26 :: s27 :: s28 :: s29 :: s30 :: s31 :: s32 :: s33 :: s34 :: s35 :: s36 :: s37 :: s38 :: s39 :: s40 :: s41 :: s42 :: s43 :: s44 :: s45 :: s46 :: s47 :: s48 :: s49 :: s50 :: s51 :: s52 :: s53 :: s54 :: s55 :: s56 :: s57 :: s58 :: s59 :: s60 :: r61 :: r62 :: r63 :: r64 :: r65 :: r66 :: r67 :: s68 :: s69 :: s70 :: s71 :: s72 :: []), defers := [] } W') :
    Code.wp Tryz.prog (regOf Tryz.f79 19) Q' { tmps := List.toArray (s0 :: s1 :: s2 :: s3 :: (.pointer (some ⟨g4, 0, none⟩)) :: s5 :: (.pointer (some ⟨g6, 0, none⟩)) :: s7 :: s8 :: s9 :: s10 :: s11 :: s12 :: s13 :: s14 :: s15 :: s16 :: s17 :: s18 :: s19 :: s20 :: s21 :: s22 :: s23 :: s24 :: s25 :: s26 :: s27 :: s28 :: s29 :: s30 :: s31 :: s32 :: s33 :: s34 :: s35 :: s36 :: s37 :: s38 :: s39 :: s40 :: s41 :: s42 :: s43 :: s44 :: s45 :: s46 :: s47 :: s48 :: s49 :: s50 :: s51 :: s52 :: s53 :: s54 :: s55 :: s56 :: s57 :: s58 :: s59 :: s60 :: s61 :: s62 :: s63 :: s64 :: s65 :: s66 :: s67 :: s68 :: s69 :: s70 :: s71 :: s72 :: []), defers := [] } Wr := by
  obtain ⟨j0, hj, y0, y1, y2⟩ := info_parts info_tm
  have H4 := Lib.hid h4
  have H6 := Lib.hid h6
  have HNE := Lib.hid hne
  have HNE46 := Lib.hid hne46
  have H4B := Lib.hid h4B
  have HL4 := Lib.hid hl4
  have HLO : Hid (lo ≤ B) := Lib.hid (by omega)
  have HBW := Lib.hid hBW
  have HL := Lib.hid hus
  have HS := Lib.hid hs
  have HC := Lib.hid hc
  have HK0 := Lib.hid hK
  have HP := Lib.hid hP
  have FC : Hid (∀ W : World, W.heap[g6]? = some (.cells (tmCells x Ax cax Bx cbx Kx ckx) TTm (0, 0)) → W.cell? ⟨g6, 0, none⟩ = some (.int .i64 x.kind) ∧ W.cell? ⟨g6, 1, none⟩ = some (.string x.text) ∧ W.cell? ⟨g6, 2, none⟩ = some (.int .i64 x.n) ∧ W.cell? ⟨g6, 3, none⟩ = some (.slice Ax x.sh.length cax) ∧ W.cell? ⟨g6, 4, none⟩ = some (.slice Bx x.at_.length cbx) ∧ W.cell? ⟨g6, 5, none⟩ = some (.slice Kx x.kids.length ckx) ∧ g6 < W.heap.size) := Lib.hid fun W h => ⟨cell_at h rfl, cell_at h rfl, cell_at h rfl, cell_at h rfl, cell_at h rfl, cell_at h rfl, heap_lt h⟩
  clear h4 h6 hne hne46 h4B hl4 hBW hus hs hc hK hP
  conv => arg 2; whnf
  refine wp_region_held_drew (S := (fun W => W.heap[g6]? = some (.cells (tmCells x Ax cax Bx cbx Kx ckx) TTm (0, 0)))) (by kernel_rfl) H6.out (fun hHeld => ?_)
  obtain ⟨X, hX⟩ : ∃ X, X = Wr.drew := ⟨_, rfl⟩
  have HX : Hid (Below Wr.heap.size Wr X) := Lib.hid (by rw [hX]; exact (Below.refl _ _).drew)
  rw [← hX] at hHeld ⊢
  clear hX
  refine take_still (i := 0) (d := some 61) (v := .pointer (some ⟨g4, 5, none⟩)) rfl rfl (by kernel_rfl) (by kernel_rfl) (by kernel_rfl) (fun _ _ _ h => HP.out _ _ _ _ _ h) (Or.inl ⟨by rfl, ?_⟩) hHeld ?_
  · intro W hSw; go_simp; try with_reducible rfl
  try simp only [Act.put, List.setIfInBounds_toArray, List.set_cons_zero, List.set_cons_succ]
  refine take_still (i := 2) (d := some 63) (v := .agg #[.int .i64 x.kind, .string x.text, .int .i64 x.n, .slice Ax x.sh.length cax, .slice Bx x.at_.length cbx, .slice Kx x.kids.length ckx]) rfl rfl (by kernel_rfl) (by kernel_rfl) (by kernel_rfl) (fun _ _ _ h => HP.out _ _ _ _ _ h) (Or.inl ⟨by rfl, ?_⟩) hHeld ?_
  · intro W hSw; obtain ⟨x0, x1, x2, x3, x4, x5, xl⟩ := FC.out W hSw; go_simp; try with_reducible rfl
  try simp only [Act.put, List.setIfInBounds_toArray, List.set_cons_zero, List.set_cons_succ]
  refine wpAnyH_ready (rs := [1, 3]) (by kernel_rfl) (by simp) ?_
  refine AllReadyH.cons rfl (fun K hK => ?_) ?_
  · have hz := (HX.out.block g4 (heap_lt H4.out)).trans H4.out
    have q5 := cell_at hz (j := 5) rfl
    have ql := heap_lt hz
    clear hz
    go_simp
    refine hK.out _ _ ((HX.out.block g6 (heap_lt H6.out)).trans H6.out) (fun hHeld => ?_)
    clear hK K q5 ql
    refine wpAnyH_ready (rs := [3]) (by kernel_rfl) (by simp) ?_
    refine AllReadyH.cons rfl (fun K hK => ?_) ?_
    · go_simp
      go_at_call 79
      refine (HC.out X HX.out).mono ?_
      rintro e P ⟨Au, cau, Bu, cbu, Ku, cku, rfl, hu, hb⟩
      have HU := Lib.hid (And.intro hu hb)
      have HBC := Lib.hid (HX.out.then_ hb)
      have HSC := Lib.hid (HS.out.below HX.out)
      clear hu hb
      refine hK.out _ _ ((HBC.out.block g6 (heap_lt H6.out)).trans H6.out) (fun hHeld => ?_)
      clear hK K
      refine wpAnyH_ready (rs := [4]) (by kernel_rfl) (by simp) ?_
      refine AllReadyH.cons rfl (fun K hK => ?_) ?_
      · go_simp
        obtain ⟨V, hV⟩ : ∃ V, V = P.alloc (.cells (tmCells u Au cau Bu cbu Ku cku) TTm) := ⟨_, rfl⟩
        obtain ⟨gv, hg⟩ : ∃ g, g = P.heap.size := ⟨_, rfl⟩
        have hbV : Below P.heap.size P V := by rw [hV]; exact (Below.refl _ _).alloc (Nat.le_refl _) _
        have HVB := Lib.hid hbV
        have HBV := Lib.hid (HBC.out.then_ hbV)
        have HNEWS : Hid (∀ j y, (rtCells u (rtOf u Au cau Bu cbu Ku cku))[j]? = some y → V.cell? ((⟨gv, 0, none⟩ : Addr).add j) = some y) := Lib.hid fun j y hy => by
          have e2 : (⟨gv, 0, none⟩ : Addr).add j = ⟨gv, j, none⟩ := by unfold Addr.add; split <;> simp_all
          rw [e2, hV, hg]
          exact cell_at (heap_alloc_new P _) (by rw [← Array.getElem?_toList]; exact hy)
        rw [← hV, ← hg]
        clear hV hg hbV
        refine hK.out _ _ ((HBV.out.block g6 (heap_lt H6.out)).trans H6.out) (fun hHeld => ?_)
        clear hK K
        refine wpAnyH_ready (rs := [5]) (by kernel_rfl) (by simp) ?_
        refine AllReadyH.cons rfl (fun K hK => ?_) ?_
        · refine step_append_lies _ rfl (.tmp 62) (.tmp 65) 22 rfl B TTm j0 (.agg tm0) 6 104 Tryz.underlying22 hj y0 y1 y2 rfl (by decide) v us.length (rtCellsL us rs) (by simp [Act.eval]) (HS.out.below HBV.out).row ⟨gv, 0, none⟩ 1 1 (rtCells u (rtOf u Au cau Bu cbu Ku cku)) (by simp [Act.eval]) rfl HNEWS.out (fun y hy => rt_one [u] [rtOf u Au cau Bu cbu Ku cku] y (by simp only [rtCellsL, List.append_nil]; exact hy)) (by omega) (by unfold maxLen; have := HL.out; omega) (by have := HL.out; omega) (Nat.le_trans HBW.out HBV.out.size) _ rfl ?_
          intro g cap w9 hown hgr hor _
          have HT : Hid (ShW w9 B lo B (us ++ [u]) (rs ++ [rtOf u Au cau Bu cbu Ku cku]) (.slice (some ⟨g, 0, none⟩) (us.length + 1) cap)) := Lib.hid (HSC.out.take HLO.out (Nat.le_trans HBW.out (Below.size HX.out)) HU.out.2 HU.out.1 HVB.out hown hgr (hor.imp (fun e => e.symm) (fun e => by rw [e]; rfl)))
          have HK6 : Hid (w9.heap[g6]? = some (.cells (tmCells x Ax cax Bx cbx Kx ckx) TTm (0, 0))) := Lib.hid ((hgr.block g6 (Nat.lt_of_lt_of_le (heap_lt H6.out) HBV.out.size) (fun e => HNE.out e.symm)).trans ((HBV.out.block g6 (heap_lt H6.out)).trans H6.out))
          have hown' : ∀ k, v.ownBlock = some k → B ≤ k := fun k hk => (HS.out.row.lt k hk).1
          have HK4 : Hid (w9.heap[g4]? = some (.cells #[.int .i64 43, .string ⟨#[]⟩, .int .i64 0, .slice none 0 0, .slice none 0 0, v] TTm (0, 0))) := Lib.hid ((hgr.block g4 (Nat.lt_of_lt_of_le (heap_lt H4.out) HBV.out.size) (fun e => by have := hown' g4 e.symm; have := H4B.out; omega)).trans ((HBV.out.block g4 (heap_lt H4.out)).trans H4.out))
          have HB9 : Hid (Below g4 Wr w9) := Lib.hid ((HBV.out.mono (Nat.le_of_lt (heap_lt H4.out))).grown hgr (Nat.le_trans (Nat.le_of_lt (heap_lt H4.out)) HBV.out.size) (fun k hk => by have := hown' k hk; have := H4B.out; omega))
          clear hown hgr hor hown'
          change K (Act.put _ (some 66) _) _
          refine hK.out _ _ HK6.out (fun hHeld => ?_)
          clear hK K
          try simp only [Act.put, List.setIfInBounds_toArray, List.set_cons_zero, List.set_cons_succ]
          refine take_still (i := 6) (d := some 67) (v := .pointer (some ⟨g4, 5, none⟩)) rfl rfl (by kernel_rfl) (by kernel_rfl) (by kernel_rfl) (fun _ _ _ h => HP.out _ _ _ _ _ h) (Or.inl ⟨by rfl, ?_⟩) hHeld ?_
          · intro W hSw; go_simp; try with_reducible rfl
          try simp only [Act.put, List.setIfInBounds_toArray, List.set_cons_zero, List.set_cons_succ]
          refine wpAnyH_ready (rs := [7]) (by kernel_rfl) (by simp) ?_
          refine AllReadyH.cons rfl (fun K hK => ?_) ?_
          · have q5 := cell_at HK4.out (j := 5) rfl
            have fz := unfrozen HK4.out 5
            have ql := heap_lt HK4.out
            go_simp
            refine hK.out _ _ ((Below.heap_setCell _ _ _ _ (by have := HNE46.out; exact this)).trans HK6.out) (fun hHeld => ?_)
            clear hK K q5 fz ql
            refine wpAnyH_done (by kernel_rfl) ?_ _
            change Q' _ _ _
            exact HK0.out _ _ _ _ _ _ _ Au cau Bu cbu Ku cku g cap _ (HB9.out.setCell (Nat.le_refl _) _) (Go.heap_setCell_same _ _ 5 _ TTm _ HK4.out) (HT.out.set (by have := HL4.out; exact this) H4B.out _)
          exact AllReadyH.nil
        exact AllReadyH.nil
      exact AllReadyH.nil
    exact AllReadyH.nil
  refine AllReadyH.cons rfl (fun K hK => ?_) ?_
  · go_simp
    go_at_call 79
    refine (HC.out X HX.out).mono ?_
    rintro e P ⟨Au, cau, Bu, cbu, Ku, cku, rfl, hu, hb⟩
    have HU := Lib.hid (And.intro hu hb)
    have HBC := Lib.hid (HX.out.then_ hb)
    have HSC := Lib.hid (HS.out.below HX.out)
    clear hu hb
    refine hK.out _ _ ((HBC.out.block g6 (heap_lt H6.out)).trans H6.out) (fun hHeld => ?_)
    clear hK K
    refine wpAnyH_ready (rs := [1, 4]) (by kernel_rfl) (by simp) ?_
    refine AllReadyH.cons rfl (fun K hK => ?_) ?_
    · have hz := (HBC.out.block g4 (heap_lt H4.out)).trans H4.out
      have q5 := cell_at hz (j := 5) rfl
      have ql := heap_lt hz
      clear hz
      go_simp
      refine hK.out _ _ ((HBC.out.block g6 (heap_lt H6.out)).trans H6.out) (fun hHeld => ?_)
      clear hK K q5 ql
      refine wpAnyH_ready (rs := [4]) (by kernel_rfl) (by simp) ?_
      refine AllReadyH.cons rfl (fun K hK => ?_) ?_
      · go_simp
        obtain ⟨V, hV⟩ : ∃ V, V = P.alloc (.cells (tmCells u Au cau Bu cbu Ku cku) TTm) := ⟨_, rfl⟩
        obtain ⟨gv, hg⟩ : ∃ g, g = P.heap.size := ⟨_, rfl⟩
        have hbV : Below P.heap.size P V := by rw [hV]; exact (Below.refl _ _).alloc (Nat.le_refl _) _
        have HVB := Lib.hid hbV
        have HBV := Lib.hid (HBC.out.then_ hbV)
        have HNEWS : Hid (∀ j y, (rtCells u (rtOf u Au cau Bu cbu Ku cku))[j]? = some y → V.cell? ((⟨gv, 0, none⟩ : Addr).add j) = some y) := Lib.hid fun j y hy => by
          have e2 : (⟨gv, 0, none⟩ : Addr).add j = ⟨gv, j, none⟩ := by unfold Addr.add; split <;> simp_all
          rw [e2, hV, hg]
          exact cell_at (heap_alloc_new P _) (by rw [← Array.getElem?_toList]; exact hy)
        rw [← hV, ← hg]
        clear hV hg hbV
        refine hK.out _ _ ((HBV.out.block g6 (heap_lt H6.out)).trans H6.out) (fun hHeld => ?_)
        clear hK K
        refine wpAnyH_ready (rs := [5]) (by kernel_rfl) (by simp) ?_
        refine AllReadyH.cons rfl (fun K hK => ?_) ?_
        · refine step_append_lies _ rfl (.tmp 62) (.tmp 65) 22 rfl B TTm j0 (.agg tm0) 6 104 Tryz.underlying22 hj y0 y1 y2 rfl (by decide) v us.length (rtCellsL us rs) (by simp [Act.eval]) (HS.out.below HBV.out).row ⟨gv, 0, none⟩ 1 1 (rtCells u (rtOf u Au cau Bu cbu Ku cku)) (by simp [Act.eval]) rfl HNEWS.out (fun y hy => rt_one [u] [rtOf u Au cau Bu cbu Ku cku] y (by simp only [rtCellsL, List.append_nil]; exact hy)) (by omega) (by unfold maxLen; have := HL.out; omega) (by have := HL.out; omega) (Nat.le_trans HBW.out HBV.out.size) _ rfl ?_
          intro g cap w9 hown hgr hor _
          have HT : Hid (ShW w9 B lo B (us ++ [u]) (rs ++ [rtOf u Au cau Bu cbu Ku cku]) (.slice (some ⟨g, 0, none⟩) (us.length + 1) cap)) := Lib.hid (HSC.out.take HLO.out (Nat.le_trans HBW.out (Below.size HX.out)) HU.out.2 HU.out.1 HVB.out hown hgr (hor.imp (fun e => e.symm) (fun e => by rw [e]; rfl)))
          have HK6 : Hid (w9.heap[g6]? = some (.cells (tmCells x Ax cax Bx cbx Kx ckx) TTm (0, 0))) := Lib.hid ((hgr.block g6 (Nat.lt_of_lt_of_le (heap_lt H6.out) HBV.out.size) (fun e => HNE.out e.symm)).trans ((HBV.out.block g6 (heap_lt H6.out)).trans H6.out))
          have hown' : ∀ k, v.ownBlock = some k → B ≤ k := fun k hk => (HS.out.row.lt k hk).1
          have HK4 : Hid (w9.heap[g4]? = some (.cells #[.int .i64 43, .string ⟨#[]⟩, .int .i64 0, .slice none 0 0, .slice none 0 0, v] TTm (0, 0))) := Lib.hid ((hgr.block g4 (Nat.lt_of_lt_of_le (heap_lt H4.out) HBV.out.size) (fun e => by have := hown' g4 e.symm; have := H4B.out; omega)).trans ((HBV.out.block g4 (heap_lt H4.out)).trans H4.out))
          have HB9 : Hid (Below g4 Wr w9) := Lib.hid ((HBV.out.mono (Nat.le_of_lt (heap_lt H4.out))).grown hgr (Nat.le_trans (Nat.le_of_lt (heap_lt H4.out)) HBV.out.size) (fun k hk => by have := hown' k hk; have := H4B.out; omega))
          clear hown hgr hor hown'
          change K (Act.put _ (some 66) _) _
          refine hK.out _ _ HK6.out (fun hHeld => ?_)
          clear hK K
          try simp only [Act.put, List.setIfInBounds_toArray, List.set_cons_zero, List.set_cons_succ]
          refine take_still (i := 6) (d := some 67) (v := .pointer (some ⟨g4, 5, none⟩)) rfl rfl (by kernel_rfl) (by kernel_rfl) (by kernel_rfl) (fun _ _ _ h => HP.out _ _ _ _ _ h) (Or.inl ⟨by rfl, ?_⟩) hHeld ?_
          · intro W hSw; go_simp; try with_reducible rfl
          try simp only [Act.put, List.setIfInBounds_toArray, List.set_cons_zero, List.set_cons_succ]
          refine wpAnyH_ready (rs := [7]) (by kernel_rfl) (by simp) ?_
          refine AllReadyH.cons rfl (fun K hK => ?_) ?_
          · have q5 := cell_at HK4.out (j := 5) rfl
            have fz := unfrozen HK4.out 5
            have ql := heap_lt HK4.out
            go_simp
            refine hK.out _ _ ((Below.heap_setCell _ _ _ _ (by have := HNE46.out; exact this)).trans HK6.out) (fun hHeld => ?_)
            clear hK K q5 fz ql
            refine wpAnyH_done (by kernel_rfl) ?_ _
            change Q' _ _ _
            exact HK0.out _ _ _ _ _ _ _ Au cau Bu cbu Ku cku g cap _ (HB9.out.setCell (Nat.le_refl _) _) (Go.heap_setCell_same _ _ 5 _ TTm _ HK4.out) (HT.out.set (by have := HL4.out; exact this) H4B.out _)
          exact AllReadyH.nil
        exact AllReadyH.nil
      exact AllReadyH.nil
    refine AllReadyH.cons rfl (fun K hK => ?_) ?_
    · go_simp
      obtain ⟨V, hV⟩ : ∃ V, V = P.alloc (.cells (tmCells u Au cau Bu cbu Ku cku) TTm) := ⟨_, rfl⟩
      obtain ⟨gv, hg⟩ : ∃ g, g = P.heap.size := ⟨_, rfl⟩
      have hbV : Below P.heap.size P V := by rw [hV]; exact (Below.refl _ _).alloc (Nat.le_refl _) _
      have HVB := Lib.hid hbV
      have HBV := Lib.hid (HBC.out.then_ hbV)
      have HNEWS : Hid (∀ j y, (rtCells u (rtOf u Au cau Bu cbu Ku cku))[j]? = some y → V.cell? ((⟨gv, 0, none⟩ : Addr).add j) = some y) := Lib.hid fun j y hy => by
        have e2 : (⟨gv, 0, none⟩ : Addr).add j = ⟨gv, j, none⟩ := by unfold Addr.add; split <;> simp_all
        rw [e2, hV, hg]
        exact cell_at (heap_alloc_new P _) (by rw [← Array.getElem?_toList]; exact hy)
      rw [← hV, ← hg]
      clear hV hg hbV
      refine hK.out _ _ ((HBV.out.block g6 (heap_lt H6.out)).trans H6.out) (fun hHeld => ?_)
      clear hK K
      refine wpAnyH_ready (rs := [1]) (by kernel_rfl) (by simp) ?_
      refine AllReadyH.cons rfl (fun K hK => ?_) ?_
      · have hz := (HBV.out.block g4 (heap_lt H4.out)).trans H4.out
        have q5 := cell_at hz (j := 5) rfl
        have ql := heap_lt hz
        clear hz
        go_simp
        refine hK.out _ _ ((HBV.out.block g6 (heap_lt H6.out)).trans H6.out) (fun hHeld => ?_)
        clear hK K q5 ql
        refine wpAnyH_ready (rs := [5]) (by kernel_rfl) (by simp) ?_
        refine AllReadyH.cons rfl (fun K hK => ?_) ?_
        · refine step_append_lies _ rfl (.tmp 62) (.tmp 65) 22 rfl B TTm j0 (.agg tm0) 6 104 Tryz.underlying22 hj y0 y1 y2 rfl (by decide) v us.length (rtCellsL us rs) (by simp [Act.eval]) (HS.out.below HBV.out).row ⟨gv, 0, none⟩ 1 1 (rtCells u (rtOf u Au cau Bu cbu Ku cku)) (by simp [Act.eval]) rfl HNEWS.out (fun y hy => rt_one [u] [rtOf u Au cau Bu cbu Ku cku] y (by simp only [rtCellsL, List.append_nil]; exact hy)) (by omega) (by unfold maxLen; have := HL.out; omega) (by have := HL.out; omega) (Nat.le_trans HBW.out HBV.out.size) _ rfl ?_
          intro g cap w9 hown hgr hor _
          have HT : Hid (ShW w9 B lo B (us ++ [u]) (rs ++ [rtOf u Au cau Bu cbu Ku cku]) (.slice (some ⟨g, 0, none⟩) (us.length + 1) cap)) := Lib.hid (HSC.out.take HLO.out (Nat.le_trans HBW.out (Below.size HX.out)) HU.out.2 HU.out.1 HVB.out hown hgr (hor.imp (fun e => e.symm) (fun e => by rw [e]; rfl)))
          have HK6 : Hid (w9.heap[g6]? = some (.cells (tmCells x Ax cax Bx cbx Kx ckx) TTm (0, 0))) := Lib.hid ((hgr.block g6 (Nat.lt_of_lt_of_le (heap_lt H6.out) HBV.out.size) (fun e => HNE.out e.symm)).trans ((HBV.out.block g6 (heap_lt H6.out)).trans H6.out))
          have hown' : ∀ k, v.ownBlock = some k → B ≤ k := fun k hk => (HS.out.row.lt k hk).1
          have HK4 : Hid (w9.heap[g4]? = some (.cells #[.int .i64 43, .string ⟨#[]⟩, .int .i64 0, .slice none 0 0, .slice none 0 0, v] TTm (0, 0))) := Lib.hid ((hgr.block g4 (Nat.lt_of_lt_of_le (heap_lt H4.out) HBV.out.size) (fun e => by have := hown' g4 e.symm; have := H4B.out; omega)).trans ((HBV.out.block g4 (heap_lt H4.out)).trans H4.out))
          have HB9 : Hid (Below g4 Wr w9) := Lib.hid ((HBV.out.mono (Nat.le_of_lt (heap_lt H4.out))).grown hgr (Nat.le_trans (Nat.le_of_lt (heap_lt H4.out)) HBV.out.size) (fun k hk => by have := hown' k hk; have := H4B.out; omega))
          clear hown hgr hor hown'
          change K (Act.put _ (some 66) _) _
          refine hK.out _ _ HK6.out (fun hHeld => ?_)
          clear hK K
          try simp only [Act.put, List.setIfInBounds_toArray, List.set_cons_zero, List.set_cons_succ]
          refine take_still (i := 6) (d := some 67) (v := .pointer (some ⟨g4, 5, none⟩)) rfl rfl (by kernel_rfl) (by kernel_rfl) (by kernel_rfl) (fun _ _ _ h => HP.out _ _ _ _ _ h) (Or.inl ⟨by rfl, ?_⟩) hHeld ?_
          · intro W hSw; go_simp; try with_reducible rfl
          try simp only [Act.put, List.setIfInBounds_toArray, List.set_cons_zero, List.set_cons_succ]
          refine wpAnyH_ready (rs := [7]) (by kernel_rfl) (by simp) ?_
          refine AllReadyH.cons rfl (fun K hK => ?_) ?_
          · have q5 := cell_at HK4.out (j := 5) rfl
            have fz := unfrozen HK4.out 5
            have ql := heap_lt HK4.out
            go_simp
            refine hK.out _ _ ((Below.heap_setCell _ _ _ _ (by have := HNE46.out; exact this)).trans HK6.out) (fun hHeld => ?_)
            clear hK K q5 fz ql
            refine wpAnyH_done (by kernel_rfl) ?_ _
            change Q' _ _ _
            exact HK0.out _ _ _ _ _ _ _ Au cau Bu cbu Ku cku g cap _ (HB9.out.setCell (Nat.le_refl _) _) (Go.heap_setCell_same _ _ 5 _ TTm _ HK4.out) (HT.out.set (by have := HL4.out; exact this) H4B.out _)
          exact AllReadyH.nil
        exact AllReadyH.nil
      exact AllReadyH.nil
    exact AllReadyH.nil
  exact AllReadyH.nil
set_option maxRecDepth 100000 in
set_option maxHeartbeats 100000000 in
theorem ttd14 {x : Tm} {Ax : Option Addr} {cax : Nat} {Bx : Option Addr} {cbx : Nat} {Kx : Option Addr} {ckx : Nat} {u : Tm} {w Wr : World} {lo g n cap i : Nat} {z : Int} (fx : ∀ W, Below Wr.heap.size Wr W → (W.cell? ⟨g, i * 6, none⟩ = some (.int .i64 x.kind) ∧ W.cell? ⟨g, i * 6 + 1, none⟩ = some (.string x.text) ∧ W.cell? ⟨g, i * 6 + 2, none⟩ = some (.int .i64 x.n) ∧ W.cell? ⟨g, i * 6 + 3, none⟩ = some (.slice Ax x.sh.length cax) ∧ W.cell? ⟨g, i * 6 + 4, none⟩ = some (.slice Bx x.at_.length cbx) ∧ W.cell? ⟨g, i * 6 + 5, none⟩ = some (.slice Kx x.kids.length ckx) ∧ g < W.heap.size) ∧ ∀ j, W.frozen? ⟨g, j, none⟩ = false) (fs : ∀ W, Below Wr.heap.size Wr W → W.cell? ⟨w.heap.size, 5, none⟩ = some (.slice (some ⟨g, 0, none⟩) n cap) ∧ w.heap.size < W.heap.size) (hg : w.heap.size < g) (hin : i < n)
    (hc : ∀ W, Below Wr.heap.size Wr W → Calls Tryz.prog 121 #[tmVal x Ax cax Bx cbx Kx ckx, .int .i64 z] W (TrPost u lo W)) {Q' : Exit → Act → World → Prop} {s0 s1 s3 s4 s5 s6 s7 s10 s11 s12 s13 s14 s15 s16 s17 s18 s19 s20 s21 s22 s23 s24 s25 s26 s27 s28 s29 s30 s31 s32 s33 s34 s35 s36 s37 s38 s39 s40 s41 s42 s43 s44 s45 s46 s47 s48 s49 s50 s51 s52 s53 s54 s55 : Value}
    (hP : ∀ c (a : Act) d v w, Q' (.panic c) (a.put (some d) v) w → Q' (.panic c) a w)
    (hK : ∀ (r43 r44 r45 r46 r47 r48 r49 r50 r51 r52 r53 : Value) (Au : Option Addr) (cau : Nat) (Bu : Option Addr) (cbu : Nat) (Ku : Option Addr) (cku : Nat) (W W' : World), Below Wr.heap.size Wr W → TmAt (mask W lo Wr.heap.size) u Au Bu Ku → W' = sixAt W g (i * 6) (.int .i64 u.kind) (.string u.text) (.int .i64 u.n) (.slice Au u.sh.length cau) (.slice Bu u.at_.length cbu) (.slice Ku u.kids.length cku) → Q' .normal { tmps := List.toArray (s0 :: s1 :: (.pointer (some ⟨w.heap.size, 0, none⟩)) :: s3 :: s4 :: s5 :: s6 :: s7 :: (.int .i64 (i : Int)) :: (.int .i64 z) :: s10 :: s11 :: s12 :: s13 :: s14 :: s15 :: s16 :: s17 :: s18 :: s19 :: s20 :: s21 :: s22 :: s23 :: s24 :: s25 :: s26 :: s27 :: s28 :: s29 :: s30 :: s31 :: s32 :: s33 :: s34 :: s35 :: s36 :: s37 :: s38 :: s39 :: s40 :: s41 :: s42 :: r43 :: r44 :: r45 :: r46 :: r47 :: r48 :: r49 :: r50 :: r51 :: r52 :: r53 :: s54 :: s55 :: []), defers := [] } W') :
    Code.wp Tryz.prog (regOf Tryz.f121 14) Q' { tmps := List.toArray (s0 :: s1 :: (.pointer (some ⟨w.heap.size, 0, none⟩)) :: s3 :: s4 :: s5 :: s6 :: s7 :: (.int .i64 (i : Int)) :: (.int .i64 z) :: s10 :: s11 :: s12 :: s13 :: s14 :: s15 :: s16 :: s17 :: s18 :: s19 :: s20 :: s21 :: s22 :: s23 :: s24 :: s25 :: s26 :: s27 :: s28 :: s29 :: s30 :: s31 :: s32 :: s33 :: s34 :: s35 :: s36 :: s37 :: s38 :: s39 :: s40 :: s41 :: s42 :: s43 :: s44 :: s45 :: s46 :: s47 :: s48 :: s49 :: s50 :: s51 :: s52 :: s53 :: s54 :: s55 :: []), defers := [] } Wr := by
  have FX : Hid (∀ W, Below Wr.heap.size Wr W → W.cell? ⟨g, i * 6, none⟩ = some (.int .i64 x.kind) ∧ W.cell? ⟨g, i * 6 + 1, none⟩ = some (.string x.text) ∧ W.cell? ⟨g, i * 6 + 2, none⟩ = some (.int .i64 x.n) ∧ W.cell? ⟨g, i * 6 + 3, none⟩ = some (.slice Ax x.sh.length cax) ∧ W.cell? ⟨g, i * 6 + 4, none⟩ = some (.slice Bx x.at_.length cbx) ∧ W.cell? ⟨g, i * 6 + 5, none⟩ = some (.slice Kx x.kids.length ckx) ∧ g < W.heap.size) := Lib.hid fun W h => (fx W h).1
  have FZ : Hid (∀ W, Below Wr.heap.size Wr W → ∀ j, W.frozen? ⟨g, j, none⟩ = false) := Lib.hid fun W h => (fx W h).2
  have FS := Lib.hid fs
  have FC : Hid (∀ W : World, (W.cell? ⟨w.heap.size, 5, none⟩ = some (.slice (some ⟨g, 0, none⟩) n cap) ∧ w.heap.size < W.heap.size) → (W.cell? ⟨w.heap.size, 5, none⟩ = some (.slice (some ⟨g, 0, none⟩) n cap) ∧ w.heap.size < W.heap.size)) := Lib.hid fun W h => h
  have FPUT : Hid (∀ (W : World), Below Wr.heap.size Wr W → ∀ v0 v1 v2 v3 v4 v5, (fun W => W.cell? ⟨w.heap.size, 5, none⟩ = some (.slice (some ⟨g, 0, none⟩) n cap) ∧ w.heap.size < W.heap.size) (sixAt W g (i * 6) v0 v1 v2 v3 v4 v5)) := Lib.hid fun W h v0 v1 v2 v3 v4 v5 => by
    obtain ⟨e1, e2⟩ := fs W h
    refine ⟨?_, by simp [World.setCell]; exact e2⟩
    have hf : g ≠ w.heap.size := by omega
    rw [World.cell?_setCell_far _ _ _ _ hf, World.cell?_setCell_far _ _ _ _ hf, World.cell?_setCell_far _ _ _ _ hf, World.cell?_setCell_far _ _ _ _ hf, World.cell?_setCell_far _ _ _ _ hf, World.cell?_setCell_far _ _ _ _ hf]
    exact e1
  have HC := Lib.hid hc
  have HK0 := Lib.hid hK
  have HP := Lib.hid hP
  have q1 : (0 : Int) ≤ (i : Int) := by omega
  have q2 : (i : Int) < (n : Int) := by omega
  clear fx fs hg hin hc hK hP
  conv => arg 2; whnf
  refine wp_region_held_drew (S := (fun W => W.cell? ⟨w.heap.size, 5, none⟩ = some (.slice (some ⟨g, 0, none⟩) n cap) ∧ w.heap.size < W.heap.size)) (by kernel_rfl) (FS.out _ (Below.refl _ _).drew) (fun hHeld => ?_)
  obtain ⟨X, hX⟩ : ∃ X, X = Wr.drew := ⟨_, rfl⟩
  have HX : Hid (Below Wr.heap.size Wr X) := Lib.hid (by rw [hX]; exact (Below.refl _ _).drew)
  rw [← hX] at hHeld ⊢
  clear hX
  refine take_still (i := 0) (d := some 43) (v := .pointer (some ⟨w.heap.size, 5, none⟩)) rfl rfl (by kernel_rfl) (by kernel_rfl) (by kernel_rfl) (fun _ _ _ h => HP.out _ _ _ _ _ h) (Or.inl ⟨by rfl, ?_⟩) hHeld ?_
  · intro W hSw; go_simp; try with_reducible rfl
  try simp only [Act.put, List.setIfInBounds_toArray, List.set_cons_zero, List.set_cons_succ]
  refine take_still (i := 1) (d := some 44) (v := .slice (some ⟨g, 0, none⟩) n cap) rfl rfl (by kernel_rfl) (by kernel_rfl) (by kernel_rfl) (fun _ _ _ h => HP.out _ _ _ _ _ h) (Or.inl ⟨by rfl, ?_⟩) hHeld ?_
  · intro W hSw; obtain ⟨k5, kl⟩ := FC.out W hSw; go_simp; try with_reducible rfl
  try simp only [Act.put, List.setIfInBounds_toArray, List.set_cons_zero, List.set_cons_succ]
  refine take_still (i := 2) (d := some 45) (v := .int .i64 (i : Int)) rfl rfl (by kernel_rfl) (by kernel_rfl) (by kernel_rfl) (fun _ _ _ h => HP.out _ _ _ _ _ h) (Or.inl ⟨by rfl, ?_⟩) hHeld ?_
  · intro W hSw; go_simp; try with_reducible rfl
  try simp only [Act.put, List.setIfInBounds_toArray, List.set_cons_zero, List.set_cons_succ]
  refine take_still (i := 3) (d := some 46) (v := .pointer (some ⟨w.heap.size, 5, none⟩)) rfl rfl (by kernel_rfl) (by kernel_rfl) (by kernel_rfl) (fun _ _ _ h => HP.out _ _ _ _ _ h) (Or.inl ⟨by rfl, ?_⟩) hHeld ?_
  · intro W hSw; go_simp; try with_reducible rfl
  try simp only [Act.put, List.setIfInBounds_toArray, List.set_cons_zero, List.set_cons_succ]
  refine take_still (i := 4) (d := some 47) (v := .slice (some ⟨g, 0, none⟩) n cap) rfl rfl (by kernel_rfl) (by kernel_rfl) (by kernel_rfl) (fun _ _ _ h => HP.out _ _ _ _ _ h) (Or.inl ⟨by rfl, ?_⟩) hHeld ?_
  · intro W hSw; obtain ⟨k5, kl⟩ := FC.out W hSw; go_simp; try with_reducible rfl
  try simp only [Act.put, List.setIfInBounds_toArray, List.set_cons_zero, List.set_cons_succ]
  refine take_still (i := 5) (d := some 48) (v := .int .i64 (i : Int)) rfl rfl (by kernel_rfl) (by kernel_rfl) (by kernel_rfl) (fun _ _ _ h => HP.out _ _ _ _ _ h) (Or.inl ⟨by rfl, ?_⟩) hHeld ?_
  · intro W hSw; go_simp; try with_reducible rfl
  try simp only [Act.put, List.setIfInBounds_toArray, List.set_cons_zero, List.set_cons_succ]
  refine take_still (i := 6) (d := some 49) (v := .pointer (some ⟨g, i * 6, none⟩)) rfl rfl (by kernel_rfl) (by kernel_rfl) (by kernel_rfl) (fun _ _ _ h => HP.out _ _ _ _ _ h) (Or.inl ⟨by rfl, ?_⟩) hHeld ?_
  · intro W hSw; go_simp; try with_reducible rfl
  try simp only [Act.put, List.setIfInBounds_toArray, List.set_cons_zero, List.set_cons_succ]
  refine take_still (i := 8) (d := some 51) (v := .int .i64 z) rfl rfl (by kernel_rfl) (by kernel_rfl) (by kernel_rfl) (fun _ _ _ h => HP.out _ _ _ _ _ h) (Or.inl ⟨by rfl, ?_⟩) hHeld ?_
  · intro W hSw; go_simp; try with_reducible rfl
  try simp only [Act.put, List.setIfInBounds_toArray, List.set_cons_zero, List.set_cons_succ]
  refine wpAnyH_ready (rs := [7]) (by kernel_rfl) (by simp) ?_
  refine AllReadyH.cons rfl (fun K hK => ?_) ?_
  · obtain ⟨x0, x1, x2, x3, x4, x5, xl⟩ := FX.out X HX.out
    go_simp
    refine hK.out _ _ (FS.out _ HX.out) (fun hHeld => ?_)
    clear hK K x0 x1 x2 x3 x4 x5 xl
    refine wpAnyH_ready (rs := [9]) (by kernel_rfl) (by simp) ?_
    refine AllReadyH.cons rfl (fun K hK => ?_) ?_
    · go_simp
      go_at_call 121
      refine (HC.out X HX.out).mono ?_
      rintro e P ⟨Au, cau, Bu, cbu, Ku, cku, rfl, hu, hb⟩
      have HU : Hid (TmAt (mask P lo Wr.heap.size) u Au Bu Ku) := Lib.hid (mask_less hu HX.out.size)
      have HBC := Lib.hid (HX.out.then_ hb)
      clear hu hb
      refine hK.out _ _ (FS.out _ HBC.out) (fun hHeld => ?_)
      clear hK K
      refine take_still (i := 10) (d := some 53) (v := .pointer (some ⟨g, i * 6, none⟩)) rfl rfl (by kernel_rfl) (by kernel_rfl) (by kernel_rfl) (fun _ _ _ h => HP.out _ _ _ _ _ h) (Or.inl ⟨by rfl, ?_⟩) hHeld ?_
      · intro W hSw; go_simp; try with_reducible rfl
      try simp only [Act.put, List.setIfInBounds_toArray, List.set_cons_zero, List.set_cons_succ]
      refine wpAnyH_ready (rs := [11]) (by kernel_rfl) (by simp) ?_
      refine AllReadyH.cons rfl (fun K hK => ?_) ?_
      · obtain ⟨x0, x1, x2, x3, x4, x5, xl⟩ := FX.out P HBC.out
        have fz := FZ.out P HBC.out
        go_simp
        refine hK.out _ _ (FPUT.out P HBC.out _ _ _ _ _ _) (fun hHeld => ?_)
        clear hK K x0 x1 x2 x3 x4 x5 xl fz
        refine wpAnyH_done (by kernel_rfl) ?_ _
        change Q' _ _ _
        exact HK0.out _ _ _ _ _ _ _ _ _ _ _ Au cau Bu cbu Ku cku P _ HBC.out HU.out rfl
      exact AllReadyH.nil
    exact AllReadyH.nil
  exact AllReadyH.nil
end Go.Proofs.YtebiojmfieoncaaGreat
