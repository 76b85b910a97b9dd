/- show.cut behind its label 'start'. No condition. -/
import Derived.Test.YtpipcpjkfgdpcaaDoorShCut4
namespace Go.Proofs.YtpipcpjkfgdpcaaDoor
open Go.RowKit

theorem CutW.dollar {s : ByteArray} {w0 w : World} {L av : Value} {l ahead : List Int} {mark : Int} (h : CutW s w0 w ⟨L, l, av, ahead, false, mark⟩) (i : Nat) (hi : i ≤ s.size) :
    CutW s w0 ((w.setCell ⟨w0.heap.size + 1, 2, none⟩ (.int .i64 i)).setCell ⟨w0.heap.size + 1, 0, none⟩ L) ⟨.slice none 0 0, [], L, l, true, i⟩ := by
  have g1 := grown_cell w (w0.heap.size + 1) 2 (.int .i64 i)
  have g2 := grown_cell (w.setCell ⟨w0.heap.size + 1, 2, none⟩ (.int .i64 i)) (w0.heap.size + 1) 0 L
  have k1 := cell3_2 h.p5 (.int .i64 i)
  have hne : some w0.heap.size ≠ some (w0.heap.size + 1) := fun e => by injection e with e; omega
  refine ⟨(h.be.setCell (p := ⟨w0.heap.size + 1, 2, none⟩) (Nat.le_succ _) _).setCell (p := ⟨w0.heap.size + 1, 0, none⟩) (Nat.le_succ _) _, ?_, cell3_0 k1 _, World.ownsRow_nil _ _ _ _, (h.ol.words g1 h.p5).words g2 k1, ?_, fun x hx => (by cases hx), h.al, .inr ⟨rfl, Int.natCast_nonneg i, by show (i : Int) ≤ s.size; omega⟩⟩
  · have hlt : w0.heap.size < w.heap.size := (Array.getElem?_eq_some_iff.1 h.p2).1
    exact (g2.block _ (by have := g1.size; omega) hne).trans ((g1.block _ hlt hne).trans h.p2)
  · show L.ownBlock = none ∨ L.ownBlock ≠ none
    cases L.ownBlock with
    | none => exact .inl rfl
    | some k => exact .inr (by simp)

set_option maxHeartbeats 8000000 in
set_option maxRecDepth 100000 in
theorem cut_start (s : ByteArray) (w0 : World) (hs : s.size ≤ 1048576) (r : Code) (hR : cutAt 0 = some r) (a : Act) (w : World) (hJ : cutJ s w0 0 a w) : CutPasses s w0 (cutM s 0 a w) r a w := by
  have e : cutAt 0 = some _ := rfl
  rw [e] at hR
  cases hR
  clear e
  intro Q1 hret hgo hfall
  obtain ⟨c, n, i, f, b, o, u, rfl, hi, hf, hn, hW, ht, hA⟩ := hJ
  obtain ⟨L, l, av, ahead, dol, mark⟩ := c
  obtain ⟨A, cp, hLL⟩ : ∃ A cp, L = .slice A l.length cp := hW.ol.form
  obtain ⟨A2, cp2, hAA⟩ : ∃ A cp, av = .slice A ahead.length cp := hW.oa.form
  subst hLL hAA
  have HW := Lib.hid hW
  have HT := Lib.hid ht
  have HA : Hid (wordK (lst s) (words (lst s)) i l ahead mark = allWords (lst s)) := Lib.hid ((words_eq (by rw [len_data]; exact hi) _ _ _).symm.trans hA)
  have HGo := Lib.hid hgo
  have HFall := Lib.hid hfall
  have HRet := Lib.hid hret
  obtain ⟨q0, q1, q2, q3⟩ := heap3 hW.p5
  have hblk := hW.p2
  clear hW ht hA hfall hgo hret hn hf
  simp only [cutFrame]
  simp only at q0 q1 q2 q3
  go_upto_block 0 with fail
  go_cut [3, 4, 6, 8, 10] from 13 (fun v3 v4 v6 v8 v10 wx => v3 = .int .i64 0 ∧ v4 = .int .i64 0 ∧ v6 = .slice A l.length cp ∧ (∃ (j : Nat) (b' : Bool), v8 = .int .i64 j ∧ v10 = .bool b' ∧ i ≤ j ∧ Hid (∃ h : j < s.size, 48 ≤ s[j].toNat ∧ s[j].toNat ≤ 57 ∧ (b' = true → 49 ≤ s[j].toNat) ∧ upto s j = upto s i ++ sg b' ∧ numK (lst s) (words (lst s)) b' i j l ahead mark = allWords (lst s))) ∧ wx = w)
  case first =>
    by_cases hlt : i < s.size
    · have hlti : (i : Int) < s.size := by omega
      by_cases h36 : s[i].toNat = 36
      · have x36 : ((s[i].toNat : Int) == 36) = true := by simp [h36]
        cases dol with
        | false =>
          have hm : mark = -1 := by rcases HW.out.dol with ⟨_, h, _⟩ | ⟨h, _⟩; exact h; cases h
          subst hm
          have HD := Lib.hid (HW.out.dollar i hi)
          have HP : Hid (upto s (i + 1) ++ [32] = (Cst.mk (.slice none 0 0) [] (.slice A l.length cp) l true i).pre) := Lib.hid (by
            have hx : s[i] = 36 := UInt8.toNat_inj.1 h36
            have h : upto s i = bl l := HT.out
            rw [upto_succ hlt, hx, h]
            simp [Cst.pre, bl])
          have HQ : Hid (afterK (lst s) (words (lst s)) (i + 1) [] l i = allWords (lst s)) := Lib.hid ((w_mark1 (at_some hlt) h36 (by decide)).symm.trans HA.out)
          clear h36
          by_cases hend : i + 1 = s.size
          · have xe : ((i : Int) + 1 == s.size) = true := by simp; omega
            have HE := Lib.hid hend
            clear hend
            go_wp2_with fail
            refine wp_goto (HGo.out 1 _ _ (cutJ_of ⟨.slice none 0 0, [], .slice A l.length cp, l, true, i⟩ 0 (i + 1) i false false rfl (by omega) hi (by decide) HD.out ⟨HE.out, HP.out⟩ ((after_end _ _ _ (by rw [len_data]; exact HE.out)).symm.trans HQ.out) ) ?_)
            rw [cutM_at]
            show 8 * (s.size - (i + 1)) + 0 < 8 * (s.size - i) + 6
            omega
          · have xe : ((i : Int) + 1 == s.size) = false := by simp; omega
            have HE : Hid (i + 1 < s.size) := Lib.hid (by omega)
            clear hend
            go_wp2_with fail
            refine wp_goto (HGo.out 2 _ _ (cutJ_of ⟨.slice none 0 0, [], .slice A l.length cp, l, true, i⟩ 0 (i + 1) i false false rfl (by omega) hi (by decide) HD.out ⟨HE.out, HP.out⟩ HQ.out ) ?_)
            rw [cutM_at]
            show 8 * (s.size - (i + 1)) + 3 < 8 * (s.size - i) + 6
            omega
        | true =>
          have hm : ¬ mark < 0 := by rcases HW.out.dol with ⟨h, _⟩ | ⟨_, h, _⟩; cases h; exact Int.not_lt.2 h
          have x95 : ((s[i].toNat : Int) == 95) = false := by simp; omega
          have x48 : ¬ (48 : Int) ≤ s[i].toNat := by omega
          have HM36 := Lib.hid h36
          go_wp2_with (refine wp_store_words _ w0.heap.size _ (.tmp 2) (.tmp 78) rfl rfl hblk rfl rfl _ _ _ rfl rfl ?_)
          refine HRet.out _ _ (bodyPost_ret (results_words rfl rfl (setRow_heap _ _ _ _ _ _ hblk)) rfl ?_)
          exact HW.out.err _ _ _ _ _ _ (.inl rfl) (by omega) (by omega) (by rw [← HA.out, w_mark2 (at_some hlt) HM36.out (by omega)])
      · have x36 : ((s[i].toNat : Int) == 36) = false := by simp; omega
        have HN36 := Lib.hid h36
        clear h36
        by_cases h95 : s[i].toNat = 95
        · have x95 : ((s[i].toNat : Int) == 95) = true := by simp [h95]
          have H95 := Lib.hid h95
          by_cases hlt2 : i + 1 < s.size
          · have hlt2i : (i : Int) + 1 < s.size := by omega
            go_wp2_with (refine wp_store_words _ w0.heap.size _ (.tmp 2) (.tmp 65) rfl rfl hblk rfl rfl _ _ _ rfl rfl ?_)
            · refine HRet.out _ _ (bodyPost_ret (results_words rfl rfl (setRow_heap _ _ _ _ _ _ hblk)) rfl ?_)
              exact HW.out.err _ _ _ _ _ _ (.inl rfl) (by omega) (by omega) (by rw [← HA.out, w_neg_bad (at_some hlt) H95.out (fun y hy => by rw [at_some hlt2] at hy; obtain rfl := Option.some.inj hy; omega)])
            · have hh : ((i : Int) + 1 < s.size ∧ (49 : Int) ≤ s[i + 1].toNat) ∧ (s[i + 1].toNat : Int) ≤ 57 := by assumption
              have HX : Hid (∃ h : i + 1 < s.size, 48 ≤ s[i + 1].toNat ∧ s[i + 1].toNat ≤ 57 ∧ (true = true → 49 ≤ s[i + 1].toNat) ∧ upto s (i + 1) = upto s i ++ sg true ∧ numK (lst s) (words (lst s)) true i (i + 1) l ahead mark = allWords (lst s)) := Lib.hid ⟨hlt2, by omega, by omega, fun _ => by omega, by
                have hx : s[i] = 95 := UInt8.toNat_inj.1 h95
                rw [upto_succ hlt, hx]
                rfl, (w_neg (at_some hlt) h95 (at_some hlt2) ⟨by omega, by omega⟩).symm.trans HA.out⟩
              go_meet
              case rel => exact ⟨rfl, rfl, rfl, ⟨i + 1, true, rfl, rfl, Nat.le_succ _, HX.out⟩, rfl⟩
            · refine HRet.out _ _ (bodyPost_ret (results_words rfl rfl (setRow_heap _ _ _ _ _ _ hblk)) rfl ?_)
              exact HW.out.err _ _ _ _ _ _ (.inl rfl) (by omega) (by omega) (by rw [← HA.out, w_neg_bad (at_some hlt) H95.out (fun y hy => by rw [at_some hlt2] at hy; obtain rfl := Option.some.inj hy; omega)])
          · have hlt2i : ¬ (i : Int) + 1 < s.size := by omega
            go_wp2_with (refine wp_store_words _ w0.heap.size _ (.tmp 2) (.tmp 65) rfl rfl hblk rfl rfl _ _ _ rfl rfl ?_)
            refine HRet.out _ _ (bodyPost_ret (results_words rfl rfl (setRow_heap _ _ _ _ _ _ hblk)) rfl ?_)
            exact HW.out.err _ _ _ _ _ _ (.inl rfl) (by omega) (by omega) (by rw [← HA.out, w_neg_bad (at_some hlt) H95.out (fun y hy => by rw [at_none (by omega)] at hy; cases hy)])
        · have x95 : ((s[i].toNat : Int) == 95) = false := by simp; omega
          have HN95 := Lib.hid h95
          clear h95
          by_cases h48 : 48 ≤ s[i].toNat ∧ s[i].toNat ≤ 57
          · have x48 : (48 : Int) ≤ s[i].toNat := by omega
            have x57 : (s[i].toNat : Int) ≤ 57 := by omega
            have HX : Hid (∃ h : i < s.size, 48 ≤ s[i].toNat ∧ s[i].toNat ≤ 57 ∧ (false = true → 49 ≤ s[i].toNat) ∧ upto s i = upto s i ++ sg false ∧ numK (lst s) (words (lst s)) false i i l ahead mark = allWords (lst s)) := Lib.hid ⟨hlt, h48.1, h48.2, fun h => (by cases h), by simp [sg], (w_num (at_some hlt) h48).symm.trans HA.out⟩
            clear h48
            go_wp2_with fail
            all_goals
              go_meet
              case rel => exact ⟨rfl, rfl, rfl, ⟨i, false, rfl, rfl, Nat.le_refl _, HX.out⟩, rfl⟩
          · have xno : ¬ ((48 : Int) ≤ s[i].toNat ∧ (s[i].toNat : Int) ≤ 57) := fun h => h48 ⟨by omega, by omega⟩
            clear h48
            by_cases y48 : (48 : Int) ≤ s[i].toNat
            · have x57 : ¬ (s[i].toNat : Int) ≤ 57 := fun h => xno ⟨y48, h⟩
              clear xno
              go_wp2_with (refine wp_store_words _ w0.heap.size _ (.tmp 2) (.tmp 78) rfl rfl hblk rfl rfl _ _ _ rfl rfl ?_)
              refine HRet.out _ _ (bodyPost_ret (results_words rfl rfl (setRow_heap _ _ _ _ _ _ hblk)) rfl ?_)
              exact HW.out.err _ _ _ _ _ _ (.inl rfl) (by omega) (by omega) (by rw [← HA.out, w_bad (at_some hlt) HN36.out HN95.out (by omega)])
            · clear xno
              go_wp2_with (refine wp_store_words _ w0.heap.size _ (.tmp 2) (.tmp 78) rfl rfl hblk rfl rfl _ _ _ rfl rfl ?_)
              refine HRet.out _ _ (bodyPost_ret (results_words rfl rfl (setRow_heap _ _ _ _ _ _ hblk)) rfl ?_)
              exact HW.out.err _ _ _ _ _ _ (.inl rfl) (by omega) (by omega) (by rw [← HA.out, w_bad (at_some hlt) HN36.out HN95.out (by omega)])
    · have hlti : ¬ (i : Int) < s.size := by omega
      go_wp2_with (refine wp_store_words _ w0.heap.size _ (.tmp 2) (.tmp 20) rfl rfl hblk rfl rfl _ _ _ rfl rfl ?_)
      refine HRet.out _ _ (bodyPost_ret (results_words rfl rfl (setRow_heap _ _ _ _ _ _ hblk)) rfl ?_)
      exact HW.out.err _ _ _ _ _ _ (.inl rfl) (by omega) (by omega) (by rw [← HA.out, w_none (at_none (by omega))])
  obtain ⟨rfl, rfl, rfl, ⟨j, b', rfl, rfl, hij, HX⟩, rfl⟩ := hcut
  obtain ⟨hj, _⟩ := HX.out
  by_cases h0 : s[j].toNat = 48
  · have x0 : ((s[j].toNat : Int) == 48) = true := by simp [h0]
    go_wp2_with fail
    refine wp_goto (HGo.out 3 _ _ (cutJ_of ⟨.slice A l.length cp, l, .slice A2 ahead.length cp2, ahead, dol, mark⟩ 0 (j + 1) i b' false rfl (by omega) hi (by decide) HW.out ?_ ⟨0, .inl ⟨rfl, rfl⟩, (num_zero (at_some hj) h0).symm.trans HX.out.2.2.2.2.2⟩) ?_)
    · obtain ⟨_, h1, h2, h3, h4, _⟩ := HX.out
      refine fun _ => ⟨?_, fun hb => by have := h3 hb; omega⟩
      have hx : s[j] = 48 := UInt8.toNat_inj.1 h0
      have ht : upto s i = _ := HT.out
      rw [upto_succ hj, hx, h4, ht, dec_small 0 (by decide)]
      rfl
    · rw [cutM_at]
      show 8 * (s.size - (j + 1)) + 4 < 8 * (s.size - i) + 6
      omega
  · have x0 : ((s[j].toNat : Int) == 48) = false := by simp; omega
    go_wp2_with fail
    rename_i hK
    refine wp_label (hK _ _ (HFall.out 4 _ _ _ rfl (cutJ_of ⟨.slice A l.length cp, l, .slice A2 ahead.length cp2, ahead, dol, mark⟩ 0 j i b' false rfl (by omega) hi (by decide) HW.out ?_ ⟨0, .inl ⟨rfl, rfl⟩, (num_more (at_some hj) h0).symm.trans HX.out.2.2.2.2.2⟩) ?_))
    · obtain ⟨_, h1, h2, h3, h4, _⟩ := HX.out
      have ht : upto s i = _ := HT.out
      refine fun _ => ⟨?_, fun _ => ⟨s[j], get_data hj, by omega, h2⟩⟩
      rw [h4, ht]
      show _ = _ ++ []
      rw [List.append_nil]
    · rw [cutM_at]
      show 8 * (s.size - j) + 5 < 8 * (s.size - i) + 6
      omega
end Go.Proofs.YtpipcpjkfgdpcaaDoor
