/- show.cut behind its label 'blank'. No condition. -/
import Derived.Test.YtpipcpjkfgdpcaaDoorShCut1
namespace Go.Proofs.YtpipcpjkfgdpcaaDoor
open Go.RowKit

set_option maxHeartbeats 4000000 in
set_option maxRecDepth 100000 in
theorem cut_blank (s : ByteArray) (w0 : World) (hs : s.size ≤ 1048576) (r : Code) (hR : cutAt 2 = some r) (a : Act) (w : World) (hJ : cutJ s w0 2 a w) : CutPasses s w0 (cutM s 2 a w) r a w := by
  have e : cutAt 2 = some _ := rfl
  rw [e] at hR
  cases hR
  intro Q1 hret hgo hfall
  obtain ⟨c, n, i, f, b, o, u, rfl, hi, hf, hn, hW, ht, hA⟩ := hJ
  obtain ⟨L, l, av, ahead, dol, mark⟩ := c
  obtain ⟨A, cp, hLL⟩ : ∃ A cp, L = .slice A l.length cp := hW.ol.form
  obtain ⟨A2, cp2, hAA⟩ : ∃ A cp, av = .slice A ahead.length cp := hW.oa.form
  subst hLL hAA
  have HW := Lib.hid hW
  have HT := Lib.hid ht
  have HA : Hid (afterK (lst s) (words (lst s)) i l ahead mark = allWords (lst s)) := Lib.hid hA
  obtain ⟨q0, q1, q2, q3⟩ := heap3 hW.p5
  have hblk := hW.p2
  clear hW ht hA hfall
  simp only [cutFrame]
  simp only at q0 q1 q2 q3
  obtain ⟨hlt, hT⟩ : i < s.size ∧ upto s i ++ [32] = _ := HT.out
  clear hT
  go_wp2_with (refine wp_store_words _ w0.heap.size _ (.tmp 2) (.tmp 155) rfl rfl hblk rfl rfl _ _ _ rfl rfl ?_)
  · refine hret _ _ (bodyPost_ret (results_words rfl rfl (setRow_heap _ _ _ _ _ _ hblk)) rfl ?_)
    have hb : ((s[i].toNat : Int) != 32) = true := by assumption
    refine HW.out.err _ _ _ _ _ _ (.inl rfl) (by omega) (by omega) ?_
    rw [← HA.out, after_bad _ _ _ (by rw [len_data]; omega) (fun e => by rw [at_some hlt] at e; injection e with e; rw [e] at hb; cases hb)]
  · have hb : ((s[i].toNat : Int) != 32) = false := by assumption
    refine wp_goto (hgo 0 _ _ (cutJ_of ⟨.slice A l.length cp, l, .slice A2 ahead.length cp2, ahead, dol, mark⟩ n (i + 1) f b o rfl (by omega) hf hn HW.out ?_ ?_) ?_)
    · have hT := HT.out.2
      have hx : s[i] = 32 := byte_eq (k := 32) (by simpa using hb) (by decide)
      show upto s (i + 1) = _
      rw [upto_succ hlt, hx]
      exact hT
    · have hx : s[i] = 32 := byte_eq (k := 32) (by simpa using hb) (by decide)
      exact (after_blank _ _ _ (by rw [at_some hlt, hx])).symm.trans HA.out
    · rw [cutM_at]
      show 8 * (s.size - (i + 1)) + 6 < 8 * (s.size - i) + 3
      omega
end Go.Proofs.YtpipcpjkfgdpcaaDoor
