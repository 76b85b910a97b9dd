/- show.cut behind its label 'end'. No condition. -/
import Derived.Test.YtpipcpjkfgdpcaaDoorShCut0
namespace Go.Proofs.YtpipcpjkfgdpcaaDoor
open Go.RowKit

set_option maxHeartbeats 4000000 in
set_option maxRecDepth 100000 in
theorem cut_end (s : ByteArray) (w0 : World) (r : Code) (hR : cutAt 1 = some r) (a : Act) (w : World) (hJ : cutJ s w0 1 a w) : CutPasses s w0 (cutM s 1 a w) r a w := by
  have e : cutAt 1 = some _ := rfl
  rw [e] at hR
  cases hR
  intro Q1 hret hgo hfall
  obtain ⟨c, n, i, f, b, o, u, rfl, hi, hf, hn, hW, ht, hA⟩ := hJ
  obtain ⟨L, l, av, ahead, dol, mark⟩ := c
  obtain ⟨A, cp, hLL⟩ : ∃ A cp, L = .slice A l.length cp := hW.ol.form
  obtain ⟨A2, cp2, hAA⟩ : ∃ A cp, av = .slice A ahead.length cp := hW.oa.form
  subst hLL hAA
  have HW := Lib.hid hW
  have HT := Lib.hid ht
  have HA := Lib.hid hA
  obtain ⟨q0, q1, q2, q3⟩ := heap3 hW.p5
  have hblk : (w.setCell ⟨w0.heap.size + 1, 1, none⟩ (.slice A l.length cp)).heap[w0.heap.size]? = _ := (Below.heap_setCell w ⟨w0.heap.size + 1, 1, none⟩ (.slice A l.length cp) w0.heap.size (by simp)).trans hW.p2
  clear hW ht hA hgo hfall hi hf hn
  simp only [cutFrame]
  simp only at q0 q1 q2 q3
  go_wp2_with (refine wp_store_words _ w0.heap.size _ (.tmp 2) (.tmp 161) rfl rfl hblk rfl rfl _ _ _ rfl rfl ?_)
  refine bodyPost_ret (results_words rfl rfl (setRow_heap _ _ _ _ _ _ hblk)) rfl ?_
  have hW := HW.out
  have hT : i = s.size ∧ upto s i ++ [32] = _ := HT.out
  have g1 := grown_cell w (w0.heap.size + 1) 1 (.slice A l.length cp)
  have g2 := grown_row (w.setCell ⟨w0.heap.size + 1, 1, none⟩ (.slice A l.length cp)) w0.heap.size #[.slice A2 ahead.length cp2, .slice A l.length cp, .int .i64 mark]
  refine ⟨.slice A2 ahead.length cp2, .slice A l.length cp, mark, 0, 0, rfl, below_setRow (hW.be.setCell (p := ⟨w0.heap.size + 1, 1, none⟩) (Nat.le_succ _) _) (Nat.le_refl _) _, ⟨_, _, _, rfl⟩, ⟨_, _, _, rfl⟩,
    .inl ⟨rfl, rfl, ⟨.slice A l.length cp, l, .slice A2 ahead.length cp2, ahead, dol, mark⟩, rfl, rfl, rfl, (hW.ol.words g1 hW.p5).words g2 hblk, (hW.oa.words g1 hW.p5).words g2 hblk, hW.ap, hW.al, hW.aa, hW.dol, ?_, HA.out.symm⟩⟩
  have h := hT.2
  rw [hT.1] at h
  rw [← h, upto_all]
end Go.Proofs.YtpipcpjkfgdpcaaDoor
