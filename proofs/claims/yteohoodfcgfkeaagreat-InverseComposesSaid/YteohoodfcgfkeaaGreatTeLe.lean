/- A term in memory of its own, one of whose rows has grown. No condition. -/
import Derived.Test.YteohoodfcgfkeaaGreatTeLc
import Derived.Test.YteohoodfcgfkeaaGreatTeLa
namespace Go.Proofs.YteohoodfcgfkeaaGreat
open Go.RowKit

theorem OwnT.parts {w : World} {B : Nat} {t : Tm} {r : Rt} (h : OwnT w B t r) : RowOwn w B TIn 1 r.s (intVals t.sh) ∧ RowOwn w B TI6 1 r.a (intVals t.at_) ∧ RowOwn w B TTm 6 r.k (rtCellsL t.kids r.kids) ∧ t.kids.length = r.kids.length ∧ OwnL w B t.kids r.kids := by
  cases t; cases r
  simp only [OwnT] at h
  exact h
theorem top_apart {r : Rt} (h : (topBlks r).Nodup) : (∀ g, r.s.val.ownBlock = some g → r.a.val.ownBlock ≠ some g ∧ r.k.val.ownBlock ≠ some g ∧ g ∉ blksL r.kids) ∧ (∀ g, r.a.val.ownBlock = some g → r.k.val.ownBlock ≠ some g ∧ g ∉ blksL r.kids) ∧ (∀ g, r.k.val.ownBlock = some g → g ∉ blksL r.kids) := by
  unfold topBlks at h
  obtain ⟨h1, _, h2⟩ := List.nodup_append.1 h
  obtain ⟨h3, _, h4⟩ := List.nodup_append.1 h1
  obtain ⟨_, _, h5⟩ := List.nodup_append.1 h3
  refine ⟨fun g hg => ⟨fun e => ?_, fun e => ?_, fun e => ?_⟩, fun g hg => ⟨fun e => ?_, fun e => ?_⟩, fun g hg e => ?_⟩
  · exact h5 g (Option.mem_toList.2 hg) g (Option.mem_toList.2 e) rfl
  · exact h4 g (List.mem_append_left _ (Option.mem_toList.2 hg)) g (Option.mem_toList.2 e) rfl
  · exact h2 g (List.mem_append_left _ (List.mem_append_left _ (Option.mem_toList.2 hg))) g e rfl
  · exact h4 g (List.mem_append_right _ (Option.mem_toList.2 hg)) g (Option.mem_toList.2 e) rfl
  · exact h2 g (List.mem_append_left _ (List.mem_append_right _ (Option.mem_toList.2 hg))) g e rfl
  · exact h2 g (List.mem_append_right _ (Option.mem_toList.2 hg)) g e rfl
section
variable {w w' : World} {B m : Nat} {t : Tm} {r : Rt} {q : Rw}
theorem own_more_at {x : Int} (ho : OwnT w B t r) (hn : (topBlks r).Nodup) (hgr : w.grownBy w' r.a.val.ownBlock) (hq : w'.ownsRow B TI6 1 q.val m (intVals (t.at_ ++ [x]))) : OwnT w' B (.mk t.kind t.text t.n t.sh (t.at_ ++ [x]) t.kids) (.mk r.s q r.k r.kids) := by
  obtain ⟨h1, h2, h3, h4, h5⟩ := ho.parts
  obtain ⟨n1, n2, n3⟩ := top_apart hn
  refine OwnT.mk_ (h1.kept fun g hg => hgr.block g ?_ fun e => ?_) (row_ours hq).2 (h3.kept fun g hg => hgr.block g ?_ fun e => ?_) h4 (h5.kept fun g hg => hgr.block g ?_ fun e => ?_)
  · obtain ⟨_, cur, hc⟩ := h1.blk_lt hg; exact heap_lt hc
  · exact (n1 g (blk_own hg)).1 e.symm
  · obtain ⟨_, cur, hc⟩ := h3.blk_lt hg; exact heap_lt hc
  · exact (n2 g e.symm).1 (blk_own hg)
  · exact (h5.blk g hg).2
  · exact (n2 g e.symm).2 hg
theorem own_more_sh {x : Int} (ho : OwnT w B t r) (hn : (topBlks r).Nodup) (hgr : w.grownBy w' r.s.val.ownBlock) (hq : w'.ownsRow B TIn 1 q.val m (intVals (t.sh ++ [x]))) : OwnT w' B (.mk t.kind t.text t.n (t.sh ++ [x]) t.at_ t.kids) (.mk q r.a r.k r.kids) := by
  obtain ⟨h1, h2, h3, h4, h5⟩ := ho.parts
  obtain ⟨n1, n2, n3⟩ := top_apart hn
  refine OwnT.mk_ (row_ours hq).2 (h2.kept fun g hg => hgr.block g ?_ fun e => ?_) (h3.kept fun g hg => hgr.block g ?_ fun e => ?_) h4 (h5.kept fun g hg => hgr.block g ?_ fun e => ?_)
  · obtain ⟨_, cur, hc⟩ := h2.blk_lt hg; exact heap_lt hc
  · exact (n1 g e.symm).1 (blk_own hg)
  · obtain ⟨_, cur, hc⟩ := h3.blk_lt hg; exact heap_lt hc
  · exact (n1 g e.symm).2.1 (blk_own hg)
  · exact (h5.blk g hg).2
  · exact (n1 g e.symm).2.2 hg
theorem own_more_kid {x : Int} (ho : OwnT w B t r) (hn : (topBlks r).Nodup) (hgr : w.grownBy w' r.k.val.ownBlock) (hq : w'.ownsRow B TTm 6 q.val m (rtCellsL t.kids r.kids ++ rtCells (.mk x ⟨#[]⟩ 0 [] [] []) (.mk nil0 nil0 nil0 []))) : OwnT w' B (.mk t.kind t.text t.n t.sh t.at_ (t.kids ++ [.mk x ⟨#[]⟩ 0 [] [] []])) (.mk r.s r.a q (r.kids ++ [.mk nil0 nil0 nil0 []])) := by
  obtain ⟨h1, h2, h3, h4, h5⟩ := ho.parts
  obtain ⟨n1, n2, n3⟩ := top_apart hn
  refine OwnT.mk_ (h1.kept fun g hg => hgr.block g ?_ fun e => ?_) (h2.kept fun g hg => hgr.block g ?_ fun e => ?_) ?_ (show (t.kids ++ [_]).length = (r.kids ++ [_]).length by rw [List.length_append, List.length_append, h4]; rfl) ((h5.kept fun g hg => hgr.block g ?_ fun e => ?_).app ?_)
  · obtain ⟨_, cur, hc⟩ := h1.blk_lt hg; exact heap_lt hc
  · exact (n1 g (blk_own hg)).2.1 e.symm
  · obtain ⟨_, cur, hc⟩ := h2.blk_lt hg; exact heap_lt hc
  · exact (n2 g (blk_own hg)).1 e.symm
  · show RowOwn w' B TTm 6 q (rtCellsL (t.kids ++ [_]) (r.kids ++ [_]))
    rw [rtCellsL_app h4]
    simp only [rtCellsL, List.append_nil]
    exact (row_ours hq).2
  · exact (h5.blk g hg).2
  · exact n3 g e.symm hg
  · simp only [OwnL, OwnT, rtCellsL, and_true, List.length_nil]
    exact ⟨⟨rfl, .inl ⟨rfl, rfl⟩⟩, ⟨rfl, .inl ⟨rfl, rfl⟩⟩, ⟨rfl, .inl ⟨rfl, rfl⟩⟩⟩
end
theorem chg0 (n : Int) (t : Tm) : chgT 0 n t = .mk 99 t.text t.n t.sh t.at_ t.kids := by cases t; rfl
theorem chg1 (n : Int) (t : Tm) : chgT 1 n t = .mk t.kind t.text n t.sh t.at_ t.kids := by cases t; rfl
theorem chg2 (n : Int) (t : Tm) : chgT 2 n t = .mk t.kind (t.text ++ ⟨#[63]⟩) t.n t.sh t.at_ t.kids := by cases t; rfl
theorem chg3 (n : Int) (t : Tm) : chgT 3 n t = .mk t.kind t.text t.n t.sh (t.at_ ++ [n]) t.kids := by cases t; rfl
theorem chg4 (n : Int) (t : Tm) : chgT 4 n t = .mk t.kind t.text t.n t.sh t.at_ (t.kids ++ [.mk n ⟨#[]⟩ 0 [] [] []]) := by cases t; rfl
theorem chg5 (n : Int) (t : Tm) : chgT 5 n t = .mk t.kind t.text t.n (t.sh ++ [1]) t.at_ t.kids := by cases t; rfl
theorem chg_own {w : World} {B : Nat} {t : Tm} {r : Rt} {n : Int} {m : Nat} (hm : m = 0 ∨ m = 1 ∨ m = 2) (h : OwnT w B t r) : OwnT w B (chgT m n t) r := by
  obtain ⟨h1, h2, h3, h4, h5⟩ := h.parts
  cases r
  rcases hm with rfl | rfl | rfl
  · rw [chg0]; exact OwnT.mk_ h1 h2 h3 h4 h5
  · rw [chg1]; exact OwnT.mk_ h1 h2 h3 h4 h5
  · rw [chg2]; exact OwnT.mk_ h1 h2 h3 h4 h5
/-- what stands behind the change: the changed term's cells, its rows -/
def TurnAt (w0 w : World) (D B : Nat) (u : Tm) : Prop := ∃ r : Rt, w.heap[D]? = some (.cells (rtCells u r).toArray TTm (0, 0)) ∧ OwnT w B u r ∧ Below w0.heap.size w0 w
theorem TurnAt.cells {w0 w : World} {D B : Nat} {u : Tm} (h : TurnAt w0 w D B u) : ∃ A ca B' cb K ck, w.heap[D]? = some (.cells (tmCells u A ca B' cb K ck) TTm (0, 0)) ∧ TmAt w u A B' K ∧ Below w0.heap.size w0 w := by
  obtain ⟨r, h1, h2, h3⟩ := h
  obtain ⟨k, f1, f2, f3⟩ := h2.read
  refine ⟨r.s.p, r.s.c, r.a.p, r.a.c, r.k.p, r.k.c, ?_, k, h3⟩
  rw [h1]
  unfold rtCells tmCells
  rw [← f1, ← f2, ← f3]
/-- a cell of the term's own block is written -/
theorem TurnAt.put {w0 w : World} {D B : Nat} {u : Tm} {r : Rt} {j : Nat} {v : Value} {cs : Array Value} (hd : w.heap[D]? = some (.cells cs TTm (0, 0))) (ho : OwnT w B u r) (hb : Below w0.heap.size w0 w) (h0 : w0.heap.size ≤ D) (hB : D < B) (he : cs.setIfInBounds j v = (rtCells u r).toArray) : TurnAt w0 (w.setCell ⟨D, j, none⟩ v) D B u := by
  refine ⟨r, ?_, ho.kept fun g hg => Below.heap_setCell _ _ _ _ (by have := (ho.blk g hg).1; show g ≠ D; omega), hb.setCell h0 _⟩
  rw [Go.heap_setCell_same _ _ j _ TTm v hd]
  first
  | rw [he]
  | rw [← he]; simp
end Go.Proofs.YteohoodfcgfkeaaGreat
