/- abacuslaw4: (*Quiet).Keep, (*Quiet).Untouched. Condition: sizes within reach. -/
import Derived.Test.YtpipcpjkfgdpcaaDoorShFr5
import Derived.BigRegion
namespace Go.Proofs.YtpipcpjkfgdpcaaDoor
open Go.RowKit

/-- what is kept to the end: the arrays answered, and what was wanted -/
structure QuietAt (w : World) (B pq : Nat) (gv wv : Value) (mu : Nat) (its : List Item) : Prop where
  bk : w.heap[pq]? = some (.cells #[gv, wv, .int .i64 mu] TQ (0, 0))
  og : w.ownsRow B TAr 2 gv its.length (arrVals (its.map Item.got))
  ow : w.ownsRow B TAr 2 wv its.length (arrVals (its.map Item.want))
  ap : ∀ k, gv.ownBlock = some k → wv.ownBlock ≠ some k
theorem QuietAt.kept {w w' : World} {B pq mu : Nat} {gv wv : Value} {its : List Item} (h : QuietAt w B pq gv wv mu its) (hp : w'.heap[pq]? = w.heap[pq]?) (hg : ∀ k, gv.ownBlock = some k → w'.heap[k]? = w.heap[k]?) (hw : ∀ k, wv.ownBlock = some k → w'.heap[k]? = w.heap[k]?) : QuietAt w' B pq gv wv mu its :=
  ⟨hp.trans h.bk, own_kept h.og hg, own_kept h.ow hw, h.ap⟩
theorem QuietAt.on {w w' : World} {B pq mu : Nat} {gv wv : Value} {its : List Item} (h : QuietAt w B pq gv wv mu its) (hb : Below w.heap.size w w') : QuietAt w' B pq gv wv mu its :=
  h.kept (hb.block _ (heap_lt h.bk)) (fun k hk => by obtain ⟨c, hc⟩ := own_type h.og k hk; exact hb.block k (heap_lt hc)) (fun k hk => by obtain ⟨c, hc⟩ := own_type h.ow k hk; exact hb.block k (heap_lt hc))
/-- the blocks that Keep writes -/
def QP (pq : Nat) (gv wv : Value) (k : Nat) : Prop := k = pq ∨ some k = gv.ownBlock ∨ some k = wv.ownBlock
theorem info_tar : (Tryd.prog.info? TAr).map (fun i => (i.zero, i.size, i.bytes)) = some (some (.agg #[.slice none 0 0, .slice none 0 0]), 2, 48) := by kernel_rfl
theorem cell_two_at (w : World) (x y : Value) (t : TypeId) : ∀ j u, [x, y][j]? = some u → (w.alloc (.cells #[x, y] t)).cell? ((⟨w.heap.size, 0, none⟩ : Addr).add j) = some u := by
  intro j u h
  match j, h with
  | 0, h => simpa [Addr.add, World.cell?_alloc_new] using h
  | 1, h => simpa [Addr.add, World.cell?_alloc_new] using h
  | j + 2, h => simp at h

/-- Keep, on its way: from W0 on -/
structure K1 (W0 : World) (B pq : Nat) (gv wv : Value) (old its : List Item) (i : Nat) (W : World) (gv' wv' : Value) (mu : Nat) (ks : List Item) : Prop where
  q : QuietAt W B pq gv' wv' mu (old ++ ks)
  sub : ks.Sublist (its.take i)
  on : Only (QP pq gv wv) W0 W
  g_ : gv'.ownBlock = gv.ownBlock ∨ ∃ k, gv'.ownBlock = some k ∧ W0.heap.size ≤ k
  w_ : wv'.ownBlock = wv.ownBlock ∨ ∃ k, wv'.ownBlock = some k ∧ W0.heap.size ≤ k
section
variable {W0 W W' : World} {B pq mu i : Nat} {gv wv gv' wv' v2 : Value} {old its ks : List Item}
theorem K1.count (h : K1 W0 B pq gv wv old its i W gv' wv' mu ks) (mu' : Nat) : K1 W0 B pq gv wv old its i (W.setCell ⟨pq, 2, none⟩ (.int .i64 (mu' : Int))) gv' wv' mu' ks :=
  ⟨⟨by rw [Go.heap_setCell_same W pq 2 _ TQ _ h.q.bk]; rfl, own_set h.q.og h.q.bk (by decide) _ _, own_set h.q.ow h.q.bk (by decide) _ _, h.q.ap⟩, h.sub, h.on.set _ _ (fun _ => .inl rfl), h.g_, h.w_⟩
theorem K1.skip (h : K1 W0 B pq gv wv old its i W gv' wv' mu ks) : K1 W0 B pq gv wv old its (i + 1) W gv' wv' mu ks := ⟨h.q, h.sub.trans (List.take_sublist_take_left (Nat.le_succ i)), h.on, h.g_, h.w_⟩
theorem K1.below (h : K1 W0 B pq gv wv old its i W gv' wv' mu ks) (hb : Below W.heap.size W W') : K1 W0 B pq gv wv old its i W' gv' wv' mu ks := ⟨h.q.on hb, h.sub, h.on.below hb, h.g_, h.w_⟩
end
/-- half of it: the array is put into the list, what was wanted is not yet -/
structure K2 (W0 : World) (B pq : Nat) (gv wv : Value) (old its : List Item) (i : Nat) (W : World) (gv' wv' : Value) (mu : Nat) (ks : List Item) (it : Item) : Prop where
  bk : W.heap[pq]? = some (.cells #[gv', wv', .int .i64 mu] TQ (0, 0))
  og : W.ownsRow B TAr 2 gv' ((old ++ ks).length + 1) (arrVals ((old ++ ks).map Item.got) ++ [it.gs.val, it.ga.val])
  ow : W.ownsRow B TAr 2 wv' (old ++ ks).length (arrVals ((old ++ ks).map Item.want))
  ap : ∀ k, gv'.ownBlock = some k → wv'.ownBlock ≠ some k
  sub : ks.Sublist (its.take i)
  on : Only (QP pq gv wv) W0 W
  g_ : gv'.ownBlock = gv.ownBlock ∨ ∃ k, gv'.ownBlock = some k ∧ W0.heap.size ≤ k
  w_ : wv'.ownBlock = wv.ownBlock ∨ ∃ k, wv'.ownBlock = some k ∧ W0.heap.size ≤ k
section
variable {W0 W W' : World} {B pq mu i : Nat} {gv wv gv' wv' v2 : Value} {old its ks : List Item} {it : Item}
theorem K1.half (h : K1 W0 B pq gv wv old its i W gv' wv' mu ks) (hg : W.grownBy W' gv'.ownBlock) (ho : W'.ownsRow B TAr 2 v2 ((old ++ ks).length + 1) (arrVals ((old ++ ks).map Item.got) ++ [it.gs.val, it.ga.val])) (hv : v2.ownBlock = gv'.ownBlock ∨ v2.ownBlock = some W.heap.size) :
    K2 W0 B pq gv wv old its i (W'.setCell ⟨pq, 0, none⟩ v2) v2 wv' mu ks it := by
  have hq : W'.heap[pq]? = _ := (hg.block pq (heap_lt h.q.bk) (fun e => by obtain ⟨c, hc⟩ := own_type h.q.og pq e.symm; exact absurd (types_apart hc h.q.bk) (by decide))).trans h.q.bk
  have how : W'.ownsRow B TAr 2 wv' (old ++ ks).length (arrVals ((old ++ ks).map Item.want)) := own_kept h.q.ow fun k hk => by
    obtain ⟨c, hc⟩ := own_type h.q.ow k hk
    exact hg.block k (heap_lt hc) (fun e => h.q.ap k e.symm hk)
  refine ⟨by rw [Go.heap_setCell_same W' pq 0 _ TQ _ hq]; rfl, own_set ho hq (by decide) _ _, own_set how hq (by decide) _ _, fun k hk hw => ?_, h.sub, (h.on.grown hg fun k hk hlt => ?_).set _ _ (fun _ => .inl rfl), ?_, h.w_⟩
  · rcases hv with hv | hv
    · exact h.q.ap k (hv.symm.trans hk) hw
    · rw [hv] at hk
      injection hk with hk
      obtain ⟨c, hc⟩ := own_type h.q.ow k hw
      have := heap_lt hc
      omega
  · rcases h.g_ with h0 | ⟨k', h1, h2⟩
    · exact .inr (.inl (hk.symm.trans h0))
    · rw [hk] at h1; injection h1 with h1; omega
  · rcases hv with hv | hv
    · rcases h.g_ with h0 | ⟨k', h1, h2⟩
      · exact .inl (hv.trans h0)
      · exact .inr ⟨k', hv.trans h1, h2⟩
    · exact .inr ⟨_, hv, h.on.size⟩
theorem K2.below (h : K2 W0 B pq gv wv old its i W gv' wv' mu ks it) (hb : Below W.heap.size W W') : K2 W0 B pq gv wv old its i W' gv' wv' mu ks it :=
  ⟨(hb.block _ (heap_lt h.bk)).trans h.bk, own_on h.og hb, own_on h.ow hb, h.ap, h.sub, h.on.below hb, h.g_, h.w_⟩
theorem arrVals_snoc (l : List (Rw × Rw)) (p : Rw × Rw) : arrVals (l ++ [p]) = arrVals l ++ [p.1.val, p.2.val] := by simp [arrVals]
theorem K2.full (h : K2 W0 B pq gv wv old its i W gv' wv' mu ks it) (hi : its[i]? = some it) (hg : W.grownBy W' wv'.ownBlock) (ho : W'.ownsRow B TAr 2 v2 ((old ++ ks).length + 1) (arrVals ((old ++ ks).map Item.want) ++ [it.ws.val, it.wa.val])) (hv : v2.ownBlock = wv'.ownBlock ∨ v2.ownBlock = some W.heap.size) :
    K1 W0 B pq gv wv old its (i + 1) (W'.setCell ⟨pq, 1, none⟩ v2) gv' v2 mu (ks ++ [it]) := by
  have hq : W'.heap[pq]? = _ := (hg.block pq (heap_lt h.bk) (fun e => by obtain ⟨c, hc⟩ := own_type h.ow pq e.symm; exact absurd (types_apart hc h.bk) (by decide))).trans h.bk
  have hog : W'.ownsRow B TAr 2 gv' ((old ++ ks).length + 1) (arrVals ((old ++ ks).map Item.got) ++ [it.gs.val, it.ga.val]) := own_kept h.og fun k hk => by
    obtain ⟨c, hc⟩ := own_type h.og k hk
    exact hg.block k (heap_lt hc) (fun e => h.ap k hk e.symm)
  have e1 : (old ++ (ks ++ [it])).length = (old ++ ks).length + 1 := by simp; omega
  have e2 : ∀ f : Item → Rw × Rw, arrVals ((old ++ (ks ++ [it])).map f) = arrVals ((old ++ ks).map f) ++ [(f it).1.val, (f it).2.val] := fun f => by rw [← List.append_assoc, List.map_append, List.map_cons, List.map_nil, arrVals_snoc]
  refine ⟨⟨by rw [Go.heap_setCell_same W' pq 1 _ TQ _ hq]; rfl, ?_, ?_, fun k hk hw => ?_⟩, ?_, (h.on.grown hg fun k hk hlt => ?_).set _ _ (fun _ => .inl rfl), h.g_, ?_⟩
  · rw [e1, e2]; exact own_set hog hq (by decide) _ _
  · rw [e1, e2]; exact own_set ho hq (by decide) _ _
  · rcases hv with hv | hv
    · exact h.ap k hk (hv.symm.trans hw)
    · rw [hv] at hw
      injection hw with hw
      obtain ⟨c, hc⟩ := own_type h.og k hk
      have := heap_lt hc
      omega
  · obtain ⟨hl, rfl⟩ := List.getElem?_eq_some_iff.1 hi
    rw [← List.take_append_getElem hl]
    exact h.sub.append (List.Sublist.refl _)
  · rcases h.w_ with h0 | ⟨k', h1, h2⟩
    · exact .inr (.inr (hk.symm.trans h0))
    · rw [hk] at h1; injection h1 with h1; omega
  · rcases hv with hv | hv
    · rcases h.w_ with h0 | ⟨k', h1, h2⟩
      · exact .inl (hv.trans h0)
      · exact .inr ⟨k', hv.trans h1, h2⟩
    · exact .inr ⟨_, hv, h.on.size⟩
end
end Go.Proofs.YtpipcpjkfgdpcaaDoor
