/- abacuslaw13.(*Shelf).Keep: terms more on a shelf. Condition: sizes within reach. -/
import Derived.Test.YtkdejffhdhcocaaGreatTeJ4
import Derived.Test.YtkdejffhdhcocaaGreatTeD3
import Derived.Deep.AppendLies
import Derived.Deep.Cut
import Derived.Deep.CutRange
import Derived.Deep.RegionWith
import Derived.Deep.RegionLaw
namespace Go.Proofs.YtkdejffhdhcocaaGreat
open Go.RowKit

theorem set_far {α : Type _} (xs ys : List α) (n o : Nat) (v : α) (hn : xs.length = n) : (xs ++ ys).set (n + o) v = xs ++ ys.set o v := by
  subst hn
  rw [List.set_append_right _ _ (by omega)]
  congr 2
  omega
theorem own_six {w : World} {B g n cap : Nat} {xs : List Value} {z0 z1 z2 z3 z4 z5 : Value} (h : w.ownsRow B TTm 6 (.slice (some ⟨g, 0, none⟩) (n + 1) cap) (n + 1) (xs ++ [z0, z1, z2, z3, z4, z5])) (hx : xs.length = n * 6) (v0 v1 v2 v3 v4 v5 : Value) :
    (sixW w g (n * 6) v0 v1 v2 v3 v4 v5).ownsRow B TTm 6 (.slice (some ⟨g, 0, none⟩) (n + 1) cap) (n + 1) (xs ++ [v0, v1, v2, v3, v4, v5]) := by
  have h0 := (World.ownsRow.stored h (n * 6) v0).1
  rw [show n * 6 = n * 6 + 0 from rfl, set_far _ _ _ _ _ hx] at h0
  have h1 := (World.ownsRow.stored h0 (n * 6 + 1) v1).1
  rw [set_far _ _ _ _ _ hx] at h1
  have h2 := (World.ownsRow.stored h1 (n * 6 + 2) v2).1
  rw [set_far _ _ _ _ _ hx] at h2
  have h3 := (World.ownsRow.stored h2 (n * 6 + 3) v3).1
  rw [set_far _ _ _ _ _ hx] at h3
  have h4 := (World.ownsRow.stored h3 (n * 6 + 4) v4).1
  rw [set_far _ _ _ _ _ hx] at h4
  have h5 := (World.ownsRow.stored h4 (n * 6 + 5) v5).1
  rw [set_far _ _ _ _ _ hx] at h5
  exact h5
theorem six_far (w : World) (g o : Nat) (v0 v1 v2 v3 v4 v5 : Value) {x : Nat} (hx : x ≠ g) : (sixW w g o v0 v1 v2 v3 v4 v5).heap[x]? = w.heap[x]? := by
  unfold sixW
  rw [Below.heap_setCell _ _ _ _ hx, Below.heap_setCell _ _ _ _ hx, Below.heap_setCell _ _ _ _ hx, Below.heap_setCell _ _ _ _ hx, Below.heap_setCell _ _ _ _ hx, Below.heap_setCell _ _ _ _ hx]
theorem grown_six {w w' : World} {row : Option Nat} {g : Nat} (h : w.grownBy w' row) (hor : row = some g ∨ g = w.heap.size) (o : Nat) (v0 v1 v2 v3 v4 v5 : Value) : w.grownBy (sixW w' g o v0 v1 v2 v3 v4 v5) row := by
  have hs : ∀ (W : World) (a : Addr) (v : Value), (W.setCell a v).heap.size = W.heap.size := fun W a v => by simp [World.setCell]
  have h1 : ∀ (W : World) (a : Addr) (v : Value), (W.setCell a v).os = W.os := fun W a v => rfl
  have h2 : ∀ (W : World) (a : Addr) (v : Value), (W.setCell a v).tape = W.tape := fun W a v => rfl
  have h3 : ∀ (W : World) (a : Addr) (v : Value), (W.setCell a v).output = W.output := fun W a v => rfl
  refine ⟨by unfold sixW; rw [h1, h1, h1, h1, h1, h1]; exact h.os, by unfold sixW; rw [h2, h2, h2, h2, h2, h2]; exact h.tape, by unfold sixW; rw [h3, h3, h3, h3, h3, h3]; exact h.output, by unfold sixW; rw [hs, hs, hs, hs, hs, hs]; exact h.size, fun k hk hn => ?_⟩
  have hx : k ≠ g := fun e => by
    subst e
    rcases hor with hor | hor
    · exact hn hor.symm
    · omega
  exact (six_far w' g o v0 v1 v2 v3 v4 v5 hx).trans (h.block k hk hn)
/-- what a row holds behind an append of an empty term, cell by cell -/
theorem own_zero {w : World} {B g n cap : Nat} {xs : List Value} (h : w.ownsRow B TTm 6 (.slice (some ⟨g, 0, none⟩) (n + 1) cap) (n + 1) (xs ++ tm0.toList)) (hx : xs.length = n * 6) :
    ∀ o, o < 6 → ∃ u, w.cell? ⟨g, n * 6 + o, none⟩ = some u := fun o ho => by
  obtain ⟨u, hu⟩ : ∃ u, (xs ++ tm0.toList)[n * 6 + o]? = some u := ⟨_, List.getElem?_eq_getElem (by simp; omega)⟩
  obtain ⟨g', e, _, h2⟩ := own_cell h hu (by omega)
  simp only [Option.some.injEq, Addr.mk.injEq, and_true] at e
  exact ⟨u, e ▸ h2⟩

abbrev sixT (w : World) (g n : Nat) (t : Tm) (r : Rt) : World := sixW w g (n * 6) (.int .i64 t.kind) (.string t.text) (.int .i64 t.n) (.slice r.s.p r.s.n r.s.c) (.slice r.a.p r.a.n r.a.c) (.slice r.k.p r.k.n r.k.c)
section
variable {w wc W1 w' : World} {B ps g cap : Nat} {Q Q' : Nat → Prop} {ta tu : List Tm} {rs us : List Rt} {va vu : Value} {n : Int} {t : Tm} {r : Rt} {L : List Nat}
/-- a term more among those that are kept -/
theorem ShE.moreA (h : ShE wc B ps Q' ta tu rs us va vu n) (hb : Below wc.heap.size wc W1) (ho : OwnT W1 B t r) (hnd : (blksT r).Nodup) (hf : FreeS Q' va vu rs us (blksT r)) (hQn : ∀ x, wc.heap.size ≤ x → Q' x) (hfit : WfT t ∧ greatT t = false)
    (hown : w'.ownsRow B TTm 6 (.slice (some ⟨g, 0, none⟩) (ta.length + 1) cap) (ta.length + 1) (rtCellsL ta rs ++ tm0.toList)) (hgr : W1.grownBy w' va.ownBlock) (hor : va.ownBlock = some g ∨ g = W1.heap.size) :
    ShE ((sixT w' g ta.length t r).setCell ⟨ps, 0, none⟩ (.slice (some ⟨g, 0, none⟩) (ta.length + 1) cap)) B ps Q' (ta ++ [t]) tu (rs ++ [r]) us (.slice (some ⟨g, 0, none⟩) (ta.length + 1) cap) vu n := by
  refine (h.below hb).addA (grown_six hgr hor _ _ _ _ _ _ _) (own_six hown (rtCellsL_len h.la.len) _ _ _ _ _ _) ?_ ho hnd hf (hQn _ hb.size) hfit
  rcases hor with e | e
  · exact .inl e.symm
  · exact .inr (by rw [← e]; rfl)
theorem ShE.moreU (h : ShE wc B ps Q' ta tu rs us va vu n) (hb : Below wc.heap.size wc W1) (ho : OwnT W1 B t r) (hnd : (blksT r).Nodup) (hf : FreeS Q' va vu rs us (blksT r)) (hQn : ∀ x, wc.heap.size ≤ x → Q' x)
    (hown : w'.ownsRow B TTm 6 (.slice (some ⟨g, 0, none⟩) (tu.length + 1) cap) (tu.length + 1) (rtCellsL tu us ++ tm0.toList)) (hgr : W1.grownBy w' vu.ownBlock) (hor : vu.ownBlock = some g ∨ g = W1.heap.size) :
    ShE ((sixT w' g tu.length t r).setCell ⟨ps, 1, none⟩ (.slice (some ⟨g, 0, none⟩) (tu.length + 1) cap)) B ps Q' ta (tu ++ [t]) rs (us ++ [r]) va (.slice (some ⟨g, 0, none⟩) (tu.length + 1) cap) n := by
  refine (h.below hb).addU (grown_six hgr hor _ _ _ _ _ _ _) (own_six hown (rtCellsL_len h.lu.len) _ _ _ _ _ _) ?_ ho hnd hf (hQn _ hb.size)
  rcases hor with e | e
  · exact .inl e.symm
  · exact .inr (by rw [← e]; rfl)
/-- nothing else turns -/
theorem only_more (h : OnlyP Q w wc) (hb : Below wc.heap.size wc W1) (hp : Q ps) {v : Value} (hq : ∀ x, v.ownBlock = some x → x < w.heap.size → Q x) (hgr : W1.grownBy w' v.ownBlock) (hor : v.ownBlock = some g ∨ g = W1.heap.size) (m k : Nat) (u : Value) :
    OnlyP Q w ((sixT w' g m t r).setCell ⟨ps, k, none⟩ u) :=
  ((h.below hb).grown (grown_six hgr hor _ _ _ _ _ _ _) hq).set _ _ fun _ => hp
/-- what is free stays free -/
theorem FreeS.moreA (h : FreeS Q' va vu rs us L) (hL : ∀ x ∈ L, x < W1.heap.size ∧ x ∉ blksT r) (hor : va.ownBlock = some g ∨ g = W1.heap.size) {m c : Nat} : FreeS Q' (.slice (some ⟨g, 0, none⟩) m c) vu (rs ++ [r]) us L := fun x hx => by
  obtain ⟨h1, h2, h3, h4, h5⟩ := h x hx
  refine ⟨h1, fun e => ?_, h3, ?_, h5⟩
  · simp only [Value.ownBlock, Option.some.injEq] at e
    subst e
    rcases hor with e | e
    · exact h2 e
    · have := (hL _ hx).1; omega
  · rw [blksL_app]
    simp only [blksL, List.append_nil, List.mem_append, not_or]
    exact ⟨h4, (hL x hx).2⟩
theorem FreeS.moreU (h : FreeS Q' va vu rs us L) (hL : ∀ x ∈ L, x < W1.heap.size ∧ x ∉ blksT r) (hor : vu.ownBlock = some g ∨ g = W1.heap.size) {m c : Nat} : FreeS Q' va (.slice (some ⟨g, 0, none⟩) m c) rs (us ++ [r]) L := fun x hx => by
  obtain ⟨h1, h2, h3, h4, h5⟩ := h x hx
  refine ⟨h1, h2, fun e => ?_, h4, ?_⟩
  · simp only [Value.ownBlock, Option.some.injEq] at e
    subst e
    rcases hor with e | e
    · exact h3 e
    · have := (hL _ hx).1; omega
  · rw [blksL_app]
    simp only [blksL, List.append_nil, List.mem_append, not_or]
    exact ⟨h5, (hL x hx).2⟩
theorem old_more (hq : ∀ x, va.ownBlock = some x → x < w.heap.size → Q x) (hs : w.heap.size ≤ W1.heap.size) (hor : va.ownBlock = some g ∨ g = W1.heap.size) {m c : Nat} : ∀ x, (Value.slice (some ⟨g, 0, none⟩) m c).ownBlock = some x → x < w.heap.size → Q x := fun x hx hlt => by
  simp only [Value.ownBlock, Option.some.injEq] at hx
  subst hx
  rcases hor with e | e
  · exact hq _ e hlt
  · omega
end
/-- what the walk of Keep knows at a round's head -/
structure KpI (Q Q' : Nat → Prop) (w W : World) (B ps : Nat) (ta tu : List Tm) (rs us : List Rt) (va vu : Value) (n : Int) (L : List Nat) : Prop where
  on : OnlyP Q w W
  sh : ShE W B ps Q' ta tu rs us va vu n
  fr : FreeS Q' va vu rs us L
  qa : ∀ x, va.ownBlock = some x → x < w.heap.size → Q x
  qu : ∀ x, vu.ownBlock = some x → x < w.heap.size → Q x
theorem KpI.below {Q Q' : Nat → Prop} {w W W' : World} {B ps : Nat} {ta tu : List Tm} {rs us : List Rt} {va vu : Value} {n : Int} {L : List Nat} (h : KpI Q Q' w W B ps ta tu rs us va vu n L) (hb : Below W.heap.size W W') : KpI Q Q' w W' B ps ta tu rs us va vu n L := ⟨h.on.below hb, h.sh.below hb, h.fr, h.qa, h.qu⟩
theorem KpI.less {Q Q' : Nat → Prop} {w W : World} {B ps : Nat} {ta tu : List Tm} {rs us : List Rt} {va vu : Value} {n : Int} {L M : List Nat} (h : KpI Q Q' w W B ps ta tu rs us va vu n L) (hM : ∀ x ∈ M, x ∈ L) : KpI Q Q' w W B ps ta tu rs us va vu n M := ⟨h.on, h.sh, fun x hx => h.fr x (hM x hx), h.qa, h.qu⟩
theorem KpI.num {Q Q' : Nat → Prop} {w W : World} {B ps : Nat} {ta tu : List Tm} {rs us : List Rt} {va vu : Value} {n : Int} {L : List Nat} (h : KpI Q Q' w W B ps ta tu rs us va vu n L) (hp : Q ps) (m : Int) : KpI Q Q' w (W.setCell ⟨ps, 2, none⟩ (.int .i64 m)) B ps ta tu rs us va vu m L := ⟨h.on.set _ _ fun _ => hp, h.sh.num m, h.fr, h.qa, h.qu⟩
section
variable {Q Q' : Nat → Prop} {w wc W1 w' : World} {B ps g cap : Nat} {ta tu : List Tm} {rs us : List Rt} {va vu : Value} {n : Int} {t : Tm} {r : Rt} {L : List Nat}
theorem KpI.moreA (h : KpI Q Q' w wc B ps ta tu rs us va vu n (blksT r ++ L)) (hb : Below wc.heap.size wc W1) (ho : OwnT W1 B t r) (hnd : (blksT r).Nodup) (hL : ∀ x ∈ L, x < w.heap.size ∧ x ∉ blksT r) (hQn : ∀ x, w.heap.size ≤ x → Q' x) (hp : Q ps) (hfit : WfT t ∧ greatT t = false)
    (hown : w'.ownsRow B TTm 6 (.slice (some ⟨g, 0, none⟩) (ta.length + 1) cap) (ta.length + 1) (rtCellsL ta rs ++ tm0.toList)) (hgr : W1.grownBy w' va.ownBlock) (hor : va.ownBlock = some g ∨ g = W1.heap.size) :
    KpI Q Q' w ((sixT w' g ta.length t r).setCell ⟨ps, 0, none⟩ (.slice (some ⟨g, 0, none⟩) (ta.length + 1) cap)) B ps (ta ++ [t]) tu (rs ++ [r]) us (.slice (some ⟨g, 0, none⟩) (ta.length + 1) cap) vu n L := by
  have hs : w.heap.size ≤ W1.heap.size := Nat.le_trans h.on.size hb.size
  exact ⟨only_more h.on hb hp h.qa hgr hor _ _ _, h.sh.moreA hb ho hnd (fun x hx => h.fr x (List.mem_append_left _ hx)) (fun x hx => hQn x (Nat.le_trans h.on.size hx)) hfit hown hgr hor,
    FreeS.moreA (fun x hx => h.fr x (List.mem_append_right _ hx)) (fun x hx => ⟨Nat.lt_of_lt_of_le (hL x hx).1 hs, (hL x hx).2⟩) hor, old_more h.qa hs hor, h.qu⟩
theorem KpI.moreU (h : KpI Q Q' w wc B ps ta tu rs us va vu n L) (hb : Below wc.heap.size wc W1) (ho : OwnT W1 wc.heap.size t r) (hB : B ≤ wc.heap.size) (hnd : (blksT r).Nodup) (hL : ∀ x ∈ L, x < w.heap.size) (hQn : ∀ x, w.heap.size ≤ x → Q' x) (hp : Q ps)
    (hown : w'.ownsRow B TTm 6 (.slice (some ⟨g, 0, none⟩) (tu.length + 1) cap) (tu.length + 1) (rtCellsL tu us ++ tm0.toList)) (hgr : W1.grownBy w' vu.ownBlock) (hor : vu.ownBlock = some g ∨ g = W1.heap.size) :
    KpI Q Q' w ((sixT w' g tu.length t r).setCell ⟨ps, 1, none⟩ (.slice (some ⟨g, 0, none⟩) (tu.length + 1) cap)) B ps ta (tu ++ [t]) rs (us ++ [r]) va (.slice (some ⟨g, 0, none⟩) (tu.length + 1) cap) n L := by
  have hs : w.heap.size ≤ W1.heap.size := Nat.le_trans h.on.size hb.size
  have hge : ∀ x ∈ blksT r, wc.heap.size ≤ x := fun x hx => (ho.blk x hx).1
  have hf : FreeS Q' va vu rs us (blksT r) := fun x hx => by
    have h1 := hge x hx
    refine ⟨hQn x (Nat.le_trans h.on.size h1), fun e => ?_, fun e => ?_, fun e => ?_, fun e => ?_⟩
    · have := (h.sh.ra.lt x e).2; omega
    · have := (h.sh.ru.lt x e).2; omega
    · have := (h.sh.la.blk x e).2; omega
    · have := (h.sh.lu.blk x e).2; omega
  exact ⟨only_more h.on hb hp h.qu hgr hor _ _ _, h.sh.moreU hb (ho.mono hB) hnd hf (fun x hx => hQn x (Nat.le_trans h.on.size hx)) hown hgr hor,
    FreeS.moreU h.fr (fun x hx => ⟨Nat.lt_of_lt_of_le (hL x hx) hs, fun e => by have := hge x e; have := hL x hx; have := h.on.size; omega⟩) hor, h.qa, old_more h.qu hs hor⟩
end
theorem setCell_comm (w : World) {b c : Nat} (h : b ≠ c) (i j : Nat) (u v : Value) : (w.setCell ⟨b, i, none⟩ u).setCell ⟨c, j, none⟩ v = (w.setCell ⟨c, j, none⟩ v).setCell ⟨b, i, none⟩ u := by
  unfold World.setCell
  congr 1
  apply Array.ext_getElem?
  intro k
  simp only [Array.getElem?_modify]
  by_cases h1 : c = k
  · by_cases h2 : b = k
    · exact absurd (h2.trans h1.symm) h
    · simp only [if_pos h1, if_neg h2]
  · by_cases h2 : b = k
    · simp only [if_neg h1, if_pos h2]
    · simp only [if_neg h1, if_neg h2]
theorem six_comm (w : World) {g p : Nat} (h : g ≠ p) (o k : Nat) (u v0 v1 v2 v3 v4 v5 : Value) :
    ((((((w.setCell ⟨p, k, none⟩ u).setCell ⟨g, o, none⟩ v0).setCell ⟨g, o + 1, none⟩ v1).setCell ⟨g, o + 2, none⟩ v2).setCell ⟨g, o + 3, none⟩ v3).setCell ⟨g, o + 4, none⟩ v4).setCell ⟨g, o + 5, none⟩ v5 = (sixW w g o v0 v1 v2 v3 v4 v5).setCell ⟨p, k, none⟩ u := by
  unfold sixW
  rw [setCell_comm w h.symm, setCell_comm _ h.symm, setCell_comm _ h.symm, setCell_comm _ h.symm, setCell_comm _ h.symm, setCell_comm _ h.symm]
end Go.Proofs.YtkdejffhdhcocaaGreat
