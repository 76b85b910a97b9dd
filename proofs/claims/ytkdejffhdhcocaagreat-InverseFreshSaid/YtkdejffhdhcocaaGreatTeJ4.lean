/- abacuslaw13.Shelf: terms in memory of their own, and what they were. Plain laws. No condition. -/
import Derived.Test.YtkdejffhdhcocaaGreatTeJ1
namespace Go.Proofs.YtkdejffhdhcocaaGreat
open Go.RowKit

abbrev TShf : TypeId := 32
/-- a shelf: its terms, and copies of them; Q: the blocks that are its own -/
structure ShE (w : World) (B ps : Nat) (Q : Nat → Prop) (ta tu : List Tm) (rs us : List Rt) (va vu : Value) (n : Int) : Prop where
  sh : w.heap[ps]? = some (.cells #[va, vu, .int .i64 n] TShf (0, 0))
  qp : Q ps
  bp : B ≤ ps
  ra : w.ownsRow B TTm 6 va ta.length (rtCellsL ta rs)
  ru : w.ownsRow B TTm 6 vu tu.length (rtCellsL tu us)
  la : OwnL w B ta rs
  lu : OwnL w B tu us
  qa : ∀ x, va.ownBlock = some x → Q x
  qu : ∀ x, vu.ownBlock = some x → Q x
  qra : ∀ x ∈ blksL rs, Q x
  qru : ∀ x ∈ blksL us, Q x
  nd : (blksL rs ++ blksL us).Nodup
  aa : ∀ x, va.ownBlock = some x → x ∉ blksL rs ∧ x ∉ blksL us ∧ vu.ownBlock ≠ some x
  au : ∀ x, vu.ownBlock = some x → x ∉ blksL rs ∧ x ∉ blksL us
  fit : ∀ t ∈ ta, WfT t ∧ greatT t = false
section
variable {w w' : World} {B ps : Nat} {Q Q' : Nat → Prop} {ta tu : List Tm} {rs us : List Rt} {va vu v' : Value} {n : Int}
theorem ShE.kept (h : ShE w B ps Q ta tu rs us va vu n) (hk : ∀ x, Q x → x < w.heap.size → w'.heap[x]? = w.heap[x]?) : ShE w' B ps Q ta tu rs us va vu n :=
  ⟨(hk ps h.qp (heap_lt h.sh)).trans h.sh, h.qp, h.bp, row_keep h.ra fun g hg => hk g (h.qa g hg) (h.ra.lt g hg).2, row_keep h.ru fun g hg => hk g (h.qu g hg) (h.ru.lt g hg).2,
    h.la.kept fun g hg => hk g (h.qra g hg) (h.la.blk g hg).2, h.lu.kept fun g hg => hk g (h.qru g hg) (h.lu.blk g hg).2, h.qa, h.qu, h.qra, h.qru, h.nd, h.aa, h.au, h.fit⟩
theorem ShE.below (h : ShE w B ps Q ta tu rs us va vu n) (hb : Below w.heap.size w w') : ShE w' B ps Q ta tu rs us va vu n := h.kept fun x _ hx => hb.block x hx
theorem ShE.inQ (h : ShE w B ps Q ta tu rs us va vu n) (hQ : ∀ x, Q x → x < w.heap.size → Q' x) : ShE w B ps Q' ta tu rs us va vu n :=
  ⟨h.sh, hQ ps h.qp (heap_lt h.sh), h.bp, h.ra, h.ru, h.la, h.lu, fun g hg => hQ g (h.qa g hg) (h.ra.lt g hg).2, fun g hg => hQ g (h.qu g hg) (h.ru.lt g hg).2,
    fun g hg => hQ g (h.qra g hg) (h.la.blk g hg).2, fun g hg => hQ g (h.qru g hg) (h.lu.blk g hg).2, h.nd, h.aa, h.au, h.fit⟩
theorem ShE.cells (h : ShE w B ps Q ta tu rs us va vu n) : w.cell? ⟨ps, 0, none⟩ = some va ∧ w.cell? ⟨ps, 1, none⟩ = some vu ∧ w.cell? ⟨ps, 2, none⟩ = some (.int .i64 n) ∧ (∀ j, w.frozen? ⟨ps, j, none⟩ = false) ∧ ps < w.heap.size := by
  have hb := h.sh
  exact ⟨cell_at hb rfl, cell_at hb rfl, cell_at hb rfl, unfrozen hb, heap_lt hb⟩
/-- its own cells are none of a row's -/
theorem ShE.apart (h : ShE w B ps Q ta tu rs us va vu n) : va.ownBlock ≠ some ps ∧ vu.ownBlock ≠ some ps ∧ ps ∉ blksL rs ∧ ps ∉ blksL us := by
  refine ⟨fun e => ?_, fun e => ?_, fun e => ?_, fun e => ?_⟩
  · obtain ⟨cur, hc⟩ := row_type' h.ra ps e
    exact absurd (types_apart hc h.sh) (by decide)
  · obtain ⟨cur, hc⟩ := row_type' h.ru ps e
    exact absurd (types_apart hc h.sh) (by decide)
  · obtain ⟨cur, tt, hc, ht⟩ := h.la.blkT ps e
    have := types_apart hc h.sh
    subst this
    rcases ht with ht | ht | ht <;> exact absurd ht (by decide)
  · obtain ⟨cur, tt, hc, ht⟩ := h.lu.blkT ps e
    have := types_apart hc h.sh
    subst this
    rcases ht with ht | ht | ht <;> exact absurd ht (by decide)
/-- one of its own cells is written -/
theorem ShE.num (h : ShE w B ps Q ta tu rs us va vu n) (m : Int) : ShE (w.setCell ⟨ps, 2, none⟩ (.int .i64 m)) B ps Q ta tu rs us va vu m := by
  obtain ⟨a1, a2, a3, a4⟩ := h.apart
  have hk : ∀ g, g ≠ ps → (w.setCell ⟨ps, 2, none⟩ (.int .i64 m)).heap[g]? = w.heap[g]? := fun g hg => Below.heap_setCell _ _ _ _ hg
  exact ⟨by rw [Go.heap_setCell_same w ps 2 _ TShf _ h.sh]; rfl, h.qp, h.bp, row_keep h.ra fun g hg => hk g fun e => a1 (by rw [← e]; exact hg), row_keep h.ru fun g hg => hk g fun e => a2 (by rw [← e]; exact hg),
    h.la.kept fun g hg => hk g fun e => a3 (by rw [← e]; exact hg), h.lu.kept fun g hg => hk g fun e => a4 (by rw [← e]; exact hg), h.qa, h.qu, h.qra, h.qru, h.nd, h.aa, h.au, h.fit⟩
/-- the blocks of a term are not the shelf's yet, but may be -/
def FreeS (Q : Nat → Prop) (va vu : Value) (rs us : List Rt) (l : List Nat) : Prop := ∀ x ∈ l, Q x ∧ va.ownBlock ≠ some x ∧ vu.ownBlock ≠ some x ∧ x ∉ blksL rs ∧ x ∉ blksL us
theorem ShE.addA {t : Tm} {r : Rt} {W : World} (h : ShE w B ps Q ta tu rs us va vu n) (hg : w.grownBy W va.ownBlock) (hown : W.ownsRow B TTm 6 v' (ta.length + 1) (rtCellsL ta rs ++ rtCells t r)) (hor : v'.ownBlock = va.ownBlock ∨ v'.ownBlock = some w.heap.size)
    (ho : OwnT w B t r) (hnd : (blksT r).Nodup) (hf : FreeS Q va vu rs us (blksT r)) (hq : Q w.heap.size) (hfit : WfT t ∧ greatT t = false) : ShE (W.setCell ⟨ps, 0, none⟩ v') B ps Q (ta ++ [t]) tu (rs ++ [r]) us v' vu n := by
  obtain ⟨a1, a2, a3, a4⟩ := h.apart
  have hps := heap_lt h.sh
  have hW : W.heap[ps]? = some (.cells #[va, vu, .int .i64 n] TShf (0, 0)) := (hg.block ps hps fun e => a1 e.symm).trans h.sh
  have hk : ∀ g, g < w.heap.size → g ≠ ps → va.ownBlock ≠ some g → (W.setCell ⟨ps, 0, none⟩ v').heap[g]? = w.heap[g]? := fun g h1 h2 h3 => (Below.heap_setCell _ _ _ _ h2).trans (hg.block g h1 fun e => h3 e.symm)
  have hr0 : ps ∉ blksT r := fun e => by
    obtain ⟨cur, tt, hc, ht⟩ := ho.blkT ps e
    have := types_apart hc h.sh
    subst this
    rcases ht with ht | ht | ht <;> exact absurd ht (by decide)
  have hv0 : v'.ownBlock ≠ some ps := fun e => by
    obtain ⟨cur, hc⟩ := row_type' hown ps e
    exact absurd (types_apart hc hW) (by decide)
  have hlen := h.la.len
  have hbl : blksL (rs ++ [r]) = blksL rs ++ blksT r := by rw [blksL_app]; simp only [blksL, List.append_nil]
  have hva : ∀ x, v'.ownBlock = some x → va.ownBlock = some x ∨ x = w.heap.size := fun x hx => by
    rcases hor with e | e
    · exact .inl (e.symm.trans hx)
    · exact .inr (Option.some.inj (hx.symm.trans e))
  refine ⟨?_, h.qp, h.bp, ?_, ?_, ?_, ?_, ?_, h.qu, ?_, h.qru, ?_, ?_, ?_, ?_⟩
  · rw [Go.heap_setCell_same W ps 0 _ TShf _ hW]; rfl
  · rw [rtCellsL_app hlen, List.length_append]
    simp only [rtCellsL, List.append_nil, List.length_singleton]
    exact row_keep hown fun g hg' => Below.heap_setCell _ _ _ _ fun e => hv0 (by rw [← show g = ps from e]; exact hg')
  · exact row_keep h.ru fun g hg' => hk g (h.ru.lt g hg').2 (fun e => a2 (by rw [← e]; exact hg')) fun e => (h.aa g e).2.2 hg'
  · refine OwnL.app (h.la.kept fun g hg' => hk g (h.la.blk g hg').2 (fun e => a3 (by rw [← e]; exact hg')) fun e => (h.aa g e).1 hg') ?_
    simp only [OwnL, and_true]
    exact ho.kept fun g hg' => hk g (ho.blk g hg').2 (fun e => hr0 (by rw [← e]; exact hg')) (hf g hg').2.1
  · exact h.lu.kept fun g hg' => hk g (h.lu.blk g hg').2 (fun e => a4 (by rw [← e]; exact hg')) fun e => (h.aa g e).2.1 hg'
  · intro x hx
    rcases hva x hx with e | rfl
    · exact h.qa x e
    · exact hq
  · intro x hx
    rw [hbl] at hx
    rcases List.mem_append.1 hx with e | e
    · exact h.qra x e
    · exact (hf x e).1
  · rw [hbl]
    obtain ⟨n1, n2, n3⟩ := List.nodup_append.1 h.nd
    refine List.nodup_append.2 ⟨List.nodup_append.2 ⟨n1, hnd, fun a ha b hb e => (hf b hb).2.2.2.1 (e ▸ ha)⟩, n2, fun a ha b hb e => ?_⟩
    rcases List.mem_append.1 ha with ha | ha
    · exact n3 a ha b hb e
    · exact (hf a ha).2.2.2.2 (e ▸ hb)
  · intro x hx
    rw [hbl]
    rcases hva x hx with e | rfl
    · obtain ⟨b1, b2, b3⟩ := h.aa x e
      exact ⟨fun hm => by
        rcases List.mem_append.1 hm with hm | hm
        · exact b1 hm
        · exact (hf x hm).2.1 e, b2, b3⟩
    · refine ⟨fun hm => ?_, fun hm => ?_, fun hm => ?_⟩
      · rcases List.mem_append.1 hm with hm | hm
        · exact absurd (h.la.blk _ hm).2 (Nat.lt_irrefl _)
        · exact absurd (ho.blk _ hm).2 (Nat.lt_irrefl _)
      · exact absurd (h.lu.blk _ hm).2 (Nat.lt_irrefl _)
      · exact absurd (h.ru.lt _ hm).2 (Nat.lt_irrefl _)
  · intro x hx
    rw [hbl]
    obtain ⟨b1, b2⟩ := h.au x hx
    refine ⟨fun hm => ?_, b2⟩
    rcases List.mem_append.1 hm with hm | hm
    · exact b1 hm
    · exact (hf x hm).2.2.1 hx
  · intro x hx
    rcases List.mem_append.1 hx with hx | hx
    · exact h.fit x hx
    · obtain rfl := List.mem_singleton.1 hx
      exact hfit
theorem ShE.addU {t : Tm} {r : Rt} {W : World} (h : ShE w B ps Q ta tu rs us va vu n) (hg : w.grownBy W vu.ownBlock) (hown : W.ownsRow B TTm 6 v' (tu.length + 1) (rtCellsL tu us ++ rtCells t r)) (hor : v'.ownBlock = vu.ownBlock ∨ v'.ownBlock = some w.heap.size)
    (ho : OwnT w B t r) (hnd : (blksT r).Nodup) (hf : FreeS Q va vu rs us (blksT r)) (hq : Q w.heap.size) : ShE (W.setCell ⟨ps, 1, none⟩ v') B ps Q ta (tu ++ [t]) rs (us ++ [r]) va v' n := by
  obtain ⟨a1, a2, a3, a4⟩ := h.apart
  have hps := heap_lt h.sh
  have hW : W.heap[ps]? = some (.cells #[va, vu, .int .i64 n] TShf (0, 0)) := (hg.block ps hps fun e => a2 e.symm).trans h.sh
  have hk : ∀ g, g < w.heap.size → g ≠ ps → vu.ownBlock ≠ some g → (W.setCell ⟨ps, 1, none⟩ v').heap[g]? = w.heap[g]? := fun g h1 h2 h3 => (Below.heap_setCell _ _ _ _ h2).trans (hg.block g h1 fun e => h3 e.symm)
  have hr0 : ps ∉ blksT r := fun e => by
    obtain ⟨cur, tt, hc, ht⟩ := ho.blkT ps e
    have := types_apart hc h.sh
    subst this
    rcases ht with ht | ht | ht <;> exact absurd ht (by decide)
  have hv0 : v'.ownBlock ≠ some ps := fun e => by
    obtain ⟨cur, hc⟩ := row_type' hown ps e
    exact absurd (types_apart hc hW) (by decide)
  have hlen := h.lu.len
  have hbl : blksL (us ++ [r]) = blksL us ++ blksT r := by rw [blksL_app]; simp only [blksL, List.append_nil]
  have hva : ∀ x, v'.ownBlock = some x → vu.ownBlock = some x ∨ x = w.heap.size := fun x hx => by
    rcases hor with e | e
    · exact .inl (e.symm.trans hx)
    · exact .inr (Option.some.inj (hx.symm.trans e))
  refine ⟨?_, h.qp, h.bp, ?_, ?_, ?_, ?_, h.qa, ?_, h.qra, ?_, ?_, ?_, ?_, h.fit⟩
  · rw [Go.heap_setCell_same W ps 1 _ TShf _ hW]; rfl
  · exact row_keep h.ra fun g hg' => hk g (h.ra.lt g hg').2 (fun e => a1 (by rw [← e]; exact hg')) (h.aa g hg').2.2
  · rw [rtCellsL_app hlen, List.length_append]
    simp only [rtCellsL, List.append_nil, List.length_singleton]
    exact row_keep hown fun g hg' => Below.heap_setCell _ _ _ _ fun e => hv0 (by rw [← show g = ps from e]; exact hg')
  · exact h.la.kept fun g hg' => hk g (h.la.blk g hg').2 (fun e => a3 (by rw [← e]; exact hg')) fun e => (h.au g e).1 hg'
  · refine OwnL.app (h.lu.kept fun g hg' => hk g (h.lu.blk g hg').2 (fun e => a4 (by rw [← e]; exact hg')) fun e => (h.au g e).2 hg') ?_
    simp only [OwnL, and_true]
    exact ho.kept fun g hg' => hk g (ho.blk g hg').2 (fun e => hr0 (by rw [← e]; exact hg')) (hf g hg').2.2.1
  · intro x hx
    rcases hva x hx with e | rfl
    · exact h.qu x e
    · exact hq
  · intro x hx
    rw [hbl] at hx
    rcases List.mem_append.1 hx with e | e
    · exact h.qru x e
    · exact (hf x e).1
  · rw [hbl]
    obtain ⟨n1, n2, n3⟩ := List.nodup_append.1 h.nd
    refine List.nodup_append.2 ⟨n1, List.nodup_append.2 ⟨n2, hnd, fun a ha b hb e => (hf b hb).2.2.2.2 (e ▸ ha)⟩, fun a ha b hb e => ?_⟩
    rcases List.mem_append.1 hb with hb | hb
    · exact n3 a ha b hb e
    · exact (hf b hb).2.2.2.1 (e ▸ ha)
  · intro x hx
    rw [hbl]
    obtain ⟨b1, b2, b3⟩ := h.aa x hx
    refine ⟨b1, fun hm => ?_, fun e => ?_⟩
    · rcases List.mem_append.1 hm with hm | hm
      · exact b2 hm
      · exact (hf x hm).2.1 hx
    · rcases hva x e with e | e
      · exact b3 e
      · have := (h.ra.lt x hx).2
        omega
  · intro x hx
    rw [hbl]
    rcases hva x hx with e | rfl
    · obtain ⟨b1, b2⟩ := h.au x e
      exact ⟨b1, fun hm => by
        rcases List.mem_append.1 hm with hm | hm
        · exact b2 hm
        · exact (hf x hm).2.2.1 e⟩
    · refine ⟨fun hm => ?_, fun hm => ?_⟩
      · exact absurd (h.la.blk _ hm).2 (Nat.lt_irrefl _)
      · rcases List.mem_append.1 hm with hm | hm
        · exact absurd (h.lu.blk _ hm).2 (Nat.lt_irrefl _)
        · exact absurd (ho.blk _ hm).2 (Nat.lt_irrefl _)
end
/-- a shelf at rest -/
def ShX (w : World) (B ps : Nat) (Q : Nat → Prop) : Prop := ∃ ts rs us va vu n, ShE w B ps Q ts ts rs us va vu n ∧ (ts.length : Int) ≤ n ∧ n ≤ 36864
theorem ShX.kept {w w' : World} {B ps : Nat} {Q : Nat → Prop} (h : ShX w B ps Q) (hk : ∀ x, Q x → x < w.heap.size → w'.heap[x]? = w.heap[x]?) : ShX w' B ps Q := by
  obtain ⟨ts, rs, us, va, vu, n, h, h2⟩ := h
  exact ⟨ts, rs, us, va, vu, n, h.kept hk, h2⟩
theorem ShX.inQ {w : World} {B ps : Nat} {Q Q' : Nat → Prop} (h : ShX w B ps Q) (hQ : ∀ x, Q x → x < w.heap.size → Q' x) : ShX w B ps Q' := by
  obtain ⟨ts, rs, us, va, vu, n, h, h2⟩ := h
  exact ⟨ts, rs, us, va, vu, n, h.inQ hQ, h2⟩
end Go.Proofs.YtkdejffhdhcocaaGreat
