/- Terms by append: what stands while a term is copied. No condition. -/
import Derived.Test.YteohoodfcgfkeaaGreatTeAp
namespace Go.Proofs.YteohoodfcgfkeaaGreat
open Go.RowKit

theorem TwinW.put {w W : World} {B i : Nat} {ks : List Tm} {rs : List Rt} {v : Value} (h : TwinW w B ks W rs i v) {a : Addr} (h1 : w.heap.size ≤ a.block) (h2 : a.block < B) (u : Value) : TwinW w B ks (W.setCell a u) rs i v := by
  have hk : ∀ g, B ≤ g → (W.setCell a u).heap[g]? = W.heap[g]? := fun g hg => Below.heap_setCell _ _ _ _ (by omega)
  refine ⟨?_, h.own.kept fun g hg => hk g (h.own.blk g hg).1, h.nd, h.ap, h.le, h.be.setCell h1 _⟩
  obtain ⟨e, hr⟩ := h.row
  refine ⟨e, ?_⟩
  rcases hr with hr | ⟨g, cap, cur, rfl, hg, hc, hrest⟩
  · exact .inl hr
  · exact .inr ⟨g, cap, cur, rfl, hg, (hk g hg).trans hc, hrest⟩
theorem row_keep {w w' : World} {B z : Nat} {t : TypeId} {v : Value} {n : Nat} {vs : List Value} (h : w.ownsRow B t z v n vs) (hk : ∀ g, v.ownBlock = some g → w'.heap[g]? = w.heap[g]?) : w'.ownsRow B t z v n vs := by
  obtain ⟨e, hr⟩ := h
  refine ⟨e, ?_⟩
  rcases hr with hr | ⟨g, cap, cur, rfl, hg, hc, hrest⟩
  · exact .inl hr
  · exact .inr ⟨g, cap, cur, rfl, hg, (hk g rfl).trans hc, hrest⟩
theorem row_on {w w' : World} {B z : Nat} {t : TypeId} {v : Value} {n : Nat} {vs : List Value} (h : w.ownsRow B t z v n vs) (hb : Below w.heap.size w w') : w'.ownsRow B t z v n vs := row_keep h fun g hg => hb.block g (h.lt g hg).2
theorem row_low {w : World} {B B' z : Nat} {t : TypeId} {v : Value} {n : Nat} {vs : List Value} (h : w.ownsRow B t z v n vs) (hB : B' ≤ B) : w.ownsRow B' t z v n vs := by
  obtain ⟨e, hr⟩ := h
  refine ⟨e, ?_⟩
  rcases hr with hr | ⟨g, cap, cur, rfl, hg, hrest⟩
  · exact .inl hr
  · exact .inr ⟨g, cap, cur, rfl, Nat.le_trans hB hg, hrest⟩
/-- an owned row by append's words, by ours -/
theorem row_ours {w : World} {B z : Nat} {t : TypeId} {r : Rw} {n : Nat} {vs : List Value} (h : w.ownsRow B t z r.val n vs) : r.n = n ∧ RowOwn w B t z r vs := by
  obtain ⟨q, hq, hn, ho⟩ := own_of_row h
  obtain ⟨p, n', c⟩ := r
  obtain ⟨p', n'', c'⟩ := q
  simp only [Rw.val, Value.slice.injEq] at hq
  obtain ⟨rfl, rfl, rfl⟩ := hq
  exact ⟨hn, ho⟩
theorem row_type' {w : World} {B z : Nat} {t : TypeId} {v : Value} {n : Nat} {vs : List Value} (h : w.ownsRow B t z v n vs) (g : Nat) (hg : v.ownBlock = some g) : ∃ cur, w.heap[g]? = some (.cells cur t (0, 0)) := by
  obtain ⟨_, ⟨rfl, _⟩ | ⟨g', cap, cur, rfl, _, hc, _⟩⟩ := h
  · cases hg
  · simp only [Value.ownBlock, Option.some.injEq] at hg
    subst hg
    exact ⟨cur, hc⟩
/-- the blocks of a term's own rows, and of its kids -/
def topBlks (r : Rt) : List Nat := (r.s.val.ownBlock.toList ++ r.a.val.ownBlock.toList ++ r.k.val.ownBlock.toList) ++ blksL r.kids
/-- what own leaves: a term in memory of its own, whose first rows are whole blocks -/
def OwnPost (t : Tm) (w : World) (e : Ending) (w' : World) : Prop := ∃ r : Rt, e = .returned (rtVal t r) ∧ OwnT w' w.heap.size t r ∧ (blksT r).Nodup ∧ Below w.heap.size w w' ∧
  w'.ownsRow w.heap.size TIn 1 r.s.val t.sh.length (intVals t.sh) ∧ w'.ownsRow w.heap.size TI6 1 r.a.val t.at_.length (intVals t.at_) ∧ w'.ownsRow w.heap.size TTm 6 r.k.val t.kids.length (rtCellsL t.kids r.kids) ∧ (topBlks r).Nodup
theorem results_tm1 {fn : Func} {p : Tmp} (h : fn.results = #[.cell p TTm]) {tmps : Array Value} {w : World} {g : Nat} (hp : tmps.getD p undef = .pointer (some ⟨g, 0, none⟩)) {v0 v1 v2 v3 v4 v5 : Value}
    (hg : w.heap[g]? = some (.cells #[v0, v1, v2, v3, v4, v5] TTm (0, 0))) : (results fn tmps).run Tryz.prog w = .ok (.agg #[v0, v1, v2, v3, v4, v5]) w := by
  have k0 := cell_at hg (j := 0) rfl
  have k1 := cell_at hg (j := 1) rfl
  have k2 := cell_at hg (j := 2) rfl
  have k3 := cell_at hg (j := 3) rfl
  have k4 := cell_at hg (j := 4) rfl
  have k5 := cell_at hg (j := 5) rfl
  rw [Array.getD_eq_getD_getElem?] at hp
  simp only [results, h]
  simp [go_sem, hp, k0, k1, k2, k3, k4, k5]
end Go.Proofs.YteohoodfcgfkeaaGreat
