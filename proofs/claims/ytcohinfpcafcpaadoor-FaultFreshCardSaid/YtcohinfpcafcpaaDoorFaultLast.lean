/- Behind the marks: an error, its book and its names lie as they lay. No condition. -/
import Derived.Test.YtcohinfpcafcpaaDoorFaultGrown
namespace Go.Proofs.YtcohinfpcafcpaaDoor
open Go.RowKit Go.Extern.Stop Go.Stop Go.Extern Go.Sort

theorem FR.typed {B : Nat} {W0 W : World} {rs : List Rw} {M : Nat → Nat} {lv nv : Value} (h : FR B W0 W rs M) (hL : Lists W0 B lv nv rs) {g : Nat} {cs : Array Value} {t : TypeId} (hb : W0.heap[g]? = some (.cells cs t (0, 0))) (ht : t ≠ 9) : W.heap[g]? = W0.heap[g]? :=
  h.other g (at_lt hb) fun r hm e => by
    obtain ⟨_, cur, h2, _⟩ := (hL.row r hm).at_ g e
    rw [hb] at h2; injection h2 with h2; injection h2 with _ h3
    exact ht h3
theorem ErrAt.rows {B : Nat} {W0 W : World} {rs : List Rw} {M : Nat → Nat} {lv nv : Value} (hF : FR B W0 W rs M) (hL : Lists W0 B lv nv rs) : ∀ {e : Err}, ErrAt W0 e → ErrAt W e
  | .met b _ _, h => (hF.typed hL (show W0.heap[b]? = _ from h) (by decide)).trans h
  | .within b _ _, ⟨h, h3⟩ => ⟨(hF.typed hL h (by decide)).trans h, ErrAt.rows hF hL h3⟩
  | .outer b _, ⟨h, h3⟩ => ⟨(hF.typed hL h (by decide)).trans h, ErrAt.rows hF hL h3⟩
  | .other b _, h => (hF.typed hL (show W0.heap[b]? = _ from h) (by decide)).trans h
  | .errno _, _ => trivial
theorem OwnsTexts.block {w w' : World} {B : Nat} {v : Value} {l : List (List UInt8)} (h : OwnsTexts w B v l) (hk : ∀ k, v.ownBlock = some k → w'.heap[k]? = w.heap[k]?) : OwnsTexts w' B v l := by
  refine ⟨h.1, ?_⟩
  rcases h.2 with h0 | ⟨g, cap, cur, rfl, hb, hc, r⟩
  · exact .inl h0
  · exact .inr ⟨g, cap, cur, rfl, hb, (hk g rfl).trans hc, r⟩
theorem StAt.rows {B : Nat} {W0 W : World} {rs : List Rw} {M : Nat → Nat} {lv nv : Value} {o : Option Err} {bk : Bk} (h : StAt B W0 o bk nv) (hF : FR B W0 W rs M) (hL : Lists W0 B lv nv rs) : StAt B W o bk nv := by
  refine ⟨fun e he => ⟨(h.some_ e he).1.rows hF hL, (h.some_ e he).2⟩, h.none_, h.names.block fun k hk => ?_⟩
  obtain ⟨cur, hc⟩ := h.names.row k hk
  exact hF.other k (at_lt hc) fun r hm e => by
    rcases hL.names r hm with h0 | h0
    · rw [e] at h0; cases h0
    · exact h0 (e.trans hk.symm)
/-- a cell of the grown list, and the cell of a row that it leads to -/
theorem keep_pair {w wp wn : World} {x y : Addr} {a b : Value} (k : Below wp.heap.size wp wn)
    (h : (wp.cell? x = some a ∧ wp.cell? y = some b) ∧ Hid (Below w.heap.size w wp))
    (ka : w.cell? x = some a) (kb : w.cell? y = some b) (hx : x.block < w.heap.size) (hy : y.block < w.heap.size) :
    (wn.cell? x = some a ∧ wn.cell? y = some b) ∧ Hid (Below w.heap.size w wn) :=
  have hb := keep_call h.2 k
  ⟨⟨(hb.out.cell hx).trans ka, (hb.out.cell hy).trans kb⟩, hb⟩
end Go.Proofs.YtcohinfpcafcpaaDoor
