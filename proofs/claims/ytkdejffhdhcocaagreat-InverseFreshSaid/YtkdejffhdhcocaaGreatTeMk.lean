/- A term that lies outside of some blocks. No condition. -/
import Derived.Test.YtkdejffhdhcocaaGreatTeM1
namespace Go.Proofs.YtkdejffhdhcocaaGreat
open Go.RowKit

/-! ### a term that does not lie in blocks lo to hi - 1 -/
theorem IntsAt.sub {w w' : World} {A : Option Addr} {l : List Int} (hc : ∀ a v, w.cell? a = some v → w'.cell? a = some v) (hs : w.heap.size ≤ w'.heap.size) (h : IntsAt w A l) : IntsAt w' A l := fun i x hx => by
  obtain ⟨b, off, e, hlt, h1⟩ := h i x hx
  exact ⟨b, off, e, Nat.lt_of_lt_of_le hlt hs, hc _ _ h1⟩
mutual
theorem TmIs.sub {w w' : World} (hc : ∀ a v, w.cell? a = some v → w'.cell? a = some v) (hs : w.heap.size ≤ w'.heap.size) : ∀ {t : Tm} {vs : List Value}, TmIs w t vs → TmIs w' t vs
  | .mk _ _ _ _ _ kids, _, h => by
    simp only [TmIs] at h ⊢
    obtain ⟨A, ca, B, cb, K, ck, e, h1, h2, h3⟩ := h
    exact ⟨A, ca, B, cb, K, ck, e, h1.sub hc hs, h2.sub hc hs, KidsAt.sub hc hs h3⟩
theorem KidsAt.sub {w w' : World} (hc : ∀ a v, w.cell? a = some v → w'.cell? a = some v) (hs : w.heap.size ≤ w'.heap.size) {K : Option Addr} : ∀ {ks : List Tm} {i : Nat}, KidsAt w K ks i → KidsAt w' K ks i
  | [], _, _ => by simp only [KidsAt]
  | t :: r, i, h => by
    simp only [KidsAt] at h ⊢
    obtain ⟨⟨b, off, vs, e, hlt, h1, h2⟩, h3⟩ := h
    exact ⟨⟨b, off, vs, e, Nat.lt_of_lt_of_le hlt hs, TmIs.sub hc hs h1, fun q u hq => hc _ _ (h2 q u hq)⟩, KidsAt.sub hc hs h3⟩
end
theorem TmAt.sub {w w' : World} {t : Tm} {A B K : Option Addr} (h : TmAt w t A B K) (hc : ∀ a v, w.cell? a = some v → w'.cell? a = some v) (hs : w.heap.size ≤ w'.heap.size) : TmAt w' t A B K := ⟨h.sh.sub hc hs, h.at_.sub hc hs, h.kids.sub hc hs⟩
/-- blocks lo to hi - 1 without cells -/
def mask (w : World) (lo hi : Nat) : World := { w with heap := w.heap.mapIdx fun k o => if lo ≤ k ∧ k < hi then .map #[] 0 else o }
theorem mask_size (w : World) (lo hi : Nat) : (mask w lo hi).heap.size = w.heap.size := by simp [mask]
theorem mask_block (w : World) {lo hi k : Nat} (h : ¬ (lo ≤ k ∧ k < hi)) : (mask w lo hi).heap[k]? = w.heap[k]? := by
  simp only [mask, Array.getElem?_mapIdx]
  cases w.heap[k]? with
  | none => rfl
  | some o => simp only [Option.map_some, if_neg h]
theorem cell_lt' {w : World} {a : Addr} {v : Value} (h : w.cell? a = some v) : a.block < w.heap.size := by
  unfold World.cell? at h
  split at h
  · rename_i hb
    exact (Array.getElem?_eq_some_iff.1 hb).1
  · cases h
theorem mask_cell {w : World} {lo hi : Nat} {a : Addr} {v : Value} (h : (mask w lo hi).cell? a = some v) : ¬ (lo ≤ a.block ∧ a.block < hi) ∧ w.cell? a = some v := by
  by_cases e : lo ≤ a.block ∧ a.block < hi
  · exfalso
    have hl := cell_lt' h
    rw [mask_size] at hl
    unfold World.cell? at h
    simp only [mask, Array.getElem?_mapIdx, Array.getElem?_eq_getElem hl, Option.map_some, if_pos e] at h
    cases h
  · refine ⟨e, ?_⟩
    rw [← World.cell?_of_block (w := w) (mask_block w e)]
    exact h
theorem mask_cell' {w : World} {lo hi : Nat} {a : Addr} {v : Value} (e : ¬ (lo ≤ a.block ∧ a.block < hi)) (h : w.cell? a = some v) : (mask w lo hi).cell? a = some v := by
  rw [World.cell?_of_block (w := w) (mask_block w e)]
  exact h
section
variable {w w' : World} {lo hi hi' : Nat} {t : Tm} {A B K : Option Addr}
theorem mask_out (h : TmAt (mask w lo hi) t A B K) : TmAt w t A B K := h.sub (fun _ _ hv => (mask_cell hv).2) (Nat.le_of_eq (mask_size w lo hi))
theorem mask_less (h : TmAt (mask w lo hi) t A B K) (hh : hi' ≤ hi) : TmAt (mask w lo hi') t A B K :=
  h.sub (fun _ _ hv => mask_cell' (by have := (mask_cell hv).1; omega) (mask_cell hv).2) (by rw [mask_size, mask_size]; exact Nat.le_refl _)
theorem mask_to (h : TmAt (mask w lo hi) t A B K) (hk : ∀ k, k < w.heap.size → ¬ (lo ≤ k ∧ k < hi) → w'.heap[k]? = w.heap[k]?) (hs : w.heap.size ≤ w'.heap.size) : TmAt (mask w' lo hi) t A B K :=
  h.sub (fun a v hv => by
    obtain ⟨h1, h2⟩ := mask_cell hv
    refine mask_cell' h1 ?_
    rw [World.cell?_of_block (w := w) (hk _ (cell_lt' h2) h1)]
    exact h2) (by rw [mask_size, mask_size]; exact hs)
theorem mask_on (h : TmAt (mask w lo hi) t A B K) (hb : Below w.heap.size w w') : TmAt (mask w' lo hi) t A B K := mask_to h (fun k hk _ => hb.block k hk) hb.size
/-- an old term -/
theorem mask_old {w0 : World} (h : TmAt w0 t A B K) (hb : Below w0.heap.size w0 w) : TmAt (mask w w0.heap.size hi) t A B K :=
  h.sub (fun a v hv => mask_cell' (by have := cell_lt' hv; omega) (by rw [hb.cell (cell_lt' hv)]; exact hv)) (by rw [mask_size]; exact hb.size)
end
theorem mask_below {w W : World} (lo hi : Nat) (h : Below w.heap.size w W) : Below (mask w lo hi).heap.size (mask w lo hi) (mask W lo hi) := by
  refine ⟨h.os, h.tape, h.output, by rw [mask_size, mask_size]; exact h.size, fun k hk => ?_⟩
  rw [mask_size] at hk
  simp only [mask, Array.getElem?_mapIdx, h.block k hk]
/-- behind a pointer outside of the mask: its cells at a later world -/
theorem PtrAt.cellsM {w W : World} {lo hi b off : Nat} {t : Tm} (h : PtrAt (mask w lo hi) b off t) (hb : Below w.heap.size w W) : ∃ A ca B cb K ck, b < W.heap.size ∧ W.cell? ⟨b, off, none⟩ = some (.int .i64 t.kind) ∧ W.cell? ⟨b, off + 1, none⟩ = some (.string t.text) ∧ W.cell? ⟨b, off + 2, none⟩ = some (.int .i64 t.n) ∧
    W.cell? ⟨b, off + 3, none⟩ = some (.slice A t.sh.length ca) ∧ W.cell? ⟨b, off + 4, none⟩ = some (.slice B t.at_.length cb) ∧ W.cell? ⟨b, off + 5, none⟩ = some (.slice K t.kids.length ck) ∧ TmAt (mask w lo hi) t A B K := by
  obtain ⟨A, ca, B, cb, K, ck, lt, r0, r1, r2, r3, r4, r5, hat⟩ := h.cells
  rw [mask_size] at lt
  have key : ∀ j v, (mask w lo hi).cell? ⟨b, j, none⟩ = some v → W.cell? ⟨b, j, none⟩ = some v := fun j v hv => (hb.cell (p := ⟨b, j, none⟩) lt).trans (mask_cell hv).2
  exact ⟨A, ca, B, cb, K, ck, Nat.lt_of_lt_of_le lt hb.size, key _ _ r0, key _ _ r1, key _ _ r2, key _ _ r3, key _ _ r4, key _ _ r5, hat⟩
/-- all is outside of no blocks -/
theorem mask_none {w : World} {lo : Nat} {t : Tm} {A B K : Option Addr} (h : TmAt w t A B K) : TmAt (mask w lo lo) t A B K := h.sub (fun _ _ hv => mask_cell' (by omega) hv) (by rw [mask_size]; exact Nat.le_refl _)
end Go.Proofs.YtkdejffhdhcocaaGreat
