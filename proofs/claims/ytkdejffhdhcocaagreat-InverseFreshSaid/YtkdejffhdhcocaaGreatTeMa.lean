/- Marks behind the lists of a term that was laid. Plain laws. No condition. -/
import Derived.Test.YtkdejffhdhcocaaGreatTeMC
namespace Go.Proofs.YtkdejffhdhcocaaGreat
open Go.RowKit

/-- two numbers behind a row -/
def MarkN (w : World) (r : Rw) (n : Nat) (x y : Int) : Prop := ∃ g, r.p = some ⟨g, 0, none⟩ ∧ n + 2 ≤ r.c ∧ g < w.heap.size ∧ w.cell? ⟨g, n, none⟩ = some (.int .i64 x) ∧ w.cell? ⟨g, n + 1, none⟩ = some (.int .i64 y)
/-- two terms without kids behind a row -/
def MarkK (w : World) (r : Rw) (n : Nat) : Prop := ∃ g, r.p = some ⟨g, 0, none⟩ ∧ n + 2 ≤ r.c ∧ g < w.heap.size ∧ w.cell? ⟨g, n * 6, none⟩ = some (.int .i64 (-75)) ∧ w.cell? ⟨g, n * 6 + 5, none⟩ = some (.slice none 0 0) ∧ w.cell? ⟨g, (n + 1) * 6, none⟩ = some (.int .i64 (-76)) ∧ w.cell? ⟨g, (n + 1) * 6 + 5, none⟩ = some (.slice none 0 0)
theorem MarkN.on {w w' : World} {r : Rw} {n : Nat} {x y : Int} (h : MarkN w r n x y) (hb : Below w.heap.size w w') : MarkN w' r n x y := by
  obtain ⟨g, e, h1, h2, h3, h4⟩ := h
  exact ⟨g, e, h1, Nat.lt_of_lt_of_le h2 hb.size, (hb.cell (p := ⟨g, n, none⟩) h2).trans h3, (hb.cell (p := ⟨g, n + 1, none⟩) h2).trans h4⟩
theorem MarkK.on {w w' : World} {r : Rw} {n : Nat} (h : MarkK w r n) (hb : Below w.heap.size w w') : MarkK w' r n := by
  obtain ⟨g, e, h1, h2, h3, h4, h5, h6⟩ := h
  have key : ∀ j v, w.cell? ⟨g, j, none⟩ = some v → w'.cell? ⟨g, j, none⟩ = some v := fun j v hv => (hb.cell (p := ⟨g, j, none⟩) h2).trans hv
  exact ⟨g, e, h1, Nat.lt_of_lt_of_le h2 hb.size, key _ _ h3, key _ _ h4, key _ _ h5, key _ _ h6⟩
mutual
/-- the marks behind all lists of a term -/
def MarkT (w : World) : Tm → Rt → Prop
  | .mk _ _ _ sh at_ ks, .mk s a k rs => MarkN w s sh.length (-71) (-72) ∧ MarkN w a at_.length (-73) (-74) ∧ MarkK w k ks.length ∧ MarkL w ks rs
def MarkL (w : World) : List Tm → List Rt → Prop
  | t :: ts, r :: rs => MarkT w t r ∧ MarkL w ts rs
  | _, _ => True
end
mutual
theorem MarkT.on {w w' : World} (hb : Below w.heap.size w w') : ∀ {t : Tm} {r : Rt}, MarkT w t r → MarkT w' t r
  | .mk _ _ _ _ _ ks, .mk _ _ _ rs, h => by
    simp only [MarkT] at h ⊢
    exact ⟨h.1.on hb, h.2.1.on hb, h.2.2.1.on hb, MarkL.on hb h.2.2.2⟩
theorem MarkL.on {w w' : World} (hb : Below w.heap.size w w') : ∀ {ts : List Tm} {rs : List Rt}, MarkL w ts rs → MarkL w' ts rs
  | [], _, _ => by simp only [MarkL]
  | _ :: _, [], _ => by simp only [MarkL]
  | t :: ts, r :: rs, h => by
    simp only [MarkL] at h ⊢
    exact ⟨MarkT.on hb h.1, MarkL.on hb h.2⟩
end
theorem MarkT.parts {w : World} {t : Tm} {r : Rt} (h : MarkT w t r) : MarkN w r.s t.sh.length (-71) (-72) ∧ MarkN w r.a t.at_.length (-73) (-74) ∧ MarkK w r.k t.kids.length ∧ MarkL w t.kids r.kids := by
  cases t; cases r
  simp only [MarkT] at h
  exact h
theorem MarkL.get {w : World} : ∀ {ts : List Tm} {rs : List Rt} {i : Nat} {t : Tm} {r : Rt}, MarkL w ts rs → ts[i]? = some t → rs[i]? = some r → MarkT w t r
  | [], _, _, _, _, _, h, _ => by simp at h
  | _ :: _, [], _, _, _, _, _, h => by simp at h
  | t' :: ts, r' :: rs, 0, t, r, h, h1, h2 => by
    simp only [MarkL] at h
    simp only [List.getElem?_cons_zero, Option.some.injEq] at h1 h2
    subst h1 h2
    exact h.1
  | t' :: ts, r' :: rs, i + 1, t, r, h, h1, h2 => by
    simp only [MarkL] at h
    exact MarkL.get h.2 (by simpa using h1) (by simpa using h2)
theorem ints_grown {w w' : World} {b : Nat} {l : List Int} {r : Option Nat} (h : IntsAt w (some ⟨b, 0, none⟩) l) (hg : w.grownBy w' r) (hne : some b ≠ r) : IntsAt w' (some ⟨b, 0, none⟩) l := fun i x hx => by
  obtain ⟨b', off, e, hlt, hc⟩ := h i x hx
  simp only [Option.some.injEq, Addr.mk.injEq, and_true] at e
  obtain ⟨rfl, rfl⟩ := e
  exact ⟨b, 0, rfl, Nat.lt_of_lt_of_le hlt hg.size, hg.cell hc hne⟩
theorem MarkN.kept {w w' : World} {r : Rw} {n : Nat} {x y : Int} (h : MarkN w r n x y) (hk : ∀ g, r.blk = some g → w'.heap[g]? = w.heap[g]?) (hs : w.heap.size ≤ w'.heap.size) : MarkN w' r n x y := by
  obtain ⟨g, e, h1, h2, h3, h4⟩ := h
  have hb : r.blk = some g := by unfold Rw.blk; rw [if_neg (by omega), e]; rfl
  have hc : ∀ j v, w.cell? ⟨g, j, none⟩ = some v → w'.cell? ⟨g, j, none⟩ = some v := fun j v hv => (World.cell?_of_block (hk g hb)).trans hv
  exact ⟨g, e, h1, Nat.lt_of_lt_of_le h2 hs, hc _ _ h3, hc _ _ h4⟩
theorem MarkK.kept {w w' : World} {r : Rw} {n : Nat} (h : MarkK w r n) (hk : ∀ g, r.blk = some g → w'.heap[g]? = w.heap[g]?) (hs : w.heap.size ≤ w'.heap.size) : MarkK w' r n := by
  obtain ⟨g, e, h1, h2, h3, h4, h5, h6⟩ := h
  have hb : r.blk = some g := by unfold Rw.blk; rw [if_neg (by omega), e]; rfl
  have hc : ∀ j v, w.cell? ⟨g, j, none⟩ = some v → w'.cell? ⟨g, j, none⟩ = some v := fun j v hv => (World.cell?_of_block (hk g hb)).trans hv
  exact ⟨g, e, h1, Nat.lt_of_lt_of_le h2 hs, hc _ _ h3, hc _ _ h4, hc _ _ h5, hc _ _ h6⟩
mutual
theorem MarkT.kept {w w' : World} (hs : w.heap.size ≤ w'.heap.size) : ∀ {t : Tm} {r : Rt}, MarkT w t r → (∀ g ∈ blksT r, w'.heap[g]? = w.heap[g]?) → MarkT w' t r
  | .mk _ _ _ _ _ ks, .mk s a k rs, h, hk => by
    simp only [MarkT] at h ⊢
    simp only [blksT, List.mem_append, Option.mem_toList] at hk
    exact ⟨h.1.kept (fun g hg => hk g (.inl (.inl (.inl hg)))) hs, h.2.1.kept (fun g hg => hk g (.inl (.inl (.inr hg)))) hs, h.2.2.1.kept (fun g hg => hk g (.inl (.inr hg))) hs, MarkL.kept hs h.2.2.2 fun g hg => hk g (.inr hg)⟩
theorem MarkL.kept {w w' : World} (hs : w.heap.size ≤ w'.heap.size) : ∀ {ts : List Tm} {rs : List Rt}, MarkL w ts rs → (∀ g ∈ blksL rs, w'.heap[g]? = w.heap[g]?) → MarkL w' ts rs
  | [], _, _, _ => by simp only [MarkL]
  | _ :: _, [], _, _ => by simp only [MarkL]
  | t :: ts, r :: rs, h, hk => by
    simp only [MarkL] at h ⊢
    simp only [blksL, List.mem_append] at hk
    exact ⟨MarkT.kept hs h.1 fun g hg => hk g (.inl hg), MarkL.kept hs h.2 fun g hg => hk g (.inr hg)⟩
end
theorem MarkL.more {w : World} {t : Tm} {r : Rt} (hm : MarkT w t r) : ∀ {ts : List Tm} {rs : List Rt}, ts.length = rs.length → MarkL w ts rs → MarkL w (ts ++ [t]) (rs ++ [r])
  | [], [], _, _ => by simp only [List.nil_append, MarkL, and_true]; exact hm
  | [], _ :: _, e, _ => by simp at e
  | _ :: _, [], e, _ => by simp at e
  | a :: ts, b :: rs, e, h => by
    simp only [List.cons_append, MarkL] at h ⊢
    exact ⟨h.1, MarkL.more hm (by simpa using e) h.2⟩
end Go.Proofs.YtkdejffhdhcocaaGreat
