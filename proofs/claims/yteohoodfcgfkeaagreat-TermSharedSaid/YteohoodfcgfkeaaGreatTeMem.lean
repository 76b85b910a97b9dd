/- Terms: where they lie in memory. No condition. -/
import Derived.Test.YteohoodfcgfkeaaGreatTeTm
import Derived.OwnWalk
namespace Go.Proofs.YteohoodfcgfkeaaGreat
open Go.RowKit

theorem heap_lt {w : World} {k : Nat} {o : Obj} (h : w.heap[k]? = some o) : k < w.heap.size := (Array.getElem?_eq_some_iff.1 h).1
theorem types_apart {w : World} {k : Nat} {c1 c2 : Array Value} {t1 t2 : TypeId} {f1 f2 : Nat × Nat} (h1 : w.heap[k]? = some (.cells c1 t1 f1)) (h2 : w.heap[k]? = some (.cells c2 t2 f2)) : t1 = t2 := by
  rw [h1] at h2
  injection h2 with h2
  injection h2
theorem heap2 {w : World} {g : Nat} {a b : Value} {t : TypeId} (h : w.heap[g]? = some (.cells #[a, b] t (0, 0))) : w.cell? ⟨g, 0, none⟩ = some a ∧ w.cell? ⟨g, 1, none⟩ = some b := by
  constructor <;> simp [World.cell?, h]
theorem unfrozen {w : World} {g : Nat} {cs : Array Value} {t : TypeId} (h : w.heap[g]? = some (.cells cs t (0, 0))) (j : Nat) : w.frozen? ⟨g, j, none⟩ = false := by simp [World.frozen?, h]
theorem grown_below {w w' : World} (h : Below w.heap.size w w') (row : Option Nat) : w.grownBy w' row := ⟨h.os, h.tape, h.output, h.size, fun k hk _ => h.block k hk⟩

/-- numbers at an address, one by one -/
def IntsAt (w : World) (A : Option Addr) (l : List Int) : Prop := ∀ i x, l[i]? = some x → ∃ b off, A = some ⟨b, off, none⟩ ∧ b < w.heap.size ∧ w.cell? ⟨b, off + i, none⟩ = some (.int .i64 x)
theorem IntsAt.on {w w' : World} {A : Option Addr} {l : List Int} (h : IntsAt w A l) (hb : Below w.heap.size w w') : IntsAt w' A l := fun i x hx => by
  obtain ⟨b, off, e, hlt, hc⟩ := h i x hx
  exact ⟨b, off, e, Nat.lt_of_lt_of_le hlt hb.size, (hb.cell (p := ⟨b, off + i, none⟩) hlt).trans hc⟩
theorem IntsAt.nil (w : World) (A : Option Addr) : IntsAt w A [] := fun i x h => by simp at h

mutual
/-- a term's cells -/
def TmIs (w : World) : Tm → List Value → Prop
  | .mk kind text n sh at_ kids, vs => ∃ A ca B cb K ck, vs = [.int .i64 kind, .string text, .int .i64 n, .slice A sh.length ca, .slice B at_.length cb, .slice K kids.length ck] ∧ IntsAt w A sh ∧ IntsAt w B at_ ∧ KidsAt w K kids 0
/-- a list of terms, from place i on -/
def KidsAt (w : World) (K : Option Addr) : List Tm → Nat → Prop
  | [], _ => True
  | t :: r, i => (∃ b off vs, K = some ⟨b, off, none⟩ ∧ b < w.heap.size ∧ TmIs w t vs ∧ ∀ q u, vs[q]? = some u → w.cell? ⟨b, off + i * 6 + q, none⟩ = some u) ∧ KidsAt w K r (i + 1)
end
/-- a term's three lists -/
structure TmAt (w : World) (t : Tm) (A B K : Option Addr) : Prop where
  sh : IntsAt w A t.sh
  at_ : IntsAt w B t.at_
  kids : KidsAt w K t.kids 0
/-- a term behind a pointer -/
def PtrAt (w : World) (b off : Nat) (t : Tm) : Prop := ∃ vs, TmIs w t vs ∧ b < w.heap.size ∧ ∀ q u, vs[q]? = some u → w.cell? ⟨b, off + q, none⟩ = some u
mutual
theorem TmIs.on {w w' : World} (hb : Below w.heap.size w w') : ∀ {t : Tm} {vs : List Value}, TmIs w t vs → TmIs w' t vs
  | .mk _ _ _ _ _ kids, _, h => by
    simp only [TmIs] at h ⊢
    obtain ⟨A, ca, B, cb, K, ck, e, h1, h2, h3⟩ := h
    exact ⟨A, ca, B, cb, K, ck, e, h1.on hb, h2.on hb, KidsAt.on hb h3⟩
theorem KidsAt.on {w w' : World} (hb : Below w.heap.size w w') {K : Option Addr} : ∀ {ks : List Tm} {i : Nat}, KidsAt w K ks i → KidsAt w' K ks i
  | [], _, _ => by simp only [KidsAt]
  | t :: r, i, h => by
    simp only [KidsAt] at h ⊢
    obtain ⟨⟨b, off, vs, e, hlt, h1, h2⟩, h3⟩ := h
    exact ⟨⟨b, off, vs, e, Nat.lt_of_lt_of_le hlt hb.size, TmIs.on hb h1, fun q u hq => (hb.cell (p := ⟨b, off + i * 6 + q, none⟩) hlt).trans (h2 q u hq)⟩, KidsAt.on hb h3⟩
end
theorem TmAt.on {w w' : World} {t : Tm} {A B K : Option Addr} (h : TmAt w t A B K) (hb : Below w.heap.size w w') : TmAt w' t A B K := ⟨h.sh.on hb, h.at_.on hb, h.kids.on hb⟩
theorem PtrAt.on {w w' : World} {b off : Nat} {t : Tm} (h : PtrAt w b off t) (hb : Below w.heap.size w w') : PtrAt w' b off t := by
  obtain ⟨vs, h1, h2, h3⟩ := h
  exact ⟨vs, h1.on hb, Nat.lt_of_lt_of_le h2 hb.size, fun q u hq => (hb.cell (p := ⟨b, off + q, none⟩) h2).trans (h3 q u hq)⟩
theorem KidsAt.get {w : World} {K : Option Addr} : ∀ {ks : List Tm} {i0 i : Nat} {t : Tm}, KidsAt w K ks i0 → ks[i]? = some t → ∃ b off, K = some ⟨b, off, none⟩ ∧ PtrAt w b (off + (i0 + i) * 6) t
  | [], _, _, _, _, h => by simp at h
  | t :: r, i0, 0, u, h, hg => by
    simp only [List.getElem?_cons_zero, Option.some.injEq] at hg
    subst hg
    simp only [KidsAt] at h
    obtain ⟨⟨b, off, vs, e, hlt, h1, h2⟩, _⟩ := h
    exact ⟨b, off, e, vs, h1, hlt, h2⟩
  | t :: r, i0, i + 1, u, h, hg => by
    simp only [KidsAt] at h
    obtain ⟨b, off, e, hp⟩ := KidsAt.get (ks := r) h.2 (by simpa using hg)
    exact ⟨b, off, e, by rw [show i0 + (i + 1) = i0 + 1 + i by omega]; exact hp⟩
theorem KidsAt.of {w : World} {b off : Nat} : ∀ {ks : List Tm} {i0 : Nat}, (∀ i t, ks[i]? = some t → PtrAt w b (off + (i0 + i) * 6) t) → KidsAt w (some ⟨b, off, none⟩) ks i0
  | [], _, _ => by simp only [KidsAt]
  | t :: r, i0, h => by
    simp only [KidsAt]
    obtain ⟨vs, h1, h2, h3⟩ := h 0 t rfl
    exact ⟨⟨b, off, vs, rfl, h2, h1, h3⟩, KidsAt.of fun i t' ht => by
      have := h (i + 1) t' (by simpa using ht)
      rwa [show i0 + (i + 1) = i0 + 1 + i by omega] at this⟩
theorem KidsAt.nil (w : World) (K : Option Addr) : KidsAt w K [] 0 := by simp only [KidsAt]
/-- a term behind a pointer: its cells, its lists -/
theorem PtrAt.cells {w : World} {b off : Nat} {t : Tm} (h : PtrAt w b off t) : ∃ A ca B cb K ck, b < w.heap.size ∧ w.cell? ⟨b, off, none⟩ = some (.int .i64 t.kind) ∧ w.cell? ⟨b, off + 1, none⟩ = some (.string t.text) ∧ w.cell? ⟨b, off + 2, none⟩ = some (.int .i64 t.n) ∧
    w.cell? ⟨b, off + 3, none⟩ = some (.slice A t.sh.length ca) ∧ w.cell? ⟨b, off + 4, none⟩ = some (.slice B t.at_.length cb) ∧ w.cell? ⟨b, off + 5, none⟩ = some (.slice K t.kids.length ck) ∧ TmAt w t A B K := by
  obtain ⟨vs, h1, h2, h3⟩ := h
  cases t with
  | mk kind text n sh at_ kids =>
    simp only [TmIs] at h1
    obtain ⟨A, ca, B, cb, K, ck, rfl, i1, i2, i3⟩ := h1
    exact ⟨A, ca, B, cb, K, ck, h2, h3 0 _ rfl, h3 1 _ rfl, h3 2 _ rfl, h3 3 _ rfl, h3 4 _ rfl, h3 5 _ rfl, ⟨i1, i2, i3⟩⟩
theorem TmAt.is {w : World} {t : Tm} {A B K : Option Addr} (h : TmAt w t A B K) (ca cb ck : Nat) : TmIs w t [.int .i64 t.kind, .string t.text, .int .i64 t.n, .slice A t.sh.length ca, .slice B t.at_.length cb, .slice K t.kids.length ck] := by
  cases t with
  | mk kind text n sh at_ kids =>
    simp only [TmIs]
    exact ⟨A, ca, B, cb, K, ck, rfl, h.sh, h.at_, h.kids⟩
/-- a term's cells, in a block -/
abbrev tmCells (t : Tm) (A : Option Addr) (ca : Nat) (B : Option Addr) (cb : Nat) (K : Option Addr) (ck : Nat) : Array Value := #[.int .i64 t.kind, .string t.text, .int .i64 t.n, .slice A t.sh.length ca, .slice B t.at_.length cb, .slice K t.kids.length ck]
/-- a term as a value -/
abbrev tmVal (t : Tm) (A : Option Addr) (ca : Nat) (B : Option Addr) (cb : Nat) (K : Option Addr) (ck : Nat) : Value := .agg #[.int .i64 t.kind, .string t.text, .int .i64 t.n, .slice A t.sh.length ca, .slice B t.at_.length cb, .slice K t.kids.length ck]
theorem PtrAt.mk {w : World} {b : Nat} {t : Tm} {A B K : Option Addr} {ca cb ck : Nat} {ty : TypeId} (h : TmAt w t A B K) (hb : w.heap[b]? = some (.cells (tmCells t A ca B cb K ck) ty (0, 0))) : PtrAt w b 0 t := by
  refine ⟨_, h.is ca cb ck, heap_lt hb, fun q u hq => ?_⟩
  rw [World.cell?, show (⟨b, 0 + q, none⟩ : Addr).block = b from rfl, hb]
  simpa using hq
end Go.Proofs.YteohoodfcgfkeaaGreat
