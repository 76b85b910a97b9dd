/- Terms in memory of their own: rows, their blocks, what they hold. No condition. -/
import Derived.Test.YteohoodfcgfkeaaGreatTeMem
import Derived.Deep.AppendLies
namespace Go.Proofs.YteohoodfcgfkeaaGreat
open Go.RowKit

abbrev TTm : TypeId := 28
abbrev TIn : TypeId := 3
abbrev TI6 : TypeId := 2
/-- a row: where it begins, its length, its capacity -/
structure Rw where
  p : Option Addr
  n : Nat
  c : Nat
abbrev Rw.val (r : Rw) : Value := .slice r.p r.n r.c
/-- the block that a row can write -/
def Rw.blk (r : Rw) : Option Nat := if r.c = 0 then none else r.p.map (·.block)
/-- a row of its own: nothing, or the head of a block from B on; its elements' cells -/
def RowOwn (w : World) (B : Nat) (t : TypeId) (z : Nat) (r : Rw) (vs : List Value) : Prop :=
  vs.length = r.n * z ∧ ((r.n = 0 ∧ r.c = 0) ∨ ∃ g cur, r.p = some ⟨g, 0, none⟩ ∧ r.n ≤ r.c ∧ 0 < r.c ∧ r.c ≤ maxLen ∧ B ≤ g ∧ w.heap[g]? = some (.cells cur t (0, 0)) ∧ r.c * z ≤ cur.size ∧ cur.toList.take (r.n * z) = vs)
section
variable {w w' : World} {B z : Nat} {t : TypeId} {r : Rw} {vs : List Value}
theorem RowOwn.kept (h : RowOwn w B t z r vs) (hk : ∀ g, r.blk = some g → w'.heap[g]? = w.heap[g]?) : RowOwn w' B t z r vs := by
  obtain ⟨h1, h2 | ⟨g, cur, e, h3, h4, h5, h6, h7, h8⟩⟩ := h
  · exact ⟨h1, .inl h2⟩
  · exact ⟨h1, .inr ⟨g, cur, e, h3, h4, h5, h6, (hk g (by unfold Rw.blk; rw [if_neg (by omega), e]; rfl)).trans h7, h8⟩⟩
theorem RowOwn.blk_lt (h : RowOwn w B t z r vs) {g : Nat} (hg : r.blk = some g) : B ≤ g ∧ ∃ cur, w.heap[g]? = some (.cells cur t (0, 0)) := by
  obtain ⟨_, ⟨_, h2⟩ | ⟨g', cur, e, _, h4, _, h6, h7, _⟩⟩ := h
  · unfold Rw.blk at hg; rw [if_pos h2] at hg; cases hg
  · unfold Rw.blk at hg
    rw [if_neg (by omega), e] at hg
    simp only [Option.map_some, Option.some.injEq] at hg
    subst hg
    exact ⟨h6, cur, h7⟩
theorem RowOwn.mono {B' : Nat} (h : RowOwn w B t z r vs) (hB : B' ≤ B) : RowOwn w B' t z r vs := by
  obtain ⟨h1, h2 | ⟨g, cur, e, h3, h4, h5, h6, h7⟩⟩ := h
  · exact ⟨h1, .inl h2⟩
  · exact ⟨h1, .inr ⟨g, cur, e, h3, h4, h5, Nat.le_trans hB h6, h7⟩⟩
theorem RowOwn.on (h : RowOwn w B t z r vs) (hb : Below w.heap.size w w') : RowOwn w' B t z r vs := h.kept fun g hg => by
  obtain ⟨_, cur, hc⟩ := h.blk_lt hg
  exact hb.block g (heap_lt hc)
theorem RowOwn.cell (h : RowOwn w B t z r vs) {j : Nat} {u : Value} (hj : vs[j]? = some u) : ∃ g, r.p = some ⟨g, 0, none⟩ ∧ g < w.heap.size ∧ w.cell? ⟨g, j, none⟩ = some u := by
  obtain ⟨h1, ⟨h2, _⟩ | ⟨g, cur, e, _, _, _, _, h7, h8, h9⟩⟩ := h
  · have := (List.getElem?_eq_some_iff.1 hj).1
    rw [h1, h2] at this
    omega
  · refine ⟨g, e, heap_lt h7, ?_⟩
    rw [← h9, List.getElem?_take] at hj
    split at hj
    · simpa [World.cell?, h7] using hj
    · cases hj
end
/-- a term's rows: lengths, atoms, kids, the kids' rows -/
inductive Rt where
  | mk (s a k : Rw) (kids : List Rt) : Rt
def Rt.s : Rt → Rw | .mk s _ _ _ => s
def Rt.a : Rt → Rw | .mk _ a _ _ => a
def Rt.k : Rt → Rw | .mk _ _ k _ => k
def Rt.kids : Rt → List Rt | .mk _ _ _ r => r
def rtCells (t : Tm) (r : Rt) : List Value := [.int .i64 t.kind, .string t.text, .int .i64 t.n, r.s.val, r.a.val, r.k.val]
def rtCellsL : List Tm → List Rt → List Value
  | t :: ts, r :: rs => rtCells t r ++ rtCellsL ts rs
  | _, _ => []
def intVals (l : List Int) : List Value := l.map fun x => .int .i64 x
mutual
/-- the blocks of a term's rows, the outer ones first -/
def blksT : Rt → List Nat
  | .mk s a k rs => s.blk.toList ++ a.blk.toList ++ k.blk.toList ++ blksL rs
def blksL : List Rt → List Nat
  | [] => []
  | r :: rs => blksT r ++ blksL rs
end
mutual
/-- a term in memory of its own -/
def OwnT (w : World) (B : Nat) : Tm → Rt → Prop
  | .mk _ _ _ sh at_ ks, .mk s a k rs => RowOwn w B TIn 1 s (intVals sh) ∧ RowOwn w B TI6 1 a (intVals at_) ∧ RowOwn w B TTm 6 k (rtCellsL ks rs) ∧ ks.length = rs.length ∧ OwnL w B ks rs
def OwnL (w : World) (B : Nat) : List Tm → List Rt → Prop
  | [], [] => True
  | t :: ts, r :: rs => OwnT w B t r ∧ OwnL w B ts rs
  | _, _ => False
end
mutual
theorem OwnT.kept {w w' : World} {B : Nat} : ∀ {t : Tm} {r : Rt}, OwnT w B t r → (∀ g ∈ blksT r, w'.heap[g]? = w.heap[g]?) → OwnT w' B t r
  | .mk _ _ _ _ _ ks, .mk s a k rs, h, hk => by
    simp only [OwnT] at h ⊢
    simp only [blksT, List.mem_append, Option.mem_toList] at hk
    obtain ⟨h1, h2, h3, h4, h5⟩ := h
    exact ⟨h1.kept fun g hg => hk g (.inl (.inl (.inl hg))), h2.kept fun g hg => hk g (.inl (.inl (.inr hg))), h3.kept fun g hg => hk g (.inl (.inr hg)), h4, OwnL.kept h5 fun g hg => hk g (.inr hg)⟩
theorem OwnL.kept {w w' : World} {B : Nat} : ∀ {ts : List Tm} {rs : List Rt}, OwnL w B ts rs → (∀ g ∈ blksL rs, w'.heap[g]? = w.heap[g]?) → OwnL w' B ts rs
  | [], [], _, _ => by simp only [OwnL]
  | t :: ts, r :: rs, h, hk => by
    simp only [OwnL] at h ⊢
    simp only [blksL, List.mem_append] at hk
    exact ⟨OwnT.kept h.1 fun g hg => hk g (.inl hg), OwnL.kept h.2 fun g hg => hk g (.inr hg)⟩
  | [], _ :: _, h, _ => by simp only [OwnL] at h
  | _ :: _, [], h, _ => by simp only [OwnL] at h
end
mutual
theorem OwnT.blk {w : World} {B : Nat} : ∀ {t : Tm} {r : Rt}, OwnT w B t r → ∀ g ∈ blksT r, B ≤ g ∧ g < w.heap.size
  | .mk _ _ _ _ _ ks, .mk s a k rs, h, g, hg => by
    simp only [OwnT] at h
    simp only [blksT, List.mem_append, Option.mem_toList] at hg
    obtain ⟨h1, h2, h3, h4, h5⟩ := h
    rcases hg with ((hg | hg) | hg) | hg
    · obtain ⟨e, cur, hc⟩ := h1.blk_lt hg; exact ⟨e, heap_lt hc⟩
    · obtain ⟨e, cur, hc⟩ := h2.blk_lt hg; exact ⟨e, heap_lt hc⟩
    · obtain ⟨e, cur, hc⟩ := h3.blk_lt hg; exact ⟨e, heap_lt hc⟩
    · exact OwnL.blk h5 g hg
theorem OwnL.blk {w : World} {B : Nat} : ∀ {ts : List Tm} {rs : List Rt}, OwnL w B ts rs → ∀ g ∈ blksL rs, B ≤ g ∧ g < w.heap.size
  | [], [], _, g, hg => by simp only [blksL] at hg; exact absurd hg List.not_mem_nil
  | t :: ts, r :: rs, h, g, hg => by
    simp only [OwnL] at h
    simp only [blksL, List.mem_append] at hg
    rcases hg with hg | hg
    · exact OwnT.blk h.1 g hg
    · exact OwnL.blk h.2 g hg
  | [], _ :: _, h, _, _ => by simp only [OwnL] at h
  | _ :: _, [], h, _, _ => by simp only [OwnL] at h
end
theorem OwnT.on {w w' : World} {B : Nat} {t : Tm} {r : Rt} (h : OwnT w B t r) (hb : Below w.heap.size w w') : OwnT w' B t r := h.kept fun g hg => hb.block g (h.blk g hg).2
theorem OwnL.on {w w' : World} {B : Nat} {t : List Tm} {r : List Rt} (h : OwnL w B t r) (hb : Below w.heap.size w w') : OwnL w' B t r := h.kept fun g hg => hb.block g (h.blk g hg).2
mutual
theorem OwnT.mono {w : World} {B B' : Nat} (hB : B' ≤ B) : ∀ {t : Tm} {r : Rt}, OwnT w B t r → OwnT w B' t r
  | .mk _ _ _ _ _ ks, .mk s a k rs, h => by
    simp only [OwnT] at h ⊢
    obtain ⟨h1, h2, h3, h4, h5⟩ := h
    exact ⟨h1.mono hB, h2.mono hB, h3.mono hB, h4, OwnL.mono hB h5⟩
theorem OwnL.mono {w : World} {B B' : Nat} (hB : B' ≤ B) : ∀ {ts : List Tm} {rs : List Rt}, OwnL w B ts rs → OwnL w B' ts rs
  | [], [], _ => by simp only [OwnL]
  | t :: ts, r :: rs, h => by
    simp only [OwnL] at h ⊢
    exact ⟨OwnT.mono hB h.1, OwnL.mono hB h.2⟩
  | [], _ :: _, h => by simp only [OwnL] at h
  | _ :: _, [], h => by simp only [OwnL] at h
end
theorem rtCells_get : ∀ {ts : List Tm} {rs : List Rt} {i q : Nat} {t : Tm} {r : Rt} {u : Value}, ts[i]? = some t → rs[i]? = some r → (rtCells t r)[q]? = some u → (rtCellsL ts rs)[i * 6 + q]? = some u
  | [], _, _, _, _, _, _, h, _, _ => by simp at h
  | _ :: _, [], _, _, _, _, _, _, h, _ => by simp at h
  | t' :: ts, r' :: rs, 0, q, t, r, u, h1, h2, h3 => by
    simp only [List.getElem?_cons_zero, Option.some.injEq] at h1 h2
    subst h1 h2
    have hq := (List.getElem?_eq_some_iff.1 h3).1
    simp only [rtCellsL, Nat.zero_mul, Nat.zero_add]
    rw [List.getElem?_append_left hq]
    exact h3
  | t' :: ts, r' :: rs, i + 1, q, t, r, u, h1, h2, h3 => by
    simp only [rtCellsL]
    have hl : (rtCells t' r').length = 6 := rfl
    rw [List.getElem?_append_right (by omega), hl, show (i + 1) * 6 + q - 6 = i * 6 + q by omega]
    exact rtCells_get (by simpa using h1) (by simpa using h2) h3
theorem rtCellsL_len : ∀ {ts : List Tm} {rs : List Rt}, ts.length = rs.length → (rtCellsL ts rs).length = ts.length * 6
  | [], [], _ => rfl
  | _ :: ts, _ :: rs, h => by
    simp only [rtCellsL, List.length_append, rtCellsL_len (ts := ts) (rs := rs) (by simpa using h), rtCells, List.length_cons, List.length_nil]
    omega
  | [], _ :: _, h => by simp at h
  | _ :: _, [], h => by simp at h
theorem rtCellsL_app : ∀ {ts us : List Tm} {rs qs : List Rt}, ts.length = rs.length → rtCellsL (ts ++ us) (rs ++ qs) = rtCellsL ts rs ++ rtCellsL us qs
  | [], _, [], _, _ => rfl
  | _ :: ts, us, _ :: rs, qs, h => by
    simp only [List.cons_append, rtCellsL, List.append_assoc]
    rw [rtCellsL_app (by simpa using h)]
  | [], _, _ :: _, _, h => by simp at h
  | _ :: _, _, [], _, h => by simp at h
theorem OwnL.get {w : World} {B : Nat} : ∀ {ts : List Tm} {rs : List Rt} {i : Nat} {t : Tm}, OwnL w B ts rs → ts[i]? = some t → ∃ r, rs[i]? = some r ∧ OwnT w B t r
  | [], _, _, _, _, h => by simp at h
  | t' :: ts, r' :: rs, 0, t, h, hi => by
    simp only [OwnL] at h
    simp only [List.getElem?_cons_zero, Option.some.injEq] at hi
    subst hi
    exact ⟨r', rfl, h.1⟩
  | t' :: ts, r' :: rs, i + 1, t, h, hi => by
    simp only [OwnL] at h
    obtain ⟨r, hr, ho⟩ := OwnL.get h.2 (by simpa using hi)
    exact ⟨r, by simpa using hr, ho⟩
  | _ :: _, [], _, _, h, _ => by simp only [OwnL] at h
theorem OwnL.app {w : World} {B : Nat} : ∀ {ts us : List Tm} {rs qs : List Rt}, OwnL w B ts rs → OwnL w B us qs → OwnL w B (ts ++ us) (rs ++ qs)
  | [], _, [], _, _, h => h
  | t :: ts, us, r :: rs, qs, h, h' => by
    simp only [List.cons_append, OwnL] at h ⊢
    exact ⟨h.1, h.2.app h'⟩
  | [], _, _ :: _, _, h, _ => by simp only [OwnL] at h
  | _ :: _, _, [], _, h, _ => by simp only [OwnL] at h
theorem OwnL.len {w : World} {B : Nat} : ∀ {ts : List Tm} {rs : List Rt}, OwnL w B ts rs → ts.length = rs.length
  | [], [], _ => rfl
  | _ :: ts, _ :: rs, h => by
    simp only [OwnL] at h
    simp [h.2.len]
  | [], _ :: _, h => by simp only [OwnL] at h
  | _ :: _, [], h => by simp only [OwnL] at h
theorem blksL_app : ∀ (rs qs : List Rt), blksL (rs ++ qs) = blksL rs ++ blksL qs
  | [], _ => rfl
  | r :: rs, qs => by simp only [List.cons_append, blksL, blksL_app rs qs, List.append_assoc]
theorem RowOwn.ints {w : World} {B : Nat} {t : TypeId} {r : Rw} {l : List Int} (h : RowOwn w B t 1 r (intVals l)) : IntsAt w r.p l := fun i x hx => by
  obtain ⟨g, e, hl, hc⟩ := h.cell (j := i) (u := .int .i64 x) (by unfold intVals; rw [List.getElem?_map, hx]; rfl)
  exact ⟨g, 0, e, hl, by rw [Nat.zero_add]; exact hc⟩
/-- a term of its own can be read -/
theorem OwnT.read_ {w : World} {B : Nat} : ∀ (N : Nat) {t : Tm} {r : Rt}, cnt t ≤ N → OwnT w B t r → TmAt w t r.s.p r.a.p r.k.p ∧ r.s.n = t.sh.length ∧ r.a.n = t.at_.length ∧ r.k.n = t.kids.length
  | 0, t, _, hN, _ => by cases t; simp [cnt] at hN
  | N + 1, .mk kind text n sh at_ ks, .mk s a k rs, hN, h => by
    simp only [OwnT] at h
    obtain ⟨h1, h2, h3, h4, h5⟩ := h
    have e1 : s.n = sh.length := by have := h1.1; simp [intVals] at this; exact this.symm
    have e2 : a.n = at_.length := by have := h2.1; simp [intVals] at this; exact this.symm
    have e3 : k.n = ks.length := by have := h3.1; rw [rtCellsL_len h4] at this; omega
    refine ⟨⟨h1.ints, h2.ints, ?_⟩, e1, e2, e3⟩
    show KidsAt w k.p ks 0
    cases hks : ks with
    | nil => exact KidsAt.nil _ _
    | cons t0 ts =>
      obtain ⟨r0, hr0, _⟩ := h5.get (i := 0) (t := t0) (by rw [hks]; rfl)
      obtain ⟨g, e, hl, _⟩ := h3.cell (j := 0) (u := .int .i64 t0.kind) (by
        have := rtCells_get (ts := ks) (rs := rs) (i := 0) (q := 0) (t := t0) (r := r0) (by rw [hks]; rfl) hr0 rfl
        simpa using this)
      rw [e, ← hks]
      refine KidsAt.of fun i t ht => ?_
      obtain ⟨r, hr, ho⟩ := h5.get ht
      have hlt : cnt t ≤ N := by
        have := cnt_kid (t := .mk kind text n sh at_ ks) (i := i) (k := t) ht
        omega
      obtain ⟨hta, f1, f2, f3⟩ := OwnT.read_ N hlt ho
      refine ⟨rtCells t r, ?_, hl, fun q u hq => ?_⟩
      · have := hta.is r.s.c r.a.c r.k.c
        rw [← f1, ← f2, ← f3] at this
        exact this
      · obtain ⟨g', e', _, hc⟩ := h3.cell (rtCells_get ht hr hq)
        rw [e] at e'
        simp only [Option.some.injEq, Addr.mk.injEq, and_true] at e'
        subst e'
        rw [Nat.zero_add, Nat.zero_add]
        exact hc
theorem OwnT.read {w : World} {B : Nat} {t : Tm} {r : Rt} (h : OwnT w B t r) : TmAt w t r.s.p r.a.p r.k.p ∧ r.s.n = t.sh.length ∧ r.a.n = t.at_.length ∧ r.k.n = t.kids.length := OwnT.read_ (cnt t) (Nat.le_refl _) h
end Go.Proofs.YteohoodfcgfkeaaGreat
