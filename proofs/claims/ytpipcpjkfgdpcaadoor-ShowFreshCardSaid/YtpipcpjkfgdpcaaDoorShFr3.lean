/- What a book holds, its lists of lengths and of numbers. No condition. -/
import Derived.Test.YtpipcpjkfgdpcaaDoorShFr2
namespace Go.Proofs.YtpipcpjkfgdpcaaDoor
open Go.RowKit

theorem own_type {w : World} {B : Nat} {e : TypeId} {z : Nat} {v : Value} {n : Nat} {xs : List Value} (h : w.ownsRow B e z v n xs) : ∀ k, v.ownBlock = some k → ∃ cur, w.heap[k]? = some (.cells cur e (0, 0)) := by
  intro k hk
  rcases h.2 with ⟨rfl, _⟩ | ⟨g, cap, cur, rfl, _, hb, _⟩
  · simp [Value.ownBlock] at hk
  · simp only [Value.ownBlock, Option.some.injEq] at hk
    subst hk
    exact ⟨cur, hb⟩
theorem own_kept {w w' : World} {B : Nat} {e : TypeId} {z : Nat} {v : Value} {n : Nat} {xs : List Value} (h : w.ownsRow B e z v n xs) (hk : ∀ k, v.ownBlock = some k → w'.heap[k]? = w.heap[k]?) : w'.ownsRow B e z v n xs :=
  ⟨h.1, h.2.imp id fun ⟨g, cap, cur, h1, h2, h3, r⟩ => ⟨g, cap, cur, h1, h2, (hk g (by rw [h1]; rfl)).trans h3, r⟩⟩
theorem own_set {w : World} {B k : Nat} {e t : TypeId} {z : Nat} {v : Value} {n : Nat} {xs : List Value} {cs : Array Value} (h : w.ownsRow B e z v n xs) (hk : w.heap[k]? = some (.cells cs t (0, 0))) (ht : e ≠ t) (i : Nat) (u : Value) : (w.setCell ⟨k, i, none⟩ u).ownsRow B e z v n xs :=
  own_kept h fun j hj => Below.heap_setCell _ _ _ _ (fun e' => by
    have hjk : j = k := e'
    subst hjk
    obtain ⟨cur, hc⟩ := own_type h j hj
    exact ht (types_apart hc hk))
theorem own_on {w w' : World} {B : Nat} {e : TypeId} {z : Nat} {v : Value} {n : Nat} {xs : List Value} (h : w.ownsRow B e z v n xs) (hb : Below w.heap.size w w') : w'.ownsRow B e z v n xs :=
  own_kept h fun j hj => by obtain ⟨cur, hc⟩ := own_type h j hj; exact hb.block j (heap_lt hc)
theorem own_grown {w w' : World} {B : Nat} {e t : TypeId} {z : Nat} {v u : Value} {n m y : Nat} {xs ys : List Value} {B' : Nat} (h : w.ownsRow B e z v n xs) (hu : w.ownsRow B' t y u m ys) (hg : w.grownBy w' u.ownBlock) (ht : e ≠ t) : w'.ownsRow B e z v n xs :=
  own_kept h fun j hj => by
    obtain ⟨cur, hc⟩ := own_type h j hj
    exact hg.block j (heap_lt hc) (fun e' => by
      obtain ⟨cur2, hc2⟩ := own_type hu j e'.symm
      exact ht (types_apart hc hc2))

theorem Only.then {p q : Nat → Prop} {a b c : World} (h : Only p a b) (k : Only q b c) (hq : ∀ j, j < a.heap.size → q j → p j) : Only p a c :=
  ⟨k.os.trans h.os, k.tape.trans h.tape, k.output.trans h.output, Nat.le_trans h.size k.size, fun j hj hp => (k.block j (Nat.lt_of_lt_of_le hj h.size) (fun h' => hp (hq j hj h'))).trans (h.block j hj hp)⟩
theorem bp_not {t ts t' : TypeId} {w : World} {B pb k n : Nat} {v : Value} {xs : List Value} {ns : List Rw} {cs c : Array Value} (hb : w.heap[pb]? = some (.cells cs TBk (0, 0))) (ho : w.ownsRow B ts 1 v n xs) (hr : ∀ r ∈ ns, RowAt t w B r)
    (hk : w.heap[k]? = some (.cells c t' (0, 0))) (h1 : t' ≠ TBk) (h2 : t' ≠ ts) (h3 : t ≠ t') : ¬ BP pb v ns k := fun hp => by
  rcases hp with hp | hp | ⟨s, hs, hp⟩
  · subst hp; exact h1 (types_apart hk hb)
  · obtain ⟨cur, hc⟩ := own_type ho k hp.symm
    exact h2 (types_apart hk hc)
  · exact (hr s hs).ne hk h3 hp

/-- a book, all of its lists full of their marks -/
structure BookAt (w : World) (B pb : Nat) (iv av : Value) (mu : Nat) (ri ra : List Rw) : Prop where
  bk : w.heap[pb]? = some (.cells #[iv, .int .i64 mu, av] TBk (0, 0))
  oi : w.ownsRow B TSI 1 iv ri.length (ri.map Rw.val)
  oa : w.ownsRow B TSA 1 av ra.length (ra.map Rw.val)
  fi : ∀ j r, ri[j]? = some r → RowAt TI w B r ∧ MkAt w r r.n (mkN j)
  fa : ∀ j r, ra[j]? = some r → RowAt TA w B r ∧ MkAt w r r.n (mkN j)
theorem BookAt.kept {w w' : World} {B pb mu : Nat} {iv av : Value} {ri ra : List Rw} (h : BookAt w B pb iv av mu ri ra) (hp : w'.heap[pb]? = w.heap[pb]?) (hi : ∀ k, iv.ownBlock = some k → w'.heap[k]? = w.heap[k]?) (ha : ∀ k, av.ownBlock = some k → w'.heap[k]? = w.heap[k]?)
    (hri : ∀ r ∈ ri, ∀ b, r.g = some b → w'.heap[b]? = w.heap[b]?) (hra : ∀ r ∈ ra, ∀ b, r.g = some b → w'.heap[b]? = w.heap[b]?) : BookAt w' B pb iv av mu ri ra :=
  ⟨hp.trans h.bk, own_kept h.oi hi, own_kept h.oa ha, fun j r hj => ⟨(h.fi j r hj).1.kept (hri r (List.mem_of_getElem? hj)), (h.fi j r hj).2.kept (hri r (List.mem_of_getElem? hj))⟩, fun j r hj => ⟨(h.fa j r hj).1.kept (hra r (List.mem_of_getElem? hj)), (h.fa j r hj).2.kept (hra r (List.mem_of_getElem? hj))⟩⟩
theorem BookAt.ri {w : World} {B pb mu : Nat} {iv av : Value} {ri ra : List Rw} (h : BookAt w B pb iv av mu ri ra) {r : Rw} (hr : r ∈ ri) : RowAt TI w B r := by
  obtain ⟨j, hj⟩ := List.getElem?_of_mem hr
  exact (h.fi j r hj).1
theorem BookAt.ra {w : World} {B pb mu : Nat} {iv av : Value} {ri ra : List Rw} (h : BookAt w B pb iv av mu ri ra) {r : Rw} (hr : r ∈ ra) : RowAt TA w B r := by
  obtain ⟨j, hj⟩ := List.getElem?_of_mem hr
  exact (h.fa j r hj).1
/-- a block that the book writes or holds lies below -/
theorem BookAt.on {w w' : World} {B pb mu : Nat} {iv av : Value} {ri ra : List Rw} (h : BookAt w B pb iv av mu ri ra) (hb : Below w.heap.size w w') : BookAt w' B pb iv av mu ri ra :=
  h.kept (hb.block _ (heap_lt h.bk)) (fun k hk => by obtain ⟨c, hc⟩ := own_type h.oi k hk; exact hb.block k (heap_lt hc)) (fun k hk => by obtain ⟨c, hc⟩ := own_type h.oa k hk; exact hb.block k (heap_lt hc))
    (fun r hr b hg => hb.block b ((h.ri hr).lt hg)) (fun r hr b hg => hb.block b ((h.ra hr).lt hg))
theorem book_new (w : World) (B : Nat) : BookAt (w.alloc (.cells #[.slice none 0 0, .int .i64 0, .slice none 0 0] TBk)) B w.heap.size (.slice none 0 0) (.slice none 0 0) 0 [] [] :=
  ⟨heap_alloc_new w _, World.ownsRow_nil _ _ _ _, World.ownsRow_nil _ _ _ _, fun j r h => by simp at h, fun j r h => by simp at h⟩

/-- rows, grown: where they stand among all -/
theorem grown_marks {t ts : TypeId} {cs : Value → Nat → Array Value} {W0 W : World} {B pb mu : Nat} {iv iv' : Value} {rs ns ks : List Rw} (h : T2 t ts cs W0 B pb iv rs ns ks ks.length W iv' mu)
    (ho : ∀ j r, rs[j]? = some r → RowAt t W B r ∧ MkAt W r r.n (mkN j)) : ∀ j r, (rs ++ ks.map Rw.up)[j]? = some r → RowAt t W B r ∧ MkAt W r r.n (mkN j) := fun j r hj => by
  rcases Nat.lt_or_ge j rs.length with hlt | hge
  · rw [List.getElem?_append_left hlt] at hj
    exact ho j r hj
  · rw [List.getElem?_append_right hge, List.getElem?_map] at hj
    obtain ⟨s, hs, rfl⟩ := Option.map_eq_some_iff.1 hj
    have hlt := (List.getElem?_eq_some_iff.1 hs).1
    have h1 := h.km _ s hs
    rw [if_pos hlt, Nat.add_sub_cancel' hge] at h1
    exact ⟨(h.ra s (h.mem hs)).up, h1⟩

/-- arrays in a list: two cells each -/
def arrVals (l : List (Rw × Rw)) : List Value := l.flatMap fun p => [p.1.val, p.2.val]
theorem arrVals_length (l : List (Rw × Rw)) : (arrVals l).length = l.length * 2 := by
  induction l with
  | nil => rfl
  | cons p l ih => simp only [arrVals, List.flatMap_cons, List.length_append, List.length_cons, List.length_nil] at ih ⊢; omega
theorem arrVals_get (l : List (Rw × Rw)) : ∀ {i : Nat} {p : Rw × Rw}, l[i]? = some p → (arrVals l)[i * 2]? = some p.1.val ∧ (arrVals l)[i * 2 + 1]? = some p.2.val := by
  induction l with
  | nil => intro i p h; simp at h
  | cons q l ih =>
    intro i p h
    cases i with
    | zero =>
      simp only [List.getElem?_cons_zero, Option.some.injEq] at h
      subst h
      exact ⟨rfl, rfl⟩
    | succ i =>
      rw [List.getElem?_cons_succ] at h
      have := ih h
      have e : (i + 1) * 2 = i * 2 + 2 := by omega
      rw [e]
      exact this
end Go.Proofs.YtpipcpjkfgdpcaaDoor
