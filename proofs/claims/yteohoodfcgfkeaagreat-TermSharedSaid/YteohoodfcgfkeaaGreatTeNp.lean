/- Names that rise: a rising list is told by its members; one more, one less. Plain laws. No condition. -/
import Derived.Test.YteohoodfcgfkeaaGreatTeTm
namespace Go.Proofs.YteohoodfcgfkeaaGreat
open Go.RowKit

/-- names that rise, each once -/
def Rise (l : List ByteArray) : Prop := (l.map fun s => s.data.toList).Pairwise (· < ·)
theorem rise_cons {a : ByteArray} {l : List ByteArray} : Rise (a :: l) ↔ (∀ b ∈ l, a.data.toList < b.data.toList) ∧ Rise l := by
  unfold Rise
  rw [List.map_cons, List.pairwise_cons]
  refine and_congr_left fun _ => ⟨fun h b hb => h _ (List.mem_map.2 ⟨b, hb, rfl⟩), fun h b hb => ?_⟩
  obtain ⟨c, hc, rfl⟩ := List.mem_map.1 hb
  exact h c hc
theorem rise_unique : ∀ {l m : List ByteArray}, Rise l → Rise m → (∀ s, s ∈ l ↔ s ∈ m) → l = m
  | [], [], _, _, _ => rfl
  | [], b :: m, _, _, h => absurd ((h b).2 (List.mem_cons_self ..)) List.not_mem_nil
  | a :: l, [], _, _, h => absurd ((h a).1 (List.mem_cons_self ..)) List.not_mem_nil
  | a :: l, b :: m, hl, hm, h => by
    obtain ⟨hl1, hl2⟩ := rise_cons.1 hl
    obtain ⟨hm1, hm2⟩ := rise_cons.1 hm
    have e : a = b := by
      rcases List.mem_cons.1 ((h a).1 (List.mem_cons_self ..)) with e | ha
      · exact e
      · rcases List.mem_cons.1 ((h b).2 (List.mem_cons_self ..)) with e | hb
        · exact e.symm
        · exact absurd (hm1 a ha) (List.lt_asymm (hl1 b hb))
    subst e
    congr 1
    refine rise_unique hl2 hm2 fun s => ⟨fun hs => ?_, fun hs => ?_⟩
    · rcases List.mem_cons.1 ((h s).1 (List.mem_cons_of_mem _ hs)) with e | h'
      · subst e; exact absurd (hl1 s hs) (List.lt_irrefl _)
      · exact h'
    · rcases List.mem_cons.1 ((h s).2 (List.mem_cons_of_mem _ hs)) with e | h'
      · subst e; exact absurd (hm1 s hs) (List.lt_irrefl _)
      · exact h'
theorem rise_filter {l : List ByteArray} (h : Rise l) (p : ByteArray → Bool) : Rise (l.filter p) := by
  unfold Rise at *
  exact h.sublist (List.filter_sublist.map _)
theorem rise_get {l : List ByteArray} (h : Rise l) {i j : Nat} (hij : i < j) {a b : ByteArray} (ha : l[i]? = some a) (hb : l[j]? = some b) : a.data.toList < b.data.toList := by
  obtain ⟨h1, e1⟩ := List.getElem?_eq_some_iff.1 ha
  obtain ⟨h2, e2⟩ := List.getElem?_eq_some_iff.1 hb
  have := List.pairwise_iff_getElem.1 h i j (by simpa using h1) (by simpa using h2) hij
  simpa [e1, e2] using this
/-- a name is not on a rising list: the list with it has one more -/
theorem rise_more {l m : List ByteArray} {s : ByteArray} (hl : Rise l) (hm : Rise m) (h : ∀ x, x ∈ m ↔ x ∈ l ∨ x = s) (hs : s ∉ l) : m.filter (fun x => !decide (x = s)) = l ∧ m.length = l.length + 1 := by
  have e : m.filter (fun x => !decide (x = s)) = l := rise_unique (rise_filter hm _) hl fun x => by
    rw [List.mem_filter, h x]
    constructor
    · rintro ⟨h1 | h1, h2⟩
      · exact h1
      · simp [h1] at h2
    · intro h1
      refine ⟨.inl h1, ?_⟩
      have : ¬ x = s := fun e => hs (by rw [← e]; exact h1)
      simp [this]
  refine ⟨e, ?_⟩
  have hc : m.length = (m.filter fun x => !decide (x = s)).length + (m.filter fun x => decide (x = s)).length := by
    clear e h hl hm
    induction m with
    | nil => rfl
    | cons a r ih =>
      by_cases ha : a = s
      · simp [ha]; omega
      · simp [ha]; omega
  have h1 : m.filter (fun x => decide (x = s)) = [s] := rise_unique (rise_filter hm _) (by simp [Rise]) fun x => by
    rw [List.mem_filter, h x]
    simp only [decide_eq_true_eq, List.mem_singleton]
    exact ⟨fun h2 => h2.2, fun e => ⟨.inr e, e⟩⟩
  rw [hc, e, h1]
  rfl
theorem rise_has {l m : List ByteArray} {s : ByteArray} (hl : Rise l) (hm : Rise m) (h : ∀ x, x ∈ m ↔ x ∈ l ∨ x = s) (hs : s ∈ l) : l = m :=
  rise_unique hl hm fun x => by
    rw [h x]
    exact ⟨.inl, fun h1 => h1.elim id fun e => e ▸ hs⟩
/-- the place of an element among those that a test takes -/
theorem filter_at {α : Type} {p : α → Bool} {m : List α} {i : Nat} {x : α} (hx : m[i]? = some x) (hp : p x = true) : (m.filter p)[((m.take i).filter p).length]? = some x := by
  obtain ⟨h1, e1⟩ := List.getElem?_eq_some_iff.1 hx
  have e : m = m.take i ++ x :: m.drop (i + 1) := by rw [← e1, ← List.drop_eq_getElem_cons h1, List.take_append_drop]
  have e2 : m.filter p = (m.take i).filter p ++ x :: (m.drop (i + 1)).filter p := by
    conv => lhs; rw [e]
    rw [List.filter_append, List.filter_cons, if_pos hp]
  rw [e2, List.getElem?_append_right (Nat.le_refl _)]
  simp
theorem filter_take {α : Type} {p : α → Bool} {m : List α} {i : Nat} {x : α} (hx : m[i]? = some x) : ((m.take (i + 1)).filter p).length = ((m.take i).filter p).length + if p x = true then 1 else 0 := by
  rw [List.take_add_one, hx, List.filter_append, List.length_append]
  by_cases hp : p x = true
  · simp [hp]
  · simp [hp]
end Go.Proofs.YteohoodfcgfkeaaGreat
