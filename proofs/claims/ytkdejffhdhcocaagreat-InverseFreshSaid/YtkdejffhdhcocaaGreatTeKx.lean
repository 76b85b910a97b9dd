/- Small plain laws on terms: zero term, terms by kind, kids by pattern, rows of terms. No condition. -/
import Derived.Test.YtkdejffhdhcocaaGreatTePa
namespace Go.Proofs.YtkdejffhdhcocaaGreat
open Go.RowKit

/-- the zero term -/
def tNil : Tm := .mk 0 ⟨#[]⟩ 0 [] [] []
/-- a term of a kind and its kids -/
def tOf (k : Int) (l : List Tm) : Tm := .mk k ⟨#[]⟩ 0 [] [] l
def nth (l : List Tm) (i : Nat) : Tm := l.getD i tNil
theorem two_kids {t : Tm} {b : Bool} (h : goodT b t = true) {c d : UInt8} (hp : patOf t.kind = [c, d]) (h14 : ¬ t.kind = 14) (h5 : ¬ t.kind = 5) (h43 : ¬ t.kind = 43) : ∃ x y, t.kids = [x, y] ∧ fitsB x c = true ∧ fitsB y d = true := by
  rw [goodT_node, Bool.and_eq_true] at h
  have h1 := h.1
  unfold nodeB kidsB at h1
  rw [if_neg h14, if_neg h5, if_neg h43, hp] at h1
  simp only [Bool.and_eq_true] at h1
  obtain ⟨⟨_, h2⟩, _⟩ := h1
  cases hk : t.kids with
  | nil => rw [hk] at h2; simp [zipFits] at h2
  | cons x r =>
    cases r with
    | nil => rw [hk] at h2; simp [zipFits] at h2
    | cons y q =>
      cases q with
      | nil => rw [hk] at h2; simp only [zipFits, Bool.and_eq_true, Bool.and_true] at h2; exact ⟨x, y, rfl, h2.1, h2.2⟩
      | cons z q => rw [hk] at h2; simp [zipFits] at h2
theorem one_kid {t : Tm} {b : Bool} (h : goodT b t = true) {c : UInt8} (hp : patOf t.kind = [c]) (h14 : ¬ t.kind = 14) (h5 : ¬ t.kind = 5) (h43 : ¬ t.kind = 43) : ∃ x, t.kids = [x] ∧ fitsB x c = true := by
  rw [goodT_node, Bool.and_eq_true] at h
  have h1 := h.1
  unfold nodeB kidsB at h1
  rw [if_neg h14, if_neg h5, if_neg h43, hp] at h1
  simp only [Bool.and_eq_true] at h1
  obtain ⟨⟨_, h2⟩, _⟩ := h1
  cases hk : t.kids with
  | nil => rw [hk] at h2; simp [zipFits] at h2
  | cons x r =>
    cases r with
    | nil => rw [hk] at h2; simp only [zipFits, Bool.and_true] at h2; exact ⟨x, rfl, h2⟩
    | cons y q => rw [hk] at h2; simp [zipFits] at h2
theorem may_goodT {t : Tm} {c : Int} (h : mayT t c = 0) : goodT false t = true ∧ greatT t = false ∧ cls t.kind = c := by
  unfold mayT at h
  split at h
  · cases h
  split at h
  · cases h
  rename_i hg
  split at h
  · cases h
  rename_i hd
  split at h
  · cases h
  rename_i hc
  refine ⟨?_, by simpa using hg, ?_⟩
  · cases h' : goodT false t with
    | true => rfl
    | false => exact absurd h' hd
  · exact Decidable.not_not.1 hc
theorem tmIs_cells {w : World} : ∀ {t : Tm} {vs : List Value}, TmIs w t vs → vs.length = 6 ∧ ∀ u ∈ vs, u.oneCell' = true
  | .mk _ _ _ _ _ _, vs, h => by
    simp only [TmIs] at h
    obtain ⟨A, ca, B, cb, K, ck, rfl, _⟩ := h
    refine ⟨rfl, fun u hu => ?_⟩
    simp only [List.mem_cons, List.not_mem_nil, or_false] at hu
    rcases hu with rfl | rfl | rfl | rfl | rfl | rfl <;> rfl
/-- the cells of a row of terms: wherever they lie, the row lies -/
theorem kids_cells {w : World} {b off : Nat} : ∀ (ks : List Tm) (i0 : Nat), KidsAt w (some ⟨b, off, none⟩) ks i0 → ∃ vs : List Value, vs.length = ks.length * 6 ∧ (∀ u ∈ vs, u.oneCell' = true) ∧ (∀ j u, vs[j]? = some u → w.cell? ⟨b, off + i0 * 6 + j, none⟩ = some u) ∧
    ∀ (w' : World) (g' o' : Nat), Below w.heap.size w w' → g' < w'.heap.size → (∀ j u, vs[j]? = some u → w'.cell? ⟨g', o' + i0 * 6 + j, none⟩ = some u) → KidsAt w' (some ⟨g', o', none⟩) ks i0
  | [], _, _ => ⟨[], rfl, fun u h => (by cases h), fun j u h => (by simp at h), fun w' g' o' _ _ _ => by simp only [KidsAt]⟩
  | t :: r, i0, h => by
    simp only [KidsAt] at h
    obtain ⟨⟨b', off', vs0, e, hlt, h1, h2⟩, h3⟩ := h
    simp only [Option.some.injEq, Addr.mk.injEq, and_true] at e
    obtain ⟨rfl, rfl⟩ := e
    obtain ⟨vr, l1, l2, l3, l4⟩ := kids_cells r (i0 + 1) h3
    obtain ⟨m1, m2⟩ := tmIs_cells h1
    refine ⟨vs0 ++ vr, by simp [m1, l1]; omega, fun u hu => ?_, fun j u hj => ?_, fun w' g' o' hb hg hc => ?_⟩
    · rcases List.mem_append.1 hu with hu | hu
      · exact m2 u hu
      · exact l2 u hu
    · by_cases hj6 : j < 6
      · rw [List.getElem?_append_left (by omega)] at hj
        exact h2 j u hj
      · rw [List.getElem?_append_right (by omega), m1] at hj
        have := l3 (j - 6) u hj
        rwa [show off + (i0 + 1) * 6 + (j - 6) = off + i0 * 6 + j by omega] at this
    · simp only [KidsAt]
      refine ⟨⟨g', o', vs0, rfl, hg, h1.on hb, fun q u hq => ?_⟩, l4 w' g' o' hb hg fun j u hj => ?_⟩
      · have hq6 : q < 6 := by rw [← m1]; exact (List.getElem?_eq_some_iff.1 hq).1
        exact hc q u (by rw [List.getElem?_append_left (by omega)]; exact hq)
      · have := hc (6 + j) u (by rw [List.getElem?_append_right (by omega), m1, Nat.add_sub_cancel_left]; exact hj)
        rwa [show o' + i0 * 6 + (6 + j) = o' + (i0 + 1) * 6 + j by omega] at this
/-- a name -/
def tNameB (s : ByteArray) : Tm := .mk 2 s 0 [] [] []
theorem prim_at (s : ByteArray) (w : World) (A B K : Option Addr) : TmAt w (tPrim s) A B K := ⟨IntsAt.nil _ _, IntsAt.nil _ _, KidsAt.nil _ _⟩
/-- a new row of terms -/
theorem row_at {w W : World} {g : Nat} : ∀ (l : List (Tm × Option Addr × Nat × Option Addr × Nat × Option Addr × Nat)) (i : Nat), (∀ x ∈ l, TmAt W x.1 x.2.1 x.2.2.2.1 x.2.2.2.2.2.1) → g < W.heap.size →
    (∀ j u, (l.flatMap fun x => (tmCells x.1 x.2.1 x.2.2.1 x.2.2.2.1 x.2.2.2.2.1 x.2.2.2.2.2.1 x.2.2.2.2.2.2).toList)[j]? = some u → W.cell? ⟨g, i * 6 + j, none⟩ = some u) → KidsAt W (some ⟨g, 0, none⟩) (l.map (·.1)) i
  | [], _, _, _, _ => by simp only [List.map_nil, KidsAt]
  | x :: r, i, h, hg, hc => by
    simp only [List.map_cons, KidsAt]
    refine ⟨⟨g, 0, _, rfl, hg, (h x (List.mem_cons_self ..)).is x.2.2.1 x.2.2.2.2.1 x.2.2.2.2.2.2, fun q u hq => ?_⟩, row_at (w := w) r (i + 1) (fun y hy => h y (List.mem_cons_of_mem _ hy)) hg fun j u hj => ?_⟩
    · have hq6 : q < 6 := (List.getElem?_eq_some_iff.1 hq).1
      rw [Nat.zero_add]
      exact hc q u (by rw [List.flatMap_cons, List.getElem?_append_left (by simpa using hq6)]; exact hq)
    · have h1 := hc (6 + j) u (by rw [List.flatMap_cons, List.getElem?_append_right (by simp)]; simpa using hj)
      rwa [show i * 6 + (6 + j) = (i + 1) * 6 + j by omega] at h1
theorem row_new_at {w : World} (l : List (Tm × Option Addr × Nat × Option Addr × Nat × Option Addr × Nat)) (h : ∀ x ∈ l, TmAt w x.1 x.2.1 x.2.2.2.1 x.2.2.2.2.2.1) {cs : Array Value} (hcs : cs.toList = l.flatMap fun x => (tmCells x.1 x.2.1 x.2.2.1 x.2.2.2.1 x.2.2.2.2.1 x.2.2.2.2.2.1 x.2.2.2.2.2.2).toList) :
    KidsAt (w.alloc (.cells cs TTm)) (some ⟨w.heap.size, 0, none⟩) (l.map (·.1)) 0 := by
  have hb : Below w.heap.size w (w.alloc (.cells cs TTm)) := (Below.refl _ _).alloc (Nat.le_refl _) _
  refine row_at (w := w) l 0 (fun x hx => (h x hx).on hb) (by simp) fun j u hj => ?_
  rw [← hcs] at hj
  rw [Nat.zero_mul, Nat.zero_add]
  exact cell_at (heap_alloc_new w _) (by simpa using hj)
end Go.Proofs.YtkdejffhdhcocaaGreat
