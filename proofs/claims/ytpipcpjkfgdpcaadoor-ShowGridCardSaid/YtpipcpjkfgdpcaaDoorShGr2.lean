/- What ShowGrid looks at, line by line; what an array that is laid out has. No condition. -/
import Derived.Test.YtpipcpjkfgdpcaaDoorShGr1
namespace Go.Proofs.YtpipcpjkfgdpcaaDoor
open Go.RowKit

theorem mayGo_pre : ∀ (l : List Int) (x n : Int), mayGo n (l ++ [x]) = 0 → mayGo n l = 0
  | [], _, _, _ => rfl
  | k :: r, x, n, h => by
    rw [List.cons_append] at h
    unfold mayGo at h ⊢
    split at h
    · cases h
    · rename_i h1
      split at h
      · cases h
      · rename_i h2
        rw [if_neg h1, if_neg h2]
        exact mayGo_pre r x _ h
theorem shMay_pre {l : List Int} {x : Int} (h : shMay (l ++ [x]) = 0) : shMay l = 0 := by
  obtain ⟨h1, h2, h3⟩ := may_nonneg h
  unfold shMay
  rw [if_neg, if_neg, mayGo_pre l x 1 h3]
  · rw [List.length_append] at h2; omega
  · intro e
    obtain ⟨k, hk, hd⟩ := List.any_eq_true.1 e
    have := h1 k (List.mem_append_left _ hk)
    simp at hd
    omega
theorem places_one : ∀ (l : List Int), (∀ x ∈ l, 1 ≤ x) → 1 ≤ places l := by
  have h : ∀ (l : List Int) (n : Int), 1 ≤ n → (∀ x ∈ l, 1 ≤ x) → 1 ≤ l.foldl (· * ·) n := by
    intro l
    induction l with
    | nil => intro n hn _; exact hn
    | cons x r ih =>
      intro n hn hx
      rw [List.foldl_cons]
      refine ih (n * x) ?_ (fun y hy => hx y (by simp [hy]))
      have h1 := hx x (by simp)
      have := Int.mul_le_mul hn h1 (by decide) (by omega)
      omega
  exact fun l hl => h l 1 (by decide) hl
theorem grid_parts {s a : List Int} (h0 : arMay s a = 0) (hk : 2 ≤ s.length) (ha : a.length ≠ 0) : ∃ (s0 : List Int) (m R : Nat), s = s0 ++ [(m : Int)] ∧ 1 ≤ m ∧ 1 ≤ R ∧ (∀ x ∈ s0, 1 ≤ x ∧ x ≤ 4096) ∧ shMay s0 = 0 ∧ places s0 = (R : Int) ∧ R * m = a.length ∧
    text s a = sufT s a m a.length R 0 ∧ s.take (s.length - 1) = s0 ∧ m ≤ 4096 := by
  obtain ⟨hM, hP, h8, h4⟩ := may_parts h0
  obtain ⟨hn, _, hg⟩ := may_nonneg hM
  have hs : s ≠ [] := fun e => by rw [e] at hk; simp at hk
  have hlast : 0 ≤ s.getLast hs := hn _ (List.getLast_mem hs)
  obtain ⟨m, hmm⟩ : ∃ m : Nat, s.getLast hs = m := ⟨_, (Int.toNat_of_nonneg hlast).symm⟩
  have hsd : s = s.dropLast ++ [(m : Int)] := by rw [← hmm]; exact (List.dropLast_concat_getLast hs).symm
  have hla1 : lastOf s = m := by unfold lastOf; rw [List.getLast?_eq_some_getLast hs, Option.getD_some, hmm]; simp
  have hne : ∀ x ∈ s, x ≠ 0 := fold_pos s 1 (by show places s ≠ 0; rw [hP]; omega)
  have hle := may_le s 1 hg
  have hall : ∀ x ∈ s, 1 ≤ x ∧ x ≤ 4096 := fun x hx => ⟨by have := hn x hx; have := hne x hx; omega, hle x hx⟩
  obtain ⟨s0, hs0⟩ : ∃ s0, s0 = s.dropLast := ⟨_, rfl⟩
  rw [← hs0] at hsd
  have hall0 : ∀ x ∈ s0, 1 ≤ x ∧ x ≤ 4096 := fun x hx => hall x (by rw [hsd]; simp [hx])
  have hm1 : (1 : Int) ≤ m ∧ (m : Int) ≤ 4096 := hall m (by rw [hsd]; simp)
  have hp0 := places_one s0 (fun x hx => (hall0 x hx).1)
  obtain ⟨R, hR⟩ : ∃ R : Nat, places s0 = R := ⟨(places s0).toNat, by omega⟩
  have hRm : R * m = a.length := by
    have h := hP
    rw [hsd, places_snoc, hR] at h
    exact_mod_cast h
  refine ⟨s0, m, R, hsd, by omega, by omega, hall0, shMay_pre (x := (m : Int)) (by rw [← hsd]; exact hM), hR, hRm, ?_, ?_, by omega⟩
  · unfold text
    rw [if_neg ha, if_neg (by omega), if_neg (by omega), hla1]
    have h := grid_suf s a m a.length (by omega) R 0
    rw [Nat.zero_add, Nat.zero_mul, hRm] at h
    rw [h]
    rfl
  · rw [hsd, List.length_append, List.length_singleton, Nat.add_sub_cancel, List.take_left]

/-- where the walk over the lines stands: row rows are done, e empty lines lie ahead -/
structure Pos (s a : List Int) (m N R : Nat) (L : List (List UInt8)) (i row e : Nat) : Prop where
  rest : L.drop i = List.replicate e [] ++ lines s a m N (R - row) row
  le : row ≤ R
  done : row = R → e = 0
  first : row = 0 → i = 0 ∧ e = 0
  back : 1 ≤ row → row < R → ∃ f, f + e = trail (s.take (s.length - 1)) ((row : Int) - 1) ∧ f + 1 ≤ i ∧ L[i - f - 1]? = some (rowT a m N (row - 1)) ∧ ∀ j, 1 ≤ j → j ≤ f → L[i - j]? = some []
theorem Pos.start (s a : List Int) (m N R : Nat) : Pos s a m N R (lines s a m N R 0) 0 0 0 :=
  ⟨by simp, Nat.zero_le _, fun _ => rfl, fun _ => ⟨rfl, rfl⟩, fun h => absurd h (by decide)⟩
section
variable {s a : List Int} {m N R : Nat} {L : List (List UInt8)} {i row e : Nat}
theorem Pos.empty (h : Pos s a m N R L i row (e + 1)) : L[i]? = some [] ∧ Pos s a m N R L (i + 1) row e := by
  have h0 : L[i]? = some [] := by
    have : (L.drop i)[0]? = some [] := by rw [h.rest, List.replicate_succ]; rfl
    rw [List.getElem?_drop] at this
    simpa using this
  have hd : L.drop (i + 1) = List.replicate e [] ++ lines s a m N (R - row) row := by
    rw [← List.drop_drop, h.rest, List.replicate_succ]
    rfl
  refine ⟨h0, hd, h.le, fun hr => absurd (h.done hr) (by omega), fun hr => absurd (h.first hr).2 (by omega), fun h1 h2 => ?_⟩
  obtain ⟨f, b1, b2, b3, b4⟩ := h.back h1 h2
  refine ⟨f + 1, by omega, by omega, ?_, fun j hj1 hj2 => ?_⟩
  · rw [show i + 1 - (f + 1) - 1 = i - f - 1 by omega]; exact b3
  · by_cases hj : j = 1
    · subst hj; exact h0
    · rw [show i + 1 - j = i - (j - 1) by omega]
      exact b4 (j - 1) (by omega) (by omega)
theorem Pos.line (h : Pos s a m N R L i row 0) (hlt : row < R) : L[i]? = some (rowT a m N row) ∧ Pos s a m N R L (i + 1) (row + 1) (if row + 1 < R then trail (s.take (s.length - 1)) (row : Int) else 0) := by
  obtain ⟨n, hn⟩ : ∃ n, R - row = n + 1 := ⟨R - row - 1, by omega⟩
  have hr : L.drop i = rowT a m N row :: (if n = 0 then [] else List.replicate (trail (s.take (s.length - 1)) (row : Int)) [] ++ lines s a m N n (row + 1)) := by
    have := h.rest
    rw [hn] at this
    simpa [lines] using this
  have h0 : L[i]? = some (rowT a m N row) := by
    have : (L.drop i)[0]? = some (rowT a m N row) := by rw [hr]; rfl
    rw [List.getElem?_drop] at this
    simpa using this
  have hd : L.drop (i + 1) = (if n = 0 then [] else List.replicate (trail (s.take (s.length - 1)) (row : Int)) [] ++ lines s a m N n (row + 1)) := by
    rw [← List.drop_drop, hr]
    rfl
  refine ⟨h0, ?_, by omega, fun e => by rw [if_neg (by omega)], fun e => absurd e (by omega), fun h1 h2 => ?_⟩
  · rw [hd, show R - (row + 1) = n by omega]
    by_cases hn0 : n = 0
    · subst hn0
      rw [if_pos rfl, if_neg (by omega)]
      rfl
    · rw [if_neg hn0, if_pos (by omega)]
  · rw [if_pos h2]
    refine ⟨0, ?_, by omega, ?_, fun j hj1 hj2 => by omega⟩
    · rw [Nat.zero_add]
      congr 1
      omega
    · rw [show i + 1 - 0 - 1 = i by omega, show row + 1 - 1 = row by omega]
      exact h0
theorem Pos.end_ (h : Pos s a m N R L i R e) : L.length ≤ i := by
  have h1 := h.rest
  rw [h.done rfl, Nat.sub_self] at h1
  have : L.drop i = [] := by rw [h1]; rfl
  exact List.drop_eq_nil_iff.1 this
theorem Pos.more (h : Pos s a m N R L i row e) (hlt : row < R) : i < L.length := by
  obtain ⟨n, hn⟩ : ∃ n, R - row = n + 1 := ⟨R - row - 1, by omega⟩
  have : L.drop i ≠ [] := by
    rw [h.rest, hn]
    cases e <;> simp [lines, List.replicate_succ]
  exact Classical.byContradiction fun hc => this (List.drop_eq_nil_of_le (by omega))
end
theorem joined_words (a : List Int) : Lib.join (wordsFrom a a.length 0) [32] = joined a := by
  rw [words_all a a.length 0 (by omega), List.drop_zero]
  exact join_words a
/-- a list of numbers, flat -/
theorem flat_of_list {a : List Int} (h0 : 0 < a.length) (h4 : a.length ≤ 4096) : arMay [(a.length : Int)] a = 0 ∧ (a.length ≠ 1 → flatOf [(a.length : Int)] a = joined a) ∧ (a.length = 1 → flatOf [(a.length : Int)] a = [49, 32, 36, 32] ++ joined a) := by
  obtain ⟨m1, m2⟩ := may_list h4
  by_cases h1 : a.length = 1
  · have hne : a ≠ [] := fun e => by rw [e] at h0; simp at h0
    obtain ⟨f1, f2⟩ := flat_shape (a := [(a.length : Int)]) (l := a) (by simp) m1 m2 (fun h => by omega)
    refine ⟨f2, fun h => absurd h1 h, fun _ => ?_⟩
    unfold flatOf
    rw [if_pos f2, f1, if_neg (by omega), h1]
    have : joined [((1 : Nat) : Int)] = [49] := by
      have h : Lib.decDigits 1 = [49] := by rw [Lib.decDigits, dif_pos (by decide)]; rfl
      simp [joined, digits, h]
    rw [this]
    rfl
  · obtain ⟨f1, f2⟩ := flat_list (l := a) (by omega) h4
    refine ⟨f2, fun _ => ?_, fun h => absurd h h1⟩
    unfold flatOf
    rw [if_pos f2, f1]
end Go.Proofs.YtpipcpjkfgdpcaaDoor
