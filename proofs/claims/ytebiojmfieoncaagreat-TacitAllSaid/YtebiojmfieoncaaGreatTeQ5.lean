/- Trains, plain laws: sizes stay within reach; the kids' valences; what nouns and verbs have as kids. No condition. · A row of terms that may share memory; slices.Clone of terms. Condition: sizes within reach. -/
import Derived.Test.YtebiojmfieoncaaGreatTeQ0
import Derived.Laws.OwnMore
namespace Go.Proofs.YtebiojmfieoncaaGreat
open Go.RowKit

theorem nil_wf : WfT tNil := by
  unfold tNil
  simp only [WfT, WfL]
  exact ⟨by unfold In64; omega, by unfold In64; omega, fun x hx => absurd hx List.not_mem_nil, fun x hx => absurd hx List.not_mem_nil, by show 0 ≤ _; omega, by show 0 ≤ _; omega, by show 0 ≤ _; omega, by show 0 ≤ _; omega, trivial⟩
theorem nth_wf {t : Tm} (h : WfT t) (i : Nat) : WfT (nth t.kids i) := by
  unfold nth
  rw [List.getD_eq_getElem?_getD]
  cases hk : t.kids[i]? with
  | none => exact nil_wf
  | some k => exact h.node.each k (List.mem_of_getElem? hk)
theorem of_wf {k : Int} {l : List Tm} (hk : In64 k) (hl : l.length * 104 ≤ 140737488351232) (h : ∀ t ∈ l, WfT t) : WfT (tOf k l) := by
  unfold tOf
  simp only [WfT]
  exact ⟨hk, by unfold In64; omega, fun x hx => absurd hx List.not_mem_nil, fun x hx => absurd hx List.not_mem_nil, by show 0 ≤ _; omega, by show 0 ≤ _; omega, by show 0 ≤ _; omega, hl, WfL.of h⟩
theorem primT_wf {s : ByteArray} (h : s.size ≤ 140737488351232) : WfT (primT s) := by
  unfold primT
  simp only [WfT, WfL]
  exact ⟨by unfold In64; omega, by unfold In64; omega, fun x hx => absurd hx List.not_mem_nil, fun x hx => absurd hx List.not_mem_nil, h, by show 0 ≤ _; omega, by show 0 ≤ _; omega, by show 0 ≤ _; omega, trivial⟩
theorem with_wf {t : Tm} {ks : List Tm} (h : WfT t) (hl : ks.length = t.kids.length) (hk : ∀ k ∈ ks, WfT k) : WfT (withK t ks) := by
  have q := h.node
  cases t with
  | mk k s n sh a ks' =>
    unfold withK
    simp only [WfT]
    exact ⟨q.kind, q.n, q.sh64, q.at64, q.text, q.sh8, q.at8, by rw [hl]; exact q.kids104, WfL.of hk⟩
theorem tr_wf (N : Nat) : (∀ t, WfT t → WfT (trn N t)) ∧ ∀ v t, WfT t → WfT (trd N v t) := by
  induction N with
  | zero => exact ⟨fun t h => by simpa only [trn] using h, fun v t h => by simpa only [trd] using h⟩
  | succ N ih =>
    have h22 : ∀ e, WfT e → WfT (tOf 22 [e]) := fun e h => of_wf (by unfold In64; omega) (by show 1 * 104 ≤ _; omega) fun t ht => by
      simp only [List.mem_cons, List.not_mem_nil, or_false] at ht
      rw [ht]; exact h
    refine ⟨fun e h => ?_, fun v t h => ?_⟩
    · simp only [trn]
      split
      · split
        · exact primT_wf (by show 1 ≤ _; omega)
        · split
          · exact primT_wf (by show 1 ≤ _; omega)
          · exact h22 e h
      · split
        · refine of_wf (by unfold In64; omega) (by show 2 * 104 ≤ _; omega) fun t ht => ?_
          simp only [List.mem_cons, List.not_mem_nil, or_false] at ht
          rcases ht with rfl | rfl
          · exact ih.2 _ _ (nth_wf h 0)
          · exact ih.1 _ (nth_wf h 1)
        · split
          · refine of_wf (by unfold In64; omega) (by show 3 * 104 ≤ _; omega) fun t ht => ?_
            simp only [List.mem_cons, List.not_mem_nil, or_false] at ht
            rcases ht with rfl | rfl | rfl
            · exact ih.1 _ (nth_wf h 1)
            · exact ih.2 _ _ (nth_wf h 0)
            · exact ih.1 _ (nth_wf h 2)
          · split
            · refine of_wf (by unfold In64; omega) (by rw [List.length_map]; exact h.node.kids104) fun t ht => ?_
              obtain ⟨k, hk, rfl⟩ := List.mem_map.1 ht
              exact ih.1 _ (h.node.each k hk)
            · exact h22 e h
    · simp only [trd]
      split
      · split
        · exact ih.1 _ (by unfold nounT; exact nth_wf (nth_wf (nth_wf h 0) 0) 0)
        · exact h
      · refine with_wf h (by rw [List.length_mapIdx]) fun k hk => ?_
        obtain ⟨i, hi, rfl⟩ := List.mem_mapIdx.1 hk
        have h1 := h.node.each _ (List.getElem_mem hi)
        split
        · exact ih.2 _ _ h1
        · exact h1
theorem valT_mem {t : Tm} {v : Int} (hv : v = 1 ∨ v = 2) : ∀ x ∈ valT t v, x = 0 ∨ x = 1 ∨ x = 2 := by
  unfold valT
  by_cases h25 : t.kind = 25
  · rw [if_pos h25]
    exact fun x hx => by first | (simp at hx; omega) | (simp at hx; done)
  rw [if_neg h25]
  by_cases h26 : t.kind = 26
  · rw [if_pos h26]
    by_cases h2 : v = 1
    · rw [if_pos h2]
      exact fun x hx => by first | (simp at hx; omega) | (simp at hx; done)
    · rw [if_neg h2]
      exact fun x hx => by first | (simp at hx; omega) | (simp at hx; done)
  rw [if_neg h26]
  by_cases h27 : t.kind = 27
  · rw [if_pos h27]
    exact fun x hx => by first | (simp at hx; omega) | (simp at hx; done)
  rw [if_neg h27]
  by_cases h28 : t.kind = 28 ∨ t.kind = 29 ∨ t.kind = 46
  · rw [if_pos h28]
    exact fun x hx => by first | (simp at hx; omega) | (simp at hx; done)
  rw [if_neg h28]
  by_cases h30 : t.kind = 30 ∨ t.kind = 31
  · rw [if_pos h30]
    exact fun x hx => by first | (simp at hx; omega) | (simp at hx; done)
  rw [if_neg h30]
  by_cases h32 : t.kind = 32 ∨ t.kind = 33 ∨ t.kind = 36 ∨ t.kind = 42
  · rw [if_pos h32]
    exact fun x hx => by first | (simp at hx; omega) | (simp at hx; done)
  rw [if_neg h32]
  by_cases h34 : t.kind = 34
  · rw [if_pos h34]
    by_cases h2 : v = 2
    · rw [if_pos h2]
      exact fun x hx => by first | (simp at hx; omega) | (simp at hx; done)
    · rw [if_neg h2]
      exact fun x hx => by first | (simp at hx; omega) | (simp at hx; done)
  rw [if_neg h34]
  by_cases h35 : t.kind = 35
  · rw [if_pos h35]
    exact fun x hx => by first | (simp at hx; omega) | (simp at hx; done)
  rw [if_neg h35]
  by_cases h37 : t.kind = 37
  · rw [if_pos h37]
    by_cases h2 : v = 1
    · rw [if_pos h2]
      exact fun x hx => by first | (simp at hx; omega) | (simp at hx; done)
    · rw [if_neg h2]
      exact fun x hx => by first | (simp at hx; omega) | (simp at hx; done)
  rw [if_neg h37]
  by_cases h38 : t.kind = 38
  · rw [if_pos h38]
    by_cases h2 : v = 2
    · rw [if_pos h2]
      exact fun x hx => by first | (simp at hx; omega) | (simp at hx; done)
    · rw [if_neg h2]
      exact fun x hx => by first | (simp at hx; omega) | (simp at hx; done)
  rw [if_neg h38]
  by_cases h41 : t.kind = 41
  · rw [if_pos h41]
    by_cases h2 : v = 2
    · rw [if_pos h2]
      exact fun x hx => by first | (simp at hx; omega) | (simp at hx; done)
    · rw [if_neg h2]
      by_cases h3 : (decide ((nth t.kids 1).kind = 1) && noneBelow (nth t.kids 1)) = true
      · rw [if_pos h3]
        exact fun x hx => by first | (simp at hx; omega) | (simp at hx; done)
      · rw [if_neg h3]
        exact fun x hx => by first | (simp at hx; omega) | (simp at hx; done)
  rw [if_neg h41]
  by_cases h39 : t.kind = 39
  · rw [if_pos h39]
    by_cases h2 : v = 1
    · rw [if_pos h2]
      exact fun x hx => by first | (simp at hx; omega) | (simp at hx; done)
    · rw [if_neg h2]
      exact fun x hx => by first | (simp at hx; omega) | (simp at hx; done)
  rw [if_neg h39]
  by_cases h40 : t.kind = 40
  · rw [if_pos h40]
    by_cases h2 : v = 1
    · rw [if_pos h2]
      exact fun x hx => by first | (simp at hx; omega) | (simp at hx; done)
    · rw [if_neg h2]
      exact fun x hx => by first | (simp at hx; omega) | (simp at hx; done)
  rw [if_neg h40]
  by_cases h43 : t.kind = 43
  · rw [if_pos h43]
    exact fun x hx => by first | (simp at hx; omega) | (simp at hx; done)
  rw [if_neg h43]
  by_cases h44 : t.kind = 44
  · rw [if_pos h44]
    exact fun x hx => by first | (simp at hx; omega) | (simp at hx; done)
  rw [if_neg h44]
  by_cases h45 : t.kind = 45
  · rw [if_pos h45]
    exact fun x hx => by first | (simp at hx; omega) | (simp at hx; done)
  rw [if_neg h45]
  exact fun x hx => by first | (simp at hx; omega) | (simp at hx; done)
theorem valT_get {t : Tm} {v : Int} (hv : v = 1 ∨ v = 2) (i : Nat) : (valT t v).getD i 0 = 0 ∨ (valT t v).getD i 0 = 1 ∨ (valT t v).getD i 0 = 2 := by
  rw [List.getD_eq_getElem?_getD]
  cases h : (valT t v)[i]? with
  | none => exact .inl rfl
  | some x => exact valT_mem hv x (List.mem_of_getElem? h)
theorem zipf_len : ∀ {ks : List Tm} {p : List UInt8}, zipFits ks p = true → ks.length = p.length
  | [], [], _ => rfl
  | _ :: r, _ :: p, h => by
    simp only [zipFits, Bool.and_eq_true] at h
    simp [zipf_len h.2]
  | [], _ :: _, h => by simp [zipFits] at h
  | _ :: _, [], h => by simp [zipFits] at h
theorem good_kids {t : Tm} {b : Bool} (h : goodT b t = true) : kidsB t.kind t.kids = true := by
  rw [goodT_node, Bool.and_eq_true] at h
  have h1 := h.1
  unfold nodeB at h1
  simp only [Bool.and_eq_true] at h1
  exact h1.1.2
theorem patk_len {t : Tm} {b : Bool} (h : goodT b t = true) (c : Int) (n : Nat) (hk : t.kind = c) (h14 : c ≠ 14) (h5 : c ≠ 5) (h43 : c ≠ 43) (hn : (patOf c).length = n) : t.kids.length = n := by
  have h1 := good_kids h
  rw [hk] at h1
  unfold kidsB at h1
  rw [if_neg h14, if_neg h5, if_neg h43] at h1
  rw [zipf_len h1, hn]
theorem valT_len {t : Tm} {b : Bool} (hg : goodT b t = true) (v : Int) : (valT t v).length ≤ t.kids.length := by
  have e25 := fun h => patk_len hg 25 1 h (by decide) (by decide) (by decide) (by decide)
  have e26 := fun h => patk_len hg 26 1 h (by decide) (by decide) (by decide) (by decide)
  have e27 := fun h => patk_len hg 27 1 h (by decide) (by decide) (by decide) (by decide)
  have e28 := fun h => patk_len hg 28 2 h (by decide) (by decide) (by decide) (by decide)
  have e29 := fun h => patk_len hg 29 2 h (by decide) (by decide) (by decide) (by decide)
  have e46 := fun h => patk_len hg 46 2 h (by decide) (by decide) (by decide) (by decide)
  have e30 := fun h => patk_len hg 30 2 h (by decide) (by decide) (by decide) (by decide)
  have e31 := fun h => patk_len hg 31 2 h (by decide) (by decide) (by decide) (by decide)
  have e32 := fun h => patk_len hg 32 2 h (by decide) (by decide) (by decide) (by decide)
  have e33 := fun h => patk_len hg 33 2 h (by decide) (by decide) (by decide) (by decide)
  have e36 := fun h => patk_len hg 36 2 h (by decide) (by decide) (by decide) (by decide)
  have e42 := fun h => patk_len hg 42 1 h (by decide) (by decide) (by decide) (by decide)
  have e34 := fun h => patk_len hg 34 2 h (by decide) (by decide) (by decide) (by decide)
  have e35 := fun h => patk_len hg 35 2 h (by decide) (by decide) (by decide) (by decide)
  have e37 := fun h => patk_len hg 37 2 h (by decide) (by decide) (by decide) (by decide)
  have e38 := fun h => patk_len hg 38 2 h (by decide) (by decide) (by decide) (by decide)
  have e41 := fun h => patk_len hg 41 2 h (by decide) (by decide) (by decide) (by decide)
  have e39 := fun h => patk_len hg 39 2 h (by decide) (by decide) (by decide) (by decide)
  have e40 := fun h => patk_len hg 40 2 h (by decide) (by decide) (by decide) (by decide)
  have e44 := fun h => patk_len hg 44 2 h (by decide) (by decide) (by decide) (by decide)
  have e45 := fun h => patk_len hg 45 3 h (by decide) (by decide) (by decide) (by decide)
  unfold valT
  by_cases h25 : t.kind = 25
  · rw [if_pos h25]
    first | exact Nat.zero_le _ | (simp; done) | (simp; omega)
  rw [if_neg h25]
  by_cases h26 : t.kind = 26
  · rw [if_pos h26]
    by_cases h2 : v = 1
    · rw [if_pos h2]
      first | exact Nat.zero_le _ | (simp; done) | (simp; omega)
    · rw [if_neg h2]
      first | exact Nat.zero_le _ | (simp; done) | (simp; omega)
  rw [if_neg h26]
  by_cases h27 : t.kind = 27
  · rw [if_pos h27]
    first | exact Nat.zero_le _ | (simp; done) | (simp; omega)
  rw [if_neg h27]
  by_cases h28 : t.kind = 28 ∨ t.kind = 29 ∨ t.kind = 46
  · rw [if_pos h28]
    first | exact Nat.zero_le _ | (simp; done) | (simp; omega)
  rw [if_neg h28]
  by_cases h30 : t.kind = 30 ∨ t.kind = 31
  · rw [if_pos h30]
    first | exact Nat.zero_le _ | (simp; done) | (simp; omega)
  rw [if_neg h30]
  by_cases h32 : t.kind = 32 ∨ t.kind = 33 ∨ t.kind = 36 ∨ t.kind = 42
  · rw [if_pos h32]
    first | exact Nat.zero_le _ | (simp; done) | (simp; omega)
  rw [if_neg h32]
  by_cases h34 : t.kind = 34
  · rw [if_pos h34]
    by_cases h2 : v = 2
    · rw [if_pos h2]
      first | exact Nat.zero_le _ | (simp; done) | (simp; omega)
    · rw [if_neg h2]
      first | exact Nat.zero_le _ | (simp; done) | (simp; omega)
  rw [if_neg h34]
  by_cases h35 : t.kind = 35
  · rw [if_pos h35]
    first | exact Nat.zero_le _ | (simp; done) | (simp; omega)
  rw [if_neg h35]
  by_cases h37 : t.kind = 37
  · rw [if_pos h37]
    by_cases h2 : v = 1
    · rw [if_pos h2]
      first | exact Nat.zero_le _ | (simp; done) | (simp; omega)
    · rw [if_neg h2]
      first | exact Nat.zero_le _ | (simp; done) | (simp; omega)
  rw [if_neg h37]
  by_cases h38 : t.kind = 38
  · rw [if_pos h38]
    by_cases h2 : v = 2
    · rw [if_pos h2]
      first | exact Nat.zero_le _ | (simp; done) | (simp; omega)
    · rw [if_neg h2]
      first | exact Nat.zero_le _ | (simp; done) | (simp; omega)
  rw [if_neg h38]
  by_cases h41 : t.kind = 41
  · rw [if_pos h41]
    by_cases h2 : v = 2
    · rw [if_pos h2]
      first | exact Nat.zero_le _ | (simp; done) | (simp; omega)
    · rw [if_neg h2]
      by_cases h3 : (decide ((nth t.kids 1).kind = 1) && noneBelow (nth t.kids 1)) = true
      · rw [if_pos h3]
        first | exact Nat.zero_le _ | (simp; done) | (simp; omega)
      · rw [if_neg h3]
        first | exact Nat.zero_le _ | (simp; done) | (simp; omega)
  rw [if_neg h41]
  by_cases h39 : t.kind = 39
  · rw [if_pos h39]
    by_cases h2 : v = 1
    · rw [if_pos h2]
      first | exact Nat.zero_le _ | (simp; done) | (simp; omega)
    · rw [if_neg h2]
      first | exact Nat.zero_le _ | (simp; done) | (simp; omega)
  rw [if_neg h39]
  by_cases h40 : t.kind = 40
  · rw [if_pos h40]
    by_cases h2 : v = 1
    · rw [if_pos h2]
      first | exact Nat.zero_le _ | (simp; done) | (simp; omega)
    · rw [if_neg h2]
      first | exact Nat.zero_le _ | (simp; done) | (simp; omega)
  rw [if_neg h40]
  by_cases h43 : t.kind = 43
  · rw [if_pos h43]
    first | exact Nat.zero_le _ | (simp; done) | (simp; omega)
  rw [if_neg h43]
  by_cases h44 : t.kind = 44
  · rw [if_pos h44]
    first | exact Nat.zero_le _ | (simp; done) | (simp; omega)
  rw [if_neg h44]
  by_cases h45 : t.kind = 45
  · rw [if_pos h45]
    first | exact Nat.zero_le _ | (simp; done) | (simp; omega)
  rw [if_neg h45]
  first | exact Nat.zero_le _ | (simp; done) | (simp; omega)
theorem valT_kid {t : Tm} {b : Bool} (hg : goodT b t = true) {v : Int} {i : Nat} (h : 0 < (valT t v).getD i 0) : i < t.kids.length := by
  have h1 := valT_len hg v
  rw [List.getD_eq_getElem?_getD] at h
  cases hx : (valT t v)[i]? with
  | none => rw [hx] at h; simp at h
  | some x => have := (List.getElem?_eq_some_iff.1 hx).1; omega
theorem fits_noun {t : Tm} (h : fitsB t 110 = true) : cls t.kind = 1 := by
  unfold fitsB at h
  rw [if_pos rfl] at h
  exact of_decide_eq_true h
theorem three_fits {t : Tm} {b : Bool} (h : goodT b t = true) {c d e : UInt8} (hp : patOf t.kind = [c, d, e]) (h14 : ¬ t.kind = 14) (h5 : ¬ t.kind = 5) (h43 : ¬ t.kind = 43) : ∃ x y z, t.kids = [x, y, z] ∧ fitsB x c = true ∧ fitsB y d = true ∧ fitsB z e = true := by
  have h1 := good_kids h
  unfold kidsB at h1
  rw [if_neg h14, if_neg h5, if_neg h43, hp] at h1
  match hk : t.kids, h1 with
  | [x, y, z], h1 =>
    simp only [zipFits, Bool.and_eq_true, Bool.and_true] at h1
    exact ⟨x, y, z, rfl, h1.1, h1.2.1, h1.2.2⟩
  | [], h1 => simp [zipFits] at h1
  | [_], h1 => simp [zipFits] at h1
  | [_, _], h1 => simp [zipFits] at h1
  | _ :: _ :: _ :: _ :: _, h1 => simp [zipFits] at h1
theorem pick_fits {t : Tm} {b : Bool} (h : goodT b t = true) (hk : t.kind = 5) : (2 ≤ t.kids.length ∧ t.kids.length ≤ 17) ∧ ∀ k ∈ t.kids, cls k.kind = 1 := by
  have h1 := good_kids h
  unfold kidsB at h1
  rw [if_neg (by omega), if_pos hk] at h1
  simp only [Bool.and_eq_true, decide_eq_true_eq, List.all_eq_true] at h1
  exact ⟨h1.1, fun k hk => fits_noun (h1.2 k hk)⟩
theorem noun_parts {t : Tm} {b : Bool} (hg : goodT b t = true) (hp : plainT t = true) : cls (nounT t).kind = 1 ∧ (∃ c, goodT c (nounT t) = true) ∧ cnt (nounT t) < cnt t := by
  obtain ⟨x, y, z, hx, hy, hz, h3, h1, e⟩ := plain_parts hg hp
  have g1 := good_kid hg (i := 0) (k := x) (by rw [hx]; rfl)
  have g2 := good_kid g1 (i := 0) (k := y) (by rw [hy]; rfl)
  have g3 := good_kid g2 (i := 0) (k := z) (by rw [hz]; rfl)
  obtain ⟨z', hz', hf⟩ := one_kid g2 (c := 110) (by rw [h3]; decide) (by omega) (by omega) (by omega)
  rw [hz] at hz'
  injection hz' with hz'
  subst hz'
  have c1 := cnt_kid (t := t) (i := 0) (k := x) (by rw [hx]; rfl)
  have c2 := cnt_kid (t := x) (i := 0) (k := y) (by rw [hy]; rfl)
  have c3 := cnt_kid (t := y) (i := 0) (k := z) (by rw [hz]; rfl)
  rw [e]
  exact ⟨fits_noun hf, ⟨_, g3⟩, by omega⟩
end Go.Proofs.YtebiojmfieoncaaGreat

namespace Go.Proofs.YtebiojmfieoncaaGreat
open Go.RowKit

/-- a world without one block -/
def holed (w : World) : Option Nat → World
  | none => w
  | some g => mask w g (g + 1)
theorem holed_size (w : World) (o : Option Nat) : (holed w o).heap.size = w.heap.size := by
  cases o with
  | none => rfl
  | some g => exact mask_size w g _
theorem holed_cell {w : World} {o : Option Nat} {a : Addr} {v : Value} (h : (holed w o).cell? a = some v) : (∀ g, o = some g → a.block ≠ g) ∧ w.cell? a = some v := by
  cases o with
  | none => exact ⟨fun g e => (by cases e), h⟩
  | some g =>
    obtain ⟨h1, h2⟩ := mask_cell h
    exact ⟨fun g' e => by injection e with e; omega, h2⟩
theorem holed_cell' {w : World} {o : Option Nat} {a : Addr} {v : Value} (e : ∀ g, o = some g → a.block ≠ g) (h : w.cell? a = some v) : (holed w o).cell? a = some v := by
  cases o with
  | none => exact h
  | some g => exact mask_cell' (by have := e g rfl; omega) h
/-- a term's rows as they lie -/
abbrev rtOf (t : Tm) (A : Option Addr) (ca : Nat) (B : Option Addr) (cb : Nat) (K : Option Addr) (ck : Nat) : Rt := .mk ⟨A, t.sh.length, ca⟩ ⟨B, t.at_.length, cb⟩ ⟨K, t.kids.length, ck⟩ []
/-- a term by its rows -/
def ShT (w : World) (t : Tm) (r : Rt) : Prop := TmAt w t r.s.p r.a.p r.k.p ∧ r.s.n = t.sh.length ∧ r.a.n = t.at_.length ∧ r.k.n = t.kids.length
theorem ShT.sub {w w' : World} {t : Tm} {r : Rt} (h : ShT w t r) (hc : ∀ a v, w.cell? a = some v → w'.cell? a = some v) (hs : w.heap.size ≤ w'.heap.size) : ShT w' t r := ⟨h.1.sub hc hs, h.2⟩
/-- a row of one's own from block B on; its terms lie outside of blocks lo to hi - 1 and of the row itself -/
structure ShW (W : World) (B lo hi : Nat) (us : List Tm) (rs : List Rt) (v : Value) : Prop where
  row : W.ownsRow B TTm 6 v us.length (rtCellsL us rs)
  len : us.length = rs.length
  sh : ∀ (i : Nat) (u : Tm) (r : Rt), us[i]? = some u → rs[i]? = some r → ShT (holed (mask W lo hi) v.ownBlock) u r
section
variable {W W' W1 W2 W3 W4 : World} {B lo hi : Nat} {us : List Tm} {rs : List Rt} {v v' : Value}
theorem ShW.empty (W : World) (B lo hi : Nat) : ShW W B lo hi [] [] (.slice none 0 0) := ⟨World.ownsRow_nil _ _ _ _, rfl, fun i u r h => by simp at h⟩
theorem ShW.below (h : ShW W B lo hi us rs v) (hb : Below W.heap.size W W') : ShW W' B lo hi us rs v :=
  ⟨row_on h.row hb, h.len, fun i u r hu hr => (h.sh i u r hu hr).sub (fun a x hx => by
    obtain ⟨h1, h2⟩ := holed_cell hx
    obtain ⟨h3, h4⟩ := mask_cell h2
    exact holed_cell' h1 (mask_cell' h3 ((hb.cell (cell_lt' h4)).trans h4))) (by rw [holed_size, holed_size, mask_size, mask_size]; exact hb.size)⟩
theorem ShW.take {t : Tm} {A : Option Addr} {ca : Nat} {Bb : Option Addr} {cb : Nat} {K : Option Addr} {ck : Nat} (h : ShW W1 B lo hi us rs v) (hlo : lo ≤ B) (hhi : hi ≤ W1.heap.size) (hb : Below W1.heap.size W1 W2) (ht : TmAt (mask W2 lo W1.heap.size) t A Bb K)
    (hb3 : Below W2.heap.size W2 W3) (hown : W4.ownsRow B TTm 6 v' (us.length + 1) (rtCellsL us rs ++ rtCells t (rtOf t A ca Bb cb K ck))) (hgr : W3.grownBy W4 v.ownBlock) (hor : v'.ownBlock = v.ownBlock ∨ v'.ownBlock = some W3.heap.size) :
    ShW W4 B lo hi (us ++ [t]) (rs ++ [rtOf t A ca Bb cb K ck]) v' := by
  have h13 : Below W1.heap.size W1 W3 := hb.then_ hb3
  have key : ∀ (a : Addr) (x : Value), a.block < W3.heap.size → (∀ g, v.ownBlock = some g → a.block ≠ g) → ¬ (lo ≤ a.block ∧ a.block < hi) → W3.cell? a = some x → (holed (mask W4 lo hi) v'.ownBlock).cell? a = some x := fun a x h1 h2 h3 h4 => by
    refine holed_cell' (fun g hg => ?_) (mask_cell' h3 ?_)
    · rcases hor with e | e
      · rw [e] at hg
        exact h2 g hg
      · rw [e] at hg
        injection hg with hg
        omega
    · rw [World.cell?_of_block (w := W3) (hgr.block _ h1 (fun e => h2 a.block e.symm rfl))]
      exact h4
  refine ⟨?_, by simp [h.len], fun i u r hu hr => ?_⟩
  · rw [rtCellsL_app h.len, List.length_append]
    simp only [rtCellsL, List.append_nil]
    exact hown
  · by_cases hi' : i < us.length
    · rw [List.getElem?_append_left hi'] at hu
      rw [List.getElem?_append_left (by rw [← h.len]; exact hi')] at hr
      refine (h.sh i u r hu hr).sub (fun a x hx => ?_) (by rw [holed_size, holed_size, mask_size, mask_size]; exact Nat.le_trans h13.size hgr.size)
      obtain ⟨h1, h2⟩ := holed_cell hx
      obtain ⟨h3, h4⟩ := mask_cell h2
      have hl := cell_lt' h4
      exact key a x (Nat.lt_of_lt_of_le hl h13.size) h1 h3 ((h13.cell hl).trans h4)
    · have e : i = us.length := by
        have := (List.getElem?_eq_some_iff.1 hu).1
        simp only [List.length_append, List.length_cons, List.length_nil] at this
        omega
      subst e
      rw [List.getElem?_append_right (Nat.le_refl _), Nat.sub_self] at hu
      rw [h.len, List.getElem?_append_right (Nat.le_refl _), Nat.sub_self] at hr
      obtain rfl := Option.some.inj hu
      obtain rfl := Option.some.inj hr
      refine ⟨ht.sub (fun a x hx => ?_) (by rw [holed_size, mask_size, mask_size]; exact Nat.le_trans hb3.size hgr.size), rfl, rfl, rfl⟩
      obtain ⟨h3, h4⟩ := mask_cell hx
      have hl := cell_lt' h4
      exact key a x (Nat.lt_of_lt_of_le hl hb3.size) (fun g hg => by have := h.row.lt g hg; omega) (by omega) ((hb3.cell hl).trans h4)
theorem ShW.kids {P : Option Addr} {n c : Nat} (h : ShW W B lo hi us rs (.slice P n c)) (hhi : hi ≤ B) : KidsAt (mask W lo hi) P us 0 := by
  cases hus : us with
  | nil => exact KidsAt.nil _ _
  | cons u0 ur =>
    rw [← hus]
    rcases h.row.2 with ⟨_, h0⟩ | ⟨g, cap, cur, e, hB, hg, _⟩
    · rw [hus] at h0; simp at h0
    · injection e with e
      subst e
      refine KidsAt.of fun i t ht => ?_
      obtain ⟨r, hr⟩ : ∃ r, rs[i]? = some r := ⟨_, List.getElem?_eq_getElem (by rw [← h.len]; exact (List.getElem?_eq_some_iff.1 ht).1)⟩
      obtain ⟨s1, s2, s3, s4⟩ := h.sh i t r ht hr
      refine ⟨rtCells t r, ?_, by rw [mask_size]; exact heap_lt hg, fun q u hq => mask_cell' (by show ¬ (lo ≤ g ∧ g < hi); omega) ?_⟩
      · have := (s1.sub (fun a x hx => (holed_cell hx).2) (by rw [holed_size]; exact Nat.le_refl _)).is r.s.c r.a.c r.k.c
        rw [← s2, ← s3, ← s4] at this
        exact this
      · have h1 := h.row.cells (g := g) rfl (i * 6 + q) u (rtCells_get ht hr hq)
        have e2 : (⟨g, 0, none⟩ : Addr).add (i * 6 + q) = ⟨g, 0 + (0 + i) * 6 + q, none⟩ := by
          unfold Addr.add
          split <;> simp_all
        rwa [e2] at h1
theorem mask_holed {w : World} {lo hi s g : Nat} {t : Tm} {A Bb K : Option Addr} (h : TmAt (mask w lo s) t A Bb K) (h1 : hi ≤ s) (h2 : lo ≤ g) (h3 : g < s) : TmAt (holed (mask w lo hi) (some g)) t A Bb K :=
  h.sub (fun a x hx => by
    obtain ⟨e1, e2⟩ := mask_cell hx
    exact holed_cell' (fun g' hg => by injection hg with hg; omega) (mask_cell' (by omega) e2)) (by rw [holed_size, mask_size, mask_size]; exact Nat.le_refl _)
theorem rtCellsL_set : ∀ (us : List Tm) (rs : List Rt) (i : Nat) (t : Tm) (r : Rt), i < us.length → us.length = rs.length → rtCellsL (us.set i t) (rs.set i r) = ((((((rtCellsL us rs).set (i * 6) (.int .i64 t.kind)).set (i * 6 + 1) (.string t.text)).set (i * 6 + 2) (.int .i64 t.n)).set (i * 6 + 3) r.s.val).set (i * 6 + 4) r.a.val).set (i * 6 + 5) r.k.val
  | [], _, _, _, _, h, _ => by simp at h
  | _ :: _, [], _, _, _, _, h => by simp at h
  | u :: us, q :: rs, 0, t, r, _, _ => by simp [rtCellsL, rtCells]
  | u :: us, q :: rs, i + 1, t, r, h, hl => by
    simp only [List.set_cons_succ, rtCellsL]
    rw [rtCellsL_set us rs i t r (by simpa using h) (by simpa using hl)]
    have e : ∀ (l : List Value) (j : Nat) (x : Value), (rtCells u q ++ l).set ((i + 1) * 6 + j) x = rtCells u q ++ l.set (i * 6 + j) x := fun l j x => by
      rw [List.set_append, if_neg (by show ¬ (i + 1) * 6 + j < 6; omega), show (i + 1) * 6 + j - (rtCells u q).length = i * 6 + j by show (i + 1) * 6 + j - 6 = _; omega]
    have e0 : ∀ (l : List Value) (x : Value), (rtCells u q ++ l).set ((i + 1) * 6) x = rtCells u q ++ l.set (i * 6) x := fun l x => e l 0 x
    rw [e0, e, e, e, e, e]
/-- a term's six cells in a row, at a place -/
abbrev sixAt (w : World) (g o : Nat) (v0 v1 v2 v3 v4 v5 : Value) : World := (((((w.setCell ⟨g, o, none⟩ v0).setCell ⟨g, o + 1, none⟩ v1).setCell ⟨g, o + 2, none⟩ v2).setCell ⟨g, o + 3, none⟩ v3).setCell ⟨g, o + 4, none⟩ v4).setCell ⟨g, o + 5, none⟩ v5
theorem grown_trans {w1 w2 w3 : World} {r : Option Nat} (h : w1.grownBy w2 r) (k : w2.grownBy w3 r) : w1.grownBy w3 r := ⟨k.os.trans h.os, k.tape.trans h.tape, k.output.trans h.output, Nat.le_trans h.size k.size, fun b hb hr => (k.block b (Nat.lt_of_lt_of_le hb h.size) hr).trans (h.block b hb hr)⟩
theorem ShW.put {g n c : Nat} {t : Tm} {A : Option Addr} {ca : Nat} {Bb : Option Addr} {cb : Nat} {K : Option Addr} {ck i : Nat} (h : ShW W B lo hi us rs (.slice (some ⟨g, 0, none⟩) n c)) (hn : n = us.length) (hi' : i < us.length) (ht : TmAt (holed (mask W lo hi) (some g)) t A Bb K) :
    ShW (sixAt W g (i * 6) (.int .i64 t.kind) (.string t.text) (.int .i64 t.n) (.slice A t.sh.length ca) (.slice Bb t.at_.length cb) (.slice K t.kids.length ck)) B lo hi (us.set i t) (rs.set i (rtOf t A ca Bb cb K ck)) (.slice (some ⟨g, 0, none⟩) n c) ∧
    W.grownBy (sixAt W g (i * 6) (.int .i64 t.kind) (.string t.text) (.int .i64 t.n) (.slice A t.sh.length ca) (.slice Bb t.at_.length cb) (.slice K t.kids.length ck)) (some g) := by
  have h0 := h.row
  rw [← hn] at h0
  obtain ⟨h1, g1⟩ := h0.stored (i * 6) (.int .i64 t.kind)
  obtain ⟨h2, g2⟩ := h1.stored (i * 6 + 1) (.string t.text)
  obtain ⟨h3, g3⟩ := h2.stored (i * 6 + 2) (.int .i64 t.n)
  obtain ⟨h4, g4⟩ := h3.stored (i * 6 + 3) (.slice A t.sh.length ca)
  obtain ⟨h5, g5⟩ := h4.stored (i * 6 + 4) (.slice Bb t.at_.length cb)
  obtain ⟨h6, g6⟩ := h5.stored (i * 6 + 5) (.slice K t.kids.length ck)
  have hg := grown_trans (grown_trans (grown_trans (grown_trans (grown_trans g1 g2) g3) g4) g5) g6
  obtain ⟨V, hV⟩ : ∃ V, V = sixAt W g (i * 6) (.int .i64 t.kind) (.string t.text) (.int .i64 t.n) (.slice A t.sh.length ca) (.slice Bb t.at_.length cb) (.slice K t.kids.length ck) := ⟨_, rfl⟩
  unfold sixAt at hV
  unfold sixAt
  rw [← hV] at h6 hg ⊢
  clear hV g1 g2 g3 g4 g5 g6 h1 h2 h3 h4 h5
  have tow : ∀ {x : Tm} {r : Rt}, ShT (holed (mask W lo hi) (some g)) x r → ShT (holed (mask V lo hi) (some g)) x r := fun hx => hx.sub (fun a y hy => by
    obtain ⟨e1, e2⟩ := holed_cell hy
    obtain ⟨e3, e4⟩ := mask_cell e2
    refine holed_cell' e1 (mask_cell' e3 ?_)
    rw [World.cell?_of_block (w := W) (hg.block _ (cell_lt' e4) (fun e => e1 a.block e.symm rfl))]
    exact e4) (by rw [holed_size, holed_size, mask_size, mask_size]; exact hg.size)
  refine ⟨⟨?_, by simp [h.len], fun j u r hu hr => ?_⟩, hg⟩
  · rw [rtCellsL_set us rs i t _ hi' h.len, List.length_set, ← hn]
    exact h6
  · rw [List.getElem?_set] at hu hr
    by_cases e : i = j
    · rw [if_pos e, if_pos hi'] at hu
      rw [if_pos e, if_pos (by rw [← h.len]; exact hi')] at hr
      obtain rfl := Option.some.inj hu
      obtain rfl := Option.some.inj hr
      exact tow ⟨ht, rfl, rfl, rfl⟩
    · rw [if_neg e] at hu hr
      exact tow (h.sh j u r hu hr)
end
theorem kids_rows {w : World} {b off : Nat} : ∀ (ks : List Tm) (i0 : Nat), KidsAt w (some ⟨b, off, none⟩) ks i0 → ∃ rs : List Rt, ks.length = rs.length ∧ (∀ (i : Nat) (u : Tm) (r : Rt), ks[i]? = some u → rs[i]? = some r → ShT w u r) ∧ ∀ j u, (rtCellsL ks rs)[j]? = some u → w.cell? ⟨b, off + i0 * 6 + j, none⟩ = some u
  | [], _, _ => ⟨[], rfl, fun i u r h => by simp at h, fun j u h => by simp [rtCellsL] at h⟩
  | t :: q, i0, h => by
    simp only [KidsAt] at h
    obtain ⟨⟨b', off', vs0, e, hlt, h1, h2⟩, h3⟩ := h
    simp only [Option.some.injEq, Addr.mk.injEq, and_true] at e
    obtain ⟨rfl, rfl⟩ := e
    obtain ⟨rs, l1, l2, l3⟩ := kids_rows q (i0 + 1) h3
    obtain ⟨A, ca, B, cb, K, ck, rfl, hat⟩ : ∃ A ca B cb K ck, vs0 = rtCells t (rtOf t A ca B cb K ck) ∧ TmAt w t A B K := by
      cases t with
      | mk kind text n sh at_ kids =>
        simp only [TmIs] at h1
        obtain ⟨A, ca, B, cb, K, ck, e, i1, i2, i3⟩ := h1
        exact ⟨A, ca, B, cb, K, ck, e, ⟨i1, i2, i3⟩⟩
    refine ⟨rtOf t A ca B cb K ck :: rs, by simp [l1], fun i u r hu hr => ?_, fun j u hj => ?_⟩
    · cases i with
      | zero =>
        obtain rfl := Option.some.inj hu
        obtain rfl := Option.some.inj hr
        exact ⟨hat, rfl, rfl, rfl⟩
      | succ i => exact l2 i u r (by simpa using hu) (by simpa using hr)
    · simp only [rtCellsL] at hj
      by_cases hj6 : j < 6
      · rw [List.getElem?_append_left (by exact hj6)] at hj
        exact h2 j u hj
      · rw [List.getElem?_append_right (by show 6 ≤ j; omega)] at hj
        have := l3 (j - 6) u hj
        rwa [show off + (i0 + 1) * 6 + (j - 6) = off + i0 * 6 + j by omega] at this
theorem rt_one : ∀ (us : List Tm) (rs : List Rt), ∀ u ∈ rtCellsL us rs, u.oneCell' = true
  | [], _, u, h => by simp [rtCellsL] at h
  | _ :: _, [], u, h => by simp [rtCellsL] at h
  | t :: us, r :: rs, u, h => by
    simp only [rtCellsL] at h
    rcases List.mem_append.1 h with h | h
    · simp only [rtCells, List.mem_cons, List.not_mem_nil, or_false] at h
      rcases h with rfl | rfl | rfl | rfl | rfl | rfl <;> rfl
    · exact rt_one us rs u h
set_option maxRecDepth 100000 in
set_option maxHeartbeats 4000000 in
theorem clone_tms (ks : List Tm) (bk ok ck n : Nat) (w : World) {lo hi : Nat} (hhi : hi ≤ w.heap.size) (hn : n = ks.length) (h0 : 0 < n) (hb : n * 104 ≤ 140737488351232) (hk : KidsAt (mask w lo hi) (some ⟨bk, ok, none⟩) ks 0) :
    Calls Tryz.prog 109 #[.slice (some ⟨bk, ok, none⟩) n ck] w fun e w' => ∃ g cap rs, e = .returned (.slice (some ⟨g, 0, none⟩) n cap) ∧ ShW w' w.heap.size lo hi ks rs (.slice (some ⟨g, 0, none⟩) n cap) ∧ (∀ (i : Nat) (u : Tm) (r : Rt), ks[i]? = some u → rs[i]? = some r → ShT (mask w lo hi) u r) ∧ w.heap.size ≤ g ∧ Below w.heap.size w w' := by
  obtain ⟨rs, r1, r2, r3⟩ := kids_rows ks 0 hk
  obtain ⟨vs, hvs⟩ : ∃ vs, vs = rtCellsL ks rs := ⟨_, rfl⟩
  have hvl : vs.length = n * 6 := by rw [hvs, rtCellsL_len r1, hn]
  obtain ⟨W1, hW1⟩ : ∃ W1, W1 = w.alloc (.cells #[] TTm) := ⟨_, rfl⟩
  have hb1 : Below w.heap.size w W1 := by rw [hW1]; exact (Below.refl _ _).alloc (Nat.le_refl _) _
  have HS1 : Hid (W1.heap.size = w.heap.size + 1) := Lib.hid (by rw [hW1]; simp)
  have HOWN : Hid (W1.ownsRow w.heap.size TTm 6 (.slice (some ⟨w.heap.size, 0, none⟩) 0 0) 0 []) := Lib.hid (by rw [hW1]; exact World.ownsRow_made w #[] 0 (Nat.le_refl _) (Nat.zero_le _) rfl)
  have HNEW : Hid (∀ j u, vs[j]? = some u → W1.cell? ((⟨bk, ok, none⟩ : Addr).add j) = some u) := Lib.hid fun j u hu => by
    have e2 : (⟨bk, ok, none⟩ : Addr).add j = ⟨bk, ok + j, none⟩ := by unfold Addr.add; split <;> simp_all
    rw [hvs] at hu
    have h1 := r3 j u hu
    rw [Nat.zero_mul, Nat.add_zero] at h1
    have h2 := (mask_cell h1).2
    rw [e2]
    exact (hb1.cell (p := ⟨bk, ok + j, none⟩) (cell_lt' h2)).trans h2
  have HONE : Hid (∀ u ∈ vs, u.oneCell' = true) := Lib.hid (by rw [hvs]; exact rt_one ks rs)
  have HV := Lib.hid (And.intro hvs (And.intro hvl (And.intro r1 (And.intro r2 (And.intro hn hhi)))))
  have HB1 := Lib.hid hb1
  have HW1 := Lib.hid hW1
  obtain ⟨j0, hj, hz0, hz1, hz2⟩ := info_parts info_tm
  have hnil : ∀ W, (binOp .eql 22 (.slice (some ⟨bk, ok, none⟩) n ck) (.slice none 0 0)).run Tryz.prog W = .ok (.bool false) W := fun W => Lib.run_eql_slice_nil W _ _ (some ⟨bk, ok, none⟩) n ck 0 0 Tryz.underlying22
  clear hk hb1 hW1 hvs hvl r1 r2 r3 hn hhi
  go_enter Tryz.func109, Tryz.ntmps109
  go_wp2_with (at_builtin; rw [← HW1.out]; refine wpList_append_own _ rfl (.tmp 5) (.tmp 6) 22 rfl w.heap.size TTm j0 (.agg tm0) 6 104 Tryz.underlying22 hj hz0 hz1 hz2 rfl (by decide) (.slice (some ⟨w.heap.size, 0, none⟩) 0 0) 0 [] rfl HOWN.out ⟨bk, ok, none⟩ n ck vs rfl HV.out.2.1 HNEW.out HONE.out (by unfold maxLen; omega) (by omega) (by rw [HS1.out]; omega) ?_)
  intro v' w' hown' hgr' _
  have hb' := HB1.out.grown hgr' HB1.out.size (fun k hk => (HOWN.out.lt k hk).1)
  rcases hown'.2 with ⟨_, h0'⟩ | ⟨g, cap, cur, rfl, hg, _⟩
  · omega
  have HR : Hid (ShW w' w.heap.size lo hi ks rs (.slice (some ⟨g, 0, none⟩) n cap) ∧ Below w.heap.size w w') := Lib.hid ⟨⟨by rw [← HV.out.2.2.2.2.1, ← HV.out.1]; exact hown', HV.out.2.2.1, fun i u r hu hr => (HV.out.2.2.2.1 i u r hu hr).sub (fun a x hx => by
    obtain ⟨e1, e2⟩ := mask_cell hx
    have hl := cell_lt' e2
    exact holed_cell' (fun g' hg' => by injection hg' with hg'; have : g = g' := hg'; omega) (mask_cell' e1 ((hb'.cell hl).trans e2))) (by rw [holed_size, mask_size, mask_size]; exact hb'.size)⟩, hb'⟩
  clear hown' hgr' hg hb'
  go_wp2_with fail
  go_ret
  exact ⟨g, cap, rs, rfl, HR.out.1, HV.out.2.2.2.1, (HR.out.1.row.lt g rfl).1, HR.out.2⟩
theorem ShW.form {W : World} {B lo hi : Nat} {us : List Tm} {rs : List Rt} {v : Value} (h : ShW W B lo hi us rs v) : ∃ P c, v = .slice P us.length c := by
  rcases h.row.2 with ⟨e, h0⟩ | ⟨g, cap, cur, e, _⟩
  · exact ⟨none, 0, by rw [e, h0]⟩
  · exact ⟨_, cap, e⟩
end Go.Proofs.YtebiojmfieoncaaGreat
