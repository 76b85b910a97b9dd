/- Texts of numbers: what cut has read is what Flat writes. No condition. -/
import Derived.Test.YtpipcpjkfgdpcaaDoorShCut0
import Derived.Test.YtpipcpjkfgdpcaaDoorShFlat
namespace Go.Proofs.YtpipcpjkfgdpcaaDoor
open Go.RowKit

theorem bl_move : ∀ r : List Int, [32] ++ bl r = (r.flatMap fun y => 32 :: digits y) ++ [32]
  | [] => rfl
  | x :: r => by
    have ih := bl_move r
    simp only [bl, List.flatMap_cons] at ih ⊢
    simp only [List.cons_append, List.nil_append, List.append_assoc] at ih ⊢
    rw [ih]
theorem bl_joined {l : List Int} (h : l ≠ []) : bl l = joined l ++ [32] := by
  cases l with
  | nil => exact absurd rfl h
  | cons x r =>
    have h := bl_move r
    simp only [joined, bl, List.flatMap_cons, List.append_assoc] at h ⊢
    rw [← h]
theorem cut_list {t : List UInt8} {l : List Int} (h : t ++ [32] = bl l) : l ≠ [] ∧ t = joined l := by
  have hl : l ≠ [] := fun e => by subst e; simp [bl] at h
  rw [bl_joined hl] at h
  exact ⟨hl, List.append_cancel_right h⟩
theorem cut_mark {t : List UInt8} {l a : List Int} (ha : a ≠ []) (h : t ++ [32] = bl a ++ [36, 32] ++ bl l) : t = joined a ++ [32, 36] ++ (if l.length = 0 then [] else 32 :: joined l) := by
  rw [bl_joined ha] at h
  by_cases hl : l = []
  · subst hl
    have h' : t ++ [32] = (joined a ++ [32, 36]) ++ [32] := by rw [h]; simp [bl]
    simpa using List.append_cancel_right h'
  · rw [bl_joined hl] at h
    have h' : t ++ [32] = (joined a ++ [32, 36] ++ (32 :: joined l)) ++ [32] := by rw [h]; simp
    rw [if_neg (by simpa using hl)]
    exact List.append_cancel_right h'
theorem flat_scalar (x : Int) : flat [] [x] = joined [x] ∧ arMay [] [x] = 0 := ⟨rfl, rfl⟩
theorem may_list {n : Nat} (h : n ≤ 4096) : shMay [(n : Int)] = 0 ∧ places [(n : Int)] = n := by
  have h0 : ¬ (n : Int) < 0 := by omega
  have h1 : ¬ (4096 : Int) < n := by omega
  have h2 : ¬ (4096 : Int) < 1 * max (n : Int) 1 := by omega
  constructor
  · simp only [shMay, List.any_cons, List.any_nil, h0, decide_false, Bool.or_self, Bool.false_eq_true, if_false, List.length_cons, List.length_nil, mayGo, h1, h2]
    simp
  · simp [places]
theorem flat_list {l : List Int} (h1 : 1 < l.length) (h2 : l.length ≤ 4096) : flat [(l.length : Int)] l = joined l ∧ arMay [(l.length : Int)] l = 0 := by
  obtain ⟨m1, m2⟩ := may_list h2
  refine ⟨?_, ?_⟩
  · unfold flat
    rw [if_pos (.inr ⟨rfl, h1⟩)]
  · unfold arMay
    rw [if_neg (fun x => x.2 m2), m1]
theorem flat_shape {a l : List Int} (ha : a ≠ []) (h0 : shMay a = 0) (h1 : places a = l.length) (h2 : ¬ (a.length = 1 ∧ 1 < l.length)) :
    flat a l = joined a ++ [32, 36] ++ (if l.length = 0 then [] else 32 :: joined l) ∧ arMay a l = 0 := by
  refine ⟨?_, ?_⟩
  · unfold flat
    rw [if_neg (fun h => h.elim (by simpa using ha) h2)]
  · unfold arMay
    rw [if_neg (fun x => x.2 h1), h0]
end Go.Proofs.YtpipcpjkfgdpcaaDoor
