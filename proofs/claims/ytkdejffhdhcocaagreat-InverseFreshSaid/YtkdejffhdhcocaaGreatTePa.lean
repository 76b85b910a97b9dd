/- Terms: parts of what may be. Plain laws. No condition. -/
import Derived.Test.YtkdejffhdhcocaaGreatTeL0
namespace Go.Proofs.YtkdejffhdhcocaaGreat
open Go.RowKit

theorem cntL_take {l : List Tm} {i : Nat} {k : Tm} (h : l[i]? = some k) : cntL (l.take (i + 1)) = cntL (l.take i) + cnt k := by
  rw [List.take_add_one, h]
  have app : ∀ (p : List Tm) (x : Tm), cntL (p ++ [x]) = cntL p + cnt x := fun p x => by
    induction p with
    | nil => simp [cntL]
    | cons y r ih => simp only [List.cons_append, cntL, ih]; omega
  exact app _ _
theorem depL_take {l : List Tm} {i : Nat} {k : Tm} (h : l[i]? = some k) : depL (l.take (i + 1)) = max (depL (l.take i)) (dep k) := by
  rw [List.take_add_one, h]
  have app : ∀ (p : List Tm) (x : Tm), depL (p ++ [x]) = max (depL p) (dep x) := fun p x => by
    induction p with
    | nil => simp [depL]
    | cons y r ih => simp only [List.cons_append, depL, ih]; omega
  exact app _ _
theorem cntL_le {l : List Tm} (i : Nat) : cntL (l.take i) ≤ cntL l := by
  have app : ∀ (p q : List Tm), cntL (p ++ q) = cntL p + cntL q := fun p q => by
    induction p with
    | nil => simp [cntL]
    | cons y r ih => simp only [List.cons_append, cntL, ih]; omega
  have := app (l.take i) (l.drop i)
  rw [List.take_append_drop] at this
  omega
theorem dep_kid {t : Tm} {i : Nat} {k : Tm} (h : t.kids[i]? = some k) : dep k < dep t := by
  have main : ∀ (l : List Tm) (i : Nat), l[i]? = some k → dep k ≤ depL l := by
    intro l
    induction l with
    | nil => intro i h; simp at h
    | cons u r ih =>
      intro i h
      simp only [depL]
      cases i with
      | zero => simp only [List.getElem?_cons_zero, Option.some.injEq] at h; subst h; omega
      | succ i => have := ih i (by simpa using h); omega
  cases t with
  | mk kk s n sh a ks =>
    simp only [Tm.kids] at h
    have := main ks i h
    simp only [dep]
    omega
theorem size_small {t : Tm} (h : greatT t = false) : sizeT t = (cnt t, dep t) ∧ cnt t ≤ 4096 ∧ dep t ≤ 256 := by
  unfold sizeT
  rw [h]
  unfold greatT at h
  simp at h
  exact ⟨rfl, by omega, by omega⟩
theorem great_kid {t : Tm} (h : greatT t = false) {i : Nat} {k : Tm} (hk : t.kids[i]? = some k) : greatT k = false := by
  obtain ⟨_, h1, h2⟩ := size_small h
  have := cnt_kid hk
  have := dep_kid hk
  unfold greatT
  simp
  omega
theorem cls_range (k : Int) : cls k = 0 ∨ cls k = 1 ∨ cls k = 2 ∨ cls k = 3 := by
  unfold cls
  repeat' split
  all_goals simp
theorem may_self (t : Tm) (hc : cls t.kind ≠ 0) : mayT t (cls t.kind) = if greatT t = true then 2 else if goodT false t = false then 33 else 0 := by
  unfold mayT
  rw [if_neg (by have := cls_range t.kind; omega)]
  simp
/-- what a term that may be tells of its kids -/
theorem good_kid {t : Tm} {b : Bool} (h : goodT b t = true) {i : Nat} {k : Tm} (hk : t.kids[i]? = some k) : goodT (lowOf t.kind t.n b) k = true := by
  rw [goodT_node, Bool.and_eq_true] at h
  have main : ∀ (l : List Tm) (i : Nat) (c : Bool), goodL c l = true → l[i]? = some k → goodT c k = true := by
    intro l
    induction l with
    | nil => intro i c _ h; simp at h
    | cons u r ih =>
      intro i c hg h
      simp only [goodL, Bool.and_eq_true] at hg
      cases i with
      | zero => simp only [List.getElem?_cons_zero, Option.some.injEq] at h; subst h; exact hg.1
      | succ i => exact ih i c hg.2 (by simpa using h)
  exact main _ _ _ h.2 hk
theorem good_cls {t : Tm} {b : Bool} (h : goodT b t = true) : cls t.kind ≠ 0 := by
  rw [goodT_node, Bool.and_eq_true] at h
  have h1 := h.1
  unfold nodeB at h1
  intro e
  rw [decide_eq_true e] at h1
  simp at h1
theorem may_kid {t : Tm} (hg : greatT t = false) (h : goodT false t = true) (h23 : ¬ t.kind = 23) {i : Nat} {k : Tm} (hk : t.kids[i]? = some k) : mayT k (cls k.kind) = 0 := by
  have hgk := good_kid h hk
  rw [show lowOf t.kind t.n false = false by unfold lowOf; rw [if_neg h23]] at hgk
  rw [may_self k (good_cls hgk), great_kid hg hk, hgk]
  rfl
end Go.Proofs.YtkdejffhdhcocaaGreat
