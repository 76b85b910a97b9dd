/- Terms: what they are, how great, their nodes in a row, which may be. Plain laws. No condition. -/
import Derived.Test.YteohoodfcgfkeaaGreatTeBase
namespace Go.Proofs.YteohoodfcgfkeaaGreat
open Go.RowKit

inductive Tm where
  | mk (kind : Int) (text : ByteArray) (n : Int) (sh : List Int) (at_ : List Int) (kids : List Tm) : Tm
def Tm.kind : Tm → Int | .mk k _ _ _ _ _ => k
def Tm.text : Tm → ByteArray | .mk _ s _ _ _ _ => s
def Tm.n : Tm → Int | .mk _ _ n _ _ _ => n
def Tm.sh : Tm → List Int | .mk _ _ _ s _ _ => s
def Tm.at_ : Tm → List Int | .mk _ _ _ _ a _ => a
def Tm.kids : Tm → List Tm | .mk _ _ _ _ _ ks => ks

/-! ### how great a term is -/
mutual
def cnt : Tm → Nat
  | .mk _ _ _ _ _ kids => cntL kids + 1
def cntL : List Tm → Nat
  | [] => 0
  | t :: r => cnt t + cntL r
end
mutual
def dep : Tm → Nat
  | .mk _ _ _ _ _ kids => depL kids + 1
def depL : List Tm → Nat
  | [] => 0
  | t :: r => max (dep t) (depL r)
end
mutual
/-- the counter goes over a term at a depth: nodes and depth so far -/
def addT : Tm → Nat → Nat → Nat → Bool × Nat × Nat
  | .mk _ _ _ _ _ kids, d, n, m => if 4096 < n + 1 ∨ 256 < d then (false, n + 1, max m d) else addK kids (d + 1) (n + 1) (max m d)
def addK : List Tm → Nat → Nat → Nat → Bool × Nat × Nat
  | [], _, n, m => (true, n, m)
  | t :: r, d, n, m => if (addT t d n m).1 = true then addK r d (addT t d n m).2.1 (addT t d n m).2.2 else addT t d n m
end
mutual
theorem addT_eq : ∀ (t : Tm) (d n m : Nat), (n + cnt t ≤ 4096 ∧ d + dep t ≤ 257 → addT t d n m = (true, n + cnt t, max m (d + dep t - 1))) ∧ (¬ (n + cnt t ≤ 4096 ∧ d + dep t ≤ 257) → (addT t d n m).1 = false)
  | .mk _ _ _ _ _ kids, d, n, m => by
    unfold addT cnt dep
    constructor
    · rintro ⟨h1, h2⟩
      rw [if_neg (by omega), (addK_eq kids (d + 1) (n + 1) (max m d) (by omega) (by omega) (by omega)).1 ⟨by omega, by omega⟩]
      refine Prod.ext rfl (Prod.ext ?_ ?_)
      · show n + 1 + cntL kids = n + (cntL kids + 1); omega
      · show max (max m d) (d + 1 + depL kids - 1) = max m (d + (depL kids + 1) - 1); omega
    · intro hn
      split
      · rfl
      · exact (addK_eq kids (d + 1) (n + 1) (max m d) (by omega) (by omega) (by omega)).2 (by omega)
theorem addK_eq : ∀ (l : List Tm) (d n m : Nat), n ≤ 4096 → d ≤ 257 → d ≤ m + 1 → (n + cntL l ≤ 4096 ∧ d + depL l ≤ 257 → addK l d n m = (true, n + cntL l, max m (d + depL l - 1))) ∧ (¬ (n + cntL l ≤ 4096 ∧ d + depL l ≤ 257) → (addK l d n m).1 = false)
  | [], d, n, m, h0, h1, h2 => by
    unfold addK cntL depL
    refine ⟨fun _ => Prod.ext rfl (Prod.ext rfl ?_), fun h => absurd ⟨h0, h1⟩ h⟩
    show m = max m (d + 0 - 1); omega
  | t :: r, d, n, m, h0, h1, h2 => by
    have ht := addT_eq t d n m
    unfold addK cntL depL
    by_cases hc : n + cnt t ≤ 4096 ∧ d + dep t ≤ 257
    · have e := ht.1 hc
      have e1 : (addT t d n m).1 = true := by rw [e]
      rw [if_pos e1, e]
      have hr := addK_eq r d (n + cnt t) (max m (d + dep t - 1)) (by omega) h1 (by omega)
      refine ⟨fun h => ?_, fun h => hr.2 (by omega)⟩
      rw [hr.1 (by omega)]
      refine Prod.ext rfl (Prod.ext ?_ ?_)
      · show n + cnt t + cntL r = n + (cnt t + cntL r); omega
      · show max (max m (d + dep t - 1)) (d + depL r - 1) = max m (d + max (dep t) (depL r) - 1); omega
    · have e := ht.2 hc
      rw [if_neg (by rw [e]; decide)]
      exact ⟨fun h => absurd h (by omega), fun _ => e⟩
end
def greatT (t : Tm) : Bool := decide (4096 < cnt t ∨ 256 < dep t)
def sizeT (t : Tm) : Nat × Nat := if greatT t = true then (4097, 257) else (cnt t, dep t)
theorem add_size (t : Tm) : (if (addT t 1 0 0).1 = true then (addT t 1 0 0).2 else (4097, 257)) = sizeT t := by
  unfold sizeT greatT
  have h := addT_eq t 1 0 0
  by_cases hc : 0 + cnt t ≤ 4096 ∧ 1 + dep t ≤ 257
  · rw [h.1 hc, if_pos rfl, if_neg (by simp; omega)]
    exact Prod.ext (by simp) (by show max 0 (1 + dep t - 1) = dep t; omega)
  · rw [h.2 hc, if_neg (by decide), if_pos (by simp; omega)]

/-! ### all nodes in a row -/
structure Nd where
  t : Tm
  d : Nat
  bare : Bool
def lowOf (k n : Int) (b : Bool) : Bool := if k = 23 then decide (n = 1) else b
def Nd.low (x : Nd) : Bool := lowOf x.t.kind x.t.n x.bare
def Nd.kids (x : Nd) : List Nd := x.t.kids.map fun k => ⟨k, x.d + 1, x.low⟩
mutual
def dfs : Tm → Nat → Bool → List Nd
  | .mk k s n sh a ks, d, b => ⟨.mk k s n sh a ks, d, b⟩ :: dfsL ks (d + 1) (lowOf k n b)
def dfsL : List Tm → Nat → Bool → List Nd
  | [], _, _ => []
  | t :: r, d, b => dfs t d b ++ dfsL r d b
end
def Nd.all (x : Nd) : List Nd := dfs x.t x.d x.bare
theorem Nd.all_eq (x : Nd) : x.all = x :: x.kids.flatMap Nd.all := by
  obtain ⟨t, d, b⟩ := x
  cases t with
  | mk k s n sh a ks =>
    simp only [Nd.all, dfs, Nd.kids, Tm.kids, Nd.low, Tm.kind, Tm.n]
    congr 1
    generalize lowOf k n b = b'
    induction ks with
    | nil => rfl
    | cons t r ih => simp only [dfsL, ih, List.map_cons, List.flatMap_cons, Nd.all]
mutual
theorem dfs_len : ∀ (t : Tm) (d : Nat) (b : Bool), (dfs t d b).length = cnt t
  | .mk _ _ _ _ _ ks, d, b => by simp only [dfs, cnt, List.length_cons, dfsL_len ks]
theorem dfsL_len : ∀ (l : List Tm) (d : Nat) (b : Bool), (dfsL l d b).length = cntL l
  | [], _, _ => rfl
  | t :: r, d, b => by simp only [dfsL, cntL, List.length_append, dfs_len t, dfsL_len r]
end
mutual
theorem dfs_dep : ∀ (t : Tm) (d : Nat) (b : Bool), (∀ x ∈ dfs t d b, d ≤ x.d ∧ x.d + 1 ≤ d + dep t) ∧ ∃ x ∈ dfs t d b, x.d + 1 = d + dep t
  | .mk k s n sh a ks, d, b => by
    have h := dfsL_dep ks (d + 1) (lowOf k n b)
    simp only [dfs, dep]
    refine ⟨fun x hx => ?_, ?_⟩
    · rcases List.mem_cons.1 hx with rfl | hx
      · exact ⟨Nat.le_refl _, by show d + 1 ≤ _; omega⟩
      · have := h.1 x hx
        omega
    · rcases h.2 with h0 | ⟨x, hx, e⟩
      · exact ⟨_, List.mem_cons_self .., by rw [h0]⟩
      · exact ⟨x, List.mem_cons_of_mem _ hx, by omega⟩
theorem dfsL_dep : ∀ (l : List Tm) (d : Nat) (b : Bool), (∀ x ∈ dfsL l d b, d ≤ x.d ∧ x.d + 1 ≤ d + depL l) ∧ (depL l = 0 ∨ ∃ x ∈ dfsL l d b, x.d + 1 = d + depL l)
  | [], d, b => ⟨fun x hx => absurd hx (List.not_mem_nil), .inl rfl⟩
  | t :: r, d, b => by
    have h1 := dfs_dep t d b
    have h2 := dfsL_dep r d b
    have h3 : 1 ≤ dep t := by cases t; simp [dep]
    simp only [dfsL, depL]
    have m1 : dep t ≤ max (dep t) (depL r) := Nat.le_max_left _ _
    have m2 : depL r ≤ max (dep t) (depL r) := Nat.le_max_right _ _
    refine ⟨fun x hx => ?_, .inr ?_⟩
    · rcases List.mem_append.1 hx with hx | hx
      · have := h1.1 x hx; omega
      · have := h2.1 x hx; omega
    · by_cases hc : depL r ≤ dep t
      · obtain ⟨x, hx, e⟩ := h1.2
        exact ⟨x, List.mem_append_left _ hx, by rw [Nat.max_eq_left hc]; exact e⟩
      · rcases h2.2 with h0 | ⟨x, hx, e⟩
        · omega
        · exact ⟨x, List.mem_append_right _ hx, by rw [Nat.max_eq_right (by omega)]; exact e⟩
end
/-- the row after i nodes have been looked at -/
def rowN (x : Nd) : Nat → List Nd
  | 0 => [x]
  | i + 1 => rowN x i ++ (match (rowN x i)[i]? with | some y => y.kids | none => [])
theorem rowN_perm (x : Nd) : ∀ i, i ≤ (rowN x i).length → ((rowN x i).take i ++ ((rowN x i).drop i).flatMap Nd.all).Perm x.all
  | 0, _ => by simp [rowN]
  | i + 1, h => by
    cases hy : (rowN x i)[i]? with
    | none =>
      have := List.getElem?_eq_none_iff.1 hy
      simp only [rowN, hy, List.append_nil] at h
      omega
    | some y =>
      have hl := (List.getElem?_eq_some_iff.1 hy).1
      have ih := rowN_perm x i (by omega)
      have e1 : (rowN x i).drop i = y :: (rowN x i).drop (i + 1) := by
        rw [List.drop_eq_getElem_cons hl]
        congr 1
        exact (List.getElem?_eq_some_iff.1 hy).2
      have e2 : (rowN x i).take (i + 1) = (rowN x i).take i ++ [y] := by
        rw [List.take_add_one, hy]; rfl
      simp only [rowN, hy]
      rw [List.take_append_of_le_length (by omega), List.drop_append_of_le_length (by omega), e2]
      rw [e1, List.flatMap_cons, Nd.all_eq y] at ih
      refine List.Perm.trans ?_ ih
      rw [List.flatMap_append, List.append_assoc]
      refine List.Perm.append_left _ ?_
      refine (List.Perm.cons y (List.perm_append_comm (l₁ := ((rowN x i).drop (i + 1)).flatMap Nd.all) (l₂ := y.kids.flatMap Nd.all))).trans (List.Perm.refl _)
theorem rowN_end (x : Nd) {i : Nat} (h : i = (rowN x i).length) : (rowN x i).Perm x.all := by
  have := rowN_perm x i (by omega)
  rw [List.take_of_length_le (by omega), List.drop_of_length_le (by omega)] at this
  simpa using this
theorem rowN_len_le (x : Nd) {i : Nat} (h : i ≤ (rowN x i).length) : (rowN x i).length ≤ x.all.length := by
  have h1 := (rowN_perm x i h).length_eq
  have h2 : ((rowN x i).drop i).length ≤ (((rowN x i).drop i).flatMap Nd.all).length := by
    generalize (rowN x i).drop i = l
    induction l with
    | nil => simp
    | cons y r ih =>
      rw [List.flatMap_cons, List.length_append, Nd.all_eq y]
      simp only [List.length_cons]
      omega
  rw [← h1]
  simp only [List.length_append, List.length_take, List.length_drop] at h2 ⊢
  omega
theorem rowN_mem (x : Nd) {i : Nat} (h : i ≤ (rowN x i).length) : ∀ y ∈ rowN x i, y ∈ x.all := fun y hy => by
  have h1 := rowN_perm x i h
  refine h1.mem_iff.1 ?_
  rw [← List.take_append_drop i (rowN x i)] at hy
  rcases List.mem_append.1 hy with hy | hy
  · exact List.mem_append_left _ hy
  · refine List.mem_append_right _ (List.mem_flatMap.2 ⟨y, hy, ?_⟩)
    rw [Nd.all_eq]
    exact List.mem_cons_self ..
/-- depths rise along the row -/
theorem rowN_rise (x : Nd) : ∀ i, i ≤ (rowN x i).length → (rowN x i).Pairwise (fun a b => a.d ≤ b.d) ∧ ∀ y, (rowN x i)[i]? = some y → ∀ z ∈ rowN x i, z.d ≤ y.d + 1
  | 0, _ => ⟨by simp [rowN], fun y hy z hz => by simp [rowN] at hy hz; subst hy hz; omega⟩
  | i + 1, h => by
    cases hy : (rowN x i)[i]? with
    | none =>
      have := List.getElem?_eq_none_iff.1 hy
      simp only [rowN, hy, List.append_nil] at h
      omega
    | some y =>
      have hl := (List.getElem?_eq_some_iff.1 hy).1
      obtain ⟨ih1, ih2⟩ := rowN_rise x i (by omega)
      have ih2 := ih2 y hy
      have hk : ∀ z ∈ y.kids, z.d = y.d + 1 := fun z hz => by
        obtain ⟨k, _, rfl⟩ := List.mem_map.1 hz
        rfl
      simp only [rowN, hy]
      have hp : (rowN x i ++ y.kids).Pairwise (fun a b => a.d ≤ b.d) := by
        refine List.pairwise_append.2 ⟨ih1, ?_, fun a ha b hb => by rw [hk b hb]; exact ih2 a ha⟩
        refine List.pairwise_of_forall_mem_list fun a ha b hb => ?_
        rw [hk a ha, hk b hb]
        exact Nat.le_refl _
      refine ⟨hp, fun u hu z hz => ?_⟩
      have hyu : y.d ≤ u.d := by
        have h0 : (rowN x i ++ y.kids)[i]? = some y := by rw [List.getElem?_append_left hl]; exact hy
        obtain ⟨g1, e1⟩ := List.getElem?_eq_some_iff.1 h0
        obtain ⟨g2, e2⟩ := List.getElem?_eq_some_iff.1 hu
        have := List.pairwise_iff_getElem.1 hp i (i + 1) g1 g2 (by omega)
        rw [e1, e2] at this
        exact this
      rcases List.mem_append.1 hz with hz | hz
      · have := ih2 z hz; omega
      · rw [hk z hz]; omega
theorem rowN_last (x : Nd) {i : Nat} (h : i = (rowN x i).length) {z : Nd} (hz : (rowN x i)[(rowN x i).length - 1]? = some z) : z.d + 1 = x.d + dep x.t := by
  have hp := rowN_end x h
  have hr := (rowN_rise x i (by omega)).1
  obtain ⟨h1, u, hu, he⟩ := dfs_dep x.t x.d x.bare
  obtain ⟨gz, ez⟩ := List.getElem?_eq_some_iff.1 hz
  have hm := h1 z (hp.mem_iff.1 (List.mem_of_getElem? hz))
  obtain ⟨j, hj⟩ := List.getElem?_of_mem (hp.mem_iff.2 hu)
  obtain ⟨gj, ej⟩ := List.getElem?_eq_some_iff.1 hj
  have : u.d ≤ z.d := by
    by_cases hc : j = (rowN x i).length - 1
    · subst hc; rw [hj] at hz; injection hz with hz; subst hz; exact Nat.le_refl _
    · have := List.pairwise_iff_getElem.1 hr j _ gj gz (by omega)
      rw [ej, ez] at this
      exact this
  omega
/-- how the row ends: whole, or too great -/
theorem rowN_ok (t : Tm) {i : Nat} (h : i = (rowN ⟨t, 1, false⟩ i).length) (h2 : (rowN ⟨t, 1, false⟩ i).length ≤ 4096) (h3 : ∀ y ∈ rowN ⟨t, 1, false⟩ i, y.d ≤ 256) : greatT t = false := by
  have hp := rowN_end _ h
  have hl := hp.length_eq
  have e : (Nd.all ⟨t, 1, false⟩).length = cnt t := dfs_len t 1 false
  obtain ⟨_, u, hu, he⟩ := dfs_dep t 1 false
  have := h3 u (hp.mem_iff.2 hu)
  unfold greatT
  simp
  omega
theorem rowN_big (t : Tm) {i : Nat} (h : i ≤ (rowN ⟨t, 1, false⟩ i).length) {y : Nd} (hy : (rowN ⟨t, 1, false⟩ i)[i]? = some y) (h2 : 256 < y.d ∨ 4096 < (rowN ⟨t, 1, false⟩ i).length + y.t.kids.length) : greatT t = true := by
  unfold greatT
  simp only [decide_eq_true_eq]
  rcases h2 with h2 | h2
  · right
    have := (dfs_dep t 1 false).1 y (rowN_mem _ h y (List.mem_of_getElem? hy))
    omega
  · left
    have hl := (List.getElem?_eq_some_iff.1 hy).1
    have e : (rowN ⟨t, 1, false⟩ (i + 1)).length = (rowN ⟨t, 1, false⟩ i).length + y.t.kids.length := by
      simp only [rowN, hy, List.length_append, Nd.kids, List.length_map]
    have := rowN_len_le ⟨t, 1, false⟩ (i := i + 1) (by omega)
    have e2 : (Nd.all ⟨t, 1, false⟩).length = cnt t := dfs_len t 1 false
    omega
theorem rowN_stable (x : Nd) {i : Nat} (h : i = (rowN x i).length) : ∀ k, rowN x (i + k) = rowN x i
  | 0 => rfl
  | k + 1 => by
    have := rowN_stable x h k
    show rowN x (i + k) ++ (match (rowN x (i + k))[i + k]? with | some y => y.kids | none => []) = _
    rw [this, List.getElem?_eq_none (Nat.le_trans (Nat.le_of_eq h.symm) (Nat.le_add_right i k))]
    simp
theorem rowN_prefix (x : Nd) (i : Nat) : ∀ k, rowN x i <+: rowN x (i + k)
  | 0 => List.prefix_refl _
  | k + 1 => (rowN_prefix x i k).trans (List.prefix_append _ _)
theorem rowN_kids (x : Nd) {i N : Nat} (hN : i < N) {y : Nd} (hy : (rowN x i)[i]? = some y) {k : Nat} {z : Tm} (hk : y.t.kids[k]? = some z) : ∃ u, (rowN x N)[(rowN x i).length + k]? = some u ∧ u.t = z := by
  obtain ⟨c, rfl⟩ : ∃ c, N = i + 1 + c := ⟨N - (i + 1), by omega⟩
  obtain ⟨r, hr⟩ := rowN_prefix x (i + 1) c
  rw [← hr]
  have e : rowN x (i + 1) = rowN x i ++ y.kids := by simp only [rowN, hy]
  have hkl := (List.getElem?_eq_some_iff.1 hk).1
  have hkl2 : k < y.kids.length := by simpa [Nd.kids] using hkl
  rw [e, List.append_assoc, List.getElem?_append_right (by omega), Nat.add_sub_cancel_left, List.getElem?_append_left hkl2]
  refine ⟨⟨z, y.d + 1, y.low⟩, ?_, rfl⟩
  unfold Nd.kids
  rw [List.getElem?_map, hk]; rfl
/-- two nodes alike, but for their kids -/
def likeNd (x y : Tm) : Prop := x.kind = y.kind ∧ x.text = y.text ∧ x.n = y.n ∧ x.sh = y.sh ∧ x.at_ = y.at_ ∧ x.kids.length = y.kids.length
theorem Tm.ext' {x y : Tm} (h : likeNd x y) (hk : x.kids = y.kids) : x = y := by
  cases x; cases y
  obtain ⟨h1, h2, h3, h4, h5, _⟩ := h
  simp only [Tm.kind, Tm.text, Tm.n, Tm.sh, Tm.at_, Tm.kids] at *
  subst h1 h2 h3 h4 h5 hk
  rfl
/-- rows that are alike are of one term -/
theorem rows_same (a b : Nd) {N : Nat} (ha : N = (rowN a N).length) (hb : N = (rowN b N).length) (h : ∀ (i : Nat) (x y : Nd), (rowN a N)[i]? = some x → (rowN b N)[i]? = some y → likeNd x.t y.t) : a.t = b.t := by
  have hlen : ∀ i, i ≤ N → (rowN a i).length = (rowN b i).length := by
    intro i
    induction i with
    | zero => intro _; rfl
    | succ i ih =>
      intro hi
      have ih := ih (by omega)
      have pa := rowN_prefix a i (N - i)
      have pb := rowN_prefix b i (N - i)
      rw [show i + (N - i) = N by omega] at pa pb
      obtain ⟨ra, ea⟩ := pa
      obtain ⟨rb, eb⟩ := pb
      cases hx : (rowN a i)[i]? with
      | none =>
        have h1 := List.getElem?_eq_none_iff.1 hx
        have h2 : (rowN b i)[i]? = none := List.getElem?_eq_none_iff.2 (by omega)
        simp only [rowN, hx, h2, List.append_nil, ih]
      | some x =>
        have h1 := (List.getElem?_eq_some_iff.1 hx).1
        obtain ⟨y, hy⟩ : ∃ y, (rowN b i)[i]? = some y := ⟨_, List.getElem?_eq_getElem (by omega)⟩
        have := h i x y (by rw [← ea, List.getElem?_append_left h1]; exact hx) (by rw [← eb, List.getElem?_append_left (by omega)]; exact hy)
        simp only [rowN, hx, hy, List.length_append, Nd.kids, List.length_map, ih, this.2.2.2.2.2]
  have main : ∀ j i, N ≤ i + j → ∀ (q : Nat) (x y : Nd), i ≤ q → (rowN a N)[q]? = some x → (rowN b N)[q]? = some y → x.t = y.t := by
    intro j
    induction j with
    | zero => intro i hi q x y hq hx _; have := (List.getElem?_eq_some_iff.1 hx).1; omega
    | succ j ih =>
      intro i hi q x y hq hx hy
      by_cases hqi : q = i
      · subst hqi
        have hl := (List.getElem?_eq_some_iff.1 hx).1
        have hlk := h q x y hx hy
        refine Tm.ext' hlk (List.ext_getElem? fun k => ?_)
        have pa := rowN_prefix a q (N - q)
        have pb := rowN_prefix b q (N - q)
        rw [show q + (N - q) = N by omega] at pa pb
        obtain ⟨ra, ea⟩ := pa
        obtain ⟨rb, eb⟩ := pb
        have hqa : q < (rowN a q).length := by
          apply Nat.lt_of_not_le
          intro hle
          have hge : ∀ r, r ≤ q → r ≤ (rowN a r).length ∨ ∃ s, s < r ∧ s = (rowN a s).length := by
            intro r
            induction r with
            | zero => intro _; exact .inl (Nat.zero_le _)
            | succ r ihr =>
              intro hr
              rcases ihr (by omega) with h0 | ⟨s, hs, e⟩
              · by_cases he : r = (rowN a r).length
                · exact .inr ⟨r, by omega, he⟩
                · refine .inl ?_
                  simp only [rowN, List.length_append]
                  omega
              · exact .inr ⟨s, by omega, e⟩
          have stop : ∀ s, s ≤ q → s = (rowN a s).length → False := fun s hs e => by
            have := rowN_stable a e (N - s)
            rw [show s + (N - s) = N by omega] at this
            have := congrArg List.length this
            omega
          rcases hge q (Nat.le_refl _) with h0 | ⟨s, hs, e⟩
          · exact stop q (Nat.le_refl _) (by omega)
          · exact stop s (by omega) e
        have hqb : q < (rowN b q).length := by rw [← hlen q (by omega)]; exact hqa
        have hxa : (rowN a q)[q]? = some x := by rw [← ea, List.getElem?_append_left hqa] at hx; exact hx
        have hyb : (rowN b q)[q]? = some y := by rw [← eb, List.getElem?_append_left hqb] at hy; exact hy
        cases hk : x.t.kids[k]? with
        | none =>
          have := List.getElem?_eq_none_iff.1 hk
          exact (List.getElem?_eq_none_iff.2 (by have := hlk.2.2.2.2.2; omega)).symm
        | some z =>
          have hkl := (List.getElem?_eq_some_iff.1 hk).1
          obtain ⟨z', hk'⟩ : ∃ z', y.t.kids[k]? = some z' := ⟨_, List.getElem?_eq_getElem (by have := hlk.2.2.2.2.2; omega)⟩
          obtain ⟨u, hu, rfl⟩ := rowN_kids a (N := N) (by omega) hxa hk
          obtain ⟨v, hv, rfl⟩ := rowN_kids b (N := N) (by omega) hyb hk'
          rw [hk', ih (q + 1) (by omega) ((rowN a q).length + k) u v (by omega) hu (by rw [hlen q (by omega)]; exact hv)]
      · exact ih (i + 1) (by omega) q x y (by omega) hx hy
  have h0a := rowN_prefix a 0 N
  have h0b := rowN_prefix b 0 N
  rw [Nat.zero_add] at h0a h0b
  obtain ⟨ra, ea⟩ := h0a
  obtain ⟨rb, eb⟩ := h0b
  exact main N 0 (by omega) 0 a b (Nat.zero_le _) (by rw [← ea]; rfl) (by rw [← eb]; rfl)

/-! ### what may be -/
def cls (k : Int) : Int := if 1 ≤ k ∧ k ≤ 5 then 1 else if 10 ≤ k ∧ k ≤ 14 then 2 else if 20 ≤ k ∧ k ≤ 46 then 3 else 0
def alnum (c : UInt8) : Bool := (97 ≤ c && c ≤ 122) || (65 ≤ c && c ≤ 90) || (48 ≤ c && c ≤ 57)
/-- a name that begins with a letter from lo to hi -/
def isName (s : List UInt8) (lo hi : UInt8) : Bool := match s with
  | [] => false
  | c :: r => decide (r.length < 32) && (lo ≤ c && c ≤ hi) && r.all alnum
def litOk (sh at_ : List Int) : Bool := match sh with
  | [] => decide (at_.length = 1)
  | [k] => decide (2 ≤ k ∧ k ≤ 64 ∧ (at_.length : Int) = k)
  | _ => false
def rankOk (sh at_ : List Int) : Bool := match sh with
  | [k] => decide (1 ≤ k ∧ k ≤ 3 ∧ (at_.length : Int) = k) && at_.all fun n => decide (n = 64 ∨ (-8 ≤ n ∧ n ≤ 8))
  | _ => false
/-- the spellings of the primitives, in the order of their numbers -/
def spells : List (List UInt8) := [[43], [45], [42], [37], [124], [60, 46], [62, 46], [60], [62], [61], [126, 58], [60, 58], [62, 58], [43, 46], [42, 46], [43, 58], [42, 58], [45, 46], [45, 58], [94], [33], [35], [36], [44], [44, 46], [44, 58], [123], [123, 46], [125, 46], [123, 58], [125, 58], [124, 46], [124, 58], [105, 46], [101, 46], [126, 46], [47, 58], [92, 58], [35, 46], [35, 58], [91], [93], [73, 46]]
def opIn (l : List (List UInt8)) (k : Nat) (s : List UInt8) : Nat := match l with
  | [] => 0
  | c :: r => if c = s then k else opIn r (k + 1) s
/-- the number of a spelling; 0: none -/
def opOf (s : List UInt8) : Nat := opIn spells 1 s
def isOperand (t : Tm) : Bool := decide (t.kind = 1) || (decide (t.kind = 2) && !(t.text.data.toList == [120]) && !(t.text.data.toList == [121]))
/-- is a kid of the letter? -/
def fitsB (t : Tm) (c : UInt8) : Bool :=
  if c = 110 then decide (cls t.kind = 1) else if c = 118 then decide (cls t.kind = 3) else if c = 98 then decide (t.kind = 14) else if c = 111 then isOperand t else decide (cls t.kind = 2) && !decide (t.kind = 14)
/-- what kids a kind has: letters; n+ and v+ for 2 to 17, s for any number of sentences -/
def patOf (k : Int) : List UInt8 :=
  if k = 3 then [118, 110] else if k = 4 then [118, 110, 110] else if k = 5 then [110, 43] else if k = 10 ∨ k = 11 then [110] else if k = 12 then [110, 98, 98] else if k = 13 then [110, 98] else if k = 14 then [115]
  else if k = 22 then [111] else if k = 23 then [98] else if k = 24 ∨ k = 25 ∨ k = 26 ∨ k = 27 ∨ k = 42 then [118] else if k = 39 then [111, 118] else if k = 40 ∨ k = 41 then [118, 111] else if k = 43 then [118, 43]
  else if k = 45 then [118, 118, 118] else if k = 1 ∨ k = 2 ∨ k = 20 ∨ k = 21 then [] else [118, 118]
def zipFits : List Tm → List UInt8 → Bool
  | [], [] => true
  | t :: r, c :: p => fitsB t c && zipFits r p
  | _, _ => false
def kidsB (k : Int) (ks : List Tm) : Bool :=
  if k = 14 then ks.all (fitsB · 115) else if k = 5 then decide (2 ≤ ks.length ∧ ks.length ≤ 17) && ks.all (fitsB · 110) else if k = 43 then decide (2 ≤ ks.length ∧ ks.length ≤ 17) && ks.all (fitsB · 118) else zipFits ks (patOf k)
def textB (k : Int) (s : List UInt8) : Bool := if k = 2 ∨ k = 11 then isName s 97 122 else if k = 20 then decide (0 < opOf s) else if k = 21 then isName s 65 90 else s.isEmpty
def nB (k n : Int) : Bool := if k = 23 then decide (n = 1 ∨ n = 2) else decide (n = 0)
def numB (k : Int) (sh at_ : List Int) : Bool := if k = 1 then litOk sh at_ else if k = 42 then rankOk sh at_ else sh.isEmpty && at_.isEmpty
/-- are Text, N and Num as the kind says? -/
def fieldsB (t : Tm) : Bool := textB t.kind t.text.data.toList && nB t.kind t.n && numB t.kind t.sh t.at_
/-- is a node as it should be? -/
def nodeB (t : Tm) (bare : Bool) : Bool := !decide (cls t.kind = 0) && fieldsB t && kidsB t.kind t.kids && !(bare && (decide (t.kind = 2) || decide (t.kind = 11)) && t.text.data.toList == [120])
mutual
def goodT : Bool → Tm → Bool
  | b, .mk k s n sh a ks => nodeB (.mk k s n sh a ks) b && goodL (lowOf k n b) ks
def goodL : Bool → List Tm → Bool
  | _, [] => true
  | b, t :: r => goodT b t && goodL b r
end
mutual
theorem goodT_all : ∀ (b : Bool) (t : Tm) (d : Nat), goodT b t = (dfs t d b).all fun x => nodeB x.t x.bare
  | b, .mk k s n sh a ks, d => by
    simp only [goodT, dfs, List.all_cons, goodL_all (lowOf k n b) ks (d + 1)]
theorem goodL_all : ∀ (b : Bool) (l : List Tm) (d : Nat), goodL b l = (dfsL l d b).all fun x => nodeB x.t x.bare
  | _, [], _ => rfl
  | b, t :: r, d => by simp only [goodL, dfsL, List.all_append, goodT_all b t d, goodL_all b r d]
end
theorem good_row (t : Tm) {i : Nat} (h : i = (rowN ⟨t, 1, false⟩ i).length) : goodT false t = (rowN ⟨t, 1, false⟩ i).all fun x => nodeB x.t x.bare := by
  rw [goodT_all false t 1]
  exact ((rowN_end _ h).all_eq).symm
def mayT (t : Tm) (c : Int) : Int := if c < 1 ∨ 3 < c then 1 else if greatT t = true then 2 else if goodT false t = false then 33 else if cls t.kind ≠ c then 5 else 0
mutual
def eqT : Tm → Tm → Bool
  | .mk k s n sh a ks, .mk k' s' n' sh' a' ks' => decide (k = k') && decide (s = s') && decide (n = n') && decide (sh = sh') && decide (a = a') && eqL ks ks'
def eqL : List Tm → List Tm → Bool
  | [], [] => true
  | t :: r, u :: q => eqT t u && eqL r q
  | _, _ => false
end
mutual
theorem eqT_iff : ∀ (t u : Tm), eqT t u = true ↔ t = u
  | .mk k s n sh a ks, .mk k' s' n' sh' a' ks' => by
    simp only [eqT, Bool.and_eq_true, decide_eq_true_eq, eqL_iff ks ks', Tm.mk.injEq, and_assoc]
theorem eqL_iff : ∀ (t u : List Tm), eqL t u = true ↔ t = u
  | [], [] => by simp [eqL]
  | t :: r, u :: q => by simp only [eqL, Bool.and_eq_true, eqT_iff t u, eqL_iff r q, List.cons.injEq]
  | [], _ :: _ => by simp [eqL]
  | _ :: _, [] => by simp [eqL]
end
def sameT (a b : Tm) : Bool := !greatT a && !greatT b && eqT a b

theorem cnt_kid {t : Tm} {i : Nat} {k : Tm} (h : t.kids[i]? = some k) : cnt k < cnt t := by
  have main : ∀ (l : List Tm) (i : Nat), l[i]? = some k → cnt k ≤ cntL l := by
    intro l
    induction l with
    | nil => intro i h; simp at h
    | cons u r ih =>
      intro i h
      simp only [cntL]
      cases i with
      | zero => simp only [List.getElem?_cons_zero, Option.some.injEq] at h; subst h; omega
      | succ i => have := ih i (by simpa using h); omega
  cases t with
  | mk kk s n sh a ks =>
    simp only [Tm.kids] at h
    have := main ks i h
    simp only [cnt]
    omega
/-! ### sizes -/
def In64 (x : Int) : Prop := -9223372036854775808 ≤ x ∧ x ≤ 9223372036854775807
def All64 (l : List Int) : Prop := ∀ x ∈ l, In64 x
mutual
/-- a term's numbers are 64 bits wide, its lists within reach -/
def WfT : Tm → Prop
  | .mk k s n sh a ks => In64 k ∧ In64 n ∧ All64 sh ∧ All64 a ∧ s.size ≤ 140737488351232 ∧ sh.length * 8 ≤ 140737488351232 ∧ a.length * 8 ≤ 140737488351232 ∧ ks.length * 104 ≤ 140737488351232 ∧ WfL ks
def WfL : List Tm → Prop
  | [] => True
  | t :: r => WfT t ∧ WfL r
end
theorem WfL.of : ∀ {l : List Tm}, (∀ t ∈ l, WfT t) → WfL l
  | [], _ => by simp only [WfL]
  | t :: r, h => by
    simp only [WfL]
    exact ⟨h t (List.mem_cons_self ..), WfL.of fun u hu => h u (List.mem_cons_of_mem _ hu)⟩
theorem WfL.get : ∀ {l : List Tm}, WfL l → ∀ t ∈ l, WfT t
  | [], _, t, ht => absurd ht List.not_mem_nil
  | u :: r, h, t, ht => by
    simp only [WfL] at h
    rcases List.mem_cons.1 ht with rfl | ht
    · exact h.1
    · exact WfL.get h.2 t ht
/-- what is known of a node -/
structure NodeWf (t : Tm) : Prop where
  kind : In64 t.kind
  n : In64 t.n
  sh64 : All64 t.sh
  at64 : All64 t.at_
  text : t.text.size ≤ 140737488351232
  sh : t.sh.length ≤ 140737488351232
  at_ : t.at_.length ≤ 140737488351232
  kids : t.kids.length ≤ 140737488351232
  sh8 : t.sh.length * 8 ≤ 140737488351232
  at8 : t.at_.length * 8 ≤ 140737488351232
  kids104 : t.kids.length * 104 ≤ 140737488351232
  each : ∀ k ∈ t.kids, WfT k
theorem WfT.node {t : Tm} (h : WfT t) : NodeWf t := by
  cases t with
  | mk k s n sh a ks =>
    simp only [WfT] at h
    obtain ⟨h1, h2, h3, h4, h5, h6, h7, h8, h9⟩ := h
    exact ⟨h1, h2, h3, h4, h5, by show sh.length ≤ _; omega, by show a.length ≤ _; omega, by show ks.length ≤ _; omega, h6, h7, h8, h9.get⟩
end Go.Proofs.YteohoodfcgfkeaaGreat
