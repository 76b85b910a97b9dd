/- Small plain lemmas that all texts of this seat use: worlds, blocks, and what the listed package-level variables hold. No condition. · Terms: what they are, how great, their nodes in a row, which may be. Plain laws. No condition. · Terms: where they lie in memory. No condition. · Terms in memory of their own: rows, their blocks, what they hold. No condition. -/
import Derived.Test.YtkdejffhdhcocaaGreatProg
import Derived.WalkKit
import Derived.BigFrame
import Derived.Lib.Hide
import Derived.Lib.ItoaMem
import Derived.Lib.AppendIntMem
import Derived.Lib.LaidTab
import Derived.LaidSub
import Derived.ChangeSame
import Derived.LaidHandle
import Derived.OwnWalk
import Derived.Deep.AppendLies
namespace Go.Proofs.YtkdejffhdhcocaaGreat
open Go.RowKit

theorem bdn {B : Nat} {a w : World} (h : Below B a w) (n : Nat) : Below B a (w.drewN n) := ⟨h.os, h.tape, h.output, h.size, h.block⟩
theorem below_grow {B : Nat} {a w : World} (h : Below B a w) (hB : B ≤ w.heap.size) (os : Array Obj) : Below B a (Sort.grow w os) :=
  h.trans ⟨rfl, rfl, rfl, by simp [Sort.grow], fun k hk => by simp only [Sort.grow]; rw [Array.getElem?_append_left (by omega)]⟩
/-- two calls in a row, the second from the world that the first left -/
theorem _root_.Go.RowKit.Below.then_ {a w w' : World} (h : Below a.heap.size a w) (k : Below w.heap.size w w') : Below a.heap.size a w' := h.trans (k.mono h.size)

section
open Go.WideShapes Go.ChangeShapes
variable {H : Type} {enc : TypeId × Value → H} {P : Program}
theorem post_of_below {f : Func} {s : ChangeSpec} {apart fresh handsOn again : Bool} {W W' : World} {args : Array Value} {v : Value} {ds gs : List (DataW H)} {before pa pv : List MemPlace}
    (hW : DataW.Whole enc P f.params.toList s.vars apart W args.toList ds gs before)
    (hres : ∀ (b : Nat) (sp : Nat → Bool) (hd : Bool), DataW.TrodAll enc P W' b sp hd f.resultTypes.toList (v.resultList f.resultTypes.size) (s.fn H (ds ++ gs)).results [])
    (hargs : ∀ sp : Nat → Bool, (∀ p ∈ before, sp p.block = true) → DataW.TrodAll enc P W' 0 sp true f.params.toList args.toList (s.fn H (ds ++ gs)).args pa)
    (hvars : ∀ sp : Nat → Bool, (∀ p ∈ before, sp p.block = true) → DataW.TrodVars enc P W' sp s.vars (s.fn H (ds ++ gs)).vars pv)
    (hps : before = pa ++ pv) (hb : Below W.heap.size W W')
    (hok : ∀ (j : Nat) (t : TypeId) (r : Value), f.resultTypes[j]? = some t → (v.resultList f.resultTypes.size)[j]? = some r → Value.okWide P W' .any 0 t r) :
    s.post enc P f apart fresh handsOn again W args v W' := by
  have hlt : ∀ p ∈ before, p.block < W.heap.size := fun p hp => hW.lt p hp
  have hold : ∀ p ∈ before, (fun b => decide (b < W.heap.size)) p.block = true := fun p hp => by simpa using hlt p hp
  refine ⟨ds, gs, before, [], pa, pv, hW, hres _ _ _, hargs _ hold, hvars _ hold, World.keptBut_mono (fun p hp => ⟨hp, ?_⟩) (hb.frame (· ∈ before)), fun _ => ?_⟩
  · rw [hps, List.mem_append] at hp
    exact Or.inr hp
  · obtain ⟨_, _, _, _, _, hz, hn⟩ := hW
    refine ⟨hok, _, _, ([] ++ pa) ++ pv, ⟨[] ++ pa, pv, trodAll_append (hargs _ (fun _ _ => rfl)) (hres _ _ _), hvars _ (fun _ _ => rfl), rfl, ?_, ?_⟩, ?_⟩
    · intro b off hp
      have hin : MemPlace.cell b off ∈ before := by rw [hps]; simpa using hp
      rw [hb.frozen (hlt _ hin)]
      exact hz b off hin
    · intro ha
      have := hn ha
      rw [hps] at this
      simpa using this
    · intro p hp _
      rw [hps]
      simpa using hp
end

/-- a datum of plain numbers, texts and bools as the cells that hold it -/
def litCell : DataW Unit → Value
  | .lit (.int k z) => .int k z
  | .lit (.string l) => .string ⟨l.toArray⟩
  | .lit (.bool b) => .bool b
  | _ => undef
def datCells : DataW Unit → Array Value
  | .agg parts => (parts.map litCell).toArray
  | d => #[litCell d]
def putCells (cs : Array Value) : Obj → Obj
  | .cells _ t frozen => .cells cs t frozen
  | o => o
/-- a world in which the listed variables hold what is listed -/
noncomputable def laidWorld (os : Os) (l : List (Nat × Array Value)) : World :=
  { World.holding Tryz.prog os ⟨#[], #[], []⟩ with heap := l.foldl (fun h x => h.modify x.1 (putCells x.2)) (World.holding Tryz.prog os ⟨#[], #[], []⟩).heap }
end Go.Proofs.YtkdejffhdhcocaaGreat

namespace Go.Proofs.YtkdejffhdhcocaaGreat
open Go.RowKit

inductive Tm where
  | mk (kind : Int) (text : ByteArray) (n : Int) (sh : List Int) (at_ : List Int) (kids : List Tm) : Tm
def Tm.kind : Tm → Int | .mk k _ _ _ _ _ => k
def Tm.text : Tm → ByteArray | .mk _ s _ _ _ _ => s
def Tm.n : Tm → Int | .mk _ _ n _ _ _ => n
def Tm.sh : Tm → List Int | .mk _ _ _ s _ _ => s
def Tm.at_ : Tm → List Int | .mk _ _ _ _ a _ => a
def Tm.kids : Tm → List Tm | .mk _ _ _ _ _ ks => ks

/-! ### how great a term is -/
mutual
def cnt : Tm → Nat
  | .mk _ _ _ _ _ kids => cntL kids + 1
def cntL : List Tm → Nat
  | [] => 0
  | t :: r => cnt t + cntL r
end
mutual
def dep : Tm → Nat
  | .mk _ _ _ _ _ kids => depL kids + 1
def depL : List Tm → Nat
  | [] => 0
  | t :: r => max (dep t) (depL r)
end
mutual
/-- the counter goes over a term at a depth: nodes and depth so far -/
def addT : Tm → Nat → Nat → Nat → Bool × Nat × Nat
  | .mk _ _ _ _ _ kids, d, n, m => if 4096 < n + 1 ∨ 256 < d then (false, n + 1, max m d) else addK kids (d + 1) (n + 1) (max m d)
def addK : List Tm → Nat → Nat → Nat → Bool × Nat × Nat
  | [], _, n, m => (true, n, m)
  | t :: r, d, n, m => if (addT t d n m).1 = true then addK r d (addT t d n m).2.1 (addT t d n m).2.2 else addT t d n m
end
mutual
theorem addT_eq : ∀ (t : Tm) (d n m : Nat), (n + cnt t ≤ 4096 ∧ d + dep t ≤ 257 → addT t d n m = (true, n + cnt t, max m (d + dep t - 1))) ∧ (¬ (n + cnt t ≤ 4096 ∧ d + dep t ≤ 257) → (addT t d n m).1 = false)
  | .mk _ _ _ _ _ kids, d, n, m => by
    unfold addT cnt dep
    constructor
    · rintro ⟨h1, h2⟩
      rw [if_neg (by omega), (addK_eq kids (d + 1) (n + 1) (max m d) (by omega) (by omega) (by omega)).1 ⟨by omega, by omega⟩]
      refine Prod.ext rfl (Prod.ext ?_ ?_)
      · show n + 1 + cntL kids = n + (cntL kids + 1); omega
      · show max (max m d) (d + 1 + depL kids - 1) = max m (d + (depL kids + 1) - 1); omega
    · intro hn
      split
      · rfl
      · exact (addK_eq kids (d + 1) (n + 1) (max m d) (by omega) (by omega) (by omega)).2 (by omega)
theorem addK_eq : ∀ (l : List Tm) (d n m : Nat), n ≤ 4096 → d ≤ 257 → d ≤ m + 1 → (n + cntL l ≤ 4096 ∧ d + depL l ≤ 257 → addK l d n m = (true, n + cntL l, max m (d + depL l - 1))) ∧ (¬ (n + cntL l ≤ 4096 ∧ d + depL l ≤ 257) → (addK l d n m).1 = false)
  | [], d, n, m, h0, h1, h2 => by
    unfold addK cntL depL
    refine ⟨fun _ => Prod.ext rfl (Prod.ext rfl ?_), fun h => absurd ⟨h0, h1⟩ h⟩
    show m = max m (d + 0 - 1); omega
  | t :: r, d, n, m, h0, h1, h2 => by
    have ht := addT_eq t d n m
    unfold addK cntL depL
    by_cases hc : n + cnt t ≤ 4096 ∧ d + dep t ≤ 257
    · have e := ht.1 hc
      have e1 : (addT t d n m).1 = true := by rw [e]
      rw [if_pos e1, e]
      have hr := addK_eq r d (n + cnt t) (max m (d + dep t - 1)) (by omega) h1 (by omega)
      refine ⟨fun h => ?_, fun h => hr.2 (by omega)⟩
      rw [hr.1 (by omega)]
      refine Prod.ext rfl (Prod.ext ?_ ?_)
      · show n + cnt t + cntL r = n + (cnt t + cntL r); omega
      · show max (max m (d + dep t - 1)) (d + depL r - 1) = max m (d + max (dep t) (depL r) - 1); omega
    · have e := ht.2 hc
      rw [if_neg (by rw [e]; decide)]
      exact ⟨fun h => absurd h (by omega), fun _ => e⟩
end
def greatT (t : Tm) : Bool := decide (4096 < cnt t ∨ 256 < dep t)
def sizeT (t : Tm) : Nat × Nat := if greatT t = true then (4097, 257) else (cnt t, dep t)
theorem add_size (t : Tm) : (if (addT t 1 0 0).1 = true then (addT t 1 0 0).2 else (4097, 257)) = sizeT t := by
  unfold sizeT greatT
  have h := addT_eq t 1 0 0
  by_cases hc : 0 + cnt t ≤ 4096 ∧ 1 + dep t ≤ 257
  · rw [h.1 hc, if_pos rfl, if_neg (by simp; omega)]
    exact Prod.ext (by simp) (by show max 0 (1 + dep t - 1) = dep t; omega)
  · rw [h.2 hc, if_neg (by decide), if_pos (by simp; omega)]

/-! ### all nodes in a row -/
structure Nd where
  t : Tm
  d : Nat
  bare : Bool
def lowOf (k n : Int) (b : Bool) : Bool := if k = 23 then decide (n = 1) else b
def Nd.low (x : Nd) : Bool := lowOf x.t.kind x.t.n x.bare
def Nd.kids (x : Nd) : List Nd := x.t.kids.map fun k => ⟨k, x.d + 1, x.low⟩
mutual
def dfs : Tm → Nat → Bool → List Nd
  | .mk k s n sh a ks, d, b => ⟨.mk k s n sh a ks, d, b⟩ :: dfsL ks (d + 1) (lowOf k n b)
def dfsL : List Tm → Nat → Bool → List Nd
  | [], _, _ => []
  | t :: r, d, b => dfs t d b ++ dfsL r d b
end
def Nd.all (x : Nd) : List Nd := dfs x.t x.d x.bare
theorem Nd.all_eq (x : Nd) : x.all = x :: x.kids.flatMap Nd.all := by
  obtain ⟨t, d, b⟩ := x
  cases t with
  | mk k s n sh a ks =>
    simp only [Nd.all, dfs, Nd.kids, Tm.kids, Nd.low, Tm.kind, Tm.n]
    congr 1
    generalize lowOf k n b = b'
    induction ks with
    | nil => rfl
    | cons t r ih => simp only [dfsL, ih, List.map_cons, List.flatMap_cons, Nd.all]
mutual
theorem dfs_len : ∀ (t : Tm) (d : Nat) (b : Bool), (dfs t d b).length = cnt t
  | .mk _ _ _ _ _ ks, d, b => by simp only [dfs, cnt, List.length_cons, dfsL_len ks]
theorem dfsL_len : ∀ (l : List Tm) (d : Nat) (b : Bool), (dfsL l d b).length = cntL l
  | [], _, _ => rfl
  | t :: r, d, b => by simp only [dfsL, cntL, List.length_append, dfs_len t, dfsL_len r]
end
mutual
theorem dfs_dep : ∀ (t : Tm) (d : Nat) (b : Bool), (∀ x ∈ dfs t d b, d ≤ x.d ∧ x.d + 1 ≤ d + dep t) ∧ ∃ x ∈ dfs t d b, x.d + 1 = d + dep t
  | .mk k s n sh a ks, d, b => by
    have h := dfsL_dep ks (d + 1) (lowOf k n b)
    simp only [dfs, dep]
    refine ⟨fun x hx => ?_, ?_⟩
    · rcases List.mem_cons.1 hx with rfl | hx
      · exact ⟨Nat.le_refl _, by show d + 1 ≤ _; omega⟩
      · have := h.1 x hx
        omega
    · rcases h.2 with h0 | ⟨x, hx, e⟩
      · exact ⟨_, List.mem_cons_self .., by rw [h0]⟩
      · exact ⟨x, List.mem_cons_of_mem _ hx, by omega⟩
theorem dfsL_dep : ∀ (l : List Tm) (d : Nat) (b : Bool), (∀ x ∈ dfsL l d b, d ≤ x.d ∧ x.d + 1 ≤ d + depL l) ∧ (depL l = 0 ∨ ∃ x ∈ dfsL l d b, x.d + 1 = d + depL l)
  | [], d, b => ⟨fun x hx => absurd hx (List.not_mem_nil), .inl rfl⟩
  | t :: r, d, b => by
    have h1 := dfs_dep t d b
    have h2 := dfsL_dep r d b
    have h3 : 1 ≤ dep t := by cases t; simp [dep]
    simp only [dfsL, depL]
    have m1 : dep t ≤ max (dep t) (depL r) := Nat.le_max_left _ _
    have m2 : depL r ≤ max (dep t) (depL r) := Nat.le_max_right _ _
    refine ⟨fun x hx => ?_, .inr ?_⟩
    · rcases List.mem_append.1 hx with hx | hx
      · have := h1.1 x hx; omega
      · have := h2.1 x hx; omega
    · by_cases hc : depL r ≤ dep t
      · obtain ⟨x, hx, e⟩ := h1.2
        exact ⟨x, List.mem_append_left _ hx, by rw [Nat.max_eq_left hc]; exact e⟩
      · rcases h2.2 with h0 | ⟨x, hx, e⟩
        · omega
        · exact ⟨x, List.mem_append_right _ hx, by rw [Nat.max_eq_right (by omega)]; exact e⟩
end
/-- the row after i nodes have been looked at -/
def rowN (x : Nd) : Nat → List Nd
  | 0 => [x]
  | i + 1 => rowN x i ++ (match (rowN x i)[i]? with | some y => y.kids | none => [])
theorem rowN_perm (x : Nd) : ∀ i, i ≤ (rowN x i).length → ((rowN x i).take i ++ ((rowN x i).drop i).flatMap Nd.all).Perm x.all
  | 0, _ => by simp [rowN]
  | i + 1, h => by
    cases hy : (rowN x i)[i]? with
    | none =>
      have := List.getElem?_eq_none_iff.1 hy
      simp only [rowN, hy, List.append_nil] at h
      omega
    | some y =>
      have hl := (List.getElem?_eq_some_iff.1 hy).1
      have ih := rowN_perm x i (by omega)
      have e1 : (rowN x i).drop i = y :: (rowN x i).drop (i + 1) := by
        rw [List.drop_eq_getElem_cons hl]
        congr 1
        exact (List.getElem?_eq_some_iff.1 hy).2
      have e2 : (rowN x i).take (i + 1) = (rowN x i).take i ++ [y] := by
        rw [List.take_add_one, hy]; rfl
      simp only [rowN, hy]
      rw [List.take_append_of_le_length (by omega), List.drop_append_of_le_length (by omega), e2]
      rw [e1, List.flatMap_cons, Nd.all_eq y] at ih
      refine List.Perm.trans ?_ ih
      rw [List.flatMap_append, List.append_assoc]
      refine List.Perm.append_left _ ?_
      refine (List.Perm.cons y (List.perm_append_comm (l₁ := ((rowN x i).drop (i + 1)).flatMap Nd.all) (l₂ := y.kids.flatMap Nd.all))).trans (List.Perm.refl _)
theorem rowN_end (x : Nd) {i : Nat} (h : i = (rowN x i).length) : (rowN x i).Perm x.all := by
  have := rowN_perm x i (by omega)
  rw [List.take_of_length_le (by omega), List.drop_of_length_le (by omega)] at this
  simpa using this
theorem rowN_len_le (x : Nd) {i : Nat} (h : i ≤ (rowN x i).length) : (rowN x i).length ≤ x.all.length := by
  have h1 := (rowN_perm x i h).length_eq
  have h2 : ((rowN x i).drop i).length ≤ (((rowN x i).drop i).flatMap Nd.all).length := by
    generalize (rowN x i).drop i = l
    induction l with
    | nil => simp
    | cons y r ih =>
      rw [List.flatMap_cons, List.length_append, Nd.all_eq y]
      simp only [List.length_cons]
      omega
  rw [← h1]
  simp only [List.length_append, List.length_take, List.length_drop] at h2 ⊢
  omega
theorem rowN_mem (x : Nd) {i : Nat} (h : i ≤ (rowN x i).length) : ∀ y ∈ rowN x i, y ∈ x.all := fun y hy => by
  have h1 := rowN_perm x i h
  refine h1.mem_iff.1 ?_
  rw [← List.take_append_drop i (rowN x i)] at hy
  rcases List.mem_append.1 hy with hy | hy
  · exact List.mem_append_left _ hy
  · refine List.mem_append_right _ (List.mem_flatMap.2 ⟨y, hy, ?_⟩)
    rw [Nd.all_eq]
    exact List.mem_cons_self ..
/-- depths rise along the row -/
theorem rowN_rise (x : Nd) : ∀ i, i ≤ (rowN x i).length → (rowN x i).Pairwise (fun a b => a.d ≤ b.d) ∧ ∀ y, (rowN x i)[i]? = some y → ∀ z ∈ rowN x i, z.d ≤ y.d + 1
  | 0, _ => ⟨by simp [rowN], fun y hy z hz => by simp [rowN] at hy hz; subst hy hz; omega⟩
  | i + 1, h => by
    cases hy : (rowN x i)[i]? with
    | none =>
      have := List.getElem?_eq_none_iff.1 hy
      simp only [rowN, hy, List.append_nil] at h
      omega
    | some y =>
      have hl := (List.getElem?_eq_some_iff.1 hy).1
      obtain ⟨ih1, ih2⟩ := rowN_rise x i (by omega)
      have ih2 := ih2 y hy
      have hk : ∀ z ∈ y.kids, z.d = y.d + 1 := fun z hz => by
        obtain ⟨k, _, rfl⟩ := List.mem_map.1 hz
        rfl
      simp only [rowN, hy]
      have hp : (rowN x i ++ y.kids).Pairwise (fun a b => a.d ≤ b.d) := by
        refine List.pairwise_append.2 ⟨ih1, ?_, fun a ha b hb => by rw [hk b hb]; exact ih2 a ha⟩
        refine List.pairwise_of_forall_mem_list fun a ha b hb => ?_
        rw [hk a ha, hk b hb]
        exact Nat.le_refl _
      refine ⟨hp, fun u hu z hz => ?_⟩
      have hyu : y.d ≤ u.d := by
        have h0 : (rowN x i ++ y.kids)[i]? = some y := by rw [List.getElem?_append_left hl]; exact hy
        obtain ⟨g1, e1⟩ := List.getElem?_eq_some_iff.1 h0
        obtain ⟨g2, e2⟩ := List.getElem?_eq_some_iff.1 hu
        have := List.pairwise_iff_getElem.1 hp i (i + 1) g1 g2 (by omega)
        rw [e1, e2] at this
        exact this
      rcases List.mem_append.1 hz with hz | hz
      · have := ih2 z hz; omega
      · rw [hk z hz]; omega
theorem rowN_last (x : Nd) {i : Nat} (h : i = (rowN x i).length) {z : Nd} (hz : (rowN x i)[(rowN x i).length - 1]? = some z) : z.d + 1 = x.d + dep x.t := by
  have hp := rowN_end x h
  have hr := (rowN_rise x i (by omega)).1
  obtain ⟨h1, u, hu, he⟩ := dfs_dep x.t x.d x.bare
  obtain ⟨gz, ez⟩ := List.getElem?_eq_some_iff.1 hz
  have hm := h1 z (hp.mem_iff.1 (List.mem_of_getElem? hz))
  obtain ⟨j, hj⟩ := List.getElem?_of_mem (hp.mem_iff.2 hu)
  obtain ⟨gj, ej⟩ := List.getElem?_eq_some_iff.1 hj
  have : u.d ≤ z.d := by
    by_cases hc : j = (rowN x i).length - 1
    · subst hc; rw [hj] at hz; injection hz with hz; subst hz; exact Nat.le_refl _
    · have := List.pairwise_iff_getElem.1 hr j _ gj gz (by omega)
      rw [ej, ez] at this
      exact this
  omega
/-- how the row ends: whole, or too great -/
theorem rowN_ok (t : Tm) {i : Nat} (h : i = (rowN ⟨t, 1, false⟩ i).length) (h2 : (rowN ⟨t, 1, false⟩ i).length ≤ 4096) (h3 : ∀ y ∈ rowN ⟨t, 1, false⟩ i, y.d ≤ 256) : greatT t = false := by
  have hp := rowN_end _ h
  have hl := hp.length_eq
  have e : (Nd.all ⟨t, 1, false⟩).length = cnt t := dfs_len t 1 false
  obtain ⟨_, u, hu, he⟩ := dfs_dep t 1 false
  have := h3 u (hp.mem_iff.2 hu)
  unfold greatT
  simp
  omega
theorem rowN_big (t : Tm) {i : Nat} (h : i ≤ (rowN ⟨t, 1, false⟩ i).length) {y : Nd} (hy : (rowN ⟨t, 1, false⟩ i)[i]? = some y) (h2 : 256 < y.d ∨ 4096 < (rowN ⟨t, 1, false⟩ i).length + y.t.kids.length) : greatT t = true := by
  unfold greatT
  simp only [decide_eq_true_eq]
  rcases h2 with h2 | h2
  · right
    have := (dfs_dep t 1 false).1 y (rowN_mem _ h y (List.mem_of_getElem? hy))
    omega
  · left
    have hl := (List.getElem?_eq_some_iff.1 hy).1
    have e : (rowN ⟨t, 1, false⟩ (i + 1)).length = (rowN ⟨t, 1, false⟩ i).length + y.t.kids.length := by
      simp only [rowN, hy, List.length_append, Nd.kids, List.length_map]
    have := rowN_len_le ⟨t, 1, false⟩ (i := i + 1) (by omega)
    have e2 : (Nd.all ⟨t, 1, false⟩).length = cnt t := dfs_len t 1 false
    omega
theorem rowN_stable (x : Nd) {i : Nat} (h : i = (rowN x i).length) : ∀ k, rowN x (i + k) = rowN x i
  | 0 => rfl
  | k + 1 => by
    have := rowN_stable x h k
    show rowN x (i + k) ++ (match (rowN x (i + k))[i + k]? with | some y => y.kids | none => []) = _
    rw [this, List.getElem?_eq_none (Nat.le_trans (Nat.le_of_eq h.symm) (Nat.le_add_right i k))]
    simp
theorem rowN_prefix (x : Nd) (i : Nat) : ∀ k, rowN x i <+: rowN x (i + k)
  | 0 => List.prefix_refl _
  | k + 1 => (rowN_prefix x i k).trans (List.prefix_append _ _)
theorem rowN_kids (x : Nd) {i N : Nat} (hN : i < N) {y : Nd} (hy : (rowN x i)[i]? = some y) {k : Nat} {z : Tm} (hk : y.t.kids[k]? = some z) : ∃ u, (rowN x N)[(rowN x i).length + k]? = some u ∧ u.t = z := by
  obtain ⟨c, rfl⟩ : ∃ c, N = i + 1 + c := ⟨N - (i + 1), by omega⟩
  obtain ⟨r, hr⟩ := rowN_prefix x (i + 1) c
  rw [← hr]
  have e : rowN x (i + 1) = rowN x i ++ y.kids := by simp only [rowN, hy]
  have hkl := (List.getElem?_eq_some_iff.1 hk).1
  have hkl2 : k < y.kids.length := by simpa [Nd.kids] using hkl
  rw [e, List.append_assoc, List.getElem?_append_right (by omega), Nat.add_sub_cancel_left, List.getElem?_append_left hkl2]
  refine ⟨⟨z, y.d + 1, y.low⟩, ?_, rfl⟩
  unfold Nd.kids
  rw [List.getElem?_map, hk]; rfl
/-- two nodes alike, but for their kids -/
def likeNd (x y : Tm) : Prop := x.kind = y.kind ∧ x.text = y.text ∧ x.n = y.n ∧ x.sh = y.sh ∧ x.at_ = y.at_ ∧ x.kids.length = y.kids.length
theorem Tm.ext' {x y : Tm} (h : likeNd x y) (hk : x.kids = y.kids) : x = y := by
  cases x; cases y
  obtain ⟨h1, h2, h3, h4, h5, _⟩ := h
  simp only [Tm.kind, Tm.text, Tm.n, Tm.sh, Tm.at_, Tm.kids] at *
  subst h1 h2 h3 h4 h5 hk
  rfl
/-- rows that are alike are of one term -/
theorem rows_same (a b : Nd) {N : Nat} (ha : N = (rowN a N).length) (hb : N = (rowN b N).length) (h : ∀ (i : Nat) (x y : Nd), (rowN a N)[i]? = some x → (rowN b N)[i]? = some y → likeNd x.t y.t) : a.t = b.t := by
  have hlen : ∀ i, i ≤ N → (rowN a i).length = (rowN b i).length := by
    intro i
    induction i with
    | zero => intro _; rfl
    | succ i ih =>
      intro hi
      have ih := ih (by omega)
      have pa := rowN_prefix a i (N - i)
      have pb := rowN_prefix b i (N - i)
      rw [show i + (N - i) = N by omega] at pa pb
      obtain ⟨ra, ea⟩ := pa
      obtain ⟨rb, eb⟩ := pb
      cases hx : (rowN a i)[i]? with
      | none =>
        have h1 := List.getElem?_eq_none_iff.1 hx
        have h2 : (rowN b i)[i]? = none := List.getElem?_eq_none_iff.2 (by omega)
        simp only [rowN, hx, h2, List.append_nil, ih]
      | some x =>
        have h1 := (List.getElem?_eq_some_iff.1 hx).1
        obtain ⟨y, hy⟩ : ∃ y, (rowN b i)[i]? = some y := ⟨_, List.getElem?_eq_getElem (by omega)⟩
        have := h i x y (by rw [← ea, List.getElem?_append_left h1]; exact hx) (by rw [← eb, List.getElem?_append_left (by omega)]; exact hy)
        simp only [rowN, hx, hy, List.length_append, Nd.kids, List.length_map, ih, this.2.2.2.2.2]
  have main : ∀ j i, N ≤ i + j → ∀ (q : Nat) (x y : Nd), i ≤ q → (rowN a N)[q]? = some x → (rowN b N)[q]? = some y → x.t = y.t := by
    intro j
    induction j with
    | zero => intro i hi q x y hq hx _; have := (List.getElem?_eq_some_iff.1 hx).1; omega
    | succ j ih =>
      intro i hi q x y hq hx hy
      by_cases hqi : q = i
      · subst hqi
        have hl := (List.getElem?_eq_some_iff.1 hx).1
        have hlk := h q x y hx hy
        refine Tm.ext' hlk (List.ext_getElem? fun k => ?_)
        have pa := rowN_prefix a q (N - q)
        have pb := rowN_prefix b q (N - q)
        rw [show q + (N - q) = N by omega] at pa pb
        obtain ⟨ra, ea⟩ := pa
        obtain ⟨rb, eb⟩ := pb
        have hqa : q < (rowN a q).length := by
          apply Nat.lt_of_not_le
          intro hle
          have hge : ∀ r, r ≤ q → r ≤ (rowN a r).length ∨ ∃ s, s < r ∧ s = (rowN a s).length := by
            intro r
            induction r with
            | zero => intro _; exact .inl (Nat.zero_le _)
            | succ r ihr =>
              intro hr
              rcases ihr (by omega) with h0 | ⟨s, hs, e⟩
              · by_cases he : r = (rowN a r).length
                · exact .inr ⟨r, by omega, he⟩
                · refine .inl ?_
                  simp only [rowN, List.length_append]
                  omega
              · exact .inr ⟨s, by omega, e⟩
          have stop : ∀ s, s ≤ q → s = (rowN a s).length → False := fun s hs e => by
            have := rowN_stable a e (N - s)
            rw [show s + (N - s) = N by omega] at this
            have := congrArg List.length this
            omega
          rcases hge q (Nat.le_refl _) with h0 | ⟨s, hs, e⟩
          · exact stop q (Nat.le_refl _) (by omega)
          · exact stop s (by omega) e
        have hqb : q < (rowN b q).length := by rw [← hlen q (by omega)]; exact hqa
        have hxa : (rowN a q)[q]? = some x := by rw [← ea, List.getElem?_append_left hqa] at hx; exact hx
        have hyb : (rowN b q)[q]? = some y := by rw [← eb, List.getElem?_append_left hqb] at hy; exact hy
        cases hk : x.t.kids[k]? with
        | none =>
          have := List.getElem?_eq_none_iff.1 hk
          exact (List.getElem?_eq_none_iff.2 (by have := hlk.2.2.2.2.2; omega)).symm
        | some z =>
          have hkl := (List.getElem?_eq_some_iff.1 hk).1
          obtain ⟨z', hk'⟩ : ∃ z', y.t.kids[k]? = some z' := ⟨_, List.getElem?_eq_getElem (by have := hlk.2.2.2.2.2; omega)⟩
          obtain ⟨u, hu, rfl⟩ := rowN_kids a (N := N) (by omega) hxa hk
          obtain ⟨v, hv, rfl⟩ := rowN_kids b (N := N) (by omega) hyb hk'
          rw [hk', ih (q + 1) (by omega) ((rowN a q).length + k) u v (by omega) hu (by rw [hlen q (by omega)]; exact hv)]
      · exact ih (i + 1) (by omega) q x y (by omega) hx hy
  have h0a := rowN_prefix a 0 N
  have h0b := rowN_prefix b 0 N
  rw [Nat.zero_add] at h0a h0b
  obtain ⟨ra, ea⟩ := h0a
  obtain ⟨rb, eb⟩ := h0b
  exact main N 0 (by omega) 0 a b (Nat.zero_le _) (by rw [← ea]; rfl) (by rw [← eb]; rfl)

/-! ### what may be -/
def cls (k : Int) : Int := if 1 ≤ k ∧ k ≤ 5 then 1 else if 10 ≤ k ∧ k ≤ 14 then 2 else if 20 ≤ k ∧ k ≤ 46 then 3 else 0
def alnum (c : UInt8) : Bool := (97 ≤ c && c ≤ 122) || (65 ≤ c && c ≤ 90) || (48 ≤ c && c ≤ 57)
/-- a name that begins with a letter from lo to hi -/
def isName (s : List UInt8) (lo hi : UInt8) : Bool := match s with
  | [] => false
  | c :: r => decide (r.length < 32) && (lo ≤ c && c ≤ hi) && r.all alnum
def litOk (sh at_ : List Int) : Bool := match sh with
  | [] => decide (at_.length = 1)
  | [k] => decide (2 ≤ k ∧ k ≤ 64 ∧ (at_.length : Int) = k)
  | _ => false
def rankOk (sh at_ : List Int) : Bool := match sh with
  | [k] => decide (1 ≤ k ∧ k ≤ 3 ∧ (at_.length : Int) = k) && at_.all fun n => decide (n = 64 ∨ (-8 ≤ n ∧ n ≤ 8))
  | _ => false
/-- the spellings of the primitives, in the order of their numbers -/
def spells : List (List UInt8) := [[43], [45], [42], [37], [124], [60, 46], [62, 46], [60], [62], [61], [126, 58], [60, 58], [62, 58], [43, 46], [42, 46], [43, 58], [42, 58], [45, 46], [45, 58], [94], [33], [35], [36], [44], [44, 46], [44, 58], [123], [123, 46], [125, 46], [123, 58], [125, 58], [124, 46], [124, 58], [105, 46], [101, 46], [126, 46], [47, 58], [92, 58], [35, 46], [35, 58], [91], [93], [73, 46]]
def opIn (l : List (List UInt8)) (k : Nat) (s : List UInt8) : Nat := match l with
  | [] => 0
  | c :: r => if c = s then k else opIn r (k + 1) s
/-- the number of a spelling; 0: none -/
def opOf (s : List UInt8) : Nat := opIn spells 1 s
def isOperand (t : Tm) : Bool := decide (t.kind = 1) || (decide (t.kind = 2) && !(t.text.data.toList == [120]) && !(t.text.data.toList == [121]))
/-- is a kid of the letter? -/
def fitsB (t : Tm) (c : UInt8) : Bool :=
  if c = 110 then decide (cls t.kind = 1) else if c = 118 then decide (cls t.kind = 3) else if c = 98 then decide (t.kind = 14) else if c = 111 then isOperand t else decide (cls t.kind = 2) && !decide (t.kind = 14)
/-- what kids a kind has: letters; n+ and v+ for 2 to 17, s for any number of sentences -/
def patOf (k : Int) : List UInt8 :=
  if k = 3 then [118, 110] else if k = 4 then [118, 110, 110] else if k = 5 then [110, 43] else if k = 10 ∨ k = 11 then [110] else if k = 12 then [110, 98, 98] else if k = 13 then [110, 98] else if k = 14 then [115]
  else if k = 22 then [111] else if k = 23 then [98] else if k = 24 ∨ k = 25 ∨ k = 26 ∨ k = 27 ∨ k = 42 then [118] else if k = 39 then [111, 118] else if k = 40 ∨ k = 41 then [118, 111] else if k = 43 then [118, 43]
  else if k = 45 then [118, 118, 118] else if k = 1 ∨ k = 2 ∨ k = 20 ∨ k = 21 then [] else [118, 118]
def zipFits : List Tm → List UInt8 → Bool
  | [], [] => true
  | t :: r, c :: p => fitsB t c && zipFits r p
  | _, _ => false
def kidsB (k : Int) (ks : List Tm) : Bool :=
  if k = 14 then ks.all (fitsB · 115) else if k = 5 then decide (2 ≤ ks.length ∧ ks.length ≤ 17) && ks.all (fitsB · 110) else if k = 43 then decide (2 ≤ ks.length ∧ ks.length ≤ 17) && ks.all (fitsB · 118) else zipFits ks (patOf k)
def textB (k : Int) (s : List UInt8) : Bool := if k = 2 ∨ k = 11 then isName s 97 122 else if k = 20 then decide (0 < opOf s) else if k = 21 then isName s 65 90 else s.isEmpty
def nB (k n : Int) : Bool := if k = 23 then decide (n = 1 ∨ n = 2) else decide (n = 0)
def numB (k : Int) (sh at_ : List Int) : Bool := if k = 1 then litOk sh at_ else if k = 42 then rankOk sh at_ else sh.isEmpty && at_.isEmpty
/-- are Text, N and Num as the kind says? -/
def fieldsB (t : Tm) : Bool := textB t.kind t.text.data.toList && nB t.kind t.n && numB t.kind t.sh t.at_
/-- is a node as it should be? -/
def nodeB (t : Tm) (bare : Bool) : Bool := !decide (cls t.kind = 0) && fieldsB t && kidsB t.kind t.kids && !(bare && (decide (t.kind = 2) || decide (t.kind = 11)) && t.text.data.toList == [120])
mutual
def goodT : Bool → Tm → Bool
  | b, .mk k s n sh a ks => nodeB (.mk k s n sh a ks) b && goodL (lowOf k n b) ks
def goodL : Bool → List Tm → Bool
  | _, [] => true
  | b, t :: r => goodT b t && goodL b r
end
mutual
theorem goodT_all : ∀ (b : Bool) (t : Tm) (d : Nat), goodT b t = (dfs t d b).all fun x => nodeB x.t x.bare
  | b, .mk k s n sh a ks, d => by
    simp only [goodT, dfs, List.all_cons, goodL_all (lowOf k n b) ks (d + 1)]
theorem goodL_all : ∀ (b : Bool) (l : List Tm) (d : Nat), goodL b l = (dfsL l d b).all fun x => nodeB x.t x.bare
  | _, [], _ => rfl
  | b, t :: r, d => by simp only [goodL, dfsL, List.all_append, goodT_all b t d, goodL_all b r d]
end
theorem good_row (t : Tm) {i : Nat} (h : i = (rowN ⟨t, 1, false⟩ i).length) : goodT false t = (rowN ⟨t, 1, false⟩ i).all fun x => nodeB x.t x.bare := by
  rw [goodT_all false t 1]
  exact ((rowN_end _ h).all_eq).symm
def mayT (t : Tm) (c : Int) : Int := if c < 1 ∨ 3 < c then 1 else if greatT t = true then 2 else if goodT false t = false then 33 else if cls t.kind ≠ c then 5 else 0
mutual
def eqT : Tm → Tm → Bool
  | .mk k s n sh a ks, .mk k' s' n' sh' a' ks' => decide (k = k') && decide (s = s') && decide (n = n') && decide (sh = sh') && decide (a = a') && eqL ks ks'
def eqL : List Tm → List Tm → Bool
  | [], [] => true
  | t :: r, u :: q => eqT t u && eqL r q
  | _, _ => false
end
mutual
theorem eqT_iff : ∀ (t u : Tm), eqT t u = true ↔ t = u
  | .mk k s n sh a ks, .mk k' s' n' sh' a' ks' => by
    simp only [eqT, Bool.and_eq_true, decide_eq_true_eq, eqL_iff ks ks', Tm.mk.injEq, and_assoc]
theorem eqL_iff : ∀ (t u : List Tm), eqL t u = true ↔ t = u
  | [], [] => by simp [eqL]
  | t :: r, u :: q => by simp only [eqL, Bool.and_eq_true, eqT_iff t u, eqL_iff r q, List.cons.injEq]
  | [], _ :: _ => by simp [eqL]
  | _ :: _, [] => by simp [eqL]
end
def sameT (a b : Tm) : Bool := !greatT a && !greatT b && eqT a b

theorem cnt_kid {t : Tm} {i : Nat} {k : Tm} (h : t.kids[i]? = some k) : cnt k < cnt t := by
  have main : ∀ (l : List Tm) (i : Nat), l[i]? = some k → cnt k ≤ cntL l := by
    intro l
    induction l with
    | nil => intro i h; simp at h
    | cons u r ih =>
      intro i h
      simp only [cntL]
      cases i with
      | zero => simp only [List.getElem?_cons_zero, Option.some.injEq] at h; subst h; omega
      | succ i => have := ih i (by simpa using h); omega
  cases t with
  | mk kk s n sh a ks =>
    simp only [Tm.kids] at h
    have := main ks i h
    simp only [cnt]
    omega
/-! ### sizes -/
def In64 (x : Int) : Prop := -9223372036854775808 ≤ x ∧ x ≤ 9223372036854775807
def All64 (l : List Int) : Prop := ∀ x ∈ l, In64 x
mutual
/-- a term's numbers are 64 bits wide, its lists within reach -/
def WfT : Tm → Prop
  | .mk k s n sh a ks => In64 k ∧ In64 n ∧ All64 sh ∧ All64 a ∧ s.size ≤ 140737488351232 ∧ sh.length * 8 ≤ 140737488351232 ∧ a.length * 8 ≤ 140737488351232 ∧ ks.length * 104 ≤ 140737488351232 ∧ WfL ks
def WfL : List Tm → Prop
  | [] => True
  | t :: r => WfT t ∧ WfL r
end
theorem WfL.of : ∀ {l : List Tm}, (∀ t ∈ l, WfT t) → WfL l
  | [], _ => by simp only [WfL]
  | t :: r, h => by
    simp only [WfL]
    exact ⟨h t (List.mem_cons_self ..), WfL.of fun u hu => h u (List.mem_cons_of_mem _ hu)⟩
theorem WfL.get : ∀ {l : List Tm}, WfL l → ∀ t ∈ l, WfT t
  | [], _, t, ht => absurd ht List.not_mem_nil
  | u :: r, h, t, ht => by
    simp only [WfL] at h
    rcases List.mem_cons.1 ht with rfl | ht
    · exact h.1
    · exact WfL.get h.2 t ht
/-- what is known of a node -/
structure NodeWf (t : Tm) : Prop where
  kind : In64 t.kind
  n : In64 t.n
  sh64 : All64 t.sh
  at64 : All64 t.at_
  text : t.text.size ≤ 140737488351232
  sh : t.sh.length ≤ 140737488351232
  at_ : t.at_.length ≤ 140737488351232
  kids : t.kids.length ≤ 140737488351232
  sh8 : t.sh.length * 8 ≤ 140737488351232
  at8 : t.at_.length * 8 ≤ 140737488351232
  kids104 : t.kids.length * 104 ≤ 140737488351232
  each : ∀ k ∈ t.kids, WfT k
theorem WfT.node {t : Tm} (h : WfT t) : NodeWf t := by
  cases t with
  | mk k s n sh a ks =>
    simp only [WfT] at h
    obtain ⟨h1, h2, h3, h4, h5, h6, h7, h8, h9⟩ := h
    exact ⟨h1, h2, h3, h4, h5, by show sh.length ≤ _; omega, by show a.length ≤ _; omega, by show ks.length ≤ _; omega, h6, h7, h8, h9.get⟩
end Go.Proofs.YtkdejffhdhcocaaGreat

namespace Go.Proofs.YtkdejffhdhcocaaGreat
open Go.RowKit

theorem heap_lt {w : World} {k : Nat} {o : Obj} (h : w.heap[k]? = some o) : k < w.heap.size := (Array.getElem?_eq_some_iff.1 h).1
theorem types_apart {w : World} {k : Nat} {c1 c2 : Array Value} {t1 t2 : TypeId} {f1 f2 : Nat × Nat} (h1 : w.heap[k]? = some (.cells c1 t1 f1)) (h2 : w.heap[k]? = some (.cells c2 t2 f2)) : t1 = t2 := by
  rw [h1] at h2
  injection h2 with h2
  injection h2
theorem heap2 {w : World} {g : Nat} {a b : Value} {t : TypeId} (h : w.heap[g]? = some (.cells #[a, b] t (0, 0))) : w.cell? ⟨g, 0, none⟩ = some a ∧ w.cell? ⟨g, 1, none⟩ = some b := by
  constructor <;> simp [World.cell?, h]
theorem unfrozen {w : World} {g : Nat} {cs : Array Value} {t : TypeId} (h : w.heap[g]? = some (.cells cs t (0, 0))) (j : Nat) : w.frozen? ⟨g, j, none⟩ = false := by simp [World.frozen?, h]
theorem grown_below {w w' : World} (h : Below w.heap.size w w') (row : Option Nat) : w.grownBy w' row := ⟨h.os, h.tape, h.output, h.size, fun k hk _ => h.block k hk⟩

/-- numbers at an address, one by one -/
def IntsAt (w : World) (A : Option Addr) (l : List Int) : Prop := ∀ i x, l[i]? = some x → ∃ b off, A = some ⟨b, off, none⟩ ∧ b < w.heap.size ∧ w.cell? ⟨b, off + i, none⟩ = some (.int .i64 x)
theorem IntsAt.on {w w' : World} {A : Option Addr} {l : List Int} (h : IntsAt w A l) (hb : Below w.heap.size w w') : IntsAt w' A l := fun i x hx => by
  obtain ⟨b, off, e, hlt, hc⟩ := h i x hx
  exact ⟨b, off, e, Nat.lt_of_lt_of_le hlt hb.size, (hb.cell (p := ⟨b, off + i, none⟩) hlt).trans hc⟩
theorem IntsAt.nil (w : World) (A : Option Addr) : IntsAt w A [] := fun i x h => by simp at h

mutual
/-- a term's cells -/
def TmIs (w : World) : Tm → List Value → Prop
  | .mk kind text n sh at_ kids, vs => ∃ A ca B cb K ck, vs = [.int .i64 kind, .string text, .int .i64 n, .slice A sh.length ca, .slice B at_.length cb, .slice K kids.length ck] ∧ IntsAt w A sh ∧ IntsAt w B at_ ∧ KidsAt w K kids 0
/-- a list of terms, from place i on -/
def KidsAt (w : World) (K : Option Addr) : List Tm → Nat → Prop
  | [], _ => True
  | t :: r, i => (∃ b off vs, K = some ⟨b, off, none⟩ ∧ b < w.heap.size ∧ TmIs w t vs ∧ ∀ q u, vs[q]? = some u → w.cell? ⟨b, off + i * 6 + q, none⟩ = some u) ∧ KidsAt w K r (i + 1)
end
/-- a term's three lists -/
structure TmAt (w : World) (t : Tm) (A B K : Option Addr) : Prop where
  sh : IntsAt w A t.sh
  at_ : IntsAt w B t.at_
  kids : KidsAt w K t.kids 0
/-- a term behind a pointer -/
def PtrAt (w : World) (b off : Nat) (t : Tm) : Prop := ∃ vs, TmIs w t vs ∧ b < w.heap.size ∧ ∀ q u, vs[q]? = some u → w.cell? ⟨b, off + q, none⟩ = some u
mutual
theorem TmIs.on {w w' : World} (hb : Below w.heap.size w w') : ∀ {t : Tm} {vs : List Value}, TmIs w t vs → TmIs w' t vs
  | .mk _ _ _ _ _ kids, _, h => by
    simp only [TmIs] at h ⊢
    obtain ⟨A, ca, B, cb, K, ck, e, h1, h2, h3⟩ := h
    exact ⟨A, ca, B, cb, K, ck, e, h1.on hb, h2.on hb, KidsAt.on hb h3⟩
theorem KidsAt.on {w w' : World} (hb : Below w.heap.size w w') {K : Option Addr} : ∀ {ks : List Tm} {i : Nat}, KidsAt w K ks i → KidsAt w' K ks i
  | [], _, _ => by simp only [KidsAt]
  | t :: r, i, h => by
    simp only [KidsAt] at h ⊢
    obtain ⟨⟨b, off, vs, e, hlt, h1, h2⟩, h3⟩ := h
    exact ⟨⟨b, off, vs, e, Nat.lt_of_lt_of_le hlt hb.size, TmIs.on hb h1, fun q u hq => (hb.cell (p := ⟨b, off + i * 6 + q, none⟩) hlt).trans (h2 q u hq)⟩, KidsAt.on hb h3⟩
end
theorem TmAt.on {w w' : World} {t : Tm} {A B K : Option Addr} (h : TmAt w t A B K) (hb : Below w.heap.size w w') : TmAt w' t A B K := ⟨h.sh.on hb, h.at_.on hb, h.kids.on hb⟩
theorem PtrAt.on {w w' : World} {b off : Nat} {t : Tm} (h : PtrAt w b off t) (hb : Below w.heap.size w w') : PtrAt w' b off t := by
  obtain ⟨vs, h1, h2, h3⟩ := h
  exact ⟨vs, h1.on hb, Nat.lt_of_lt_of_le h2 hb.size, fun q u hq => (hb.cell (p := ⟨b, off + q, none⟩) h2).trans (h3 q u hq)⟩
theorem KidsAt.get {w : World} {K : Option Addr} : ∀ {ks : List Tm} {i0 i : Nat} {t : Tm}, KidsAt w K ks i0 → ks[i]? = some t → ∃ b off, K = some ⟨b, off, none⟩ ∧ PtrAt w b (off + (i0 + i) * 6) t
  | [], _, _, _, _, h => by simp at h
  | t :: r, i0, 0, u, h, hg => by
    simp only [List.getElem?_cons_zero, Option.some.injEq] at hg
    subst hg
    simp only [KidsAt] at h
    obtain ⟨⟨b, off, vs, e, hlt, h1, h2⟩, _⟩ := h
    exact ⟨b, off, e, vs, h1, hlt, h2⟩
  | t :: r, i0, i + 1, u, h, hg => by
    simp only [KidsAt] at h
    obtain ⟨b, off, e, hp⟩ := KidsAt.get (ks := r) h.2 (by simpa using hg)
    exact ⟨b, off, e, by rw [show i0 + (i + 1) = i0 + 1 + i by omega]; exact hp⟩
theorem KidsAt.of {w : World} {b off : Nat} : ∀ {ks : List Tm} {i0 : Nat}, (∀ i t, ks[i]? = some t → PtrAt w b (off + (i0 + i) * 6) t) → KidsAt w (some ⟨b, off, none⟩) ks i0
  | [], _, _ => by simp only [KidsAt]
  | t :: r, i0, h => by
    simp only [KidsAt]
    obtain ⟨vs, h1, h2, h3⟩ := h 0 t rfl
    exact ⟨⟨b, off, vs, rfl, h2, h1, h3⟩, KidsAt.of fun i t' ht => by
      have := h (i + 1) t' (by simpa using ht)
      rwa [show i0 + (i + 1) = i0 + 1 + i by omega] at this⟩
theorem KidsAt.nil (w : World) (K : Option Addr) : KidsAt w K [] 0 := by simp only [KidsAt]
/-- a term behind a pointer: its cells, its lists -/
theorem PtrAt.cells {w : World} {b off : Nat} {t : Tm} (h : PtrAt w b off t) : ∃ A ca B cb K ck, b < w.heap.size ∧ w.cell? ⟨b, off, none⟩ = some (.int .i64 t.kind) ∧ w.cell? ⟨b, off + 1, none⟩ = some (.string t.text) ∧ w.cell? ⟨b, off + 2, none⟩ = some (.int .i64 t.n) ∧
    w.cell? ⟨b, off + 3, none⟩ = some (.slice A t.sh.length ca) ∧ w.cell? ⟨b, off + 4, none⟩ = some (.slice B t.at_.length cb) ∧ w.cell? ⟨b, off + 5, none⟩ = some (.slice K t.kids.length ck) ∧ TmAt w t A B K := by
  obtain ⟨vs, h1, h2, h3⟩ := h
  cases t with
  | mk kind text n sh at_ kids =>
    simp only [TmIs] at h1
    obtain ⟨A, ca, B, cb, K, ck, rfl, i1, i2, i3⟩ := h1
    exact ⟨A, ca, B, cb, K, ck, h2, h3 0 _ rfl, h3 1 _ rfl, h3 2 _ rfl, h3 3 _ rfl, h3 4 _ rfl, h3 5 _ rfl, ⟨i1, i2, i3⟩⟩
theorem TmAt.is {w : World} {t : Tm} {A B K : Option Addr} (h : TmAt w t A B K) (ca cb ck : Nat) : TmIs w t [.int .i64 t.kind, .string t.text, .int .i64 t.n, .slice A t.sh.length ca, .slice B t.at_.length cb, .slice K t.kids.length ck] := by
  cases t with
  | mk kind text n sh at_ kids =>
    simp only [TmIs]
    exact ⟨A, ca, B, cb, K, ck, rfl, h.sh, h.at_, h.kids⟩
/-- a term's cells, in a block -/
abbrev tmCells (t : Tm) (A : Option Addr) (ca : Nat) (B : Option Addr) (cb : Nat) (K : Option Addr) (ck : Nat) : Array Value := #[.int .i64 t.kind, .string t.text, .int .i64 t.n, .slice A t.sh.length ca, .slice B t.at_.length cb, .slice K t.kids.length ck]
/-- a term as a value -/
abbrev tmVal (t : Tm) (A : Option Addr) (ca : Nat) (B : Option Addr) (cb : Nat) (K : Option Addr) (ck : Nat) : Value := .agg #[.int .i64 t.kind, .string t.text, .int .i64 t.n, .slice A t.sh.length ca, .slice B t.at_.length cb, .slice K t.kids.length ck]
theorem PtrAt.mk {w : World} {b : Nat} {t : Tm} {A B K : Option Addr} {ca cb ck : Nat} {ty : TypeId} (h : TmAt w t A B K) (hb : w.heap[b]? = some (.cells (tmCells t A ca B cb K ck) ty (0, 0))) : PtrAt w b 0 t := by
  refine ⟨_, h.is ca cb ck, heap_lt hb, fun q u hq => ?_⟩
  rw [World.cell?, show (⟨b, 0 + q, none⟩ : Addr).block = b from rfl, hb]
  simpa using hq
end Go.Proofs.YtkdejffhdhcocaaGreat

namespace Go.Proofs.YtkdejffhdhcocaaGreat
open Go.RowKit

abbrev TTm : TypeId := 38
abbrev TIn : TypeId := 3
abbrev TI6 : TypeId := 2
/-- a row: where it begins, its length, its capacity -/
structure Rw where
  p : Option Addr
  n : Nat
  c : Nat
abbrev Rw.val (r : Rw) : Value := .slice r.p r.n r.c
/-- the block that a row can write -/
def Rw.blk (r : Rw) : Option Nat := if r.c = 0 then none else r.p.map (·.block)
/-- a row of its own: nothing, or the head of a block from B on; its elements' cells -/
def RowOwn (w : World) (B : Nat) (t : TypeId) (z : Nat) (r : Rw) (vs : List Value) : Prop :=
  vs.length = r.n * z ∧ ((r.n = 0 ∧ r.c = 0) ∨ ∃ g cur, r.p = some ⟨g, 0, none⟩ ∧ r.n ≤ r.c ∧ 0 < r.c ∧ r.c ≤ maxLen ∧ B ≤ g ∧ w.heap[g]? = some (.cells cur t (0, 0)) ∧ r.c * z ≤ cur.size ∧ cur.toList.take (r.n * z) = vs)
section
variable {w w' : World} {B z : Nat} {t : TypeId} {r : Rw} {vs : List Value}
theorem RowOwn.kept (h : RowOwn w B t z r vs) (hk : ∀ g, r.blk = some g → w'.heap[g]? = w.heap[g]?) : RowOwn w' B t z r vs := by
  obtain ⟨h1, h2 | ⟨g, cur, e, h3, h4, h5, h6, h7, h8⟩⟩ := h
  · exact ⟨h1, .inl h2⟩
  · exact ⟨h1, .inr ⟨g, cur, e, h3, h4, h5, h6, (hk g (by unfold Rw.blk; rw [if_neg (by omega), e]; rfl)).trans h7, h8⟩⟩
theorem RowOwn.blk_lt (h : RowOwn w B t z r vs) {g : Nat} (hg : r.blk = some g) : B ≤ g ∧ ∃ cur, w.heap[g]? = some (.cells cur t (0, 0)) := by
  obtain ⟨_, ⟨_, h2⟩ | ⟨g', cur, e, _, h4, _, h6, h7, _⟩⟩ := h
  · unfold Rw.blk at hg; rw [if_pos h2] at hg; cases hg
  · unfold Rw.blk at hg
    rw [if_neg (by omega), e] at hg
    simp only [Option.map_some, Option.some.injEq] at hg
    subst hg
    exact ⟨h6, cur, h7⟩
theorem RowOwn.mono {B' : Nat} (h : RowOwn w B t z r vs) (hB : B' ≤ B) : RowOwn w B' t z r vs := by
  obtain ⟨h1, h2 | ⟨g, cur, e, h3, h4, h5, h6, h7⟩⟩ := h
  · exact ⟨h1, .inl h2⟩
  · exact ⟨h1, .inr ⟨g, cur, e, h3, h4, h5, Nat.le_trans hB h6, h7⟩⟩
theorem RowOwn.on (h : RowOwn w B t z r vs) (hb : Below w.heap.size w w') : RowOwn w' B t z r vs := h.kept fun g hg => by
  obtain ⟨_, cur, hc⟩ := h.blk_lt hg
  exact hb.block g (heap_lt hc)
theorem RowOwn.cell (h : RowOwn w B t z r vs) {j : Nat} {u : Value} (hj : vs[j]? = some u) : ∃ g, r.p = some ⟨g, 0, none⟩ ∧ g < w.heap.size ∧ w.cell? ⟨g, j, none⟩ = some u := by
  obtain ⟨h1, ⟨h2, _⟩ | ⟨g, cur, e, _, _, _, _, h7, h8, h9⟩⟩ := h
  · have := (List.getElem?_eq_some_iff.1 hj).1
    rw [h1, h2] at this
    omega
  · refine ⟨g, e, heap_lt h7, ?_⟩
    rw [← h9, List.getElem?_take] at hj
    split at hj
    · simpa [World.cell?, h7] using hj
    · cases hj
end
/-- a term's rows: lengths, atoms, kids, the kids' rows -/
inductive Rt where
  | mk (s a k : Rw) (kids : List Rt) : Rt
def Rt.s : Rt → Rw | .mk s _ _ _ => s
def Rt.a : Rt → Rw | .mk _ a _ _ => a
def Rt.k : Rt → Rw | .mk _ _ k _ => k
def Rt.kids : Rt → List Rt | .mk _ _ _ r => r
def rtCells (t : Tm) (r : Rt) : List Value := [.int .i64 t.kind, .string t.text, .int .i64 t.n, r.s.val, r.a.val, r.k.val]
def rtCellsL : List Tm → List Rt → List Value
  | t :: ts, r :: rs => rtCells t r ++ rtCellsL ts rs
  | _, _ => []
def intVals (l : List Int) : List Value := l.map fun x => .int .i64 x
mutual
/-- the blocks of a term's rows, the outer ones first -/
def blksT : Rt → List Nat
  | .mk s a k rs => s.blk.toList ++ a.blk.toList ++ k.blk.toList ++ blksL rs
def blksL : List Rt → List Nat
  | [] => []
  | r :: rs => blksT r ++ blksL rs
end
mutual
/-- a term in memory of its own -/
def OwnT (w : World) (B : Nat) : Tm → Rt → Prop
  | .mk _ _ _ sh at_ ks, .mk s a k rs => RowOwn w B TIn 1 s (intVals sh) ∧ RowOwn w B TI6 1 a (intVals at_) ∧ RowOwn w B TTm 6 k (rtCellsL ks rs) ∧ ks.length = rs.length ∧ OwnL w B ks rs
def OwnL (w : World) (B : Nat) : List Tm → List Rt → Prop
  | [], [] => True
  | t :: ts, r :: rs => OwnT w B t r ∧ OwnL w B ts rs
  | _, _ => False
end
mutual
theorem OwnT.kept {w w' : World} {B : Nat} : ∀ {t : Tm} {r : Rt}, OwnT w B t r → (∀ g ∈ blksT r, w'.heap[g]? = w.heap[g]?) → OwnT w' B t r
  | .mk _ _ _ _ _ ks, .mk s a k rs, h, hk => by
    simp only [OwnT] at h ⊢
    simp only [blksT, List.mem_append, Option.mem_toList] at hk
    obtain ⟨h1, h2, h3, h4, h5⟩ := h
    exact ⟨h1.kept fun g hg => hk g (.inl (.inl (.inl hg))), h2.kept fun g hg => hk g (.inl (.inl (.inr hg))), h3.kept fun g hg => hk g (.inl (.inr hg)), h4, OwnL.kept h5 fun g hg => hk g (.inr hg)⟩
theorem OwnL.kept {w w' : World} {B : Nat} : ∀ {ts : List Tm} {rs : List Rt}, OwnL w B ts rs → (∀ g ∈ blksL rs, w'.heap[g]? = w.heap[g]?) → OwnL w' B ts rs
  | [], [], _, _ => by simp only [OwnL]
  | t :: ts, r :: rs, h, hk => by
    simp only [OwnL] at h ⊢
    simp only [blksL, List.mem_append] at hk
    exact ⟨OwnT.kept h.1 fun g hg => hk g (.inl hg), OwnL.kept h.2 fun g hg => hk g (.inr hg)⟩
  | [], _ :: _, h, _ => by simp only [OwnL] at h
  | _ :: _, [], h, _ => by simp only [OwnL] at h
end
mutual
theorem OwnT.blk {w : World} {B : Nat} : ∀ {t : Tm} {r : Rt}, OwnT w B t r → ∀ g ∈ blksT r, B ≤ g ∧ g < w.heap.size
  | .mk _ _ _ _ _ ks, .mk s a k rs, h, g, hg => by
    simp only [OwnT] at h
    simp only [blksT, List.mem_append, Option.mem_toList] at hg
    obtain ⟨h1, h2, h3, h4, h5⟩ := h
    rcases hg with ((hg | hg) | hg) | hg
    · obtain ⟨e, cur, hc⟩ := h1.blk_lt hg; exact ⟨e, heap_lt hc⟩
    · obtain ⟨e, cur, hc⟩ := h2.blk_lt hg; exact ⟨e, heap_lt hc⟩
    · obtain ⟨e, cur, hc⟩ := h3.blk_lt hg; exact ⟨e, heap_lt hc⟩
    · exact OwnL.blk h5 g hg
theorem OwnL.blk {w : World} {B : Nat} : ∀ {ts : List Tm} {rs : List Rt}, OwnL w B ts rs → ∀ g ∈ blksL rs, B ≤ g ∧ g < w.heap.size
  | [], [], _, g, hg => by simp only [blksL] at hg; exact absurd hg List.not_mem_nil
  | t :: ts, r :: rs, h, g, hg => by
    simp only [OwnL] at h
    simp only [blksL, List.mem_append] at hg
    rcases hg with hg | hg
    · exact OwnT.blk h.1 g hg
    · exact OwnL.blk h.2 g hg
  | [], _ :: _, h, _, _ => by simp only [OwnL] at h
  | _ :: _, [], h, _, _ => by simp only [OwnL] at h
end
theorem OwnT.on {w w' : World} {B : Nat} {t : Tm} {r : Rt} (h : OwnT w B t r) (hb : Below w.heap.size w w') : OwnT w' B t r := h.kept fun g hg => hb.block g (h.blk g hg).2
theorem OwnL.on {w w' : World} {B : Nat} {t : List Tm} {r : List Rt} (h : OwnL w B t r) (hb : Below w.heap.size w w') : OwnL w' B t r := h.kept fun g hg => hb.block g (h.blk g hg).2
mutual
theorem OwnT.mono {w : World} {B B' : Nat} (hB : B' ≤ B) : ∀ {t : Tm} {r : Rt}, OwnT w B t r → OwnT w B' t r
  | .mk _ _ _ _ _ ks, .mk s a k rs, h => by
    simp only [OwnT] at h ⊢
    obtain ⟨h1, h2, h3, h4, h5⟩ := h
    exact ⟨h1.mono hB, h2.mono hB, h3.mono hB, h4, OwnL.mono hB h5⟩
theorem OwnL.mono {w : World} {B B' : Nat} (hB : B' ≤ B) : ∀ {ts : List Tm} {rs : List Rt}, OwnL w B ts rs → OwnL w B' ts rs
  | [], [], _ => by simp only [OwnL]
  | t :: ts, r :: rs, h => by
    simp only [OwnL] at h ⊢
    exact ⟨OwnT.mono hB h.1, OwnL.mono hB h.2⟩
  | [], _ :: _, h => by simp only [OwnL] at h
  | _ :: _, [], h => by simp only [OwnL] at h
end
theorem rtCells_get : ∀ {ts : List Tm} {rs : List Rt} {i q : Nat} {t : Tm} {r : Rt} {u : Value}, ts[i]? = some t → rs[i]? = some r → (rtCells t r)[q]? = some u → (rtCellsL ts rs)[i * 6 + q]? = some u
  | [], _, _, _, _, _, _, h, _, _ => by simp at h
  | _ :: _, [], _, _, _, _, _, _, h, _ => by simp at h
  | t' :: ts, r' :: rs, 0, q, t, r, u, h1, h2, h3 => by
    simp only [List.getElem?_cons_zero, Option.some.injEq] at h1 h2
    subst h1 h2
    have hq := (List.getElem?_eq_some_iff.1 h3).1
    simp only [rtCellsL, Nat.zero_mul, Nat.zero_add]
    rw [List.getElem?_append_left hq]
    exact h3
  | t' :: ts, r' :: rs, i + 1, q, t, r, u, h1, h2, h3 => by
    simp only [rtCellsL]
    have hl : (rtCells t' r').length = 6 := rfl
    rw [List.getElem?_append_right (by omega), hl, show (i + 1) * 6 + q - 6 = i * 6 + q by omega]
    exact rtCells_get (by simpa using h1) (by simpa using h2) h3
theorem rtCellsL_len : ∀ {ts : List Tm} {rs : List Rt}, ts.length = rs.length → (rtCellsL ts rs).length = ts.length * 6
  | [], [], _ => rfl
  | _ :: ts, _ :: rs, h => by
    simp only [rtCellsL, List.length_append, rtCellsL_len (ts := ts) (rs := rs) (by simpa using h), rtCells, List.length_cons, List.length_nil]
    omega
  | [], _ :: _, h => by simp at h
  | _ :: _, [], h => by simp at h
theorem rtCellsL_app : ∀ {ts us : List Tm} {rs qs : List Rt}, ts.length = rs.length → rtCellsL (ts ++ us) (rs ++ qs) = rtCellsL ts rs ++ rtCellsL us qs
  | [], _, [], _, _ => rfl
  | _ :: ts, us, _ :: rs, qs, h => by
    simp only [List.cons_append, rtCellsL, List.append_assoc]
    rw [rtCellsL_app (by simpa using h)]
  | [], _, _ :: _, _, h => by simp at h
  | _ :: _, _, [], _, h => by simp at h
theorem OwnL.get {w : World} {B : Nat} : ∀ {ts : List Tm} {rs : List Rt} {i : Nat} {t : Tm}, OwnL w B ts rs → ts[i]? = some t → ∃ r, rs[i]? = some r ∧ OwnT w B t r
  | [], _, _, _, _, h => by simp at h
  | t' :: ts, r' :: rs, 0, t, h, hi => by
    simp only [OwnL] at h
    simp only [List.getElem?_cons_zero, Option.some.injEq] at hi
    subst hi
    exact ⟨r', rfl, h.1⟩
  | t' :: ts, r' :: rs, i + 1, t, h, hi => by
    simp only [OwnL] at h
    obtain ⟨r, hr, ho⟩ := OwnL.get h.2 (by simpa using hi)
    exact ⟨r, by simpa using hr, ho⟩
  | _ :: _, [], _, _, h, _ => by simp only [OwnL] at h
theorem OwnL.app {w : World} {B : Nat} : ∀ {ts us : List Tm} {rs qs : List Rt}, OwnL w B ts rs → OwnL w B us qs → OwnL w B (ts ++ us) (rs ++ qs)
  | [], _, [], _, _, h => h
  | t :: ts, us, r :: rs, qs, h, h' => by
    simp only [List.cons_append, OwnL] at h ⊢
    exact ⟨h.1, h.2.app h'⟩
  | [], _, _ :: _, _, h, _ => by simp only [OwnL] at h
  | _ :: _, _, [], _, h, _ => by simp only [OwnL] at h
theorem OwnL.len {w : World} {B : Nat} : ∀ {ts : List Tm} {rs : List Rt}, OwnL w B ts rs → ts.length = rs.length
  | [], [], _ => rfl
  | _ :: ts, _ :: rs, h => by
    simp only [OwnL] at h
    simp [h.2.len]
  | [], _ :: _, h => by simp only [OwnL] at h
  | _ :: _, [], h => by simp only [OwnL] at h
theorem blksL_app : ∀ (rs qs : List Rt), blksL (rs ++ qs) = blksL rs ++ blksL qs
  | [], _ => rfl
  | r :: rs, qs => by simp only [List.cons_append, blksL, blksL_app rs qs, List.append_assoc]
theorem RowOwn.ints {w : World} {B : Nat} {t : TypeId} {r : Rw} {l : List Int} (h : RowOwn w B t 1 r (intVals l)) : IntsAt w r.p l := fun i x hx => by
  obtain ⟨g, e, hl, hc⟩ := h.cell (j := i) (u := .int .i64 x) (by unfold intVals; rw [List.getElem?_map, hx]; rfl)
  exact ⟨g, 0, e, hl, by rw [Nat.zero_add]; exact hc⟩
/-- a term of its own can be read -/
theorem OwnT.read_ {w : World} {B : Nat} : ∀ (N : Nat) {t : Tm} {r : Rt}, cnt t ≤ N → OwnT w B t r → TmAt w t r.s.p r.a.p r.k.p ∧ r.s.n = t.sh.length ∧ r.a.n = t.at_.length ∧ r.k.n = t.kids.length
  | 0, t, _, hN, _ => by cases t; simp [cnt] at hN
  | N + 1, .mk kind text n sh at_ ks, .mk s a k rs, hN, h => by
    simp only [OwnT] at h
    obtain ⟨h1, h2, h3, h4, h5⟩ := h
    have e1 : s.n = sh.length := by have := h1.1; simp [intVals] at this; exact this.symm
    have e2 : a.n = at_.length := by have := h2.1; simp [intVals] at this; exact this.symm
    have e3 : k.n = ks.length := by have := h3.1; rw [rtCellsL_len h4] at this; omega
    refine ⟨⟨h1.ints, h2.ints, ?_⟩, e1, e2, e3⟩
    show KidsAt w k.p ks 0
    cases hks : ks with
    | nil => exact KidsAt.nil _ _
    | cons t0 ts =>
      obtain ⟨r0, hr0, _⟩ := h5.get (i := 0) (t := t0) (by rw [hks]; rfl)
      obtain ⟨g, e, hl, _⟩ := h3.cell (j := 0) (u := .int .i64 t0.kind) (by
        have := rtCells_get (ts := ks) (rs := rs) (i := 0) (q := 0) (t := t0) (r := r0) (by rw [hks]; rfl) hr0 rfl
        simpa using this)
      rw [e, ← hks]
      refine KidsAt.of fun i t ht => ?_
      obtain ⟨r, hr, ho⟩ := h5.get ht
      have hlt : cnt t ≤ N := by
        have := cnt_kid (t := .mk kind text n sh at_ ks) (i := i) (k := t) ht
        omega
      obtain ⟨hta, f1, f2, f3⟩ := OwnT.read_ N hlt ho
      refine ⟨rtCells t r, ?_, hl, fun q u hq => ?_⟩
      · have := hta.is r.s.c r.a.c r.k.c
        rw [← f1, ← f2, ← f3] at this
        exact this
      · obtain ⟨g', e', _, hc⟩ := h3.cell (rtCells_get ht hr hq)
        rw [e] at e'
        simp only [Option.some.injEq, Addr.mk.injEq, and_true] at e'
        subst e'
        rw [Nat.zero_add, Nat.zero_add]
        exact hc
theorem OwnT.read {w : World} {B : Nat} {t : Tm} {r : Rt} (h : OwnT w B t r) : TmAt w t r.s.p r.a.p r.k.p ∧ r.s.n = t.sh.length ∧ r.a.n = t.at_.length ∧ r.k.n = t.kids.length := OwnT.read_ (cnt t) (Nat.le_refl _) h
end Go.Proofs.YtkdejffhdhcocaaGreat
