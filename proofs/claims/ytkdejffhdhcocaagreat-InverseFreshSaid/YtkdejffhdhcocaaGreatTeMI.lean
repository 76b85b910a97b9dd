/- Obverses: which verb undoes a verb; it may be, it is no greater. Plain laws. No condition. · inverse: prim, twin, scalar, bonds. Condition: sizes within reach. -/
import Derived.Test.YtkdejffhdhcocaaGreatTeKx
import Derived.Test.YtkdejffhdhcocaaGreatTePa
import Derived.Test.YtkdejffhdhcocaaGreatTeNt
namespace Go.Proofs.YtkdejffhdhcocaaGreat
open Go.RowKit

/-- a KNum that is a scalar -/
def tNum (n : Int) : Tm := .mk 1 ⟨#[]⟩ 0 [] [n] []
def scalarB (t : Tm) : Bool := decide (t.kind = 1) && t.sh.isEmpty
/-- the spellings of primitives that undo themselves -/
def selfS : List (List UInt8) := [[43], [45], [60, 46], [62, 46], [45, 46], [124, 46], [124, 58], [91], [93]]
/-- the obverse of a primitive -/
def obvS (s : List UInt8) : Option (List UInt8) :=
  if s ∈ selfS then some s else if s = [60, 58] then some [62, 58] else if s = [62, 58] then some [60, 58] else if s = [43, 58] then some [45, 58] else if s = [45, 58] then some [43, 58] else if s = [44, 58] then some [123, 46] else none
def bondLT (n v : Tm) : Tm × Bool :=
  if scalarB n = false ∨ v.kind ≠ 20 then (tNil, false) else if v.text.data.toList = [43] then (tOf 40 [tPrim ⟨#[45]⟩, n], true) else if v.text.data.toList = [45] then (tOf 39 [n, tPrim ⟨#[45]⟩], true)
  else if v.text.data.toList = [42] ∧ n.at_.getD 0 0 ≠ 0 then (tOf 40 [tPrim ⟨#[37]⟩, n], true) else (tNil, false)
def bondRT (u n : Tm) : Tm × Bool :=
  if scalarB n = false ∨ u.kind ≠ 20 then (tNil, false) else if u.text.data.toList = [43] then (tOf 40 [tPrim ⟨#[45]⟩, n], true) else if u.text.data.toList = [45] then (tOf 40 [tPrim ⟨#[43]⟩, n], true)
  else if u.text.data.toList = [42] ∧ n.at_.getD 0 0 ≠ 0 then (tOf 40 [tPrim ⟨#[37]⟩, n], true) else (tNil, false)
def nthR (l : List (Tm × Bool)) (i : Nat) : Tm × Bool := l.getD i (tNil, false)
def obvK (k : Int) (s : ByteArray) (ks : List Tm) (rs : List (Tm × Bool)) : Tm × Bool :=
  if k = 20 then (tPrim ⟨((obvS s.data.toList).getD []).toArray⟩, (obvS s.data.toList).isSome)
  else if k = 39 then bondLT (nth ks 0) (nth ks 1) else if k = 40 then bondRT (nth ks 0) (nth ks 1)
  else if k = 29 ∨ k = 31 ∨ k = 46 then (tOf 29 [(nthR rs 1).1, (nthR rs 0).1], (nthR rs 0).2 && (nthR rs 1).2)
  else if k = 41 then (if (nthR rs 0).2 = false ∨ scalarB (nth ks 1) = false ∨ (nth ks 1).at_.getD 0 0 < 0 then (tNil, false) else (tOf 41 [(nthR rs 0).1, nth ks 1], true))
  else if k = 36 then (tOf 36 [nth ks 1, nth ks 0], true) else if k = 37 then nthR rs 0 else (tNil, false)
mutual
/-- a verb's obverse, if it has one -/
def obv : Tm → Tm × Bool
  | .mk k s _ _ _ ks => obvK k s ks (obvL ks)
def obvL : List Tm → List (Tm × Bool)
  | [] => []
  | t :: r => obv t :: obvL r
end
theorem obvL_map : ∀ l : List Tm, obvL l = l.map obv
  | [] => rfl
  | t :: r => by simp only [obvL, obvL_map r, List.map_cons]
theorem obv_eq (t : Tm) : obv t = obvK t.kind t.text t.kids (t.kids.map obv) := by cases t; simp only [obv, obvL_map]; rfl
/-- what Of answers: a term and a number -/
def obvT (t : Tm) : Tm × Int := if mayT t 3 ≠ 0 then (tNil, mayT t 3) else if (obv t).2 = true then ((obv t).1, 0) else (tNil, 18)

/-! ### the kids that a kind has -/
theorem fits_v {t : Tm} : fitsB t 118 = true ↔ cls t.kind = 3 := by simp [fitsB]
theorem fits_o {t : Tm} : fitsB t 111 = true ↔ isOperand t = true := by simp [fitsB]
theorem operand_of_scalar {t : Tm} (h : scalarB t = true) : isOperand t = true := by
  unfold scalarB at h
  simp only [Bool.and_eq_true, decide_eq_true_eq] at h
  simp [isOperand, h.1]
theorem good_sub {t : Tm} (h : goodT false t = true) (h23 : ¬ t.kind = 23) {i : Nat} {k : Tm} (hk : t.kids[i]? = some k) : goodT false k = true := by
  have := good_kid h hk
  rwa [show lowOf t.kind t.n false = false by unfold lowOf; rw [if_neg h23]] at this
/-- a verb of two kids -/
theorem good_two {k : Int} {x y : Tm} {c d : UInt8} (hc : cls k = 3) (h20 : ¬ k = 20) (h21 : ¬ k = 21) (h23 : ¬ k = 23) (h42 : ¬ k = 42) (h43 : ¬ k = 43) (hp : patOf k = [c, d]) (hx : goodT false x = true) (hy : goodT false y = true) (fx : fitsB x c = true) (fy : fitsB y d = true) : goodT false (tOf k [x, y]) = true := by
  have hk : 20 ≤ k ∧ k ≤ 46 := by
    unfold cls at hc
    split at hc
    · omega
    · split at hc
      · omega
      · split at hc
        · assumption
        · omega
  have e1 : textB k [] = true := by unfold textB; rw [if_neg (by omega), if_neg h20, if_neg h21]; rfl
  have e2 : nB k 0 = true := by unfold nB; rw [if_neg h23]; rfl
  have e3 : numB k [] [] = true := by unfold numB; rw [if_neg (by omega), if_neg h42]; rfl
  have e4 : kidsB k [x, y] = true := by unfold kidsB; rw [if_neg (by omega), if_neg (by omega), if_neg h43, hp]; simp [zipFits, fx, fy]
  have e5 : nodeB (tOf k [x, y]) false = true := by
    show (!decide (cls k = 0) && (textB k [] && nB k 0 && numB k [] []) && kidsB k [x, y] && !(false && (decide (k = 2) || decide (k = 11)) && ([] : List UInt8) == [120])) = true
    rw [e1, e2, e3, e4, hc]
    rfl
  rw [goodT_node, Bool.and_eq_true]
  refine ⟨e5, ?_⟩
  show goodL (lowOf k 0 false) [x, y] = true
  rw [show lowOf k 0 false = false by unfold lowOf; rw [if_neg h23]]
  simp [goodL, hx, hy]
theorem good_prim {s : ByteArray} (h : 0 < opOf s.data.toList) : goodT false (tPrim s) = true := by
  have e1 : textB 20 s.data.toList = true := by unfold textB; rw [if_neg (by omega), if_pos rfl]; exact decide_eq_true h
  have e5 : nodeB (tPrim s) false = true := by
    show (!decide (cls 20 = 0) && (textB 20 s.data.toList && nB 20 0 && numB 20 [] []) && kidsB 20 [] && !(false && (decide ((20 : Int) = 2) || decide ((20 : Int) = 11)) && s.data.toList == [120])) = true
    rw [e1, show nB 20 0 = true by decide +kernel, show numB 20 [] [] = true by decide +kernel, show kidsB 20 [] = true by decide +kernel, show decide (cls 20 = 0) = false by decide +kernel]
    rfl
  rw [goodT_node, Bool.and_eq_true]
  exact ⟨e5, rfl⟩
theorem obvS_known {s r : List UInt8} (h : obvS s = some r) : 0 < opOf r := by
  unfold obvS at h
  split at h
  · rename_i hm
    obtain rfl := Option.some.inj h
    have main : ∀ x ∈ selfS, 0 < opOf x := by decide +kernel
    exact main _ hm
  all_goals
    repeat' (split at h)
    all_goals first | (obtain rfl := Option.some.inj h; decide +kernel) | cases h
/-- obverses of obverses -/
theorem obvS_twice {s r q p : List UInt8} (h : obvS s = some r) (h2 : obvS r = some q) (h3 : obvS q = some p) : p = r := by
  have hm : r ∈ selfS ++ [[62, 58], [60, 58], [45, 58], [43, 58], [123, 46]] := by
    unfold obvS at h
    split at h
    · rename_i hm
      obtain rfl := Option.some.inj h
      exact List.mem_append_left _ hm
    · repeat' (split at h)
      all_goals first
        | (obtain rfl := Option.some.inj h; decide +kernel)
        | (cases h; done)
  have main : ∀ r ∈ selfS ++ [[62, 58], [60, 58], [45, 58], [43, 58], [123, 46]], ((obvS r).bind obvS == none || (obvS r).bind obvS == some r) = true := by decide +kernel
  have h4 := main r hm
  rw [h2] at h4
  simp only [Option.bind_some, h3, Bool.or_eq_true, beq_iff_eq] at h4
  rcases h4 with h4 | h4
  · cases h4
  · exact Option.some.inj h4
theorem cnt_pos (t : Tm) : 1 ≤ cnt t := by cases t; simp [cnt]
theorem dep_pos (t : Tm) : 1 ≤ dep t := by cases t; simp [dep]
theorem cnt_two (k : Int) (x y : Tm) : cnt (tOf k [x, y]) = cnt x + cnt y + 1 := by simp [tOf, cnt, cntL]
theorem dep_two (k : Int) (x y : Tm) : dep (tOf k [x, y]) = max (dep x) (dep y) + 1 := by simp [tOf, dep, depL]
theorem cnt_prim (s : ByteArray) : cnt (tPrim s) = 1 ∧ dep (tPrim s) = 1 := by simp [tPrim, cnt, cntL, dep, depL]
theorem cnt_eq2 {t x y : Tm} (h : t.kids = [x, y]) : cnt t = cnt x + cnt y + 1 ∧ dep t = max (dep x) (dep y) + 1 := by
  cases t; simp only [Tm.kids] at h; subst h; simp [cnt, cntL, dep, depL]
/-- what is known of an obverse -/
structure ObvOk (t w : Tm) : Prop where
  good : goodT false w = true
  cls : cls w.kind = 3
  cnt : cnt w ≤ cnt t
  dep : dep w ≤ dep t
theorem bondR_ok {t u n : Tm} (hg : goodT false n = true) (hk : t.kids = [u, n]) {w : Tm} (h : bondRT u n = (w, true)) : ObvOk t w := by
  obtain ⟨c1, d1⟩ := cnt_eq2 hk
  have p1 := cnt_pos u
  have p2 := dep_pos u
  unfold bondRT at h
  split at h
  · cases h
  · rename_i hs
    have hs : scalarB n = true := by cases h' : scalarB n with | true => rfl | false => exact absurd (.inl h') hs
    have fo := fits_o.2 (operand_of_scalar hs)
    have main : ∀ s : ByteArray, 0 < opOf s.data.toList → ObvOk t (tOf 40 [tPrim s, n]) := fun s hop =>
      ⟨good_two (by decide) (by decide) (by decide) (by decide) (by decide) (by decide) (by decide) (good_prim hop) hg (fits_v.2 (by decide : cls 20 = 3)) fo, (by decide : cls 40 = 3), by rw [cnt_two, (cnt_prim s).1, c1]; omega, by rw [dep_two, (cnt_prim s).2, d1]; have := dep_pos n; omega⟩
    repeat' (split at h)
    all_goals first
      | (obtain rfl := (Prod.mk.inj h).1; exact main _ (by decide +kernel))
      | (cases h; done)
      | exact absurd (Prod.mk.inj h).2 (by simp)
theorem bondL_ok {t n v : Tm} (hg : goodT false n = true) (hk : t.kids = [n, v]) {w : Tm} (h : bondLT n v = (w, true)) : ObvOk t w := by
  obtain ⟨c1, d1⟩ := cnt_eq2 hk
  have p1 := cnt_pos v
  have p2 := dep_pos v
  unfold bondLT at h
  split at h
  · cases h
  · rename_i hs
    have hs : scalarB n = true := by cases h' : scalarB n with | true => rfl | false => exact absurd (.inl h') hs
    have fo := fits_o.2 (operand_of_scalar hs)
    have main : ∀ s : ByteArray, 0 < opOf s.data.toList → ObvOk t (tOf 40 [tPrim s, n]) := fun s hop =>
      ⟨good_two (by decide) (by decide) (by decide) (by decide) (by decide) (by decide) (by decide) (good_prim hop) hg (fits_v.2 (by decide : cls 20 = 3)) fo, (by decide : cls 40 = 3), by rw [cnt_two, (cnt_prim s).1, c1]; omega, by rw [dep_two, (cnt_prim s).2, d1]; have := dep_pos n; omega⟩
    have mainL : ∀ s : ByteArray, 0 < opOf s.data.toList → ObvOk t (tOf 39 [n, tPrim s]) := fun s hop =>
      ⟨good_two (by decide) (by decide) (by decide) (by decide) (by decide) (by decide) (by decide) hg (good_prim hop) fo (fits_v.2 (by decide : cls 20 = 3)), (by decide : cls 39 = 3), by rw [cnt_two, (cnt_prim s).1, c1]; omega, by rw [dep_two, (cnt_prim s).2, d1]; have := dep_pos n; omega⟩
    repeat' (split at h)
    all_goals first
      | (obtain rfl := (Prod.mk.inj h).1; exact main _ (by decide +kernel))
      | (obtain rfl := (Prod.mk.inj h).1; exact mainL _ (by decide +kernel))
      | (cases h; done)
      | exact absurd (Prod.mk.inj h).2 (by simp)
/-- an obverse may be, and is no greater -/
theorem obv_ok (N : Nat) : ∀ (t w : Tm), cnt t ≤ N → goodT false t = true → obv t = (w, true) → ObvOk t w := by
  induction N with
  | zero => intro t w hN; have := cnt_pos t; omega
  | succ N ih =>
    intro t w hN hg h
    rw [obv_eq] at h
    unfold obvK at h
    split at h
    · obtain ⟨h1, h2⟩ := Prod.mk.inj h
      obtain ⟨r, hr⟩ := Option.isSome_iff_exists.1 h2
      rw [hr] at h1
      obtain rfl := h1
      have := obvS_known hr
      exact ⟨good_prim (by simpa using this), rfl, by rw [(cnt_prim _).1]; exact cnt_pos t, by rw [(cnt_prim _).2]; exact dep_pos t⟩
    split at h
    · rename_i h20 hk
      obtain ⟨x, y, hks, fx, fy⟩ := two_kids hg (c := 111) (d := 118) (by rw [hk]; decide) (by omega) (by omega) (by omega)
      rw [hks] at h
      exact bondL_ok (good_sub hg (by omega) (i := 0) (by rw [hks]; rfl)) hks h
    split at h
    · rename_i h20 h39 hk
      obtain ⟨x, y, hks, fx, fy⟩ := two_kids hg (c := 118) (d := 111) (by rw [hk]; decide) (by omega) (by omega) (by omega)
      rw [hks] at h
      exact bondR_ok (good_sub hg (by omega) (i := 1) (by rw [hks]; rfl)) hks h
    have sub : ∀ x y, t.kids = [x, y] → ¬ t.kind = 23 → (∀ w, obv x = (w, true) → ObvOk x w) ∧ (∀ w, obv y = (w, true) → ObvOk y w) := fun x y hks h23 => by
      obtain ⟨c1, _⟩ := cnt_eq2 hks
      have := cnt_pos x
      have := cnt_pos y
      exact ⟨fun w hw => ih x w (by omega) (good_sub hg h23 (i := 0) (by rw [hks]; rfl)) hw, fun w hw => ih y w (by omega) (good_sub hg h23 (i := 1) (by rw [hks]; rfl)) hw⟩
    split at h
    · rename_i h20 h39 h40 hk
      obtain ⟨x, y, hks, fx, fy⟩ := two_kids hg (c := 118) (d := 118) (by rcases hk with hk | hk | hk <;> (rw [hk]; decide)) (by omega) (by omega) (by omega)
      rw [hks] at h
      obtain ⟨h1, h2⟩ := Prod.mk.inj h
      simp only [List.map_cons, List.map_nil, nthR, List.getD_cons_zero, List.getD_cons_succ, Bool.and_eq_true] at h1 h2
      obtain ⟨sx, sy⟩ := sub x y hks (by omega)
      have ox := sx (obv x).1 (Prod.ext rfl h2.1)
      have oy := sy (obv y).1 (Prod.ext rfl h2.2)
      obtain ⟨c1, d1⟩ := cnt_eq2 hks
      obtain rfl := h1
      have := ox.cnt
      have := oy.cnt
      have := ox.dep
      have := oy.dep
      exact ⟨good_two (by decide) (by decide) (by decide) (by decide) (by decide) (by decide) (by decide) oy.good ox.good (fits_v.2 oy.cls) (fits_v.2 ox.cls), (by decide : cls 29 = 3), by rw [cnt_two, c1]; omega, by rw [dep_two, d1]; omega⟩
    split at h
    · rename_i h20 h39 h40 h29 hk
      obtain ⟨x, y, hks, fx, fy⟩ := two_kids hg (c := 118) (d := 111) (by rw [hk]; decide) (by omega) (by omega) (by omega)
      rw [hks] at h
      simp only [List.map_cons, List.map_nil, nthR, nth, List.getD_cons_zero, List.getD_cons_succ] at h
      split at h
      · cases h
      · rename_i hc
        obtain ⟨sx, _⟩ := sub x y hks (by omega)
        have hx2 : (obv x).2 = true := by cases h' : (obv x).2 with | true => rfl | false => exact absurd (.inl h') hc
        have ox := sx (obv x).1 (Prod.ext rfl hx2)
        obtain ⟨c1, d1⟩ := cnt_eq2 hks
        obtain rfl := (Prod.mk.inj h).1
        have := ox.cnt
        have := ox.dep
        exact ⟨good_two (by decide) (by decide) (by decide) (by decide) (by decide) (by decide) (by decide) ox.good (good_sub hg (by omega) (i := 1) (by rw [hks]; rfl)) (fits_v.2 ox.cls) fy, (by decide : cls 41 = 3), by rw [cnt_two, c1]; omega, by rw [dep_two, d1]; omega⟩
    split at h
    · rename_i h20 h39 h40 h29 h41 hk
      obtain ⟨x, y, hks, fx, fy⟩ := two_kids hg (c := 118) (d := 118) (by rw [hk]; decide) (by omega) (by omega) (by omega)
      rw [hks] at h
      obtain rfl := (Prod.mk.inj h).1
      obtain ⟨c1, d1⟩ := cnt_eq2 hks
      simp only [nth, List.getD_cons_zero, List.getD_cons_succ]
      exact ⟨good_two (by decide) (by decide) (by decide) (by decide) (by decide) (by decide) (by decide) (good_sub hg (by omega) (i := 1) (by rw [hks]; rfl)) (good_sub hg (by omega) (i := 0) (by rw [hks]; rfl)) fy fx, (by decide : cls 36 = 3), by rw [cnt_two, c1]; omega, by rw [dep_two, d1]; omega⟩
    split at h
    · rename_i h20 h39 h40 h29 h41 h36 hk
      obtain ⟨x, y, hks, fx, fy⟩ := two_kids hg (c := 118) (d := 118) (by rw [hk]; decide) (by omega) (by omega) (by omega)
      rw [hks] at h
      obtain ⟨sx, _⟩ := sub x y hks (by omega)
      have ox := sx w h
      obtain ⟨c1, d1⟩ := cnt_eq2 hks
      have := ox.cnt
      have := ox.dep
      exact ⟨ox.good, ox.cls, by omega, by omega⟩
    · cases h
/-- the third obverse is the first -/
theorem obv_bondR_back {s : ByteArray} {n w x : Tm} (hs : scalarB n = true) (hw : w = tOf 40 [tPrim s, n]) (hx : obv w = (x, true)) (y : Tm) (hy : obv x = (y, true)) (hb : s = ⟨#[45]⟩ ∨ s = ⟨#[43]⟩ ∨ s = ⟨#[37]⟩) : y = w := by
  subst hw
  have e : ∀ s : ByteArray, obv (tOf 40 [tPrim s, n]) = bondRT (tPrim s) n := fun s => by rw [obv_eq]; rfl
  have e43 : bondRT (tPrim ⟨#[43]⟩) n = (tOf 40 [tPrim ⟨#[45]⟩, n], true) := by unfold bondRT; rw [if_neg (by rw [hs]; decide)]; rfl
  have e45 : bondRT (tPrim ⟨#[45]⟩) n = (tOf 40 [tPrim ⟨#[43]⟩, n], true) := by unfold bondRT; rw [if_neg (by rw [hs]; decide)]; rfl
  have e37 : bondRT (tPrim ⟨#[37]⟩) n = (tNil, false) := by unfold bondRT; rw [if_neg (by rw [hs]; decide)]; rfl
  rcases hb with rfl | rfl | rfl
  · rw [e, e45] at hx
    obtain rfl := (Prod.mk.inj hx).1
    rw [e, e43] at hy
    exact (Prod.mk.inj hy).1.symm
  · rw [e, e43] at hx
    obtain rfl := (Prod.mk.inj hx).1
    rw [e, e45] at hy
    exact (Prod.mk.inj hy).1.symm
  · rw [e, e37] at hx
    cases hx
theorem obv_back (N : Nat) : ∀ (t w x y : Tm), cnt t ≤ N → goodT false t = true → obv t = (w, true) → obv w = (x, true) → obv x = (y, true) → y = w := by
  induction N with
  | zero => intro t w x y hN; have := cnt_pos t; omega
  | succ N ih =>
    intro t w x y hN hg h hx hy
    rw [obv_eq] at h
    unfold obvK at h
    split at h
    · obtain ⟨h1, h2⟩ := Prod.mk.inj h
      obtain ⟨r, hr⟩ := Option.isSome_iff_exists.1 h2
      rw [hr] at h1
      simp only [Option.getD_some] at h1
      have ep : ∀ r : List UInt8, obv (tPrim ⟨r.toArray⟩) = (tPrim ⟨((obvS r).getD []).toArray⟩, (obvS r).isSome) := fun r => by rw [obv_eq]; rfl
      rw [← h1, ep] at hx
      obtain ⟨g1, g2⟩ := Prod.mk.inj hx
      obtain ⟨q, hq⟩ := Option.isSome_iff_exists.1 g2
      rw [hq] at g1
      simp only [Option.getD_some] at g1
      rw [← g1, ep] at hy
      obtain ⟨f1, f2⟩ := Prod.mk.inj hy
      obtain ⟨p, hp⟩ := Option.isSome_iff_exists.1 f2
      rw [hp] at f1
      simp only [Option.getD_some] at f1
      rw [← f1, ← h1, obvS_twice hr hq hp]
    split at h
    · rename_i h20 hk
      unfold bondLT at h
      split at h
      · cases h
      · rename_i hs
        have hs : scalarB (nth t.kids 0) = true := by cases h' : scalarB (nth t.kids 0) with | true => rfl | false => exact absurd (.inl h') hs
        split at h
        · exact obv_bondR_back hs (Prod.mk.inj h).1.symm hx y hy (.inl rfl)
        split at h
        · obtain rfl := (Prod.mk.inj h).1
          have e : obv (tOf 39 [nth t.kids 0, tPrim ⟨#[45]⟩]) = (tOf 39 [nth t.kids 0, tPrim ⟨#[45]⟩], true) := by
            rw [obv_eq]
            show bondLT (nth t.kids 0) (tPrim ⟨#[45]⟩) = _
            unfold bondLT
            rw [if_neg (by rw [hs]; decide)]
            rfl
          rw [e] at hx
          obtain rfl := (Prod.mk.inj hx).1
          rw [e] at hy
          exact (Prod.mk.inj hy).1.symm
        split at h
        · exact obv_bondR_back hs (Prod.mk.inj h).1.symm hx y hy (.inr (.inr rfl))
        · cases h
    split at h
    · rename_i h20 h39 hk
      unfold bondRT at h
      split at h
      · cases h
      · rename_i hs
        have hs : scalarB (nth t.kids 1) = true := by cases h' : scalarB (nth t.kids 1) with | true => rfl | false => exact absurd (.inl h') hs
        split at h
        · exact obv_bondR_back hs (Prod.mk.inj h).1.symm hx y hy (.inl rfl)
        split at h
        · exact obv_bondR_back hs (Prod.mk.inj h).1.symm hx y hy (.inr (.inl rfl))
        split at h
        · exact obv_bondR_back hs (Prod.mk.inj h).1.symm hx y hy (.inr (.inr rfl))
        · cases h
    split at h
    · rename_i h20 h39 h40 hk
      obtain ⟨a, b, hks, fx, fy⟩ := two_kids hg (c := 118) (d := 118) (by rcases hk with hk | hk | hk <;> (rw [hk]; decide)) (by omega) (by omega) (by omega)
      obtain ⟨c1, _⟩ := cnt_eq2 hks
      have := cnt_pos a
      have := cnt_pos b
      rw [hks] at h
      obtain ⟨h1, h2⟩ := Prod.mk.inj h
      simp only [List.map_cons, List.map_nil, nthR, List.getD_cons_zero, List.getD_cons_succ, Bool.and_eq_true] at h1 h2
      have e29 : ∀ p q : Tm, obv (tOf 29 [p, q]) = (tOf 29 [(obv q).1, (obv p).1], (obv p).2 && (obv q).2) := fun p q => by rw [obv_eq]; rfl
      rw [← h1, e29] at hx
      obtain ⟨g1, g2⟩ := Prod.mk.inj hx
      rw [← g1, e29] at hy
      obtain ⟨f1, f2⟩ := Prod.mk.inj hy
      rw [Bool.and_eq_true] at g2 f2
      rw [← f1, ← h1, ih a (obv a).1 (obv (obv a).1).1 (obv (obv (obv a).1).1).1 (by omega) (good_sub hg (by omega) (i := 0) (by rw [hks]; rfl)) (Prod.ext rfl h2.1) (Prod.ext rfl g2.2) (Prod.ext rfl f2.1), ih b (obv b).1 (obv (obv b).1).1 (obv (obv (obv b).1).1).1 (by omega) (good_sub hg (by omega) (i := 1) (by rw [hks]; rfl)) (Prod.ext rfl h2.2) (Prod.ext rfl g2.1) (Prod.ext rfl f2.2)]
    split at h
    · rename_i h20 h39 h40 h29 hk
      obtain ⟨a, b, hks, fx, fy⟩ := two_kids hg (c := 118) (d := 111) (by rw [hk]; decide) (by omega) (by omega) (by omega)
      obtain ⟨c1, _⟩ := cnt_eq2 hks
      have := cnt_pos a
      have := cnt_pos b
      rw [hks] at h
      simp only [List.map_cons, List.map_nil, nthR, nth, List.getD_cons_zero, List.getD_cons_succ] at h
      have e41 : ∀ p : Tm, obv (tOf 41 [p, b]) = if (obv p).2 = false ∨ scalarB b = false ∨ b.at_.getD 0 0 < 0 then (tNil, false) else (tOf 41 [(obv p).1, b], true) := fun p => by rw [obv_eq]; rfl
      split at h
      · cases h
      · rename_i hc
        obtain rfl := (Prod.mk.inj h).1
        rw [e41] at hx
        split at hx
        · cases hx
        · rename_i hc2
          obtain rfl := (Prod.mk.inj hx).1
          rw [e41] at hy
          split at hy
          · cases hy
          · rename_i hc3
            obtain rfl := (Prod.mk.inj hy).1
            have tr : ∀ p : Tm, ¬ ((obv p).2 = false ∨ scalarB b = false ∨ b.at_.getD 0 0 < 0) → (obv p).2 = true := fun p hp => by cases h' : (obv p).2 with | true => rfl | false => exact absurd (.inl h') hp
            rw [ih a (obv a).1 (obv (obv a).1).1 (obv (obv (obv a).1).1).1 (by omega) (good_sub hg (by omega) (i := 0) (by rw [hks]; rfl)) (Prod.ext rfl (tr _ hc)) (Prod.ext rfl (tr _ hc2)) (Prod.ext rfl (tr _ hc3))]
    split at h
    · obtain rfl := (Prod.mk.inj h).1
      have e36 : ∀ p q : Tm, obv (tOf 36 [p, q]) = (tOf 36 [q, p], true) := fun p q => by rw [obv_eq]; rfl
      rw [e36] at hx
      obtain rfl := (Prod.mk.inj hx).1
      rw [e36] at hy
      exact (Prod.mk.inj hy).1.symm
    split at h
    · rename_i h20 h39 h40 h29 h41 h36 hk
      obtain ⟨a, b, hks, fx, fy⟩ := two_kids hg (c := 118) (d := 118) (by rw [hk]; decide) (by omega) (by omega) (by omega)
      obtain ⟨c1, _⟩ := cnt_eq2 hks
      have := cnt_pos b
      rw [hks] at h
      exact ih a w x y (by omega) (good_sub hg (by omega) (i := 0) (by rw [hks]; rfl)) h hx hy
    · cases h
end Go.Proofs.YtkdejffhdhcocaaGreat

namespace Go.Proofs.YtkdejffhdhcocaaGreat
open Go.RowKit

/-- what a function leaves that answers a term in memory of its own, and a bool -/
def TbPost (t : Tm) (ok : Bool) (w : World) (e : Ending) (w' : World) : Prop := ∃ r : Rt, e = .returned (.tuple #[rtVal t r, .bool ok]) ∧ OwnT w' w.heap.size t r ∧ (blksT r).Nodup ∧ Below w.heap.size w w'
abbrev rt0 : Rt := .mk nil0 nil0 nil0 []
theorem row0 (w : World) (B z : Nat) (t : TypeId) : RowOwn w B t z nil0 [] := ⟨by simp, .inl ⟨rfl, rfl⟩⟩
theorem own_prim (w : World) (B : Nat) (s : ByteArray) : OwnT w B (tPrim s) rt0 := by
  simp only [tPrim, OwnT, OwnL]
  exact ⟨row0 _ _ _ _, row0 _ _ _ _, row0 _ _ _ _, rfl, trivial⟩
theorem own_nil (w : World) (B : Nat) : OwnT w B tNil rt0 := by
  simp only [tNil, OwnT, OwnL]
  exact ⟨row0 _ _ _ _, row0 _ _ _ _, row0 _ _ _ _, rfl, trivial⟩
theorem blks0 : blksT rt0 = [] := by simp [blksT, blksL, Rw.blk]
/-- a term of two kids whose row is a new block -/
theorem own_two {w : World} {B g : Nat} {x y : Tm} {p q : Rt} (k : Int) (hx : OwnT w B x p) (hy : OwnT w B y q) (hB : B ≤ g) (hg : w.heap[g]? = some (.cells (rtCellsL [x, y] [p, q]).toArray TTm (0, 0))) (hn : (blksT p ++ blksT q).Nodup) (h1 : ∀ b ∈ blksT p, b ≠ g) (h2 : ∀ b ∈ blksT q, b ≠ g) :
    OwnT w B (tOf k [x, y]) (.mk nil0 nil0 ⟨some ⟨g, 0, none⟩, 2, 2⟩ [p, q]) ∧ (blksT (.mk nil0 nil0 ⟨some ⟨g, 0, none⟩, 2, 2⟩ [p, q])).Nodup := by
  constructor
  · simp only [tOf, OwnT, OwnL, and_true]
    refine ⟨row0 _ _ _ _, row0 _ _ _ _, ⟨by simp [rtCellsL, rtCells], .inr ⟨g, _, rfl, Nat.le_refl _, (by decide : 0 < 2), (by unfold maxLen; omega : 2 ≤ maxLen), hB, hg, by simp [rtCellsL, rtCells], ?_⟩⟩, rfl, hx, hy⟩
    simp [rtCellsL, rtCells]
  · have e : blksT (.mk nil0 nil0 ⟨some ⟨g, 0, none⟩, 2, 2⟩ [p, q]) = g :: (blksT p ++ blksT q) := by simp [blksT, blksL, Rw.blk]
    rw [e]
    refine List.nodup_cons.2 ⟨fun hm => ?_, hn⟩
    rcases List.mem_append.1 hm with h | h
    · exact h1 g h rfl
    · exact h2 g h rfl
/-- the result's cell holds a term in memory of its own -/
def ResAt (w W : World) (t : Tm) : Prop := ∃ r : Rt, W.heap[w.heap.size]? = some (.cells #[.int .i64 t.kind, .string t.text, .int .i64 t.n, .slice r.s.p r.s.n r.s.c, .slice r.a.p r.a.n r.a.c, .slice r.k.p r.k.n r.k.c] TTm (0, 0)) ∧ OwnT W w.heap.size t r ∧ (blksT r).Nodup ∧ Below w.heap.size w W
set_option maxRecDepth 100000 in
theorem iprim_any (s : ByteArray) (w : World) : Calls Tryz.prog 82 #[.string s] w fun e w' => e = .returned (rtVal (tPrim s) rt0) ∧ Below w.heap.size w w' := by
  go_enter Tryz.func82, Tryz.ntmps82
  go_wp2_with fail
  refine ret_agg ?_ rfl ?_
  · simp [results, Tryz.results82, go_sem]
    exact ⟨rfl, rfl, rfl, ⟨rfl, rfl, rfl⟩, ⟨rfl, rfl, rfl⟩, rfl, rfl, rfl⟩
  · repeat (first | exact Below.refl _ _ | refine Below.alloc ?_ (by simp) _ | refine Below.setCell ?_ (by simp) _)
set_option maxRecDepth 100000 in
set_option maxHeartbeats 4000000 in
theorem itwin_any (t : Tm) (A : Option Addr) (ca : Nat) (B : Option Addr) (cb : Nat) (K : Option Addr) (ck : Nat) (w : World) (hat : TmAt w t A B K) (hwf : WfT t) (hg : greatT t = false) : Calls Tryz.prog 86 #[tmVal t A ca B cb K ck] w (TwinPost t w) := by
  obtain ⟨W2, hW2⟩ : ∃ W2, W2 = (w.alloc (.cells (tmCells t A ca B cb K ck) TTm)).alloc (.cells tm0 TTm) := ⟨_, rfl⟩
  have hb1 : Below w.heap.size w (w.alloc (.cells (tmCells t A ca B cb K ck) TTm)) := (Below.refl _ _).alloc (Nat.le_refl _) _
  have hb2 : Below w.heap.size w W2 := by rw [hW2]; exact hb1.alloc hb1.size _
  have hc1 : W2.heap[w.heap.size]? = some (.cells (tmCells t A ca B cb K ck) TTm (0, 0)) := by rw [hW2]; exact (Below.heap_alloc _ _ _ (by simp)).trans (heap_alloc_new w _)
  have hc2 : W2.heap[w.heap.size + 1]? = some (.cells tm0 TTm (0, 0)) := by rw [hW2]; exact heap_new2 _ _ _
  have HX := Lib.hid (And.intro hb2 (And.intro hc1 (And.intro hc2 (hat.on hb2))))
  have HWF := Lib.hid (And.intro hwf hg)
  have HW2 := Lib.hid hW2
  have HS : Hid (W2.heap.size = w.heap.size + 2) := Lib.hid (by rw [hW2]; simp)
  clear hat hwf hb1 hb2 hc1 hc2 hW2 hg
  go_enter Tryz.func86, Tryz.ntmps86
  go_wp2_with fail
  rw [← HW2.out]
  refine (copy_any t A ca B cb K ck W2 HX.out.2.2.2 HWF.out.1).mono ?_
  rintro e w3 hp
  rcases hp with ⟨h0, _⟩ | ⟨_, r, rfl, ho, hn, hb3⟩
  · rw [HWF.out.2] at h0; cases h0
  have hz := (hb3.block _ (heap_lt HX.out.2.2.1)).trans HX.out.2.2.1
  have fz := unfrozen hz
  have z0 := cell_at hz (j := 0) rfl
  have z1 := cell_at hz (j := 1) rfl
  have z2 := cell_at hz (j := 2) rfl
  have z3 := cell_at hz (j := 3) rfl
  have z4 := cell_at hz (j := 4) rfl
  have z5 := cell_at hz (j := 5) rfl
  have HZ := Lib.hid hz
  have hlz : w.heap.size + 1 < w3.heap.size := heap_lt hz
  have HB3 := Lib.hid (HX.out.1.then_ hb3)
  have HO := Lib.hid (And.intro ho (And.intro hn hb3))
  clear ho hn hb3 hz
  go_wp2_with fail
  obtain ⟨e1, e2, e3⟩ := six (.int .i64 t.kind) (.string t.text) (.int .i64 t.n) (.slice r.s.p r.s.n r.s.c) (.slice r.a.p r.a.n r.a.c) (.slice r.k.p r.k.n r.k.c) HZ.out HB3.out (Nat.le_succ _)
  refine bodyPost_ret (results_tm1 rfl rfl ((Below.heap_alloc _ _ _ (heap_lt e1)).trans e1)) rfl ⟨r, rfl, ?_, HO.out.2.1, e3.alloc e3.size _⟩
  refine OwnT.on (w := _) ?_ ((Below.refl _ _).alloc (Nat.le_refl _) _)
  refine (HO.out.1.kept fun g hg => e2 g ?_).mono ?_
  · have h1 := (HO.out.1.blk g hg).1
    have h2 := HS.out
    omega
  · have h2 := HS.out
    omega
set_option maxRecDepth 100000 in
set_option maxHeartbeats 4000000 in
theorem scalar_any (t : Tm) (b off : Nat) (w : World) (hp : PtrAt w b off t) : Calls Tryz.prog 85 #[.pointer (some ⟨b, off, none⟩)] w fun e w' => e = .returned (.bool (scalarB t)) ∧ w = w' := by
  obtain ⟨A, ca, B, cb, K, ck, hlt, r0, r1, r2, r3, r4, r5, hat⟩ := hp.cells
  obtain ⟨n, hn⟩ : ∃ n, n = t.sh.length := ⟨_, rfl⟩
  rw [← hn] at r3
  have HE : Hid (scalarB t = (decide (t.kind = 1) && decide (n = 0))) := Lib.hid (by unfold scalarB; rw [hn]; cases t.sh <;> simp)
  clear hn hp hat
  by_cases h1 : t.kind = 1
  · have d1 : (t.kind == 1) = true := beq_yes h1
    by_cases h2 : n = 0
    · have d2 : ((n : Int) == 0) = true := beq_yes (by omega)
      have HF : Hid (scalarB t = true) := Lib.hid (by rw [HE.out]; simp [h1, h2])
      subst h2
      clear h1
      go_enter Tryz.func85, Tryz.ntmps85
      go_wp2_with fail
      go_ret
      rw [HF.out]
      exact ⟨rfl, rfl⟩
    · have d2 : ((n : Int) == 0) = false := beq_no (by omega)
      have HF : Hid (scalarB t = false) := Lib.hid (by rw [HE.out]; simp [h2])
      clear h1 h2
      go_enter Tryz.func85, Tryz.ntmps85
      go_wp2_with fail
      go_ret
      rw [HF.out]
      exact ⟨rfl, rfl⟩
  · have d1 : (t.kind == 1) = false := beq_no h1
    have HF : Hid (scalarB t = false) := Lib.hid (by rw [HE.out]; simp [h1])
    clear h1
    go_enter Tryz.func85, Tryz.ntmps85
    go_wp2_with fail
    go_ret
    rw [HF.out]
    exact ⟨rfl, rfl⟩
end Go.Proofs.YtkdejffhdhcocaaGreat
