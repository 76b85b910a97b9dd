/- Obverses: sizes, what Of answers. Plain laws. No condition. -/
import Derived.Test.YteohoodfcgfkeaaGreatTeIl
namespace Go.Proofs.YteohoodfcgfkeaaGreat
open Go.RowKit

theorem obvS_len {s r : List UInt8} (h : obvS s = some r) : r.length ≤ 2 := by
  have hm : r ∈ selfS ++ [[62, 58], [60, 58], [45, 58], [43, 58], [123, 46]] := by
    unfold obvS at h
    split at h
    · rename_i hm
      obtain rfl := Option.some.inj h
      exact List.mem_append_left _ hm
    · repeat' (split at h)
      all_goals first
        | (obtain rfl := Option.some.inj h; decide +kernel)
        | (cases h; done)
  have main : ∀ r ∈ selfS ++ [[62, 58], [60, 58], [45, 58], [43, 58], [123, 46]], r.length ≤ 2 := by decide +kernel
  exact main r hm
theorem bond_wf {n : Tm} (hn : WfT n) (k : Int) (hk : In64 k) (s : ByteArray) (hs : s.size ≤ 8) : WfT (tOf k [tPrim s, n]) ∧ WfT (tOf k [n, tPrim s]) := ⟨wf_tOf hk (prim_wf s hs) hn, wf_tOf hk hn (prim_wf s hs)⟩
theorem obv_wf (N : Nat) : ∀ (t w : Tm), cnt t ≤ N → WfT t → goodT false t = true → obv t = (w, true) → WfT w := by
  induction N with
  | zero => intro t w hN; have := cnt_pos t; omega
  | succ N ih =>
    intro t w hN hwf hg h
    rw [obv_eq] at h
    unfold obvK at h
    split at h
    · obtain ⟨h1, h2⟩ := Prod.mk.inj h
      obtain ⟨r, hr⟩ := Option.isSome_iff_exists.1 h2
      rw [hr] at h1
      obtain rfl := h1
      have := obvS_len hr
      exact prim_wf _ (by simp only [Option.getD_some, ByteArray.size, List.size_toArray]; omega)
    have kid : ∀ i k, t.kids[i]? = some k → WfT k := fun i k hk => hwf.node.each k (List.mem_of_getElem? hk)
    split at h
    · rename_i h20 hk
      obtain ⟨x, y, hks, fx, fy⟩ := two_kids hg (c := 111) (d := 118) (by rw [hk]; decide) (by omega) (by omega) (by omega)
      rw [hks] at h
      have hx := kid 0 x (by rw [hks]; rfl)
      unfold bondLT at h
      simp only [nth, List.getD_cons_zero, List.getD_cons_succ] at h
      repeat' (split at h)
      all_goals first
        | (obtain rfl := (Prod.mk.inj h).1; exact (bond_wf hx _ ⟨by decide, by decide⟩ _ (by decide)).1)
        | (obtain rfl := (Prod.mk.inj h).1; exact (bond_wf hx _ ⟨by decide, by decide⟩ _ (by decide)).2)
        | exact absurd (Prod.mk.inj h).2 (by simp)
    split at h
    · rename_i h20 h39 hk
      obtain ⟨x, y, hks, fx, fy⟩ := two_kids hg (c := 118) (d := 111) (by rw [hk]; decide) (by omega) (by omega) (by omega)
      rw [hks] at h
      have hy := kid 1 y (by rw [hks]; rfl)
      unfold bondRT at h
      simp only [nth, List.getD_cons_zero, List.getD_cons_succ] at h
      repeat' (split at h)
      all_goals first
        | (obtain rfl := (Prod.mk.inj h).1; exact (bond_wf hy _ ⟨by decide, by decide⟩ _ (by decide)).1)
        | exact absurd (Prod.mk.inj h).2 (by simp)
    have sub : ∀ x y, t.kids = [x, y] → ¬ t.kind = 23 → (∀ w, obv x = (w, true) → WfT w) ∧ (∀ w, obv y = (w, true) → WfT w) := fun x y hks h23 => by
      obtain ⟨c1, _⟩ := cnt_eq2 hks
      have := cnt_pos x
      have := cnt_pos y
      exact ⟨fun w hw => ih x w (by omega) (kid 0 x (by rw [hks]; rfl)) (good_sub hg h23 (i := 0) (by rw [hks]; rfl)) hw, fun w hw => ih y w (by omega) (kid 1 y (by rw [hks]; rfl)) (good_sub hg h23 (i := 1) (by rw [hks]; rfl)) hw⟩
    split at h
    · rename_i h20 h39 h40 hk
      obtain ⟨x, y, hks, fx, fy⟩ := two_kids hg (c := 118) (d := 118) (by rcases hk with hk | hk | hk <;> (rw [hk]; decide)) (by omega) (by omega) (by omega)
      rw [hks] at h
      obtain ⟨h1, h2⟩ := Prod.mk.inj h
      simp only [List.map_cons, List.map_nil, nthR, List.getD_cons_zero, List.getD_cons_succ, Bool.and_eq_true] at h1 h2
      obtain ⟨sx, sy⟩ := sub x y hks (by omega)
      obtain rfl := h1
      exact wf_tOf ⟨by decide, by decide⟩ (sy _ (Prod.ext rfl h2.2)) (sx _ (Prod.ext rfl h2.1))
    split at h
    · rename_i h20 h39 h40 h29 hk
      obtain ⟨x, y, hks, fx, fy⟩ := two_kids hg (c := 118) (d := 111) (by rw [hk]; decide) (by omega) (by omega) (by omega)
      rw [hks] at h
      simp only [List.map_cons, List.map_nil, nthR, nth, List.getD_cons_zero, List.getD_cons_succ] at h
      split at h
      · exact absurd (Prod.mk.inj h).2 (by simp)
      · rename_i hc
        obtain ⟨sx, _⟩ := sub x y hks (by omega)
        have hx2 : (obv x).2 = true := by cases h' : (obv x).2 with | true => rfl | false => exact absurd (.inl h') hc
        obtain rfl := (Prod.mk.inj h).1
        exact wf_tOf ⟨by decide, by decide⟩ (sx _ (Prod.ext rfl hx2)) (kid 1 y (by rw [hks]; rfl))
    split at h
    · rename_i h20 h39 h40 h29 h41 hk
      obtain ⟨x, y, hks, fx, fy⟩ := two_kids hg (c := 118) (d := 118) (by rw [hk]; decide) (by omega) (by omega) (by omega)
      rw [hks] at h
      obtain rfl := (Prod.mk.inj h).1
      exact wf_tOf ⟨by decide, by decide⟩ (kid 1 y (by rw [hks]; rfl)) (kid 0 x (by rw [hks]; rfl))
    split at h
    · rename_i h20 h39 h40 h29 h41 h36 hk
      obtain ⟨x, y, hks, fx, fy⟩ := two_kids hg (c := 118) (d := 118) (by rw [hk]; decide) (by omega) (by omega) (by omega)
      rw [hks] at h
      obtain ⟨sx, _⟩ := sub x y hks (by omega)
      exact sx w h
    · exact absurd (Prod.mk.inj h).2 (by simp)
/-- what Of answers, by cases -/
theorem obvT_cases (t : Tm) : (mayT t 3 ≠ 0 ∧ obvT t = (tNil, mayT t 3)) ∨ (mayT t 3 = 0 ∧ (obv t).2 = false ∧ obvT t = (tNil, 18)) ∨ (mayT t 3 = 0 ∧ ∃ u, obv t = (u, true) ∧ obvT t = (u, 0)) := by
  unfold obvT
  by_cases h : mayT t 3 = 0
  · rw [if_neg (by simp [h])]
    cases h2 : (obv t).2 with
    | false => exact .inr (.inl ⟨h, rfl, by rw [if_neg (by decide)]⟩)
    | true => exact .inr (.inr ⟨h, (obv t).1, Prod.ext rfl h2, by rw [if_pos rfl]⟩)
  · rw [if_pos h]
    exact .inl ⟨h, rfl⟩
/-- what is known of an obverse -/
structure ObvAll (t u : Tm) : Prop where
  may : mayT u 3 = 0
  great : greatT u = false
  wf : WfT u
  cnt : cnt u ≤ cnt t
  dep : dep u ≤ dep t
theorem obv_all {t u : Tm} (hm : mayT t 3 = 0) (hwf : WfT t) (h : obv t = (u, true)) : ObvAll t u := by
  obtain ⟨hg, hgr, _⟩ := may_good hm
  have ok := obv_ok (cnt t) t u (Nat.le_refl _) hg h
  obtain ⟨_, h1, h2⟩ := size_small hgr
  have hgu : greatT u = false := by
    have := ok.cnt
    have := ok.dep
    unfold greatT
    simp only [decide_eq_false_iff_not]
    omega
  refine ⟨?_, hgu, obv_wf (Go.Proofs.YteohoodfcgfkeaaGreat.cnt t) t u (Nat.le_refl _) hwf hg h, ok.cnt, ok.dep⟩
  unfold mayT
  rw [if_neg (by omega), if_neg (by rw [hgu]; decide), if_neg (by rw [ok.good]; decide), if_neg (by rw [ok.cls]; simp)]
/-- the third one closes the circle -/
theorem obv_circle {t u x y : Tm} (hm : mayT t 3 = 0) (h : obv t = (u, true)) (hx : obv u = (x, true)) (hy : obv x = (y, true)) : y = u :=
  obv_back (cnt t) t u x y (Nat.le_refl _) (may_good hm).1 h hx hy
end Go.Proofs.YteohoodfcgfkeaaGreat
