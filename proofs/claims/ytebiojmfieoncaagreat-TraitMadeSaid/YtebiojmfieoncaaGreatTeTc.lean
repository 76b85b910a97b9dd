/- What verbs are made of tells their ranks, and whether they are total: plain laws. No condition. -/
import Derived.Test.YtebiojmfieoncaaGreatTeTb
namespace Go.Proofs.YtebiojmfieoncaaGreat
open Go.RowKit

theorem may_of {t : Tm} (h1 : goodT false t = true) (h2 : greatT t = false) (h3 : cls t.kind = 3) : mayT t 3 = 0 := by
  unfold mayT
  rw [if_neg (by omega), if_neg (by rw [h2]; decide), if_neg (by rw [h1]; decide), if_neg (fun h => h h3)]
theorem ranks_of {t : Tm} (h : mayT t 3 = 0) : ranksT t = (rkT t, 0) := by unfold ranksT; rw [if_neg (fun h' => h' h)]
theorem total_of {t : Tm} (h : mayT t 3 = 0) {n : Int} (hn : n = 1 ∨ n = 2) : totalT t n = totT t n := by unfold totalT; rw [if_pos ⟨hn, h⟩]
theorem good_one {k : Int} {x : Tm} {c : UInt8} (hc : cls k = 3) (h20 : ¬ k = 20) (h21 : ¬ k = 21) (h23 : ¬ k = 23) (h42 : ¬ k = 42) (h43 : ¬ k = 43) (hp : patOf k = [c]) (hx : goodT false x = true) (fx : fitsB x c = true) : goodT false (tOf k [x]) = true := by
  have hk : 20 ≤ k ∧ k ≤ 46 := by
    unfold cls at hc
    split at hc
    · omega
    · split at hc
      · omega
      · split at hc
        · assumption
        · omega
  have e1 : textB k [] = true := by unfold textB; rw [if_neg (by omega), if_neg h20, if_neg h21]; rfl
  have e2 : nB k 0 = true := by unfold nB; rw [if_neg h23]; rfl
  have e3 : numB k [] [] = true := by unfold numB; rw [if_neg (by omega), if_neg h42]; rfl
  have e4 : kidsB k [x] = true := by unfold kidsB; rw [if_neg (by omega), if_neg (by omega), if_neg h43, hp]; simp [zipFits, fx]
  have e5 : nodeB (tOf k [x]) false = true := by
    show (!decide (cls k = 0) && (textB k [] && nB k 0 && numB k [] []) && kidsB k [x] && !(false && (decide (k = 2) || decide (k = 11)) && ([] : List UInt8) == [120])) = true
    rw [e1, e2, e3, e4, hc]
    rfl
  rw [goodT_node, Bool.and_eq_true]
  refine ⟨e5, ?_⟩
  show goodL (lowOf k 0 false) [x] = true
  rw [show lowOf k 0 false = false by unfold lowOf; rw [if_neg h23]]
  simp [goodL, hx]
/-- two verbs of which a fork, and one of which a verb swapped twice, may be -/
structure MadeOk (u v : Tm) : Prop where
  mu : mayT u 3 = 0
  mv : mayT v 3 = 0
  fork : mayT (tOf 45 [u, v, u]) 3 = 0
  two : ∀ k, k = 28 ∨ k = 29 ∨ k = 30 ∨ k = 32 ∨ k = 35 ∨ k = 36 ∨ k = 37 ∨ k = 44 → mayT (tOf k [u, v]) 3 = 0
  one : ∀ k, k = 24 ∨ k = 27 → mayT (tOf k [u]) 3 = 0
theorem made_ok {u v : Tm} (h1 : mayT (tOf 45 [u, v, u]) 3 = 0) (h2 : mayT (tOf 27 [tOf 27 [u]]) 3 = 0) : MadeOk u v := by
  obtain ⟨g1, r1, _⟩ := may_good h1
  obtain ⟨g2, r2, _⟩ := may_good h2
  have gu : goodT false u = true := good_sub g1 (show ¬ (45 : Int) = 23 by decide) (i := 0) rfl
  have gv : goodT false v = true := good_sub g1 (show ¬ (45 : Int) = 23 by decide) (i := 1) rfl
  have fu : cls u.kind = 3 ∧ cls v.kind = 3 := by
    have h := g1
    rw [goodT_node, Bool.and_eq_true] at h
    have h3 := h.1
    unfold nodeB at h3
    simp only [Bool.and_eq_true] at h3
    have h4 : kidsB 45 [u, v, u] = true := h3.1.2
    unfold kidsB at h4
    rw [if_neg (by decide), if_neg (by decide), if_neg (by decide), show patOf 45 = [118, 118, 118] from rfl] at h4
    simp only [zipFits, Bool.and_eq_true] at h4
    exact ⟨fits_v.1 h4.1, fits_v.1 h4.2.1⟩
  have c1 : cnt (tOf 45 [u, v, u]) = cnt u + (cnt v + cnt u) + 1 := by simp [tOf, cnt, cntL]
  have d1 : dep (tOf 45 [u, v, u]) = max (dep u) (max (dep v) (dep u)) + 1 := by simp [tOf, dep, depL]
  obtain ⟨_, s1, s2⟩ := size_small r1
  rw [c1] at s1
  rw [d1] at s2
  have m1 := Nat.le_max_left (dep u) (max (dep v) (dep u))
  have m2 : dep v ≤ max (dep u) (max (dep v) (dep u)) := Nat.le_trans (Nat.le_max_left _ _) (Nat.le_max_right _ _)
  have p1 := cnt_pos u
  have gr : ∀ {t : Tm}, cnt t ≤ 4096 → dep t ≤ 256 → greatT t = false := fun h3 h4 => by unfold greatT; simp; omega
  refine ⟨may_of gu (gr (by omega) (by omega)) fu.1, may_of gv (gr (by omega) (by omega)) fu.2, h1, fun k hk => ?_, fun k hk => ?_⟩
  · have hg : greatT (tOf k [u, v]) = false := gr (by rw [cnt_two]; omega) (by rw [dep_two]; have := Nat.max_le.2 ⟨m1, m2⟩; omega)
    rcases hk with rfl | rfl | rfl | rfl | rfl | rfl | rfl | rfl <;> exact may_of (good_two (c := 118) (d := 118) (by decide) (by decide) (by decide) (by decide) (by decide) (by decide) (by decide) gu gv (fits_v.2 fu.1) (fits_v.2 fu.2)) hg rfl
  · have hg : greatT (tOf k [u]) = false := gr (by simp only [tOf, cnt, cntL]; omega) (by simp only [tOf, dep, depL]; omega)
    rcases hk with rfl | rfl <;> exact may_of (good_one (c := 118) (by decide) (by decide) (by decide) (by decide) (by decide) (by decide) (by decide) gu (fits_v.2 fu.1)) hg rfl
section
variable {u v : Tm}
theorem rkm_28 : rkT (tOf 28 [u, v]) = rkT v := by rw [rkT_eq]; rfl
theorem rkm_30 : rkT (tOf 30 [u, v]) = ⟨(rkT v).a, (rkT v).a, (rkT v).a⟩ := by rw [rkT_eq]; rfl
theorem rkm_32 : rkT (tOf 32 [u, v]) = ⟨(rkT v).a, (rkT v).a, (rkT v).a⟩ := by rw [rkT_eq]; rfl
theorem rkm_27 : rkT (tOf 27 [u]) = ⟨64, (rkT u).c, (rkT u).b⟩ := by rw [rkT_eq]; rfl
theorem rkm_36 : rkT (tOf 36 [u, v]) = rkT u := by rw [rkT_eq]; rfl
theorem rkm_37 : rkT (tOf 37 [u, v]) = ⟨(rkT u).a, (rkT v).b, (rkT v).c⟩ := by rw [rkT_eq]; rfl
theorem rkm_29 : rkT (tOf 29 [u, v]) = inf3 := by rw [rkT_eq]; rfl
theorem rkm_45 : rkT (tOf 45 [u, v, u]) = inf3 := by rw [rkT_eq]; rfl
theorem rkm_44 : rkT (tOf 44 [u, v]) = inf3 := by rw [rkT_eq]; rfl
theorem rkm_24 : rkT (tOf 24 [u]) = inf3 := by rw [rkT_eq]; rfl
theorem tt_29 (n : Int) : totT (tOf 29 [u, v]) n = (totT v n && totT u 1) := by rw [totT_eq]; rfl
theorem tt_45 (n : Int) : totT (tOf 45 [u, v, u]) n = ((totT u n && totT u n) && totT v 2) := by rw [totT_eq]; rfl
theorem tt_27 (n : Int) : totT (tOf 27 [u]) n = totT u 2 := by rw [totT_eq]; rfl
theorem tt_35 (n : Int) : totT (tOf 35 [u, v]) n = (totT u n || totT v n) := by rw [totT_eq]; rfl
theorem tt_36 (n : Int) : totT (tOf 36 [u, v]) n = totT u n := by rw [totT_eq]; rfl
theorem tt_24 (n : Int) : totT (tOf 24 [u]) n = false := by rw [totT_eq]; rfl
theorem tt_28 (n : Int) : totT (tOf 28 [u, v]) n = false := by rw [totT_eq]; rfl
theorem tt_37 (n : Int) : totT (tOf 37 [u, v]) n = (if n = 1 then totT u n else totT v n) := by rw [totT_eq]; rfl
theorem tt_bad (t : Tm) : totalT t 0 = false ∧ totalT t 3 = false := by
  unfold totalT
  exact ⟨if_neg (fun h => by have := h.1; omega), if_neg (fun h => by have := h.1; omega)⟩
end
end Go.Proofs.YtebiojmfieoncaaGreat
