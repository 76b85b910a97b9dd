/- trait.Total: the other kinds. Condition: sizes within reach. -/
import Derived.Test.YtebiojmfieoncaaGreatTeT6
namespace Go.Proofs.YtebiojmfieoncaaGreat
open Go.RowKit Go.WideMaps Go.Maps

theorem good_litT {t : Tm} (h : goodT false t = true) (hs : scalarB t = true) : t.at_.length = 1 := by
  have h1 := good_num h
  unfold scalarB at hs
  simp only [Bool.and_eq_true, decide_eq_true_eq, List.isEmpty_iff] at hs
  unfold numB at h1
  rw [if_pos hs.1, hs.2] at h1
  simpa [litOk] using h1

set_option maxRecDepth 100000 in
set_option maxHeartbeats 16000000 in
theorem tot_42 (N : Nat) (ih : TotN N) (t : Tm) (b off : Nat) (v : Int) (w : World) (B Gm Gl n : Nat) (D : DataW Unit) (hN : cnt t ≤ N + 1) (hp : PtrAt w b off t) (hwf : WfT t) (hgd : goodT false t = true) (hv : v = 1 ∨ v = 2) (hT : TotW w B Gm Gl n D) (hk : t.kind = 42) :
    Calls Tryz.prog 68 #[.pointer (some ⟨b, off, none⟩), .int .i64 v, .pointer (some ⟨Gl, 0, none⟩), .pointer (some ⟨Gm, 0, none⟩)] w fun e w' => e = .returned (.bool (totT t v)) ∧ Below w.heap.size w w' := by
  obtain ⟨A, ca, B0, cb, K, ck, hlt, p0, p1, p2, p3, p4, p5, hat⟩ := hp.cells
  obtain ⟨W1, hW1⟩ : ∃ W1, W1 = w.alloc (.cells #[.pointer (some ⟨b, off, none⟩)] TPt) := ⟨_, rfl⟩
  have hq1 : W1.heap[w.heap.size]? = some (.cells #[.pointer (some ⟨b, off, none⟩)] TPt (0, 0)) := by rw [hW1]; exact heap_alloc_new w _
  have hb1 : Below w.heap.size w W1 := by rw [hW1]; exact (Below.refl _ _).alloc (Nat.le_refl _) _
  have HW1 := Lib.hid hW1
  have H1 := Lib.hid (And.intro hq1 hb1)
  have HT := Lib.hid (And.intro hat (And.intro hwf (And.intro hgd (And.intro hN hp))))
  have HV := Lib.hid hv
  have HTW := Lib.hid hT
  have IH := Lib.hid ih
  have KC : Hid (∀ W, Below w.heap.size w W → W.cell? ⟨b, off, none⟩ = some (.int .i64 t.kind) ∧ W.cell? ⟨b, off + 1, none⟩ = some (.string t.text) ∧ W.cell? ⟨b, off + 3, none⟩ = some (.slice A t.sh.length ca) ∧ W.cell? ⟨b, off + 4, none⟩ = some (.slice B0 t.at_.length cb) ∧ W.cell? ⟨b, off + 5, none⟩ = some (.slice K t.kids.length ck) ∧ b < W.heap.size) := Lib.hid fun W h => by
    have key : ∀ j v, w.cell? ⟨b, j, none⟩ = some v → W.cell? ⟨b, j, none⟩ = some v := fun j v hv => (h.cell (p := ⟨b, j, none⟩) hlt).trans hv
    exact ⟨key _ _ p0, key _ _ p1, key _ _ p3, key _ _ p4, key _ _ p5, Nat.lt_of_lt_of_le hlt h.size⟩
  clear hW1 hb1 p0 p1 p2 p3 p4 p5 hat hlt
  obtain ⟨k0, k1, k3, k4, k5, kl⟩ := KC.out W1 H1.out.2
  have q0 := cell_at hq1 (j := 0) rfl
  have ql := heap_lt hq1
  obtain ⟨x, hks, fx⟩ := one_kid hgd (c := 118) (by rw [hk]; decide) (by omega) (by omega) (by omega)
  have hkl : t.kids.length = 1 := by rw [hks]; rfl
  obtain ⟨ra, rb, rc, hr⟩ : ∃ a b c, listed3 t.at_ = ⟨a, b, c⟩ := ⟨_, _, _, rfl⟩
  have HR : Hid (totT t v = if (v = 1 ∧ ra ≠ 64) ∨ (v = 2 ∧ (rb ≠ 64 ∨ rc ≠ 64)) then false else totT x v) := Lib.hid (by rw [totT_eq]; unfold totK; rw [if_neg (by omega)]; rw [if_neg (by omega)]; rw [if_neg (by omega)]; rw [if_neg (by omega)]; rw [if_neg (by omega)]; rw [if_neg (by omega)]; rw [if_neg (by omega)]; rw [if_pos (by omega)]; rw [hks, hr]; rfl)
  have HL := Lib.hid (listed_any t.at_ B0 cb W1 (HT.out.1.at_.on H1.out.2) (rank_list hgd hk))
  rw [hr] at HL
  have HK0 : Hid (∀ v' W, (v' = 1 ∨ v' = 2) → Below W1.heap.size W1 W → Calls Tryz.prog 69 #[.int .i64 0, .int .i64 v', .pointer (some ⟨Gl, 0, none⟩), .pointer (some ⟨w.heap.size, 0, none⟩)] W fun e w' => e = .returned (.bool (totT x v')) ∧ Below W.heap.size W w') := Lib.hid fun v' W hv' hb =>
    tkid_any N ih t x 0 b off v' W B Gm Gl n w.heap.size D (hp.on (H1.out.2.then_ hb)) hwf (by rw [hks]; rfl) (by have h1 := cnt_kid (t := t) (i := 0) (k := x) (by rw [hks]; rfl); omega) (hwf.node.each x (by rw [hks]; simp)) (good_sub hgd (by omega) (i := 0) (by rw [hks]; rfl)) hv' (hT.on (H1.out.2.then_ hb)) ((hb.block _ (heap_lt H1.out.1)).trans H1.out.1)
  have kk20 : (t.kind == 20) = false := by rw [hk]; rfl
  have kk22 : (t.kind == 22) = false := by rw [hk]; rfl
  have kk27 : (t.kind == 27) = false := by rw [hk]; rfl
  have kk29 : (t.kind == 29) = false := by rw [hk]; rfl
  have kk46 : (t.kind == 46) = false := by rw [hk]; rfl
  have kk31 : (t.kind == 31) = false := by rw [hk]; rfl
  have kk44 : (t.kind == 44) = false := by rw [hk]; rfl
  have kk45 : (t.kind == 45) = false := by rw [hk]; rfl
  have kk42 : (t.kind == 42) = true := by rw [hk]; rfl
  rw [hkl] at k5
  clear hgd hwf hN hp hT ih hk hks hkl hv hq1 fx
  clear hr
  have HAL : Hid (∀ w2 o, Below W1.heap.size W1 w2 → Below W1.heap.size W1 (w2.alloc o)) := Lib.hid fun w2 o h => h.alloc h.size o
  rcases HV.out with rfl | rfl
  · by_cases h1 : ra = 64
    · have HRV : Hid (totT t 1 = totT x 1) := Lib.hid (by rw [HR.out]; exact if_neg (by rintro (⟨_, h⟩ | ⟨h, _⟩); exact h h1; exact absurd h (by decide)))
      have d1 : (ra != 64) = false := by rw [h1]; rfl
      clear h1
      go_enter Tryz.func68, Tryz.ntmps68
      go_upto_region 1 with fail
      rw [← HW1.out]
      go_wp2_with fail
      refine HL.out.mono ?_
      rintro e w2 ⟨rfl, hb2⟩
      have HB2 := Lib.hid hb2
      clear hb2 k0 k1 k3 k4 k5 kl q0 ql
      go_wp2_with fail
      refine (HK0.out 1 _ (.inl rfl) (HAL.out _ _ HB2.out)).mono ?_
      rintro e w3 ⟨rfl, hb3⟩
      have HB3 := Lib.hid ((HAL.out _ _ HB2.out).then_ hb3)
      clear hb3
      go_wp2_with fail
      go_ret
      exact ⟨by rw [HRV.out]; rfl, H1.out.2.then_ HB3.out⟩
    · have HRV : Hid (totT t 1 = false) := Lib.hid (by rw [HR.out]; exact if_pos (.inl ⟨rfl, h1⟩))
      have d1 : (ra != 64) = true := by simpa using h1
      clear h1
      go_enter Tryz.func68, Tryz.ntmps68
      go_upto_region 1 with fail
      rw [← HW1.out]
      go_wp2_with fail
      refine HL.out.mono ?_
      rintro e w2 ⟨rfl, hb2⟩
      have HB2 := Lib.hid hb2
      clear hb2 k0 k1 k3 k4 k5 kl q0 ql
      go_wp2_with fail
      go_ret
      exact ⟨by rw [HRV.out]; rfl, H1.out.2.then_ (HAL.out _ _ HB2.out)⟩
  · by_cases h1 : rb = 64
    · have d1 : (rb != 64) = false := by rw [h1]; rfl
      by_cases h2 : rc = 64
      · have HRV : Hid (totT t 2 = totT x 2) := Lib.hid (by rw [HR.out]; exact if_neg (by rintro (⟨h, _⟩ | ⟨_, h | h⟩); exact absurd h (by decide); exact h h1; exact h h2))
        have d2 : (rc != 64) = false := by rw [h2]; rfl
        clear h1 h2
        go_enter Tryz.func68, Tryz.ntmps68
        go_upto_region 1 with fail
        rw [← HW1.out]
        go_wp2_with fail
        refine HL.out.mono ?_
        rintro e w2 ⟨rfl, hb2⟩
        have HB2 := Lib.hid hb2
        clear hb2 k0 k1 k3 k4 k5 kl q0 ql
        go_wp2_with fail
        refine (HK0.out 2 _ (.inr rfl) (HAL.out _ _ HB2.out)).mono ?_
        rintro e w3 ⟨rfl, hb3⟩
        have HB3 := Lib.hid ((HAL.out _ _ HB2.out).then_ hb3)
        clear hb3
        go_wp2_with fail
        go_ret
        exact ⟨by rw [HRV.out]; rfl, H1.out.2.then_ HB3.out⟩
      · have HRV : Hid (totT t 2 = false) := Lib.hid (by rw [HR.out]; exact if_pos (.inr ⟨rfl, .inr h2⟩))
        have d2 : (rc != 64) = true := by simpa using h2
        clear h1 h2
        go_enter Tryz.func68, Tryz.ntmps68
        go_upto_region 1 with fail
        rw [← HW1.out]
        go_wp2_with fail
        refine HL.out.mono ?_
        rintro e w2 ⟨rfl, hb2⟩
        have HB2 := Lib.hid hb2
        clear hb2 k0 k1 k3 k4 k5 kl q0 ql
        go_wp2_with fail
        go_ret
        exact ⟨by rw [HRV.out]; rfl, H1.out.2.then_ (HAL.out _ _ HB2.out)⟩
    · have HRV : Hid (totT t 2 = false) := Lib.hid (by rw [HR.out]; exact if_pos (.inr ⟨rfl, .inl h1⟩))
      have d1 : (rb != 64) = true := by simpa using h1
      clear h1
      go_enter Tryz.func68, Tryz.ntmps68
      go_upto_region 1 with fail
      rw [← HW1.out]
      go_wp2_with fail
      refine HL.out.mono ?_
      rintro e w2 ⟨rfl, hb2⟩
      have HB2 := Lib.hid hb2
      clear hb2 k0 k1 k3 k4 k5 kl q0 ql
      go_wp2_with fail
      go_ret
      exact ⟨by rw [HRV.out]; rfl, H1.out.2.then_ (HAL.out _ _ HB2.out)⟩
set_option maxRecDepth 100000 in
set_option maxHeartbeats 16000000 in
theorem tot_41 (N : Nat) (ih : TotN N) (t : Tm) (b off : Nat) (v : Int) (w : World) (B Gm Gl n : Nat) (D : DataW Unit) (hN : cnt t ≤ N + 1) (hp : PtrAt w b off t) (hwf : WfT t) (hgd : goodT false t = true) (hv : v = 1 ∨ v = 2) (hT : TotW w B Gm Gl n D) (hk : t.kind = 41) :
    Calls Tryz.prog 68 #[.pointer (some ⟨b, off, none⟩), .int .i64 v, .pointer (some ⟨Gl, 0, none⟩), .pointer (some ⟨Gm, 0, none⟩)] w fun e w' => e = .returned (.bool (totT t v)) ∧ Below w.heap.size w w' := by
  obtain ⟨A, ca, B0, cb, K, ck, hlt, p0, p1, p2, p3, p4, p5, hat⟩ := hp.cells
  obtain ⟨W1, hW1⟩ : ∃ W1, W1 = w.alloc (.cells #[.pointer (some ⟨b, off, none⟩)] TPt) := ⟨_, rfl⟩
  have hq1 : W1.heap[w.heap.size]? = some (.cells #[.pointer (some ⟨b, off, none⟩)] TPt (0, 0)) := by rw [hW1]; exact heap_alloc_new w _
  have hb1 : Below w.heap.size w W1 := by rw [hW1]; exact (Below.refl _ _).alloc (Nat.le_refl _) _
  have HW1 := Lib.hid hW1
  have H1 := Lib.hid (And.intro hq1 hb1)
  have HT := Lib.hid (And.intro hat (And.intro hwf (And.intro hgd (And.intro hN hp))))
  have HV := Lib.hid hv
  have HTW := Lib.hid hT
  have IH := Lib.hid ih
  have KC : Hid (∀ W, Below w.heap.size w W → W.cell? ⟨b, off, none⟩ = some (.int .i64 t.kind) ∧ W.cell? ⟨b, off + 1, none⟩ = some (.string t.text) ∧ W.cell? ⟨b, off + 3, none⟩ = some (.slice A t.sh.length ca) ∧ W.cell? ⟨b, off + 4, none⟩ = some (.slice B0 t.at_.length cb) ∧ W.cell? ⟨b, off + 5, none⟩ = some (.slice K t.kids.length ck) ∧ b < W.heap.size) := Lib.hid fun W h => by
    have key : ∀ j v, w.cell? ⟨b, j, none⟩ = some v → W.cell? ⟨b, j, none⟩ = some v := fun j v hv => (h.cell (p := ⟨b, j, none⟩) hlt).trans hv
    exact ⟨key _ _ p0, key _ _ p1, key _ _ p3, key _ _ p4, key _ _ p5, Nat.lt_of_lt_of_le hlt h.size⟩
  clear hW1 hb1 p0 p1 p2 p3 p4 p5 hat hlt
  obtain ⟨k0, k1, k3, k4, k5, kl⟩ := KC.out W1 H1.out.2
  have q0 := cell_at hq1 (j := 0) rfl
  have ql := heap_lt hq1
  obtain ⟨x, y, hks, fx, fy⟩ := two_kids hgd (c := 118) (d := 111) (by rw [hk]; decide) (by omega) (by omega) (by omega)
  have hkl : t.kids.length = 2 := by rw [hks]; rfl
  have HR : Hid (totT t v = (if scalarB y = true then (if y.at_.getD 0 0 = 0 then true else if 0 < y.at_.getD 0 0 then totT x v else false) else false)) := Lib.hid (by rw [totT_eq]; unfold totK; rw [if_neg (by omega)]; rw [if_neg (by omega)]; rw [if_neg (by omega)]; rw [if_neg (by omega)]; rw [if_neg (by omega)]; rw [if_neg (by omega)]; rw [if_neg (by omega)]; rw [if_neg (by omega)]; rw [if_pos (by omega)]; rw [hks]; rfl)
  have hgy : goodT false y = true := good_sub hgd (by omega) (i := 1) (by rw [hks]; rfl)
  have hly : scalarB y = true → y.at_.length = 1 := good_litT hgy
  have HK0 : Hid (∀ v' W, (v' = 1 ∨ v' = 2) → Below W1.heap.size W1 W → Calls Tryz.prog 69 #[.int .i64 0, .int .i64 v', .pointer (some ⟨Gl, 0, none⟩), .pointer (some ⟨w.heap.size, 0, none⟩)] W fun e w' => e = .returned (.bool (totT x v')) ∧ Below W.heap.size W w') := Lib.hid fun v' W hv' hb =>
    tkid_any N ih t x 0 b off v' W B Gm Gl n w.heap.size D (hp.on (H1.out.2.then_ hb)) hwf (by rw [hks]; rfl) (by have h1 := cnt_kid (t := t) (i := 0) (k := x) (by rw [hks]; rfl); omega) (hwf.node.each x (by rw [hks]; simp)) (good_sub hgd (by omega) (i := 0) (by rw [hks]; rfl)) hv' (hT.on (H1.out.2.then_ hb)) ((hb.block _ (heap_lt H1.out.1)).trans H1.out.1)
  obtain ⟨bk, ok, hKe, py⟩ := HT.out.1.kids.get (i := 1) (t := y) (by rw [hks]; rfl)
  subst hKe
  rw [Nat.zero_add, Nat.one_mul] at py
  obtain ⟨Ay, cay, By, cby, Ky, cky, yl, y0, y1, y2, y3, y4, y5, haty⟩ := (py.on H1.out.2).cells
  have hsh : y.sh.length ≤ 140737488351232 := (hwf.node.each y (by rw [hks]; simp)).node.sh
  have kk20 : (t.kind == 20) = false := by rw [hk]; rfl
  have kk22 : (t.kind == 22) = false := by rw [hk]; rfl
  have kk27 : (t.kind == 27) = false := by rw [hk]; rfl
  have kk29 : (t.kind == 29) = false := by rw [hk]; rfl
  have kk46 : (t.kind == 46) = false := by rw [hk]; rfl
  have kk31 : (t.kind == 31) = false := by rw [hk]; rfl
  have kk44 : (t.kind == 44) = false := by rw [hk]; rfl
  have kk45 : (t.kind == 45) = false := by rw [hk]; rfl
  have kk42 : (t.kind == 42) = false := by rw [hk]; rfl
  have kk41 : (t.kind == 41) = true := by rw [hk]; rfl
  rw [hkl] at k5
  clear hgd hwf hN hp hT ih hk hks hkl hv hq1 fx fy
  clear py hgy
  have HAT := Lib.hid haty
  have HAL : Hid (∀ o, Below W1.heap.size W1 (W1.alloc o)) := Lib.hid fun o => (Below.refl _ _).alloc (Nat.le_refl _) o
  clear haty
  by_cases hk1 : y.kind = 1
  · have d1 : (y.kind == 1) = true := by rw [hk1]; rfl
    by_cases hs : y.sh.length = 0
    · have hsc : scalarB y = true := by
        unfold scalarB
        rw [decide_eq_true hk1, List.length_eq_zero_iff.1 hs]
        rfl
      have HSC := Lib.hid hsc
      obtain ⟨v0, hv0⟩ : ∃ v0, y.at_ = [v0] := by
        match y.at_, hly hsc with
        | [v0], _ => exact ⟨v0, rfl⟩
      have HV0 : Hid (y.at_.getD 0 0 = v0) := Lib.hid (by rw [hv0]; rfl)
      have hpos : 0 < y.at_.length := by rw [hv0]; exact Nat.zero_lt_one
      obtain ⟨b3, o3, hB, l3, c9⟩ := HAT.out.at_ 0 v0 (by rw [hv0]; rfl)
      subst hB
      rw [Nat.add_zero] at c9
      rw [hs] at y3
      clear hv0 hk1 hly hsc hs hsh
      by_cases hz : v0 = 0
      · have HZ := Lib.hid hz
        have HRV : Hid (totT t v = true) := Lib.hid (by rw [HR.out, if_pos HSC.out, HV0.out, if_pos hz])
        have d2 : (v0 == 0) = true := by rw [hz]; rfl
        clear hz
        go_enter Tryz.func68, Tryz.ntmps68
        go_upto_region 1 with fail
        rw [← HW1.out]
        go_wp2_with fail
        go_ret
        exact ⟨by rw [HRV.out]; rfl, H1.out.2.then_ (HAL.out _)⟩
      · have HZ := Lib.hid hz
        have d2 : (v0 == 0) = false := beq_no hz
        by_cases hp0 : 0 < v0
        · have HP := Lib.hid hp0
          have HRV : Hid (totT t v = totT x v) := Lib.hid (by rw [HR.out, if_pos HSC.out, HV0.out, if_neg hz, if_pos hp0])
          clear hz
          go_enter Tryz.func68, Tryz.ntmps68
          go_upto_region 1 with fail
          rw [← HW1.out]
          go_wp2_with fail
          refine (HK0.out v _ HV.out (HAL.out _)).mono ?_
          rintro e w18 ⟨rfl, hb⟩
          have HB18 := Lib.hid (((HAL.out _)).then_ hb)
          clear hb
          go_wp2_with fail
          go_ret
          exact ⟨by rw [HRV.out]; rfl, H1.out.2.then_ HB18.out⟩
        · have HP := Lib.hid hp0
          have HRV : Hid (totT t v = false) := Lib.hid (by rw [HR.out, if_pos HSC.out, HV0.out, if_neg hz, if_neg hp0])
          clear hz
          go_enter Tryz.func68, Tryz.ntmps68
          go_upto_region 1 with fail
          rw [← HW1.out]
          go_wp2_with fail
          go_ret
          exact ⟨by rw [HRV.out]; rfl, H1.out.2.then_ (HAL.out _)⟩
    · have hsc : scalarB y = false := by
        unfold scalarB
        cases hl : y.sh with
        | nil => rw [hl] at hs; exact absurd rfl hs
        | cons a r => simp
      have HSC := Lib.hid hsc
      have d2 : ((y.sh.length : Int) == 0) = false := beq_no (by omega)
      have HRV : Hid (totT t v = false) := Lib.hid (by rw [HR.out, if_neg (by rw [hsc]; decide)])
      clear hk1 hly hsc hs hsh
      go_enter Tryz.func68, Tryz.ntmps68
      go_upto_region 1 with fail
      rw [← HW1.out]
      go_wp2_with fail
      go_ret
      exact ⟨by rw [HRV.out]; rfl, H1.out.2.then_ (HAL.out _)⟩
  · have d1 : (y.kind == 1) = false := beq_no hk1
    have hsc : scalarB y = false := by
      unfold scalarB
      rw [decide_eq_false hk1]
      rfl
    have HSC := Lib.hid hsc
    have HRV : Hid (totT t v = false) := Lib.hid (by rw [HR.out, if_neg (by rw [hsc]; decide)])
    clear hk1 hly hsc hsh
    go_enter Tryz.func68, Tryz.ntmps68
    go_upto_region 1 with fail
    rw [← HW1.out]
    go_wp2_with fail
    go_ret
    exact ⟨by rw [HRV.out]; rfl, H1.out.2.then_ (HAL.out _)⟩
theorem tot_any (N : Nat) : TotN N := by
  induction N with
  | zero => intro t b off v w B Gm Gl n D h; have := cnt_pos t; omega
  | succ N ih =>
    intro t b off v w B Gm Gl n D hN hp hwf hgd hv hT
    have kd : t.kind = 20 ∨ t.kind = 22 ∨ t.kind = 27 ∨ t.kind = 29 ∨ t.kind = 46 ∨ t.kind = 31 ∨ t.kind = 44 ∨ t.kind = 45 ∨ t.kind = 42 ∨ t.kind = 41 ∨ t.kind = 35 ∨ t.kind = 36 ∨ t.kind = 37 ∨ (¬ t.kind = 20 ∧ ¬ t.kind = 22 ∧ ¬ t.kind = 27 ∧ ¬ t.kind = 29 ∧ ¬ t.kind = 46 ∧ ¬ t.kind = 31 ∧ ¬ t.kind = 44 ∧ ¬ t.kind = 45 ∧ ¬ t.kind = 42 ∧ ¬ t.kind = 41 ∧ ¬ t.kind = 35 ∧ ¬ t.kind = 36 ∧ ¬ t.kind = 37) := by omega
    rcases kd with hk | hk | hk | hk | hk | hk | hk | hk | hk | hk | hk | hk | hk | hk
    · exact tot_20 N ih t b off v w B Gm Gl n D hN hp hwf hgd hv hT hk
    · exact tot_22 N ih t b off v w B Gm Gl n D hN hp hwf hgd hv hT hk
    · exact tot_27 N ih t b off v w B Gm Gl n D hN hp hwf hgd hv hT hk
    · exact tot_29 N ih t b off v w B Gm Gl n D hN hp hwf hgd hv hT hk
    · exact tot_46 N ih t b off v w B Gm Gl n D hN hp hwf hgd hv hT hk
    · exact tot_31 N ih t b off v w B Gm Gl n D hN hp hwf hgd hv hT hk
    · exact tot_44 N ih t b off v w B Gm Gl n D hN hp hwf hgd hv hT hk
    · exact tot_45 N ih t b off v w B Gm Gl n D hN hp hwf hgd hv hT hk
    · exact tot_42 N ih t b off v w B Gm Gl n D hN hp hwf hgd hv hT hk
    · exact tot_41 N ih t b off v w B Gm Gl n D hN hp hwf hgd hv hT hk
    · exact tot_35 N ih t b off v w B Gm Gl n D hN hp hwf hgd hv hT hk
    · exact tot_36 N ih t b off v w B Gm Gl n D hN hp hwf hgd hv hT hk
    · exact tot_37 N ih t b off v w B Gm Gl n D hN hp hwf hgd hv hT hk
    · exact tot_no N ih t b off v w B Gm Gl n D hN hp hwf hgd hv hT hk
end Go.Proofs.YtebiojmfieoncaaGreat
