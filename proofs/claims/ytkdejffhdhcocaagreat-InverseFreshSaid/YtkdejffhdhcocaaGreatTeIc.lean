/- (*inverse.finder).of: a verb's obverse, if it has one. Condition: sizes within reach. -/
import Derived.Test.YtkdejffhdhcocaaGreatTeMJ
import Derived.Test.YtkdejffhdhcocaaGreatTeML
namespace Go.Proofs.YtkdejffhdhcocaaGreat
open Go.RowKit Go.Maps

/-- a finder -/
structure FindAt (w : World) (F M : Nat) : Prop where
  cell : w.heap[F]? = some (.cells #[.map (some M)] 71 (0, 0))
  map : ObvMap w M
  lt : M < w.heap.size
theorem FindAt.on {w w' : World} {F M : Nat} (h : FindAt w F M) (hb : Below w.heap.size w w') : FindAt w' F M := ⟨(hb.block _ (heap_lt h.cell)).trans h.cell, h.map.on hb, Nat.lt_of_lt_of_le h.lt hb.size⟩
theorem good_lit {t : Tm} (h : goodT false t = true) (hs : scalarB t = true) : t.at_.length = 1 := by
  have h1 := (node_parts h).2.2.2.1
  unfold scalarB at hs
  simp only [Bool.and_eq_true, decide_eq_true_eq, List.isEmpty_iff] at hs
  unfold numB at h1
  rw [if_pos hs.1, hs.2] at h1
  simpa [litOk] using h1
theorem great_tOf {k : Int} {x y : Tm} {t : Tm} (h : greatT t = false) (hk : t.kids = [x, y]) : greatT (tOf k [y, x]) = false := by
  obtain ⟨c1, d1⟩ := cnt_eq2 hk
  obtain ⟨_, h1, h2⟩ := size_small h
  unfold greatT
  rw [cnt_two, dep_two]
  simp only [decide_eq_false_iff_not]
  omega
theorem wf_tOf {k : Int} {x y : Tm} (hk : In64 k) (hx : WfT x) (hy : WfT y) : WfT (tOf k [x, y]) := by
  simp only [tOf, WfT, WfL, and_true]
  exact ⟨hk, ⟨by decide, by decide⟩, fun x hx => (by cases hx), fun x hx => (by cases hx), by decide, by decide, by decide, (by show 2 * 104 ≤ 140737488351232; decide), hx, hy⟩
/-- two terms one behind the other, by their cells -/
theorem ptr_two {w : World} {b o : Nat} {x y : Tm} (hx : PtrAt w b o x) (hy : PtrAt w b (o + 6) y) : ∃ p q : Rt, TwoAt w b o (rtCellsL [x, y] [p, q]) ∧ b < w.heap.size ∧ (TmAt w x p.s.p p.a.p p.k.p ∧ p.s.n = x.sh.length ∧ p.a.n = x.at_.length ∧ p.k.n = x.kids.length) ∧ (TmAt w y q.s.p q.a.p q.k.p ∧ q.s.n = y.sh.length ∧ q.a.n = y.at_.length ∧ q.k.n = y.kids.length) := by
  obtain ⟨A, ca, B, cb, K, ck, hlt, x0, x1, x2, x3, x4, x5, hat⟩ := hx.cells
  obtain ⟨A', ca', B', cb', K', ck', _, y0, y1, y2, y3, y4, y5, hat'⟩ := hy.cells
  refine ⟨.mk ⟨A, x.sh.length, ca⟩ ⟨B, x.at_.length, cb⟩ ⟨K, x.kids.length, ck⟩ [], .mk ⟨A', y.sh.length, ca'⟩ ⟨B', y.at_.length, cb'⟩ ⟨K', y.kids.length, ck'⟩ [], fun j v hv => ?_, hlt, ⟨hat, rfl, rfl, rfl⟩, hat', rfl, rfl, rfl⟩
  match j, hv with
  | 0, hv => obtain rfl := Option.some.inj hv; exact x0
  | 1, hv => obtain rfl := Option.some.inj hv; exact x1
  | 2, hv => obtain rfl := Option.some.inj hv; exact x2
  | 3, hv => obtain rfl := Option.some.inj hv; exact x3
  | 4, hv => obtain rfl := Option.some.inj hv; exact x4
  | 5, hv => obtain rfl := Option.some.inj hv; exact x5
  | 6, hv => obtain rfl := Option.some.inj hv; exact y0
  | 7, hv => obtain rfl := Option.some.inj hv; exact y1
  | 8, hv => obtain rfl := Option.some.inj hv; exact y2
  | 9, hv => obtain rfl := Option.some.inj hv; exact y3
  | 10, hv => obtain rfl := Option.some.inj hv; exact y4
  | 11, hv => obtain rfl := Option.some.inj hv; exact y5
theorem two_kids_at {w : World} {g : Nat} {x y : Tm} {p q : Rt} (h : TwoAt w g 0 (rtCellsL [x, y] [p, q])) (hg : g < w.heap.size) (hx : TmAt w x p.s.p p.a.p p.k.p) (ex : p.s.n = x.sh.length ∧ p.a.n = x.at_.length ∧ p.k.n = x.kids.length) (hy : TmAt w y q.s.p q.a.p q.k.p) (ey : q.s.n = y.sh.length ∧ q.a.n = y.at_.length ∧ q.k.n = y.kids.length) : KidsAt w (some ⟨g, 0, none⟩) [x, y] 0 := by
  refine KidsAt.of fun i t ht => ?_
  match i, ht with
  | 0, ht =>
    obtain rfl := Option.some.inj ht
    refine ⟨rtCells x p, ?_, hg, fun j u hu => ?_⟩
    · have := hx.is p.s.c p.a.c p.k.c
      rw [← ex.1, ← ex.2.1, ← ex.2.2] at this
      exact this
    · have hl : (rtCells x p).length = 6 := rfl
      have := h j u (by simp only [rtCellsL]; rw [List.getElem?_append_left (by rw [hl]; exact (List.getElem?_eq_some_iff.1 hu).1)]; exact hu)
      simpa using this
  | 1, ht =>
    obtain rfl := Option.some.inj ht
    refine ⟨rtCells y q, ?_, hg, fun j u hu => ?_⟩
    · have := hy.is q.s.c q.a.c q.k.c
      rw [← ey.1, ← ey.2.1, ← ey.2.2] at this
      exact this
    · have hl : (rtCells x p).length = 6 := rfl
      have := h (6 + j) u (by simp only [rtCellsL]; rw [List.getElem?_append_right (by omega), hl, Nat.add_sub_cancel_left, List.append_nil]; exact hu)
      rw [show 0 + (6 + j) = 0 + (0 + 1) * 6 + j by omega] at this
      exact this
set_option maxRecDepth 100000 in
set_option maxHeartbeats 64000000 in
theorem fof_any (F M : Nat) (N : Nat) : ∀ (t : Tm) (b off : Nat) (w : World), cnt t ≤ N → PtrAt w b off t → WfT t → goodT false t = true → greatT t = false → FindAt w F M →
    Calls Tryz.prog 41 #[.pointer (some ⟨F, 0, none⟩), .pointer (some ⟨b, off, none⟩)] w (TbPost (obv t).1 (obv t).2 w) := by
  induction N with
  | zero => intro t b off w h; have := cnt_pos t; omega
  | succ N ih =>
    intro t b off w hN hp hwf hgd hgt hF
    obtain ⟨W1, hW1⟩ : ∃ W1, W1 = w.alloc (.cells tm0 TTm) := ⟨_, rfl⟩
    have hb1 : Below w.heap.size w W1 := by rw [hW1]; exact (Below.refl _ _).alloc (Nat.le_refl _) _
    have hc1 : W1.heap[w.heap.size]? = some (.cells tm0 TTm (0, 0)) := by rw [hW1]; exact heap_alloc_new w _
    have HX := Lib.hid (And.intro hb1 hc1)
    have HF := Lib.hid (hF.on hb1)
    have HT := Lib.hid (And.intro hwf (And.intro hgd (And.intro hgt hN)))
    have HW1 := Lib.hid hW1
    have HS : Hid (W1.heap.size = w.heap.size + 1) := Lib.hid (by rw [hW1]; simp)
    have IH := Lib.hid ih
    obtain ⟨A, ca, B', cb, K, ck, hlt, r0, r1, r2, r3, r4, r5, hat⟩ := (hp.on hb1).cells
    have HAT := Lib.hid hat
    obtain ⟨A0, ca0, B0, cb0, K0, ck0, hltw, a0, a1, a2, a3, a4, a5, _⟩ := hp.cells
    have af := cell_at hF.cell (j := 0) rfl
    have hltF := heap_lt hF.cell
    obtain ⟨rfl, rfl⟩ : K = K0 ∧ ck = ck0 := by
      have e := (hb1.cell (p := ⟨b, off + 5, none⟩) hltw).trans a5
      rw [r5] at e
      simpa using e
    have cf := cell_at HF.out.cell (j := 0) rfl
    obtain ⟨n, hn⟩ : ∃ n, n = t.kids.length := ⟨_, rfl⟩
    rw [← hn] at r5 a5
    have HNK := Lib.hid hn
    have HK : Hid (∀ W, Below W1.heap.size W1 W → W.cell? ⟨b, off, none⟩ = some (.int .i64 t.kind) ∧ W.cell? ⟨b, off + 1, none⟩ = some (.string t.text) ∧ W.cell? ⟨b, off + 5, none⟩ = some (.slice K n ck) ∧ W.cell? ⟨F, 0, none⟩ = some (.map (some M)) ∧ W.heap[w.heap.size]? = some (.cells tm0 TTm (0, 0)) ∧ b < W.heap.size ∧ FindAt W F M) := Lib.hid fun W h =>
      ⟨(h.cell (p := ⟨b, off, none⟩) hlt).trans r0, (h.cell (p := ⟨b, off + 1, none⟩) hlt).trans r1, (h.cell (p := ⟨b, off + 5, none⟩) hlt).trans r5, (h.cell (p := ⟨F, 0, none⟩) (heap_lt HF.out.cell)).trans cf, (h.block _ (heap_lt HX.out.2)).trans HX.out.2, Nat.lt_of_lt_of_le hlt h.size, HF.out.on h⟩
    have TWO : Hid (∀ x y, t.kids = [x, y] → ∃ bk ok, K = some ⟨bk, ok, none⟩ ∧ PtrAt W1 bk ok x ∧ PtrAt W1 bk (ok + 6) y) := Lib.hid fun x y hks => by
      obtain ⟨bk, ok, e, h0⟩ := HAT.out.kids.get (i := 0) (t := x) (by rw [hks]; rfl)
      obtain ⟨bk', ok', e', h1⟩ := HAT.out.kids.get (i := 1) (t := y) (by rw [hks]; rfl)
      rw [e] at e'
      simp only [Option.some.injEq, Addr.mk.injEq, and_true] at e'
      obtain ⟨rfl, rfl⟩ := e'
      exact ⟨bk, ok, e, by simpa using h0, by simpa using h1⟩
    have SUB : Hid (∀ x y, t.kids = [x, y] → ¬ t.kind = 23 → (WfT x ∧ goodT false x = true ∧ greatT x = false ∧ cnt x ≤ N) ∧ (WfT y ∧ goodT false y = true ∧ greatT y = false ∧ cnt y ≤ N)) := Lib.hid fun x y hks h23 => by
      obtain ⟨c1, _⟩ := cnt_eq2 hks
      have := cnt_pos x
      have := cnt_pos y
      have := hN
      exact ⟨⟨hwf.node.each x (by rw [hks]; simp), good_sub hgd h23 (i := 0) (by rw [hks]; rfl), great_kid hgt (i := 0) (by rw [hks]; rfl), by omega⟩, ⟨hwf.node.each y (by rw [hks]; simp), good_sub hgd h23 (i := 1) (by rw [hks]; rfl), great_kid hgt (i := 1) (by rw [hks]; rfl), by omega⟩⟩
    clear hp hwf hgt hF hb1 hc1 hW1 hN ih hn hat r2 r3 r4 a2 a3 a4
    have kd : t.kind = 20 ∨ t.kind = 39 ∨ t.kind = 40 ∨ t.kind = 29 ∨ t.kind = 31 ∨ t.kind = 46 ∨ t.kind = 41 ∨ t.kind = 36 ∨ t.kind = 37 ∨ (¬ t.kind = 20 ∧ ¬ t.kind = 39 ∧ ¬ t.kind = 40 ∧ ¬ t.kind = 29 ∧ ¬ t.kind = 31 ∧ ¬ t.kind = 46 ∧ ¬ t.kind = 41 ∧ ¬ t.kind = 36 ∧ ¬ t.kind = 37) := by omega
    rcases kd with hk | hk | hk | hk | hk | hk | hk | hk | hk | ⟨g20, g39, g40, g29, g31, g46, g41, g36, g37⟩
    · have HR : Hid (obv t = (tPrim ⟨((obvS t.text.data.toList).getD []).toArray⟩, (obvS t.text.data.toList).isSome)) := Lib.hid (by rw [obv_eq]; unfold obvK; rw [if_pos hk])
      have k20 : (t.kind == 20) = true := by rw [hk]; rfl
      have hlk := (HF.out.map.on (Below.refl W1.heap.size W1).drew).look t.text (by have := HT.out.1.node.text; unfold maxLen; omega)
      clear hk hgd
      go_enter Tryz.func41, Tryz.ntmps41
      go_upto_region 3 with fail
      rw [← HW1.out]
      go_wp2_with fail
      go_region
      go_wp2_with fail
      refine (iprim_any _ _).mono ?_
      rintro e w2 ⟨rfl, hb2⟩
      have hz := (((Below.refl W1.heap.size W1).drew.then_ hb2).block _ (heap_lt HX.out.2)).trans HX.out.2
      have fz := unfrozen hz
      have z0 := cell_at hz (j := 0) rfl
      have z1 := cell_at hz (j := 1) rfl
      have z2 := cell_at hz (j := 2) rfl
      have z3 := cell_at hz (j := 3) rfl
      have z4 := cell_at hz (j := 4) rfl
      have z5 := cell_at hz (j := 5) rfl
      have hlz := heap_lt hz
      have HZ := Lib.hid (And.intro hz (HX.out.1.then_ ((Below.refl W1.heap.size W1).drew.then_ hb2)))
      clear hz hb2
      go_wp2_with fail
      obtain ⟨e1, e2, e3⟩ := six _ _ _ _ _ _ HZ.out.1 HZ.out.2 (Nat.le_refl _)
      rw [HR.out]
      exact bodyPost_ret (results_tm2 (p := 4) (t := 5) rfl rfl e1) rfl ⟨rt0, rfl, own_prim _ _ _, by rw [blks0]; exact List.nodup_nil, e3⟩
    · have e0 : obv t = bondLT (nth t.kids 0) (nth t.kids 1) := by rw [obv_eq]; unfold obvK; repeat (first | rw [if_pos hk] | rw [if_neg (by omega)])
      obtain ⟨x, y, hks, fx, fy⟩ := two_kids hgd (c := 111) (d := 118) (by rw [hk]; decide) (by omega) (by omega) (by omega)
      obtain ⟨bk, ok, hKe, px, py⟩ := TWO.out x y hks
      subst hKe
      obtain ⟨sx, sy⟩ := SUB.out x y hks (by omega)
      have HKS := Lib.hid hks
      have HPX := Lib.hid (And.intro px sx)
      have HPY := Lib.hid (And.intro py sy)
      obtain rfl : n = 2 := by rw [HNK.out, hks]; rfl
      have HR : Hid (obv t = bondLT x y) := Lib.hid (by rw [e0, hks]; rfl)
      have k20 : (t.kind == 20) = false := by rw [hk]; rfl
      have k39 : (t.kind == 39) = true := by rw [hk]; rfl
      clear hks px py sx sy fx fy hgd hk e0
      go_enter Tryz.func41, Tryz.ntmps41
      go_upto_region 6 with fail
      rw [← HW1.out]
      go_wp2_with fail
      go_region_law (go_simp; go_at_call 83; refine (bondL_any x y bk ok bk (ok + 6) _ (HPX.out.1.on (Below.refl _ _).drew) (HPY.out.1.on (Below.refl _ _).drew) HPX.out.2.1 HPX.out.2.2.2.1 (good_lit HPX.out.2.2.1)).mono ?_; rintro e w3 ⟨r, rfl, ho, hn, hb3⟩; have hz := (((Below.refl W1.heap.size W1).drew.then_ hb3).block _ (heap_lt HX.out.2)).trans HX.out.2; have fz := unfrozen hz; have z0 := cell_at hz (j := 0) rfl; have z1 := cell_at hz (j := 1) rfl; have z2 := cell_at hz (j := 2) rfl; have z3 := cell_at hz (j := 3) rfl; have z4 := cell_at hz (j := 4) rfl; have z5 := cell_at hz (j := 5) rfl; have hlz := heap_lt hz; have HO := Lib.hid (And.intro ho (And.intro hn (And.intro hz (HX.out.1.then_ ((Below.refl W1.heap.size W1).drew.then_ hb3))))); clear ho hn hb3 hz)
      all_goals
        go_wp2_with fail
        obtain ⟨e1, e2, e3⟩ := six _ _ _ _ _ _ HO.out.2.2.1 HO.out.2.2.2 (Nat.le_refl _)
        rw [HR.out]
        exact bodyPost_ret (results_tm2 (p := 4) (t := 5) rfl rfl e1) rfl ⟨r, rfl, ((HO.out.1.mono (by have := HS.out; show w.heap.size + 1 ≤ W1.heap.size; omega)).kept fun g hg => e2 g (by have h1 := (HO.out.1.blk g hg).1; have h2 := HS.out; have h3 : W1.drew.heap.size = W1.heap.size := rfl; omega)).mono (Nat.le_succ _), HO.out.2.1, e3⟩
    · have e0 : obv t = bondRT (nth t.kids 0) (nth t.kids 1) := by rw [obv_eq]; unfold obvK; repeat (first | rw [if_pos hk] | rw [if_neg (by omega)])
      obtain ⟨x, y, hks, fx, fy⟩ := two_kids hgd (c := 118) (d := 111) (by rw [hk]; decide) (by omega) (by omega) (by omega)
      obtain ⟨bk, ok, hKe, px, py⟩ := TWO.out x y hks
      subst hKe
      obtain ⟨sx, sy⟩ := SUB.out x y hks (by omega)
      have HKS := Lib.hid hks
      have HPX := Lib.hid (And.intro px sx)
      have HPY := Lib.hid (And.intro py sy)
      obtain rfl : n = 2 := by rw [HNK.out, hks]; rfl
      have HR : Hid (obv t = bondRT x y) := Lib.hid (by rw [e0, hks]; rfl)
      have k20 : (t.kind == 20) = false := by rw [hk]; rfl
      have k39 : (t.kind == 39) = false := by rw [hk]; rfl
      have k40 : (t.kind == 40) = true := by rw [hk]; rfl
      clear hks px py sx sy fx fy hgd hk e0
      go_enter Tryz.func41, Tryz.ntmps41
      go_upto_region 8 with fail
      rw [← HW1.out]
      go_wp2_with fail
      go_region_law (go_simp; go_at_call 84; refine (bondR_any y x bk (ok + 6) bk ok _ (HPY.out.1.on (Below.refl _ _).drew) (HPX.out.1.on (Below.refl _ _).drew) HPY.out.2.1 HPY.out.2.2.2.1 (good_lit HPY.out.2.2.1)).mono ?_; rintro e w3 ⟨r, rfl, ho, hn, hb3⟩; have hz := (((Below.refl W1.heap.size W1).drew.then_ hb3).block _ (heap_lt HX.out.2)).trans HX.out.2; have fz := unfrozen hz; have z0 := cell_at hz (j := 0) rfl; have z1 := cell_at hz (j := 1) rfl; have z2 := cell_at hz (j := 2) rfl; have z3 := cell_at hz (j := 3) rfl; have z4 := cell_at hz (j := 4) rfl; have z5 := cell_at hz (j := 5) rfl; have hlz := heap_lt hz; have HO := Lib.hid (And.intro ho (And.intro hn (And.intro hz (HX.out.1.then_ ((Below.refl W1.heap.size W1).drew.then_ hb3))))); clear ho hn hb3 hz)
      all_goals
        go_wp2_with fail
        obtain ⟨e1, e2, e3⟩ := six _ _ _ _ _ _ HO.out.2.2.1 HO.out.2.2.2 (Nat.le_refl _)
        rw [HR.out]
        exact bodyPost_ret (results_tm2 (p := 4) (t := 5) rfl rfl e1) rfl ⟨r, rfl, ((HO.out.1.mono (by have := HS.out; show w.heap.size + 1 ≤ W1.heap.size; omega)).kept fun g hg => e2 g (by have h1 := (HO.out.1.blk g hg).1; have h2 := HS.out; have h3 : W1.drew.heap.size = W1.heap.size := rfl; omega)).mono (Nat.le_succ _), HO.out.2.1, e3⟩
    · have e0 : obv t = (tOf 29 [(nthR (t.kids.map obv) 1).1, (nthR (t.kids.map obv) 0).1], (nthR (t.kids.map obv) 0).2 && (nthR (t.kids.map obv) 1).2) := by rw [obv_eq]; unfold obvK; rw [if_neg (by omega), if_neg (by omega), if_neg (by omega), if_pos (by omega)]
      obtain ⟨x, y, hks, fx, fy⟩ := two_kids hgd (c := 118) (d := 118) (by rw [hk]; decide) (by omega) (by omega) (by omega)
      obtain ⟨bk, ok, hKe, px, py⟩ := TWO.out x y hks
      subst hKe
      obtain ⟨sx, sy⟩ := SUB.out x y hks (by omega)
      have HKS := Lib.hid hks
      have HPX := Lib.hid (And.intro px sx)
      have HPY := Lib.hid (And.intro py sy)
      obtain rfl : n = 2 := by rw [HNK.out, hks]; rfl
      have HR : Hid (obv t = (tOf 29 [(obv y).1, (obv x).1], (obv x).2 && (obv y).2)) := Lib.hid (by rw [e0, hks]; rfl)
      have k20 : (t.kind == 20) = false := by rw [hk]; rfl
      have k39 : (t.kind == 39) = false := by rw [hk]; rfl
      have k40 : (t.kind == 40) = false := by rw [hk]; rfl
      have k29 : (t.kind == 29) = true := by rw [hk]; rfl
      clear hks px py sx sy fx fy hgd hk e0
      go_enter Tryz.func41, Tryz.ntmps41
      go_wp2_with fail
      rw [← HW1.out]
      refine (IH.out x bk ok W1 HPX.out.2.2.2.2 HPX.out.1 HPX.out.2.1 HPX.out.2.2.1 HPX.out.2.2.2.1 HF.out).mono ?_
      rintro e w2 ⟨r, rfl, ho, hn, hb2⟩
      obtain ⟨q0, q1, q5, qf, hz, hlb, hF2⟩ := HK.out w2 hb2
      obtain ⟨hlF, hlK⟩ : F < w2.heap.size ∧ bk < w2.heap.size := ⟨heap_lt hF2.cell, Nat.lt_of_lt_of_le (by obtain ⟨_, _, h, _⟩ := HPX.out.1; exact h) hb2.size⟩
      have HO := Lib.hid (And.intro ho (And.intro hn hb2))
      clear ho hn hb2 hz hF2 q0 q1
      go_wp2_with fail
      obtain ⟨W2, hW2⟩ : ∃ W2, W2 = w2.alloc (.cells #[.int .i64 (obv x).1.kind, .string (obv x).1.text, .int .i64 (obv x).1.n, .slice r.s.p r.s.n r.s.c, .slice r.a.p r.a.n r.a.c, .slice r.k.p r.k.n r.k.c] TTm) := ⟨_, rfl⟩
      have hb2' : Below w2.heap.size w2 W2 := by rw [hW2]; exact (Below.refl _ _).alloc (Nat.le_refl _) _
      have hx2 : W2.heap[w2.heap.size]? = some (.cells #[.int .i64 (obv x).1.kind, .string (obv x).1.text, .int .i64 (obv x).1.n, .slice r.s.p r.s.n r.s.c, .slice r.a.p r.a.n r.a.c, .slice r.k.p r.k.n r.k.c] TTm (0, 0)) := by rw [hW2]; exact heap_alloc_new w2 _
      have H2 := Lib.hid (And.intro (HO.out.2.2.then_ hb2') (And.intro hx2 (And.intro (HO.out.1.on hb2') hb2')))
      have HW2 := Lib.hid hW2
      clear hb2' hx2 hW2 q5 qf hlb hlF hlK
      rw [← HW2.out]
      refine (IH.out y bk (ok + 6) W2 HPY.out.2.2.2.2 (HPY.out.1.on H2.out.1) HPY.out.2.1 HPY.out.2.2.1 HPY.out.2.2.2.1 (HF.out.on H2.out.1)).mono ?_
      rintro e w3 ⟨r', rfl, ho', hn', hb3⟩
      have HO3 := Lib.hid (And.intro ho' (And.intro hn' hb3))
      clear ho' hn' hb3
      cases hx2 : (obv x).2
      all_goals
        have HX2 := Lib.hid hx2
        clear hx2
        go_upto_region 14 with fail
        obtain ⟨W3, hW3⟩ : ∃ W3, W3 = w3.alloc (.cells #[.int .i64 (obv y).1.kind, .string (obv y).1.text, .int .i64 (obv y).1.n, .slice r'.s.p r'.s.n r'.s.c, .slice r'.a.p r'.a.n r'.a.c, .slice r'.k.p r'.k.n r'.k.c] TTm) := ⟨_, rfl⟩
        have hb3' : Below w3.heap.size w3 W3 := by rw [hW3]; exact (Below.refl _ _).alloc (Nat.le_refl _) _
        have hx3 : W3.heap[w3.heap.size]? = some (.cells #[.int .i64 (obv y).1.kind, .string (obv y).1.text, .int .i64 (obv y).1.n, .slice r'.s.p r'.s.n r'.s.c, .slice r'.a.p r'.a.n r'.a.c, .slice r'.k.p r'.k.n r'.k.c] TTm (0, 0)) := by rw [hW3]; exact heap_alloc_new w3 _
        have hx2 := ((HO3.out.2.2.then_ hb3').block _ (heap_lt H2.out.2.1)).trans H2.out.2.1
        have hz := ((H2.out.1.then_ (HO3.out.2.2.then_ hb3')).block _ (heap_lt HX.out.2)).trans HX.out.2
        have fz := unfrozen hz
        have z0 := cell_at hz (j := 0) rfl
        have z1 := cell_at hz (j := 1) rfl
        have z2 := cell_at hz (j := 2) rfl
        have z3 := cell_at hz (j := 3) rfl
        have z4 := cell_at hz (j := 4) rfl
        have z5 := cell_at hz (j := 5) rfl
        have hlz := heap_lt hz
        have x0 := cell_at hx2 (j := 0) rfl
        have y0 := cell_at hx3 (j := 0) rfl
        have x1 := cell_at hx2 (j := 1) rfl
        have y1 := cell_at hx3 (j := 1) rfl
        have x2 := cell_at hx2 (j := 2) rfl
        have y2 := cell_at hx3 (j := 2) rfl
        have x3 := cell_at hx2 (j := 3) rfl
        have y3 := cell_at hx3 (j := 3) rfl
        have x4 := cell_at hx2 (j := 4) rfl
        have y4 := cell_at hx3 (j := 4) rfl
        have x5 := cell_at hx2 (j := 5) rfl
        have y5 := cell_at hx3 (j := 5) rfl
        have H3 := Lib.hid (And.intro hz (And.intro (H2.out.1.then_ (HO3.out.2.2.then_ hb3')) hb3'))
        have HW3 := Lib.hid hW3
        clear hb3' hx3 hx2 hz hW3
        rw [← HW3.out]
        go_wp2_with fail
        have s1 := HS.out
        have s2 := HO.out.2.2.size
        have s3 := H2.out.2.2.2.size
        have s4 := HO3.out.2.2.size
        obtain ⟨e1, e2⟩ := tb_two (w := w) (w3 := W3) (x := (obv y).1) (y := (obv x).1) (p := r') (q := r) 29 ((HO3.out.1.on H3.out.2.2).mono (by omega)) ((H2.out.2.2.1.on (HO3.out.2.2.then_ H3.out.2.2)).mono (by omega)) (List.nodup_append.2 ⟨HO3.out.2.1, HO.out.2.1, fun a ha c hc e => by
          subst e
          have h1 := (HO3.out.1.blk a ha).1
          have h2 := (HO.out.1.blk a hc).2
          omega⟩) H3.out.1 (HX.out.1.then_ H3.out.2.1) ((obv x).2 && (obv y).2)
        rw [HR.out]
        rw [HX2.out] at e2 ⊢
        exact bodyPost_ret (results_tm2 (p := 4) (t := 5) rfl rfl e1) rfl e2
    · have e0 : obv t = (tOf 29 [(nthR (t.kids.map obv) 1).1, (nthR (t.kids.map obv) 0).1], (nthR (t.kids.map obv) 0).2 && (nthR (t.kids.map obv) 1).2) := by rw [obv_eq]; unfold obvK; rw [if_neg (by omega), if_neg (by omega), if_neg (by omega), if_pos (by omega)]
      obtain ⟨x, y, hks, fx, fy⟩ := two_kids hgd (c := 118) (d := 118) (by rw [hk]; decide) (by omega) (by omega) (by omega)
      obtain ⟨bk, ok, hKe, px, py⟩ := TWO.out x y hks
      subst hKe
      obtain ⟨sx, sy⟩ := SUB.out x y hks (by omega)
      have HKS := Lib.hid hks
      have HPX := Lib.hid (And.intro px sx)
      have HPY := Lib.hid (And.intro py sy)
      obtain rfl : n = 2 := by rw [HNK.out, hks]; rfl
      have HR : Hid (obv t = (tOf 29 [(obv y).1, (obv x).1], (obv x).2 && (obv y).2)) := Lib.hid (by rw [e0, hks]; rfl)
      have k20 : (t.kind == 20) = false := by rw [hk]; rfl
      have k39 : (t.kind == 39) = false := by rw [hk]; rfl
      have k40 : (t.kind == 40) = false := by rw [hk]; rfl
      have k29 : (t.kind == 29) = false := by rw [hk]; rfl
      have k31 : (t.kind == 31) = true := by rw [hk]; rfl
      clear hks px py sx sy fx fy hgd hk e0
      go_enter Tryz.func41, Tryz.ntmps41
      go_wp2_with fail
      rw [← HW1.out]
      refine (IH.out x bk ok W1 HPX.out.2.2.2.2 HPX.out.1 HPX.out.2.1 HPX.out.2.2.1 HPX.out.2.2.2.1 HF.out).mono ?_
      rintro e w2 ⟨r, rfl, ho, hn, hb2⟩
      obtain ⟨q0, q1, q5, qf, hz, hlb, hF2⟩ := HK.out w2 hb2
      obtain ⟨hlF, hlK⟩ : F < w2.heap.size ∧ bk < w2.heap.size := ⟨heap_lt hF2.cell, Nat.lt_of_lt_of_le (by obtain ⟨_, _, h, _⟩ := HPX.out.1; exact h) hb2.size⟩
      have HO := Lib.hid (And.intro ho (And.intro hn hb2))
      clear ho hn hb2 hz hF2 q0 q1
      go_wp2_with fail
      obtain ⟨W2, hW2⟩ : ∃ W2, W2 = w2.alloc (.cells #[.int .i64 (obv x).1.kind, .string (obv x).1.text, .int .i64 (obv x).1.n, .slice r.s.p r.s.n r.s.c, .slice r.a.p r.a.n r.a.c, .slice r.k.p r.k.n r.k.c] TTm) := ⟨_, rfl⟩
      have hb2' : Below w2.heap.size w2 W2 := by rw [hW2]; exact (Below.refl _ _).alloc (Nat.le_refl _) _
      have hx2 : W2.heap[w2.heap.size]? = some (.cells #[.int .i64 (obv x).1.kind, .string (obv x).1.text, .int .i64 (obv x).1.n, .slice r.s.p r.s.n r.s.c, .slice r.a.p r.a.n r.a.c, .slice r.k.p r.k.n r.k.c] TTm (0, 0)) := by rw [hW2]; exact heap_alloc_new w2 _
      have H2 := Lib.hid (And.intro (HO.out.2.2.then_ hb2') (And.intro hx2 (And.intro (HO.out.1.on hb2') hb2')))
      have HW2 := Lib.hid hW2
      clear hb2' hx2 hW2 q5 qf hlb hlF hlK
      rw [← HW2.out]
      refine (IH.out y bk (ok + 6) W2 HPY.out.2.2.2.2 (HPY.out.1.on H2.out.1) HPY.out.2.1 HPY.out.2.2.1 HPY.out.2.2.2.1 (HF.out.on H2.out.1)).mono ?_
      rintro e w3 ⟨r', rfl, ho', hn', hb3⟩
      have HO3 := Lib.hid (And.intro ho' (And.intro hn' hb3))
      clear ho' hn' hb3
      cases hx2 : (obv x).2
      all_goals
        have HX2 := Lib.hid hx2
        clear hx2
        go_upto_region 14 with fail
        obtain ⟨W3, hW3⟩ : ∃ W3, W3 = w3.alloc (.cells #[.int .i64 (obv y).1.kind, .string (obv y).1.text, .int .i64 (obv y).1.n, .slice r'.s.p r'.s.n r'.s.c, .slice r'.a.p r'.a.n r'.a.c, .slice r'.k.p r'.k.n r'.k.c] TTm) := ⟨_, rfl⟩
        have hb3' : Below w3.heap.size w3 W3 := by rw [hW3]; exact (Below.refl _ _).alloc (Nat.le_refl _) _
        have hx3 : W3.heap[w3.heap.size]? = some (.cells #[.int .i64 (obv y).1.kind, .string (obv y).1.text, .int .i64 (obv y).1.n, .slice r'.s.p r'.s.n r'.s.c, .slice r'.a.p r'.a.n r'.a.c, .slice r'.k.p r'.k.n r'.k.c] TTm (0, 0)) := by rw [hW3]; exact heap_alloc_new w3 _
        have hx2 := ((HO3.out.2.2.then_ hb3').block _ (heap_lt H2.out.2.1)).trans H2.out.2.1
        have hz := ((H2.out.1.then_ (HO3.out.2.2.then_ hb3')).block _ (heap_lt HX.out.2)).trans HX.out.2
        have fz := unfrozen hz
        have z0 := cell_at hz (j := 0) rfl
        have z1 := cell_at hz (j := 1) rfl
        have z2 := cell_at hz (j := 2) rfl
        have z3 := cell_at hz (j := 3) rfl
        have z4 := cell_at hz (j := 4) rfl
        have z5 := cell_at hz (j := 5) rfl
        have hlz := heap_lt hz
        have x0 := cell_at hx2 (j := 0) rfl
        have y0 := cell_at hx3 (j := 0) rfl
        have x1 := cell_at hx2 (j := 1) rfl
        have y1 := cell_at hx3 (j := 1) rfl
        have x2 := cell_at hx2 (j := 2) rfl
        have y2 := cell_at hx3 (j := 2) rfl
        have x3 := cell_at hx2 (j := 3) rfl
        have y3 := cell_at hx3 (j := 3) rfl
        have x4 := cell_at hx2 (j := 4) rfl
        have y4 := cell_at hx3 (j := 4) rfl
        have x5 := cell_at hx2 (j := 5) rfl
        have y5 := cell_at hx3 (j := 5) rfl
        have H3 := Lib.hid (And.intro hz (And.intro (H2.out.1.then_ (HO3.out.2.2.then_ hb3')) hb3'))
        have HW3 := Lib.hid hW3
        clear hb3' hx3 hx2 hz hW3
        rw [← HW3.out]
        go_wp2_with fail
        have s1 := HS.out
        have s2 := HO.out.2.2.size
        have s3 := H2.out.2.2.2.size
        have s4 := HO3.out.2.2.size
        obtain ⟨e1, e2⟩ := tb_two (w := w) (w3 := W3) (x := (obv y).1) (y := (obv x).1) (p := r') (q := r) 29 ((HO3.out.1.on H3.out.2.2).mono (by omega)) ((H2.out.2.2.1.on (HO3.out.2.2.then_ H3.out.2.2)).mono (by omega)) (List.nodup_append.2 ⟨HO3.out.2.1, HO.out.2.1, fun a ha c hc e => by
          subst e
          have h1 := (HO3.out.1.blk a ha).1
          have h2 := (HO.out.1.blk a hc).2
          omega⟩) H3.out.1 (HX.out.1.then_ H3.out.2.1) ((obv x).2 && (obv y).2)
        rw [HR.out]
        rw [HX2.out] at e2 ⊢
        exact bodyPost_ret (results_tm2 (p := 4) (t := 5) rfl rfl e1) rfl e2
    · have e0 : obv t = (tOf 29 [(nthR (t.kids.map obv) 1).1, (nthR (t.kids.map obv) 0).1], (nthR (t.kids.map obv) 0).2 && (nthR (t.kids.map obv) 1).2) := by rw [obv_eq]; unfold obvK; rw [if_neg (by omega), if_neg (by omega), if_neg (by omega), if_pos (by omega)]
      obtain ⟨x, y, hks, fx, fy⟩ := two_kids hgd (c := 118) (d := 118) (by rw [hk]; decide) (by omega) (by omega) (by omega)
      obtain ⟨bk, ok, hKe, px, py⟩ := TWO.out x y hks
      subst hKe
      obtain ⟨sx, sy⟩ := SUB.out x y hks (by omega)
      have HKS := Lib.hid hks
      have HPX := Lib.hid (And.intro px sx)
      have HPY := Lib.hid (And.intro py sy)
      obtain rfl : n = 2 := by rw [HNK.out, hks]; rfl
      have HR : Hid (obv t = (tOf 29 [(obv y).1, (obv x).1], (obv x).2 && (obv y).2)) := Lib.hid (by rw [e0, hks]; rfl)
      have k20 : (t.kind == 20) = false := by rw [hk]; rfl
      have k39 : (t.kind == 39) = false := by rw [hk]; rfl
      have k40 : (t.kind == 40) = false := by rw [hk]; rfl
      have k29 : (t.kind == 29) = false := by rw [hk]; rfl
      have k31 : (t.kind == 31) = false := by rw [hk]; rfl
      have k46 : (t.kind == 46) = true := by rw [hk]; rfl
      clear hks px py sx sy fx fy hgd hk e0
      go_enter Tryz.func41, Tryz.ntmps41
      go_wp2_with fail
      rw [← HW1.out]
      refine (IH.out x bk ok W1 HPX.out.2.2.2.2 HPX.out.1 HPX.out.2.1 HPX.out.2.2.1 HPX.out.2.2.2.1 HF.out).mono ?_
      rintro e w2 ⟨r, rfl, ho, hn, hb2⟩
      obtain ⟨q0, q1, q5, qf, hz, hlb, hF2⟩ := HK.out w2 hb2
      obtain ⟨hlF, hlK⟩ : F < w2.heap.size ∧ bk < w2.heap.size := ⟨heap_lt hF2.cell, Nat.lt_of_lt_of_le (by obtain ⟨_, _, h, _⟩ := HPX.out.1; exact h) hb2.size⟩
      have HO := Lib.hid (And.intro ho (And.intro hn hb2))
      clear ho hn hb2 hz hF2 q0 q1
      go_wp2_with fail
      obtain ⟨W2, hW2⟩ : ∃ W2, W2 = w2.alloc (.cells #[.int .i64 (obv x).1.kind, .string (obv x).1.text, .int .i64 (obv x).1.n, .slice r.s.p r.s.n r.s.c, .slice r.a.p r.a.n r.a.c, .slice r.k.p r.k.n r.k.c] TTm) := ⟨_, rfl⟩
      have hb2' : Below w2.heap.size w2 W2 := by rw [hW2]; exact (Below.refl _ _).alloc (Nat.le_refl _) _
      have hx2 : W2.heap[w2.heap.size]? = some (.cells #[.int .i64 (obv x).1.kind, .string (obv x).1.text, .int .i64 (obv x).1.n, .slice r.s.p r.s.n r.s.c, .slice r.a.p r.a.n r.a.c, .slice r.k.p r.k.n r.k.c] TTm (0, 0)) := by rw [hW2]; exact heap_alloc_new w2 _
      have H2 := Lib.hid (And.intro (HO.out.2.2.then_ hb2') (And.intro hx2 (And.intro (HO.out.1.on hb2') hb2')))
      have HW2 := Lib.hid hW2
      clear hb2' hx2 hW2 q5 qf hlb hlF hlK
      rw [← HW2.out]
      refine (IH.out y bk (ok + 6) W2 HPY.out.2.2.2.2 (HPY.out.1.on H2.out.1) HPY.out.2.1 HPY.out.2.2.1 HPY.out.2.2.2.1 (HF.out.on H2.out.1)).mono ?_
      rintro e w3 ⟨r', rfl, ho', hn', hb3⟩
      have HO3 := Lib.hid (And.intro ho' (And.intro hn' hb3))
      clear ho' hn' hb3
      cases hx2 : (obv x).2
      all_goals
        have HX2 := Lib.hid hx2
        clear hx2
        go_upto_region 14 with fail
        obtain ⟨W3, hW3⟩ : ∃ W3, W3 = w3.alloc (.cells #[.int .i64 (obv y).1.kind, .string (obv y).1.text, .int .i64 (obv y).1.n, .slice r'.s.p r'.s.n r'.s.c, .slice r'.a.p r'.a.n r'.a.c, .slice r'.k.p r'.k.n r'.k.c] TTm) := ⟨_, rfl⟩
        have hb3' : Below w3.heap.size w3 W3 := by rw [hW3]; exact (Below.refl _ _).alloc (Nat.le_refl _) _
        have hx3 : W3.heap[w3.heap.size]? = some (.cells #[.int .i64 (obv y).1.kind, .string (obv y).1.text, .int .i64 (obv y).1.n, .slice r'.s.p r'.s.n r'.s.c, .slice r'.a.p r'.a.n r'.a.c, .slice r'.k.p r'.k.n r'.k.c] TTm (0, 0)) := by rw [hW3]; exact heap_alloc_new w3 _
        have hx2 := ((HO3.out.2.2.then_ hb3').block _ (heap_lt H2.out.2.1)).trans H2.out.2.1
        have hz := ((H2.out.1.then_ (HO3.out.2.2.then_ hb3')).block _ (heap_lt HX.out.2)).trans HX.out.2
        have fz := unfrozen hz
        have z0 := cell_at hz (j := 0) rfl
        have z1 := cell_at hz (j := 1) rfl
        have z2 := cell_at hz (j := 2) rfl
        have z3 := cell_at hz (j := 3) rfl
        have z4 := cell_at hz (j := 4) rfl
        have z5 := cell_at hz (j := 5) rfl
        have hlz := heap_lt hz
        have x0 := cell_at hx2 (j := 0) rfl
        have y0 := cell_at hx3 (j := 0) rfl
        have x1 := cell_at hx2 (j := 1) rfl
        have y1 := cell_at hx3 (j := 1) rfl
        have x2 := cell_at hx2 (j := 2) rfl
        have y2 := cell_at hx3 (j := 2) rfl
        have x3 := cell_at hx2 (j := 3) rfl
        have y3 := cell_at hx3 (j := 3) rfl
        have x4 := cell_at hx2 (j := 4) rfl
        have y4 := cell_at hx3 (j := 4) rfl
        have x5 := cell_at hx2 (j := 5) rfl
        have y5 := cell_at hx3 (j := 5) rfl
        have H3 := Lib.hid (And.intro hz (And.intro (H2.out.1.then_ (HO3.out.2.2.then_ hb3')) hb3'))
        have HW3 := Lib.hid hW3
        clear hb3' hx3 hx2 hz hW3
        rw [← HW3.out]
        go_wp2_with fail
        have s1 := HS.out
        have s2 := HO.out.2.2.size
        have s3 := H2.out.2.2.2.size
        have s4 := HO3.out.2.2.size
        obtain ⟨e1, e2⟩ := tb_two (w := w) (w3 := W3) (x := (obv y).1) (y := (obv x).1) (p := r') (q := r) 29 ((HO3.out.1.on H3.out.2.2).mono (by omega)) ((H2.out.2.2.1.on (HO3.out.2.2.then_ H3.out.2.2)).mono (by omega)) (List.nodup_append.2 ⟨HO3.out.2.1, HO.out.2.1, fun a ha c hc e => by
          subst e
          have h1 := (HO3.out.1.blk a ha).1
          have h2 := (HO.out.1.blk a hc).2
          omega⟩) H3.out.1 (HX.out.1.then_ H3.out.2.1) ((obv x).2 && (obv y).2)
        rw [HR.out]
        rw [HX2.out] at e2 ⊢
        exact bodyPost_ret (results_tm2 (p := 4) (t := 5) rfl rfl e1) rfl e2
    · have e0 : obv t = (if (nthR (t.kids.map obv) 0).2 = false ∨ scalarB (nth t.kids 1) = false ∨ (nth t.kids 1).at_.getD 0 0 < 0 then (tNil, false) else (tOf 41 [(nthR (t.kids.map obv) 0).1, nth t.kids 1], true)) := by rw [obv_eq]; unfold obvK; rw [if_neg (by omega), if_neg (by omega), if_neg (by omega), if_neg (by omega), if_pos hk]
      obtain ⟨x, y, hks, fx, fy⟩ := two_kids hgd (c := 118) (d := 111) (by rw [hk]; decide) (by omega) (by omega) (by omega)
      obtain ⟨bk, ok, hKe, px, py⟩ := TWO.out x y hks
      subst hKe
      obtain ⟨sx, sy⟩ := SUB.out x y hks (by omega)
      have HKS := Lib.hid hks
      have HPX := Lib.hid (And.intro px sx)
      have HPY := Lib.hid (And.intro py sy)
      obtain rfl : n = 2 := by rw [HNK.out, hks]; rfl
      have HR0 : Hid (obv t = if (obv x).2 = false ∨ scalarB y = false ∨ y.at_.getD 0 0 < 0 then (tNil, false) else (tOf 41 [(obv x).1, y], true)) := Lib.hid (by rw [e0, hks]; rfl)
      have k20 : (t.kind == 20) = false := by rw [hk]; rfl
      have k39 : (t.kind == 39) = false := by rw [hk]; rfl
      have k40 : (t.kind == 40) = false := by rw [hk]; rfl
      have k29 : (t.kind == 29) = false := by rw [hk]; rfl
      have k31 : (t.kind == 31) = false := by rw [hk]; rfl
      have k46 : (t.kind == 46) = false := by rw [hk]; rfl
      have k41 : (t.kind == 41) = true := by rw [hk]; rfl
      clear hks px py sx sy fx fy hgd hk e0
      go_enter Tryz.func41, Tryz.ntmps41
      go_wp2_with fail
      rw [← HW1.out]
      refine (IH.out x bk ok W1 HPX.out.2.2.2.2 HPX.out.1 HPX.out.2.1 HPX.out.2.2.1 HPX.out.2.2.2.1 HF.out).mono ?_
      rintro e w2 ⟨r, rfl, ho, hn, hb2⟩
      have HO := Lib.hid (And.intro ho (And.intro hn hb2))
      clear ho hn hb2
      cases hx2 : (obv x).2
      all_goals
        have HX2 := Lib.hid hx2
        clear hx2
        go_upto_region 18 with fail
        obtain ⟨W2, hW2⟩ : ∃ W2, W2 = w2.alloc (.cells #[.int .i64 (obv x).1.kind, .string (obv x).1.text, .int .i64 (obv x).1.n, .slice r.s.p r.s.n r.s.c, .slice r.a.p r.a.n r.a.c, .slice r.k.p r.k.n r.k.c] TTm) := ⟨_, rfl⟩
        have hb2' : Below w2.heap.size w2 W2 := by rw [hW2]; exact (Below.refl _ _).alloc (Nat.le_refl _) _
        have hx2 : W2.heap[w2.heap.size]? = some (.cells #[.int .i64 (obv x).1.kind, .string (obv x).1.text, .int .i64 (obv x).1.n, .slice r.s.p r.s.n r.s.c, .slice r.a.p r.a.n r.a.c, .slice r.k.p r.k.n r.k.c] TTm (0, 0)) := by rw [hW2]; exact heap_alloc_new w2 _
        have hz := ((HO.out.2.2.then_ hb2').block _ (heap_lt HX.out.2)).trans HX.out.2
        have fz := unfrozen hz
        have z0 := cell_at hz (j := 0) rfl
        have z1 := cell_at hz (j := 1) rfl
        have z2 := cell_at hz (j := 2) rfl
        have z3 := cell_at hz (j := 3) rfl
        have z4 := cell_at hz (j := 4) rfl
        have z5 := cell_at hz (j := 5) rfl
        have hlz := heap_lt hz
        have H2 := Lib.hid (And.intro (HO.out.2.2.then_ hb2') (And.intro hx2 (And.intro (HO.out.1.on hb2') (And.intro hb2' hz))))
        have HW2 := Lib.hid hW2
        rw [← HW2.out]
        clear hb2' hx2 hW2 hz
      · have HR : Hid (obv t = (tNil, false)) := Lib.hid (by rw [HR0.out, if_pos (.inl HX2.out)])
        go_wp2_with fail
        obtain ⟨e1, e2, e3⟩ := six (.int .i64 0) (.string ⟨#[]⟩) (.int .i64 0) (.slice none 0 0) (.slice none 0 0) (.slice none 0 0) H2.out.2.2.2.2 (HX.out.1.then_ H2.out.1) (Nat.le_refl _)
        rw [HR.out]
        exact bodyPost_ret (results_tm2 (p := 4) (t := 5) rfl rfl e1) rfl (tb_nil e3)
      · have HPC := Lib.hid (HPY.out.1.on H2.out.1).cells
        cases hsy : scalarB y
        · have HR : Hid (obv t = (tNil, false)) := Lib.hid (by rw [HR0.out, if_pos (.inr (.inl hsy))])
          have HSY := Lib.hid hsy
          clear hsy
          go_wp2_with fail
          refine (scalar_any y bk (ok + 6) W2 (HPY.out.1.on H2.out.1)).mono ?_
          rintro e w' ⟨rfl, rfl⟩
          rw [HSY.out]
          go_wp2_with fail
          obtain ⟨e1, e2, e3⟩ := six (.int .i64 0) (.string ⟨#[]⟩) (.int .i64 0) (.slice none 0 0) (.slice none 0 0) (.slice none 0 0) H2.out.2.2.2.2 (HX.out.1.then_ H2.out.1) (Nat.le_refl _)
          rw [HR.out]
          exact bodyPost_ret (results_tm2 (p := 4) (t := 5) rfl rfl e1) rfl (tb_nil e3)
        · obtain ⟨v0, hv0⟩ : ∃ v0, y.at_ = [v0] := by
            have := good_lit HPY.out.2.2.1 hsy
            match y.at_, this with
            | [v0], _ => exact ⟨v0, rfl⟩
          have HV := Lib.hid hv0
          have hpos : 0 < y.at_.length := by rw [hv0]; exact Nat.zero_lt_one
          have HSY := Lib.hid hsy
          obtain ⟨A', ca', B', cb', K', ck', hlt', y0, y1, y2, y3, y4, y5, haty⟩ := HPC.out
          obtain ⟨b3, o3, hB, l3, c3⟩ := haty.at_ 0 v0 (by rw [HV.out]; rfl)
          subst hB
          rw [Nat.add_zero] at c3
          have HAY := Lib.hid haty
          have HC6 : Hid (∀ W, Below W2.heap.size W2 W → W.cell? ⟨bk, ok + 6, none⟩ = some (.int .i64 y.kind) ∧ W.cell? ⟨bk, ok + 7, none⟩ = some (.string y.text) ∧ W.cell? ⟨bk, ok + 8, none⟩ = some (.int .i64 y.n) ∧ W.cell? ⟨bk, ok + 9, none⟩ = some (.slice A' y.sh.length ca') ∧ W.cell? ⟨bk, ok + 10, none⟩ = some (.slice (some ⟨b3, o3, none⟩) y.at_.length cb') ∧ W.cell? ⟨bk, ok + 11, none⟩ = some (.slice K' y.kids.length ck')) := Lib.hid fun W h =>
            ⟨(h.cell (p := ⟨bk, ok + 6, none⟩) hlt').trans y0, (h.cell (p := ⟨bk, ok + 7, none⟩) hlt').trans y1, (h.cell (p := ⟨bk, ok + 8, none⟩) hlt').trans y2, (h.cell (p := ⟨bk, ok + 9, none⟩) hlt').trans y3, (h.cell (p := ⟨bk, ok + 10, none⟩) hlt').trans y4, (h.cell (p := ⟨bk, ok + 11, none⟩) hlt').trans y5⟩
          clear hsy hv0 haty hlt' y0 y1 y2 y3 y4 y5
          obtain ⟨y0, y1, y2, y3, y4, y5⟩ := HC6.out W2 (Below.refl _ _)
          by_cases hneg : v0 < 0
          · have HR : Hid (obv t = (tNil, false)) := Lib.hid (by rw [HR0.out, if_pos (.inr (.inr (by rw [HV.out]; exact hneg)))])
            go_wp2_with fail
            refine (scalar_any y bk (ok + 6) W2 (HPY.out.1.on H2.out.1)).mono ?_
            rintro e w' ⟨rfl, rfl⟩
            rw [HSY.out]
            go_wp2_with fail
            obtain ⟨e1, e2, e3⟩ := six (.int .i64 0) (.string ⟨#[]⟩) (.int .i64 0) (.slice none 0 0) (.slice none 0 0) (.slice none 0 0) H2.out.2.2.2.2 (HX.out.1.then_ H2.out.1) (Nat.le_refl _)
            rw [HR.out]
            exact bodyPost_ret (results_tm2 (p := 4) (t := 5) rfl rfl e1) rfl (tb_nil e3)
          · have HR : Hid (obv t = (tOf 41 [(obv x).1, y], true)) := Lib.hid (by rw [HR0.out, if_neg (by rintro (h | h | h); rw [HX2.out] at h; cases h; rw [HSY.out] at h; cases h; rw [HV.out] at h; exact hneg h)])
            have hneg2 : 0 ≤ v0 := by omega
            have dneg : decide (v0 < 0) = false := by simp; omega
            clear hneg
            go_wp2_with fail
            refine (scalar_any y bk (ok + 6) W2 (HPY.out.1.on H2.out.1)).mono ?_
            rintro e w' ⟨rfl, rfl⟩
            rw [HSY.out]
            have hx2 := H2.out.2.1
            have x0 := cell_at hx2 (j := 0) rfl
            have x1 := cell_at hx2 (j := 1) rfl
            have x2 := cell_at hx2 (j := 2) rfl
            have x3 := cell_at hx2 (j := 3) rfl
            have x4 := cell_at hx2 (j := 4) rfl
            have x5 := cell_at hx2 (j := 5) rfl
            clear hx2
            go_wp2_with fail
            go_region_law (go_simp; go_at_call 86; refine (itwin_any y _ _ _ _ _ _ _ (HAY.out.on (Below.refl _ _).drew) HPY.out.2.1 HPY.out.2.2.2.1).mono ?_; rintro e w3 ⟨r', rfl, ho', hn', hb3⟩; have hb3' := (Below.refl W2.heap.size W2).drew.then_ hb3; have hz := (hb3'.block _ (heap_lt H2.out.2.2.2.2)).trans H2.out.2.2.2.2; have fz := unfrozen hz; have z0 := cell_at hz (j := 0) rfl; have z1 := cell_at hz (j := 1) rfl; have z2 := cell_at hz (j := 2) rfl; have z3 := cell_at hz (j := 3) rfl; have z4 := cell_at hz (j := 4) rfl; have z5 := cell_at hz (j := 5) rfl; have hlz := heap_lt hz; have hx2 := (hb3'.block _ (heap_lt H2.out.2.1)).trans H2.out.2.1; have x0 := cell_at hx2 (j := 0) rfl; have x1 := cell_at hx2 (j := 1) rfl; have x2 := cell_at hx2 (j := 2) rfl; have x3 := cell_at hx2 (j := 3) rfl; have x4 := cell_at hx2 (j := 4) rfl; have x5 := cell_at hx2 (j := 5) rfl; have HO3 := Lib.hid (And.intro ho' (And.intro hn' (And.intro hz hb3'))); clear ho' hn' hb3 hb3' hz hx2)
            all_goals
              go_wp2_with fail
              have s1 := HS.out
              have s2 := HO.out.2.2.size
              have s3 := H2.out.2.2.2.1.size
              have s4 := HO3.out.2.2.2.size
              have s5 : W2.drew.heap.size = W2.heap.size := rfl
              obtain ⟨e1, e2⟩ := tb_two (w := w) (w3 := w3) (x := (obv x).1) (y := y) (p := r) (q := r') 41 ((H2.out.2.2.1.on HO3.out.2.2.2).mono (by omega)) (HO3.out.1.mono (by omega)) (List.nodup_append.2 ⟨HO.out.2.1, HO3.out.2.1, fun a ha c hc e => by
                subst e
                have h1 := (HO3.out.1.blk a hc).1
                have h2 := (HO.out.1.blk a ha).2
                omega⟩) HO3.out.2.2.1 (HX.out.1.then_ (H2.out.1.then_ HO3.out.2.2.2)) true
              rw [HR.out]
              exact bodyPost_ret (results_tm2 (p := 4) (t := 5) rfl rfl e1) rfl e2
    · have e0 : obv t = (tOf 36 [nth t.kids 1, nth t.kids 0], true) := by rw [obv_eq]; unfold obvK; rw [if_neg (by omega), if_neg (by omega), if_neg (by omega), if_neg (by omega), if_neg (by omega), if_pos hk]
      obtain ⟨x, y, hks, fx, fy⟩ := two_kids hgd (c := 118) (d := 118) (by rw [hk]; decide) (by omega) (by omega) (by omega)
      obtain ⟨bk, ok, hKe, px, py⟩ := TWO.out x y hks
      subst hKe
      obtain ⟨sx, sy⟩ := SUB.out x y hks (by omega)
      have HKS := Lib.hid hks
      have HPX := Lib.hid (And.intro px sx)
      have HPY := Lib.hid (And.intro py sy)
      obtain rfl : n = 2 := by rw [HNK.out, hks]; rfl
      have HR : Hid (obv t = (tOf 36 [y, x], true)) := Lib.hid (by rw [e0, hks]; rfl)
      have HG : Hid (greatT (tOf 36 [y, x]) = false) := Lib.hid (great_tOf HT.out.2.2.1 hks)
      obtain ⟨p, q, htwo, hbk, hp, hq⟩ := ptr_two px py
      have HTW := Lib.hid (And.intro htwo (And.intro hbk (And.intro hp hq)))
      have k20 : (t.kind == 20) = false := by rw [hk]; rfl
      have k39 : (t.kind == 39) = false := by rw [hk]; rfl
      have k40 : (t.kind == 40) = false := by rw [hk]; rfl
      have k29 : (t.kind == 29) = false := by rw [hk]; rfl
      have k31 : (t.kind == 31) = false := by rw [hk]; rfl
      have k46 : (t.kind == 46) = false := by rw [hk]; rfl
      have k41 : (t.kind == 41) = false := by rw [hk]; rfl
      have k36 : (t.kind == 36) = true := by rw [hk]; rfl
      clear hks px py sx sy fx fy hgd hk e0 htwo hbk hp hq
      go_enter Tryz.func41, Tryz.ntmps41
      go_wp2_with fail
      rw [← HW1.out]
      refine (clone_two x y p q bk ok ck W1 HTW.out.2.1 HTW.out.1).mono ?_
      rintro e w2 ⟨g, cap, rfl, hg1, hg2, hfr, h2, hb2⟩
      have H2 := Lib.hid (And.intro hg1 (And.intro hfr (And.intro h2 hb2)))
      clear hg1 hfr h2 hb2 hg2
      go_wp2_with fail
      refine (reverse_two x y p q g cap w2 H2.out.2.1 H2.out.2.2.1).mono ?_
      rintro e w3 ⟨rfl, h3, hbb⟩
      have hb3 : Below W1.heap.size W1 w3 := H2.out.2.2.2.trans (hbb _ H2.out.1)
      have H3 := Lib.hid (And.intro h3 hb3)
      have HG3 : Hid (g < w3.heap.size) := Lib.hid (by
        have h1 := H3.out.1 0 (.int .i64 y.kind) rfl
        apply Nat.lt_of_not_le
        intro h
        simp [World.cell?, Array.getElem?_eq_none h] at h1)
      clear h3 hbb hb3
      go_wp2_with fail
      refine (itwin_any (tOf 36 [y, x]) none 0 none 0 (some ⟨g, 0, none⟩) cap w3 ⟨IntsAt.nil _ _, IntsAt.nil _ _, two_kids_at H3.out.1 HG3.out (HTW.out.2.2.2.1.on H3.out.2) HTW.out.2.2.2.2 (HTW.out.2.2.1.1.on H3.out.2) HTW.out.2.2.1.2⟩ (wf_tOf ⟨by decide, by decide⟩ HPY.out.2.1 HPX.out.2.1) HG.out).mono ?_
      rintro e w4 ⟨r, rfl, ho, hn, hb4⟩
      have hz := ((H3.out.2.then_ hb4).block _ (heap_lt HX.out.2)).trans HX.out.2
      have fz := unfrozen hz
      have z0 := cell_at hz (j := 0) rfl
      have z1 := cell_at hz (j := 1) rfl
      have z2 := cell_at hz (j := 2) rfl
      have z3 := cell_at hz (j := 3) rfl
      have z4 := cell_at hz (j := 4) rfl
      have z5 := cell_at hz (j := 5) rfl
      have hlz := heap_lt hz
      have HO := Lib.hid (And.intro ho (And.intro hn (And.intro hz (And.intro (HX.out.1.then_ (H3.out.2.then_ hb4)) H3.out.2.size))))
      clear ho hn hz hb4
      go_wp2_with fail
      obtain ⟨e1, e2, e3⟩ := six (.int .i64 (tOf 36 [y, x]).kind) (.string (tOf 36 [y, x]).text) (.int .i64 (tOf 36 [y, x]).n) (.slice r.s.p r.s.n r.s.c) (.slice r.a.p r.a.n r.a.c) (.slice r.k.p r.k.n r.k.c) HO.out.2.2.1 HO.out.2.2.2.1 (Nat.le_refl _)
      rw [HR.out]
      have s1 := HS.out
      have s2 := HO.out.2.2.2.2
      exact bodyPost_ret (results_tm2 (p := 4) (t := 5) rfl rfl e1) rfl ⟨r, rfl, ((HO.out.1.mono (show w.heap.size + 1 ≤ w3.heap.size by omega)).kept fun g hg => e2 g (by have h1 := (HO.out.1.blk g hg).1; omega)).mono (Nat.le_succ _), HO.out.2.1, e3⟩
    · have e0 : obv t = nthR (t.kids.map obv) 0 := by rw [obv_eq]; unfold obvK; rw [if_neg (by omega), if_neg (by omega), if_neg (by omega), if_neg (by omega), if_neg (by omega), if_neg (by omega), if_pos hk]
      obtain ⟨x, y, hks, fx, fy⟩ := two_kids hgd (c := 118) (d := 118) (by rw [hk]; decide) (by omega) (by omega) (by omega)
      obtain ⟨bk, ok, hKe, px, py⟩ := TWO.out x y hks
      subst hKe
      obtain ⟨sx, sy⟩ := SUB.out x y hks (by omega)
      have HKS := Lib.hid hks
      have HPX := Lib.hid (And.intro px sx)
      have HPY := Lib.hid (And.intro py sy)
      obtain rfl : n = 2 := by rw [HNK.out, hks]; rfl
      have HR : Hid (obv t = obv x) := Lib.hid (by rw [e0, hks]; rfl)
      have k20 : (t.kind == 20) = false := by rw [hk]; rfl
      have k39 : (t.kind == 39) = false := by rw [hk]; rfl
      have k40 : (t.kind == 40) = false := by rw [hk]; rfl
      have k29 : (t.kind == 29) = false := by rw [hk]; rfl
      have k31 : (t.kind == 31) = false := by rw [hk]; rfl
      have k46 : (t.kind == 46) = false := by rw [hk]; rfl
      have k41 : (t.kind == 41) = false := by rw [hk]; rfl
      have k36 : (t.kind == 36) = false := by rw [hk]; rfl
      have k37 : (t.kind == 37) = true := by rw [hk]; rfl
      clear hks px py sx sy fx fy hgd hk e0
      go_enter Tryz.func41, Tryz.ntmps41
      go_wp2_with fail
      rw [← HW1.out]
      refine (IH.out x bk ok W1 HPX.out.2.2.2.2 HPX.out.1 HPX.out.2.1 HPX.out.2.2.1 HPX.out.2.2.2.1 HF.out).mono ?_
      rintro e w2 ⟨r, rfl, ho, hn, hb2⟩
      have hz := (hb2.block _ (heap_lt HX.out.2)).trans HX.out.2
      have fz := unfrozen hz
      have z0 := cell_at hz (j := 0) rfl
      have z1 := cell_at hz (j := 1) rfl
      have z2 := cell_at hz (j := 2) rfl
      have z3 := cell_at hz (j := 3) rfl
      have z4 := cell_at hz (j := 4) rfl
      have z5 := cell_at hz (j := 5) rfl
      have hlz := heap_lt hz
      have HO := Lib.hid (And.intro ho (And.intro hn (And.intro hz hb2)))
      clear ho hn hb2 hz
      go_wp2_with fail
      obtain ⟨e1, e2, e3⟩ := six (.int .i64 (obv x).1.kind) (.string (obv x).1.text) (.int .i64 (obv x).1.n) (.slice r.s.p r.s.n r.s.c) (.slice r.a.p r.a.n r.a.c) (.slice r.k.p r.k.n r.k.c) HO.out.2.2.1 (HX.out.1.then_ HO.out.2.2.2) (Nat.le_refl _)
      rw [HR.out]
      have s1 := HS.out
      exact bodyPost_ret (results_tm2 (p := 4) (t := 5) rfl rfl e1) rfl ⟨r, rfl, ((HO.out.1.mono (show w.heap.size + 1 ≤ W1.heap.size by omega)).kept fun g hg => e2 g (by have h1 := (HO.out.1.blk g hg).1; omega)).mono (Nat.le_succ _), HO.out.2.1, e3⟩
    · have HR : Hid (obv t = (tNil, false)) := Lib.hid (by rw [obv_eq]; unfold obvK; rw [if_neg g20, if_neg g39, if_neg g40, if_neg (by omega), if_neg g41, if_neg g36, if_neg g37])
      have k20 : (t.kind == 20) = false := beq_no g20
      have k39 : (t.kind == 39) = false := beq_no g39
      have k40 : (t.kind == 40) = false := beq_no g40
      have k29 : (t.kind == 29) = false := beq_no g29
      have k31 : (t.kind == 31) = false := beq_no g31
      have k46 : (t.kind == 46) = false := beq_no g46
      have k41 : (t.kind == 41) = false := beq_no g41
      have k36 : (t.kind == 36) = false := beq_no g36
      have k37 : (t.kind == 37) = false := beq_no g37
      clear hgd g20 g39 g40 g29 g31 g46 g41 g36 g37
      go_enter Tryz.func41, Tryz.ntmps41
      go_wp2_with fail
      rw [HR.out]
      exact bodyPost_ret (results_tm2 (p := 4) (t := 5) rfl rfl (heap_alloc_new w _)) rfl (tb_nil ((Below.refl _ _).alloc (Nat.le_refl _) _))
end Go.Proofs.YtkdejffhdhcocaaGreat
