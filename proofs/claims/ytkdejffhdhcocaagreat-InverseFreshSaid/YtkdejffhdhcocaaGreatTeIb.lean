/- inverse: the obverses of bonds. Condition: sizes within reach. -/
import Derived.Test.YtkdejffhdhcocaaGreatTeMI
namespace Go.Proofs.YtkdejffhdhcocaaGreat
open Go.RowKit

/-- the zero term is answered -/
theorem tb_nil {w W : World} {ok : Bool} (hb : Below w.heap.size w W) : TbPost tNil ok w (.returned (.tuple #[.agg tm0, .bool ok])) W :=
  ⟨rt0, rfl, own_nil _ _, by rw [blks0]; exact List.nodup_nil, hb⟩
/-- the world behind two parts: the result's cell is written, the row of two is laid -/
abbrev laidTwo (w w3 : World) (k : Int) (cs : Array Value) : World :=
  (((((((w3.setCell ⟨w.heap.size, 0, none⟩ (.int .i64 k)).setCell ⟨w.heap.size, 1, none⟩ (.string ⟨#[]⟩)).setCell ⟨w.heap.size, 2, none⟩ (.int .i64 0)).setCell ⟨w.heap.size, 3, none⟩ (.slice none 0 0)).setCell ⟨w.heap.size, 4, none⟩ (.slice none 0 0)).setCell ⟨w.heap.size, 5, none⟩ (.slice (some ⟨w3.heap.size, 0, none⟩) 2 2))).alloc (.cells cs TTm)
theorem tb_two {w w3 : World} {x y : Tm} {p q : Rt} (k : Int) (hx : OwnT w3 (w.heap.size + 1) x p) (hy : OwnT w3 (w.heap.size + 1) y q) (hn : (blksT p ++ blksT q).Nodup)
    {a0 a1 a2 a3 a4 a5 : Value} (hz : w3.heap[w.heap.size]? = some (.cells #[a0, a1, a2, a3, a4, a5] TTm (0, 0))) (hb : Below w.heap.size w w3) (ok : Bool) :
    (laidTwo w w3 k (rtCellsL [x, y] [p, q]).toArray).heap[w.heap.size]? = some (.cells #[.int .i64 k, .string ⟨#[]⟩, .int .i64 0, .slice none 0 0, .slice none 0 0, .slice (some ⟨w3.heap.size, 0, none⟩) 2 2] TTm (0, 0)) ∧
    TbPost (tOf k [x, y]) ok w (.returned (.tuple #[.agg #[.int .i64 k, .string ⟨#[]⟩, .int .i64 0, .slice none 0 0, .slice none 0 0, .slice (some ⟨w3.heap.size, 0, none⟩) 2 2], .bool ok])) (laidTwo w w3 k (rtCellsL [x, y] [p, q]).toArray) := by
  obtain ⟨e1, e2, e3⟩ := six (.int .i64 k) (.string ⟨#[]⟩) (.int .i64 0) (.slice none 0 0) (.slice none 0 0) (.slice (some ⟨w3.heap.size, 0, none⟩) 2 2) hz hb (Nat.le_refl _)
  have hlz := heap_lt hz
  obtain ⟨V, hV⟩ : ∃ V, V = ((((((w3.setCell ⟨w.heap.size, 0, none⟩ (.int .i64 k)).setCell ⟨w.heap.size, 1, none⟩ (.string ⟨#[]⟩)).setCell ⟨w.heap.size, 2, none⟩ (.int .i64 0)).setCell ⟨w.heap.size, 3, none⟩ (.slice none 0 0)).setCell ⟨w.heap.size, 4, none⟩ (.slice none 0 0)).setCell ⟨w.heap.size, 5, none⟩ (.slice (some ⟨w3.heap.size, 0, none⟩) 2 2)) := ⟨_, rfl⟩
  have hs : V.heap.size = w3.heap.size := by rw [hV]; simp [World.setCell]
  unfold laidTwo
  rw [← hV] at e1 e2 e3 ⊢
  have hba : Below V.heap.size V (V.alloc (.cells (rtCellsL [x, y] [p, q]).toArray TTm)) := (Below.refl _ _).alloc (Nat.le_refl _) _
  have hg := heap_alloc_new V (.cells (rtCellsL [x, y] [p, q]).toArray TTm)
  rw [hs] at hg
  have kx : OwnT V (w.heap.size + 1) x p := hx.kept fun b hb' => e2 b (by have := (hx.blk b hb').1; omega)
  have ky : OwnT V (w.heap.size + 1) y q := hy.kept fun b hb' => e2 b (by have := (hy.blk b hb').1; omega)
  obtain ⟨o1, o2⟩ := own_two k (kx.on hba) (ky.on hba) (Nat.succ_le_of_lt hlz) hg hn (fun b hb' => by have := (hx.blk b hb').2; omega) (fun b hb' => by have := (hy.blk b hb').2; omega)
  exact ⟨(hba.block _ (heap_lt e1)).trans e1, _, rfl, o1.mono (Nat.le_succ _), o2, e3.alloc e3.size _⟩
set_option maxRecDepth 100000 in
set_option maxHeartbeats 16000000 in
theorem bondL_any (n v : Tm) (b1 o1 b2 o2 : Nat) (w : World) (hp : PtrAt w b1 o1 n) (hq : PtrAt w b2 o2 v) (hwf : WfT n) (hg : greatT n = false) (hlit : scalarB n = true → n.at_.length = 1) :
    Calls Tryz.prog 83 #[.pointer (some ⟨b1, o1, none⟩), .pointer (some ⟨b2, o2, none⟩)] w (TbPost (bondLT n v).1 (bondLT n v).2 w) := by
  obtain ⟨W1, hW1⟩ : ∃ W1, W1 = w.alloc (.cells tm0 TTm) := ⟨_, rfl⟩
  have hb1 : Below w.heap.size w W1 := by rw [hW1]; exact (Below.refl _ _).alloc (Nat.le_refl _) _
  have hc1 : W1.heap[w.heap.size]? = some (.cells tm0 TTm (0, 0)) := by rw [hW1]; exact heap_alloc_new w _
  have HX := Lib.hid (And.intro hb1 (And.intro hc1 (And.intro (hp.on hb1) (hq.on hb1))))
  have HN := Lib.hid (And.intro hwf (And.intro hg hlit))
  have HW1 := Lib.hid hW1
  have HS : Hid (W1.heap.size = w.heap.size + 1) := Lib.hid (by rw [hW1]; simp)
  clear hp hq hwf hg hlit hb1 hc1 hW1
  cases hs : scalarB n with
  | false =>
    have HR : Hid (bondLT n v = (tNil, false)) := Lib.hid (by unfold bondLT; rw [if_pos (.inl hs)])
    have HSC := Lib.hid hs
    clear hs
    have z := HX.out.2.1
    go_enter Tryz.func83, Tryz.ntmps83
    go_wp2_with fail
    rw [← HW1.out]
    refine (scalar_any n b1 o1 W1 HX.out.2.2.1).mono ?_
    rintro e w' ⟨rfl, rfl⟩
    rw [HSC.out]
    have fz := unfrozen z
    have z0 := cell_at z (j := 0) rfl
    have z1 := cell_at z (j := 1) rfl
    have z2 := cell_at z (j := 2) rfl
    have z3 := cell_at z (j := 3) rfl
    have z4 := cell_at z (j := 4) rfl
    have z5 := cell_at z (j := 5) rfl
    clear z
    go_wp2_with fail
    obtain ⟨e1, e2, e3⟩ := six (.int .i64 0) (.string ⟨#[]⟩) (.int .i64 0) (.slice none 0 0) (.slice none 0 0) (.slice none 0 0) HX.out.2.1 HX.out.1 (Nat.le_refl _)
    rw [HR.out]
    exact bodyPost_ret (results_tm2 rfl rfl e1) rfl (tb_nil e3)
  | true =>
    have HSC := Lib.hid hs
    have HP := Lib.hid HX.out.2.2.1.cells
    obtain ⟨A', ca', B', cb', K', ck', hlt', r0, r1, r2, r3, r4, r5, hat'⟩ := HX.out.2.2.2.cells
    clear r2 r3 r4 r5 hat' hlt'
    by_cases hk : v.kind = 20
    · have d1 : (v.kind != 20) = false := by simp [hk]
      have ht : v.text.data.toList = [43] ∨ (¬ v.text.data.toList = [43] ∧ v.text.data.toList = [45]) ∨ (¬ v.text.data.toList = [43] ∧ ¬ v.text.data.toList = [45] ∧ v.text.data.toList = [42]) ∨ (¬ v.text.data.toList = [43] ∧ ¬ v.text.data.toList = [45] ∧ ¬ v.text.data.toList = [42]) := by
        by_cases h1 : v.text.data.toList = [43]
        · exact .inl h1
        by_cases h2 : v.text.data.toList = [45]
        · exact .inr (.inl ⟨h1, h2⟩)
        by_cases h3 : v.text.data.toList = [42]
        · exact .inr (.inr (.inl ⟨h1, h2, h3⟩))
        · exact .inr (.inr (.inr ⟨h1, h2, h3⟩))
      have HC : Hid (¬ (scalarB n = false ∨ v.kind ≠ 20)) := Lib.hid (by rw [hs]; simp [hk])
      have td : ∀ l : List UInt8, (v.text.toList == l) = (v.text.data.toList == l) := fun l => by rw [Lib.toList_data]
      rcases ht with h | ⟨h1, h⟩ | ⟨h1, h2, h⟩ | ⟨h1, h2, h3⟩
      · have HR : Hid (bondLT n v = (tOf 40 [tPrim ⟨#[45]⟩, n], true)) := Lib.hid (by unfold bondLT; rw [if_neg HC.out, if_pos h])
        have t1 : (v.text.toList == [43]) = true := by rw [td, h]; rfl
        clear td h hs hk
        obtain ⟨A, ca, B, cb, K, ck, hlt, n0, n1, n2, n3, n4, n5, hat⟩ := HP.out
        have HAT := Lib.hid hat
        have HC6 : Hid (∀ W, Below W1.heap.size W1 W → W.cell? ⟨b1, o1, none⟩ = some (.int .i64 n.kind) ∧ W.cell? ⟨b1, o1 + 1, none⟩ = some (.string n.text) ∧ W.cell? ⟨b1, o1 + 2, none⟩ = some (.int .i64 n.n) ∧ W.cell? ⟨b1, o1 + 3, none⟩ = some (.slice A n.sh.length ca) ∧ W.cell? ⟨b1, o1 + 4, none⟩ = some (.slice B n.at_.length cb) ∧ W.cell? ⟨b1, o1 + 5, none⟩ = some (.slice K n.kids.length ck)) := Lib.hid fun W h =>
          ⟨(h.cell (p := ⟨b1, o1, none⟩) hlt).trans n0, (h.cell (p := ⟨b1, o1 + 1, none⟩) hlt).trans n1, (h.cell (p := ⟨b1, o1 + 2, none⟩) hlt).trans n2, (h.cell (p := ⟨b1, o1 + 3, none⟩) hlt).trans n3, (h.cell (p := ⟨b1, o1 + 4, none⟩) hlt).trans n4, (h.cell (p := ⟨b1, o1 + 5, none⟩) hlt).trans n5⟩
        clear hat hlt
        go_enter Tryz.func83, Tryz.ntmps83
        go_wp2_with fail
        rw [← HW1.out]
        refine (scalar_any n b1 o1 W1 HX.out.2.2.1).mono ?_
        rintro e w' ⟨rfl, rfl⟩
        rw [HSC.out]
        go_wp2_with fail
        go_region_with (first
          | (go_at_call 82; refine (iprim_any _ _).mono ?_; rintro e w2 ⟨rfl, hb2⟩; have HB2 : Hid (Below W1.heap.size W1 w2) := Lib.hid (Below.trans (Below.refl _ _).drew (hb2.mono (Nat.le_refl _))); obtain ⟨p0, p1, p2, p3, p4, p5⟩ := HC6.out w2 HB2.out; clear hb2)
          | (go_at_call 86; refine (itwin_any n _ _ _ _ _ _ w2 (HAT.out.on HB2.out) HN.out.1 HN.out.2.1).mono ?_; rintro e w3 ⟨r, rfl, ho, hn, hb3⟩; have hz := (hb3.block _ (heap_lt ((HB2.out.block _ (heap_lt HX.out.2.1)).trans HX.out.2.1))).trans ((HB2.out.block _ (heap_lt HX.out.2.1)).trans HX.out.2.1); have fz := unfrozen hz; have z0 := cell_at hz (j := 0) rfl; have z1 := cell_at hz (j := 1) rfl; have z2 := cell_at hz (j := 2) rfl; have z3 := cell_at hz (j := 3) rfl; have z4 := cell_at hz (j := 4) rfl; have z5 := cell_at hz (j := 5) rfl; have hlz := heap_lt hz; have HO := Lib.hid (And.intro ho (And.intro hn (And.intro hb3 hz))); clear ho hn hb3 hz))
        all_goals
          simp only [Act.put, List.getElem_toArray, List.getElem_cons_succ, List.getElem_cons_zero]
          go_wp2_with fail
          obtain ⟨e1, e2⟩ := tb_two (w := w) (w3 := w3) (x := tPrim ⟨#[45]⟩) (y := n) (p := rt0) (q := r) 40 (own_prim _ _ _) (HO.out.1.mono (by have := HS.out; have := HB2.out.size; omega)) (by rw [blks0]; exact HO.out.2.1) HO.out.2.2.2 (HX.out.1.then_ (HB2.out.then_ HO.out.2.2.1)) true
          rw [HR.out]
          exact bodyPost_ret (results_tm2 (p := 4) (t := 5) rfl rfl e1) rfl e2
      · have HR : Hid (bondLT n v = (tOf 39 [n, tPrim ⟨#[45]⟩], true)) := Lib.hid (by unfold bondLT; rw [if_neg HC.out, if_neg h1, if_pos h])
        have t1 : (v.text.toList == [43]) = false := by rw [td, h]; rfl
        have t2 : (v.text.toList == [45]) = true := by rw [td, h]; rfl
        clear td h h1 hs hk
        obtain ⟨A, ca, B, cb, K, ck, hlt, n0, n1, n2, n3, n4, n5, hat⟩ := HP.out
        have HAT := Lib.hid hat
        have HC6 : Hid (∀ W, Below W1.heap.size W1 W → W.cell? ⟨b1, o1, none⟩ = some (.int .i64 n.kind) ∧ W.cell? ⟨b1, o1 + 1, none⟩ = some (.string n.text) ∧ W.cell? ⟨b1, o1 + 2, none⟩ = some (.int .i64 n.n) ∧ W.cell? ⟨b1, o1 + 3, none⟩ = some (.slice A n.sh.length ca) ∧ W.cell? ⟨b1, o1 + 4, none⟩ = some (.slice B n.at_.length cb) ∧ W.cell? ⟨b1, o1 + 5, none⟩ = some (.slice K n.kids.length ck)) := Lib.hid fun W h =>
          ⟨(h.cell (p := ⟨b1, o1, none⟩) hlt).trans n0, (h.cell (p := ⟨b1, o1 + 1, none⟩) hlt).trans n1, (h.cell (p := ⟨b1, o1 + 2, none⟩) hlt).trans n2, (h.cell (p := ⟨b1, o1 + 3, none⟩) hlt).trans n3, (h.cell (p := ⟨b1, o1 + 4, none⟩) hlt).trans n4, (h.cell (p := ⟨b1, o1 + 5, none⟩) hlt).trans n5⟩
        clear hat hlt
        go_enter Tryz.func83, Tryz.ntmps83
        go_wp2_with fail
        rw [← HW1.out]
        refine (scalar_any n b1 o1 W1 HX.out.2.2.1).mono ?_
        rintro e w' ⟨rfl, rfl⟩
        rw [HSC.out]
        go_wp2_with fail
        refine (itwin_any n _ _ _ _ _ _ W1 HAT.out HN.out.1 HN.out.2.1).mono ?_
        rintro e w2 ⟨r, rfl, ho, hn, hb2⟩
        have HO := Lib.hid (And.intro ho (And.intro hn hb2))
        clear ho hn hb2
        go_wp2_with fail
        refine (iprim_any _ _).mono ?_
        rintro e w3 ⟨rfl, hb3⟩
        have HB3 := Lib.hid hb3
        have hz := ((HO.out.2.2.then_ hb3).block _ (heap_lt HX.out.2.1)).trans HX.out.2.1
        have fz := unfrozen hz
        have z0 := cell_at hz (j := 0) rfl
        have z1 := cell_at hz (j := 1) rfl
        have z2 := cell_at hz (j := 2) rfl
        have z3 := cell_at hz (j := 3) rfl
        have z4 := cell_at hz (j := 4) rfl
        have z5 := cell_at hz (j := 5) rfl
        have hlz := heap_lt hz
        have HZ := Lib.hid hz
        clear hb3 hz
        go_wp2_with fail
        obtain ⟨e1, e2⟩ := tb_two (w := w) (w3 := w3) (x := n) (y := tPrim ⟨#[45]⟩) (p := r) (q := rt0) 39 ((HO.out.1.on HB3.out).mono (by have := HS.out; omega)) (own_prim _ _ _) (by rw [blks0, List.append_nil]; exact HO.out.2.1) HZ.out (HX.out.1.then_ (HO.out.2.2.then_ HB3.out)) true
        rw [HR.out]
        exact bodyPost_ret (results_tm2 (p := 4) (t := 5) rfl rfl e1) rfl e2
      · obtain ⟨x, hx⟩ : ∃ x, n.at_ = [x] := by
          have := HN.out.2.2 hs
          match n.at_, this with
          | [x], _ => exact ⟨x, rfl⟩
        have hpos : 0 < n.at_.length := by rw [hx]; exact Nat.zero_lt_one
        have t1 : (v.text.toList == [43]) = false := by rw [td, h]; rfl
        have t2 : (v.text.toList == [45]) = false := by rw [td, h]; rfl
        have t3 : (v.text.toList == [42]) = true := by rw [td, h]; rfl
        by_cases hx0 : x = 0
        · have HR : Hid (bondLT n v = (tNil, false)) := Lib.hid (by unfold bondLT; rw [if_neg HC.out, if_neg h1, if_neg h2, if_neg (by rintro ⟨_, h'⟩; exact h' (by rw [hx]; exact hx0))])
          have x1 : (x != 0) = false := by simp [hx0]
          obtain ⟨A, ca, B, cb, K, ck, hlt, n0, n1, n2, n3, n4, n5, hat⟩ := HP.out
          obtain ⟨b3, o3, hB, l3, c3⟩ := hat.at_ 0 x (by rw [hx]; rfl)
          subst hB
          rw [Nat.add_zero] at c3
          clear td h h1 h2 hs hk hat hlt n0 n1 n2 n3 n5 hx hx0
          have z := HX.out.2.1
          go_enter Tryz.func83, Tryz.ntmps83
          go_wp2_with fail
          rw [← HW1.out]
          refine (scalar_any n b1 o1 W1 HX.out.2.2.1).mono ?_
          rintro e w' ⟨rfl, rfl⟩
          rw [HSC.out]
          have fz := unfrozen z
          have z0 := cell_at z (j := 0) rfl
          have z1 := cell_at z (j := 1) rfl
          have z2 := cell_at z (j := 2) rfl
          have z3 := cell_at z (j := 3) rfl
          have z4 := cell_at z (j := 4) rfl
          have z5 := cell_at z (j := 5) rfl
          clear z
          go_wp2_with fail
          obtain ⟨e1, e2, e3⟩ := six (.int .i64 0) (.string ⟨#[]⟩) (.int .i64 0) (.slice none 0 0) (.slice none 0 0) (.slice none 0 0) HX.out.2.1 HX.out.1 (Nat.le_refl _)
          rw [HR.out]
          exact bodyPost_ret (results_tm2 rfl rfl e1) rfl (tb_nil e3)
        · have HR : Hid (bondLT n v = (tOf 40 [tPrim ⟨#[37]⟩, n], true)) := Lib.hid (by unfold bondLT; rw [if_neg HC.out, if_neg h1, if_neg h2, if_pos ⟨h, by rw [hx]; exact hx0⟩])
          have x1 : (x != 0) = true := by simp [hx0]
          have HXX := Lib.hid hx
          clear td h h1 h2 hs hk hx hx0
          obtain ⟨A, ca, B, cb, K, ck, hlt, n0, n1, n2, n3, n4, n5, hat⟩ := HP.out
          have HAT := Lib.hid hat
          have HC6 : Hid (∀ W, Below W1.heap.size W1 W → W.cell? ⟨b1, o1, none⟩ = some (.int .i64 n.kind) ∧ W.cell? ⟨b1, o1 + 1, none⟩ = some (.string n.text) ∧ W.cell? ⟨b1, o1 + 2, none⟩ = some (.int .i64 n.n) ∧ W.cell? ⟨b1, o1 + 3, none⟩ = some (.slice A n.sh.length ca) ∧ W.cell? ⟨b1, o1 + 4, none⟩ = some (.slice B n.at_.length cb) ∧ W.cell? ⟨b1, o1 + 5, none⟩ = some (.slice K n.kids.length ck)) := Lib.hid fun W h =>
            ⟨(h.cell (p := ⟨b1, o1, none⟩) hlt).trans n0, (h.cell (p := ⟨b1, o1 + 1, none⟩) hlt).trans n1, (h.cell (p := ⟨b1, o1 + 2, none⟩) hlt).trans n2, (h.cell (p := ⟨b1, o1 + 3, none⟩) hlt).trans n3, (h.cell (p := ⟨b1, o1 + 4, none⟩) hlt).trans n4, (h.cell (p := ⟨b1, o1 + 5, none⟩) hlt).trans n5⟩
          obtain ⟨b3, o3, hB, l3, c3⟩ := hat.at_ 0 x (by rw [HXX.out]; rfl)
          subst hB
          rw [Nat.add_zero] at c3
          clear hat hlt
          go_enter Tryz.func83, Tryz.ntmps83
          go_wp2_with fail
          rw [← HW1.out]
          refine (scalar_any n b1 o1 W1 HX.out.2.2.1).mono ?_
          rintro e w' ⟨rfl, rfl⟩
          rw [HSC.out]
          go_wp2_with fail
          go_region_with (first
            | (go_at_call 82; refine (iprim_any _ _).mono ?_; rintro e w2 ⟨rfl, hb2⟩; have HB2 : Hid (Below W1.heap.size W1 w2) := Lib.hid (Below.trans (Below.refl _ _).drew (hb2.mono (Nat.le_refl _))); obtain ⟨p0, p1, p2, p3, p4, p5⟩ := HC6.out w2 HB2.out; clear hb2)
            | (go_at_call 86; refine (itwin_any n _ _ _ _ _ _ w2 (HAT.out.on HB2.out) HN.out.1 HN.out.2.1).mono ?_; rintro e w3 ⟨r, rfl, ho, hn, hb3⟩; have hz := (hb3.block _ (heap_lt ((HB2.out.block _ (heap_lt HX.out.2.1)).trans HX.out.2.1))).trans ((HB2.out.block _ (heap_lt HX.out.2.1)).trans HX.out.2.1); have fz := unfrozen hz; have z0 := cell_at hz (j := 0) rfl; have z1 := cell_at hz (j := 1) rfl; have z2 := cell_at hz (j := 2) rfl; have z3 := cell_at hz (j := 3) rfl; have z4 := cell_at hz (j := 4) rfl; have z5 := cell_at hz (j := 5) rfl; have hlz := heap_lt hz; have HO := Lib.hid (And.intro ho (And.intro hn (And.intro hb3 hz))); clear ho hn hb3 hz))
          all_goals
            simp only [Act.put, List.getElem_toArray, List.getElem_cons_succ, List.getElem_cons_zero]
            go_wp2_with fail
            obtain ⟨e1, e2⟩ := tb_two (w := w) (w3 := w3) (x := tPrim ⟨#[37]⟩) (y := n) (p := rt0) (q := r) 40 (own_prim _ _ _) (HO.out.1.mono (by have := HS.out; have := HB2.out.size; omega)) (by rw [blks0]; exact HO.out.2.1) HO.out.2.2.2 (HX.out.1.then_ (HB2.out.then_ HO.out.2.2.1)) true
            rw [HR.out]
            exact bodyPost_ret (results_tm2 (p := 4) (t := 5) rfl rfl e1) rfl e2
      · have HR : Hid (bondLT n v = (tNil, false)) := Lib.hid (by unfold bondLT; rw [if_neg HC.out, if_neg h1, if_neg h2, if_neg (fun h' => h3 h'.1)])
        have t1 : (v.text.toList == [43]) = false := by rw [td]; simp [h1]
        have t2 : (v.text.toList == [45]) = false := by rw [td]; simp [h2]
        have t3 : (v.text.toList == [42]) = false := by rw [td]; simp [h3]
        clear td h1 h2 h3 hs hk
        have z := HX.out.2.1
        go_enter Tryz.func83, Tryz.ntmps83
        go_wp2_with fail
        rw [← HW1.out]
        refine (scalar_any n b1 o1 W1 HX.out.2.2.1).mono ?_
        rintro e w' ⟨rfl, rfl⟩
        rw [HSC.out]
        have fz := unfrozen z
        have z0 := cell_at z (j := 0) rfl
        have z1 := cell_at z (j := 1) rfl
        have z2 := cell_at z (j := 2) rfl
        have z3 := cell_at z (j := 3) rfl
        have z4 := cell_at z (j := 4) rfl
        have z5 := cell_at z (j := 5) rfl
        clear z
        go_wp2_with fail
        obtain ⟨e1, e2, e3⟩ := six (.int .i64 0) (.string ⟨#[]⟩) (.int .i64 0) (.slice none 0 0) (.slice none 0 0) (.slice none 0 0) HX.out.2.1 HX.out.1 (Nat.le_refl _)
        rw [HR.out]
        exact bodyPost_ret (results_tm2 rfl rfl e1) rfl (tb_nil e3)
    · have HR : Hid (bondLT n v = (tNil, false)) := Lib.hid (by unfold bondLT; rw [if_pos (.inr hk)])
      have d1 : (v.kind != 20) = true := by simp [hk]
      clear hs hk
      have z := HX.out.2.1
      go_enter Tryz.func83, Tryz.ntmps83
      go_wp2_with fail
      rw [← HW1.out]
      refine (scalar_any n b1 o1 W1 HX.out.2.2.1).mono ?_
      rintro e w' ⟨rfl, rfl⟩
      rw [HSC.out]
      have fz := unfrozen z
      have z0 := cell_at z (j := 0) rfl
      have z1 := cell_at z (j := 1) rfl
      have z2 := cell_at z (j := 2) rfl
      have z3 := cell_at z (j := 3) rfl
      have z4 := cell_at z (j := 4) rfl
      have z5 := cell_at z (j := 5) rfl
      clear z
      go_wp2_with fail
      obtain ⟨e1, e2, e3⟩ := six (.int .i64 0) (.string ⟨#[]⟩) (.int .i64 0) (.slice none 0 0) (.slice none 0 0) (.slice none 0 0) HX.out.2.1 HX.out.1 (Nat.le_refl _)
      rw [HR.out]
      exact bodyPost_ret (results_tm2 rfl rfl e1) rfl (tb_nil e3)
set_option maxRecDepth 100000 in
set_option maxHeartbeats 16000000 in
theorem bondR_any (n v : Tm) (b1 o1 b2 o2 : Nat) (w : World) (hp : PtrAt w b1 o1 n) (hq : PtrAt w b2 o2 v) (hwf : WfT n) (hg : greatT n = false) (hlit : scalarB n = true → n.at_.length = 1) :
    Calls Tryz.prog 84 #[.pointer (some ⟨b2, o2, none⟩), .pointer (some ⟨b1, o1, none⟩)] w (TbPost (bondRT v n).1 (bondRT v n).2 w) := by
  obtain ⟨W1, hW1⟩ : ∃ W1, W1 = w.alloc (.cells tm0 TTm) := ⟨_, rfl⟩
  have hb1 : Below w.heap.size w W1 := by rw [hW1]; exact (Below.refl _ _).alloc (Nat.le_refl _) _
  have hc1 : W1.heap[w.heap.size]? = some (.cells tm0 TTm (0, 0)) := by rw [hW1]; exact heap_alloc_new w _
  have HX := Lib.hid (And.intro hb1 (And.intro hc1 (And.intro (hp.on hb1) (hq.on hb1))))
  have HN := Lib.hid (And.intro hwf (And.intro hg hlit))
  have HW1 := Lib.hid hW1
  have HS : Hid (W1.heap.size = w.heap.size + 1) := Lib.hid (by rw [hW1]; simp)
  clear hp hq hwf hg hlit hb1 hc1 hW1
  cases hs : scalarB n with
  | false =>
    have HR : Hid (bondRT v n = (tNil, false)) := Lib.hid (by unfold bondRT; rw [if_pos (.inl hs)])
    have HSC := Lib.hid hs
    clear hs
    have z := HX.out.2.1
    go_enter Tryz.func84, Tryz.ntmps84
    go_wp2_with fail
    rw [← HW1.out]
    refine (scalar_any n b1 o1 W1 HX.out.2.2.1).mono ?_
    rintro e w' ⟨rfl, rfl⟩
    rw [HSC.out]
    have fz := unfrozen z
    have z0 := cell_at z (j := 0) rfl
    have z1 := cell_at z (j := 1) rfl
    have z2 := cell_at z (j := 2) rfl
    have z3 := cell_at z (j := 3) rfl
    have z4 := cell_at z (j := 4) rfl
    have z5 := cell_at z (j := 5) rfl
    clear z
    go_wp2_with fail
    obtain ⟨e1, e2, e3⟩ := six (.int .i64 0) (.string ⟨#[]⟩) (.int .i64 0) (.slice none 0 0) (.slice none 0 0) (.slice none 0 0) HX.out.2.1 HX.out.1 (Nat.le_refl _)
    rw [HR.out]
    exact bodyPost_ret (results_tm2 rfl rfl e1) rfl (tb_nil e3)
  | true =>
    have HSC := Lib.hid hs
    have HP := Lib.hid HX.out.2.2.1.cells
    obtain ⟨A', ca', B', cb', K', ck', hlt', r0, r1, r2, r3, r4, r5, hat'⟩ := HX.out.2.2.2.cells
    clear r2 r3 r4 r5 hat' hlt'
    by_cases hk : v.kind = 20
    · have d1 : (v.kind != 20) = false := by simp [hk]
      have ht : v.text.data.toList = [43] ∨ (¬ v.text.data.toList = [43] ∧ v.text.data.toList = [45]) ∨ (¬ v.text.data.toList = [43] ∧ ¬ v.text.data.toList = [45] ∧ v.text.data.toList = [42]) ∨ (¬ v.text.data.toList = [43] ∧ ¬ v.text.data.toList = [45] ∧ ¬ v.text.data.toList = [42]) := by
        by_cases h1 : v.text.data.toList = [43]
        · exact .inl h1
        by_cases h2 : v.text.data.toList = [45]
        · exact .inr (.inl ⟨h1, h2⟩)
        by_cases h3 : v.text.data.toList = [42]
        · exact .inr (.inr (.inl ⟨h1, h2, h3⟩))
        · exact .inr (.inr (.inr ⟨h1, h2, h3⟩))
      have HC : Hid (¬ (scalarB n = false ∨ v.kind ≠ 20)) := Lib.hid (by rw [hs]; simp [hk])
      have td : ∀ l : List UInt8, (v.text.toList == l) = (v.text.data.toList == l) := fun l => by rw [Lib.toList_data]
      rcases ht with h | ⟨h1, h⟩ | ⟨h1, h2, h⟩ | ⟨h1, h2, h3⟩
      · have HR : Hid (bondRT v n = (tOf 40 [tPrim ⟨#[45]⟩, n], true)) := Lib.hid (by unfold bondRT; rw [if_neg HC.out, if_pos h])
        have t1 : (v.text.toList == [43]) = true := by rw [td, h]; rfl
        clear td h hs hk
        obtain ⟨A, ca, B, cb, K, ck, hlt, n0, n1, n2, n3, n4, n5, hat⟩ := HP.out
        have HAT := Lib.hid hat
        have HC6 : Hid (∀ W, Below W1.heap.size W1 W → W.cell? ⟨b1, o1, none⟩ = some (.int .i64 n.kind) ∧ W.cell? ⟨b1, o1 + 1, none⟩ = some (.string n.text) ∧ W.cell? ⟨b1, o1 + 2, none⟩ = some (.int .i64 n.n) ∧ W.cell? ⟨b1, o1 + 3, none⟩ = some (.slice A n.sh.length ca) ∧ W.cell? ⟨b1, o1 + 4, none⟩ = some (.slice B n.at_.length cb) ∧ W.cell? ⟨b1, o1 + 5, none⟩ = some (.slice K n.kids.length ck)) := Lib.hid fun W h =>
          ⟨(h.cell (p := ⟨b1, o1, none⟩) hlt).trans n0, (h.cell (p := ⟨b1, o1 + 1, none⟩) hlt).trans n1, (h.cell (p := ⟨b1, o1 + 2, none⟩) hlt).trans n2, (h.cell (p := ⟨b1, o1 + 3, none⟩) hlt).trans n3, (h.cell (p := ⟨b1, o1 + 4, none⟩) hlt).trans n4, (h.cell (p := ⟨b1, o1 + 5, none⟩) hlt).trans n5⟩
        clear hat hlt
        go_enter Tryz.func84, Tryz.ntmps84
        go_wp2_with fail
        rw [← HW1.out]
        refine (scalar_any n b1 o1 W1 HX.out.2.2.1).mono ?_
        rintro e w' ⟨rfl, rfl⟩
        rw [HSC.out]
        go_wp2_with fail
        go_region_with (first
          | (go_at_call 82; refine (iprim_any _ _).mono ?_; rintro e w2 ⟨rfl, hb2⟩; have HB2 : Hid (Below W1.heap.size W1 w2) := Lib.hid (Below.trans (Below.refl _ _).drew (hb2.mono (Nat.le_refl _))); obtain ⟨p0, p1, p2, p3, p4, p5⟩ := HC6.out w2 HB2.out; clear hb2)
          | (go_at_call 86; refine (itwin_any n _ _ _ _ _ _ w2 (HAT.out.on HB2.out) HN.out.1 HN.out.2.1).mono ?_; rintro e w3 ⟨r, rfl, ho, hn, hb3⟩; have hz := (hb3.block _ (heap_lt ((HB2.out.block _ (heap_lt HX.out.2.1)).trans HX.out.2.1))).trans ((HB2.out.block _ (heap_lt HX.out.2.1)).trans HX.out.2.1); have fz := unfrozen hz; have z0 := cell_at hz (j := 0) rfl; have z1 := cell_at hz (j := 1) rfl; have z2 := cell_at hz (j := 2) rfl; have z3 := cell_at hz (j := 3) rfl; have z4 := cell_at hz (j := 4) rfl; have z5 := cell_at hz (j := 5) rfl; have hlz := heap_lt hz; have HO := Lib.hid (And.intro ho (And.intro hn (And.intro hb3 hz))); clear ho hn hb3 hz))
        all_goals
          simp only [Act.put, List.getElem_toArray, List.getElem_cons_succ, List.getElem_cons_zero]
          go_wp2_with fail
          obtain ⟨e1, e2⟩ := tb_two (w := w) (w3 := w3) (x := tPrim ⟨#[45]⟩) (y := n) (p := rt0) (q := r) 40 (own_prim _ _ _) (HO.out.1.mono (by have := HS.out; have := HB2.out.size; omega)) (by rw [blks0]; exact HO.out.2.1) HO.out.2.2.2 (HX.out.1.then_ (HB2.out.then_ HO.out.2.2.1)) true
          rw [HR.out]
          exact bodyPost_ret (results_tm2 (p := 4) (t := 5) rfl rfl e1) rfl e2
      · have HR : Hid (bondRT v n = (tOf 40 [tPrim ⟨#[43]⟩, n], true)) := Lib.hid (by unfold bondRT; rw [if_neg HC.out, if_neg h1, if_pos h])
        have t1 : (v.text.toList == [43]) = false := by rw [td, h]; rfl
        have t2 : (v.text.toList == [45]) = true := by rw [td, h]; rfl
        clear td h h1 hs hk
        obtain ⟨A, ca, B, cb, K, ck, hlt, n0, n1, n2, n3, n4, n5, hat⟩ := HP.out
        have HAT := Lib.hid hat
        have HC6 : Hid (∀ W, Below W1.heap.size W1 W → W.cell? ⟨b1, o1, none⟩ = some (.int .i64 n.kind) ∧ W.cell? ⟨b1, o1 + 1, none⟩ = some (.string n.text) ∧ W.cell? ⟨b1, o1 + 2, none⟩ = some (.int .i64 n.n) ∧ W.cell? ⟨b1, o1 + 3, none⟩ = some (.slice A n.sh.length ca) ∧ W.cell? ⟨b1, o1 + 4, none⟩ = some (.slice B n.at_.length cb) ∧ W.cell? ⟨b1, o1 + 5, none⟩ = some (.slice K n.kids.length ck)) := Lib.hid fun W h =>
          ⟨(h.cell (p := ⟨b1, o1, none⟩) hlt).trans n0, (h.cell (p := ⟨b1, o1 + 1, none⟩) hlt).trans n1, (h.cell (p := ⟨b1, o1 + 2, none⟩) hlt).trans n2, (h.cell (p := ⟨b1, o1 + 3, none⟩) hlt).trans n3, (h.cell (p := ⟨b1, o1 + 4, none⟩) hlt).trans n4, (h.cell (p := ⟨b1, o1 + 5, none⟩) hlt).trans n5⟩
        clear hat hlt
        go_enter Tryz.func84, Tryz.ntmps84
        go_wp2_with fail
        rw [← HW1.out]
        refine (scalar_any n b1 o1 W1 HX.out.2.2.1).mono ?_
        rintro e w' ⟨rfl, rfl⟩
        rw [HSC.out]
        go_wp2_with fail
        go_region_with (first
          | (go_at_call 82; refine (iprim_any _ _).mono ?_; rintro e w2 ⟨rfl, hb2⟩; have HB2 : Hid (Below W1.heap.size W1 w2) := Lib.hid (Below.trans (Below.refl _ _).drew (hb2.mono (Nat.le_refl _))); obtain ⟨p0, p1, p2, p3, p4, p5⟩ := HC6.out w2 HB2.out; clear hb2)
          | (go_at_call 86; refine (itwin_any n _ _ _ _ _ _ w2 (HAT.out.on HB2.out) HN.out.1 HN.out.2.1).mono ?_; rintro e w3 ⟨r, rfl, ho, hn, hb3⟩; have hz := (hb3.block _ (heap_lt ((HB2.out.block _ (heap_lt HX.out.2.1)).trans HX.out.2.1))).trans ((HB2.out.block _ (heap_lt HX.out.2.1)).trans HX.out.2.1); have fz := unfrozen hz; have z0 := cell_at hz (j := 0) rfl; have z1 := cell_at hz (j := 1) rfl; have z2 := cell_at hz (j := 2) rfl; have z3 := cell_at hz (j := 3) rfl; have z4 := cell_at hz (j := 4) rfl; have z5 := cell_at hz (j := 5) rfl; have hlz := heap_lt hz; have HO := Lib.hid (And.intro ho (And.intro hn (And.intro hb3 hz))); clear ho hn hb3 hz))
        all_goals
          simp only [Act.put, List.getElem_toArray, List.getElem_cons_succ, List.getElem_cons_zero]
          go_wp2_with fail
          obtain ⟨e1, e2⟩ := tb_two (w := w) (w3 := w3) (x := tPrim ⟨#[43]⟩) (y := n) (p := rt0) (q := r) 40 (own_prim _ _ _) (HO.out.1.mono (by have := HS.out; have := HB2.out.size; omega)) (by rw [blks0]; exact HO.out.2.1) HO.out.2.2.2 (HX.out.1.then_ (HB2.out.then_ HO.out.2.2.1)) true
          rw [HR.out]
          exact bodyPost_ret (results_tm2 (p := 4) (t := 5) rfl rfl e1) rfl e2
      · obtain ⟨x, hx⟩ : ∃ x, n.at_ = [x] := by
          have := HN.out.2.2 hs
          match n.at_, this with
          | [x], _ => exact ⟨x, rfl⟩
        have hpos : 0 < n.at_.length := by rw [hx]; exact Nat.zero_lt_one
        have t1 : (v.text.toList == [43]) = false := by rw [td, h]; rfl
        have t2 : (v.text.toList == [45]) = false := by rw [td, h]; rfl
        have t3 : (v.text.toList == [42]) = true := by rw [td, h]; rfl
        by_cases hx0 : x = 0
        · have HR : Hid (bondRT v n = (tNil, false)) := Lib.hid (by unfold bondRT; rw [if_neg HC.out, if_neg h1, if_neg h2, if_neg (by rintro ⟨_, h'⟩; exact h' (by rw [hx]; exact hx0))])
          have x1 : (x != 0) = false := by simp [hx0]
          obtain ⟨A, ca, B, cb, K, ck, hlt, n0, n1, n2, n3, n4, n5, hat⟩ := HP.out
          obtain ⟨b3, o3, hB, l3, c3⟩ := hat.at_ 0 x (by rw [hx]; rfl)
          subst hB
          rw [Nat.add_zero] at c3
          clear td h h1 h2 hs hk hat hlt n0 n1 n2 n3 n5 hx hx0
          have z := HX.out.2.1
          go_enter Tryz.func84, Tryz.ntmps84
          go_wp2_with fail
          rw [← HW1.out]
          refine (scalar_any n b1 o1 W1 HX.out.2.2.1).mono ?_
          rintro e w' ⟨rfl, rfl⟩
          rw [HSC.out]
          have fz := unfrozen z
          have z0 := cell_at z (j := 0) rfl
          have z1 := cell_at z (j := 1) rfl
          have z2 := cell_at z (j := 2) rfl
          have z3 := cell_at z (j := 3) rfl
          have z4 := cell_at z (j := 4) rfl
          have z5 := cell_at z (j := 5) rfl
          clear z
          go_wp2_with fail
          obtain ⟨e1, e2, e3⟩ := six (.int .i64 0) (.string ⟨#[]⟩) (.int .i64 0) (.slice none 0 0) (.slice none 0 0) (.slice none 0 0) HX.out.2.1 HX.out.1 (Nat.le_refl _)
          rw [HR.out]
          exact bodyPost_ret (results_tm2 rfl rfl e1) rfl (tb_nil e3)
        · have HR : Hid (bondRT v n = (tOf 40 [tPrim ⟨#[37]⟩, n], true)) := Lib.hid (by unfold bondRT; rw [if_neg HC.out, if_neg h1, if_neg h2, if_pos ⟨h, by rw [hx]; exact hx0⟩])
          have x1 : (x != 0) = true := by simp [hx0]
          have HXX := Lib.hid hx
          clear td h h1 h2 hs hk hx hx0
          obtain ⟨A, ca, B, cb, K, ck, hlt, n0, n1, n2, n3, n4, n5, hat⟩ := HP.out
          have HAT := Lib.hid hat
          have HC6 : Hid (∀ W, Below W1.heap.size W1 W → W.cell? ⟨b1, o1, none⟩ = some (.int .i64 n.kind) ∧ W.cell? ⟨b1, o1 + 1, none⟩ = some (.string n.text) ∧ W.cell? ⟨b1, o1 + 2, none⟩ = some (.int .i64 n.n) ∧ W.cell? ⟨b1, o1 + 3, none⟩ = some (.slice A n.sh.length ca) ∧ W.cell? ⟨b1, o1 + 4, none⟩ = some (.slice B n.at_.length cb) ∧ W.cell? ⟨b1, o1 + 5, none⟩ = some (.slice K n.kids.length ck)) := Lib.hid fun W h =>
            ⟨(h.cell (p := ⟨b1, o1, none⟩) hlt).trans n0, (h.cell (p := ⟨b1, o1 + 1, none⟩) hlt).trans n1, (h.cell (p := ⟨b1, o1 + 2, none⟩) hlt).trans n2, (h.cell (p := ⟨b1, o1 + 3, none⟩) hlt).trans n3, (h.cell (p := ⟨b1, o1 + 4, none⟩) hlt).trans n4, (h.cell (p := ⟨b1, o1 + 5, none⟩) hlt).trans n5⟩
          obtain ⟨b3, o3, hB, l3, c3⟩ := hat.at_ 0 x (by rw [HXX.out]; rfl)
          subst hB
          rw [Nat.add_zero] at c3
          clear hat hlt
          go_enter Tryz.func84, Tryz.ntmps84
          go_wp2_with fail
          rw [← HW1.out]
          refine (scalar_any n b1 o1 W1 HX.out.2.2.1).mono ?_
          rintro e w' ⟨rfl, rfl⟩
          rw [HSC.out]
          go_wp2_with fail
          go_region_with (first
            | (go_at_call 82; refine (iprim_any _ _).mono ?_; rintro e w2 ⟨rfl, hb2⟩; have HB2 : Hid (Below W1.heap.size W1 w2) := Lib.hid (Below.trans (Below.refl _ _).drew (hb2.mono (Nat.le_refl _))); obtain ⟨p0, p1, p2, p3, p4, p5⟩ := HC6.out w2 HB2.out; clear hb2)
            | (go_at_call 86; refine (itwin_any n _ _ _ _ _ _ w2 (HAT.out.on HB2.out) HN.out.1 HN.out.2.1).mono ?_; rintro e w3 ⟨r, rfl, ho, hn, hb3⟩; have hz := (hb3.block _ (heap_lt ((HB2.out.block _ (heap_lt HX.out.2.1)).trans HX.out.2.1))).trans ((HB2.out.block _ (heap_lt HX.out.2.1)).trans HX.out.2.1); have fz := unfrozen hz; have z0 := cell_at hz (j := 0) rfl; have z1 := cell_at hz (j := 1) rfl; have z2 := cell_at hz (j := 2) rfl; have z3 := cell_at hz (j := 3) rfl; have z4 := cell_at hz (j := 4) rfl; have z5 := cell_at hz (j := 5) rfl; have hlz := heap_lt hz; have HO := Lib.hid (And.intro ho (And.intro hn (And.intro hb3 hz))); clear ho hn hb3 hz))
          all_goals
            simp only [Act.put, List.getElem_toArray, List.getElem_cons_succ, List.getElem_cons_zero]
            go_wp2_with fail
            obtain ⟨e1, e2⟩ := tb_two (w := w) (w3 := w3) (x := tPrim ⟨#[37]⟩) (y := n) (p := rt0) (q := r) 40 (own_prim _ _ _) (HO.out.1.mono (by have := HS.out; have := HB2.out.size; omega)) (by rw [blks0]; exact HO.out.2.1) HO.out.2.2.2 (HX.out.1.then_ (HB2.out.then_ HO.out.2.2.1)) true
            rw [HR.out]
            exact bodyPost_ret (results_tm2 (p := 4) (t := 5) rfl rfl e1) rfl e2
      · have HR : Hid (bondRT v n = (tNil, false)) := Lib.hid (by unfold bondRT; rw [if_neg HC.out, if_neg h1, if_neg h2, if_neg (fun h' => h3 h'.1)])
        have t1 : (v.text.toList == [43]) = false := by rw [td]; simp [h1]
        have t2 : (v.text.toList == [45]) = false := by rw [td]; simp [h2]
        have t3 : (v.text.toList == [42]) = false := by rw [td]; simp [h3]
        clear td h1 h2 h3 hs hk
        have z := HX.out.2.1
        go_enter Tryz.func84, Tryz.ntmps84
        go_wp2_with fail
        rw [← HW1.out]
        refine (scalar_any n b1 o1 W1 HX.out.2.2.1).mono ?_
        rintro e w' ⟨rfl, rfl⟩
        rw [HSC.out]
        have fz := unfrozen z
        have z0 := cell_at z (j := 0) rfl
        have z1 := cell_at z (j := 1) rfl
        have z2 := cell_at z (j := 2) rfl
        have z3 := cell_at z (j := 3) rfl
        have z4 := cell_at z (j := 4) rfl
        have z5 := cell_at z (j := 5) rfl
        clear z
        go_wp2_with fail
        obtain ⟨e1, e2, e3⟩ := six (.int .i64 0) (.string ⟨#[]⟩) (.int .i64 0) (.slice none 0 0) (.slice none 0 0) (.slice none 0 0) HX.out.2.1 HX.out.1 (Nat.le_refl _)
        rw [HR.out]
        exact bodyPost_ret (results_tm2 rfl rfl e1) rfl (tb_nil e3)
    · have HR : Hid (bondRT v n = (tNil, false)) := Lib.hid (by unfold bondRT; rw [if_pos (.inr hk)])
      have d1 : (v.kind != 20) = true := by simp [hk]
      clear hs hk
      have z := HX.out.2.1
      go_enter Tryz.func84, Tryz.ntmps84
      go_wp2_with fail
      rw [← HW1.out]
      refine (scalar_any n b1 o1 W1 HX.out.2.2.1).mono ?_
      rintro e w' ⟨rfl, rfl⟩
      rw [HSC.out]
      have fz := unfrozen z
      have z0 := cell_at z (j := 0) rfl
      have z1 := cell_at z (j := 1) rfl
      have z2 := cell_at z (j := 2) rfl
      have z3 := cell_at z (j := 3) rfl
      have z4 := cell_at z (j := 4) rfl
      have z5 := cell_at z (j := 5) rfl
      clear z
      go_wp2_with fail
      obtain ⟨e1, e2, e3⟩ := six (.int .i64 0) (.string ⟨#[]⟩) (.int .i64 0) (.slice none 0 0) (.slice none 0 0) (.slice none 0 0) HX.out.2.1 HX.out.1 (Nat.le_refl _)
      rw [HR.out]
      exact bodyPost_ret (results_tm2 rfl rfl e1) rfl (tb_nil e3)
end Go.Proofs.YtkdejffhdhcocaaGreat
