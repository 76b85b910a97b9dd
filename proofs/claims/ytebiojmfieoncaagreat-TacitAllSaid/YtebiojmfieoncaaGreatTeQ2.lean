/- abacusref24.made; tacit.plain; abacusref24: Plain, noun. Condition: sizes within reach. -/
import Derived.Test.YtebiojmfieoncaaGreatTeQ0
import Derived.Test.YtebiojmfieoncaaGreatTeD3
namespace Go.Proofs.YtebiojmfieoncaaGreat
open Go.RowKit

set_option maxRecDepth 100000 in
set_option maxHeartbeats 4000000 in
/-- a verb of a kind -/
theorem dmade_any (k : Int) (ks : List Tm) (b off n cp : Nat) (w : World) {lo hi : Nat} (hhi : hi ≤ w.heap.size) (hk : KidsAt (mask w lo hi) (some ⟨b, off, none⟩) ks 0) (hn : n = ks.length) (hb : n * 104 ≤ 140737488351232) (h0 : 0 < n) :
    Calls Tryz.prog 123 #[.int .i64 k, .slice (some ⟨b, off, none⟩) n cp] w fun e w' => ∃ g c, e = .returned (tmVal (tOf k ks) none 0 none 0 (some ⟨g, 0, none⟩) c) ∧ TmAt (mask w' lo hi) (tOf k ks) none none (some ⟨g, 0, none⟩) ∧ Below w.heap.size w w' := by
  obtain ⟨W1, hW1⟩ : ∃ W1, W1 = w.alloc (.cells tm0 TTm) := ⟨_, rfl⟩
  have hz1 : W1.heap[w.heap.size]? = some (.cells tm0 TTm (0, 0)) := by rw [hW1]; exact heap_alloc_new w _
  have hb1 : Below w.heap.size w W1 := by rw [hW1]; exact (Below.refl _ _).alloc (Nat.le_refl _) _
  obtain ⟨vs, v1, v2, v3, v4⟩ := kids_cells ks 0 hk
  obtain ⟨j0, hj, y0, y1, y2⟩ := info_parts info_tm
  have HNEW : Hid (∀ j u, vs[j]? = some u → W1.cell? ((⟨b, off, none⟩ : Addr).add j) = some u) := Lib.hid fun j u hu => by
    have e : (⟨b, off, none⟩ : Addr).add j = ⟨b, off + j, none⟩ := by unfold Addr.add; split <;> simp_all
    rw [e]
    have h1 := v3 j u hu
    rw [Nat.zero_mul, Nat.add_zero] at h1
    have h1 := (mask_cell h1).2
    exact (hb1.cell (p := ⟨b, off + j, none⟩) (World.block_lt_of_cell? w _ h1)).trans h1
  have HV := Lib.hid (And.intro v1 (And.intro v2 v4))
  have HW1 := Lib.hid hW1
  have H1 := Lib.hid (And.intro hz1 hb1)
  have HN := Lib.hid hn
  have HHI := Lib.hid hhi
  clear hW1 hz1 hb1 v1 v2 v3 v4 hk hn hhi
  go_enter Tryz.func123, Tryz.ntmps123
  go_upto_region 1 with fail
  rw [← HW1.out]
  go_wp2_with (at_builtin; refine wpList_append_lies _ rfl (.const (.slice none 0 0)) (.tmp 6) 22 rfl W1.heap.size TTm j0 (.agg tm0) 6 104 Tryz.underlying22 hj y0 y1 y2 rfl (by decide) (.slice none 0 0) 0 [] rfl (World.ownsRow_nil _ _ _ _) ⟨b, off, none⟩ n cp vs rfl (by rw [HV.out.1, HN.out]) HNEW.out HV.out.2.1 (by omega) (by unfold maxLen; omega) (by omega) (Nat.le_refl _) _ rfl ?_)
  intro g cap w3 hown hgr hor hlt
  have hb3 : Below W1.heap.size W1 w3 := (Below.refl _ _).grown hgr (Nat.le_refl _) (fun k hk => by cases hk)
  have HK3 : Hid (∀ j u, vs[j]? = some u → w3.cell? ⟨g, 0 + 0 * 6 + j, none⟩ = some u) := Lib.hid fun j u hu => by
    have h1 := hown.cells (g := g) rfl j u (by simpa using hu)
    have e : (⟨g, 0, none⟩ : Addr).add j = ⟨g, 0 + 0 * 6 + j, none⟩ := by unfold Addr.add; split <;> simp_all
    rwa [e] at h1
  have hz := (hb3.block _ (heap_lt H1.out.1)).trans H1.out.1
  have z0 := cell_at hz (j := 0) rfl
  have z1 := cell_at hz (j := 1) rfl
  have z2 := cell_at hz (j := 2) rfl
  have z3 := cell_at hz (j := 3) rfl
  have z4 := cell_at hz (j := 4) rfl
  have z5 := cell_at hz (j := 5) rfl
  have fz := unfrozen hz
  have H3 := Lib.hid (And.intro hz (H1.out.2.then_ hb3))
  have HG : Hid (W1.heap.size ≤ g ∧ g < w3.heap.size) := Lib.hid ⟨by rcases hor with h | h; cases h; omega, hlt⟩
  have HL1 : Hid (w.heap.size < W1.heap.size) := Lib.hid (heap_lt H1.out.1)
  clear hown hgr hor hlt hb3 hz
  go_wp2_with fail
  obtain ⟨e1, e2, e3⟩ := six (.int .i64 k) (.string ⟨#[]⟩) (.int .i64 0) (.slice none 0 0) (.slice none 0 0) (.slice (some ⟨g, 0, none⟩) n cap) H3.out.1 H3.out.2 (Nat.le_refl _)
  obtain ⟨W8, hW8⟩ : ∃ W8, W8 = ((((((w3.setCell ⟨w.heap.size, 0, none⟩ (.int .i64 k)).setCell ⟨w.heap.size, 1, none⟩ (.string ⟨#[]⟩)).setCell ⟨w.heap.size, 2, none⟩ (.int .i64 0)).setCell ⟨w.heap.size, 3, none⟩ (.slice none 0 0)).setCell ⟨w.heap.size, 4, none⟩ (.slice none 0 0)).setCell ⟨w.heap.size, 5, none⟩ (.slice (some ⟨g, 0, none⟩) n cap)) := ⟨_, rfl⟩
  rw [← hW8] at e1 e2 e3 ⊢
  have hs8 : W8.heap.size = w3.heap.size := by rw [hW8]; simp [World.setCell]
  clear hW8
  refine bodyPost_ret (results_tm1 (p := 4) rfl rfl e1) rfl ⟨g, cap, by rw [HN.out]; rfl, ⟨IntsAt.nil _ _, IntsAt.nil _ _, HV.out.2.2 (mask W8 lo hi) g 0 (mask_below lo hi e3) (by rw [mask_size]; have := HG.out.2; omega) fun j u hu => mask_cell' (by show ¬ (lo ≤ g ∧ g < hi); have h1 := HG.out.1; have h2 := HL1.out; have h3 := HHI.out; omega) ?_⟩, e3⟩
  exact (World.cell?_of_block (a := ⟨g, 0 + 0 * 6 + j, none⟩) (e2 g (by have h1 := HG.out.1; have h2 := HL1.out; omega))).trans (HK3.out j u hu)
theorem plain_ways {t : Tm} {b : Bool} (hg : goodT b t = true) : ¬ t.kind = 23 ∨ (∃ x, t.kind = 23 ∧ t.kids = [x] ∧ ¬ x.kids.length = 1) ∨ (∃ x y, t.kind = 23 ∧ t.kids = [x] ∧ x.kids = [y] ∧ ¬ y.kind = 10) ∨ ∃ x y z, t.kind = 23 ∧ t.kids = [x] ∧ x.kids = [y] ∧ y.kids = [z] ∧ y.kind = 10 ∧ nounT t = z ∧ plainT t = true := by
  by_cases h1 : t.kind = 23
  · obtain ⟨x, hx, _⟩ := one_kid hg (c := 98) (by rw [h1]; decide) (by omega) (by omega) (by omega)
    by_cases h2 : x.kids.length = 1
    · obtain ⟨y, hy⟩ := List.length_eq_one_iff.1 h2
      by_cases h3 : y.kind = 10
      · have hp : plainT t = true := by
          unfold plainT nth
          rw [hx]
          simp only [List.getD_cons_zero]
          rw [hy]
          simp [h1, h3]
        obtain ⟨x', y', z, e1, e2, e3, _, _, e4⟩ := plain_parts hg hp
        rw [hx] at e1
        injection e1 with e1
        subst e1
        rw [hy] at e2
        injection e2 with e2
        subst e2
        exact .inr (.inr (.inr ⟨x, y, z, h1, hx, hy, e3, h3, e4, hp⟩))
      · exact .inr (.inr (.inl ⟨x, y, h1, hx, hy, h3⟩))
    · exact .inr (.inl ⟨x, h1, hx, h2⟩)
  · exact .inl h1
theorem not_plain1 {t : Tm} (h : ¬ t.kind = 23) : plainT t = false := by unfold plainT; simp [h]
theorem not_plain2 {t x : Tm} (hx : t.kids = [x]) (h : ¬ x.kids.length = 1) : plainT t = false := by unfold plainT nth; rw [hx]; simp [h]
theorem not_plain3 {t x y : Tm} (hx : t.kids = [x]) (hy : x.kids = [y]) (h : ¬ y.kind = 10) : plainT t = false := by unfold plainT nth; rw [hx]; simp only [List.getD_cons_zero]; rw [hy]; simp [h]
set_option maxRecDepth 100000 in
set_option maxHeartbeats 8000000 in
theorem dPlain_any (t : Tm) (A : Option Addr) (ca : Nat) (B : Option Addr) (cb : Nat) (K : Option Addr) (ck : Nat) (b : Bool) (lo : Nat) (w : World) (hat : TmAt (mask w lo w.heap.size) t A B K) (hwf : WfT t) (hg : goodT b t = true) :
    Calls Tryz.prog 81 #[tmVal t A ca B cb K ck] w fun e w' => e = .returned (.bool (plainT t)) ∧ Below w.heap.size w w' := by
  obtain ⟨W1, hW1⟩ : ∃ W1, W1 = (w.alloc (.cells (tmCells t A ca B cb K ck) TTm)) := ⟨_, rfl⟩
  have hb1 : Below w.heap.size w W1 := by rw [hW1]; exact (Below.refl _ _).alloc (Nat.le_refl _) _
  have hx1 : W1.heap[w.heap.size]? = some (.cells (tmCells t A ca B cb K ck) TTm (0, 0)) := by rw [hW1]; exact heap_alloc_new w _
  have HW1 := Lib.hid hW1
  have HB1 := Lib.hid hb1
  have k0 : W1.cell? ⟨w.heap.size, 0, none⟩ = some (.int .i64 t.kind) := cell_at hx1 rfl
  have k1 : W1.cell? ⟨w.heap.size, 1, none⟩ = some (.string t.text) := cell_at hx1 rfl
  have k2 : W1.cell? ⟨w.heap.size, 2, none⟩ = some (.int .i64 t.n) := cell_at hx1 rfl
  have k3 : W1.cell? ⟨w.heap.size, 3, none⟩ = some (.slice A t.sh.length ca) := cell_at hx1 rfl
  have k4 : W1.cell? ⟨w.heap.size, 4, none⟩ = some (.slice B t.at_.length cb) := cell_at hx1 rfl
  have k5 : W1.cell? ⟨w.heap.size, 5, none⟩ = some (.slice K t.kids.length ck) := cell_at hx1 rfl
  have kl := heap_lt hx1
  rcases plain_ways hg with h1 | ⟨x, h1, hx, h2⟩ | ⟨x, y, h1, hx, hy, h3⟩ | ⟨x, y, z_, h1, hx, hy, hz_, h3, hnz, hp⟩
  · have d1 : (t.kind == 23) = false := beq_no h1
    have d1' : (t.kind != 23) = true := by simpa using h1
    have HP := Lib.hid (not_plain1 h1)
    clear h1
    clear hat hwf hb1 hx1 hW1 hg
    go_enter Tryz.func81, Tryz.ntmps81
    go_upto_region 1 with fail
    rw [← HW1.out]
    go_wp2_with fail
    go_ret
    exact ⟨by rw [HP.out]; rfl, HB1.out⟩
  · have d1 : (t.kind == 23) = true := by rw [h1]; rfl
    have d1' : (t.kind != 23) = false := by rw [h1]; rfl
    obtain ⟨gx, ox, hKx, px⟩ := hat.kids.get (i := 0) (t := x) (by rw [hx]; rfl)
    rw [Nat.zero_add, Nat.zero_mul, Nat.add_zero] at px
    obtain ⟨Ax, cax, Bx, cbx, Kx, ckx, xl, x0, x1, x2, x3, x4, x5, hatx⟩ := px.cellsM HB1.out
    have hk1 : t.kids.length = 1 := by rw [hx]; rfl
    rw [hk1, hKx] at k5
    have hxk : x.kids.length ≤ 140737488351232 := (hwf.node.each x (by rw [hx]; simp)).node.kids
    have d2 : ((x.kids.length : Int) == 1) = false := beq_no (by omega)
    have d2' : ((x.kids.length : Int) != 1) = true := by simp; omega
    have HP := Lib.hid (not_plain2 hx h2)
    clear h1 hx h2 hk1 px hatx hKx
    clear hat hwf hb1 hx1 hW1 hg
    go_enter Tryz.func81, Tryz.ntmps81
    go_upto_region 1 with fail
    rw [← HW1.out]
    go_wp2_with fail
    go_ret
    exact ⟨by rw [HP.out]; rfl, HB1.out⟩
  · have d1 : (t.kind == 23) = true := by rw [h1]; rfl
    have d1' : (t.kind != 23) = false := by rw [h1]; rfl
    obtain ⟨gx, ox, hKx, px⟩ := hat.kids.get (i := 0) (t := x) (by rw [hx]; rfl)
    rw [Nat.zero_add, Nat.zero_mul, Nat.add_zero] at px
    obtain ⟨Ax, cax, Bx, cbx, Kx, ckx, xl, x0, x1, x2, x3, x4, x5, hatx⟩ := px.cellsM HB1.out
    have hk1 : t.kids.length = 1 := by rw [hx]; rfl
    rw [hk1, hKx] at k5
    have hxk : x.kids.length ≤ 140737488351232 := (hwf.node.each x (by rw [hx]; simp)).node.kids
    obtain ⟨gy, oy, hKy, py⟩ := hatx.kids.get (i := 0) (t := y) (by rw [hy]; rfl)
    rw [Nat.zero_add, Nat.zero_mul, Nat.add_zero] at py
    obtain ⟨Ay, cay, By, cby, Ky, cky, yl, y0, y1, y2, y3, y4, y5, haty⟩ := py.cellsM HB1.out
    have hk2 : x.kids.length = 1 := by rw [hy]; rfl
    rw [hk2, hKy] at x5
    have d3 : (y.kind == 10) = false := beq_no h3
    have d3' : (y.kind != 10) = true := by simpa using h3
    have HP := Lib.hid (not_plain3 hx hy h3)
    clear h1 hx hy h3 hk1 hk2 px hatx hKx py haty hKy hxk
    clear hat hwf hb1 hx1 hW1 hg
    go_enter Tryz.func81, Tryz.ntmps81
    go_upto_region 1 with fail
    rw [← HW1.out]
    go_wp2_with fail
    go_ret
    exact ⟨by rw [HP.out]; rfl, HB1.out⟩
  · have d1 : (t.kind == 23) = true := by rw [h1]; rfl
    have d1' : (t.kind != 23) = false := by rw [h1]; rfl
    obtain ⟨gx, ox, hKx, px⟩ := hat.kids.get (i := 0) (t := x) (by rw [hx]; rfl)
    rw [Nat.zero_add, Nat.zero_mul, Nat.add_zero] at px
    obtain ⟨Ax, cax, Bx, cbx, Kx, ckx, xl, x0, x1, x2, x3, x4, x5, hatx⟩ := px.cellsM HB1.out
    have hk1 : t.kids.length = 1 := by rw [hx]; rfl
    rw [hk1, hKx] at k5
    have hxk : x.kids.length ≤ 140737488351232 := (hwf.node.each x (by rw [hx]; simp)).node.kids
    obtain ⟨gy, oy, hKy, py⟩ := hatx.kids.get (i := 0) (t := y) (by rw [hy]; rfl)
    rw [Nat.zero_add, Nat.zero_mul, Nat.add_zero] at py
    obtain ⟨Ay, cay, By, cby, Ky, cky, yl, y0, y1, y2, y3, y4, y5, haty⟩ := py.cellsM HB1.out
    have hk2 : x.kids.length = 1 := by rw [hy]; rfl
    rw [hk2, hKy] at x5
    obtain ⟨gz_, oz_, hKz_, pz_⟩ := haty.kids.get (i := 0) (t := z_) (by rw [hz_]; rfl)
    rw [Nat.zero_add, Nat.zero_mul, Nat.add_zero] at pz_
    obtain ⟨Az_, caz_, Bz_, cbz_, Kz_, ckz_, z_l, z_0, z_1, z_2, z_3, z_4, z_5, hatz_⟩ := pz_.cellsM HB1.out
    have hk3 : y.kids.length = 1 := by rw [hz_]; rfl
    rw [hk3, hKz_] at y5
    have d3 : (y.kind == 10) = true := by rw [h3]; rfl
    have d3' : (y.kind != 10) = false := by rw [h3]; rfl
    have HP := Lib.hid hp
    have HNZ := Lib.hid (And.intro hnz hatz_)
    clear h1 hx hy hz_ h3 hp hnz hk1 hk2 hk3 px hatx hKx py haty hKy pz_ hatz_ hKz_ hxk
    clear hat hwf hb1 hx1 hW1 hg
    go_enter Tryz.func81, Tryz.ntmps81
    go_upto_region 1 with fail
    rw [← HW1.out]
    go_wp2_with fail
    go_ret
    exact ⟨by rw [HP.out]; rfl, HB1.out⟩
set_option maxRecDepth 100000 in
set_option maxHeartbeats 8000000 in
theorem tplain_any (t : Tm) (A : Option Addr) (ca : Nat) (B : Option Addr) (cb : Nat) (K : Option Addr) (ck : Nat) (b : Bool) (lo : Nat) (w : World) (hat : TmAt (mask w lo w.heap.size) t A B K) (hwf : WfT t) (hg : goodT b t = true) :
    Calls Tryz.prog 78 #[tmVal t A ca B cb K ck] w fun e w' => (plainT t = false ∧ e = .returned (.tuple #[.agg tm0, .bool false]) ∧ Below w.heap.size w w') ∨ (plainT t = true ∧ ∃ (z : Tm) (A' : Option Addr) (ca' : Nat) (B' : Option Addr) (cb' : Nat) (K' : Option Addr) (ck' : Nat), z = nounT t ∧ e = .returned (.tuple #[tmVal z A' ca' B' cb' K' ck', .bool true]) ∧ TmAt (mask w lo w.heap.size) z A' B' K' ∧ Below w.heap.size w w') := by
  obtain ⟨W1, hW1⟩ : ∃ W1, W1 = (w.alloc (.cells (tmCells t A ca B cb K ck) TTm)).alloc (.cells tm0 TTm) := ⟨_, rfl⟩
  have hb1 : Below w.heap.size w W1 := by rw [hW1]; exact ((Below.refl _ _).alloc (Nat.le_refl _) _).alloc (by simp) _
  have hx1 : W1.heap[w.heap.size]? = some (.cells (tmCells t A ca B cb K ck) TTm (0, 0)) := by rw [hW1]; exact (Below.heap_alloc _ _ _ (by simp)).trans (heap_alloc_new w _)
  have hz1 : W1.heap[w.heap.size + 1]? = some (.cells #[.int .i64 0, .string ⟨#[]⟩, .int .i64 0, .slice none 0 0, .slice none 0 0, .slice none 0 0] TTm (0, 0)) := by rw [hW1]; exact heap_new2 _ _ _
  have HZ := Lib.hid (And.intro hz1 hb1)
  have z0 := cell_at hz1 (j := 0) rfl
  have z1 := cell_at hz1 (j := 1) rfl
  have z2 := cell_at hz1 (j := 2) rfl
  have z3 := cell_at hz1 (j := 3) rfl
  have z4 := cell_at hz1 (j := 4) rfl
  have z5 := cell_at hz1 (j := 5) rfl
  have fz := unfrozen hz1
  have lz := heap_lt hz1
  have HW1 := Lib.hid hW1
  have HB1 := Lib.hid hb1
  have k0 : W1.cell? ⟨w.heap.size, 0, none⟩ = some (.int .i64 t.kind) := cell_at hx1 rfl
  have k1 : W1.cell? ⟨w.heap.size, 1, none⟩ = some (.string t.text) := cell_at hx1 rfl
  have k2 : W1.cell? ⟨w.heap.size, 2, none⟩ = some (.int .i64 t.n) := cell_at hx1 rfl
  have k3 : W1.cell? ⟨w.heap.size, 3, none⟩ = some (.slice A t.sh.length ca) := cell_at hx1 rfl
  have k4 : W1.cell? ⟨w.heap.size, 4, none⟩ = some (.slice B t.at_.length cb) := cell_at hx1 rfl
  have k5 : W1.cell? ⟨w.heap.size, 5, none⟩ = some (.slice K t.kids.length ck) := cell_at hx1 rfl
  have kl := heap_lt hx1
  rcases plain_ways hg with h1 | ⟨x, h1, hx, h2⟩ | ⟨x, y, h1, hx, hy, h3⟩ | ⟨x, y, z_, h1, hx, hy, hz_, h3, hnz, hp⟩
  · have d1 : (t.kind == 23) = false := beq_no h1
    have d1' : (t.kind != 23) = true := by simpa using h1
    have HP := Lib.hid (not_plain1 h1)
    clear h1
    clear hat hwf hb1 hx1 hW1 hg hz1
    go_enter Tryz.func78, Tryz.ntmps78
    go_upto_region 1 with fail
    rw [← HW1.out]
    go_wp2_with fail
    obtain ⟨e1, _, e3⟩ := six (.int .i64 0) (.string ⟨#[]⟩) (.int .i64 0) (.slice none 0 0) (.slice none 0 0) (.slice none 0 0) HZ.out.1 HZ.out.2 (Nat.le_succ _)
    exact bodyPost_ret (results_tm2 (p := 2) (t := 3) rfl rfl e1) rfl (.inl ⟨HP.out, rfl, e3⟩)
  · have d1 : (t.kind == 23) = true := by rw [h1]; rfl
    have d1' : (t.kind != 23) = false := by rw [h1]; rfl
    obtain ⟨gx, ox, hKx, px⟩ := hat.kids.get (i := 0) (t := x) (by rw [hx]; rfl)
    rw [Nat.zero_add, Nat.zero_mul, Nat.add_zero] at px
    obtain ⟨Ax, cax, Bx, cbx, Kx, ckx, xl, x0, x1, x2, x3, x4, x5, hatx⟩ := px.cellsM HB1.out
    have hk1 : t.kids.length = 1 := by rw [hx]; rfl
    rw [hk1, hKx] at k5
    have hxk : x.kids.length ≤ 140737488351232 := (hwf.node.each x (by rw [hx]; simp)).node.kids
    have d2 : ((x.kids.length : Int) == 1) = false := beq_no (by omega)
    have d2' : ((x.kids.length : Int) != 1) = true := by simp; omega
    have HP := Lib.hid (not_plain2 hx h2)
    clear h1 hx h2 hk1 px hatx hKx
    clear hat hwf hb1 hx1 hW1 hg hz1
    go_enter Tryz.func78, Tryz.ntmps78
    go_upto_region 1 with fail
    rw [← HW1.out]
    go_wp2_with fail
    obtain ⟨e1, _, e3⟩ := six (.int .i64 0) (.string ⟨#[]⟩) (.int .i64 0) (.slice none 0 0) (.slice none 0 0) (.slice none 0 0) HZ.out.1 HZ.out.2 (Nat.le_succ _)
    exact bodyPost_ret (results_tm2 (p := 2) (t := 3) rfl rfl e1) rfl (.inl ⟨HP.out, rfl, e3⟩)
  · have d1 : (t.kind == 23) = true := by rw [h1]; rfl
    have d1' : (t.kind != 23) = false := by rw [h1]; rfl
    obtain ⟨gx, ox, hKx, px⟩ := hat.kids.get (i := 0) (t := x) (by rw [hx]; rfl)
    rw [Nat.zero_add, Nat.zero_mul, Nat.add_zero] at px
    obtain ⟨Ax, cax, Bx, cbx, Kx, ckx, xl, x0, x1, x2, x3, x4, x5, hatx⟩ := px.cellsM HB1.out
    have hk1 : t.kids.length = 1 := by rw [hx]; rfl
    rw [hk1, hKx] at k5
    have hxk : x.kids.length ≤ 140737488351232 := (hwf.node.each x (by rw [hx]; simp)).node.kids
    obtain ⟨gy, oy, hKy, py⟩ := hatx.kids.get (i := 0) (t := y) (by rw [hy]; rfl)
    rw [Nat.zero_add, Nat.zero_mul, Nat.add_zero] at py
    obtain ⟨Ay, cay, By, cby, Ky, cky, yl, y0, y1, y2, y3, y4, y5, haty⟩ := py.cellsM HB1.out
    have hk2 : x.kids.length = 1 := by rw [hy]; rfl
    rw [hk2, hKy] at x5
    have d3 : (y.kind == 10) = false := beq_no h3
    have d3' : (y.kind != 10) = true := by simpa using h3
    have HP := Lib.hid (not_plain3 hx hy h3)
    clear h1 hx hy h3 hk1 hk2 px hatx hKx py haty hKy hxk
    clear hat hwf hb1 hx1 hW1 hg hz1
    go_enter Tryz.func78, Tryz.ntmps78
    go_upto_region 1 with fail
    rw [← HW1.out]
    go_wp2_with fail
    obtain ⟨e1, _, e3⟩ := six (.int .i64 0) (.string ⟨#[]⟩) (.int .i64 0) (.slice none 0 0) (.slice none 0 0) (.slice none 0 0) HZ.out.1 HZ.out.2 (Nat.le_succ _)
    exact bodyPost_ret (results_tm2 (p := 2) (t := 3) rfl rfl e1) rfl (.inl ⟨HP.out, rfl, e3⟩)
  · have d1 : (t.kind == 23) = true := by rw [h1]; rfl
    have d1' : (t.kind != 23) = false := by rw [h1]; rfl
    obtain ⟨gx, ox, hKx, px⟩ := hat.kids.get (i := 0) (t := x) (by rw [hx]; rfl)
    rw [Nat.zero_add, Nat.zero_mul, Nat.add_zero] at px
    obtain ⟨Ax, cax, Bx, cbx, Kx, ckx, xl, x0, x1, x2, x3, x4, x5, hatx⟩ := px.cellsM HB1.out
    have hk1 : t.kids.length = 1 := by rw [hx]; rfl
    rw [hk1, hKx] at k5
    have hxk : x.kids.length ≤ 140737488351232 := (hwf.node.each x (by rw [hx]; simp)).node.kids
    obtain ⟨gy, oy, hKy, py⟩ := hatx.kids.get (i := 0) (t := y) (by rw [hy]; rfl)
    rw [Nat.zero_add, Nat.zero_mul, Nat.add_zero] at py
    obtain ⟨Ay, cay, By, cby, Ky, cky, yl, y0, y1, y2, y3, y4, y5, haty⟩ := py.cellsM HB1.out
    have hk2 : x.kids.length = 1 := by rw [hy]; rfl
    rw [hk2, hKy] at x5
    obtain ⟨gz_, oz_, hKz_, pz_⟩ := haty.kids.get (i := 0) (t := z_) (by rw [hz_]; rfl)
    rw [Nat.zero_add, Nat.zero_mul, Nat.add_zero] at pz_
    obtain ⟨Az_, caz_, Bz_, cbz_, Kz_, ckz_, z_l, z_0, z_1, z_2, z_3, z_4, z_5, hatz_⟩ := pz_.cellsM HB1.out
    have hk3 : y.kids.length = 1 := by rw [hz_]; rfl
    rw [hk3, hKz_] at y5
    have d3 : (y.kind == 10) = true := by rw [h3]; rfl
    have d3' : (y.kind != 10) = false := by rw [h3]; rfl
    have HP := Lib.hid hp
    have HNZ := Lib.hid (And.intro hnz hatz_)
    clear h1 hx hy hz_ h3 hp hnz hk1 hk2 hk3 px hatx hKx py haty hKy pz_ hatz_ hKz_ hxk
    clear hat hwf hb1 hx1 hW1 hg hz1
    go_enter Tryz.func78, Tryz.ntmps78
    go_upto_region 1 with fail
    rw [← HW1.out]
    go_wp2_with fail
    obtain ⟨e1, _, e3⟩ := six (.int .i64 z_.kind) (.string z_.text) (.int .i64 z_.n) (.slice Az_ z_.sh.length caz_) (.slice Bz_ z_.at_.length cbz_) (.slice Kz_ z_.kids.length ckz_) HZ.out.1 HZ.out.2 (Nat.le_succ _)
    refine bodyPost_ret (results_tm2 (p := 2) (t := 3) rfl rfl e1) rfl (.inr ⟨HP.out, z_, Az_, caz_, Bz_, cbz_, Kz_, ckz_, HNZ.out.1.symm, rfl, HNZ.out.2, e3⟩)
set_option maxRecDepth 100000 in
set_option maxHeartbeats 8000000 in
theorem dnoun_any (t : Tm) (A : Option Addr) (ca : Nat) (B : Option Addr) (cb : Nat) (K : Option Addr) (ck : Nat) (b : Bool) (lo : Nat) (w : World) (hat : TmAt (mask w lo w.heap.size) t A B K) (hwf : WfT t) (hg : goodT b t = true) (hpl : plainT t = true) :
    Calls Tryz.prog 83 #[tmVal t A ca B cb K ck] w fun e w' => ∃ (z : Tm) (A' : Option Addr) (ca' : Nat) (B' : Option Addr) (cb' : Nat) (K' : Option Addr) (ck' : Nat), z = nounT t ∧ e = .returned (tmVal z A' ca' B' cb' K' ck') ∧ TmAt (mask w lo w.heap.size) z A' B' K' ∧ Below w.heap.size w w' := by
  obtain ⟨W1, hW1⟩ : ∃ W1, W1 = (w.alloc (.cells (tmCells t A ca B cb K ck) TTm)).alloc (.cells tm0 TTm) := ⟨_, rfl⟩
  have hb1 : Below w.heap.size w W1 := by rw [hW1]; exact ((Below.refl _ _).alloc (Nat.le_refl _) _).alloc (by simp) _
  have hx1 : W1.heap[w.heap.size]? = some (.cells (tmCells t A ca B cb K ck) TTm (0, 0)) := by rw [hW1]; exact (Below.heap_alloc _ _ _ (by simp)).trans (heap_alloc_new w _)
  have hz1 : W1.heap[w.heap.size + 1]? = some (.cells #[.int .i64 0, .string ⟨#[]⟩, .int .i64 0, .slice none 0 0, .slice none 0 0, .slice none 0 0] TTm (0, 0)) := by rw [hW1]; exact heap_new2 _ _ _
  have HZ := Lib.hid (And.intro hz1 hb1)
  have z0 := cell_at hz1 (j := 0) rfl
  have z1 := cell_at hz1 (j := 1) rfl
  have z2 := cell_at hz1 (j := 2) rfl
  have z3 := cell_at hz1 (j := 3) rfl
  have z4 := cell_at hz1 (j := 4) rfl
  have z5 := cell_at hz1 (j := 5) rfl
  have fz := unfrozen hz1
  have lz := heap_lt hz1
  have HW1 := Lib.hid hW1
  have HB1 := Lib.hid hb1
  have k0 : W1.cell? ⟨w.heap.size, 0, none⟩ = some (.int .i64 t.kind) := cell_at hx1 rfl
  have k1 : W1.cell? ⟨w.heap.size, 1, none⟩ = some (.string t.text) := cell_at hx1 rfl
  have k2 : W1.cell? ⟨w.heap.size, 2, none⟩ = some (.int .i64 t.n) := cell_at hx1 rfl
  have k3 : W1.cell? ⟨w.heap.size, 3, none⟩ = some (.slice A t.sh.length ca) := cell_at hx1 rfl
  have k4 : W1.cell? ⟨w.heap.size, 4, none⟩ = some (.slice B t.at_.length cb) := cell_at hx1 rfl
  have k5 : W1.cell? ⟨w.heap.size, 5, none⟩ = some (.slice K t.kids.length ck) := cell_at hx1 rfl
  have kl := heap_lt hx1
  rcases plain_ways hg with h1 | ⟨x, h1, hx, h2⟩ | ⟨x, y, h1, hx, hy, h3⟩ | ⟨x, y, z_, h1, hx, hy, hz_, h3, hnz, hp⟩
  · exact absurd hpl (by rw [not_plain1 h1]; decide)
  · exact absurd hpl (by rw [not_plain2 hx h2]; decide)
  · exact absurd hpl (by rw [not_plain3 hx hy h3]; decide)
  · have d1 : (t.kind == 23) = true := by rw [h1]; rfl
    have d1' : (t.kind != 23) = false := by rw [h1]; rfl
    obtain ⟨gx, ox, hKx, px⟩ := hat.kids.get (i := 0) (t := x) (by rw [hx]; rfl)
    rw [Nat.zero_add, Nat.zero_mul, Nat.add_zero] at px
    obtain ⟨Ax, cax, Bx, cbx, Kx, ckx, xl, x0, x1, x2, x3, x4, x5, hatx⟩ := px.cellsM HB1.out
    have hk1 : t.kids.length = 1 := by rw [hx]; rfl
    rw [hk1, hKx] at k5
    have hxk : x.kids.length ≤ 140737488351232 := (hwf.node.each x (by rw [hx]; simp)).node.kids
    obtain ⟨gy, oy, hKy, py⟩ := hatx.kids.get (i := 0) (t := y) (by rw [hy]; rfl)
    rw [Nat.zero_add, Nat.zero_mul, Nat.add_zero] at py
    obtain ⟨Ay, cay, By, cby, Ky, cky, yl, y0, y1, y2, y3, y4, y5, haty⟩ := py.cellsM HB1.out
    have hk2 : x.kids.length = 1 := by rw [hy]; rfl
    rw [hk2, hKy] at x5
    obtain ⟨gz_, oz_, hKz_, pz_⟩ := haty.kids.get (i := 0) (t := z_) (by rw [hz_]; rfl)
    rw [Nat.zero_add, Nat.zero_mul, Nat.add_zero] at pz_
    obtain ⟨Az_, caz_, Bz_, cbz_, Kz_, ckz_, z_l, z_0, z_1, z_2, z_3, z_4, z_5, hatz_⟩ := pz_.cellsM HB1.out
    have hk3 : y.kids.length = 1 := by rw [hz_]; rfl
    rw [hk3, hKz_] at y5
    have d3 : (y.kind == 10) = true := by rw [h3]; rfl
    have d3' : (y.kind != 10) = false := by rw [h3]; rfl
    have HP := Lib.hid hp
    have HNZ := Lib.hid (And.intro hnz hatz_)
    clear hpl h1 hx hy hz_ h3 hp hnz hk1 hk2 hk3 px hatx hKx py haty hKy pz_ hatz_ hKz_ hxk
    clear hat hwf hb1 hx1 hW1 hg hz1
    go_enter Tryz.func83, Tryz.ntmps83
    go_upto_region 1 with fail
    rw [← HW1.out]
    go_wp2_with fail
    obtain ⟨e1, _, e3⟩ := six (.int .i64 z_.kind) (.string z_.text) (.int .i64 z_.n) (.slice Az_ z_.sh.length caz_) (.slice Bz_ z_.at_.length cbz_) (.slice Kz_ z_.kids.length ckz_) HZ.out.1 HZ.out.2 (Nat.le_succ _)
    exact bodyPost_ret (results_tm1 (p := 2) rfl rfl e1) rfl ⟨z_, Az_, caz_, Bz_, cbz_, Kz_, ckz_, HNZ.out.1.symm, rfl, HNZ.out.2, e3⟩
end Go.Proofs.YtebiojmfieoncaaGreat
