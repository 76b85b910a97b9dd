/- abacuslaw24: prim, def, begun. No condition. -/
import Derived.Test.YtebiojmfieoncaaGreatTeQm
import Derived.Test.YtebiojmfieoncaaGreatTeE4
namespace Go.Proofs.YtebiojmfieoncaaGreat
open Go.RowKit

set_option maxRecDepth 100000 in
set_option maxHeartbeats 4000000 in
theorem lprim_any (s : ByteArray) (w : World) : Calls Tryz.prog 77 #[.string s] w fun e w' => e = .returned (tmVal (primT s) none 0 none 0 none 0) ∧ Below w.heap.size w w' := by
  obtain ⟨W1, hW1⟩ : ∃ W1, W1 = w.alloc (.cells tm0 TTm) := ⟨_, rfl⟩
  have hb1 : Below w.heap.size w W1 := by rw [hW1]; exact (Below.refl _ _).alloc (Nat.le_refl _) _
  have hz : W1.heap[w.heap.size]? = some (.cells #[.int .i64 0, .string ⟨#[]⟩, .int .i64 0, .slice none 0 0, .slice none 0 0, .slice none 0 0] TTm (0, 0)) := by rw [hW1]; exact heap_alloc_new w _
  have HZ := Lib.hid (And.intro hz hb1)
  have HW1 := Lib.hid hW1
  have z0 := cell_at hz (j := 0) rfl
  have z1 := cell_at hz (j := 1) rfl
  have z2 := cell_at hz (j := 2) rfl
  have z3 := cell_at hz (j := 3) rfl
  have z4 := cell_at hz (j := 4) rfl
  have z5 := cell_at hz (j := 5) rfl
  have fz := unfrozen hz
  have lz := heap_lt hz
  clear hW1 hb1 hz
  go_enter Tryz.func77, Tryz.ntmps77
  go_upto_region 1 with fail
  rw [← HW1.out]
  go_wp2_with fail
  obtain ⟨e1, _, e3⟩ := six (.int .i64 20) (.string s) (.int .i64 0) (.slice none 0 0) (.slice none 0 0) (.slice none 0 0) HZ.out.1 HZ.out.2 (Nat.le_refl _)
  exact bodyPost_ret (results_tm1 (p := 2) rfl rfl e1) rfl ⟨rfl, e3⟩
/-- a plain definition -/
def defT (n : Int) (t : Tm) : Tm := .mk 23 ⟨#[]⟩ n [] [] [tOf 14 [tOf 10 [t]]]
theorem one_row {w : World} {lo hi : Nat} (hhi : hi ≤ w.heap.size) {t : Tm} {A : Option Addr} {ca : Nat} {B : Option Addr} {cb : Nat} {K : Option Addr} {ck : Nat} (h : TmAt (mask w lo hi) t A B K) : KidsAt (mask (w.alloc (.cells (tmCells t A ca B cb K ck) TTm)) lo hi) (some ⟨w.heap.size, 0, none⟩) [t] 0 :=
  row_new_m hhi [(t, A, ca, B, cb, K, ck)] (fun x hx => by
    simp only [List.mem_cons, List.not_mem_nil, or_false] at hx
    subst hx
    exact h) rfl
theorem of_at {w : World} {k : Int} {l : List Tm} {K : Option Addr} (h : KidsAt w K l 0) : TmAt w (tOf k l) none none K := ⟨IntsAt.nil _ _, IntsAt.nil _ _, h⟩
theorem bl_alloc (w : World) (o : Obj) : Below w.heap.size w (w.alloc o) := (Below.refl _ _).alloc (Nat.le_refl _) _
set_option maxRecDepth 100000 in
set_option maxHeartbeats 8000000 in
theorem def_any (n : Int) (t : Tm) (A : Option Addr) (ca : Nat) (B : Option Addr) (cb : Nat) (K : Option Addr) (ck : Nat) (w : World) (hat : TmAt w t A B K) :
    Calls Tryz.prog 76 #[.int .i64 n, tmVal t A ca B cb K ck] w fun e w' => (∃ g : Nat, e = .returned (tmVal (defT n t) none 0 none 0 (some ⟨g, 0, none⟩) 1) ∧ TmAt w' (defT n t) none none (some ⟨g, 0, none⟩)) ∧ Below w.heap.size w w' := by
  obtain ⟨W1, hW1⟩ : ∃ W1, W1 = (w.alloc (.cells (tmCells t A ca B cb K ck) TTm)).alloc (.cells tm0 TTm) := ⟨_, rfl⟩
  have hb1 : Below w.heap.size w W1 := by rw [hW1]; exact ((Below.refl _ _).alloc (Nat.le_refl _) _).alloc (by simp) _
  have hx1 : W1.heap[w.heap.size]? = some (.cells (tmCells t A ca B cb K ck) TTm (0, 0)) := by rw [hW1]; exact (Below.heap_alloc _ _ _ (by simp)).trans (heap_alloc_new w _)
  have hz1 : W1.heap[w.heap.size + 1]? = some (.cells #[.int .i64 0, .string ⟨#[]⟩, .int .i64 0, .slice none 0 0, .slice none 0 0, .slice none 0 0] TTm (0, 0)) := by rw [hW1]; exact heap_new2 _ _ _
  obtain ⟨W2, hW2⟩ : ∃ W2, W2 = W1.alloc (.cells (tmCells t A ca B cb K ck) TTm) := ⟨_, rfl⟩
  have hk2 : KidsAt (mask W2 w.heap.size W1.heap.size) (some ⟨W1.heap.size, 0, none⟩) [t] 0 := by rw [hW2]; exact one_row (Nat.le_refl _) (mask_old hat hb1)
  have hb2 : Below W1.heap.size W1 W2 := by rw [hW2]; exact bl_alloc _ _
  obtain ⟨W3, hW3⟩ : ∃ W3, W3 = W2.alloc (.cells #[.int .i64 10, .string ⟨#[]⟩, .int .i64 0, .slice none 0 0, .slice none 0 0, .slice (some ⟨W1.heap.size, 0, none⟩) 1 1] TTm) := ⟨_, rfl⟩
  have hx3 : W3.heap[W2.heap.size]? = some (.cells #[.int .i64 10, .string ⟨#[]⟩, .int .i64 0, .slice none 0 0, .slice none 0 0, .slice (some ⟨W1.heap.size, 0, none⟩) 1 1] TTm (0, 0)) := by rw [hW3]; exact heap_alloc_new _ _
  have hb3 : Below W2.heap.size W2 W3 := by rw [hW3]; exact bl_alloc _ _
  obtain ⟨W4, hW4⟩ : ∃ W4, W4 = W3.alloc (.cells #[.int .i64 10, .string ⟨#[]⟩, .int .i64 0, .slice none 0 0, .slice none 0 0, .slice (some ⟨W1.heap.size, 0, none⟩) 1 1] TTm) := ⟨_, rfl⟩
  have hk4 : KidsAt (mask W4 w.heap.size W1.heap.size) (some ⟨W3.heap.size, 0, none⟩) [tOf 10 [t]] 0 := by rw [hW4]; exact one_row (hb2.then_ hb3).size (t := tOf 10 [t]) (ca := 0) (cb := 0) (ck := 1) (of_at (hk2.mask_on hb3))
  have hb4 : Below W3.heap.size W3 W4 := by rw [hW4]; exact bl_alloc _ _
  obtain ⟨W5, hW5⟩ : ∃ W5, W5 = W4.alloc (.cells #[.int .i64 14, .string ⟨#[]⟩, .int .i64 0, .slice none 0 0, .slice none 0 0, .slice (some ⟨W3.heap.size, 0, none⟩) 1 1] TTm) := ⟨_, rfl⟩
  have hk5 : KidsAt (mask W5 w.heap.size W1.heap.size) (some ⟨W3.heap.size + 1, 0, none⟩) [tOf 14 [tOf 10 [t]]] 0 := by rw [show W3.heap.size + 1 = W4.heap.size by rw [hW4]; simp, hW5]; exact one_row (Nat.le_trans (hb2.then_ hb3).size hb4.size) (t := tOf 14 [tOf 10 [t]]) (ca := 0) (cb := 0) (ck := 1) (of_at hk4)
  have hb5 : Below W4.heap.size W4 W5 := by rw [hW5]; exact bl_alloc _ _
  have hb15 : Below W1.heap.size W1 W5 := hb2.then_ (hb3.then_ (hb4.then_ hb5))
  have hz5 := (hb15.block _ (heap_lt hz1)).trans hz1
  have H := Lib.hid (And.intro (hb1.then_ hb15) (And.intro hz5 (And.intro hk5 (And.intro (show w.heap.size + 1 < W1.heap.size by rw [hW1]; simp) (Nat.le_trans (hb2.then_ hb3).size hb4.size)))))
  have HW := Lib.hid (And.intro hW1 (And.intro hW2 (And.intro hW3 (And.intro hW4 hW5))))
  have k0 := cell_at hx1 (j := 0) rfl
  have k1 := cell_at hx1 (j := 1) rfl
  have k2 := cell_at hx1 (j := 2) rfl
  have k3 := cell_at hx1 (j := 3) rfl
  have k4 := cell_at hx1 (j := 4) rfl
  have k5 := cell_at hx1 (j := 5) rfl
  have kl := heap_lt hx1
  rw [show W2.heap.size = W1.heap.size + 1 by rw [hW2]; simp] at hx3
  have m0 := cell_at hx3 (j := 0) rfl
  have m1 := cell_at hx3 (j := 1) rfl
  have m2 := cell_at hx3 (j := 2) rfl
  have m3 := cell_at hx3 (j := 3) rfl
  have m4 := cell_at hx3 (j := 4) rfl
  have m5 := cell_at hx3 (j := 5) rfl
  have ml := heap_lt hx3
  rw [hW5, hW4] at hz5
  have hz := hz5
  have z0 := cell_at hz (j := 0) rfl
  have z1 := cell_at hz (j := 1) rfl
  have z2 := cell_at hz (j := 2) rfl
  have z3 := cell_at hz (j := 3) rfl
  have z4 := cell_at hz (j := 4) rfl
  have z5 := cell_at hz (j := 5) rfl
  have fz := unfrozen hz
  have lz := heap_lt hz
  clear hz
  clear hat hW1 hW2 hW3 hW4 hW5 hb1 hb2 hb3 hb4 hb5 hb15 hx1 hx3 hk2 hk4 hk5 hz1 hz5
  go_enter Tryz.func76, Tryz.ntmps76
  go_upto_region 1 with fail
  rw [← HW.out.1]
  go_upto_region 2 with fail
  rw [← HW.out.2.1, ← HW.out.2.2.1]
  clear k0 k1 k2 k3 k4 k5 kl
  go_wp2_with fail
  rw [← HW.out.2.2.2.1, ← HW.out.2.2.2.2]
  obtain ⟨e1, e2, e3⟩ := six (w := W5) (.int .i64 23) (.string ⟨#[]⟩) (.int .i64 n) (.slice none 0 0) (.slice none 0 0) (.slice (some ⟨W3.heap.size + 1, 0, none⟩) 1 1) H.out.2.1 H.out.1 (Nat.le_succ _)
  refine bodyPost_ret (results_tm1 (p := 4) rfl rfl e1) rfl ⟨⟨W3.heap.size + 1, rfl, ⟨IntsAt.nil _ _, IntsAt.nil _ _, ?_⟩⟩, e3⟩
  refine KidsAt.subs (fun a x hx => ?_) H.out.2.2.1
  obtain ⟨h1, h2⟩ := mask_cell hx
  rw [World.cell?_of_block (w := W5) (e2 a.block (by have := H.out.2.2.2.1; omega))]
  exact h2
/-- the definition that begun asks of -/
def dT : Tm := defT 2 (tOf 4 [primT ⟨#[45]⟩, tNameB ⟨#[120]⟩, tOf 3 [primT ⟨#[42]⟩, tNameB ⟨#[121]⟩]])
/-- its train -/
def wT : Tm := tOf 45 [primT ⟨#[91]⟩, primT ⟨#[45]⟩, tOf 46 [primT ⟨#[42]⟩, primT ⟨#[93]⟩]]
theorem dT_of : ofT dT = (wT, 0) := by kernel_rfl
theorem plus_of : ofT (primT ⟨#[43]⟩) = (tNil, 35) := by kernel_rfl
theorem prim1_wf (c : UInt8) : WfT (primT ⟨#[c]⟩) := primT_wf (by show 1 ≤ _; omega)
theorem nameB_wf (c : UInt8) : WfT (tNameB ⟨#[c]⟩) := by
  unfold tNameB
  simp only [WfT, WfL]
  exact ⟨by unfold In64; omega, by unfold In64; omega, fun x hx => absurd hx List.not_mem_nil, fun x hx => absurd hx List.not_mem_nil, by show 1 ≤ _; omega, by show 0 ≤ _; omega, by show 0 ≤ _; omega, by show 0 ≤ _; omega, trivial⟩
theorem dT_wf : WfT dT := by
  have h1 : WfT (tOf 3 [primT ⟨#[42]⟩, tNameB ⟨#[121]⟩]) := of_wf (by unfold In64; omega) (by show 2 * 104 ≤ _; omega) fun t ht => by
    simp only [List.mem_cons, List.not_mem_nil, or_false] at ht
    rcases ht with rfl | rfl
    · exact prim1_wf _
    · exact nameB_wf _
  have h2 : WfT (tOf 4 [primT ⟨#[45]⟩, tNameB ⟨#[120]⟩, tOf 3 [primT ⟨#[42]⟩, tNameB ⟨#[121]⟩]]) := of_wf (by unfold In64; omega) (by show 3 * 104 ≤ _; omega) fun t ht => by
    simp only [List.mem_cons, List.not_mem_nil, or_false] at ht
    rcases ht with rfl | rfl | rfl
    · exact prim1_wf _
    · exact nameB_wf _
    · exact h1
  have one : ∀ (k : Int) (x : Tm), In64 k → WfT x → WfT (tOf k [x]) := fun k x hk hx => of_wf hk (by show 1 * 104 ≤ _; omega) fun t ht => by
    simp only [List.mem_cons, List.not_mem_nil, or_false] at ht
    subst ht
    exact hx
  have h4 := one 14 _ (by unfold In64; omega) (one 10 _ (by unfold In64; omega) h2)
  unfold dT defT
  simp only [WfT, WfL]
  exact ⟨by unfold In64; omega, by unfold In64; omega, fun x hx => absurd hx List.not_mem_nil, fun x hx => absurd hx List.not_mem_nil, by show 0 ≤ _; omega, by show 0 ≤ _; omega, by show 0 ≤ _; omega, by show 1 * 104 ≤ _; omega, h4, trivial⟩
theorem wT_wf : WfT wT := by
  have two : ∀ (k : Int) (x y : Tm), In64 k → WfT x → WfT y → WfT (tOf k [x, y]) := fun k x y hk hx hy => of_wf hk (by show 2 * 104 ≤ _; omega) fun t ht => by
    simp only [List.mem_cons, List.not_mem_nil, or_false] at ht
    rcases ht with rfl | rfl
    · exact hx
    · exact hy
  unfold wT
  refine of_wf (by unfold In64; omega) (by show 3 * 104 ≤ _; omega) fun t ht => ?_
  simp only [List.mem_cons, List.not_mem_nil, or_false] at ht
  rcases ht with rfl | rfl | rfl
  · exact prim1_wf _
  · exact prim1_wf _
  · exact two _ _ _ (by unfold In64; omega) (prim1_wf _) (prim1_wf _)
theorem OfPost.get {t u : Tm} {er : Int} {w w' : World} {e : Ending} (h : OfPost t w e w') (ho : ofT t = (u, er)) : ∃ r : Rt, e = .returned (.tuple #[rtVal u r, .int .i64 er]) ∧ OwnT w' w.heap.size u r ∧ (blksT r).Nodup ∧ Below w.heap.size w w' := by
  unfold OfPost at h
  rw [ho] at h
  exact h
set_option maxRecDepth 100000 in
set_option maxHeartbeats 100000000 in
theorem b24_3 {w W0 : World} {u : Tm} (hof : ofT dT = (u, 0)) (fc : ∀ W, Below W0.heap.size W0 W → W.cell? ⟨w.heap.size, 0, none⟩ = some (.int .i64 2) ∧ W.cell? ⟨w.heap.size, 1, none⟩ = some (.string ⟨#[121]⟩) ∧ W.cell? ⟨w.heap.size, 2, none⟩ = some (.int .i64 0) ∧ W.cell? ⟨w.heap.size, 3, none⟩ = some (.slice none 0 0) ∧ W.cell? ⟨w.heap.size, 4, none⟩ = some (.slice none 0 0) ∧ W.cell? ⟨w.heap.size, 5, none⟩ = some (.slice none 0 0) ∧ W.cell? ⟨w.heap.size + 1, 0, none⟩ = some (.int .i64 2) ∧ W.cell? ⟨w.heap.size + 1, 1, none⟩ = some (.string ⟨#[120]⟩) ∧ W.cell? ⟨w.heap.size + 1, 2, none⟩ = some (.int .i64 0) ∧ W.cell? ⟨w.heap.size + 1, 3, none⟩ = some (.slice none 0 0) ∧ W.cell? ⟨w.heap.size + 1, 4, none⟩ = some (.slice none 0 0) ∧ W.cell? ⟨w.heap.size + 1, 5, none⟩ = some (.slice none 0 0) ∧ w.heap.size < W.heap.size ∧ w.heap.size + 1 < W.heap.size) {K' : Act → World → Prop} {Q' : Exit → Act → World → Prop} {s0 s3 s4 s5 s6 s7 s8 s9 s10 s11 s12 s13 s14 s15 s16 s17 s18 s19 s20 s21 s22 s23 s24 s25 s26 s27 s28 s29 s30 s31 s32 s33 s34 s35 s36 s37 s38 s39 s40 s41 s42 s43 s44 s45 s46 : Value}
    (hP : ∀ c (a : Act) d v w, Q' (.panic c) (a.put (some d) v) w → Q' (.panic c) a w)
    (hK : ∀ (r10 r11 r12 r13 r14 r15 r16 r17 r18 r19 r20 r21 r22 : Value) (g3 : Nat) (r : Rt) (B : Nat) (W' : World), Below W0.heap.size W0 W' → W'.heap[g3]? = some (.cells #[.int .i64 u.kind, .string u.text, .int .i64 u.n, .slice r.s.p r.s.n r.s.c, .slice r.a.p r.a.n r.a.c, .slice r.k.p r.k.n r.k.c] TTm (0, 0)) → OwnT W' B u r → K' { tmps := List.toArray (s0 :: (.pointer (some ⟨w.heap.size, 0, none⟩)) :: (.pointer (some ⟨w.heap.size + 1, 0, none⟩)) :: (.pointer (some ⟨g3, 0, none⟩)) :: (.int .i64 0) :: s5 :: s6 :: s7 :: s8 :: s9 :: r10 :: r11 :: r12 :: r13 :: r14 :: r15 :: r16 :: r17 :: r18 :: r19 :: r20 :: r21 :: r22 :: s23 :: s24 :: s25 :: s26 :: s27 :: s28 :: s29 :: s30 :: s31 :: s32 :: s33 :: s34 :: s35 :: s36 :: s37 :: s38 :: s39 :: s40 :: s41 :: s42 :: s43 :: s44 :: s45 :: s46 :: []), defers := [] } W') :
    Code.wp Tryz.prog (regOf Tryz.f34 3) (Exit.then K' Q') { tmps := List.toArray (s0 :: (.pointer (some ⟨w.heap.size, 0, none⟩)) :: (.pointer (some ⟨w.heap.size + 1, 0, none⟩)) :: s3 :: s4 :: s5 :: s6 :: s7 :: s8 :: s9 :: s10 :: s11 :: s12 :: s13 :: s14 :: s15 :: s16 :: s17 :: s18 :: s19 :: s20 :: s21 :: s22 :: s23 :: s24 :: s25 :: s26 :: s27 :: s28 :: s29 :: s30 :: s31 :: s32 :: s33 :: s34 :: s35 :: s36 :: s37 :: s38 :: s39 :: s40 :: s41 :: s42 :: s43 :: s44 :: s45 :: s46 :: []), defers := [] } W0 := by
  have HOF := Lib.hid hof
  have FC := Lib.hid fc
  have HK0 := Lib.hid hK
  have HP := Lib.hid hP
  clear hof fc hK hP
  conv => arg 2; whnf
  refine wp_region_held_drew (S := (fun W => Below W0.heap.size W0 W)) (by kernel_rfl) (Below.refl _ _).drew (fun hHeld => ?_)
  obtain ⟨X, hX⟩ : ∃ X, X = W0.drew := ⟨_, rfl⟩
  have HX : Hid (Below W0.heap.size W0 X) := Lib.hid (by rw [hX]; exact (Below.refl _ _).drew)
  rw [← hX] at hHeld ⊢
  clear hX
  refine take_still (i := 1) (d := some 12) (v := .agg #[.int .i64 2, .string ⟨#[120]⟩, .int .i64 0, .slice none 0 0, .slice none 0 0, .slice none 0 0]) rfl rfl (by kernel_rfl) (by kernel_rfl) (by kernel_rfl) (fun _ _ _ h => HP.out _ _ _ _ _ h) (Or.inl ⟨by rfl, ?_⟩) hHeld ?_
  · intro W hSw; obtain ⟨y0, y1, y2, y3, y4, y5, x0, x1, x2, x3, x4, x5, yl, xl⟩ := FC.out W hSw; go_simp; try with_reducible rfl
  try simp only [Act.put, List.setIfInBounds_toArray, List.set_cons_zero, List.set_cons_succ]
  refine take_still (i := 3) (d := some 14) (v := .agg #[.int .i64 2, .string ⟨#[121]⟩, .int .i64 0, .slice none 0 0, .slice none 0 0, .slice none 0 0]) rfl rfl (by kernel_rfl) (by kernel_rfl) (by kernel_rfl) (fun _ _ _ h => HP.out _ _ _ _ _ h) (Or.inl ⟨by rfl, ?_⟩) hHeld ?_
  · intro W hSw; obtain ⟨y0, y1, y2, y3, y4, y5, x0, x1, x2, x3, x4, x5, yl, xl⟩ := FC.out W hSw; go_simp; try with_reducible rfl
  try simp only [Act.put, List.setIfInBounds_toArray, List.set_cons_zero, List.set_cons_succ]
  refine wpAnyH_ready (rs := [0, 13]) (by kernel_rfl) (by simp) ?_
  refine AllReadyH.cons rfl (fun K hK => ?_) ?_
  · go_simp
    go_at_call 77
    refine (lprim_any ⟨#[45]⟩ X).mono ?_
    intro e P0 hh
    obtain ⟨he, hb⟩ := hh
    obtain rfl : e = .returned (.agg #[.int .i64 20, .string ⟨#[45]⟩, .int .i64 0, .slice none 0 0, .slice none 0 0, .slice none 0 0]) := he
    have HBP0 := Lib.hid (HX.out.then_ hb)
    clear hb
    refine hK.out _ _ HBP0.out (fun hHeld => ?_)
    clear hK K
    refine wpAnyH_ready (rs := [2, 13]) (by kernel_rfl) (by simp) ?_
    refine AllReadyH.cons rfl (fun K hK => ?_) ?_
    · go_simp
      go_at_call 77
      refine (lprim_any ⟨#[42]⟩ P0).mono ?_
      intro e P2 hh
      obtain ⟨he, hb⟩ := hh
      obtain rfl : e = .returned (.agg #[.int .i64 20, .string ⟨#[42]⟩, .int .i64 0, .slice none 0 0, .slice none 0 0, .slice none 0 0]) := he
      have HBP2 := Lib.hid (HBP0.out.then_ hb)
      clear hb
      refine hK.out _ _ HBP2.out (fun hHeld => ?_)
      clear hK K
      refine wpAnyH_ready (rs := [4, 13]) (by kernel_rfl) (by simp) ?_
      refine AllReadyH.cons rfl (fun K hK => ?_) ?_
      · go_simp
        obtain ⟨V4, hV⟩ : ∃ V, V = P2.alloc (.cells #[.int .i64 20, .string ⟨#[42]⟩, .int .i64 0, .slice none 0 0, .slice none 0 0, .slice none 0 0, .int .i64 2, .string ⟨#[121]⟩, .int .i64 0, .slice none 0 0, .slice none 0 0, .slice none 0 0] TTm) := ⟨_, rfl⟩
        obtain ⟨g4, hg⟩ : ∃ g, g = P2.heap.size := ⟨_, rfl⟩
        have HK4 : Hid (KidsAt V4 (some ⟨g4, 0, none⟩) [(primT ⟨#[42]⟩), (tNameB ⟨#[121]⟩)] 0) := Lib.hid (by
          rw [hV, hg]
          exact row_new_at (w := P2) [((primT ⟨#[42]⟩), none, 0, none, 0, none, 0), ((tNameB ⟨#[121]⟩), none, 0, none, 0, none, 0)] (fun x hx => by
            simp only [List.mem_cons, List.not_mem_nil, or_false] at hx
            rcases hx with rfl | rfl
            · exact ⟨IntsAt.nil _ _, IntsAt.nil _ _, KidsAt.nil _ _⟩
            · exact ⟨IntsAt.nil _ _, IntsAt.nil _ _, KidsAt.nil _ _⟩) rfl)
        have hb : Below P2.heap.size P2 V4 := by rw [hV]; exact bl_alloc _ _
        have HBV4 := Lib.hid (HBP2.out.then_ hb)
        rw [← hV, ← hg]
        clear hV hg hb
        refine hK.out _ _ HBV4.out (fun hHeld => ?_)
        clear hK K
        refine take_still (i := 5) (d := some 16) (v := .agg #[.int .i64 3, .string ⟨#[]⟩, .int .i64 0, .slice none 0 0, .slice none 0 0, .slice (some ⟨g4, 0, none⟩) 2 2]) rfl rfl (by kernel_rfl) (by kernel_rfl) (by kernel_rfl) (fun _ _ _ h => HP.out _ _ _ _ _ h) (Or.inl ⟨by rfl, ?_⟩) hHeld ?_
        · intro W hSw; go_simp; try with_reducible rfl
        try simp only [Act.put, List.setIfInBounds_toArray, List.set_cons_zero, List.set_cons_succ]
        refine wpAnyH_ready (rs := [6, 13]) (by kernel_rfl) (by simp) ?_
        refine AllReadyH.cons rfl (fun K hK => ?_) ?_
        · go_simp
          obtain ⟨V6, hV⟩ : ∃ V, V = V4.alloc (.cells #[.int .i64 20, .string ⟨#[45]⟩, .int .i64 0, .slice none 0 0, .slice none 0 0, .slice none 0 0, .int .i64 2, .string ⟨#[120]⟩, .int .i64 0, .slice none 0 0, .slice none 0 0, .slice none 0 0, .int .i64 3, .string ⟨#[]⟩, .int .i64 0, .slice none 0 0, .slice none 0 0, .slice (some ⟨g4, 0, none⟩) 2 2] TTm) := ⟨_, rfl⟩
          obtain ⟨g6, hg⟩ : ∃ g, g = V4.heap.size := ⟨_, rfl⟩
          have HK6 : Hid (KidsAt V6 (some ⟨g6, 0, none⟩) [(primT ⟨#[45]⟩), (tNameB ⟨#[120]⟩), (tOf 3 [(primT ⟨#[42]⟩), (tNameB ⟨#[121]⟩)])] 0) := Lib.hid (by
            rw [hV, hg]
            exact row_new_at (w := V4) [((primT ⟨#[45]⟩), none, 0, none, 0, none, 0), ((tNameB ⟨#[120]⟩), none, 0, none, 0, none, 0), ((tOf 3 [(primT ⟨#[42]⟩), (tNameB ⟨#[121]⟩)]), none, 0, none, 0, (some ⟨g4, 0, none⟩), 2)] (fun x hx => by
              simp only [List.mem_cons, List.not_mem_nil, or_false] at hx
              rcases hx with rfl | rfl | rfl
              · exact ⟨IntsAt.nil _ _, IntsAt.nil _ _, KidsAt.nil _ _⟩
              · exact ⟨IntsAt.nil _ _, IntsAt.nil _ _, KidsAt.nil _ _⟩
              · exact of_at HK4.out) rfl)
          have hb : Below V4.heap.size V4 V6 := by rw [hV]; exact bl_alloc _ _
          have HBV6 := Lib.hid (HBV4.out.then_ hb)
          have HK4 := Lib.hid (HK4.out.on hb)
          rw [← hV, ← hg]
          clear hV hg hb
          refine hK.out _ _ HBV6.out (fun hHeld => ?_)
          clear hK K
          refine take_still (i := 7) (d := some 18) (v := .agg #[.int .i64 4, .string ⟨#[]⟩, .int .i64 0, .slice none 0 0, .slice none 0 0, .slice (some ⟨g6, 0, none⟩) 3 3]) rfl rfl (by kernel_rfl) (by kernel_rfl) (by kernel_rfl) (fun _ _ _ h => HP.out _ _ _ _ _ h) (Or.inl ⟨by rfl, ?_⟩) hHeld ?_
          · intro W hSw; go_simp; try with_reducible rfl
          try simp only [Act.put, List.setIfInBounds_toArray, List.set_cons_zero, List.set_cons_succ]
          refine wpAnyH_ready (rs := [8, 13]) (by kernel_rfl) (by simp) ?_
          refine AllReadyH.cons rfl (fun K hK => ?_) ?_
          · go_simp
            go_at_call 76
            refine (def_any 2 (tOf 4 [(primT ⟨#[45]⟩), (tNameB ⟨#[120]⟩), (tOf 3 [(primT ⟨#[42]⟩), (tNameB ⟨#[121]⟩)])]) none 0 none 0 (some ⟨g6, 0, none⟩) 3 V6 (of_at HK6.out)).mono ?_
            intro e P8 hh
            obtain ⟨⟨gd, he, htd⟩, hb⟩ := hh
            obtain rfl : e = .returned (.agg #[.int .i64 23, .string ⟨#[]⟩, .int .i64 2, .slice none 0 0, .slice none 0 0, .slice (some ⟨gd, 0, none⟩) 1 1]) := he
            have HTD := Lib.hid htd
            have HBP8 := Lib.hid (HBV6.out.then_ hb)
            have HK4 := Lib.hid (HK4.out.on hb)
            have HK6 := Lib.hid (HK6.out.on hb)
            clear htd
            clear hb
            refine hK.out _ _ HBP8.out (fun hHeld => ?_)
            clear hK K
            refine wpAnyH_ready (rs := [9, 13]) (by kernel_rfl) (by simp) ?_
            refine AllReadyH.cons rfl (fun K hK => ?_) ?_
            · go_simp
              go_at_call 35
              refine (tof24_any dT none 0 none 0 (some ⟨gd, 0, none⟩) 1 P8 HTD.out dT_wf).mono ?_
              intro e P9 hof
              obtain ⟨r, rfl, ho, _, hb⟩ := hof.get HOF.out
              have HO := Lib.hid ho
              have HNE : Hid (True) := Lib.hid (trivial)
              have HBP9 := Lib.hid (HBP8.out.then_ hb)
              have HK4 := Lib.hid (HK4.out.on hb)
              have HK6 := Lib.hid (HK6.out.on hb)
              have HTD := Lib.hid (HTD.out.on hb)
              clear ho hof
              clear hb
              refine hK.out _ _ HBP9.out (fun hHeld => ?_)
              clear hK K
              refine take_still (i := 10) (d := some 10) (v := .tuple #[rtVal u r, .int .i64 0]) rfl rfl (by kernel_rfl) (by kernel_rfl) (by kernel_rfl) (fun _ _ _ h => HP.out _ _ _ _ _ h) (Or.inl ⟨by rfl, ?_⟩) hHeld ?_
              · intro W hSw; go_simp; try with_reducible rfl
              try simp only [Act.put, List.setIfInBounds_toArray, List.set_cons_zero, List.set_cons_succ]
              refine take_still (i := 11) (d := some 21) (v := rtVal u r) rfl rfl (by kernel_rfl) (by kernel_rfl) (by kernel_rfl) (fun _ _ _ h => HP.out _ _ _ _ _ h) (Or.inl ⟨by rfl, ?_⟩) hHeld ?_
              · intro W hSw; go_simp; try with_reducible rfl
              try simp only [Act.put, List.setIfInBounds_toArray, List.set_cons_zero, List.set_cons_succ]
              refine take_still (i := 12) (d := some 22) (v := .int .i64 0) rfl rfl (by kernel_rfl) (by kernel_rfl) (by kernel_rfl) (fun _ _ _ h => HP.out _ _ _ _ _ h) (Or.inl ⟨by rfl, ?_⟩) hHeld ?_
              · intro W hSw; go_simp; try with_reducible rfl
              try simp only [Act.put, List.setIfInBounds_toArray, List.set_cons_zero, List.set_cons_succ]
              refine wpAnyH_ready (rs := [13]) (by kernel_rfl) (by simp) ?_
              refine AllReadyH.cons rfl (fun K hK => ?_) ?_
              · go_simp
                obtain ⟨V13, hV⟩ : ∃ V, V = P9.alloc (.cells tm0 TTm) := ⟨_, rfl⟩
                obtain ⟨g3, hg3⟩ : ∃ g, g = P9.heap.size := ⟨_, rfl⟩
                have HG3 : Hid (W0.heap.size ≤ g3) := Lib.hid (by rw [hg3]; exact HBP9.out.size)
                have hb : Below P9.heap.size P9 V13 := by rw [hV]; exact bl_alloc _ _
                have HNE2 : Hid (∀ g ∈ blksT r, g ≠ g3) := Lib.hid fun g h => by have := (HO.out.blk g h).2; omega
                have HBV13 := Lib.hid (HBP9.out.then_ hb)
                have HK4 := Lib.hid (HK4.out.on hb)
                have HK6 := Lib.hid (HK6.out.on hb)
                have HTD := Lib.hid (HTD.out.on hb)
                have HO := Lib.hid (HO.out.on hb)
                have HG : Hid (V13.heap[g3]? = some (.cells #[.int .i64 0, .string ⟨#[]⟩, .int .i64 0, .slice none 0 0, .slice none 0 0, .slice none 0 0] TTm (0, 0))) := Lib.hid (by rw [hV, hg3]; exact heap_alloc_new _ _)
                rw [← hV, ← hg3]
                clear hV hg3 hb
                refine hK.out _ _ HBV13.out (fun hHeld => ?_)
                clear hK K
                refine wpAnyH_ready (rs := [14]) (by kernel_rfl) (by simp) ?_
                refine AllReadyH.cons rfl (fun K hK => ?_) ?_
                · have hz := HG.out
                  have z0 := cell_at hz (j := 0) rfl
                  have z1 := cell_at hz (j := 1) rfl
                  have z2 := cell_at hz (j := 2) rfl
                  have z3 := cell_at hz (j := 3) rfl
                  have z4 := cell_at hz (j := 4) rfl
                  have z5 := cell_at hz (j := 5) rfl
                  have fz := unfrozen hz
                  have lz := heap_lt hz
                  clear hz
                  obtain ⟨e1, e2, e3⟩ := six (.int .i64 u.kind) (.string u.text) (.int .i64 u.n) (.slice r.s.p r.s.n r.s.c) (.slice r.a.p r.a.n r.a.c) (.slice r.k.p r.k.n r.k.c) HG.out HBV13.out HG3.out
                  have HE1 := Lib.hid e1
                  have HE3 := Lib.hid e3
                  have HE2 := Lib.hid (HO.out.kept fun g h => e2 g (HNE2.out g h))
                  clear e1 e2 e3
                  go_simp
                  refine hK.out _ _ HE3.out (fun hHeld => ?_)
                  clear hK K z0 z1 z2 z3 z4 z5 fz lz
                  refine take_still (i := 15) (d := some 4) (v := .int .i64 0) rfl rfl (by kernel_rfl) (by kernel_rfl) (by kernel_rfl) (fun _ _ _ h => HP.out _ _ _ _ _ h) (Or.inl ⟨by rfl, ?_⟩) hHeld ?_
                  · intro W hSw; go_simp; try with_reducible rfl
                  try simp only [Act.put, List.setIfInBounds_toArray, List.set_cons_zero, List.set_cons_succ]
                  refine wpAnyH_done (by kernel_rfl) ?_ _
                  change K' _ _
                  exact HK0.out _ _ _ _ _ _ _ _ _ _ _ _ _ g3 r _ _ HE3.out HE1.out HE2.out
                exact AllReadyH.nil
              exact AllReadyH.nil
            refine AllReadyH.cons rfl (fun K hK => ?_) ?_
            · go_simp
              obtain ⟨V13, hV⟩ : ∃ V, V = P8.alloc (.cells tm0 TTm) := ⟨_, rfl⟩
              obtain ⟨g3, hg3⟩ : ∃ g, g = P8.heap.size := ⟨_, rfl⟩
              have HG3 : Hid (W0.heap.size ≤ g3) := Lib.hid (by rw [hg3]; exact HBP8.out.size)
              have hb : Below P8.heap.size P8 V13 := by rw [hV]; exact bl_alloc _ _
              skip
              have HBV13 := Lib.hid (HBP8.out.then_ hb)
              have HK4 := Lib.hid (HK4.out.on hb)
              have HK6 := Lib.hid (HK6.out.on hb)
              have HTD := Lib.hid (HTD.out.on hb)
              have HG : Hid (V13.heap[g3]? = some (.cells #[.int .i64 0, .string ⟨#[]⟩, .int .i64 0, .slice none 0 0, .slice none 0 0, .slice none 0 0] TTm (0, 0))) := Lib.hid (by rw [hV, hg3]; exact heap_alloc_new _ _)
              rw [← hV, ← hg3]
              clear hV hg3 hb
              refine hK.out _ _ HBV13.out (fun hHeld => ?_)
              clear hK K
              refine wpAnyH_ready (rs := [9]) (by kernel_rfl) (by simp) ?_
              refine AllReadyH.cons rfl (fun K hK => ?_) ?_
              · go_simp
                go_at_call 35
                refine (tof24_any dT none 0 none 0 (some ⟨gd, 0, none⟩) 1 V13 HTD.out dT_wf).mono ?_
                intro e P9 hof
                obtain ⟨r, rfl, ho, _, hb⟩ := hof.get HOF.out
                have HO := Lib.hid ho
                have HNE : Hid (g3 < V13.heap.size) := Lib.hid (heap_lt HG.out)
                have HBP9 := Lib.hid (HBV13.out.then_ hb)
                have HK4 := Lib.hid (HK4.out.on hb)
                have HK6 := Lib.hid (HK6.out.on hb)
                have HG := Lib.hid ((hb.block g3 (heap_lt HG.out)).trans HG.out)
                have HTD := Lib.hid (HTD.out.on hb)
                clear ho hof
                clear hb
                refine hK.out _ _ HBP9.out (fun hHeld => ?_)
                clear hK K
                refine take_still (i := 10) (d := some 10) (v := .tuple #[rtVal u r, .int .i64 0]) rfl rfl (by kernel_rfl) (by kernel_rfl) (by kernel_rfl) (fun _ _ _ h => HP.out _ _ _ _ _ h) (Or.inl ⟨by rfl, ?_⟩) hHeld ?_
                · intro W hSw; go_simp; try with_reducible rfl
                try simp only [Act.put, List.setIfInBounds_toArray, List.set_cons_zero, List.set_cons_succ]
                refine take_still (i := 11) (d := some 21) (v := rtVal u r) rfl rfl (by kernel_rfl) (by kernel_rfl) (by kernel_rfl) (fun _ _ _ h => HP.out _ _ _ _ _ h) (Or.inl ⟨by rfl, ?_⟩) hHeld ?_
                · intro W hSw; go_simp; try with_reducible rfl
                try simp only [Act.put, List.setIfInBounds_toArray, List.set_cons_zero, List.set_cons_succ]
                refine take_still (i := 12) (d := some 22) (v := .int .i64 0) rfl rfl (by kernel_rfl) (by kernel_rfl) (by kernel_rfl) (fun _ _ _ h => HP.out _ _ _ _ _ h) (Or.inl ⟨by rfl, ?_⟩) hHeld ?_
                · intro W hSw; go_simp; try with_reducible rfl
                try simp only [Act.put, List.setIfInBounds_toArray, List.set_cons_zero, List.set_cons_succ]
                refine wpAnyH_ready (rs := [14]) (by kernel_rfl) (by simp) ?_
                refine AllReadyH.cons rfl (fun K hK => ?_) ?_
                · have hz := HG.out
                  have z0 := cell_at hz (j := 0) rfl
                  have z1 := cell_at hz (j := 1) rfl
                  have z2 := cell_at hz (j := 2) rfl
                  have z3 := cell_at hz (j := 3) rfl
                  have z4 := cell_at hz (j := 4) rfl
                  have z5 := cell_at hz (j := 5) rfl
                  have fz := unfrozen hz
                  have lz := heap_lt hz
                  clear hz
                  obtain ⟨e1, e2, e3⟩ := six (.int .i64 u.kind) (.string u.text) (.int .i64 u.n) (.slice r.s.p r.s.n r.s.c) (.slice r.a.p r.a.n r.a.c) (.slice r.k.p r.k.n r.k.c) HG.out HBP9.out HG3.out
                  have HE1 := Lib.hid e1
                  have HE3 := Lib.hid e3
                  have HE2 := Lib.hid (HO.out.kept fun g h => e2 g (by have h1 := (HO.out.blk g h).1; have h2 := HNE.out; omega))
                  clear e1 e2 e3
                  go_simp
                  refine hK.out _ _ HE3.out (fun hHeld => ?_)
                  clear hK K z0 z1 z2 z3 z4 z5 fz lz
                  refine take_still (i := 15) (d := some 4) (v := .int .i64 0) rfl rfl (by kernel_rfl) (by kernel_rfl) (by kernel_rfl) (fun _ _ _ h => HP.out _ _ _ _ _ h) (Or.inl ⟨by rfl, ?_⟩) hHeld ?_
                  · intro W hSw; go_simp; try with_reducible rfl
                  try simp only [Act.put, List.setIfInBounds_toArray, List.set_cons_zero, List.set_cons_succ]
                  refine wpAnyH_done (by kernel_rfl) ?_ _
                  change K' _ _
                  exact HK0.out _ _ _ _ _ _ _ _ _ _ _ _ _ g3 r _ _ HE3.out HE1.out HE2.out
                exact AllReadyH.nil
              exact AllReadyH.nil
            exact AllReadyH.nil
          refine AllReadyH.cons rfl (fun K hK => ?_) ?_
          · go_simp
            obtain ⟨V13, hV⟩ : ∃ V, V = V6.alloc (.cells tm0 TTm) := ⟨_, rfl⟩
            obtain ⟨g3, hg3⟩ : ∃ g, g = V6.heap.size := ⟨_, rfl⟩
            have HG3 : Hid (W0.heap.size ≤ g3) := Lib.hid (by rw [hg3]; exact HBV6.out.size)
            have hb : Below V6.heap.size V6 V13 := by rw [hV]; exact bl_alloc _ _
            skip
            have HBV13 := Lib.hid (HBV6.out.then_ hb)
            have HK4 := Lib.hid (HK4.out.on hb)
            have HK6 := Lib.hid (HK6.out.on hb)
            have HG : Hid (V13.heap[g3]? = some (.cells #[.int .i64 0, .string ⟨#[]⟩, .int .i64 0, .slice none 0 0, .slice none 0 0, .slice none 0 0] TTm (0, 0))) := Lib.hid (by rw [hV, hg3]; exact heap_alloc_new _ _)
            rw [← hV, ← hg3]
            clear hV hg3 hb
            refine hK.out _ _ HBV13.out (fun hHeld => ?_)
            clear hK K
            refine wpAnyH_ready (rs := [8]) (by kernel_rfl) (by simp) ?_
            refine AllReadyH.cons rfl (fun K hK => ?_) ?_
            · go_simp
              go_at_call 76
              refine (def_any 2 (tOf 4 [(primT ⟨#[45]⟩), (tNameB ⟨#[120]⟩), (tOf 3 [(primT ⟨#[42]⟩), (tNameB ⟨#[121]⟩)])]) none 0 none 0 (some ⟨g6, 0, none⟩) 3 V13 (of_at HK6.out)).mono ?_
              intro e P8 hh
              obtain ⟨⟨gd, he, htd⟩, hb⟩ := hh
              obtain rfl : e = .returned (.agg #[.int .i64 23, .string ⟨#[]⟩, .int .i64 2, .slice none 0 0, .slice none 0 0, .slice (some ⟨gd, 0, none⟩) 1 1]) := he
              have HTD := Lib.hid htd
              have HBP8 := Lib.hid (HBV13.out.then_ hb)
              have HK4 := Lib.hid (HK4.out.on hb)
              have HK6 := Lib.hid (HK6.out.on hb)
              have HG := Lib.hid ((hb.block g3 (heap_lt HG.out)).trans HG.out)
              clear htd
              clear hb
              refine hK.out _ _ HBP8.out (fun hHeld => ?_)
              clear hK K
              refine wpAnyH_ready (rs := [9]) (by kernel_rfl) (by simp) ?_
              refine AllReadyH.cons rfl (fun K hK => ?_) ?_
              · go_simp
                go_at_call 35
                refine (tof24_any dT none 0 none 0 (some ⟨gd, 0, none⟩) 1 P8 HTD.out dT_wf).mono ?_
                intro e P9 hof
                obtain ⟨r, rfl, ho, _, hb⟩ := hof.get HOF.out
                have HO := Lib.hid ho
                have HNE : Hid (g3 < P8.heap.size) := Lib.hid (heap_lt HG.out)
                have HBP9 := Lib.hid (HBP8.out.then_ hb)
                have HK4 := Lib.hid (HK4.out.on hb)
                have HK6 := Lib.hid (HK6.out.on hb)
                have HG := Lib.hid ((hb.block g3 (heap_lt HG.out)).trans HG.out)
                have HTD := Lib.hid (HTD.out.on hb)
                clear ho hof
                clear hb
                refine hK.out _ _ HBP9.out (fun hHeld => ?_)
                clear hK K
                refine take_still (i := 10) (d := some 10) (v := .tuple #[rtVal u r, .int .i64 0]) rfl rfl (by kernel_rfl) (by kernel_rfl) (by kernel_rfl) (fun _ _ _ h => HP.out _ _ _ _ _ h) (Or.inl ⟨by rfl, ?_⟩) hHeld ?_
                · intro W hSw; go_simp; try with_reducible rfl
                try simp only [Act.put, List.setIfInBounds_toArray, List.set_cons_zero, List.set_cons_succ]
                refine take_still (i := 11) (d := some 21) (v := rtVal u r) rfl rfl (by kernel_rfl) (by kernel_rfl) (by kernel_rfl) (fun _ _ _ h => HP.out _ _ _ _ _ h) (Or.inl ⟨by rfl, ?_⟩) hHeld ?_
                · intro W hSw; go_simp; try with_reducible rfl
                try simp only [Act.put, List.setIfInBounds_toArray, List.set_cons_zero, List.set_cons_succ]
                refine take_still (i := 12) (d := some 22) (v := .int .i64 0) rfl rfl (by kernel_rfl) (by kernel_rfl) (by kernel_rfl) (fun _ _ _ h => HP.out _ _ _ _ _ h) (Or.inl ⟨by rfl, ?_⟩) hHeld ?_
                · intro W hSw; go_simp; try with_reducible rfl
                try simp only [Act.put, List.setIfInBounds_toArray, List.set_cons_zero, List.set_cons_succ]
                refine wpAnyH_ready (rs := [14]) (by kernel_rfl) (by simp) ?_
                refine AllReadyH.cons rfl (fun K hK => ?_) ?_
                · have hz := HG.out
                  have z0 := cell_at hz (j := 0) rfl
                  have z1 := cell_at hz (j := 1) rfl
                  have z2 := cell_at hz (j := 2) rfl
                  have z3 := cell_at hz (j := 3) rfl
                  have z4 := cell_at hz (j := 4) rfl
                  have z5 := cell_at hz (j := 5) rfl
                  have fz := unfrozen hz
                  have lz := heap_lt hz
                  clear hz
                  obtain ⟨e1, e2, e3⟩ := six (.int .i64 u.kind) (.string u.text) (.int .i64 u.n) (.slice r.s.p r.s.n r.s.c) (.slice r.a.p r.a.n r.a.c) (.slice r.k.p r.k.n r.k.c) HG.out HBP9.out HG3.out
                  have HE1 := Lib.hid e1
                  have HE3 := Lib.hid e3
                  have HE2 := Lib.hid (HO.out.kept fun g h => e2 g (by have h1 := (HO.out.blk g h).1; have h2 := HNE.out; omega))
                  clear e1 e2 e3
                  go_simp
                  refine hK.out _ _ HE3.out (fun hHeld => ?_)
                  clear hK K z0 z1 z2 z3 z4 z5 fz lz
                  refine take_still (i := 15) (d := some 4) (v := .int .i64 0) rfl rfl (by kernel_rfl) (by kernel_rfl) (by kernel_rfl) (fun _ _ _ h => HP.out _ _ _ _ _ h) (Or.inl ⟨by rfl, ?_⟩) hHeld ?_
                  · intro W hSw; go_simp; try with_reducible rfl
                  try simp only [Act.put, List.setIfInBounds_toArray, List.set_cons_zero, List.set_cons_succ]
                  refine wpAnyH_done (by kernel_rfl) ?_ _
                  change K' _ _
                  exact HK0.out _ _ _ _ _ _ _ _ _ _ _ _ _ g3 r _ _ HE3.out HE1.out HE2.out
                exact AllReadyH.nil
              exact AllReadyH.nil
            exact AllReadyH.nil
          exact AllReadyH.nil
        refine AllReadyH.cons rfl (fun K hK => ?_) ?_
        · go_simp
          obtain ⟨V13, hV⟩ : ∃ V, V = V4.alloc (.cells tm0 TTm) := ⟨_, rfl⟩
          obtain ⟨g3, hg3⟩ : ∃ g, g = V4.heap.size := ⟨_, rfl⟩
          have HG3 : Hid (W0.heap.size ≤ g3) := Lib.hid (by rw [hg3]; exact HBV4.out.size)
          have hb : Below V4.heap.size V4 V13 := by rw [hV]; exact bl_alloc _ _
          skip
          have HBV13 := Lib.hid (HBV4.out.then_ hb)
          have HK4 := Lib.hid (HK4.out.on hb)
          have HG : Hid (V13.heap[g3]? = some (.cells #[.int .i64 0, .string ⟨#[]⟩, .int .i64 0, .slice none 0 0, .slice none 0 0, .slice none 0 0] TTm (0, 0))) := Lib.hid (by rw [hV, hg3]; exact heap_alloc_new _ _)
          rw [← hV, ← hg3]
          clear hV hg3 hb
          refine hK.out _ _ HBV13.out (fun hHeld => ?_)
          clear hK K
          refine wpAnyH_ready (rs := [6]) (by kernel_rfl) (by simp) ?_
          refine AllReadyH.cons rfl (fun K hK => ?_) ?_
          · go_simp
            obtain ⟨V6, hV⟩ : ∃ V, V = V13.alloc (.cells #[.int .i64 20, .string ⟨#[45]⟩, .int .i64 0, .slice none 0 0, .slice none 0 0, .slice none 0 0, .int .i64 2, .string ⟨#[120]⟩, .int .i64 0, .slice none 0 0, .slice none 0 0, .slice none 0 0, .int .i64 3, .string ⟨#[]⟩, .int .i64 0, .slice none 0 0, .slice none 0 0, .slice (some ⟨g4, 0, none⟩) 2 2] TTm) := ⟨_, rfl⟩
            obtain ⟨g6, hg⟩ : ∃ g, g = V13.heap.size := ⟨_, rfl⟩
            have HK6 : Hid (KidsAt V6 (some ⟨g6, 0, none⟩) [(primT ⟨#[45]⟩), (tNameB ⟨#[120]⟩), (tOf 3 [(primT ⟨#[42]⟩), (tNameB ⟨#[121]⟩)])] 0) := Lib.hid (by
              rw [hV, hg]
              exact row_new_at (w := V13) [((primT ⟨#[45]⟩), none, 0, none, 0, none, 0), ((tNameB ⟨#[120]⟩), none, 0, none, 0, none, 0), ((tOf 3 [(primT ⟨#[42]⟩), (tNameB ⟨#[121]⟩)]), none, 0, none, 0, (some ⟨g4, 0, none⟩), 2)] (fun x hx => by
                simp only [List.mem_cons, List.not_mem_nil, or_false] at hx
                rcases hx with rfl | rfl | rfl
                · exact ⟨IntsAt.nil _ _, IntsAt.nil _ _, KidsAt.nil _ _⟩
                · exact ⟨IntsAt.nil _ _, IntsAt.nil _ _, KidsAt.nil _ _⟩
                · exact of_at HK4.out) rfl)
            have hb : Below V13.heap.size V13 V6 := by rw [hV]; exact bl_alloc _ _
            have HBV6 := Lib.hid (HBV13.out.then_ hb)
            have HK4 := Lib.hid (HK4.out.on hb)
            have HG := Lib.hid ((hb.block g3 (heap_lt HG.out)).trans HG.out)
            rw [← hV, ← hg]
            clear hV hg hb
            refine hK.out _ _ HBV6.out (fun hHeld => ?_)
            clear hK K
            refine take_still (i := 7) (d := some 18) (v := .agg #[.int .i64 4, .string ⟨#[]⟩, .int .i64 0, .slice none 0 0, .slice none 0 0, .slice (some ⟨g6, 0, none⟩) 3 3]) rfl rfl (by kernel_rfl) (by kernel_rfl) (by kernel_rfl) (fun _ _ _ h => HP.out _ _ _ _ _ h) (Or.inl ⟨by rfl, ?_⟩) hHeld ?_
            · intro W hSw; go_simp; try with_reducible rfl
            try simp only [Act.put, List.setIfInBounds_toArray, List.set_cons_zero, List.set_cons_succ]
            refine wpAnyH_ready (rs := [8]) (by kernel_rfl) (by simp) ?_
            refine AllReadyH.cons rfl (fun K hK => ?_) ?_
            · go_simp
              go_at_call 76
              refine (def_any 2 (tOf 4 [(primT ⟨#[45]⟩), (tNameB ⟨#[120]⟩), (tOf 3 [(primT ⟨#[42]⟩), (tNameB ⟨#[121]⟩)])]) none 0 none 0 (some ⟨g6, 0, none⟩) 3 V6 (of_at HK6.out)).mono ?_
              intro e P8 hh
              obtain ⟨⟨gd, he, htd⟩, hb⟩ := hh
              obtain rfl : e = .returned (.agg #[.int .i64 23, .string ⟨#[]⟩, .int .i64 2, .slice none 0 0, .slice none 0 0, .slice (some ⟨gd, 0, none⟩) 1 1]) := he
              have HTD := Lib.hid htd
              have HBP8 := Lib.hid (HBV6.out.then_ hb)
              have HK4 := Lib.hid (HK4.out.on hb)
              have HK6 := Lib.hid (HK6.out.on hb)
              have HG := Lib.hid ((hb.block g3 (heap_lt HG.out)).trans HG.out)
              clear htd
              clear hb
              refine hK.out _ _ HBP8.out (fun hHeld => ?_)
              clear hK K
              refine wpAnyH_ready (rs := [9]) (by kernel_rfl) (by simp) ?_
              refine AllReadyH.cons rfl (fun K hK => ?_) ?_
              · go_simp
                go_at_call 35
                refine (tof24_any dT none 0 none 0 (some ⟨gd, 0, none⟩) 1 P8 HTD.out dT_wf).mono ?_
                intro e P9 hof
                obtain ⟨r, rfl, ho, _, hb⟩ := hof.get HOF.out
                have HO := Lib.hid ho
                have HNE : Hid (g3 < P8.heap.size) := Lib.hid (heap_lt HG.out)
                have HBP9 := Lib.hid (HBP8.out.then_ hb)
                have HK4 := Lib.hid (HK4.out.on hb)
                have HK6 := Lib.hid (HK6.out.on hb)
                have HG := Lib.hid ((hb.block g3 (heap_lt HG.out)).trans HG.out)
                have HTD := Lib.hid (HTD.out.on hb)
                clear ho hof
                clear hb
                refine hK.out _ _ HBP9.out (fun hHeld => ?_)
                clear hK K
                refine take_still (i := 10) (d := some 10) (v := .tuple #[rtVal u r, .int .i64 0]) rfl rfl (by kernel_rfl) (by kernel_rfl) (by kernel_rfl) (fun _ _ _ h => HP.out _ _ _ _ _ h) (Or.inl ⟨by rfl, ?_⟩) hHeld ?_
                · intro W hSw; go_simp; try with_reducible rfl
                try simp only [Act.put, List.setIfInBounds_toArray, List.set_cons_zero, List.set_cons_succ]
                refine take_still (i := 11) (d := some 21) (v := rtVal u r) rfl rfl (by kernel_rfl) (by kernel_rfl) (by kernel_rfl) (fun _ _ _ h => HP.out _ _ _ _ _ h) (Or.inl ⟨by rfl, ?_⟩) hHeld ?_
                · intro W hSw; go_simp; try with_reducible rfl
                try simp only [Act.put, List.setIfInBounds_toArray, List.set_cons_zero, List.set_cons_succ]
                refine take_still (i := 12) (d := some 22) (v := .int .i64 0) rfl rfl (by kernel_rfl) (by kernel_rfl) (by kernel_rfl) (fun _ _ _ h => HP.out _ _ _ _ _ h) (Or.inl ⟨by rfl, ?_⟩) hHeld ?_
                · intro W hSw; go_simp; try with_reducible rfl
                try simp only [Act.put, List.setIfInBounds_toArray, List.set_cons_zero, List.set_cons_succ]
                refine wpAnyH_ready (rs := [14]) (by kernel_rfl) (by simp) ?_
                refine AllReadyH.cons rfl (fun K hK => ?_) ?_
                · have hz := HG.out
                  have z0 := cell_at hz (j := 0) rfl
                  have z1 := cell_at hz (j := 1) rfl
                  have z2 := cell_at hz (j := 2) rfl
                  have z3 := cell_at hz (j := 3) rfl
                  have z4 := cell_at hz (j := 4) rfl
                  have z5 := cell_at hz (j := 5) rfl
                  have fz := unfrozen hz
                  have lz := heap_lt hz
                  clear hz
                  obtain ⟨e1, e2, e3⟩ := six (.int .i64 u.kind) (.string u.text) (.int .i64 u.n) (.slice r.s.p r.s.n r.s.c) (.slice r.a.p r.a.n r.a.c) (.slice r.k.p r.k.n r.k.c) HG.out HBP9.out HG3.out
                  have HE1 := Lib.hid e1
                  have HE3 := Lib.hid e3
                  have HE2 := Lib.hid (HO.out.kept fun g h => e2 g (by have h1 := (HO.out.blk g h).1; have h2 := HNE.out; omega))
                  clear e1 e2 e3
                  go_simp
                  refine hK.out _ _ HE3.out (fun hHeld => ?_)
                  clear hK K z0 z1 z2 z3 z4 z5 fz lz
                  refine take_still (i := 15) (d := some 4) (v := .int .i64 0) rfl rfl (by kernel_rfl) (by kernel_rfl) (by kernel_rfl) (fun _ _ _ h => HP.out _ _ _ _ _ h) (Or.inl ⟨by rfl, ?_⟩) hHeld ?_
                  · intro W hSw; go_simp; try with_reducible rfl
                  try simp only [Act.put, List.setIfInBounds_toArray, List.set_cons_zero, List.set_cons_succ]
                  refine wpAnyH_done (by kernel_rfl) ?_ _
                  change K' _ _
                  exact HK0.out _ _ _ _ _ _ _ _ _ _ _ _ _ g3 r _ _ HE3.out HE1.out HE2.out
                exact AllReadyH.nil
              exact AllReadyH.nil
            exact AllReadyH.nil
          exact AllReadyH.nil
        exact AllReadyH.nil
      refine AllReadyH.cons rfl (fun K hK => ?_) ?_
      · go_simp
        obtain ⟨V13, hV⟩ : ∃ V, V = P2.alloc (.cells tm0 TTm) := ⟨_, rfl⟩
        obtain ⟨g3, hg3⟩ : ∃ g, g = P2.heap.size := ⟨_, rfl⟩
        have HG3 : Hid (W0.heap.size ≤ g3) := Lib.hid (by rw [hg3]; exact HBP2.out.size)
        have hb : Below P2.heap.size P2 V13 := by rw [hV]; exact bl_alloc _ _
        skip
        have HBV13 := Lib.hid (HBP2.out.then_ hb)
        have HG : Hid (V13.heap[g3]? = some (.cells #[.int .i64 0, .string ⟨#[]⟩, .int .i64 0, .slice none 0 0, .slice none 0 0, .slice none 0 0] TTm (0, 0))) := Lib.hid (by rw [hV, hg3]; exact heap_alloc_new _ _)
        rw [← hV, ← hg3]
        clear hV hg3 hb
        refine hK.out _ _ HBV13.out (fun hHeld => ?_)
        clear hK K
        refine wpAnyH_ready (rs := [4]) (by kernel_rfl) (by simp) ?_
        refine AllReadyH.cons rfl (fun K hK => ?_) ?_
        · go_simp
          obtain ⟨V4, hV⟩ : ∃ V, V = V13.alloc (.cells #[.int .i64 20, .string ⟨#[42]⟩, .int .i64 0, .slice none 0 0, .slice none 0 0, .slice none 0 0, .int .i64 2, .string ⟨#[121]⟩, .int .i64 0, .slice none 0 0, .slice none 0 0, .slice none 0 0] TTm) := ⟨_, rfl⟩
          obtain ⟨g4, hg⟩ : ∃ g, g = V13.heap.size := ⟨_, rfl⟩
          have HK4 : Hid (KidsAt V4 (some ⟨g4, 0, none⟩) [(primT ⟨#[42]⟩), (tNameB ⟨#[121]⟩)] 0) := Lib.hid (by
            rw [hV, hg]
            exact row_new_at (w := V13) [((primT ⟨#[42]⟩), none, 0, none, 0, none, 0), ((tNameB ⟨#[121]⟩), none, 0, none, 0, none, 0)] (fun x hx => by
              simp only [List.mem_cons, List.not_mem_nil, or_false] at hx
              rcases hx with rfl | rfl
              · exact ⟨IntsAt.nil _ _, IntsAt.nil _ _, KidsAt.nil _ _⟩
              · exact ⟨IntsAt.nil _ _, IntsAt.nil _ _, KidsAt.nil _ _⟩) rfl)
          have hb : Below V13.heap.size V13 V4 := by rw [hV]; exact bl_alloc _ _
          have HBV4 := Lib.hid (HBV13.out.then_ hb)
          have HG := Lib.hid ((hb.block g3 (heap_lt HG.out)).trans HG.out)
          rw [← hV, ← hg]
          clear hV hg hb
          refine hK.out _ _ HBV4.out (fun hHeld => ?_)
          clear hK K
          refine take_still (i := 5) (d := some 16) (v := .agg #[.int .i64 3, .string ⟨#[]⟩, .int .i64 0, .slice none 0 0, .slice none 0 0, .slice (some ⟨g4, 0, none⟩) 2 2]) rfl rfl (by kernel_rfl) (by kernel_rfl) (by kernel_rfl) (fun _ _ _ h => HP.out _ _ _ _ _ h) (Or.inl ⟨by rfl, ?_⟩) hHeld ?_
          · intro W hSw; go_simp; try with_reducible rfl
          try simp only [Act.put, List.setIfInBounds_toArray, List.set_cons_zero, List.set_cons_succ]
          refine wpAnyH_ready (rs := [6]) (by kernel_rfl) (by simp) ?_
          refine AllReadyH.cons rfl (fun K hK => ?_) ?_
          · go_simp
            obtain ⟨V6, hV⟩ : ∃ V, V = V4.alloc (.cells #[.int .i64 20, .string ⟨#[45]⟩, .int .i64 0, .slice none 0 0, .slice none 0 0, .slice none 0 0, .int .i64 2, .string ⟨#[120]⟩, .int .i64 0, .slice none 0 0, .slice none 0 0, .slice none 0 0, .int .i64 3, .string ⟨#[]⟩, .int .i64 0, .slice none 0 0, .slice none 0 0, .slice (some ⟨g4, 0, none⟩) 2 2] TTm) := ⟨_, rfl⟩
            obtain ⟨g6, hg⟩ : ∃ g, g = V4.heap.size := ⟨_, rfl⟩
            have HK6 : Hid (KidsAt V6 (some ⟨g6, 0, none⟩) [(primT ⟨#[45]⟩), (tNameB ⟨#[120]⟩), (tOf 3 [(primT ⟨#[42]⟩), (tNameB ⟨#[121]⟩)])] 0) := Lib.hid (by
              rw [hV, hg]
              exact row_new_at (w := V4) [((primT ⟨#[45]⟩), none, 0, none, 0, none, 0), ((tNameB ⟨#[120]⟩), none, 0, none, 0, none, 0), ((tOf 3 [(primT ⟨#[42]⟩), (tNameB ⟨#[121]⟩)]), none, 0, none, 0, (some ⟨g4, 0, none⟩), 2)] (fun x hx => by
                simp only [List.mem_cons, List.not_mem_nil, or_false] at hx
                rcases hx with rfl | rfl | rfl
                · exact ⟨IntsAt.nil _ _, IntsAt.nil _ _, KidsAt.nil _ _⟩
                · exact ⟨IntsAt.nil _ _, IntsAt.nil _ _, KidsAt.nil _ _⟩
                · exact of_at HK4.out) rfl)
            have hb : Below V4.heap.size V4 V6 := by rw [hV]; exact bl_alloc _ _
            have HBV6 := Lib.hid (HBV4.out.then_ hb)
            have HK4 := Lib.hid (HK4.out.on hb)
            have HG := Lib.hid ((hb.block g3 (heap_lt HG.out)).trans HG.out)
            rw [← hV, ← hg]
            clear hV hg hb
            refine hK.out _ _ HBV6.out (fun hHeld => ?_)
            clear hK K
            refine take_still (i := 7) (d := some 18) (v := .agg #[.int .i64 4, .string ⟨#[]⟩, .int .i64 0, .slice none 0 0, .slice none 0 0, .slice (some ⟨g6, 0, none⟩) 3 3]) rfl rfl (by kernel_rfl) (by kernel_rfl) (by kernel_rfl) (fun _ _ _ h => HP.out _ _ _ _ _ h) (Or.inl ⟨by rfl, ?_⟩) hHeld ?_
            · intro W hSw; go_simp; try with_reducible rfl
            try simp only [Act.put, List.setIfInBounds_toArray, List.set_cons_zero, List.set_cons_succ]
            refine wpAnyH_ready (rs := [8]) (by kernel_rfl) (by simp) ?_
            refine AllReadyH.cons rfl (fun K hK => ?_) ?_
            · go_simp
              go_at_call 76
              refine (def_any 2 (tOf 4 [(primT ⟨#[45]⟩), (tNameB ⟨#[120]⟩), (tOf 3 [(primT ⟨#[42]⟩), (tNameB ⟨#[121]⟩)])]) none 0 none 0 (some ⟨g6, 0, none⟩) 3 V6 (of_at HK6.out)).mono ?_
              intro e P8 hh
              obtain ⟨⟨gd, he, htd⟩, hb⟩ := hh
              obtain rfl : e = .returned (.agg #[.int .i64 23, .string ⟨#[]⟩, .int .i64 2, .slice none 0 0, .slice none 0 0, .slice (some ⟨gd, 0, none⟩) 1 1]) := he
              have HTD := Lib.hid htd
              have HBP8 := Lib.hid (HBV6.out.then_ hb)
              have HK4 := Lib.hid (HK4.out.on hb)
              have HK6 := Lib.hid (HK6.out.on hb)
              have HG := Lib.hid ((hb.block g3 (heap_lt HG.out)).trans HG.out)
              clear htd
              clear hb
              refine hK.out _ _ HBP8.out (fun hHeld => ?_)
              clear hK K
              refine wpAnyH_ready (rs := [9]) (by kernel_rfl) (by simp) ?_
              refine AllReadyH.cons rfl (fun K hK => ?_) ?_
              · go_simp
                go_at_call 35
                refine (tof24_any dT none 0 none 0 (some ⟨gd, 0, none⟩) 1 P8 HTD.out dT_wf).mono ?_
                intro e P9 hof
                obtain ⟨r, rfl, ho, _, hb⟩ := hof.get HOF.out
                have HO := Lib.hid ho
                have HNE : Hid (g3 < P8.heap.size) := Lib.hid (heap_lt HG.out)
                have HBP9 := Lib.hid (HBP8.out.then_ hb)
                have HK4 := Lib.hid (HK4.out.on hb)
                have HK6 := Lib.hid (HK6.out.on hb)
                have HG := Lib.hid ((hb.block g3 (heap_lt HG.out)).trans HG.out)
                have HTD := Lib.hid (HTD.out.on hb)
                clear ho hof
                clear hb
                refine hK.out _ _ HBP9.out (fun hHeld => ?_)
                clear hK K
                refine take_still (i := 10) (d := some 10) (v := .tuple #[rtVal u r, .int .i64 0]) rfl rfl (by kernel_rfl) (by kernel_rfl) (by kernel_rfl) (fun _ _ _ h => HP.out _ _ _ _ _ h) (Or.inl ⟨by rfl, ?_⟩) hHeld ?_
                · intro W hSw; go_simp; try with_reducible rfl
                try simp only [Act.put, List.setIfInBounds_toArray, List.set_cons_zero, List.set_cons_succ]
                refine take_still (i := 11) (d := some 21) (v := rtVal u r) rfl rfl (by kernel_rfl) (by kernel_rfl) (by kernel_rfl) (fun _ _ _ h => HP.out _ _ _ _ _ h) (Or.inl ⟨by rfl, ?_⟩) hHeld ?_
                · intro W hSw; go_simp; try with_reducible rfl
                try simp only [Act.put, List.setIfInBounds_toArray, List.set_cons_zero, List.set_cons_succ]
                refine take_still (i := 12) (d := some 22) (v := .int .i64 0) rfl rfl (by kernel_rfl) (by kernel_rfl) (by kernel_rfl) (fun _ _ _ h => HP.out _ _ _ _ _ h) (Or.inl ⟨by rfl, ?_⟩) hHeld ?_
                · intro W hSw; go_simp; try with_reducible rfl
                try simp only [Act.put, List.setIfInBounds_toArray, List.set_cons_zero, List.set_cons_succ]
                refine wpAnyH_ready (rs := [14]) (by kernel_rfl) (by simp) ?_
                refine AllReadyH.cons rfl (fun K hK => ?_) ?_
                · have hz := HG.out
                  have z0 := cell_at hz (j := 0) rfl
                  have z1 := cell_at hz (j := 1) rfl
                  have z2 := cell_at hz (j := 2) rfl
                  have z3 := cell_at hz (j := 3) rfl
                  have z4 := cell_at hz (j := 4) rfl
                  have z5 := cell_at hz (j := 5) rfl
                  have fz := unfrozen hz
                  have lz := heap_lt hz
                  clear hz
                  obtain ⟨e1, e2, e3⟩ := six (.int .i64 u.kind) (.string u.text) (.int .i64 u.n) (.slice r.s.p r.s.n r.s.c) (.slice r.a.p r.a.n r.a.c) (.slice r.k.p r.k.n r.k.c) HG.out HBP9.out HG3.out
                  have HE1 := Lib.hid e1
                  have HE3 := Lib.hid e3
                  have HE2 := Lib.hid (HO.out.kept fun g h => e2 g (by have h1 := (HO.out.blk g h).1; have h2 := HNE.out; omega))
                  clear e1 e2 e3
                  go_simp
                  refine hK.out _ _ HE3.out (fun hHeld => ?_)
                  clear hK K z0 z1 z2 z3 z4 z5 fz lz
                  refine take_still (i := 15) (d := some 4) (v := .int .i64 0) rfl rfl (by kernel_rfl) (by kernel_rfl) (by kernel_rfl) (fun _ _ _ h => HP.out _ _ _ _ _ h) (Or.inl ⟨by rfl, ?_⟩) hHeld ?_
                  · intro W hSw; go_simp; try with_reducible rfl
                  try simp only [Act.put, List.setIfInBounds_toArray, List.set_cons_zero, List.set_cons_succ]
                  refine wpAnyH_done (by kernel_rfl) ?_ _
                  change K' _ _
                  exact HK0.out _ _ _ _ _ _ _ _ _ _ _ _ _ g3 r _ _ HE3.out HE1.out HE2.out
                exact AllReadyH.nil
              exact AllReadyH.nil
            exact AllReadyH.nil
          exact AllReadyH.nil
        exact AllReadyH.nil
      exact AllReadyH.nil
    refine AllReadyH.cons rfl (fun K hK => ?_) ?_
    · go_simp
      obtain ⟨V13, hV⟩ : ∃ V, V = P0.alloc (.cells tm0 TTm) := ⟨_, rfl⟩
      obtain ⟨g3, hg3⟩ : ∃ g, g = P0.heap.size := ⟨_, rfl⟩
      have HG3 : Hid (W0.heap.size ≤ g3) := Lib.hid (by rw [hg3]; exact HBP0.out.size)
      have hb : Below P0.heap.size P0 V13 := by rw [hV]; exact bl_alloc _ _
      skip
      have HBV13 := Lib.hid (HBP0.out.then_ hb)
      have HG : Hid (V13.heap[g3]? = some (.cells #[.int .i64 0, .string ⟨#[]⟩, .int .i64 0, .slice none 0 0, .slice none 0 0, .slice none 0 0] TTm (0, 0))) := Lib.hid (by rw [hV, hg3]; exact heap_alloc_new _ _)
      rw [← hV, ← hg3]
      clear hV hg3 hb
      refine hK.out _ _ HBV13.out (fun hHeld => ?_)
      clear hK K
      refine wpAnyH_ready (rs := [2]) (by kernel_rfl) (by simp) ?_
      refine AllReadyH.cons rfl (fun K hK => ?_) ?_
      · go_simp
        go_at_call 77
        refine (lprim_any ⟨#[42]⟩ V13).mono ?_
        intro e P2 hh
        obtain ⟨he, hb⟩ := hh
        obtain rfl : e = .returned (.agg #[.int .i64 20, .string ⟨#[42]⟩, .int .i64 0, .slice none 0 0, .slice none 0 0, .slice none 0 0]) := he
        have HBP2 := Lib.hid (HBV13.out.then_ hb)
        have HG := Lib.hid ((hb.block g3 (heap_lt HG.out)).trans HG.out)
        clear hb
        refine hK.out _ _ HBP2.out (fun hHeld => ?_)
        clear hK K
        refine wpAnyH_ready (rs := [4]) (by kernel_rfl) (by simp) ?_
        refine AllReadyH.cons rfl (fun K hK => ?_) ?_
        · go_simp
          obtain ⟨V4, hV⟩ : ∃ V, V = P2.alloc (.cells #[.int .i64 20, .string ⟨#[42]⟩, .int .i64 0, .slice none 0 0, .slice none 0 0, .slice none 0 0, .int .i64 2, .string ⟨#[121]⟩, .int .i64 0, .slice none 0 0, .slice none 0 0, .slice none 0 0] TTm) := ⟨_, rfl⟩
          obtain ⟨g4, hg⟩ : ∃ g, g = P2.heap.size := ⟨_, rfl⟩
          have HK4 : Hid (KidsAt V4 (some ⟨g4, 0, none⟩) [(primT ⟨#[42]⟩), (tNameB ⟨#[121]⟩)] 0) := Lib.hid (by
            rw [hV, hg]
            exact row_new_at (w := P2) [((primT ⟨#[42]⟩), none, 0, none, 0, none, 0), ((tNameB ⟨#[121]⟩), none, 0, none, 0, none, 0)] (fun x hx => by
              simp only [List.mem_cons, List.not_mem_nil, or_false] at hx
              rcases hx with rfl | rfl
              · exact ⟨IntsAt.nil _ _, IntsAt.nil _ _, KidsAt.nil _ _⟩
              · exact ⟨IntsAt.nil _ _, IntsAt.nil _ _, KidsAt.nil _ _⟩) rfl)
          have hb : Below P2.heap.size P2 V4 := by rw [hV]; exact bl_alloc _ _
          have HBV4 := Lib.hid (HBP2.out.then_ hb)
          have HG := Lib.hid ((hb.block g3 (heap_lt HG.out)).trans HG.out)
          rw [← hV, ← hg]
          clear hV hg hb
          refine hK.out _ _ HBV4.out (fun hHeld => ?_)
          clear hK K
          refine take_still (i := 5) (d := some 16) (v := .agg #[.int .i64 3, .string ⟨#[]⟩, .int .i64 0, .slice none 0 0, .slice none 0 0, .slice (some ⟨g4, 0, none⟩) 2 2]) rfl rfl (by kernel_rfl) (by kernel_rfl) (by kernel_rfl) (fun _ _ _ h => HP.out _ _ _ _ _ h) (Or.inl ⟨by rfl, ?_⟩) hHeld ?_
          · intro W hSw; go_simp; try with_reducible rfl
          try simp only [Act.put, List.setIfInBounds_toArray, List.set_cons_zero, List.set_cons_succ]
          refine wpAnyH_ready (rs := [6]) (by kernel_rfl) (by simp) ?_
          refine AllReadyH.cons rfl (fun K hK => ?_) ?_
          · go_simp
            obtain ⟨V6, hV⟩ : ∃ V, V = V4.alloc (.cells #[.int .i64 20, .string ⟨#[45]⟩, .int .i64 0, .slice none 0 0, .slice none 0 0, .slice none 0 0, .int .i64 2, .string ⟨#[120]⟩, .int .i64 0, .slice none 0 0, .slice none 0 0, .slice none 0 0, .int .i64 3, .string ⟨#[]⟩, .int .i64 0, .slice none 0 0, .slice none 0 0, .slice (some ⟨g4, 0, none⟩) 2 2] TTm) := ⟨_, rfl⟩
            obtain ⟨g6, hg⟩ : ∃ g, g = V4.heap.size := ⟨_, rfl⟩
            have HK6 : Hid (KidsAt V6 (some ⟨g6, 0, none⟩) [(primT ⟨#[45]⟩), (tNameB ⟨#[120]⟩), (tOf 3 [(primT ⟨#[42]⟩), (tNameB ⟨#[121]⟩)])] 0) := Lib.hid (by
              rw [hV, hg]
              exact row_new_at (w := V4) [((primT ⟨#[45]⟩), none, 0, none, 0, none, 0), ((tNameB ⟨#[120]⟩), none, 0, none, 0, none, 0), ((tOf 3 [(primT ⟨#[42]⟩), (tNameB ⟨#[121]⟩)]), none, 0, none, 0, (some ⟨g4, 0, none⟩), 2)] (fun x hx => by
                simp only [List.mem_cons, List.not_mem_nil, or_false] at hx
                rcases hx with rfl | rfl | rfl
                · exact ⟨IntsAt.nil _ _, IntsAt.nil _ _, KidsAt.nil _ _⟩
                · exact ⟨IntsAt.nil _ _, IntsAt.nil _ _, KidsAt.nil _ _⟩
                · exact of_at HK4.out) rfl)
            have hb : Below V4.heap.size V4 V6 := by rw [hV]; exact bl_alloc _ _
            have HBV6 := Lib.hid (HBV4.out.then_ hb)
            have HK4 := Lib.hid (HK4.out.on hb)
            have HG := Lib.hid ((hb.block g3 (heap_lt HG.out)).trans HG.out)
            rw [← hV, ← hg]
            clear hV hg hb
            refine hK.out _ _ HBV6.out (fun hHeld => ?_)
            clear hK K
            refine take_still (i := 7) (d := some 18) (v := .agg #[.int .i64 4, .string ⟨#[]⟩, .int .i64 0, .slice none 0 0, .slice none 0 0, .slice (some ⟨g6, 0, none⟩) 3 3]) rfl rfl (by kernel_rfl) (by kernel_rfl) (by kernel_rfl) (fun _ _ _ h => HP.out _ _ _ _ _ h) (Or.inl ⟨by rfl, ?_⟩) hHeld ?_
            · intro W hSw; go_simp; try with_reducible rfl
            try simp only [Act.put, List.setIfInBounds_toArray, List.set_cons_zero, List.set_cons_succ]
            refine wpAnyH_ready (rs := [8]) (by kernel_rfl) (by simp) ?_
            refine AllReadyH.cons rfl (fun K hK => ?_) ?_
            · go_simp
              go_at_call 76
              refine (def_any 2 (tOf 4 [(primT ⟨#[45]⟩), (tNameB ⟨#[120]⟩), (tOf 3 [(primT ⟨#[42]⟩), (tNameB ⟨#[121]⟩)])]) none 0 none 0 (some ⟨g6, 0, none⟩) 3 V6 (of_at HK6.out)).mono ?_
              intro e P8 hh
              obtain ⟨⟨gd, he, htd⟩, hb⟩ := hh
              obtain rfl : e = .returned (.agg #[.int .i64 23, .string ⟨#[]⟩, .int .i64 2, .slice none 0 0, .slice none 0 0, .slice (some ⟨gd, 0, none⟩) 1 1]) := he
              have HTD := Lib.hid htd
              have HBP8 := Lib.hid (HBV6.out.then_ hb)
              have HK4 := Lib.hid (HK4.out.on hb)
              have HK6 := Lib.hid (HK6.out.on hb)
              have HG := Lib.hid ((hb.block g3 (heap_lt HG.out)).trans HG.out)
              clear htd
              clear hb
              refine hK.out _ _ HBP8.out (fun hHeld => ?_)
              clear hK K
              refine wpAnyH_ready (rs := [9]) (by kernel_rfl) (by simp) ?_
              refine AllReadyH.cons rfl (fun K hK => ?_) ?_
              · go_simp
                go_at_call 35
                refine (tof24_any dT none 0 none 0 (some ⟨gd, 0, none⟩) 1 P8 HTD.out dT_wf).mono ?_
                intro e P9 hof
                obtain ⟨r, rfl, ho, _, hb⟩ := hof.get HOF.out
                have HO := Lib.hid ho
                have HNE : Hid (g3 < P8.heap.size) := Lib.hid (heap_lt HG.out)
                have HBP9 := Lib.hid (HBP8.out.then_ hb)
                have HK4 := Lib.hid (HK4.out.on hb)
                have HK6 := Lib.hid (HK6.out.on hb)
                have HG := Lib.hid ((hb.block g3 (heap_lt HG.out)).trans HG.out)
                have HTD := Lib.hid (HTD.out.on hb)
                clear ho hof
                clear hb
                refine hK.out _ _ HBP9.out (fun hHeld => ?_)
                clear hK K
                refine take_still (i := 10) (d := some 10) (v := .tuple #[rtVal u r, .int .i64 0]) rfl rfl (by kernel_rfl) (by kernel_rfl) (by kernel_rfl) (fun _ _ _ h => HP.out _ _ _ _ _ h) (Or.inl ⟨by rfl, ?_⟩) hHeld ?_
                · intro W hSw; go_simp; try with_reducible rfl
                try simp only [Act.put, List.setIfInBounds_toArray, List.set_cons_zero, List.set_cons_succ]
                refine take_still (i := 11) (d := some 21) (v := rtVal u r) rfl rfl (by kernel_rfl) (by kernel_rfl) (by kernel_rfl) (fun _ _ _ h => HP.out _ _ _ _ _ h) (Or.inl ⟨by rfl, ?_⟩) hHeld ?_
                · intro W hSw; go_simp; try with_reducible rfl
                try simp only [Act.put, List.setIfInBounds_toArray, List.set_cons_zero, List.set_cons_succ]
                refine take_still (i := 12) (d := some 22) (v := .int .i64 0) rfl rfl (by kernel_rfl) (by kernel_rfl) (by kernel_rfl) (fun _ _ _ h => HP.out _ _ _ _ _ h) (Or.inl ⟨by rfl, ?_⟩) hHeld ?_
                · intro W hSw; go_simp; try with_reducible rfl
                try simp only [Act.put, List.setIfInBounds_toArray, List.set_cons_zero, List.set_cons_succ]
                refine wpAnyH_ready (rs := [14]) (by kernel_rfl) (by simp) ?_
                refine AllReadyH.cons rfl (fun K hK => ?_) ?_
                · have hz := HG.out
                  have z0 := cell_at hz (j := 0) rfl
                  have z1 := cell_at hz (j := 1) rfl
                  have z2 := cell_at hz (j := 2) rfl
                  have z3 := cell_at hz (j := 3) rfl
                  have z4 := cell_at hz (j := 4) rfl
                  have z5 := cell_at hz (j := 5) rfl
                  have fz := unfrozen hz
                  have lz := heap_lt hz
                  clear hz
                  obtain ⟨e1, e2, e3⟩ := six (.int .i64 u.kind) (.string u.text) (.int .i64 u.n) (.slice r.s.p r.s.n r.s.c) (.slice r.a.p r.a.n r.a.c) (.slice r.k.p r.k.n r.k.c) HG.out HBP9.out HG3.out
                  have HE1 := Lib.hid e1
                  have HE3 := Lib.hid e3
                  have HE2 := Lib.hid (HO.out.kept fun g h => e2 g (by have h1 := (HO.out.blk g h).1; have h2 := HNE.out; omega))
                  clear e1 e2 e3
                  go_simp
                  refine hK.out _ _ HE3.out (fun hHeld => ?_)
                  clear hK K z0 z1 z2 z3 z4 z5 fz lz
                  refine take_still (i := 15) (d := some 4) (v := .int .i64 0) rfl rfl (by kernel_rfl) (by kernel_rfl) (by kernel_rfl) (fun _ _ _ h => HP.out _ _ _ _ _ h) (Or.inl ⟨by rfl, ?_⟩) hHeld ?_
                  · intro W hSw; go_simp; try with_reducible rfl
                  try simp only [Act.put, List.setIfInBounds_toArray, List.set_cons_zero, List.set_cons_succ]
                  refine wpAnyH_done (by kernel_rfl) ?_ _
                  change K' _ _
                  exact HK0.out _ _ _ _ _ _ _ _ _ _ _ _ _ g3 r _ _ HE3.out HE1.out HE2.out
                exact AllReadyH.nil
              exact AllReadyH.nil
            exact AllReadyH.nil
          exact AllReadyH.nil
        exact AllReadyH.nil
      exact AllReadyH.nil
    exact AllReadyH.nil
  refine AllReadyH.cons rfl (fun K hK => ?_) ?_
  · go_simp
    obtain ⟨V13, hV⟩ : ∃ V, V = X.alloc (.cells tm0 TTm) := ⟨_, rfl⟩
    obtain ⟨g3, hg3⟩ : ∃ g, g = X.heap.size := ⟨_, rfl⟩
    have HG3 : Hid (W0.heap.size ≤ g3) := Lib.hid (by rw [hg3]; exact HX.out.size)
    have hb : Below X.heap.size X V13 := by rw [hV]; exact bl_alloc _ _
    skip
    have HBV13 := Lib.hid (HX.out.then_ hb)
    have HG : Hid (V13.heap[g3]? = some (.cells #[.int .i64 0, .string ⟨#[]⟩, .int .i64 0, .slice none 0 0, .slice none 0 0, .slice none 0 0] TTm (0, 0))) := Lib.hid (by rw [hV, hg3]; exact heap_alloc_new _ _)
    rw [← hV, ← hg3]
    clear hV hg3 hb
    refine hK.out _ _ HBV13.out (fun hHeld => ?_)
    clear hK K
    refine wpAnyH_ready (rs := [0]) (by kernel_rfl) (by simp) ?_
    refine AllReadyH.cons rfl (fun K hK => ?_) ?_
    · go_simp
      go_at_call 77
      refine (lprim_any ⟨#[45]⟩ V13).mono ?_
      intro e P0 hh
      obtain ⟨he, hb⟩ := hh
      obtain rfl : e = .returned (.agg #[.int .i64 20, .string ⟨#[45]⟩, .int .i64 0, .slice none 0 0, .slice none 0 0, .slice none 0 0]) := he
      have HBP0 := Lib.hid (HBV13.out.then_ hb)
      have HG := Lib.hid ((hb.block g3 (heap_lt HG.out)).trans HG.out)
      clear hb
      refine hK.out _ _ HBP0.out (fun hHeld => ?_)
      clear hK K
      refine wpAnyH_ready (rs := [2]) (by kernel_rfl) (by simp) ?_
      refine AllReadyH.cons rfl (fun K hK => ?_) ?_
      · go_simp
        go_at_call 77
        refine (lprim_any ⟨#[42]⟩ P0).mono ?_
        intro e P2 hh
        obtain ⟨he, hb⟩ := hh
        obtain rfl : e = .returned (.agg #[.int .i64 20, .string ⟨#[42]⟩, .int .i64 0, .slice none 0 0, .slice none 0 0, .slice none 0 0]) := he
        have HBP2 := Lib.hid (HBP0.out.then_ hb)
        have HG := Lib.hid ((hb.block g3 (heap_lt HG.out)).trans HG.out)
        clear hb
        refine hK.out _ _ HBP2.out (fun hHeld => ?_)
        clear hK K
        refine wpAnyH_ready (rs := [4]) (by kernel_rfl) (by simp) ?_
        refine AllReadyH.cons rfl (fun K hK => ?_) ?_
        · go_simp
          obtain ⟨V4, hV⟩ : ∃ V, V = P2.alloc (.cells #[.int .i64 20, .string ⟨#[42]⟩, .int .i64 0, .slice none 0 0, .slice none 0 0, .slice none 0 0, .int .i64 2, .string ⟨#[121]⟩, .int .i64 0, .slice none 0 0, .slice none 0 0, .slice none 0 0] TTm) := ⟨_, rfl⟩
          obtain ⟨g4, hg⟩ : ∃ g, g = P2.heap.size := ⟨_, rfl⟩
          have HK4 : Hid (KidsAt V4 (some ⟨g4, 0, none⟩) [(primT ⟨#[42]⟩), (tNameB ⟨#[121]⟩)] 0) := Lib.hid (by
            rw [hV, hg]
            exact row_new_at (w := P2) [((primT ⟨#[42]⟩), none, 0, none, 0, none, 0), ((tNameB ⟨#[121]⟩), none, 0, none, 0, none, 0)] (fun x hx => by
              simp only [List.mem_cons, List.not_mem_nil, or_false] at hx
              rcases hx with rfl | rfl
              · exact ⟨IntsAt.nil _ _, IntsAt.nil _ _, KidsAt.nil _ _⟩
              · exact ⟨IntsAt.nil _ _, IntsAt.nil _ _, KidsAt.nil _ _⟩) rfl)
          have hb : Below P2.heap.size P2 V4 := by rw [hV]; exact bl_alloc _ _
          have HBV4 := Lib.hid (HBP2.out.then_ hb)
          have HG := Lib.hid ((hb.block g3 (heap_lt HG.out)).trans HG.out)
          rw [← hV, ← hg]
          clear hV hg hb
          refine hK.out _ _ HBV4.out (fun hHeld => ?_)
          clear hK K
          refine take_still (i := 5) (d := some 16) (v := .agg #[.int .i64 3, .string ⟨#[]⟩, .int .i64 0, .slice none 0 0, .slice none 0 0, .slice (some ⟨g4, 0, none⟩) 2 2]) rfl rfl (by kernel_rfl) (by kernel_rfl) (by kernel_rfl) (fun _ _ _ h => HP.out _ _ _ _ _ h) (Or.inl ⟨by rfl, ?_⟩) hHeld ?_
          · intro W hSw; go_simp; try with_reducible rfl
          try simp only [Act.put, List.setIfInBounds_toArray, List.set_cons_zero, List.set_cons_succ]
          refine wpAnyH_ready (rs := [6]) (by kernel_rfl) (by simp) ?_
          refine AllReadyH.cons rfl (fun K hK => ?_) ?_
          · go_simp
            obtain ⟨V6, hV⟩ : ∃ V, V = V4.alloc (.cells #[.int .i64 20, .string ⟨#[45]⟩, .int .i64 0, .slice none 0 0, .slice none 0 0, .slice none 0 0, .int .i64 2, .string ⟨#[120]⟩, .int .i64 0, .slice none 0 0, .slice none 0 0, .slice none 0 0, .int .i64 3, .string ⟨#[]⟩, .int .i64 0, .slice none 0 0, .slice none 0 0, .slice (some ⟨g4, 0, none⟩) 2 2] TTm) := ⟨_, rfl⟩
            obtain ⟨g6, hg⟩ : ∃ g, g = V4.heap.size := ⟨_, rfl⟩
            have HK6 : Hid (KidsAt V6 (some ⟨g6, 0, none⟩) [(primT ⟨#[45]⟩), (tNameB ⟨#[120]⟩), (tOf 3 [(primT ⟨#[42]⟩), (tNameB ⟨#[121]⟩)])] 0) := Lib.hid (by
              rw [hV, hg]
              exact row_new_at (w := V4) [((primT ⟨#[45]⟩), none, 0, none, 0, none, 0), ((tNameB ⟨#[120]⟩), none, 0, none, 0, none, 0), ((tOf 3 [(primT ⟨#[42]⟩), (tNameB ⟨#[121]⟩)]), none, 0, none, 0, (some ⟨g4, 0, none⟩), 2)] (fun x hx => by
                simp only [List.mem_cons, List.not_mem_nil, or_false] at hx
                rcases hx with rfl | rfl | rfl
                · exact ⟨IntsAt.nil _ _, IntsAt.nil _ _, KidsAt.nil _ _⟩
                · exact ⟨IntsAt.nil _ _, IntsAt.nil _ _, KidsAt.nil _ _⟩
                · exact of_at HK4.out) rfl)
            have hb : Below V4.heap.size V4 V6 := by rw [hV]; exact bl_alloc _ _
            have HBV6 := Lib.hid (HBV4.out.then_ hb)
            have HK4 := Lib.hid (HK4.out.on hb)
            have HG := Lib.hid ((hb.block g3 (heap_lt HG.out)).trans HG.out)
            rw [← hV, ← hg]
            clear hV hg hb
            refine hK.out _ _ HBV6.out (fun hHeld => ?_)
            clear hK K
            refine take_still (i := 7) (d := some 18) (v := .agg #[.int .i64 4, .string ⟨#[]⟩, .int .i64 0, .slice none 0 0, .slice none 0 0, .slice (some ⟨g6, 0, none⟩) 3 3]) rfl rfl (by kernel_rfl) (by kernel_rfl) (by kernel_rfl) (fun _ _ _ h => HP.out _ _ _ _ _ h) (Or.inl ⟨by rfl, ?_⟩) hHeld ?_
            · intro W hSw; go_simp; try with_reducible rfl
            try simp only [Act.put, List.setIfInBounds_toArray, List.set_cons_zero, List.set_cons_succ]
            refine wpAnyH_ready (rs := [8]) (by kernel_rfl) (by simp) ?_
            refine AllReadyH.cons rfl (fun K hK => ?_) ?_
            · go_simp
              go_at_call 76
              refine (def_any 2 (tOf 4 [(primT ⟨#[45]⟩), (tNameB ⟨#[120]⟩), (tOf 3 [(primT ⟨#[42]⟩), (tNameB ⟨#[121]⟩)])]) none 0 none 0 (some ⟨g6, 0, none⟩) 3 V6 (of_at HK6.out)).mono ?_
              intro e P8 hh
              obtain ⟨⟨gd, he, htd⟩, hb⟩ := hh
              obtain rfl : e = .returned (.agg #[.int .i64 23, .string ⟨#[]⟩, .int .i64 2, .slice none 0 0, .slice none 0 0, .slice (some ⟨gd, 0, none⟩) 1 1]) := he
              have HTD := Lib.hid htd
              have HBP8 := Lib.hid (HBV6.out.then_ hb)
              have HK4 := Lib.hid (HK4.out.on hb)
              have HK6 := Lib.hid (HK6.out.on hb)
              have HG := Lib.hid ((hb.block g3 (heap_lt HG.out)).trans HG.out)
              clear htd
              clear hb
              refine hK.out _ _ HBP8.out (fun hHeld => ?_)
              clear hK K
              refine wpAnyH_ready (rs := [9]) (by kernel_rfl) (by simp) ?_
              refine AllReadyH.cons rfl (fun K hK => ?_) ?_
              · go_simp
                go_at_call 35
                refine (tof24_any dT none 0 none 0 (some ⟨gd, 0, none⟩) 1 P8 HTD.out dT_wf).mono ?_
                intro e P9 hof
                obtain ⟨r, rfl, ho, _, hb⟩ := hof.get HOF.out
                have HO := Lib.hid ho
                have HNE : Hid (g3 < P8.heap.size) := Lib.hid (heap_lt HG.out)
                have HBP9 := Lib.hid (HBP8.out.then_ hb)
                have HK4 := Lib.hid (HK4.out.on hb)
                have HK6 := Lib.hid (HK6.out.on hb)
                have HG := Lib.hid ((hb.block g3 (heap_lt HG.out)).trans HG.out)
                have HTD := Lib.hid (HTD.out.on hb)
                clear ho hof
                clear hb
                refine hK.out _ _ HBP9.out (fun hHeld => ?_)
                clear hK K
                refine take_still (i := 10) (d := some 10) (v := .tuple #[rtVal u r, .int .i64 0]) rfl rfl (by kernel_rfl) (by kernel_rfl) (by kernel_rfl) (fun _ _ _ h => HP.out _ _ _ _ _ h) (Or.inl ⟨by rfl, ?_⟩) hHeld ?_
                · intro W hSw; go_simp; try with_reducible rfl
                try simp only [Act.put, List.setIfInBounds_toArray, List.set_cons_zero, List.set_cons_succ]
                refine take_still (i := 11) (d := some 21) (v := rtVal u r) rfl rfl (by kernel_rfl) (by kernel_rfl) (by kernel_rfl) (fun _ _ _ h => HP.out _ _ _ _ _ h) (Or.inl ⟨by rfl, ?_⟩) hHeld ?_
                · intro W hSw; go_simp; try with_reducible rfl
                try simp only [Act.put, List.setIfInBounds_toArray, List.set_cons_zero, List.set_cons_succ]
                refine take_still (i := 12) (d := some 22) (v := .int .i64 0) rfl rfl (by kernel_rfl) (by kernel_rfl) (by kernel_rfl) (fun _ _ _ h => HP.out _ _ _ _ _ h) (Or.inl ⟨by rfl, ?_⟩) hHeld ?_
                · intro W hSw; go_simp; try with_reducible rfl
                try simp only [Act.put, List.setIfInBounds_toArray, List.set_cons_zero, List.set_cons_succ]
                refine wpAnyH_ready (rs := [14]) (by kernel_rfl) (by simp) ?_
                refine AllReadyH.cons rfl (fun K hK => ?_) ?_
                · have hz := HG.out
                  have z0 := cell_at hz (j := 0) rfl
                  have z1 := cell_at hz (j := 1) rfl
                  have z2 := cell_at hz (j := 2) rfl
                  have z3 := cell_at hz (j := 3) rfl
                  have z4 := cell_at hz (j := 4) rfl
                  have z5 := cell_at hz (j := 5) rfl
                  have fz := unfrozen hz
                  have lz := heap_lt hz
                  clear hz
                  obtain ⟨e1, e2, e3⟩ := six (.int .i64 u.kind) (.string u.text) (.int .i64 u.n) (.slice r.s.p r.s.n r.s.c) (.slice r.a.p r.a.n r.a.c) (.slice r.k.p r.k.n r.k.c) HG.out HBP9.out HG3.out
                  have HE1 := Lib.hid e1
                  have HE3 := Lib.hid e3
                  have HE2 := Lib.hid (HO.out.kept fun g h => e2 g (by have h1 := (HO.out.blk g h).1; have h2 := HNE.out; omega))
                  clear e1 e2 e3
                  go_simp
                  refine hK.out _ _ HE3.out (fun hHeld => ?_)
                  clear hK K z0 z1 z2 z3 z4 z5 fz lz
                  refine take_still (i := 15) (d := some 4) (v := .int .i64 0) rfl rfl (by kernel_rfl) (by kernel_rfl) (by kernel_rfl) (fun _ _ _ h => HP.out _ _ _ _ _ h) (Or.inl ⟨by rfl, ?_⟩) hHeld ?_
                  · intro W hSw; go_simp; try with_reducible rfl
                  try simp only [Act.put, List.setIfInBounds_toArray, List.set_cons_zero, List.set_cons_succ]
                  refine wpAnyH_done (by kernel_rfl) ?_ _
                  change K' _ _
                  exact HK0.out _ _ _ _ _ _ _ _ _ _ _ _ _ g3 r _ _ HE3.out HE1.out HE2.out
                exact AllReadyH.nil
              exact AllReadyH.nil
            exact AllReadyH.nil
          exact AllReadyH.nil
        exact AllReadyH.nil
      exact AllReadyH.nil
    exact AllReadyH.nil
  exact AllReadyH.nil
end Go.Proofs.YtebiojmfieoncaaGreat
