/- abacusref9.Info: the document's row of a primitive. No condition. -/
import Derived.Test.YtebiojmfieoncaaGreatTeR1
import Derived.Test.YtebiojmfieoncaaGreatTeD2
import Derived.Test.YtebiojmfieoncaaGreatTeSt
namespace Go.Proofs.YtebiojmfieoncaaGreat
open Go.RowKit

theorem take_free {P : Program} {ops : Array Oper} {Q : Exit → Act → World → Prop} {md : Region.Mode} {i : Nat} {oi : Oper} {d : Option Nat} {v : Value} {fuel : Nat} {listed : Array Bool} {a : Act} {w : World} (hi : ops[i]? = some oi) (hd : oi.dst = d)
    (hs : Region.noSelect ops = true) (hf : Region.free md ops listed i = true) (hr : (Region.ready md ops listed).contains i = true)
    (hQ : ∀ c a w, Q (.panic c) (a.put oi.dst v) w → Q (.panic c) a w) (hy : Yields P ops oi v a)
    (h : wpAny P md ops Q fuel (listed.setIfInBounds i true) (a.put d v) w) : wpAny P md ops Q (fuel + 1) listed a w := by
  subst hd
  exact wpAny_take hi hs hf hr hQ hy h
theorem keep_set {W : World} {g i : Nat} {v : Value} {j : Nat} (h : j ≠ g) : (W.setCell ⟨g, i, none⟩ v).heap[j]? = W.heap[j]? := Below.heap_setCell _ _ _ _ h
theorem ent9 : ∀ k, k < 43 → (entAt k).a = (if (!decide (0 < owner9 ((k : Int) + 1) 1)) = true then 0 else (rk9 ((k : Int) + 1)).a) ∧ (entAt k).b = (if (!decide (0 < owner9 ((k : Int) + 1) 2)) = true then 0 else (rk9 ((k : Int) + 1)).b) ∧ (entAt k).c = (if (!decide (0 < owner9 ((k : Int) + 1) 2)) = true then 0 else (rk9 ((k : Int) + 1)).c) := by decide
/-- the end: nine stores into the result's block, the return -/
theorem end9 {k : Nat} {w X : World} {fn : Func} (hr : fn.results = #[.cell 2 TPr, .tmp 3]) {tmps : Array Value} {s : ByteArray} {m d : Bool} {a b c n : Int} {has co : Bool} {a0 a1 a2 a3 a4 a5 a6 a7 a8 : Value}
    (h2 : tmps.getD 2 undef = .pointer (some ⟨w.heap.size, 0, none⟩)) (h3 : tmps.getD 3 undef = .int .i64 0) (hz : X.heap[w.heap.size]? = some (.cells #[a0, a1, a2, a3, a4, a5, a6, a7, a8] TPr (0, 0))) (hb : Below w.heap.size w X) (ha : (entAt k).a = a) (hb' : (entAt k).b = b) (hc : (entAt k).c = c) :
    bodyPost Tryz.prog fn (fun e w' => (∃ (s : ByteArray) (m d : Bool) (n : Int) (has co : Bool), e = .returned (.tuple #[.agg #[.string s, .bool m, .bool d, .int .i64 (entAt k).a, .int .i64 (entAt k).b, .int .i64 (entAt k).c, .int .i64 n, .bool has, .bool co], .int .i64 0])) ∧ Below w.heap.size w w') Exit.ret { tmps := tmps, defers := [] }
      (((((((((X.setCell ⟨w.heap.size, 0, none⟩ (.string s)).setCell ⟨w.heap.size, 1, none⟩ (.bool m)).setCell ⟨w.heap.size, 2, none⟩ (.bool d)).setCell ⟨w.heap.size, 3, none⟩ (.int .i64 a)).setCell ⟨w.heap.size, 4, none⟩ (.int .i64 b)).setCell ⟨w.heap.size, 5, none⟩ (.int .i64 c)).setCell ⟨w.heap.size, 6, none⟩ (.int .i64 n)).setCell ⟨w.heap.size, 7, none⟩ (.bool has)).setCell ⟨w.heap.size, 8, none⟩ (.bool co)) := by
  subst ha hb' hc
  obtain ⟨e1, e2⟩ := nine (.string s) (.bool m) (.bool d) (.int .i64 (entAt k).a) (.int .i64 (entAt k).b) (.int .i64 (entAt k).c) (.int .i64 n) (.bool has) (.bool co) hz hb (Nat.le_refl _)
  exact bodyPost_ret (results_prim (p := 2) (t := 3) hr h2 h3 e1) rfl ⟨⟨s, m, d, n, has, co, rfl⟩, e2⟩
/-- the spelling of row k -/
def spK (k : Nat) : ByteArray := ⟨(spells.getD k []).toArray⟩
theorem spell_at {k : Nat} (hk : k < 43) : (⟨spells.map fun c => Value.string ⟨c.toArray⟩⟩ : Array Value)[k]? = some (.string (spK k)) := by
  rw [List.getElem?_toArray, List.getElem?_map, List.getElem?_eq_getElem (by rw [spells_len]; exact hk)]
  unfold spK
  rw [List.getD_eq_getElem?_getD, List.getElem?_eq_getElem (by rw [spells_len]; exact hk)]
  rfl
set_option maxRecDepth 100000 in
set_option maxHeartbeats 32000000 in
theorem info9_any (k : Nat) (hk : k < 43) (w : World) : Calls Tryz.prog 115 #[.int .i64 ((k : Int) + 1)] w fun e w' => (∃ (s : ByteArray) (m d : Bool) (n : Int) (has co : Bool), e = .returned (.tuple #[.agg #[.string s, .bool m, .bool d, .int .i64 (entAt k).a, .int .i64 (entAt k).b, .int .i64 (entAt k).c, .int .i64 n, .bool has, .bool co], .int .i64 0])) ∧ Below w.heap.size w w' := by
  obtain ⟨W1, hW1⟩ : ∃ W1, W1 = w.alloc (.cells #[.string ⟨#[]⟩, .bool false, .bool false, .int .i64 0, .int .i64 0, .int .i64 0, .int .i64 0, .bool false, .bool false] TPr) := ⟨_, rfl⟩
  have hz1 : W1.heap[w.heap.size]? = some (.cells #[.string ⟨#[]⟩, .bool false, .bool false, .int .i64 0, .int .i64 0, .int .i64 0, .int .i64 0, .bool false, .bool false] TPr (0, 0)) := by rw [hW1]; exact heap_alloc_new w _
  have hb1 : Below w.heap.size w W1 := by rw [hW1]; exact (Below.refl _ _).alloc (Nat.le_refl _) _
  have HW1 := Lib.hid hW1
  have H1 := Lib.hid (And.intro hz1 hb1)
  have d1 : ¬ (k : Int) + 1 < 1 := by omega
  have d2 : ¬ 43 < (k : Int) + 1 := by omega
  have d3 : IntKind.i64.wrap (k : Int) = k := by rw [IntKind.wrap_i64]; omega
  have d5 : (0 : Int) ≤ (k : Int) := by omega
  have d6 : (k : Int) < 43 := by omega
  clear hW1 hz1 hb1
  go_enter Tryz.func115, Tryz.ntmps115
  go_upto_region 1 with fail
  rw [← HW1.out]
  go_upto_region 3 with fail
  refine wp_region_any (by kernel_rfl) ?_
  change wpAny _ _ _ _ _ _ _ (World.drew _)
  obtain ⟨X0, hX⟩ : ∃ X, X = W1.drew := ⟨_, rfl⟩
  have HX0 : Hid (Below W1.heap.size W1 X0) := Lib.hid (by rw [hX]; exact (Below.refl _ _).drew)
  rw [← hX]
  clear hX
  refine take_free (i := 1) (d := some 13) (v := (.int .i64 ((k : Int) + 1))) rfl rfl (by kernel_rfl) (by kernel_rfl) (by kernel_rfl) (fun _ _ _ h => h) (Or.inl ⟨by rfl, ?_⟩) ?_
  · intro W; go_simp; try with_reducible rfl
  try simp only [Act.put, List.setIfInBounds_toArray, List.set_cons_zero, List.set_cons_succ]
  refine take_free (i := 2) (d := some 14) (v := (.int .i64 (k : Int))) rfl rfl (by kernel_rfl) (by kernel_rfl) (by kernel_rfl) (fun _ _ _ h => h) (Or.inl ⟨by rfl, ?_⟩) ?_
  · intro W; go_simp; try with_reducible rfl
  try simp only [Act.put, List.setIfInBounds_toArray, List.set_cons_zero, List.set_cons_succ]
  refine take_free (i := 5) (d := some 17) (v := (.int .i64 ((k : Int) + 1))) rfl rfl (by kernel_rfl) (by kernel_rfl) (by kernel_rfl) (fun _ _ _ h => h) (Or.inl ⟨by rfl, ?_⟩) ?_
  · intro W; go_simp; try with_reducible rfl
  try simp only [Act.put, List.setIfInBounds_toArray, List.set_cons_zero, List.set_cons_succ]
  refine take_free (i := 8) (d := some 20) (v := (.int .i64 ((k : Int) + 1))) rfl rfl (by kernel_rfl) (by kernel_rfl) (by kernel_rfl) (fun _ _ _ h => h) (Or.inl ⟨by rfl, ?_⟩) ?_
  · intro W; go_simp; try with_reducible rfl
  try simp only [Act.put, List.setIfInBounds_toArray, List.set_cons_zero, List.set_cons_succ]
  refine take_free (i := 11) (d := some 23) (v := (.int .i64 ((k : Int) + 1))) rfl rfl (by kernel_rfl) (by kernel_rfl) (by kernel_rfl) (fun _ _ _ h => h) (Or.inl ⟨by rfl, ?_⟩) ?_
  · intro W; go_simp; try with_reducible rfl
  try simp only [Act.put, List.setIfInBounds_toArray, List.set_cons_zero, List.set_cons_succ]
  refine take_free (i := 13) (d := some 25) (v := (.int .i64 ((k : Int) + 1))) rfl rfl (by kernel_rfl) (by kernel_rfl) (by kernel_rfl) (fun _ _ _ h => h) (Or.inl ⟨by rfl, ?_⟩) ?_
  · intro W; go_simp; try with_reducible rfl
  try simp only [Act.put, List.setIfInBounds_toArray, List.set_cons_zero, List.set_cons_succ]
  refine wpAny_ready (rs := [0, 16]) (by kernel_rfl) (by simp) ?_
  refine AllReady.cons rfl (fun K hK => ?_) ?_
  · go_simp
    go_at_call 141
    refine (spellings_any X0).mono ?_
    rintro e VA ⟨rfl, hb, hsp⟩
    obtain ⟨gs, hgs⟩ : ∃ g, g = X0.heap.size := ⟨_, rfl⟩
    rw [← hgs] at hsp ⊢
    have SPF : Hid (∀ W, Below VA.heap.size VA W → W.cell? ⟨gs, k, none⟩ = some (.string (spK k)) ∧ gs < W.heap.size) := Lib.hid fun W h => by
      have h1 := (h.block _ (heap_lt hsp)).trans hsp
      exact ⟨cell_at h1 (spell_at hk), heap_lt h1⟩
    have HVA := Lib.hid (HX0.out.then_ hb)

    clear hb hsp hgs
    refine hK _ _ ?_
    clear hK K
    refine wpAny_of_held (S := fun W => W.cell? ⟨gs, k, none⟩ = some (.string (spK k)) ∧ gs < W.heap.size) _ _ _ _ ?_
    have hHeld := SPF.out VA (Below.refl _ _)
    try simp only [Act.put, List.setIfInBounds_toArray, List.set_cons_zero, List.set_cons_succ]
    refine take_still (i := 3) (d := some 15) (v := (.pointer (some ⟨gs, k, none⟩))) rfl rfl (by kernel_rfl) (by kernel_rfl) (by kernel_rfl) (fun _ _ _ h => h) (Or.inl ⟨by rfl, ?_⟩) hHeld ?_
    · intro W hSw; go_simp; try with_reducible rfl
    try simp only [Act.put, List.setIfInBounds_toArray, List.set_cons_zero, List.set_cons_succ]
    refine take_still (i := 4) (d := some 16) (v := (.string (spK k))) rfl rfl (by kernel_rfl) (by kernel_rfl) (by kernel_rfl) (fun _ _ _ h => h) (Or.inl ⟨by rfl, ?_⟩) hHeld ?_
    · intro W hSw; have h1 := hSw.1; have h2 := hSw.2; go_simp; try with_reducible rfl
    try simp only [Act.put, List.setIfInBounds_toArray, List.set_cons_zero, List.set_cons_succ]
    refine wpAnyH_ready (rs := [6, 16]) (by kernel_rfl) (by simp) ?_
    refine AllReadyH.cons rfl (fun K hK => ?_) ?_
    · go_simp
      go_at_call 142
      refine (owner_any ((k : Int) + 1) 1 VA).mono ?_
      rintro e V1 ⟨rfl, hww⟩
      have hb : Below VA.heap.size VA V1 := by rw [hww]; exact Below.refl _ _
      clear hww
      have HB1 := Lib.hid (HVA.out.then_ hb)
      have HS1 := Lib.hid ((Below.refl VA.heap.size VA).then_ hb)
      clear hb
      refine hK.out _ _ (SPF.out _ HS1.out) (fun hHeld => ?_)
      clear hK K
      refine take_still (i := 7) (d := some 19) (v := .bool (decide (0 < owner9 ((k : Int) + 1) 1))) rfl rfl (by kernel_rfl) (by kernel_rfl) (by kernel_rfl) (fun _ _ _ h => h) (Or.inl ⟨by rfl, ?_⟩) hHeld ?_
      · intro W hSw; go_simp; try with_reducible rfl
      try simp only [Act.put, List.setIfInBounds_toArray, List.set_cons_zero, List.set_cons_succ]
      refine wpAnyH_ready (rs := [9, 16]) (by kernel_rfl) (by simp) ?_
      refine AllReadyH.cons rfl (fun K hK => ?_) ?_
      · go_simp
        go_at_call 142
        refine (owner_any ((k : Int) + 1) 2 V1).mono ?_
        rintro e V2 ⟨rfl, hww⟩
        have hb : Below V1.heap.size V1 V2 := by rw [hww]; exact Below.refl _ _
        clear hww
        have HB2 := Lib.hid (HB1.out.then_ hb)
        have HS2 := Lib.hid (HS1.out.then_ hb)
        clear hb
        refine hK.out _ _ (SPF.out _ HS2.out) (fun hHeld => ?_)
        clear hK K
        refine take_still (i := 10) (d := some 22) (v := .bool (decide (0 < owner9 ((k : Int) + 1) 2))) rfl rfl (by kernel_rfl) (by kernel_rfl) (by kernel_rfl) (fun _ _ _ h => h) (Or.inl ⟨by rfl, ?_⟩) hHeld ?_
        · intro W hSw; go_simp; try with_reducible rfl
        try simp only [Act.put, List.setIfInBounds_toArray, List.set_cons_zero, List.set_cons_succ]
        refine wpAnyH_ready (rs := [12, 16]) (by kernel_rfl) (by simp) ?_
        refine AllReadyH.cons rfl (fun K hK => ?_) ?_
        · go_simp
          go_at_call 143
          refine (rk9_any ((k : Int) + 1) V2).mono ?_
          rintro e V3 ⟨rfl, hb⟩
          have HB3 := Lib.hid (HB2.out.then_ hb)
          have HS3 := Lib.hid (HS2.out.then_ hb)
          clear hb
          refine hK.out _ _ (SPF.out _ HS3.out) (fun hHeld => ?_)
          clear hK K
          refine wpAnyH_ready (rs := [14, 16]) (by kernel_rfl) (by simp) ?_
          refine AllReadyH.cons rfl (fun K hK => ?_) ?_
          · go_simp
            go_at_call 144
            refine (comm9_any ((k : Int) + 1) V3).mono ?_
            rintro e V4 ⟨⟨bc, rfl⟩, hww⟩
            have hb : Below V3.heap.size V3 V4 := by rw [hww]; exact Below.refl _ _
            clear hww
            have HB4 := Lib.hid (HB3.out.then_ hb)
            have HS4 := Lib.hid (HS3.out.then_ hb)
            clear hb
            refine hK.out _ _ (SPF.out _ HS4.out) (fun hHeld => ?_)
            clear hK K
            refine take_still (i := 15) (d := some 27) (v := .agg #[.string (spK k), .bool (decide (0 < owner9 ((k : Int) + 1) 1)), .bool (decide (0 < owner9 ((k : Int) + 1) 2)), .int .i64 (rk9 ((k : Int) + 1)).a, .int .i64 (rk9 ((k : Int) + 1)).b, .int .i64 (rk9 ((k : Int) + 1)).c, .int .i64 0, .bool false, .bool bc]) rfl rfl (by kernel_rfl) (by kernel_rfl) (by kernel_rfl) (fun _ _ _ h => h) (Or.inl ⟨by rfl, ?_⟩) hHeld ?_
            · intro W hSw; go_simp; try with_reducible rfl
            try simp only [Act.put, List.setIfInBounds_toArray, List.set_cons_zero, List.set_cons_succ]
            refine wpAnyH_ready (rs := [16]) (by kernel_rfl) (by simp) ?_
            refine AllReadyH.cons rfl (fun K hK => ?_) ?_
            · go_simp
              obtain ⟨V5, hV⟩ : ∃ V, V = V4.alloc (.cells #[.string ⟨#[]⟩, .bool false, .bool false, .int .i64 0, .int .i64 0, .int .i64 0, .int .i64 0, .bool false, .bool false] TPr) := ⟨_, rfl⟩
              obtain ⟨g4, hg⟩ : ∃ g, g = V4.heap.size := ⟨_, rfl⟩
              have hb : Below V4.heap.size V4 V5 := by rw [hV]; exact (Below.refl _ _).alloc (Nat.le_refl _) _
              have HG5 : Hid (V5.heap[g4]? = some (.cells #[.string ⟨#[]⟩, .bool false, .bool false, .int .i64 0, .int .i64 0, .int .i64 0, .int .i64 0, .bool false, .bool false] TPr (0, 0)) ∧ W1.heap.size ≤ g4) := Lib.hid ⟨by rw [hV, hg]; exact heap_alloc_new _ _, by rw [hg]; exact HB4.out.size⟩
              have HNE : Hid (gs ≠ g4) := Lib.hid (by have := (SPF.out V4 HS4.out).2; omega)
              rw [← hV, ← hg]
              clear hV hg
              have HB5 := Lib.hid (HB4.out.then_ hb)
              have HS5 := Lib.hid (HS4.out.then_ hb)
              clear hb
              refine hK.out _ _ (SPF.out _ HS5.out) (fun hHeld => ?_)
              clear hK K
              have hg := HG5.out.1
              have g0_ := cell_at hg (j := 0) rfl
              have g1_ := cell_at hg (j := 1) rfl
              have g2_ := cell_at hg (j := 2) rfl
              have g3_ := cell_at hg (j := 3) rfl
              have g4_ := cell_at hg (j := 4) rfl
              have g5_ := cell_at hg (j := 5) rfl
              have g6_ := cell_at hg (j := 6) rfl
              have g7_ := cell_at hg (j := 7) rfl
              have g8_ := cell_at hg (j := 8) rfl
              have gf := unfrozen hg
              have gl := heap_lt hg
              clear hg
              refine wpAnyH_ready (rs := [17]) (by kernel_rfl) (by simp) ?_
              refine AllReadyH.cons rfl (fun K hK => ?_) AllReadyH.nil
              go_simp
              obtain ⟨X1, hX⟩ : ∃ X, X = (((((((((V5.setCell ⟨g4, 0, none⟩ (.string (spK k))).setCell ⟨g4, 1, none⟩ (.bool (decide (0 < owner9 ((k : Int) + 1) 1)))).setCell ⟨g4, 2, none⟩ (.bool (decide (0 < owner9 ((k : Int) + 1) 2)))).setCell ⟨g4, 3, none⟩ (.int .i64 (rk9 ((k : Int) + 1)).a)).setCell ⟨g4, 4, none⟩ (.int .i64 (rk9 ((k : Int) + 1)).b)).setCell ⟨g4, 5, none⟩ (.int .i64 (rk9 ((k : Int) + 1)).c)).setCell ⟨g4, 6, none⟩ (.int .i64 0)).setCell ⟨g4, 7, none⟩ (.bool false)).setCell ⟨g4, 8, none⟩ (.bool bc)) := ⟨_, rfl⟩
              obtain ⟨n1, n2⟩ := nine (.string (spK k)) (.bool (decide (0 < owner9 ((k : Int) + 1) 1))) (.bool (decide (0 < owner9 ((k : Int) + 1) 2))) (.int .i64 (rk9 ((k : Int) + 1)).a) (.int .i64 (rk9 ((k : Int) + 1)).b) (.int .i64 (rk9 ((k : Int) + 1)).c) (.int .i64 0) (.bool false) (.bool bc) HG5.out.1 (H1.out.2.then_ (HB5.out)) (by have h1 := HG5.out.2; have h2 := heap_lt H1.out.1; omega)
              have hk1 : ∀ j, j ≠ g4 → X1.heap[j]? = V5.heap[j]? := fun j hj => by rw [hX]; simp only [keep_set hj]
              rw [← hX] at n1 n2 ⊢
              refine hK.out _ _ ⟨(World.cell?_of_block (a := ⟨gs, k, none⟩) (hk1 gs HNE.out)).trans hHeld.1, by have h1 := hHeld.2; rw [hX]; simpa [World.setCell] using h1⟩ (fun hHeld => ?_)
              have HN1 := Lib.hid (And.intro n1 n2)
              have HZ1 : Hid (X1.heap[w.heap.size]? = some (.cells #[.string ⟨#[]⟩, .bool false, .bool false, .int .i64 0, .int .i64 0, .int .i64 0, .int .i64 0, .bool false, .bool false] TPr (0, 0)) ∧ w.heap.size < g4 ∧ w.heap.size ≠ g4) := Lib.hid ⟨(hk1 _ (by have h1 := HG5.out.2; have h2 := heap_lt H1.out.1; omega)).trans ((HB5.out.block _ (heap_lt H1.out.1)).trans H1.out.1), by have h1 := HG5.out.2; have h2 := heap_lt H1.out.1; omega, by have h1 := HG5.out.2; have h2 := heap_lt H1.out.1; omega⟩
              clear n1 n2 hk1 hX hK K g0_ g1_ g2_ g3_ g4_ g5_ g6_ g7_ g8_ gf gl
              refine wpAnyH_done (by kernel_rfl) ?_ _
              clear hHeld
              have h4 := HN1.out.1
              have h4l := heap_lt h4
              have g0_ := cell_at h4 (j := 0) rfl
              have g1_ := cell_at h4 (j := 1) rfl
              have g2_ := cell_at h4 (j := 2) rfl
              have g3_ := cell_at h4 (j := 3) rfl
              have g4_ := cell_at h4 (j := 4) rfl
              have g5_ := cell_at h4 (j := 5) rfl
              have g6_ := cell_at h4 (j := 6) rfl
              have g7_ := cell_at h4 (j := 7) rfl
              have g8_ := cell_at h4 (j := 8) rfl
              have g4f := unfrozen h4
              have hz := HZ1.out.1
              have z0_ := cell_at hz (j := 0) rfl
              have z1_ := cell_at hz (j := 1) rfl
              have z2_ := cell_at hz (j := 2) rfl
              have z3_ := cell_at hz (j := 3) rfl
              have z4_ := cell_at hz (j := 4) rfl
              have z5_ := cell_at hz (j := 5) rfl
              have z6_ := cell_at hz (j := 6) rfl
              have z7_ := cell_at hz (j := 7) rfl
              have z8_ := cell_at hz (j := 8) rfl
              have zf := unfrozen hz
              have hn1 := HZ1.out.2.2
              have hn2 := HZ1.out.2.2.symm
              clear h4 hz
              go_wp2_with fail
              all_goals
                refine (ident9_any _ _).mono ?_
                rintro e w'' ⟨⟨n, bi, rfl⟩, rfl⟩
                go_wp2_with fail
              all_goals
                rename_i q1 q2
                have ha := (ent9 k hk).1
                have hb' := (ent9 k hk).2.1
                have hc := (ent9 k hk).2.2
                simp only [q1, q2, reduceIte] at ha hb' hc
                refine end9 (k := k) (w := w) rfl rfl rfl (by simp only [keep_set hn1]; exact HZ1.out.1) ?hb ha hb' hc
                case hb =>
                  repeat refine Below.setCell ?_ (Nat.le_of_lt HZ1.out.2.1) _
                  exact HN1.out.2
            exact AllReadyH.nil
          refine AllReadyH.cons rfl (fun K hK => ?_) ?_
          · go_simp
            obtain ⟨V6, hV⟩ : ∃ V, V = V3.alloc (.cells #[.string ⟨#[]⟩, .bool false, .bool false, .int .i64 0, .int .i64 0, .int .i64 0, .int .i64 0, .bool false, .bool false] TPr) := ⟨_, rfl⟩
            obtain ⟨g4, hg⟩ : ∃ g, g = V3.heap.size := ⟨_, rfl⟩
            have hb : Below V3.heap.size V3 V6 := by rw [hV]; exact (Below.refl _ _).alloc (Nat.le_refl _) _
            have HG6 : Hid (V6.heap[g4]? = some (.cells #[.string ⟨#[]⟩, .bool false, .bool false, .int .i64 0, .int .i64 0, .int .i64 0, .int .i64 0, .bool false, .bool false] TPr (0, 0)) ∧ W1.heap.size ≤ g4) := Lib.hid ⟨by rw [hV, hg]; exact heap_alloc_new _ _, by rw [hg]; exact HB3.out.size⟩
            have HNE : Hid (gs ≠ g4) := Lib.hid (by have := (SPF.out V3 HS3.out).2; omega)
            rw [← hV, ← hg]
            clear hV hg
            have HB6 := Lib.hid (HB3.out.then_ hb)
            have HS6 := Lib.hid (HS3.out.then_ hb)
            clear hb
            refine hK.out _ _ (SPF.out _ HS6.out) (fun hHeld => ?_)
            clear hK K
            refine wpAnyH_ready (rs := [14]) (by kernel_rfl) (by simp) ?_
            refine AllReadyH.cons rfl (fun K hK => ?_) ?_
            · go_simp
              go_at_call 144
              refine (comm9_any ((k : Int) + 1) V6).mono ?_
              rintro e V7 ⟨⟨bc, rfl⟩, hww⟩
              have hb : Below V6.heap.size V6 V7 := by rw [hww]; exact Below.refl _ _
              clear hww
              have HG7 : Hid (V7.heap[g4]? = some (.cells #[.string ⟨#[]⟩, .bool false, .bool false, .int .i64 0, .int .i64 0, .int .i64 0, .int .i64 0, .bool false, .bool false] TPr (0, 0)) ∧ W1.heap.size ≤ g4) := Lib.hid ⟨(hb.block _ (heap_lt HG6.out.1)).trans HG6.out.1, HG6.out.2⟩
              have HB7 := Lib.hid (HB6.out.then_ hb)
              have HS7 := Lib.hid (HS6.out.then_ hb)
              clear hb
              refine hK.out _ _ (SPF.out _ HS7.out) (fun hHeld => ?_)
              clear hK K
              refine take_still (i := 15) (d := some 27) (v := .agg #[.string (spK k), .bool (decide (0 < owner9 ((k : Int) + 1) 1)), .bool (decide (0 < owner9 ((k : Int) + 1) 2)), .int .i64 (rk9 ((k : Int) + 1)).a, .int .i64 (rk9 ((k : Int) + 1)).b, .int .i64 (rk9 ((k : Int) + 1)).c, .int .i64 0, .bool false, .bool bc]) rfl rfl (by kernel_rfl) (by kernel_rfl) (by kernel_rfl) (fun _ _ _ h => h) (Or.inl ⟨by rfl, ?_⟩) hHeld ?_
              · intro W hSw; go_simp; try with_reducible rfl
              try simp only [Act.put, List.setIfInBounds_toArray, List.set_cons_zero, List.set_cons_succ]
              have hg := HG7.out.1
              have g0_ := cell_at hg (j := 0) rfl
              have g1_ := cell_at hg (j := 1) rfl
              have g2_ := cell_at hg (j := 2) rfl
              have g3_ := cell_at hg (j := 3) rfl
              have g4_ := cell_at hg (j := 4) rfl
              have g5_ := cell_at hg (j := 5) rfl
              have g6_ := cell_at hg (j := 6) rfl
              have g7_ := cell_at hg (j := 7) rfl
              have g8_ := cell_at hg (j := 8) rfl
              have gf := unfrozen hg
              have gl := heap_lt hg
              clear hg
              refine wpAnyH_ready (rs := [17]) (by kernel_rfl) (by simp) ?_
              refine AllReadyH.cons rfl (fun K hK => ?_) AllReadyH.nil
              go_simp
              obtain ⟨X1, hX⟩ : ∃ X, X = (((((((((V7.setCell ⟨g4, 0, none⟩ (.string (spK k))).setCell ⟨g4, 1, none⟩ (.bool (decide (0 < owner9 ((k : Int) + 1) 1)))).setCell ⟨g4, 2, none⟩ (.bool (decide (0 < owner9 ((k : Int) + 1) 2)))).setCell ⟨g4, 3, none⟩ (.int .i64 (rk9 ((k : Int) + 1)).a)).setCell ⟨g4, 4, none⟩ (.int .i64 (rk9 ((k : Int) + 1)).b)).setCell ⟨g4, 5, none⟩ (.int .i64 (rk9 ((k : Int) + 1)).c)).setCell ⟨g4, 6, none⟩ (.int .i64 0)).setCell ⟨g4, 7, none⟩ (.bool false)).setCell ⟨g4, 8, none⟩ (.bool bc)) := ⟨_, rfl⟩
              obtain ⟨n1, n2⟩ := nine (.string (spK k)) (.bool (decide (0 < owner9 ((k : Int) + 1) 1))) (.bool (decide (0 < owner9 ((k : Int) + 1) 2))) (.int .i64 (rk9 ((k : Int) + 1)).a) (.int .i64 (rk9 ((k : Int) + 1)).b) (.int .i64 (rk9 ((k : Int) + 1)).c) (.int .i64 0) (.bool false) (.bool bc) HG7.out.1 (H1.out.2.then_ (HB7.out)) (by have h1 := HG7.out.2; have h2 := heap_lt H1.out.1; omega)
              have hk1 : ∀ j, j ≠ g4 → X1.heap[j]? = V7.heap[j]? := fun j hj => by rw [hX]; simp only [keep_set hj]
              rw [← hX] at n1 n2 ⊢
              refine hK.out _ _ ⟨(World.cell?_of_block (a := ⟨gs, k, none⟩) (hk1 gs HNE.out)).trans hHeld.1, by have h1 := hHeld.2; rw [hX]; simpa [World.setCell] using h1⟩ (fun hHeld => ?_)
              have HN1 := Lib.hid (And.intro n1 n2)
              have HZ1 : Hid (X1.heap[w.heap.size]? = some (.cells #[.string ⟨#[]⟩, .bool false, .bool false, .int .i64 0, .int .i64 0, .int .i64 0, .int .i64 0, .bool false, .bool false] TPr (0, 0)) ∧ w.heap.size < g4 ∧ w.heap.size ≠ g4) := Lib.hid ⟨(hk1 _ (by have h1 := HG7.out.2; have h2 := heap_lt H1.out.1; omega)).trans ((HB7.out.block _ (heap_lt H1.out.1)).trans H1.out.1), by have h1 := HG7.out.2; have h2 := heap_lt H1.out.1; omega, by have h1 := HG7.out.2; have h2 := heap_lt H1.out.1; omega⟩
              clear n1 n2 hk1 hX hK K g0_ g1_ g2_ g3_ g4_ g5_ g6_ g7_ g8_ gf gl
              refine wpAnyH_done (by kernel_rfl) ?_ _
              clear hHeld
              have h4 := HN1.out.1
              have h4l := heap_lt h4
              have g0_ := cell_at h4 (j := 0) rfl
              have g1_ := cell_at h4 (j := 1) rfl
              have g2_ := cell_at h4 (j := 2) rfl
              have g3_ := cell_at h4 (j := 3) rfl
              have g4_ := cell_at h4 (j := 4) rfl
              have g5_ := cell_at h4 (j := 5) rfl
              have g6_ := cell_at h4 (j := 6) rfl
              have g7_ := cell_at h4 (j := 7) rfl
              have g8_ := cell_at h4 (j := 8) rfl
              have g4f := unfrozen h4
              have hz := HZ1.out.1
              have z0_ := cell_at hz (j := 0) rfl
              have z1_ := cell_at hz (j := 1) rfl
              have z2_ := cell_at hz (j := 2) rfl
              have z3_ := cell_at hz (j := 3) rfl
              have z4_ := cell_at hz (j := 4) rfl
              have z5_ := cell_at hz (j := 5) rfl
              have z6_ := cell_at hz (j := 6) rfl
              have z7_ := cell_at hz (j := 7) rfl
              have z8_ := cell_at hz (j := 8) rfl
              have zf := unfrozen hz
              have hn1 := HZ1.out.2.2
              have hn2 := HZ1.out.2.2.symm
              clear h4 hz
              go_wp2_with fail
              all_goals
                refine (ident9_any _ _).mono ?_
                rintro e w'' ⟨⟨n, bi, rfl⟩, rfl⟩
                go_wp2_with fail
              all_goals
                rename_i q1 q2
                have ha := (ent9 k hk).1
                have hb' := (ent9 k hk).2.1
                have hc := (ent9 k hk).2.2
                simp only [q1, q2, reduceIte] at ha hb' hc
                refine end9 (k := k) (w := w) rfl rfl rfl (by simp only [keep_set hn1]; exact HZ1.out.1) ?hb ha hb' hc
                case hb =>
                  repeat refine Below.setCell ?_ (Nat.le_of_lt HZ1.out.2.1) _
                  exact HN1.out.2
            exact AllReadyH.nil
          exact AllReadyH.nil
        refine AllReadyH.cons rfl (fun K hK => ?_) ?_
        · go_simp
          obtain ⟨V8, hV⟩ : ∃ V, V = V2.alloc (.cells #[.string ⟨#[]⟩, .bool false, .bool false, .int .i64 0, .int .i64 0, .int .i64 0, .int .i64 0, .bool false, .bool false] TPr) := ⟨_, rfl⟩
          obtain ⟨g4, hg⟩ : ∃ g, g = V2.heap.size := ⟨_, rfl⟩
          have hb : Below V2.heap.size V2 V8 := by rw [hV]; exact (Below.refl _ _).alloc (Nat.le_refl _) _
          have HG8 : Hid (V8.heap[g4]? = some (.cells #[.string ⟨#[]⟩, .bool false, .bool false, .int .i64 0, .int .i64 0, .int .i64 0, .int .i64 0, .bool false, .bool false] TPr (0, 0)) ∧ W1.heap.size ≤ g4) := Lib.hid ⟨by rw [hV, hg]; exact heap_alloc_new _ _, by rw [hg]; exact HB2.out.size⟩
          have HNE : Hid (gs ≠ g4) := Lib.hid (by have := (SPF.out V2 HS2.out).2; omega)
          rw [← hV, ← hg]
          clear hV hg
          have HB8 := Lib.hid (HB2.out.then_ hb)
          have HS8 := Lib.hid (HS2.out.then_ hb)
          clear hb
          refine hK.out _ _ (SPF.out _ HS8.out) (fun hHeld => ?_)
          clear hK K
          refine wpAnyH_ready (rs := [12]) (by kernel_rfl) (by simp) ?_
          refine AllReadyH.cons rfl (fun K hK => ?_) ?_
          · go_simp
            go_at_call 143
            refine (rk9_any ((k : Int) + 1) V8).mono ?_
            rintro e V9 ⟨rfl, hb⟩
            have HG9 : Hid (V9.heap[g4]? = some (.cells #[.string ⟨#[]⟩, .bool false, .bool false, .int .i64 0, .int .i64 0, .int .i64 0, .int .i64 0, .bool false, .bool false] TPr (0, 0)) ∧ W1.heap.size ≤ g4) := Lib.hid ⟨(hb.block _ (heap_lt HG8.out.1)).trans HG8.out.1, HG8.out.2⟩
            have HB9 := Lib.hid (HB8.out.then_ hb)
            have HS9 := Lib.hid (HS8.out.then_ hb)
            clear hb
            refine hK.out _ _ (SPF.out _ HS9.out) (fun hHeld => ?_)
            clear hK K
            refine wpAnyH_ready (rs := [14]) (by kernel_rfl) (by simp) ?_
            refine AllReadyH.cons rfl (fun K hK => ?_) ?_
            · go_simp
              go_at_call 144
              refine (comm9_any ((k : Int) + 1) V9).mono ?_
              rintro e V10 ⟨⟨bc, rfl⟩, hww⟩
              have hb : Below V9.heap.size V9 V10 := by rw [hww]; exact Below.refl _ _
              clear hww
              have HG10 : Hid (V10.heap[g4]? = some (.cells #[.string ⟨#[]⟩, .bool false, .bool false, .int .i64 0, .int .i64 0, .int .i64 0, .int .i64 0, .bool false, .bool false] TPr (0, 0)) ∧ W1.heap.size ≤ g4) := Lib.hid ⟨(hb.block _ (heap_lt HG9.out.1)).trans HG9.out.1, HG9.out.2⟩
              have HB10 := Lib.hid (HB9.out.then_ hb)
              have HS10 := Lib.hid (HS9.out.then_ hb)
              clear hb
              refine hK.out _ _ (SPF.out _ HS10.out) (fun hHeld => ?_)
              clear hK K
              refine take_still (i := 15) (d := some 27) (v := .agg #[.string (spK k), .bool (decide (0 < owner9 ((k : Int) + 1) 1)), .bool (decide (0 < owner9 ((k : Int) + 1) 2)), .int .i64 (rk9 ((k : Int) + 1)).a, .int .i64 (rk9 ((k : Int) + 1)).b, .int .i64 (rk9 ((k : Int) + 1)).c, .int .i64 0, .bool false, .bool bc]) rfl rfl (by kernel_rfl) (by kernel_rfl) (by kernel_rfl) (fun _ _ _ h => h) (Or.inl ⟨by rfl, ?_⟩) hHeld ?_
              · intro W hSw; go_simp; try with_reducible rfl
              try simp only [Act.put, List.setIfInBounds_toArray, List.set_cons_zero, List.set_cons_succ]
              have hg := HG10.out.1
              have g0_ := cell_at hg (j := 0) rfl
              have g1_ := cell_at hg (j := 1) rfl
              have g2_ := cell_at hg (j := 2) rfl
              have g3_ := cell_at hg (j := 3) rfl
              have g4_ := cell_at hg (j := 4) rfl
              have g5_ := cell_at hg (j := 5) rfl
              have g6_ := cell_at hg (j := 6) rfl
              have g7_ := cell_at hg (j := 7) rfl
              have g8_ := cell_at hg (j := 8) rfl
              have gf := unfrozen hg
              have gl := heap_lt hg
              clear hg
              refine wpAnyH_ready (rs := [17]) (by kernel_rfl) (by simp) ?_
              refine AllReadyH.cons rfl (fun K hK => ?_) AllReadyH.nil
              go_simp
              obtain ⟨X1, hX⟩ : ∃ X, X = (((((((((V10.setCell ⟨g4, 0, none⟩ (.string (spK k))).setCell ⟨g4, 1, none⟩ (.bool (decide (0 < owner9 ((k : Int) + 1) 1)))).setCell ⟨g4, 2, none⟩ (.bool (decide (0 < owner9 ((k : Int) + 1) 2)))).setCell ⟨g4, 3, none⟩ (.int .i64 (rk9 ((k : Int) + 1)).a)).setCell ⟨g4, 4, none⟩ (.int .i64 (rk9 ((k : Int) + 1)).b)).setCell ⟨g4, 5, none⟩ (.int .i64 (rk9 ((k : Int) + 1)).c)).setCell ⟨g4, 6, none⟩ (.int .i64 0)).setCell ⟨g4, 7, none⟩ (.bool false)).setCell ⟨g4, 8, none⟩ (.bool bc)) := ⟨_, rfl⟩
              obtain ⟨n1, n2⟩ := nine (.string (spK k)) (.bool (decide (0 < owner9 ((k : Int) + 1) 1))) (.bool (decide (0 < owner9 ((k : Int) + 1) 2))) (.int .i64 (rk9 ((k : Int) + 1)).a) (.int .i64 (rk9 ((k : Int) + 1)).b) (.int .i64 (rk9 ((k : Int) + 1)).c) (.int .i64 0) (.bool false) (.bool bc) HG10.out.1 (H1.out.2.then_ (HB10.out)) (by have h1 := HG10.out.2; have h2 := heap_lt H1.out.1; omega)
              have hk1 : ∀ j, j ≠ g4 → X1.heap[j]? = V10.heap[j]? := fun j hj => by rw [hX]; simp only [keep_set hj]
              rw [← hX] at n1 n2 ⊢
              refine hK.out _ _ ⟨(World.cell?_of_block (a := ⟨gs, k, none⟩) (hk1 gs HNE.out)).trans hHeld.1, by have h1 := hHeld.2; rw [hX]; simpa [World.setCell] using h1⟩ (fun hHeld => ?_)
              have HN1 := Lib.hid (And.intro n1 n2)
              have HZ1 : Hid (X1.heap[w.heap.size]? = some (.cells #[.string ⟨#[]⟩, .bool false, .bool false, .int .i64 0, .int .i64 0, .int .i64 0, .int .i64 0, .bool false, .bool false] TPr (0, 0)) ∧ w.heap.size < g4 ∧ w.heap.size ≠ g4) := Lib.hid ⟨(hk1 _ (by have h1 := HG10.out.2; have h2 := heap_lt H1.out.1; omega)).trans ((HB10.out.block _ (heap_lt H1.out.1)).trans H1.out.1), by have h1 := HG10.out.2; have h2 := heap_lt H1.out.1; omega, by have h1 := HG10.out.2; have h2 := heap_lt H1.out.1; omega⟩
              clear n1 n2 hk1 hX hK K g0_ g1_ g2_ g3_ g4_ g5_ g6_ g7_ g8_ gf gl
              refine wpAnyH_done (by kernel_rfl) ?_ _
              clear hHeld
              have h4 := HN1.out.1
              have h4l := heap_lt h4
              have g0_ := cell_at h4 (j := 0) rfl
              have g1_ := cell_at h4 (j := 1) rfl
              have g2_ := cell_at h4 (j := 2) rfl
              have g3_ := cell_at h4 (j := 3) rfl
              have g4_ := cell_at h4 (j := 4) rfl
              have g5_ := cell_at h4 (j := 5) rfl
              have g6_ := cell_at h4 (j := 6) rfl
              have g7_ := cell_at h4 (j := 7) rfl
              have g8_ := cell_at h4 (j := 8) rfl
              have g4f := unfrozen h4
              have hz := HZ1.out.1
              have z0_ := cell_at hz (j := 0) rfl
              have z1_ := cell_at hz (j := 1) rfl
              have z2_ := cell_at hz (j := 2) rfl
              have z3_ := cell_at hz (j := 3) rfl
              have z4_ := cell_at hz (j := 4) rfl
              have z5_ := cell_at hz (j := 5) rfl
              have z6_ := cell_at hz (j := 6) rfl
              have z7_ := cell_at hz (j := 7) rfl
              have z8_ := cell_at hz (j := 8) rfl
              have zf := unfrozen hz
              have hn1 := HZ1.out.2.2
              have hn2 := HZ1.out.2.2.symm
              clear h4 hz
              go_wp2_with fail
              all_goals
                refine (ident9_any _ _).mono ?_
                rintro e w'' ⟨⟨n, bi, rfl⟩, rfl⟩
                go_wp2_with fail
              all_goals
                rename_i q1 q2
                have ha := (ent9 k hk).1
                have hb' := (ent9 k hk).2.1
                have hc := (ent9 k hk).2.2
                simp only [q1, q2, reduceIte] at ha hb' hc
                refine end9 (k := k) (w := w) rfl rfl rfl (by simp only [keep_set hn1]; exact HZ1.out.1) ?hb ha hb' hc
                case hb =>
                  repeat refine Below.setCell ?_ (Nat.le_of_lt HZ1.out.2.1) _
                  exact HN1.out.2
            exact AllReadyH.nil
          exact AllReadyH.nil
        exact AllReadyH.nil
      refine AllReadyH.cons rfl (fun K hK => ?_) ?_
      · go_simp
        obtain ⟨V11, hV⟩ : ∃ V, V = V1.alloc (.cells #[.string ⟨#[]⟩, .bool false, .bool false, .int .i64 0, .int .i64 0, .int .i64 0, .int .i64 0, .bool false, .bool false] TPr) := ⟨_, rfl⟩
        obtain ⟨g4, hg⟩ : ∃ g, g = V1.heap.size := ⟨_, rfl⟩
        have hb : Below V1.heap.size V1 V11 := by rw [hV]; exact (Below.refl _ _).alloc (Nat.le_refl _) _
        have HG11 : Hid (V11.heap[g4]? = some (.cells #[.string ⟨#[]⟩, .bool false, .bool false, .int .i64 0, .int .i64 0, .int .i64 0, .int .i64 0, .bool false, .bool false] TPr (0, 0)) ∧ W1.heap.size ≤ g4) := Lib.hid ⟨by rw [hV, hg]; exact heap_alloc_new _ _, by rw [hg]; exact HB1.out.size⟩
        have HNE : Hid (gs ≠ g4) := Lib.hid (by have := (SPF.out V1 HS1.out).2; omega)
        rw [← hV, ← hg]
        clear hV hg
        have HB11 := Lib.hid (HB1.out.then_ hb)
        have HS11 := Lib.hid (HS1.out.then_ hb)
        clear hb
        refine hK.out _ _ (SPF.out _ HS11.out) (fun hHeld => ?_)
        clear hK K
        refine wpAnyH_ready (rs := [9]) (by kernel_rfl) (by simp) ?_
        refine AllReadyH.cons rfl (fun K hK => ?_) ?_
        · go_simp
          go_at_call 142
          refine (owner_any ((k : Int) + 1) 2 V11).mono ?_
          rintro e V12 ⟨rfl, hww⟩
          have hb : Below V11.heap.size V11 V12 := by rw [hww]; exact Below.refl _ _
          clear hww
          have HG12 : Hid (V12.heap[g4]? = some (.cells #[.string ⟨#[]⟩, .bool false, .bool false, .int .i64 0, .int .i64 0, .int .i64 0, .int .i64 0, .bool false, .bool false] TPr (0, 0)) ∧ W1.heap.size ≤ g4) := Lib.hid ⟨(hb.block _ (heap_lt HG11.out.1)).trans HG11.out.1, HG11.out.2⟩
          have HB12 := Lib.hid (HB11.out.then_ hb)
          have HS12 := Lib.hid (HS11.out.then_ hb)
          clear hb
          refine hK.out _ _ (SPF.out _ HS12.out) (fun hHeld => ?_)
          clear hK K
          refine take_still (i := 10) (d := some 22) (v := .bool (decide (0 < owner9 ((k : Int) + 1) 2))) rfl rfl (by kernel_rfl) (by kernel_rfl) (by kernel_rfl) (fun _ _ _ h => h) (Or.inl ⟨by rfl, ?_⟩) hHeld ?_
          · intro W hSw; go_simp; try with_reducible rfl
          try simp only [Act.put, List.setIfInBounds_toArray, List.set_cons_zero, List.set_cons_succ]
          refine wpAnyH_ready (rs := [12]) (by kernel_rfl) (by simp) ?_
          refine AllReadyH.cons rfl (fun K hK => ?_) ?_
          · go_simp
            go_at_call 143
            refine (rk9_any ((k : Int) + 1) V12).mono ?_
            rintro e V13 ⟨rfl, hb⟩
            have HG13 : Hid (V13.heap[g4]? = some (.cells #[.string ⟨#[]⟩, .bool false, .bool false, .int .i64 0, .int .i64 0, .int .i64 0, .int .i64 0, .bool false, .bool false] TPr (0, 0)) ∧ W1.heap.size ≤ g4) := Lib.hid ⟨(hb.block _ (heap_lt HG12.out.1)).trans HG12.out.1, HG12.out.2⟩
            have HB13 := Lib.hid (HB12.out.then_ hb)
            have HS13 := Lib.hid (HS12.out.then_ hb)
            clear hb
            refine hK.out _ _ (SPF.out _ HS13.out) (fun hHeld => ?_)
            clear hK K
            refine wpAnyH_ready (rs := [14]) (by kernel_rfl) (by simp) ?_
            refine AllReadyH.cons rfl (fun K hK => ?_) ?_
            · go_simp
              go_at_call 144
              refine (comm9_any ((k : Int) + 1) V13).mono ?_
              rintro e V14 ⟨⟨bc, rfl⟩, hww⟩
              have hb : Below V13.heap.size V13 V14 := by rw [hww]; exact Below.refl _ _
              clear hww
              have HG14 : Hid (V14.heap[g4]? = some (.cells #[.string ⟨#[]⟩, .bool false, .bool false, .int .i64 0, .int .i64 0, .int .i64 0, .int .i64 0, .bool false, .bool false] TPr (0, 0)) ∧ W1.heap.size ≤ g4) := Lib.hid ⟨(hb.block _ (heap_lt HG13.out.1)).trans HG13.out.1, HG13.out.2⟩
              have HB14 := Lib.hid (HB13.out.then_ hb)
              have HS14 := Lib.hid (HS13.out.then_ hb)
              clear hb
              refine hK.out _ _ (SPF.out _ HS14.out) (fun hHeld => ?_)
              clear hK K
              refine take_still (i := 15) (d := some 27) (v := .agg #[.string (spK k), .bool (decide (0 < owner9 ((k : Int) + 1) 1)), .bool (decide (0 < owner9 ((k : Int) + 1) 2)), .int .i64 (rk9 ((k : Int) + 1)).a, .int .i64 (rk9 ((k : Int) + 1)).b, .int .i64 (rk9 ((k : Int) + 1)).c, .int .i64 0, .bool false, .bool bc]) rfl rfl (by kernel_rfl) (by kernel_rfl) (by kernel_rfl) (fun _ _ _ h => h) (Or.inl ⟨by rfl, ?_⟩) hHeld ?_
              · intro W hSw; go_simp; try with_reducible rfl
              try simp only [Act.put, List.setIfInBounds_toArray, List.set_cons_zero, List.set_cons_succ]
              have hg := HG14.out.1
              have g0_ := cell_at hg (j := 0) rfl
              have g1_ := cell_at hg (j := 1) rfl
              have g2_ := cell_at hg (j := 2) rfl
              have g3_ := cell_at hg (j := 3) rfl
              have g4_ := cell_at hg (j := 4) rfl
              have g5_ := cell_at hg (j := 5) rfl
              have g6_ := cell_at hg (j := 6) rfl
              have g7_ := cell_at hg (j := 7) rfl
              have g8_ := cell_at hg (j := 8) rfl
              have gf := unfrozen hg
              have gl := heap_lt hg
              clear hg
              refine wpAnyH_ready (rs := [17]) (by kernel_rfl) (by simp) ?_
              refine AllReadyH.cons rfl (fun K hK => ?_) AllReadyH.nil
              go_simp
              obtain ⟨X1, hX⟩ : ∃ X, X = (((((((((V14.setCell ⟨g4, 0, none⟩ (.string (spK k))).setCell ⟨g4, 1, none⟩ (.bool (decide (0 < owner9 ((k : Int) + 1) 1)))).setCell ⟨g4, 2, none⟩ (.bool (decide (0 < owner9 ((k : Int) + 1) 2)))).setCell ⟨g4, 3, none⟩ (.int .i64 (rk9 ((k : Int) + 1)).a)).setCell ⟨g4, 4, none⟩ (.int .i64 (rk9 ((k : Int) + 1)).b)).setCell ⟨g4, 5, none⟩ (.int .i64 (rk9 ((k : Int) + 1)).c)).setCell ⟨g4, 6, none⟩ (.int .i64 0)).setCell ⟨g4, 7, none⟩ (.bool false)).setCell ⟨g4, 8, none⟩ (.bool bc)) := ⟨_, rfl⟩
              obtain ⟨n1, n2⟩ := nine (.string (spK k)) (.bool (decide (0 < owner9 ((k : Int) + 1) 1))) (.bool (decide (0 < owner9 ((k : Int) + 1) 2))) (.int .i64 (rk9 ((k : Int) + 1)).a) (.int .i64 (rk9 ((k : Int) + 1)).b) (.int .i64 (rk9 ((k : Int) + 1)).c) (.int .i64 0) (.bool false) (.bool bc) HG14.out.1 (H1.out.2.then_ (HB14.out)) (by have h1 := HG14.out.2; have h2 := heap_lt H1.out.1; omega)
              have hk1 : ∀ j, j ≠ g4 → X1.heap[j]? = V14.heap[j]? := fun j hj => by rw [hX]; simp only [keep_set hj]
              rw [← hX] at n1 n2 ⊢
              refine hK.out _ _ ⟨(World.cell?_of_block (a := ⟨gs, k, none⟩) (hk1 gs HNE.out)).trans hHeld.1, by have h1 := hHeld.2; rw [hX]; simpa [World.setCell] using h1⟩ (fun hHeld => ?_)
              have HN1 := Lib.hid (And.intro n1 n2)
              have HZ1 : Hid (X1.heap[w.heap.size]? = some (.cells #[.string ⟨#[]⟩, .bool false, .bool false, .int .i64 0, .int .i64 0, .int .i64 0, .int .i64 0, .bool false, .bool false] TPr (0, 0)) ∧ w.heap.size < g4 ∧ w.heap.size ≠ g4) := Lib.hid ⟨(hk1 _ (by have h1 := HG14.out.2; have h2 := heap_lt H1.out.1; omega)).trans ((HB14.out.block _ (heap_lt H1.out.1)).trans H1.out.1), by have h1 := HG14.out.2; have h2 := heap_lt H1.out.1; omega, by have h1 := HG14.out.2; have h2 := heap_lt H1.out.1; omega⟩
              clear n1 n2 hk1 hX hK K g0_ g1_ g2_ g3_ g4_ g5_ g6_ g7_ g8_ gf gl
              refine wpAnyH_done (by kernel_rfl) ?_ _
              clear hHeld
              have h4 := HN1.out.1
              have h4l := heap_lt h4
              have g0_ := cell_at h4 (j := 0) rfl
              have g1_ := cell_at h4 (j := 1) rfl
              have g2_ := cell_at h4 (j := 2) rfl
              have g3_ := cell_at h4 (j := 3) rfl
              have g4_ := cell_at h4 (j := 4) rfl
              have g5_ := cell_at h4 (j := 5) rfl
              have g6_ := cell_at h4 (j := 6) rfl
              have g7_ := cell_at h4 (j := 7) rfl
              have g8_ := cell_at h4 (j := 8) rfl
              have g4f := unfrozen h4
              have hz := HZ1.out.1
              have z0_ := cell_at hz (j := 0) rfl
              have z1_ := cell_at hz (j := 1) rfl
              have z2_ := cell_at hz (j := 2) rfl
              have z3_ := cell_at hz (j := 3) rfl
              have z4_ := cell_at hz (j := 4) rfl
              have z5_ := cell_at hz (j := 5) rfl
              have z6_ := cell_at hz (j := 6) rfl
              have z7_ := cell_at hz (j := 7) rfl
              have z8_ := cell_at hz (j := 8) rfl
              have zf := unfrozen hz
              have hn1 := HZ1.out.2.2
              have hn2 := HZ1.out.2.2.symm
              clear h4 hz
              go_wp2_with fail
              all_goals
                refine (ident9_any _ _).mono ?_
                rintro e w'' ⟨⟨n, bi, rfl⟩, rfl⟩
                go_wp2_with fail
              all_goals
                rename_i q1 q2
                have ha := (ent9 k hk).1
                have hb' := (ent9 k hk).2.1
                have hc := (ent9 k hk).2.2
                simp only [q1, q2, reduceIte] at ha hb' hc
                refine end9 (k := k) (w := w) rfl rfl rfl (by simp only [keep_set hn1]; exact HZ1.out.1) ?hb ha hb' hc
                case hb =>
                  repeat refine Below.setCell ?_ (Nat.le_of_lt HZ1.out.2.1) _
                  exact HN1.out.2
            exact AllReadyH.nil
          exact AllReadyH.nil
        exact AllReadyH.nil
      exact AllReadyH.nil
    refine AllReadyH.cons rfl (fun K hK => ?_) ?_
    · go_simp
      obtain ⟨V15, hV⟩ : ∃ V, V = VA.alloc (.cells #[.string ⟨#[]⟩, .bool false, .bool false, .int .i64 0, .int .i64 0, .int .i64 0, .int .i64 0, .bool false, .bool false] TPr) := ⟨_, rfl⟩
      obtain ⟨g4, hg⟩ : ∃ g, g = VA.heap.size := ⟨_, rfl⟩
      have hb : Below VA.heap.size VA V15 := by rw [hV]; exact (Below.refl _ _).alloc (Nat.le_refl _) _
      have HG15 : Hid (V15.heap[g4]? = some (.cells #[.string ⟨#[]⟩, .bool false, .bool false, .int .i64 0, .int .i64 0, .int .i64 0, .int .i64 0, .bool false, .bool false] TPr (0, 0)) ∧ W1.heap.size ≤ g4) := Lib.hid ⟨by rw [hV, hg]; exact heap_alloc_new _ _, by rw [hg]; exact HVA.out.size⟩
      have HNE : Hid (gs ≠ g4) := Lib.hid (by have := (SPF.out VA (Below.refl VA.heap.size VA)).2; omega)
      rw [← hV, ← hg]
      clear hV hg
      have HB15 := Lib.hid (HVA.out.then_ hb)
      have HS15 := Lib.hid ((Below.refl VA.heap.size VA).then_ hb)
      clear hb
      refine hK.out _ _ (SPF.out _ HS15.out) (fun hHeld => ?_)
      clear hK K
      refine wpAnyH_ready (rs := [6]) (by kernel_rfl) (by simp) ?_
      refine AllReadyH.cons rfl (fun K hK => ?_) ?_
      · go_simp
        go_at_call 142
        refine (owner_any ((k : Int) + 1) 1 V15).mono ?_
        rintro e V16 ⟨rfl, hww⟩
        have hb : Below V15.heap.size V15 V16 := by rw [hww]; exact Below.refl _ _
        clear hww
        have HG16 : Hid (V16.heap[g4]? = some (.cells #[.string ⟨#[]⟩, .bool false, .bool false, .int .i64 0, .int .i64 0, .int .i64 0, .int .i64 0, .bool false, .bool false] TPr (0, 0)) ∧ W1.heap.size ≤ g4) := Lib.hid ⟨(hb.block _ (heap_lt HG15.out.1)).trans HG15.out.1, HG15.out.2⟩
        have HB16 := Lib.hid (HB15.out.then_ hb)
        have HS16 := Lib.hid (HS15.out.then_ hb)
        clear hb
        refine hK.out _ _ (SPF.out _ HS16.out) (fun hHeld => ?_)
        clear hK K
        refine take_still (i := 7) (d := some 19) (v := .bool (decide (0 < owner9 ((k : Int) + 1) 1))) rfl rfl (by kernel_rfl) (by kernel_rfl) (by kernel_rfl) (fun _ _ _ h => h) (Or.inl ⟨by rfl, ?_⟩) hHeld ?_
        · intro W hSw; go_simp; try with_reducible rfl
        try simp only [Act.put, List.setIfInBounds_toArray, List.set_cons_zero, List.set_cons_succ]
        refine wpAnyH_ready (rs := [9]) (by kernel_rfl) (by simp) ?_
        refine AllReadyH.cons rfl (fun K hK => ?_) ?_
        · go_simp
          go_at_call 142
          refine (owner_any ((k : Int) + 1) 2 V16).mono ?_
          rintro e V17 ⟨rfl, hww⟩
          have hb : Below V16.heap.size V16 V17 := by rw [hww]; exact Below.refl _ _
          clear hww
          have HG17 : Hid (V17.heap[g4]? = some (.cells #[.string ⟨#[]⟩, .bool false, .bool false, .int .i64 0, .int .i64 0, .int .i64 0, .int .i64 0, .bool false, .bool false] TPr (0, 0)) ∧ W1.heap.size ≤ g4) := Lib.hid ⟨(hb.block _ (heap_lt HG16.out.1)).trans HG16.out.1, HG16.out.2⟩
          have HB17 := Lib.hid (HB16.out.then_ hb)
          have HS17 := Lib.hid (HS16.out.then_ hb)
          clear hb
          refine hK.out _ _ (SPF.out _ HS17.out) (fun hHeld => ?_)
          clear hK K
          refine take_still (i := 10) (d := some 22) (v := .bool (decide (0 < owner9 ((k : Int) + 1) 2))) rfl rfl (by kernel_rfl) (by kernel_rfl) (by kernel_rfl) (fun _ _ _ h => h) (Or.inl ⟨by rfl, ?_⟩) hHeld ?_
          · intro W hSw; go_simp; try with_reducible rfl
          try simp only [Act.put, List.setIfInBounds_toArray, List.set_cons_zero, List.set_cons_succ]
          refine wpAnyH_ready (rs := [12]) (by kernel_rfl) (by simp) ?_
          refine AllReadyH.cons rfl (fun K hK => ?_) ?_
          · go_simp
            go_at_call 143
            refine (rk9_any ((k : Int) + 1) V17).mono ?_
            rintro e V18 ⟨rfl, hb⟩
            have HG18 : Hid (V18.heap[g4]? = some (.cells #[.string ⟨#[]⟩, .bool false, .bool false, .int .i64 0, .int .i64 0, .int .i64 0, .int .i64 0, .bool false, .bool false] TPr (0, 0)) ∧ W1.heap.size ≤ g4) := Lib.hid ⟨(hb.block _ (heap_lt HG17.out.1)).trans HG17.out.1, HG17.out.2⟩
            have HB18 := Lib.hid (HB17.out.then_ hb)
            have HS18 := Lib.hid (HS17.out.then_ hb)
            clear hb
            refine hK.out _ _ (SPF.out _ HS18.out) (fun hHeld => ?_)
            clear hK K
            refine wpAnyH_ready (rs := [14]) (by kernel_rfl) (by simp) ?_
            refine AllReadyH.cons rfl (fun K hK => ?_) ?_
            · go_simp
              go_at_call 144
              refine (comm9_any ((k : Int) + 1) V18).mono ?_
              rintro e V19 ⟨⟨bc, rfl⟩, hww⟩
              have hb : Below V18.heap.size V18 V19 := by rw [hww]; exact Below.refl _ _
              clear hww
              have HG19 : Hid (V19.heap[g4]? = some (.cells #[.string ⟨#[]⟩, .bool false, .bool false, .int .i64 0, .int .i64 0, .int .i64 0, .int .i64 0, .bool false, .bool false] TPr (0, 0)) ∧ W1.heap.size ≤ g4) := Lib.hid ⟨(hb.block _ (heap_lt HG18.out.1)).trans HG18.out.1, HG18.out.2⟩
              have HB19 := Lib.hid (HB18.out.then_ hb)
              have HS19 := Lib.hid (HS18.out.then_ hb)
              clear hb
              refine hK.out _ _ (SPF.out _ HS19.out) (fun hHeld => ?_)
              clear hK K
              refine take_still (i := 15) (d := some 27) (v := .agg #[.string (spK k), .bool (decide (0 < owner9 ((k : Int) + 1) 1)), .bool (decide (0 < owner9 ((k : Int) + 1) 2)), .int .i64 (rk9 ((k : Int) + 1)).a, .int .i64 (rk9 ((k : Int) + 1)).b, .int .i64 (rk9 ((k : Int) + 1)).c, .int .i64 0, .bool false, .bool bc]) rfl rfl (by kernel_rfl) (by kernel_rfl) (by kernel_rfl) (fun _ _ _ h => h) (Or.inl ⟨by rfl, ?_⟩) hHeld ?_
              · intro W hSw; go_simp; try with_reducible rfl
              try simp only [Act.put, List.setIfInBounds_toArray, List.set_cons_zero, List.set_cons_succ]
              have hg := HG19.out.1
              have g0_ := cell_at hg (j := 0) rfl
              have g1_ := cell_at hg (j := 1) rfl
              have g2_ := cell_at hg (j := 2) rfl
              have g3_ := cell_at hg (j := 3) rfl
              have g4_ := cell_at hg (j := 4) rfl
              have g5_ := cell_at hg (j := 5) rfl
              have g6_ := cell_at hg (j := 6) rfl
              have g7_ := cell_at hg (j := 7) rfl
              have g8_ := cell_at hg (j := 8) rfl
              have gf := unfrozen hg
              have gl := heap_lt hg
              clear hg
              refine wpAnyH_ready (rs := [17]) (by kernel_rfl) (by simp) ?_
              refine AllReadyH.cons rfl (fun K hK => ?_) AllReadyH.nil
              go_simp
              obtain ⟨X1, hX⟩ : ∃ X, X = (((((((((V19.setCell ⟨g4, 0, none⟩ (.string (spK k))).setCell ⟨g4, 1, none⟩ (.bool (decide (0 < owner9 ((k : Int) + 1) 1)))).setCell ⟨g4, 2, none⟩ (.bool (decide (0 < owner9 ((k : Int) + 1) 2)))).setCell ⟨g4, 3, none⟩ (.int .i64 (rk9 ((k : Int) + 1)).a)).setCell ⟨g4, 4, none⟩ (.int .i64 (rk9 ((k : Int) + 1)).b)).setCell ⟨g4, 5, none⟩ (.int .i64 (rk9 ((k : Int) + 1)).c)).setCell ⟨g4, 6, none⟩ (.int .i64 0)).setCell ⟨g4, 7, none⟩ (.bool false)).setCell ⟨g4, 8, none⟩ (.bool bc)) := ⟨_, rfl⟩
              obtain ⟨n1, n2⟩ := nine (.string (spK k)) (.bool (decide (0 < owner9 ((k : Int) + 1) 1))) (.bool (decide (0 < owner9 ((k : Int) + 1) 2))) (.int .i64 (rk9 ((k : Int) + 1)).a) (.int .i64 (rk9 ((k : Int) + 1)).b) (.int .i64 (rk9 ((k : Int) + 1)).c) (.int .i64 0) (.bool false) (.bool bc) HG19.out.1 (H1.out.2.then_ (HB19.out)) (by have h1 := HG19.out.2; have h2 := heap_lt H1.out.1; omega)
              have hk1 : ∀ j, j ≠ g4 → X1.heap[j]? = V19.heap[j]? := fun j hj => by rw [hX]; simp only [keep_set hj]
              rw [← hX] at n1 n2 ⊢
              refine hK.out _ _ ⟨(World.cell?_of_block (a := ⟨gs, k, none⟩) (hk1 gs HNE.out)).trans hHeld.1, by have h1 := hHeld.2; rw [hX]; simpa [World.setCell] using h1⟩ (fun hHeld => ?_)
              have HN1 := Lib.hid (And.intro n1 n2)
              have HZ1 : Hid (X1.heap[w.heap.size]? = some (.cells #[.string ⟨#[]⟩, .bool false, .bool false, .int .i64 0, .int .i64 0, .int .i64 0, .int .i64 0, .bool false, .bool false] TPr (0, 0)) ∧ w.heap.size < g4 ∧ w.heap.size ≠ g4) := Lib.hid ⟨(hk1 _ (by have h1 := HG19.out.2; have h2 := heap_lt H1.out.1; omega)).trans ((HB19.out.block _ (heap_lt H1.out.1)).trans H1.out.1), by have h1 := HG19.out.2; have h2 := heap_lt H1.out.1; omega, by have h1 := HG19.out.2; have h2 := heap_lt H1.out.1; omega⟩
              clear n1 n2 hk1 hX hK K g0_ g1_ g2_ g3_ g4_ g5_ g6_ g7_ g8_ gf gl
              refine wpAnyH_done (by kernel_rfl) ?_ _
              clear hHeld
              have h4 := HN1.out.1
              have h4l := heap_lt h4
              have g0_ := cell_at h4 (j := 0) rfl
              have g1_ := cell_at h4 (j := 1) rfl
              have g2_ := cell_at h4 (j := 2) rfl
              have g3_ := cell_at h4 (j := 3) rfl
              have g4_ := cell_at h4 (j := 4) rfl
              have g5_ := cell_at h4 (j := 5) rfl
              have g6_ := cell_at h4 (j := 6) rfl
              have g7_ := cell_at h4 (j := 7) rfl
              have g8_ := cell_at h4 (j := 8) rfl
              have g4f := unfrozen h4
              have hz := HZ1.out.1
              have z0_ := cell_at hz (j := 0) rfl
              have z1_ := cell_at hz (j := 1) rfl
              have z2_ := cell_at hz (j := 2) rfl
              have z3_ := cell_at hz (j := 3) rfl
              have z4_ := cell_at hz (j := 4) rfl
              have z5_ := cell_at hz (j := 5) rfl
              have z6_ := cell_at hz (j := 6) rfl
              have z7_ := cell_at hz (j := 7) rfl
              have z8_ := cell_at hz (j := 8) rfl
              have zf := unfrozen hz
              have hn1 := HZ1.out.2.2
              have hn2 := HZ1.out.2.2.symm
              clear h4 hz
              go_wp2_with fail
              all_goals
                refine (ident9_any _ _).mono ?_
                rintro e w'' ⟨⟨n, bi, rfl⟩, rfl⟩
                go_wp2_with fail
              all_goals
                rename_i q1 q2
                have ha := (ent9 k hk).1
                have hb' := (ent9 k hk).2.1
                have hc := (ent9 k hk).2.2
                simp only [q1, q2, reduceIte] at ha hb' hc
                refine end9 (k := k) (w := w) rfl rfl rfl (by simp only [keep_set hn1]; exact HZ1.out.1) ?hb ha hb' hc
                case hb =>
                  repeat refine Below.setCell ?_ (Nat.le_of_lt HZ1.out.2.1) _
                  exact HN1.out.2
            exact AllReadyH.nil
          exact AllReadyH.nil
        exact AllReadyH.nil
      exact AllReadyH.nil
    exact AllReadyH.nil
  refine AllReady.cons rfl (fun K hK => ?_) AllReady.nil
  go_simp
  obtain ⟨V0, hV⟩ : ∃ V, V = X0.alloc (.cells #[.string ⟨#[]⟩, .bool false, .bool false, .int .i64 0, .int .i64 0, .int .i64 0, .int .i64 0, .bool false, .bool false] TPr) := ⟨_, rfl⟩
  obtain ⟨g4, hg⟩ : ∃ g, g = X0.heap.size := ⟨_, rfl⟩
  have hb : Below X0.heap.size X0 V0 := by rw [hV]; exact (Below.refl _ _).alloc (Nat.le_refl _) _
  have HG0 : Hid (V0.heap[g4]? = some (.cells #[.string ⟨#[]⟩, .bool false, .bool false, .int .i64 0, .int .i64 0, .int .i64 0, .int .i64 0, .bool false, .bool false] TPr (0, 0)) ∧ W1.heap.size ≤ g4) := Lib.hid ⟨by rw [hV, hg]; exact heap_alloc_new _ _, by rw [hg]; exact HX0.out.size⟩
  have HV0 := Lib.hid (HX0.out.then_ hb)
  rw [← hV, ← hg]
  clear hV hg hb
  refine hK _ _ ?_
  clear hK K
  try simp only [Act.put, List.setIfInBounds_toArray, List.set_cons_zero, List.set_cons_succ]
  refine wpAny_ready (rs := [0]) (by kernel_rfl) (by simp) ?_
  refine AllReady.cons rfl (fun K hK => ?_) AllReady.nil
  go_simp
  go_at_call 141
  refine (spellings_any V0).mono ?_
  rintro e VB ⟨rfl, hb, hsp⟩
  obtain ⟨gs, hgs⟩ : ∃ g, g = V0.heap.size := ⟨_, rfl⟩
  rw [← hgs] at hsp ⊢
  have SPF : Hid (∀ W, Below VB.heap.size VB W → W.cell? ⟨gs, k, none⟩ = some (.string (spK k)) ∧ gs < W.heap.size) := Lib.hid fun W h => by
    have h1 := (h.block _ (heap_lt hsp)).trans hsp
    exact ⟨cell_at h1 (spell_at hk), heap_lt h1⟩
  have HVB := Lib.hid (HV0.out.then_ hb)
  have HGVB : Hid (VB.heap[g4]? = some (.cells #[.string ⟨#[]⟩, .bool false, .bool false, .int .i64 0, .int .i64 0, .int .i64 0, .int .i64 0, .bool false, .bool false] TPr (0, 0)) ∧ W1.heap.size ≤ g4) := Lib.hid ⟨(hb.block _ (heap_lt HG0.out.1)).trans HG0.out.1, HG0.out.2⟩
  have HNE : Hid (gs ≠ g4) := Lib.hid (by have := heap_lt HG0.out.1; omega)
  clear hb hsp hgs
  refine hK _ _ ?_
  clear hK K
  refine wpAny_of_held (S := fun W => W.cell? ⟨gs, k, none⟩ = some (.string (spK k)) ∧ gs < W.heap.size) _ _ _ _ ?_
  have hHeld := SPF.out VB (Below.refl _ _)
  try simp only [Act.put, List.setIfInBounds_toArray, List.set_cons_zero, List.set_cons_succ]
  refine take_still (i := 3) (d := some 15) (v := (.pointer (some ⟨gs, k, none⟩))) rfl rfl (by kernel_rfl) (by kernel_rfl) (by kernel_rfl) (fun _ _ _ h => h) (Or.inl ⟨by rfl, ?_⟩) hHeld ?_
  · intro W hSw; go_simp; try with_reducible rfl
  try simp only [Act.put, List.setIfInBounds_toArray, List.set_cons_zero, List.set_cons_succ]
  refine take_still (i := 4) (d := some 16) (v := (.string (spK k))) rfl rfl (by kernel_rfl) (by kernel_rfl) (by kernel_rfl) (fun _ _ _ h => h) (Or.inl ⟨by rfl, ?_⟩) hHeld ?_
  · intro W hSw; have h1 := hSw.1; have h2 := hSw.2; go_simp; try with_reducible rfl
  try simp only [Act.put, List.setIfInBounds_toArray, List.set_cons_zero, List.set_cons_succ]
  refine wpAnyH_ready (rs := [6]) (by kernel_rfl) (by simp) ?_
  refine AllReadyH.cons rfl (fun K hK => ?_) ?_
  · go_simp
    go_at_call 142
    refine (owner_any ((k : Int) + 1) 1 VB).mono ?_
    rintro e V20 ⟨rfl, hww⟩
    have hb : Below VB.heap.size VB V20 := by rw [hww]; exact Below.refl _ _
    clear hww
    have HG20 : Hid (V20.heap[g4]? = some (.cells #[.string ⟨#[]⟩, .bool false, .bool false, .int .i64 0, .int .i64 0, .int .i64 0, .int .i64 0, .bool false, .bool false] TPr (0, 0)) ∧ W1.heap.size ≤ g4) := Lib.hid ⟨(hb.block _ (heap_lt HGVB.out.1)).trans HGVB.out.1, HGVB.out.2⟩
    have HB20 := Lib.hid (HVB.out.then_ hb)
    have HS20 := Lib.hid ((Below.refl VB.heap.size VB).then_ hb)
    clear hb
    refine hK.out _ _ (SPF.out _ HS20.out) (fun hHeld => ?_)
    clear hK K
    refine take_still (i := 7) (d := some 19) (v := .bool (decide (0 < owner9 ((k : Int) + 1) 1))) rfl rfl (by kernel_rfl) (by kernel_rfl) (by kernel_rfl) (fun _ _ _ h => h) (Or.inl ⟨by rfl, ?_⟩) hHeld ?_
    · intro W hSw; go_simp; try with_reducible rfl
    try simp only [Act.put, List.setIfInBounds_toArray, List.set_cons_zero, List.set_cons_succ]
    refine wpAnyH_ready (rs := [9]) (by kernel_rfl) (by simp) ?_
    refine AllReadyH.cons rfl (fun K hK => ?_) ?_
    · go_simp
      go_at_call 142
      refine (owner_any ((k : Int) + 1) 2 V20).mono ?_
      rintro e V21 ⟨rfl, hww⟩
      have hb : Below V20.heap.size V20 V21 := by rw [hww]; exact Below.refl _ _
      clear hww
      have HG21 : Hid (V21.heap[g4]? = some (.cells #[.string ⟨#[]⟩, .bool false, .bool false, .int .i64 0, .int .i64 0, .int .i64 0, .int .i64 0, .bool false, .bool false] TPr (0, 0)) ∧ W1.heap.size ≤ g4) := Lib.hid ⟨(hb.block _ (heap_lt HG20.out.1)).trans HG20.out.1, HG20.out.2⟩
      have HB21 := Lib.hid (HB20.out.then_ hb)
      have HS21 := Lib.hid (HS20.out.then_ hb)
      clear hb
      refine hK.out _ _ (SPF.out _ HS21.out) (fun hHeld => ?_)
      clear hK K
      refine take_still (i := 10) (d := some 22) (v := .bool (decide (0 < owner9 ((k : Int) + 1) 2))) rfl rfl (by kernel_rfl) (by kernel_rfl) (by kernel_rfl) (fun _ _ _ h => h) (Or.inl ⟨by rfl, ?_⟩) hHeld ?_
      · intro W hSw; go_simp; try with_reducible rfl
      try simp only [Act.put, List.setIfInBounds_toArray, List.set_cons_zero, List.set_cons_succ]
      refine wpAnyH_ready (rs := [12]) (by kernel_rfl) (by simp) ?_
      refine AllReadyH.cons rfl (fun K hK => ?_) ?_
      · go_simp
        go_at_call 143
        refine (rk9_any ((k : Int) + 1) V21).mono ?_
        rintro e V22 ⟨rfl, hb⟩
        have HG22 : Hid (V22.heap[g4]? = some (.cells #[.string ⟨#[]⟩, .bool false, .bool false, .int .i64 0, .int .i64 0, .int .i64 0, .int .i64 0, .bool false, .bool false] TPr (0, 0)) ∧ W1.heap.size ≤ g4) := Lib.hid ⟨(hb.block _ (heap_lt HG21.out.1)).trans HG21.out.1, HG21.out.2⟩
        have HB22 := Lib.hid (HB21.out.then_ hb)
        have HS22 := Lib.hid (HS21.out.then_ hb)
        clear hb
        refine hK.out _ _ (SPF.out _ HS22.out) (fun hHeld => ?_)
        clear hK K
        refine wpAnyH_ready (rs := [14]) (by kernel_rfl) (by simp) ?_
        refine AllReadyH.cons rfl (fun K hK => ?_) ?_
        · go_simp
          go_at_call 144
          refine (comm9_any ((k : Int) + 1) V22).mono ?_
          rintro e V23 ⟨⟨bc, rfl⟩, hww⟩
          have hb : Below V22.heap.size V22 V23 := by rw [hww]; exact Below.refl _ _
          clear hww
          have HG23 : Hid (V23.heap[g4]? = some (.cells #[.string ⟨#[]⟩, .bool false, .bool false, .int .i64 0, .int .i64 0, .int .i64 0, .int .i64 0, .bool false, .bool false] TPr (0, 0)) ∧ W1.heap.size ≤ g4) := Lib.hid ⟨(hb.block _ (heap_lt HG22.out.1)).trans HG22.out.1, HG22.out.2⟩
          have HB23 := Lib.hid (HB22.out.then_ hb)
          have HS23 := Lib.hid (HS22.out.then_ hb)
          clear hb
          refine hK.out _ _ (SPF.out _ HS23.out) (fun hHeld => ?_)
          clear hK K
          refine take_still (i := 15) (d := some 27) (v := .agg #[.string (spK k), .bool (decide (0 < owner9 ((k : Int) + 1) 1)), .bool (decide (0 < owner9 ((k : Int) + 1) 2)), .int .i64 (rk9 ((k : Int) + 1)).a, .int .i64 (rk9 ((k : Int) + 1)).b, .int .i64 (rk9 ((k : Int) + 1)).c, .int .i64 0, .bool false, .bool bc]) rfl rfl (by kernel_rfl) (by kernel_rfl) (by kernel_rfl) (fun _ _ _ h => h) (Or.inl ⟨by rfl, ?_⟩) hHeld ?_
          · intro W hSw; go_simp; try with_reducible rfl
          try simp only [Act.put, List.setIfInBounds_toArray, List.set_cons_zero, List.set_cons_succ]
          have hg := HG23.out.1
          have g0_ := cell_at hg (j := 0) rfl
          have g1_ := cell_at hg (j := 1) rfl
          have g2_ := cell_at hg (j := 2) rfl
          have g3_ := cell_at hg (j := 3) rfl
          have g4_ := cell_at hg (j := 4) rfl
          have g5_ := cell_at hg (j := 5) rfl
          have g6_ := cell_at hg (j := 6) rfl
          have g7_ := cell_at hg (j := 7) rfl
          have g8_ := cell_at hg (j := 8) rfl
          have gf := unfrozen hg
          have gl := heap_lt hg
          clear hg
          refine wpAnyH_ready (rs := [17]) (by kernel_rfl) (by simp) ?_
          refine AllReadyH.cons rfl (fun K hK => ?_) AllReadyH.nil
          go_simp
          obtain ⟨X1, hX⟩ : ∃ X, X = (((((((((V23.setCell ⟨g4, 0, none⟩ (.string (spK k))).setCell ⟨g4, 1, none⟩ (.bool (decide (0 < owner9 ((k : Int) + 1) 1)))).setCell ⟨g4, 2, none⟩ (.bool (decide (0 < owner9 ((k : Int) + 1) 2)))).setCell ⟨g4, 3, none⟩ (.int .i64 (rk9 ((k : Int) + 1)).a)).setCell ⟨g4, 4, none⟩ (.int .i64 (rk9 ((k : Int) + 1)).b)).setCell ⟨g4, 5, none⟩ (.int .i64 (rk9 ((k : Int) + 1)).c)).setCell ⟨g4, 6, none⟩ (.int .i64 0)).setCell ⟨g4, 7, none⟩ (.bool false)).setCell ⟨g4, 8, none⟩ (.bool bc)) := ⟨_, rfl⟩
          obtain ⟨n1, n2⟩ := nine (.string (spK k)) (.bool (decide (0 < owner9 ((k : Int) + 1) 1))) (.bool (decide (0 < owner9 ((k : Int) + 1) 2))) (.int .i64 (rk9 ((k : Int) + 1)).a) (.int .i64 (rk9 ((k : Int) + 1)).b) (.int .i64 (rk9 ((k : Int) + 1)).c) (.int .i64 0) (.bool false) (.bool bc) HG23.out.1 (H1.out.2.then_ (HB23.out)) (by have h1 := HG23.out.2; have h2 := heap_lt H1.out.1; omega)
          have hk1 : ∀ j, j ≠ g4 → X1.heap[j]? = V23.heap[j]? := fun j hj => by rw [hX]; simp only [keep_set hj]
          rw [← hX] at n1 n2 ⊢
          refine hK.out _ _ ⟨(World.cell?_of_block (a := ⟨gs, k, none⟩) (hk1 gs HNE.out)).trans hHeld.1, by have h1 := hHeld.2; rw [hX]; simpa [World.setCell] using h1⟩ (fun hHeld => ?_)
          have HN1 := Lib.hid (And.intro n1 n2)
          have HZ1 : Hid (X1.heap[w.heap.size]? = some (.cells #[.string ⟨#[]⟩, .bool false, .bool false, .int .i64 0, .int .i64 0, .int .i64 0, .int .i64 0, .bool false, .bool false] TPr (0, 0)) ∧ w.heap.size < g4 ∧ w.heap.size ≠ g4) := Lib.hid ⟨(hk1 _ (by have h1 := HG23.out.2; have h2 := heap_lt H1.out.1; omega)).trans ((HB23.out.block _ (heap_lt H1.out.1)).trans H1.out.1), by have h1 := HG23.out.2; have h2 := heap_lt H1.out.1; omega, by have h1 := HG23.out.2; have h2 := heap_lt H1.out.1; omega⟩
          clear n1 n2 hk1 hX hK K g0_ g1_ g2_ g3_ g4_ g5_ g6_ g7_ g8_ gf gl
          refine wpAnyH_done (by kernel_rfl) ?_ _
          clear hHeld
          have h4 := HN1.out.1
          have h4l := heap_lt h4
          have g0_ := cell_at h4 (j := 0) rfl
          have g1_ := cell_at h4 (j := 1) rfl
          have g2_ := cell_at h4 (j := 2) rfl
          have g3_ := cell_at h4 (j := 3) rfl
          have g4_ := cell_at h4 (j := 4) rfl
          have g5_ := cell_at h4 (j := 5) rfl
          have g6_ := cell_at h4 (j := 6) rfl
          have g7_ := cell_at h4 (j := 7) rfl
          have g8_ := cell_at h4 (j := 8) rfl
          have g4f := unfrozen h4
          have hz := HZ1.out.1
          have z0_ := cell_at hz (j := 0) rfl
          have z1_ := cell_at hz (j := 1) rfl
          have z2_ := cell_at hz (j := 2) rfl
          have z3_ := cell_at hz (j := 3) rfl
          have z4_ := cell_at hz (j := 4) rfl
          have z5_ := cell_at hz (j := 5) rfl
          have z6_ := cell_at hz (j := 6) rfl
          have z7_ := cell_at hz (j := 7) rfl
          have z8_ := cell_at hz (j := 8) rfl
          have zf := unfrozen hz
          have hn1 := HZ1.out.2.2
          have hn2 := HZ1.out.2.2.symm
          clear h4 hz
          go_wp2_with fail
          all_goals
            refine (ident9_any _ _).mono ?_
            rintro e w'' ⟨⟨n, bi, rfl⟩, rfl⟩
            go_wp2_with fail
          all_goals
            rename_i q1 q2
            have ha := (ent9 k hk).1
            have hb' := (ent9 k hk).2.1
            have hc := (ent9 k hk).2.2
            simp only [q1, q2, reduceIte] at ha hb' hc
            refine end9 (k := k) (w := w) rfl rfl rfl (by simp only [keep_set hn1]; exact HZ1.out.1) ?hb ha hb' hc
            case hb =>
              repeat refine Below.setCell ?_ (Nat.le_of_lt HZ1.out.2.1) _
              exact HN1.out.2
        exact AllReadyH.nil
      exact AllReadyH.nil
    exact AllReadyH.nil
  exact AllReadyH.nil
end Go.Proofs.YtebiojmfieoncaaGreat
