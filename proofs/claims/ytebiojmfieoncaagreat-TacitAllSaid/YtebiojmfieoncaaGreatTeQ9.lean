/- tacit.train: its regions 11 and 13. No condition. -/
import Derived.Test.YtebiojmfieoncaaGreatTeQ8
import Derived.Test.YtebiojmfieoncaaGreatTeTX
namespace Go.Proofs.YtebiojmfieoncaaGreat
open Go.RowKit

set_option maxRecDepth 100000 in
set_option maxHeartbeats 100000000 in
theorem ttr11 {x : Tm} {Ax : Option Addr} {cax : Nat} {Bx : Option Addr} {cbx : Nat} {Kx : Option Addr} {ckx : Nat} {y : Tm} {Ay : Option Addr} {cay : Nat} {By : Option Addr} {cby : Nat} {Ky : Option Addr} {cky : Nat} {u0 u1 : Tm} {w W1 : World} {lo gk ok ck : Nat} (cx : TrCx w W1 lo) (fc : ∀ W, Below (w.heap.size + 1) W1 W → W.cell? ⟨gk, ok, none⟩ = some (.int .i64 x.kind) ∧ W.cell? ⟨gk, ok + 1, none⟩ = some (.string x.text) ∧ W.cell? ⟨gk, ok + 2, none⟩ = some (.int .i64 x.n) ∧ W.cell? ⟨gk, ok + 3, none⟩ = some (.slice Ax x.sh.length cax) ∧ W.cell? ⟨gk, ok + 4, none⟩ = some (.slice Bx x.at_.length cbx) ∧ W.cell? ⟨gk, ok + 5, none⟩ = some (.slice Kx x.kids.length ckx) ∧ W.cell? ⟨gk, ok + 6, none⟩ = some (.int .i64 y.kind) ∧ W.cell? ⟨gk, ok + 7, none⟩ = some (.string y.text) ∧ W.cell? ⟨gk, ok + 8, none⟩ = some (.int .i64 y.n) ∧ W.cell? ⟨gk, ok + 9, none⟩ = some (.slice Ay y.sh.length cay) ∧ W.cell? ⟨gk, ok + 10, none⟩ = some (.slice By y.at_.length cby) ∧ W.cell? ⟨gk, ok + 11, none⟩ = some (.slice Ky y.kids.length cky) ∧ gk < W.heap.size) (h0 : ∀ W, Below W1.heap.size W1 W → Calls Tryz.prog 121 #[tmVal x Ax cax Bx cbx Kx ckx, .int .i64 1] W (TrPost u0 lo W)) (h1 : ∀ W, Below W1.heap.size W1 W → Calls Tryz.prog 79 #[tmVal y Ay cay By cby Ky cky] W (TrPost u1 lo W)) {K : Act → World → Prop} {Q' : Exit → Act → World → Prop} {s0 s4 s5 s6 s7 s8 s9 s10 s11 s12 s13 s14 s15 s16 s17 s18 s19 s20 s21 s22 s23 s24 s25 s26 s27 s28 s29 s30 s31 s32 s33 s34 s35 s36 s37 s38 s39 s40 s41 s42 s43 s44 s45 s46 s47 s48 s49 s50 s51 s52 s53 s54 s55 s56 s57 s58 s59 s60 s61 s62 s63 s64 s65 s66 s67 s68 s69 s70 s71 s72 : Value}
    (hP : ∀ c (a : Act) d v w, Q' (.panic c) (a.put (some d) v) w → Q' (.panic c) a w)
    (hK : ∀ (r26 r27 r28 r29 r30 r31 r32 r33 r34 r35 : Value) (X : Option Addr) (c : Nat) (W W' : World), Below W1.heap.size W1 W → TmAt (mask W lo W1.heap.size) (tOf 46 [u0, u1]) none none X → W' = sixPutQ W (w.heap.size + 1) (.int .i64 46) (.string ⟨#[]⟩) (.int .i64 0) (.slice none 0 0) (.slice none 0 0) (.slice X 2 c) → K { tmps := List.toArray (s0 :: (.pointer (some ⟨w.heap.size, 0, none⟩)) :: (.pointer (some ⟨w.heap.size + 1, 0, none⟩)) :: (.slice (some ⟨gk, ok, none⟩) 2 ck) :: s4 :: s5 :: s6 :: s7 :: s8 :: s9 :: s10 :: s11 :: s12 :: s13 :: s14 :: s15 :: s16 :: s17 :: s18 :: s19 :: s20 :: s21 :: s22 :: s23 :: s24 :: s25 :: r26 :: r27 :: r28 :: r29 :: r30 :: r31 :: r32 :: r33 :: r34 :: r35 :: s36 :: s37 :: s38 :: s39 :: s40 :: s41 :: s42 :: s43 :: s44 :: s45 :: s46 :: s47 :: s48 :: s49 :: s50 :: s51 :: s52 :: s53 :: s54 :: s55 :: s56 :: s57 :: s58 :: s59 :: s60 :: s61 :: s62 :: s63 :: s64 :: s65 :: s66 :: s67 :: s68 :: s69 :: s70 :: s71 :: s72 :: []), defers := [] } W') :
    Code.wp Tryz.prog (regOf Tryz.f79 11) (Exit.then K Q') { tmps := List.toArray (s0 :: (.pointer (some ⟨w.heap.size, 0, none⟩)) :: (.pointer (some ⟨w.heap.size + 1, 0, none⟩)) :: (.slice (some ⟨gk, ok, none⟩) 2 ck) :: s4 :: s5 :: s6 :: s7 :: s8 :: s9 :: s10 :: s11 :: s12 :: s13 :: s14 :: s15 :: s16 :: s17 :: s18 :: s19 :: s20 :: s21 :: s22 :: s23 :: s24 :: s25 :: s26 :: s27 :: s28 :: s29 :: s30 :: s31 :: s32 :: s33 :: s34 :: s35 :: s36 :: s37 :: s38 :: s39 :: s40 :: s41 :: s42 :: s43 :: s44 :: s45 :: s46 :: s47 :: s48 :: s49 :: s50 :: s51 :: s52 :: s53 :: s54 :: s55 :: s56 :: s57 :: s58 :: s59 :: s60 :: s61 :: s62 :: s63 :: s64 :: s65 :: s66 :: s67 :: s68 :: s69 :: s70 :: s71 :: s72 :: []), defers := [] } W1 := by
  have CX := Lib.hid cx
  have FC := Lib.hid fc
  have C0 := Lib.hid h0
  have C1 := Lib.hid h1
  have HK0 := Lib.hid hK
  have HP := Lib.hid hP
  have HSM : Hid (∀ W, Below W1.heap.size W1 W → Below (w.heap.size + 1) W1 W) := Lib.hid fun W h => h.mono (by rw [cx.s1]; omega)
  clear cx fc h0 h1 hK hP
  conv => arg 2; whnf
  refine wp_region_held_drew (S := (fun W => Below (w.heap.size + 1) W1 W)) (by kernel_rfl) (HSM.out _ (Below.refl _ _).drew) (fun hHeld => ?_)
  obtain ⟨X, hX⟩ : ∃ X, X = W1.drew := ⟨_, rfl⟩
  have HX : Hid (Below W1.heap.size W1 X) := Lib.hid (by rw [hX]; exact (Below.refl _ _).drew)
  rw [← hX] at hHeld ⊢
  clear hX
  refine take_still (i := 0) (d := some 26) (v := .slice (some ⟨gk, ok, none⟩) 2 ck) rfl rfl (by kernel_rfl) (by kernel_rfl) (by kernel_rfl) (fun _ _ _ h => HP.out _ _ _ _ _ h) (Or.inl ⟨by rfl, ?_⟩) hHeld ?_
  · intro W hSw; go_simp; try with_reducible rfl
  try simp only [Act.put, List.setIfInBounds_toArray, List.set_cons_zero, List.set_cons_succ]
  refine take_still (i := 1) (d := some 27) (v := .pointer (some ⟨gk, ok, none⟩)) rfl rfl (by kernel_rfl) (by kernel_rfl) (by kernel_rfl) (fun _ _ _ h => HP.out _ _ _ _ _ h) (Or.inl ⟨by rfl, ?_⟩) hHeld ?_
  · intro W hSw; go_simp; try with_reducible rfl
  try simp only [Act.put, List.setIfInBounds_toArray, List.set_cons_zero, List.set_cons_succ]
  refine take_still (i := 2) (d := some 28) (v := .agg #[.int .i64 x.kind, .string x.text, .int .i64 x.n, .slice Ax x.sh.length cax, .slice Bx x.at_.length cbx, .slice Kx x.kids.length ckx]) rfl rfl (by kernel_rfl) (by kernel_rfl) (by kernel_rfl) (fun _ _ _ h => HP.out _ _ _ _ _ h) (Or.inl ⟨by rfl, ?_⟩) hHeld ?_
  · intro W hSw; obtain ⟨x0, x1, x2, x3, x4, x5, y0, y1, y2, y3, y4, y5, gl⟩ := FC.out W hSw; go_simp; try with_reducible rfl
  try simp only [Act.put, List.setIfInBounds_toArray, List.set_cons_zero, List.set_cons_succ]
  refine take_still (i := 4) (d := some 30) (v := .slice (some ⟨gk, ok, none⟩) 2 ck) rfl rfl (by kernel_rfl) (by kernel_rfl) (by kernel_rfl) (fun _ _ _ h => HP.out _ _ _ _ _ h) (Or.inl ⟨by rfl, ?_⟩) hHeld ?_
  · intro W hSw; go_simp; try with_reducible rfl
  try simp only [Act.put, List.setIfInBounds_toArray, List.set_cons_zero, List.set_cons_succ]
  refine take_still (i := 5) (d := some 31) (v := .pointer (some ⟨gk, ok + 6, none⟩)) rfl rfl (by kernel_rfl) (by kernel_rfl) (by kernel_rfl) (fun _ _ _ h => HP.out _ _ _ _ _ h) (Or.inl ⟨by rfl, ?_⟩) hHeld ?_
  · intro W hSw; go_simp; try with_reducible rfl
  try simp only [Act.put, List.setIfInBounds_toArray, List.set_cons_zero, List.set_cons_succ]
  refine take_still (i := 6) (d := some 32) (v := .agg #[.int .i64 y.kind, .string y.text, .int .i64 y.n, .slice Ay y.sh.length cay, .slice By y.at_.length cby, .slice Ky y.kids.length cky]) rfl rfl (by kernel_rfl) (by kernel_rfl) (by kernel_rfl) (fun _ _ _ h => HP.out _ _ _ _ _ h) (Or.inl ⟨by rfl, ?_⟩) hHeld ?_
  · intro W hSw; obtain ⟨x0, x1, x2, x3, x4, x5, y0, y1, y2, y3, y4, y5, gl⟩ := FC.out W hSw; go_simp; try with_reducible rfl
  try simp only [Act.put, List.setIfInBounds_toArray, List.set_cons_zero, List.set_cons_succ]
  refine wpAnyH_ready (rs := [3]) (by kernel_rfl) (by simp) ?_
  refine AllReadyH.cons rfl (fun K hK => ?_) AllReadyH.nil
  go_simp
  go_at_call 121
  refine (C0.out X HX.out).mono ?_
  rintro e Pq1 ⟨Au0, cau0, Bu0, cbu0, Ku0, cku0, rfl, hu, hb⟩
  have hw : W1.heap.size ≤ X.heap.size := HX.out.size
  have HU0 : Hid (TmAt (mask Pq1 lo W1.heap.size) u0 Au0 Bu0 Ku0) := Lib.hid (mask_less hu hw)
  have HBq1 := Lib.hid (HX.out.then_ hb)
  clear hb hu hw
  refine hK.out _ _ (HSM.out _ HBq1.out) (fun hHeld => ?_)
  clear hK K
  refine wpAnyH_ready (rs := [7]) (by kernel_rfl) (by simp) ?_
  refine AllReadyH.cons rfl (fun K hK => ?_) AllReadyH.nil
  go_simp
  go_at_call 79
  refine (C1.out Pq1 HBq1.out).mono ?_
  rintro e Pq2 ⟨Au1, cau1, Bu1, cbu1, Ku1, cku1, rfl, hu, hb⟩
  have hw : W1.heap.size ≤ Pq1.heap.size := HBq1.out.size
  have HU1 : Hid (TmAt (mask Pq2 lo W1.heap.size) u1 Au1 Bu1 Ku1) := Lib.hid (mask_less hu hw)
  have HBq2 := Lib.hid (HBq1.out.then_ hb)
  have HNq2 := Lib.hid hb
  clear hb hu hw
  have HU0 := Lib.hid (mask_on HU0.out (show Below Pq1.heap.size Pq1 Pq2 from HNq2.out))
  refine hK.out _ _ (HSM.out _ HBq2.out) (fun hHeld => ?_)
  clear hK K
  refine wpAnyH_ready (rs := [8]) (by kernel_rfl) (by simp) ?_
  refine AllReadyH.cons rfl (fun K hK => ?_) AllReadyH.nil
  go_simp
  obtain ⟨Vq3, hV⟩ : ∃ V, V = Pq2.alloc (.cells #[.int .i64 u0.kind, .string u0.text, .int .i64 u0.n, .slice Au0 u0.sh.length cau0, .slice Bu0 u0.at_.length cbu0, .slice Ku0 u0.kids.length cku0, .int .i64 u1.kind, .string u1.text, .int .i64 u1.n, .slice Au1 u1.sh.length cau1, .slice Bu1 u1.at_.length cbu1, .slice Ku1 u1.kids.length cku1] TTm) := ⟨_, rfl⟩
  obtain ⟨gq3, hg⟩ : ∃ g, g = Pq2.heap.size := ⟨_, rfl⟩
  have hlow : W1.heap.size ≤ Pq2.heap.size := HBq2.out.size
  have hKV : KidsAt (mask Vq3 lo W1.heap.size) (some ⟨gq3, 0, none⟩) [u0, u1] 0 := by
    rw [hV, hg]
    refine row_new_m (w := Pq2) hlow [(u0, Au0, cau0, Bu0, cbu0, Ku0, cku0), (u1, Au1, cau1, Bu1, cbu1, Ku1, cku1)] (fun x hx => by
      simp only [List.mem_cons, List.not_mem_nil, or_false] at hx
      rcases hx with rfl | rfl
      · exact HU0.out
      · exact HU1.out) rfl
  have hbV : Below Pq2.heap.size Pq2 Vq3 := by rw [hV]; exact (Below.refl _ _).alloc (Nat.le_refl _) _
  have HBq3 := Lib.hid (HBq2.out.then_ hbV)
  have HKq3 := Lib.hid hKV
  rw [← hV, ← hg]
  clear hV hg hKV hbV hlow
  refine hK.out _ _ (HSM.out _ HBq3.out) (fun hHeld => ?_)
  clear hK K
  refine wpAnyH_ready (rs := [9]) (by kernel_rfl) (by simp) ?_
  refine AllReadyH.cons rfl (fun K hK => ?_) AllReadyH.nil
  go_simp
  go_at_call 120
  refine (tmade_any 46 [u0, u1] (some ⟨gq3, 0, none⟩) 2 2 Vq3 rfl).mono ?_
  rintro e Pq4 ⟨rfl, hb⟩
  have HM : Hid (TmAt (mask Pq4 lo W1.heap.size) (tOf 46 [u0, u1]) none none (some ⟨gq3, 0, none⟩)) := Lib.hid ⟨IntsAt.nil _ _, IntsAt.nil _ _, KidsAt.mask_on HKq3.out hb⟩
  have HBq4 := Lib.hid (HBq3.out.then_ hb)
  clear hb
  refine hK.out _ _ (HSM.out _ HBq4.out) (fun hHeld => ?_)
  clear hK K
  refine wpAnyH_ready (rs := [10]) (by kernel_rfl) (by simp) ?_
  refine AllReadyH.cons rfl (fun K hK => ?_) AllReadyH.nil
  obtain ⟨e1, e2, e3⟩ := six (.int .i64 46) (.string ⟨#[]⟩) (.int .i64 0) (.slice none 0 0) (.slice none 0 0) (.slice (some ⟨gq3, 0, none⟩) 2 2) ((HBq4.out.block (w.heap.size + 1) (heap_lt CX.out.hz)).trans CX.out.hz) (HSM.out _ HBq4.out) (Nat.le_refl _)
  have hz := (HBq4.out.block (w.heap.size + 1) (heap_lt CX.out.hz)).trans CX.out.hz
  have z0 := cell_at hz (j := 0) rfl
  have z1 := cell_at hz (j := 1) rfl
  have z2 := cell_at hz (j := 2) rfl
  have z3 := cell_at hz (j := 3) rfl
  have z4 := cell_at hz (j := 4) rfl
  have z5 := cell_at hz (j := 5) rfl
  have fz := unfrozen hz
  have lz := heap_lt hz
  have E3 := Lib.hid e3
  clear e1 e2 e3 hz
  go_simp
  refine hK.out _ _ E3.out (fun hHeld => ?_)
  clear hK K z0 z1 z2 z3 z4 z5 fz lz
  refine wpAnyH_done (by kernel_rfl) ?_ _
  change K _ _
  exact HK0.out _ _ _ _ _ _ _ _ _ _ _ _ _ _ HBq4.out HM.out rfl
set_option maxRecDepth 100000 in
set_option maxHeartbeats 100000000 in
theorem ttr13 {x : Tm} {Ax : Option Addr} {cax : Nat} {Bx : Option Addr} {cbx : Nat} {Kx : Option Addr} {ckx : Nat} {y : Tm} {Ay : Option Addr} {cay : Nat} {By : Option Addr} {cby : Nat} {Ky : Option Addr} {cky : Nat} {z : Tm} {Az : Option Addr} {caz : Nat} {Bz : Option Addr} {cbz : Nat} {Kz : Option Addr} {ckz : Nat} {u0 u1 u2 : Tm} {w W1 : World} {lo gk ok ck : Nat} (cx : TrCx w W1 lo) (fc : ∀ W, Below (w.heap.size + 1) W1 W → W.cell? ⟨gk, ok, none⟩ = some (.int .i64 x.kind) ∧ W.cell? ⟨gk, ok + 1, none⟩ = some (.string x.text) ∧ W.cell? ⟨gk, ok + 2, none⟩ = some (.int .i64 x.n) ∧ W.cell? ⟨gk, ok + 3, none⟩ = some (.slice Ax x.sh.length cax) ∧ W.cell? ⟨gk, ok + 4, none⟩ = some (.slice Bx x.at_.length cbx) ∧ W.cell? ⟨gk, ok + 5, none⟩ = some (.slice Kx x.kids.length ckx) ∧ W.cell? ⟨gk, ok + 6, none⟩ = some (.int .i64 y.kind) ∧ W.cell? ⟨gk, ok + 7, none⟩ = some (.string y.text) ∧ W.cell? ⟨gk, ok + 8, none⟩ = some (.int .i64 y.n) ∧ W.cell? ⟨gk, ok + 9, none⟩ = some (.slice Ay y.sh.length cay) ∧ W.cell? ⟨gk, ok + 10, none⟩ = some (.slice By y.at_.length cby) ∧ W.cell? ⟨gk, ok + 11, none⟩ = some (.slice Ky y.kids.length cky) ∧ W.cell? ⟨gk, ok + 12, none⟩ = some (.int .i64 z.kind) ∧ W.cell? ⟨gk, ok + 13, none⟩ = some (.string z.text) ∧ W.cell? ⟨gk, ok + 14, none⟩ = some (.int .i64 z.n) ∧ W.cell? ⟨gk, ok + 15, none⟩ = some (.slice Az z.sh.length caz) ∧ W.cell? ⟨gk, ok + 16, none⟩ = some (.slice Bz z.at_.length cbz) ∧ W.cell? ⟨gk, ok + 17, none⟩ = some (.slice Kz z.kids.length ckz) ∧ gk < W.heap.size) (h1 : ∀ W, Below W1.heap.size W1 W → Calls Tryz.prog 79 #[tmVal y Ay cay By cby Ky cky] W (TrPost u1 lo W)) (h0 : ∀ W, Below W1.heap.size W1 W → Calls Tryz.prog 121 #[tmVal x Ax cax Bx cbx Kx ckx, .int .i64 2] W (TrPost u0 lo W)) (h2 : ∀ W, Below W1.heap.size W1 W → Calls Tryz.prog 79 #[tmVal z Az caz Bz cbz Kz ckz] W (TrPost u2 lo W)) {K : Act → World → Prop} {Q' : Exit → Act → World → Prop} {s0 s4 s5 s6 s7 s8 s9 s10 s11 s12 s13 s14 s15 s16 s17 s18 s19 s20 s21 s22 s23 s24 s25 s26 s27 s28 s29 s30 s31 s32 s33 s34 s35 s36 s37 s38 s39 s40 s41 s42 s43 s44 s45 s46 s47 s48 s49 s50 s51 s52 s53 s54 s55 s56 s57 s58 s59 s60 s61 s62 s63 s64 s65 s66 s67 s68 s69 s70 s71 s72 : Value}
    (hP : ∀ c (a : Act) d v w, Q' (.panic c) (a.put (some d) v) w → Q' (.panic c) a w)
    (hK : ∀ (r38 r39 r40 r41 r42 r43 r44 r45 r46 r47 r48 r49 r50 r51 : Value) (X : Option Addr) (c : Nat) (W W' : World), Below W1.heap.size W1 W → TmAt (mask W lo W1.heap.size) (tOf 45 [u1, u0, u2]) none none X → W' = sixPutQ W (w.heap.size + 1) (.int .i64 45) (.string ⟨#[]⟩) (.int .i64 0) (.slice none 0 0) (.slice none 0 0) (.slice X 3 c) → K { tmps := List.toArray (s0 :: (.pointer (some ⟨w.heap.size, 0, none⟩)) :: (.pointer (some ⟨w.heap.size + 1, 0, none⟩)) :: (.slice (some ⟨gk, ok, none⟩) 3 ck) :: s4 :: s5 :: s6 :: s7 :: s8 :: s9 :: s10 :: s11 :: s12 :: s13 :: s14 :: s15 :: s16 :: s17 :: s18 :: s19 :: s20 :: s21 :: s22 :: s23 :: s24 :: s25 :: s26 :: s27 :: s28 :: s29 :: s30 :: s31 :: s32 :: s33 :: s34 :: s35 :: s36 :: s37 :: r38 :: r39 :: r40 :: r41 :: r42 :: r43 :: r44 :: r45 :: r46 :: r47 :: r48 :: r49 :: r50 :: r51 :: s52 :: s53 :: s54 :: s55 :: s56 :: s57 :: s58 :: s59 :: s60 :: s61 :: s62 :: s63 :: s64 :: s65 :: s66 :: s67 :: s68 :: s69 :: s70 :: s71 :: s72 :: []), defers := [] } W') :
    Code.wp Tryz.prog (regOf Tryz.f79 13) (Exit.then K Q') { tmps := List.toArray (s0 :: (.pointer (some ⟨w.heap.size, 0, none⟩)) :: (.pointer (some ⟨w.heap.size + 1, 0, none⟩)) :: (.slice (some ⟨gk, ok, none⟩) 3 ck) :: s4 :: s5 :: s6 :: s7 :: s8 :: s9 :: s10 :: s11 :: s12 :: s13 :: s14 :: s15 :: s16 :: s17 :: s18 :: s19 :: s20 :: s21 :: s22 :: s23 :: s24 :: s25 :: s26 :: s27 :: s28 :: s29 :: s30 :: s31 :: s32 :: s33 :: s34 :: s35 :: s36 :: s37 :: s38 :: s39 :: s40 :: s41 :: s42 :: s43 :: s44 :: s45 :: s46 :: s47 :: s48 :: s49 :: s50 :: s51 :: s52 :: s53 :: s54 :: s55 :: s56 :: s57 :: s58 :: s59 :: s60 :: s61 :: s62 :: s63 :: s64 :: s65 :: s66 :: s67 :: s68 :: s69 :: s70 :: s71 :: s72 :: []), defers := [] } W1 := by
  have CX := Lib.hid cx
  have FC := Lib.hid fc
  have C1 := Lib.hid h1
  have C0 := Lib.hid h0
  have C2 := Lib.hid h2
  have HK0 := Lib.hid hK
  have HP := Lib.hid hP
  have HSM : Hid (∀ W, Below W1.heap.size W1 W → Below (w.heap.size + 1) W1 W) := Lib.hid fun W h => h.mono (by rw [cx.s1]; omega)
  clear cx fc h1 h0 h2 hK hP
  conv => arg 2; whnf
  refine wp_region_held_drew (S := (fun W => Below (w.heap.size + 1) W1 W)) (by kernel_rfl) (HSM.out _ (Below.refl _ _).drew) (fun hHeld => ?_)
  obtain ⟨X, hX⟩ : ∃ X, X = W1.drew := ⟨_, rfl⟩
  have HX : Hid (Below W1.heap.size W1 X) := Lib.hid (by rw [hX]; exact (Below.refl _ _).drew)
  rw [← hX] at hHeld ⊢
  clear hX
  refine take_still (i := 0) (d := some 38) (v := .slice (some ⟨gk, ok, none⟩) 3 ck) rfl rfl (by kernel_rfl) (by kernel_rfl) (by kernel_rfl) (fun _ _ _ h => HP.out _ _ _ _ _ h) (Or.inl ⟨by rfl, ?_⟩) hHeld ?_
  · intro W hSw; go_simp; try with_reducible rfl
  try simp only [Act.put, List.setIfInBounds_toArray, List.set_cons_zero, List.set_cons_succ]
  refine take_still (i := 1) (d := some 39) (v := .pointer (some ⟨gk, ok + 6, none⟩)) rfl rfl (by kernel_rfl) (by kernel_rfl) (by kernel_rfl) (fun _ _ _ h => HP.out _ _ _ _ _ h) (Or.inl ⟨by rfl, ?_⟩) hHeld ?_
  · intro W hSw; go_simp; try with_reducible rfl
  try simp only [Act.put, List.setIfInBounds_toArray, List.set_cons_zero, List.set_cons_succ]
  refine take_still (i := 2) (d := some 40) (v := .agg #[.int .i64 y.kind, .string y.text, .int .i64 y.n, .slice Ay y.sh.length cay, .slice By y.at_.length cby, .slice Ky y.kids.length cky]) rfl rfl (by kernel_rfl) (by kernel_rfl) (by kernel_rfl) (fun _ _ _ h => HP.out _ _ _ _ _ h) (Or.inl ⟨by rfl, ?_⟩) hHeld ?_
  · intro W hSw; obtain ⟨x0, x1, x2, x3, x4, x5, y0, y1, y2, y3, y4, y5, z0, z1, z2, z3, z4, z5, gl⟩ := FC.out W hSw; go_simp; try with_reducible rfl
  try simp only [Act.put, List.setIfInBounds_toArray, List.set_cons_zero, List.set_cons_succ]
  refine take_still (i := 4) (d := some 42) (v := .slice (some ⟨gk, ok, none⟩) 3 ck) rfl rfl (by kernel_rfl) (by kernel_rfl) (by kernel_rfl) (fun _ _ _ h => HP.out _ _ _ _ _ h) (Or.inl ⟨by rfl, ?_⟩) hHeld ?_
  · intro W hSw; go_simp; try with_reducible rfl
  try simp only [Act.put, List.setIfInBounds_toArray, List.set_cons_zero, List.set_cons_succ]
  refine take_still (i := 5) (d := some 43) (v := .pointer (some ⟨gk, ok, none⟩)) rfl rfl (by kernel_rfl) (by kernel_rfl) (by kernel_rfl) (fun _ _ _ h => HP.out _ _ _ _ _ h) (Or.inl ⟨by rfl, ?_⟩) hHeld ?_
  · intro W hSw; go_simp; try with_reducible rfl
  try simp only [Act.put, List.setIfInBounds_toArray, List.set_cons_zero, List.set_cons_succ]
  refine take_still (i := 6) (d := some 44) (v := .agg #[.int .i64 x.kind, .string x.text, .int .i64 x.n, .slice Ax x.sh.length cax, .slice Bx x.at_.length cbx, .slice Kx x.kids.length ckx]) rfl rfl (by kernel_rfl) (by kernel_rfl) (by kernel_rfl) (fun _ _ _ h => HP.out _ _ _ _ _ h) (Or.inl ⟨by rfl, ?_⟩) hHeld ?_
  · intro W hSw; obtain ⟨x0, x1, x2, x3, x4, x5, y0, y1, y2, y3, y4, y5, z0, z1, z2, z3, z4, z5, gl⟩ := FC.out W hSw; go_simp; try with_reducible rfl
  try simp only [Act.put, List.setIfInBounds_toArray, List.set_cons_zero, List.set_cons_succ]
  refine take_still (i := 8) (d := some 46) (v := .slice (some ⟨gk, ok, none⟩) 3 ck) rfl rfl (by kernel_rfl) (by kernel_rfl) (by kernel_rfl) (fun _ _ _ h => HP.out _ _ _ _ _ h) (Or.inl ⟨by rfl, ?_⟩) hHeld ?_
  · intro W hSw; go_simp; try with_reducible rfl
  try simp only [Act.put, List.setIfInBounds_toArray, List.set_cons_zero, List.set_cons_succ]
  refine take_still (i := 9) (d := some 47) (v := .pointer (some ⟨gk, ok + 12, none⟩)) rfl rfl (by kernel_rfl) (by kernel_rfl) (by kernel_rfl) (fun _ _ _ h => HP.out _ _ _ _ _ h) (Or.inl ⟨by rfl, ?_⟩) hHeld ?_
  · intro W hSw; go_simp; try with_reducible rfl
  try simp only [Act.put, List.setIfInBounds_toArray, List.set_cons_zero, List.set_cons_succ]
  refine take_still (i := 10) (d := some 48) (v := .agg #[.int .i64 z.kind, .string z.text, .int .i64 z.n, .slice Az z.sh.length caz, .slice Bz z.at_.length cbz, .slice Kz z.kids.length ckz]) rfl rfl (by kernel_rfl) (by kernel_rfl) (by kernel_rfl) (fun _ _ _ h => HP.out _ _ _ _ _ h) (Or.inl ⟨by rfl, ?_⟩) hHeld ?_
  · intro W hSw; obtain ⟨x0, x1, x2, x3, x4, x5, y0, y1, y2, y3, y4, y5, z0, z1, z2, z3, z4, z5, gl⟩ := FC.out W hSw; go_simp; try with_reducible rfl
  try simp only [Act.put, List.setIfInBounds_toArray, List.set_cons_zero, List.set_cons_succ]
  refine wpAnyH_ready (rs := [3]) (by kernel_rfl) (by simp) ?_
  refine AllReadyH.cons rfl (fun K hK => ?_) AllReadyH.nil
  go_simp
  go_at_call 79
  refine (C1.out X HX.out).mono ?_
  rintro e Pq1 ⟨Au1, cau1, Bu1, cbu1, Ku1, cku1, rfl, hu, hb⟩
  have hw : W1.heap.size ≤ X.heap.size := HX.out.size
  have HU1 : Hid (TmAt (mask Pq1 lo W1.heap.size) u1 Au1 Bu1 Ku1) := Lib.hid (mask_less hu hw)
  have HBq1 := Lib.hid (HX.out.then_ hb)
  clear hb hu hw
  refine hK.out _ _ (HSM.out _ HBq1.out) (fun hHeld => ?_)
  clear hK K
  refine wpAnyH_ready (rs := [7]) (by kernel_rfl) (by simp) ?_
  refine AllReadyH.cons rfl (fun K hK => ?_) AllReadyH.nil
  go_simp
  go_at_call 121
  refine (C0.out Pq1 HBq1.out).mono ?_
  rintro e Pq2 ⟨Au0, cau0, Bu0, cbu0, Ku0, cku0, rfl, hu, hb⟩
  have hw : W1.heap.size ≤ Pq1.heap.size := HBq1.out.size
  have HU0 : Hid (TmAt (mask Pq2 lo W1.heap.size) u0 Au0 Bu0 Ku0) := Lib.hid (mask_less hu hw)
  have HBq2 := Lib.hid (HBq1.out.then_ hb)
  have HNq2 := Lib.hid hb
  clear hb hu hw
  have HU1 := Lib.hid (mask_on HU1.out (show Below Pq1.heap.size Pq1 Pq2 from HNq2.out))
  refine hK.out _ _ (HSM.out _ HBq2.out) (fun hHeld => ?_)
  clear hK K
  refine wpAnyH_ready (rs := [11]) (by kernel_rfl) (by simp) ?_
  refine AllReadyH.cons rfl (fun K hK => ?_) AllReadyH.nil
  go_simp
  go_at_call 79
  refine (C2.out Pq2 HBq2.out).mono ?_
  rintro e Pq3 ⟨Au2, cau2, Bu2, cbu2, Ku2, cku2, rfl, hu, hb⟩
  have hw : W1.heap.size ≤ Pq2.heap.size := HBq2.out.size
  have HU2 : Hid (TmAt (mask Pq3 lo W1.heap.size) u2 Au2 Bu2 Ku2) := Lib.hid (mask_less hu hw)
  have HBq3 := Lib.hid (HBq2.out.then_ hb)
  have HNq3 := Lib.hid hb
  clear hb hu hw
  have HU1 := Lib.hid (mask_on HU1.out (show Below Pq2.heap.size Pq2 Pq3 from HNq3.out))
  have HU0 := Lib.hid (mask_on HU0.out (show Below Pq2.heap.size Pq2 Pq3 from HNq3.out))
  refine hK.out _ _ (HSM.out _ HBq3.out) (fun hHeld => ?_)
  clear hK K
  refine wpAnyH_ready (rs := [12]) (by kernel_rfl) (by simp) ?_
  refine AllReadyH.cons rfl (fun K hK => ?_) AllReadyH.nil
  go_simp
  obtain ⟨Vq4, hV⟩ : ∃ V, V = Pq3.alloc (.cells #[.int .i64 u1.kind, .string u1.text, .int .i64 u1.n, .slice Au1 u1.sh.length cau1, .slice Bu1 u1.at_.length cbu1, .slice Ku1 u1.kids.length cku1, .int .i64 u0.kind, .string u0.text, .int .i64 u0.n, .slice Au0 u0.sh.length cau0, .slice Bu0 u0.at_.length cbu0, .slice Ku0 u0.kids.length cku0, .int .i64 u2.kind, .string u2.text, .int .i64 u2.n, .slice Au2 u2.sh.length cau2, .slice Bu2 u2.at_.length cbu2, .slice Ku2 u2.kids.length cku2] TTm) := ⟨_, rfl⟩
  obtain ⟨gq4, hg⟩ : ∃ g, g = Pq3.heap.size := ⟨_, rfl⟩
  have hlow : W1.heap.size ≤ Pq3.heap.size := HBq3.out.size
  have hKV : KidsAt (mask Vq4 lo W1.heap.size) (some ⟨gq4, 0, none⟩) [u1, u0, u2] 0 := by
    rw [hV, hg]
    refine row_new_m (w := Pq3) hlow [(u1, Au1, cau1, Bu1, cbu1, Ku1, cku1), (u0, Au0, cau0, Bu0, cbu0, Ku0, cku0), (u2, Au2, cau2, Bu2, cbu2, Ku2, cku2)] (fun x hx => by
      simp only [List.mem_cons, List.not_mem_nil, or_false] at hx
      rcases hx with rfl | rfl | rfl
      · exact HU1.out
      · exact HU0.out
      · exact HU2.out) rfl
  have hbV : Below Pq3.heap.size Pq3 Vq4 := by rw [hV]; exact (Below.refl _ _).alloc (Nat.le_refl _) _
  have HBq4 := Lib.hid (HBq3.out.then_ hbV)
  have HKq4 := Lib.hid hKV
  rw [← hV, ← hg]
  clear hV hg hKV hbV hlow
  refine hK.out _ _ (HSM.out _ HBq4.out) (fun hHeld => ?_)
  clear hK K
  refine wpAnyH_ready (rs := [13]) (by kernel_rfl) (by simp) ?_
  refine AllReadyH.cons rfl (fun K hK => ?_) AllReadyH.nil
  go_simp
  go_at_call 120
  refine (tmade_any 45 [u1, u0, u2] (some ⟨gq4, 0, none⟩) 3 3 Vq4 rfl).mono ?_
  rintro e Pq5 ⟨rfl, hb⟩
  have HM : Hid (TmAt (mask Pq5 lo W1.heap.size) (tOf 45 [u1, u0, u2]) none none (some ⟨gq4, 0, none⟩)) := Lib.hid ⟨IntsAt.nil _ _, IntsAt.nil _ _, KidsAt.mask_on HKq4.out hb⟩
  have HBq5 := Lib.hid (HBq4.out.then_ hb)
  clear hb
  refine hK.out _ _ (HSM.out _ HBq5.out) (fun hHeld => ?_)
  clear hK K
  refine wpAnyH_ready (rs := [14]) (by kernel_rfl) (by simp) ?_
  refine AllReadyH.cons rfl (fun K hK => ?_) AllReadyH.nil
  obtain ⟨e1, e2, e3⟩ := six (.int .i64 45) (.string ⟨#[]⟩) (.int .i64 0) (.slice none 0 0) (.slice none 0 0) (.slice (some ⟨gq4, 0, none⟩) 3 3) ((HBq5.out.block (w.heap.size + 1) (heap_lt CX.out.hz)).trans CX.out.hz) (HSM.out _ HBq5.out) (Nat.le_refl _)
  have hz := (HBq5.out.block (w.heap.size + 1) (heap_lt CX.out.hz)).trans CX.out.hz
  have z0 := cell_at hz (j := 0) rfl
  have z1 := cell_at hz (j := 1) rfl
  have z2 := cell_at hz (j := 2) rfl
  have z3 := cell_at hz (j := 3) rfl
  have z4 := cell_at hz (j := 4) rfl
  have z5 := cell_at hz (j := 5) rfl
  have fz := unfrozen hz
  have lz := heap_lt hz
  have E3 := Lib.hid e3
  clear e1 e2 e3 hz
  go_simp
  refine hK.out _ _ E3.out (fun hHeld => ?_)
  clear hK K z0 z1 z2 z3 z4 z5 fz lz
  refine wpAnyH_done (by kernel_rfl) ?_ _
  change K _ _
  exact HK0.out _ _ _ _ _ _ _ _ _ _ _ _ _ _ _ _ _ _ HBq5.out HM.out rfl
end Go.Proofs.YtebiojmfieoncaaGreat
