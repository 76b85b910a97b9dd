/- abacusref24.turned, region 11. No condition. -/
import Derived.Test.YtebiojmfieoncaaGreatTeQ8
import Derived.Test.YtebiojmfieoncaaGreatTeTX
namespace Go.Proofs.YtebiojmfieoncaaGreat
open Go.RowKit

set_option maxRecDepth 100000 in
set_option maxHeartbeats 100000000 in
theorem dtd11 {x : Tm} {Ax : Option Addr} {cax : Nat} {Bx : Option Addr} {cbx : Nat} {Kx : Option Addr} {ckx : Nat} {u : Tm} {Wr : World} {lo g n cap gl ol m cl i : Nat} {z : Int} (fx : ∀ W, Below Wr.heap.size Wr W → W.cell? ⟨g, i * 6, none⟩ = some (.int .i64 x.kind) ∧ W.cell? ⟨g, i * 6 + 1, none⟩ = some (.string x.text) ∧ W.cell? ⟨g, i * 6 + 2, none⟩ = some (.int .i64 x.n) ∧ W.cell? ⟨g, i * 6 + 3, none⟩ = some (.slice Ax x.sh.length cax) ∧ W.cell? ⟨g, i * 6 + 4, none⟩ = some (.slice Bx x.at_.length cbx) ∧ W.cell? ⟨g, i * 6 + 5, none⟩ = some (.slice Kx x.kids.length ckx) ∧ g < W.heap.size ∧ W.cell? ⟨gl, ol + i, none⟩ = some (.int .i64 z) ∧ gl < W.heap.size) (hlo : lo ≤ Wr.heap.size) (hin : i < n) (him : i < m)
    (hc : ∀ W, Below Wr.heap.size Wr W → Calls Tryz.prog 124 #[tmVal x Ax cax Bx cbx Kx ckx, .int .i64 z] W (TrPost u lo W)) {Q' : Exit → Act → World → Prop} {s0 s1 s2 s3 s4 s8 s9 s10 s11 s12 s13 s14 s15 s16 s17 s18 s19 s20 s21 s22 s23 s24 s25 s26 s27 s28 s29 s30 s31 s32 s33 s34 s35 s36 s37 s38 s39 s40 s41 s42 s43 s44 s45 s46 s47 s48 s49 s50 s51 s52 s53 s54 s55 s56 : Value}
    (hP : ∀ c (a : Act) d v w, Q' (.panic c) (a.put (some d) v) w → Q' (.panic c) a w)
    (hK : ∀ (r41 r42 r43 r44 r45 r46 r47 r48 r49 : Value) (g8 : Nat) (Au : Option Addr) (cau : Nat) (Bu : Option Addr) (cbu : Nat) (Ku : Option Addr) (cku : Nat) (W' : World), Below Wr.heap.size Wr W' → W'.heap[g8]? = some (.cells (tmCells u Au cau Bu cbu Ku cku) TTm (0, 0)) → TmAt (mask W' lo Wr.heap.size) u Au Bu Ku → Q' .normal { tmps := List.toArray (s0 :: s1 :: s2 :: s3 :: s4 :: (.slice (some ⟨gl, ol, none⟩) m cl) :: (.slice (some ⟨g, 0, none⟩) n cap) :: (.int .i64 (i : Int)) :: (.pointer (some ⟨g8, 0, none⟩)) :: s9 :: s10 :: s11 :: s12 :: s13 :: s14 :: s15 :: s16 :: s17 :: s18 :: s19 :: s20 :: s21 :: s22 :: s23 :: s24 :: s25 :: s26 :: s27 :: s28 :: s29 :: s30 :: s31 :: s32 :: s33 :: s34 :: s35 :: s36 :: s37 :: s38 :: s39 :: s40 :: r41 :: r42 :: r43 :: r44 :: r45 :: r46 :: r47 :: r48 :: r49 :: s50 :: s51 :: s52 :: s53 :: s54 :: s55 :: s56 :: []), defers := [] } W') :
    Code.wp Tryz.prog (regOf Tryz.f124 11) Q' { tmps := List.toArray (s0 :: s1 :: s2 :: s3 :: s4 :: (.slice (some ⟨gl, ol, none⟩) m cl) :: (.slice (some ⟨g, 0, none⟩) n cap) :: (.int .i64 (i : Int)) :: s8 :: s9 :: s10 :: s11 :: s12 :: s13 :: s14 :: s15 :: s16 :: s17 :: s18 :: s19 :: s20 :: s21 :: s22 :: s23 :: s24 :: s25 :: s26 :: s27 :: s28 :: s29 :: s30 :: s31 :: s32 :: s33 :: s34 :: s35 :: s36 :: s37 :: s38 :: s39 :: s40 :: s41 :: s42 :: s43 :: s44 :: s45 :: s46 :: s47 :: s48 :: s49 :: s50 :: s51 :: s52 :: s53 :: s54 :: s55 :: s56 :: []), defers := [] } Wr := by
  have FC := Lib.hid fx
  have HLO := Lib.hid hlo
  have HC := Lib.hid hc
  have HK0 := Lib.hid hK
  have HP := Lib.hid hP
  have q1 : (0 : Int) ≤ (i : Int) := by omega
  have q2 : (i : Int) < (n : Int) := by omega
  have q3 : (i : Int) < (m : Int) := by omega
  clear fx hlo hin him hc hK hP
  conv => arg 2; whnf
  refine wp_region_held_drew (S := (fun W => Below Wr.heap.size Wr W)) (by kernel_rfl) (Below.refl _ _).drew (fun hHeld => ?_)
  obtain ⟨X, hX⟩ : ∃ X, X = Wr.drew := ⟨_, rfl⟩
  have HX : Hid (Below Wr.heap.size Wr X) := Lib.hid (by rw [hX]; exact (Below.refl _ _).drew)
  rw [← hX] at hHeld ⊢
  clear hX
  refine take_still (i := 0) (d := some 41) (v := .slice (some ⟨g, 0, none⟩) n cap) rfl rfl (by kernel_rfl) (by kernel_rfl) (by kernel_rfl) (fun _ _ _ h => HP.out _ _ _ _ _ h) (Or.inl ⟨by rfl, ?_⟩) hHeld ?_
  · intro W hSw; go_simp; try with_reducible rfl
  try simp only [Act.put, List.setIfInBounds_toArray, List.set_cons_zero, List.set_cons_succ]
  refine take_still (i := 1) (d := some 42) (v := .int .i64 (i : Int)) rfl rfl (by kernel_rfl) (by kernel_rfl) (by kernel_rfl) (fun _ _ _ h => HP.out _ _ _ _ _ h) (Or.inl ⟨by rfl, ?_⟩) hHeld ?_
  · intro W hSw; go_simp; try with_reducible rfl
  try simp only [Act.put, List.setIfInBounds_toArray, List.set_cons_zero, List.set_cons_succ]
  refine take_still (i := 2) (d := some 43) (v := .pointer (some ⟨g, i * 6, none⟩)) rfl rfl (by kernel_rfl) (by kernel_rfl) (by kernel_rfl) (fun _ _ _ h => HP.out _ _ _ _ _ h) (Or.inl ⟨by rfl, ?_⟩) hHeld ?_
  · intro W hSw; go_simp; try with_reducible rfl
  try simp only [Act.put, List.setIfInBounds_toArray, List.set_cons_zero, List.set_cons_succ]
  refine take_still (i := 3) (d := some 44) (v := .agg #[.int .i64 x.kind, .string x.text, .int .i64 x.n, .slice Ax x.sh.length cax, .slice Bx x.at_.length cbx, .slice Kx x.kids.length ckx]) rfl rfl (by kernel_rfl) (by kernel_rfl) (by kernel_rfl) (fun _ _ _ h => HP.out _ _ _ _ _ h) (Or.inl ⟨by rfl, ?_⟩) hHeld ?_
  · intro W hSw; obtain ⟨x0, x1, x2, x3, x4, x5, xl, l0, ll⟩ := FC.out W hSw; go_simp; try with_reducible rfl
  try simp only [Act.put, List.setIfInBounds_toArray, List.set_cons_zero, List.set_cons_succ]
  refine take_still (i := 4) (d := some 45) (v := .slice (some ⟨gl, ol, none⟩) m cl) rfl rfl (by kernel_rfl) (by kernel_rfl) (by kernel_rfl) (fun _ _ _ h => HP.out _ _ _ _ _ h) (Or.inl ⟨by rfl, ?_⟩) hHeld ?_
  · intro W hSw; go_simp; try with_reducible rfl
  try simp only [Act.put, List.setIfInBounds_toArray, List.set_cons_zero, List.set_cons_succ]
  refine take_still (i := 5) (d := some 46) (v := .int .i64 (i : Int)) rfl rfl (by kernel_rfl) (by kernel_rfl) (by kernel_rfl) (fun _ _ _ h => HP.out _ _ _ _ _ h) (Or.inl ⟨by rfl, ?_⟩) hHeld ?_
  · intro W hSw; go_simp; try with_reducible rfl
  try simp only [Act.put, List.setIfInBounds_toArray, List.set_cons_zero, List.set_cons_succ]
  refine take_still (i := 6) (d := some 47) (v := .pointer (some ⟨gl, ol + i, none⟩)) rfl rfl (by kernel_rfl) (by kernel_rfl) (by kernel_rfl) (fun _ _ _ h => HP.out _ _ _ _ _ h) (Or.inl ⟨by rfl, ?_⟩) hHeld ?_
  · intro W hSw; go_simp; try with_reducible rfl
  try simp only [Act.put, List.setIfInBounds_toArray, List.set_cons_zero, List.set_cons_succ]
  refine take_still (i := 7) (d := some 48) (v := .int .i64 z) rfl rfl (by kernel_rfl) (by kernel_rfl) (by kernel_rfl) (fun _ _ _ h => HP.out _ _ _ _ _ h) (Or.inl ⟨by rfl, ?_⟩) hHeld ?_
  · intro W hSw; obtain ⟨x0, x1, x2, x3, x4, x5, xl, l0, ll⟩ := FC.out W hSw; go_simp; try with_reducible rfl
  try simp only [Act.put, List.setIfInBounds_toArray, List.set_cons_zero, List.set_cons_succ]
  refine wpAnyH_ready (rs := [8, 9]) (by kernel_rfl) (by simp) ?_
  refine AllReadyH.cons rfl (fun K hK => ?_) ?_
  · go_simp
    go_at_call 124
    refine (HC.out X HX.out).mono ?_
    rintro e P ⟨Au, cau, Bu, cbu, Ku, cku, rfl, hu, hb⟩
    have HU : Hid (TmAt (mask P lo X.heap.size) u Au Bu Ku) := Lib.hid hu
    have HBP := Lib.hid hb
    have HBC := Lib.hid (HX.out.then_ hb)
    clear hu hb
    refine hK.out _ _ HBC.out (fun hHeld => ?_)
    clear hK K
    refine wpAnyH_ready (rs := [9]) (by kernel_rfl) (by simp) ?_
    refine AllReadyH.cons rfl (fun K hK => ?_) ?_
    · go_simp
      obtain ⟨V, hV⟩ : ∃ V, V = P.alloc (.cells tm0 TTm) := ⟨_, rfl⟩
      obtain ⟨g8, hg8⟩ : ∃ g, g = P.heap.size := ⟨_, rfl⟩
      have hbV : Below P.heap.size P V := by rw [hV]; exact (Below.refl _ _).alloc (Nat.le_refl _) _
      have HG : Hid (V.heap[g8]? = some (.cells #[.int .i64 0, .string ⟨#[]⟩, .int .i64 0, .slice none 0 0, .slice none 0 0, .slice none 0 0] TTm (0, 0))) := Lib.hid (by rw [hV, hg8]; exact heap_alloc_new _ _)
      have HG8 : Hid (g8 = P.heap.size) := Lib.hid hg8
      have HVB := Lib.hid hbV
      have HBV := Lib.hid (HBC.out.then_ hbV)
      rw [← hV, ← hg8]
      clear hV hg8 hbV
      refine hK.out _ _ HBV.out (fun hHeld => ?_)
      clear hK K
      refine wpAnyH_ready (rs := [10]) (by kernel_rfl) (by simp) ?_
      refine AllReadyH.cons rfl (fun K hK => ?_) ?_
      · have hz := HG.out
        have z0 := cell_at hz (j := 0) rfl
        have z1 := cell_at hz (j := 1) rfl
        have z2 := cell_at hz (j := 2) rfl
        have z3 := cell_at hz (j := 3) rfl
        have z4 := cell_at hz (j := 4) rfl
        have z5 := cell_at hz (j := 5) rfl
        have fz := unfrozen hz
        have lz := heap_lt hz
        obtain ⟨e1, e2, e3⟩ := six (.int .i64 u.kind) (.string u.text) (.int .i64 u.n) (.slice Au u.sh.length cau) (.slice Bu u.at_.length cbu) (.slice Ku u.kids.length cku) hz HBV.out (Nat.le_trans HBC.out.size (Nat.le_of_eq HG8.out.symm))
        have HE1 := Lib.hid e1
        have HE3 := Lib.hid e3
        have HE2 : Hid (TmAt (mask (sixPutQ V g8 (.int .i64 u.kind) (.string u.text) (.int .i64 u.n) (.slice Au u.sh.length cau) (.slice Bu u.at_.length cbu) (.slice Ku u.kids.length cku)) lo Wr.heap.size) u Au Bu Ku) := Lib.hid (by
          refine mask_less (hi := X.heap.size) ?_ HX.out.size
          exact HU.out.sub (fun a y hy => by
            obtain ⟨m1, m2⟩ := mask_cell hy
            have hl := cell_lt' m2
            refine mask_cell' m1 ?_
            rw [World.cell?_of_block (w := V) (e2 a.block (by have := HG8.out; omega))]
            exact (HVB.out.cell (cell_lt' m2)).trans m2) (by rw [mask_size, mask_size]; simp [World.setCell]; exact HVB.out.size))
        clear hz e1 e2 e3
        go_simp
        refine hK.out _ _ HE3.out (fun hHeld => ?_)
        clear hK K z0 z1 z2 z3 z4 z5 fz lz
        refine wpAnyH_done (by kernel_rfl) ?_ _
        change Q' _ _ _
        exact HK0.out _ _ _ _ _ _ _ _ _ g8 Au cau Bu cbu Ku cku _ HE3.out HE1.out HE2.out
      exact AllReadyH.nil
    exact AllReadyH.nil
  refine AllReadyH.cons rfl (fun K hK => ?_) ?_
  · go_simp
    obtain ⟨V, hV⟩ : ∃ V, V = X.alloc (.cells tm0 TTm) := ⟨_, rfl⟩
    obtain ⟨g8, hg8⟩ : ∃ g, g = X.heap.size := ⟨_, rfl⟩
    have hbV : Below X.heap.size X V := by rw [hV]; exact (Below.refl _ _).alloc (Nat.le_refl _) _
    have HG : Hid (V.heap[g8]? = some (.cells #[.int .i64 0, .string ⟨#[]⟩, .int .i64 0, .slice none 0 0, .slice none 0 0, .slice none 0 0] TTm (0, 0))) := Lib.hid (by rw [hV, hg8]; exact heap_alloc_new _ _)
    have HG8 : Hid (g8 = X.heap.size) := Lib.hid hg8
    have HVB := Lib.hid hbV
    have HBV := Lib.hid (HX.out.then_ hbV)
    rw [← hV, ← hg8]
    clear hV hg8 hbV
    refine hK.out _ _ HBV.out (fun hHeld => ?_)
    clear hK K
    refine wpAnyH_ready (rs := [8]) (by kernel_rfl) (by simp) ?_
    refine AllReadyH.cons rfl (fun K hK => ?_) ?_
    · go_simp
      go_at_call 124
      refine (HC.out V HBV.out).mono ?_
      rintro e P ⟨Au, cau, Bu, cbu, Ku, cku, rfl, hu, hb⟩
      have HU : Hid (TmAt (mask P lo V.heap.size) u Au Bu Ku) := Lib.hid hu
      have HBP := Lib.hid hb
      have HBC := Lib.hid (HBV.out.then_ hb)
      clear hu hb
      refine hK.out _ _ HBC.out (fun hHeld => ?_)
      clear hK K
      have HG2 : Hid (P.heap[g8]? = some (.cells #[.int .i64 0, .string ⟨#[]⟩, .int .i64 0, .slice none 0 0, .slice none 0 0, .slice none 0 0] TTm (0, 0))) := Lib.hid ((HBP.out.block g8 (heap_lt HG.out)).trans HG.out)
      refine wpAnyH_ready (rs := [10]) (by kernel_rfl) (by simp) ?_
      refine AllReadyH.cons rfl (fun K hK => ?_) ?_
      · have hz := HG2.out
        have z0 := cell_at hz (j := 0) rfl
        have z1 := cell_at hz (j := 1) rfl
        have z2 := cell_at hz (j := 2) rfl
        have z3 := cell_at hz (j := 3) rfl
        have z4 := cell_at hz (j := 4) rfl
        have z5 := cell_at hz (j := 5) rfl
        have fz := unfrozen hz
        have lz := heap_lt hz
        obtain ⟨e1, e2, e3⟩ := six (.int .i64 u.kind) (.string u.text) (.int .i64 u.n) (.slice Au u.sh.length cau) (.slice Bu u.at_.length cbu) (.slice Ku u.kids.length cku) hz HBC.out (Nat.le_trans HX.out.size (Nat.le_of_eq HG8.out.symm))
        have HE1 := Lib.hid e1
        have HE3 := Lib.hid e3
        have HE2 : Hid (TmAt (mask (sixPutQ P g8 (.int .i64 u.kind) (.string u.text) (.int .i64 u.n) (.slice Au u.sh.length cau) (.slice Bu u.at_.length cbu) (.slice Ku u.kids.length cku)) lo Wr.heap.size) u Au Bu Ku) := Lib.hid (by
          refine mask_less (hi := V.heap.size) ?_ HBV.out.size
          exact HU.out.sub (fun a y hy => by
            obtain ⟨m1, m2⟩ := mask_cell hy
            have hl := cell_lt' m2
            refine mask_cell' m1 ?_
            rw [World.cell?_of_block (w := P) (e2 a.block (by have h1 := HG8.out; have h2 := HLO.out; have h3 := HX.out.size; have h4 := heap_lt HG.out; omega))]
            exact m2) (by rw [mask_size, mask_size]; simp [World.setCell]))
        clear hz e1 e2 e3
        go_simp
        refine hK.out _ _ HE3.out (fun hHeld => ?_)
        clear hK K z0 z1 z2 z3 z4 z5 fz lz
        refine wpAnyH_done (by kernel_rfl) ?_ _
        change Q' _ _ _
        exact HK0.out _ _ _ _ _ _ _ _ _ g8 Au cau Bu cbu Ku cku _ HE3.out HE1.out HE2.out
      exact AllReadyH.nil
    exact AllReadyH.nil
  exact AllReadyH.nil
end Go.Proofs.YtebiojmfieoncaaGreat
