/- TacitAll: what the last region knows; region 11. No condition. · The walk of TacitAll: it returns true. Condition: sizes within reach. -/
import Derived.Test.YtebiojmfieoncaaGreatTeQ8
import Derived.Test.YtebiojmfieoncaaGreatTeTX
import Derived.Test.YtebiojmfieoncaaGreatTeQn
import Derived.Test.YtebiojmfieoncaaGreatTeQr
import Derived.Test.YtebiojmfieoncaaGreatTeNS
namespace Go.Proofs.YtebiojmfieoncaaGreat
open Go.RowKit

/-- what the last region of TacitAll knows -/
structure TacCx (x u : Tm) (A1 : Option Addr) (ca1 : Nat) (B1 : Option Addr) (cb1 : Nat) (K1 : Option Addr) (ck1 : Nat) (A2 : Option Addr) (ca2 : Nat) (B2 : Option Addr) (cb2 : Nat) (K2 : Option Addr) (ck2 : Nat) (A3 : Option Addr) (ca3 : Nat) (B3 : Option Addr) (cb3 : Nat) (K3 : Option Addr) (ck3 : Nat) (A4 : Option Addr) (ca4 : Nat) (B4 : Option Addr) (cb4 : Nat) (K4 : Option Addr) (ck4 : Nat) (W0 : World) (g4 g5 g7 bk ok i : Nat) : Prop where
  fc : ∀ W, Below W0.heap.size W0 W → W.cell? ⟨g4, 0, none⟩ = some (.int .i64 x.kind) ∧ W.cell? ⟨g4, 1, none⟩ = some (.string x.text) ∧ W.cell? ⟨g4, 2, none⟩ = some (.int .i64 x.n) ∧ W.cell? ⟨g4, 3, none⟩ = some (.slice A1 x.sh.length ca1) ∧ W.cell? ⟨g4, 4, none⟩ = some (.slice B1 x.at_.length cb1) ∧ W.cell? ⟨g4, 5, none⟩ = some (.slice K1 x.kids.length ck1) ∧ g4 < W.heap.size ∧ W.cell? ⟨g5, 0, none⟩ = some (.int .i64 u.kind) ∧ W.cell? ⟨g5, 1, none⟩ = some (.string u.text) ∧ W.cell? ⟨g5, 2, none⟩ = some (.int .i64 u.n) ∧ W.cell? ⟨g5, 3, none⟩ = some (.slice A3 u.sh.length ca3) ∧ W.cell? ⟨g5, 4, none⟩ = some (.slice B3 u.at_.length cb3) ∧ W.cell? ⟨g5, 5, none⟩ = some (.slice K3 u.kids.length ck3) ∧ g5 < W.heap.size ∧ W.cell? ⟨g7, 0, none⟩ = some (.int .i64 u.kind) ∧ W.cell? ⟨g7, 1, none⟩ = some (.string u.text) ∧ W.cell? ⟨g7, 2, none⟩ = some (.int .i64 u.n) ∧ W.cell? ⟨g7, 3, none⟩ = some (.slice A4 u.sh.length ca4) ∧ W.cell? ⟨g7, 4, none⟩ = some (.slice B4 u.at_.length cb4) ∧ W.cell? ⟨g7, 5, none⟩ = some (.slice K4 u.kids.length ck4) ∧ g7 < W.heap.size ∧ W.cell? ⟨bk, ok + i * 6, none⟩ = some (.int .i64 x.kind) ∧ W.cell? ⟨bk, ok + i * 6 + 1, none⟩ = some (.string x.text) ∧ W.cell? ⟨bk, ok + i * 6 + 2, none⟩ = some (.int .i64 x.n) ∧ W.cell? ⟨bk, ok + i * 6 + 3, none⟩ = some (.slice A2 x.sh.length ca2) ∧ W.cell? ⟨bk, ok + i * 6 + 4, none⟩ = some (.slice B2 x.at_.length cb2) ∧ W.cell? ⟨bk, ok + i * 6 + 5, none⟩ = some (.slice K2 x.kids.length ck2) ∧ bk < W.heap.size
  eq : ∀ (W : World), Below W0.heap.size W0 W → Calls Tryz.prog 37 #[tmVal u A3 ca3 B3 cb3 K3 ck3, tmVal u A4 ca4 B4 cb4 K4 ck4] W fun e w' => e = .returned (.bool true) ∧ Below W.heap.size W w'
  kept : ∀ (W : World), Below W0.heap.size W0 W → Calls Tryz.prog 30 #[tmVal x A1 ca1 B1 cb1 K1 ck1, tmVal x A2 ca2 B2 cb2 K2 ck2] W fun e w' => e = .returned (.bool true) ∧ Below W.heap.size W w'
set_option maxRecDepth 100000 in
set_option maxHeartbeats 100000000 in
theorem tac11 {x u : Tm} {A1 : Option Addr} {ca1 : Nat} {B1 : Option Addr} {cb1 : Nat} {K1 : Option Addr} {ck1 : Nat} {A2 : Option Addr} {ca2 : Nat} {B2 : Option Addr} {cb2 : Nat} {K2 : Option Addr} {ck2 : Nat} {A3 : Option Addr} {ca3 : Nat} {B3 : Option Addr} {cb3 : Nat} {K3 : Option Addr} {ck3 : Nat} {A4 : Option Addr} {ca4 : Nat} {B4 : Option Addr} {cb4 : Nat} {K4 : Option Addr} {ck4 : Nat} {W0 : World} {g4 g5 g7 bk ok i : Nat} (cx : TacCx x u A1 ca1 B1 cb1 K1 ck1 A2 ca2 B2 cb2 K2 ck2 A3 ca3 B3 cb3 K3 ck3 A4 ca4 B4 cb4 K4 ck4 W0 g4 g5 g7 bk ok i) {n c : Nat} {E : Int} (hin : i < n) {W : World} (hB : Below W0.heap.size W0 W) {K : Act → World → Prop} {Q' : Exit → Act → World → Prop} {s1 s2 s9 s10 s11 s12 s13 s14 s15 s16 s17 s18 s19 s20 s21 s22 s23 s24 s25 s26 s27 s28 s29 s30 s31 s32 s33 s34 s35 s36 s37 s38 s39 s40 s41 s42 s43 s44 s45 s46 s47 s48 s49 s50 s51 s52 s53 s54 s55 s56 s57 s58 s59 s60 : Value}
    (hP : ∀ c (a : Act) d v w, Q' (.panic c) (a.put (some d) v) w → Q' (.panic c) a w) (hK : ∀ (r43 r44 r45 r46 r47 r48 r49 r50 r51 r52 r53 r54 r55 r56 r57 r58 r59 : Value) (W' : World), Below W0.heap.size W0 W' → K { tmps := List.toArray ((.slice (some ⟨bk, ok, none⟩) n c) :: s1 :: s2 :: (.int .i64 (i : Int)) :: (.pointer (some ⟨g4, 0, none⟩)) :: (.pointer (some ⟨g5, 0, none⟩)) :: (.int .i64 E) :: (.pointer (some ⟨g7, 0, none⟩)) :: (.int .i64 E) :: s9 :: s10 :: s11 :: s12 :: s13 :: s14 :: s15 :: s16 :: s17 :: s18 :: s19 :: s20 :: s21 :: s22 :: s23 :: s24 :: s25 :: s26 :: s27 :: s28 :: s29 :: s30 :: s31 :: s32 :: s33 :: s34 :: s35 :: s36 :: s37 :: s38 :: s39 :: s40 :: s41 :: s42 :: r43 :: r44 :: r45 :: r46 :: r47 :: r48 :: r49 :: r50 :: r51 :: r52 :: r53 :: r54 :: r55 :: r56 :: r57 :: r58 :: r59 :: (.bool false) :: []), defers := [] } W') :
    Code.wp Tryz.prog (regOf Tryz.f7 11) (Exit.then K Q') { tmps := List.toArray ((.slice (some ⟨bk, ok, none⟩) n c) :: s1 :: s2 :: (.int .i64 (i : Int)) :: (.pointer (some ⟨g4, 0, none⟩)) :: (.pointer (some ⟨g5, 0, none⟩)) :: (.int .i64 E) :: (.pointer (some ⟨g7, 0, none⟩)) :: (.int .i64 E) :: s9 :: s10 :: s11 :: s12 :: s13 :: s14 :: s15 :: s16 :: s17 :: s18 :: s19 :: s20 :: s21 :: s22 :: s23 :: s24 :: s25 :: s26 :: s27 :: s28 :: s29 :: s30 :: s31 :: s32 :: s33 :: s34 :: s35 :: s36 :: s37 :: s38 :: s39 :: s40 :: s41 :: s42 :: s43 :: s44 :: s45 :: s46 :: s47 :: s48 :: s49 :: s50 :: s51 :: s52 :: s53 :: s54 :: s55 :: s56 :: s57 :: s58 :: s59 :: s60 :: []), defers := [] } W := by
  have CX := Lib.hid cx
  have FC := Lib.hid cx.fc
  have HI := Lib.hid hB
  have HK0 := Lib.hid hK
  have HP := Lib.hid hP
  have q1 : (0 : Int) ≤ (i : Int) := by omega
  have q2 : (i : Int) < (n : Int) := by omega
  clear cx hB hK hP
  conv => arg 2; whnf
  refine wp_region_held_drew (S := (fun W => Below W0.heap.size W0 W)) (by kernel_rfl) HI.out.drew (fun hHeld => ?_)
  obtain ⟨X, hX⟩ : ∃ X, X = W.drew := ⟨_, rfl⟩
  have HX : Hid (Below W0.heap.size W0 X) := Lib.hid (by rw [hX]; exact HI.out.drew)
  rw [← hX] at hHeld ⊢
  clear hX
  refine take_still (i := 0) (d := some 43) (v := .int .i64 E) rfl rfl (by kernel_rfl) (by kernel_rfl) (by kernel_rfl) (fun _ _ _ h => HP.out _ _ _ _ _ h) (Or.inl ⟨by rfl, ?_⟩) hHeld ?_
  · intro W hSw; go_simp; try with_reducible rfl
  try simp only [Act.put, List.setIfInBounds_toArray, List.set_cons_zero, List.set_cons_succ]
  refine take_still (i := 1) (d := some 44) (v := .int .i64 E) rfl rfl (by kernel_rfl) (by kernel_rfl) (by kernel_rfl) (fun _ _ _ h => HP.out _ _ _ _ _ h) (Or.inl ⟨by rfl, ?_⟩) hHeld ?_
  · intro W hSw; go_simp; try with_reducible rfl
  try simp only [Act.put, List.setIfInBounds_toArray, List.set_cons_zero, List.set_cons_succ]
  refine take_still (i := 2) (d := some 45) (v := .bool false) rfl rfl (by kernel_rfl) (by kernel_rfl) (by kernel_rfl) (fun _ _ _ h => HP.out _ _ _ _ _ h) (Or.inl ⟨by rfl, ?_⟩) hHeld ?_
  · intro W hSw; go_simp; try with_reducible rfl
  try simp only [Act.put, List.setIfInBounds_toArray, List.set_cons_zero, List.set_cons_succ]
  refine take_still (i := 3) (d := some 46) (v := .bool false) rfl rfl (by kernel_rfl) (by kernel_rfl) (by kernel_rfl) (fun _ _ _ h => HP.out _ _ _ _ _ h) (Or.inl ⟨by rfl, ?_⟩) hHeld ?_
  · intro W hSw; go_simp; try with_reducible rfl
  try simp only [Act.put, List.setIfInBounds_toArray, List.set_cons_zero, List.set_cons_succ]
  refine take_still (i := 4) (d := some 47) (v := .agg #[.int .i64 u.kind, .string u.text, .int .i64 u.n, .slice A3 u.sh.length ca3, .slice B3 u.at_.length cb3, .slice K3 u.kids.length ck3]) rfl rfl (by kernel_rfl) (by kernel_rfl) (by kernel_rfl) (fun _ _ _ h => HP.out _ _ _ _ _ h) (Or.inl ⟨by rfl, ?_⟩) hHeld ?_
  · intro W hSw; obtain ⟨t0, t1, t2, t3, t4, t5, tl, a0, a1, a2, a3, a4, a5, al, b0, b1, b2, b3, b4, b5, bl, v0, v1, v2, v3, v4, v5, vl⟩ := FC.out W hSw; go_simp; try with_reducible rfl
  try simp only [Act.put, List.setIfInBounds_toArray, List.set_cons_zero, List.set_cons_succ]
  refine take_still (i := 5) (d := some 48) (v := .agg #[.int .i64 u.kind, .string u.text, .int .i64 u.n, .slice A4 u.sh.length ca4, .slice B4 u.at_.length cb4, .slice K4 u.kids.length ck4]) rfl rfl (by kernel_rfl) (by kernel_rfl) (by kernel_rfl) (fun _ _ _ h => HP.out _ _ _ _ _ h) (Or.inl ⟨by rfl, ?_⟩) hHeld ?_
  · intro W hSw; obtain ⟨t0, t1, t2, t3, t4, t5, tl, a0, a1, a2, a3, a4, a5, al, b0, b1, b2, b3, b4, b5, bl, v0, v1, v2, v3, v4, v5, vl⟩ := FC.out W hSw; go_simp; try with_reducible rfl
  try simp only [Act.put, List.setIfInBounds_toArray, List.set_cons_zero, List.set_cons_succ]
  refine wpAnyH_ready (rs := [6]) (by kernel_rfl) (by simp) ?_
  refine AllReadyH.cons rfl (fun K hK => ?_) AllReadyH.nil
  go_simp
  go_at_call 37
  refine ((CX.out.eq X HX.out)).mono ?_
  rintro e Pp1 ⟨rfl, hb⟩
  have HBp1 := Lib.hid (HX.out.then_ hb)
  clear hb
  refine hK.out _ _ HBp1.out (fun hHeld => ?_)
  clear hK K
  refine take_still (i := 7) (d := some 50) (v := .bool false) rfl rfl (by kernel_rfl) (by kernel_rfl) (by kernel_rfl) (fun _ _ _ h => HP.out _ _ _ _ _ h) (Or.inl ⟨by rfl, ?_⟩) hHeld ?_
  · intro W hSw; go_simp; try with_reducible rfl
  try simp only [Act.put, List.setIfInBounds_toArray, List.set_cons_zero, List.set_cons_succ]
  refine take_still (i := 8) (d := some 51) (v := .bool false) rfl rfl (by kernel_rfl) (by kernel_rfl) (by kernel_rfl) (fun _ _ _ h => HP.out _ _ _ _ _ h) (Or.inl ⟨by rfl, ?_⟩) hHeld ?_
  · intro W hSw; go_simp; try with_reducible rfl
  try simp only [Act.put, List.setIfInBounds_toArray, List.set_cons_zero, List.set_cons_succ]
  refine take_still (i := 9) (d := some 52) (v := .bool false) rfl rfl (by kernel_rfl) (by kernel_rfl) (by kernel_rfl) (fun _ _ _ h => HP.out _ _ _ _ _ h) (Or.inl ⟨by rfl, ?_⟩) hHeld ?_
  · intro W hSw; go_simp; try with_reducible rfl
  try simp only [Act.put, List.setIfInBounds_toArray, List.set_cons_zero, List.set_cons_succ]
  refine take_still (i := 10) (d := some 53) (v := .agg #[.int .i64 x.kind, .string x.text, .int .i64 x.n, .slice A1 x.sh.length ca1, .slice B1 x.at_.length cb1, .slice K1 x.kids.length ck1]) rfl rfl (by kernel_rfl) (by kernel_rfl) (by kernel_rfl) (fun _ _ _ h => HP.out _ _ _ _ _ h) (Or.inl ⟨by rfl, ?_⟩) hHeld ?_
  · intro W hSw; obtain ⟨t0, t1, t2, t3, t4, t5, tl, a0, a1, a2, a3, a4, a5, al, b0, b1, b2, b3, b4, b5, bl, v0, v1, v2, v3, v4, v5, vl⟩ := FC.out W hSw; go_simp; try with_reducible rfl
  try simp only [Act.put, List.setIfInBounds_toArray, List.set_cons_zero, List.set_cons_succ]
  refine take_still (i := 11) (d := some 54) (v := .slice (some ⟨bk, ok, none⟩) n c) rfl rfl (by kernel_rfl) (by kernel_rfl) (by kernel_rfl) (fun _ _ _ h => HP.out _ _ _ _ _ h) (Or.inl ⟨by rfl, ?_⟩) hHeld ?_
  · intro W hSw; go_simp; try with_reducible rfl
  try simp only [Act.put, List.setIfInBounds_toArray, List.set_cons_zero, List.set_cons_succ]
  refine take_still (i := 12) (d := some 55) (v := .int .i64 (i : Int)) rfl rfl (by kernel_rfl) (by kernel_rfl) (by kernel_rfl) (fun _ _ _ h => HP.out _ _ _ _ _ h) (Or.inl ⟨by rfl, ?_⟩) hHeld ?_
  · intro W hSw; go_simp; try with_reducible rfl
  try simp only [Act.put, List.setIfInBounds_toArray, List.set_cons_zero, List.set_cons_succ]
  refine take_still (i := 13) (d := some 56) (v := .pointer (some ⟨bk, ok + i * 6, none⟩)) rfl rfl (by kernel_rfl) (by kernel_rfl) (by kernel_rfl) (fun _ _ _ h => HP.out _ _ _ _ _ h) (Or.inl ⟨by rfl, ?_⟩) hHeld ?_
  · intro W hSw; go_simp; try with_reducible rfl
  try simp only [Act.put, List.setIfInBounds_toArray, List.set_cons_zero, List.set_cons_succ]
  refine take_still (i := 14) (d := some 57) (v := .agg #[.int .i64 x.kind, .string x.text, .int .i64 x.n, .slice A2 x.sh.length ca2, .slice B2 x.at_.length cb2, .slice K2 x.kids.length ck2]) rfl rfl (by kernel_rfl) (by kernel_rfl) (by kernel_rfl) (fun _ _ _ h => HP.out _ _ _ _ _ h) (Or.inl ⟨by rfl, ?_⟩) hHeld ?_
  · intro W hSw; obtain ⟨t0, t1, t2, t3, t4, t5, tl, a0, a1, a2, a3, a4, a5, al, b0, b1, b2, b3, b4, b5, bl, v0, v1, v2, v3, v4, v5, vl⟩ := FC.out W hSw; go_simp; try with_reducible rfl
  try simp only [Act.put, List.setIfInBounds_toArray, List.set_cons_zero, List.set_cons_succ]
  refine wpAnyH_ready (rs := [15]) (by kernel_rfl) (by simp) ?_
  refine AllReadyH.cons rfl (fun K hK => ?_) AllReadyH.nil
  go_simp
  go_at_call 30
  refine ((CX.out.kept Pp1 HBp1.out)).mono ?_
  rintro e Pp2 ⟨rfl, hb⟩
  have HBp2 := Lib.hid (HBp1.out.then_ hb)
  clear hb
  refine hK.out _ _ HBp2.out (fun hHeld => ?_)
  clear hK K
  refine take_still (i := 16) (d := some 59) (v := .bool false) rfl rfl (by kernel_rfl) (by kernel_rfl) (by kernel_rfl) (fun _ _ _ h => HP.out _ _ _ _ _ h) (Or.inl ⟨by rfl, ?_⟩) hHeld ?_
  · intro W hSw; go_simp; try with_reducible rfl
  try simp only [Act.put, List.setIfInBounds_toArray, List.set_cons_zero, List.set_cons_succ]
  refine take_still (i := 17) (d := some 60) (v := .bool false) rfl rfl (by kernel_rfl) (by kernel_rfl) (by kernel_rfl) (fun _ _ _ h => HP.out _ _ _ _ _ h) (Or.inl ⟨by rfl, ?_⟩) hHeld ?_
  · intro W hSw; go_simp; try with_reducible rfl
  try simp only [Act.put, List.setIfInBounds_toArray, List.set_cons_zero, List.set_cons_succ]
  refine wpAnyH_done (by kernel_rfl) ?_ _
  change K _ _
  exact HK0.out _ _ _ _ _ _ _ _ _ _ _ _ _ _ _ _ _ _ HBp2.out
end Go.Proofs.YtebiojmfieoncaaGreat

namespace Go.Proofs.YtebiojmfieoncaaGreat
open Go.RowKit

theorem ofT_wf {t : Tm} (h : WfT t) : WfT (ofT t).1 := by
  unfold ofT
  by_cases h1 : mayT t 3 ≠ 0
  · rw [if_pos h1]; exact nil_wf
  · rw [if_neg h1]
    by_cases h2 : 2048 < (sizeT t).1
    · rw [if_pos h2]; exact nil_wf
    · rw [if_neg h2]
      by_cases h3 : plainT t = false
      · rw [if_pos h3]; exact nil_wf
      · rw [if_neg h3]
        by_cases h4 : greatT (trn (cnt t) (nounT t)) = true
        · show WfT (if _ then _ else _); rw [if_pos h4]; exact nil_wf
        · show WfT (if _ then _ else _); rw [if_neg h4]; exact (tr_wf (cnt t)).1 _ (by unfold nounT; exact nth_wf (nth_wf (nth_wf h 0) 0) 0)
set_option maxRecDepth 100000 in
set_option maxHeartbeats 32000000 in
theorem tacitAll_any (X : Option Addr) (l : List Tm) (c : Nat) (w : World) (h : KidsAt w X l 0) (hwf : ∀ t ∈ l, WfT t) (hl : l.length * 104 ≤ 140737488351232) (hlc : l.length ≤ c) :
    Calls Tryz.prog 7 #[.slice X l.length c] w fun e w' => e = .returned (.bool true) ∧ Below w.heap.size w w' := by
  have HH := Lib.hid h
  have HWL := Lib.hid hwf
  obtain ⟨n0, hn⟩ : ∃ n, n = l.length := ⟨_, rfl⟩
  have HN := Lib.hid hn
  have HSO : Hid (∀ W, Below w.heap.size w W → Calls Tryz.prog 23 #[.slice X n0 c] W fun e w' => (∃ m : Nat, e = .returned (.slice X m c) ∧ m ≤ n0) ∧ Below W.heap.size W w') := Lib.hid fun W hb => by
    rw [hn]
    exact some_any l X c W (h.on hb) hwf (by omega) hlc
  rw [← hn] at hl ⊢
  clear h hwf hn hlc
  go_enter Tryz.func7, Tryz.ntmps7
  go_wp2_with fail
  refine (begun24_any w).mono ?_
  rintro e w2 ⟨rfl, hb2⟩
  have HB2 := Lib.hid hb2
  clear hb2
  go_wp2_with fail
  refine (HSO.out w2 HB2.out).mono ?_
  rintro e w3 ⟨⟨n, rfl, hnn⟩, hb3⟩
  have HB3 := Lib.hid (HB2.out.then_ hb3)
  have HNN := Lib.hid hnn
  have hn4 : n ≤ 140737488351232 := by omega
  clear hb3 hnn hl
  go_wp2_with fail
  go_loopw [3] (fun v W => ∃ i : Nat, i ≤ n ∧ v = .int .i64 i ∧ Hid (Below w.heap.size w W)) (fun v _ => n - (intOf v).toNat)
  case atStart => exact ⟨0, Nat.zero_le _, rfl, HB3⟩
  case round =>
    obtain ⟨i, hi, rfl, HI⟩ := hrel
    by_cases hlt : i < n
    · obtain ⟨x, hx⟩ : ∃ x, l[i]? = some x := ⟨_, List.getElem?_eq_getElem (by have := HN.out; have := HNN.out; omega)⟩
      obtain ⟨bk, ok, rfl, hp1⟩ := HH.out.get hx
      rw [Nat.zero_add] at hp1
      obtain ⟨A2, ca2, B2, cb2, K2, ck2, lt1, r0, r1, r2, r3, r4, r5, hat2⟩ := hp1.cellsOn HI.out
      have HWX : Hid (WfT x) := Lib.hid (HWL.out x (List.mem_of_getElem? hx))
      have HAT : Hid (TmAt wr x A2 B2 K2) := Lib.hid (hat2.on HI.out)
      have KC : Hid (∀ W, Below wr.heap.size wr W → (W.cell? ⟨bk, ok + i * 6, none⟩ = some (.int .i64 x.kind) ∧ W.cell? ⟨bk, ok + i * 6 + 1, none⟩ = some (.string x.text) ∧ W.cell? ⟨bk, ok + i * 6 + 2, none⟩ = some (.int .i64 x.n) ∧ W.cell? ⟨bk, ok + i * 6 + 3, none⟩ = some (.slice A2 x.sh.length ca2) ∧ W.cell? ⟨bk, ok + i * 6 + 4, none⟩ = some (.slice B2 x.at_.length cb2) ∧ W.cell? ⟨bk, ok + i * 6 + 5, none⟩ = some (.slice K2 x.kids.length ck2)) ∧ bk < W.heap.size) := Lib.hid fun W hb => by
        have key : ∀ j v, wr.cell? ⟨bk, j, none⟩ = some v → W.cell? ⟨bk, j, none⟩ = some v := fun j v hv => (hb.cell (p := ⟨bk, j, none⟩) lt1).trans hv
        exact ⟨⟨key _ _ r0, key _ _ r1, key _ _ r2, key _ _ r3, key _ _ r4, key _ _ r5⟩, Nat.lt_of_lt_of_le lt1 hb.size⟩
      have HSM := Lib.hid (small_any x A2 ca2 B2 cb2 K2 ck2 wr HAT.out HWX.out)
      have q1 : (0 : Int) ≤ (i : Int) := by omega
      have q2 : (i : Int) < (n : Int) := by omega
      clear hx hp1 hat2
      unfold tmVal at HSM
      go_wp2_with fail
      refine HSM.out.mono ?_
      rintro e w4 ⟨⟨b, rfl⟩, hb4⟩
      have HB4 := Lib.hid hb4
      clear hb4 r0 r1 r2 r3 r4 r5 lt1 HSM
      cases b
      · go_wp2_with fail
        exact ⟨⟨i + 1, by omega, by go_num, Lib.hid (HI.out.then_ HB4.out)⟩, by simp [intOf]; omega⟩
      obtain ⟨⟨r0, r1, r2, r3, r4, r5⟩, lt1⟩ := KC.out w4 HB4.out
      have HTW := Lib.hid (twin7_any (cnt x) x A2 ca2 B2 cb2 K2 ck2 w4 (Nat.le_refl _) (HAT.out.on HB4.out) HWX.out)
      unfold tmVal at HTW
      go_wp2_with fail
      refine HTW.out.mono ?_
      rintro e w5 ⟨r, rfl, ho5, hs5, _, hb5⟩
      obtain ⟨hrt, f1, f2, f3⟩ := ho5.read
      have hval : rtVal x r = tmVal x r.s.p r.s.c r.a.p r.a.c r.k.p r.k.c := by unfold rtVal; rw [f1, f2, f3]
      have HVAL := Lib.hid hval
      have HO5 := Lib.hid (And.intro ho5 (And.intro hs5 hrt))
      have HB5 := Lib.hid (HB4.out.then_ hb5)
      rw [hval]
      clear ho5 hs5 hb5 hrt f1 f2 f3 hval r0 r1 r2 r3 r4 r5 lt1 HTW
      go_upto_region 9 with fail
      obtain ⟨w6, hw6⟩ : ∃ w6, w6 = w5.alloc (.cells (tmCells x r.s.p r.s.c r.a.p r.a.c r.k.p r.k.c) TTm) := ⟨_, rfl⟩
      have hg6 : w6.heap[w5.heap.size]? = some (.cells (tmCells x r.s.p r.s.c r.a.p r.a.c r.k.p r.k.c) TTm (0, 0)) := by rw [hw6]; exact heap_alloc_new _ _
      have hb6 : Below w5.heap.size w5 w6 := by rw [hw6]; exact (Below.refl _ _).alloc (Nat.le_refl _) _
      rw [← hw6]
      obtain ⟨g4, hgg⟩ : ∃ g, g = w5.heap.size := ⟨_, rfl⟩
      rw [← hgg] at hg6 ⊢
      have HB6 := Lib.hid (HB5.out.then_ hb6)
      have HO6 := Lib.hid (And.intro (HO5.out.1.on hb6) (And.intro (HO5.out.2.1.on hb6) (HO5.out.2.2.on hb6)))
      have HG6 : Hid (∀ W, Below w6.heap.size w6 W → W.heap[g4]? = some (.cells (tmCells x r.s.p r.s.c r.a.p r.a.c r.k.p r.k.c) TTm (0, 0))) := Lib.hid fun W h => (h.block _ (heap_lt hg6)).trans hg6
      obtain ⟨u, hu⟩ : ∃ u, u = (ofT x).1 := ⟨_, rfl⟩
      obtain ⟨E, hE⟩ : ∃ E, E = (ofT x).2 := ⟨_, rfl⟩
      have HUW : Hid (WfT u) := Lib.hid (by rw [hu]; exact ofT_wf HWX.out)
      have HOE : Hid (ofT x = (u, E)) := Lib.hid (by rw [hu, hE])
      have HOF := Lib.hid (tof24_any x r.s.p r.s.c r.a.p r.a.c r.k.p r.k.c w6 HO6.out.2.2 HWX.out)
      have t0 := cell_at hg6 (j := 0) rfl
      have t1 := cell_at hg6 (j := 1) rfl
      have t2 := cell_at hg6 (j := 2) rfl
      have t3 := cell_at hg6 (j := 3) rfl
      have t4 := cell_at hg6 (j := 4) rfl
      have t5 := cell_at hg6 (j := 5) rfl
      have tl := heap_lt hg6
      clear hw6 hg6 hb6 hgg hu hE HO5
      unfold tmVal at HOF
      go_wp2_with fail
      refine HOF.out.mono ?_
      intro e w7 hof
      obtain ⟨ra, rfl, hoa, _, hb7⟩ := hof.get HOE.out
      obtain ⟨hra, fa1, fa2, fa3⟩ := hoa.read
      have hva : rtVal u ra = tmVal u ra.s.p ra.s.c ra.a.p ra.a.c ra.k.p ra.k.c := by unfold rtVal; rw [fa1, fa2, fa3]
      have HRA := Lib.hid hra
      rw [hva]
      clear hof hoa hra fa1 fa2 fa3 hva t0 t1 t2 t3 t4 t5 tl HOF
      go_upto_region 10 with fail
      obtain ⟨w8, hw8⟩ : ∃ w8, w8 = w7.alloc (.cells (tmCells u ra.s.p ra.s.c ra.a.p ra.a.c ra.k.p ra.k.c) TTm) := ⟨_, rfl⟩
      have hg7 : w8.heap[w7.heap.size]? = some (.cells (tmCells u ra.s.p ra.s.c ra.a.p ra.a.c ra.k.p ra.k.c) TTm (0, 0)) := by rw [hw8]; exact heap_alloc_new _ _
      have hb78 : Below w7.heap.size w7 w8 := by rw [hw8]; exact (Below.refl _ _).alloc (Nat.le_refl _) _
      have hb8 : Below w6.heap.size w6 w8 := hb7.then_ hb78
      rw [← hw8]
      obtain ⟨g5, hgg⟩ : ∃ g, g = w7.heap.size := ⟨_, rfl⟩
      rw [← hgg] at hg7 ⊢
      have HB8 := Lib.hid hb8
      have HRA8 := Lib.hid (HRA.out.on hb78)
      have HG7 : Hid (∀ W, Below w8.heap.size w8 W → W.heap[g5]? = some (.cells (tmCells u ra.s.p ra.s.c ra.a.p ra.a.c ra.k.p ra.k.c) TTm (0, 0))) := Lib.hid fun W h => (h.block _ (heap_lt hg7)).trans hg7
      have HDF := Lib.hid (dof24_any x A2 ca2 B2 cb2 K2 ck2 w8 (HAT.out.on (HB6.out.then_ hb8)) HWX.out)
      obtain ⟨⟨r0, r1, r2, r3, r4, r5⟩, lt1⟩ := KC.out w8 (HB6.out.then_ hb8)
      clear hw8 hg7 hb7 hb8 hb78 hgg
      unfold tmVal at HDF
      go_wp2_with fail
      refine HDF.out.mono ?_
      intro e w9 hof
      obtain ⟨rb, rfl, hob, _, hb9⟩ := hof.get HOE.out
      obtain ⟨hrb, fb1, fb2, fb3⟩ := hob.read
      have hvb : rtVal u rb = tmVal u rb.s.p rb.s.c rb.a.p rb.a.c rb.k.p rb.k.c := by unfold rtVal; rw [fb1, fb2, fb3]
      have HRB := Lib.hid hrb
      rw [hvb]
      clear hof hob hrb fb1 fb2 fb3 hvb r0 r1 r2 r3 r4 r5 lt1 HDF
      go_upto_region 11 with fail
      obtain ⟨W0, hW0⟩ : ∃ W0, W0 = w9.alloc (.cells (tmCells u rb.s.p rb.s.c rb.a.p rb.a.c rb.k.p rb.k.c) TTm) := ⟨_, rfl⟩
      have hg9 : W0.heap[w9.heap.size]? = some (.cells (tmCells u rb.s.p rb.s.c rb.a.p rb.a.c rb.k.p rb.k.c) TTm (0, 0)) := by rw [hW0]; exact heap_alloc_new _ _
      have hb90 : Below w9.heap.size w9 W0 := by rw [hW0]; exact (Below.refl _ _).alloc (Nat.le_refl _) _
      have hb0 : Below w8.heap.size w8 W0 := hb9.then_ hb90
      rw [← hW0]
      obtain ⟨g7, hgg⟩ : ∃ g, g = w9.heap.size := ⟨_, rfl⟩
      rw [← hgg] at hg9 ⊢
      have HB60 : Hid (Below w6.heap.size w6 W0) := Lib.hid (HB8.out.then_ hb0)
      have HBR : Hid (Below wr.heap.size wr W0) := Lib.hid (HB6.out.then_ HB60.out)
      have CX : Hid (TacCx x u r.s.p r.s.c r.a.p r.a.c r.k.p r.k.c A2 ca2 B2 cb2 K2 ck2 ra.s.p ra.s.c ra.a.p ra.a.c ra.k.p ra.k.c rb.s.p rb.s.c rb.a.p rb.a.c rb.k.p rb.k.c W0 g4 g5 g7 bk ok i) := Lib.hid ⟨fun W h => by
          have y6 := HG6.out W (HB60.out.then_ h)
          have y7 := HG7.out W (hb0.then_ h)
          have y9 := (h.block _ (heap_lt hg9)).trans hg9
          obtain ⟨⟨r0, r1, r2, r3, r4, r5⟩, lt1⟩ := KC.out W (HBR.out.then_ h)
          exact ⟨cell_at y6 rfl, cell_at y6 rfl, cell_at y6 rfl, cell_at y6 rfl, cell_at y6 rfl, cell_at y6 rfl, heap_lt y6, cell_at y7 rfl, cell_at y7 rfl, cell_at y7 rfl, cell_at y7 rfl, cell_at y7 rfl, cell_at y7 rfl, heap_lt y7, cell_at y9 rfl, cell_at y9 rfl, cell_at y9 rfl, cell_at y9 rfl, cell_at y9 rfl, cell_at y9 rfl, heap_lt y9, r0, r1, r2, r3, r4, r5, lt1⟩,
        fun W h => eq14_any (cnt u) u ra.s.p ra.s.c ra.a.p ra.a.c ra.k.p ra.k.c rb.s.p rb.s.c rb.a.p rb.a.c rb.k.p rb.k.c W (Nat.le_refl _) (HRA8.out.on (hb0.then_ h)) (HRB.out.on (hb90.then_ h)) HUW.out,
        fun W h => by
          rw [← HVAL.out]
          exact kept14_any (cnt x) x r A2 ca2 B2 cb2 K2 ck2 _ W (Nat.le_refl _) (HO6.out.1.on (HB60.out.then_ h)) (HO6.out.2.1.on (HB60.out.then_ h)) (HAT.out.on (HBR.out.then_ h)) HWX.out⟩
      clear hW0 hg9 hb0 hb9 hb90 hgg HG6 HG7 HO6
      refine tac11 CX.out hlt (Below.refl _ _) ?_ ?_
      · exact fun _ _ _ _ _ h => h
      intro _ _ _ _ _ _ _ _ _ _ _ _ _ _ _ _ _ Wc hbc
      have HBC := Lib.hid (HI.out.then_ (HBR.out.then_ hbc))
      clear hbc
      go_wp2_with fail
      exact ⟨⟨i + 1, by omega, by go_num, HBC⟩, by simp [intOf]; omega⟩
    · obtain rfl : i = n := by omega
      clear hlt
      go_wp2_with fail
      go_ret
      exact ⟨rfl, HI.out⟩
end Go.Proofs.YtebiojmfieoncaaGreat
