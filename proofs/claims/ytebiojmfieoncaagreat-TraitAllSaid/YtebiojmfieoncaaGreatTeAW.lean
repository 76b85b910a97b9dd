/- TraitAll in pieces: what they know; [3]int compared. No condition. · TraitAll: regions 11, 13, 15. No condition. · The walk of TraitAll: it returns true. Condition: sizes within reach. -/
import Derived.Test.YtebiojmfieoncaaGreatTeTX
import Derived.Test.YtebiojmfieoncaaGreatTeT9
import Derived.Test.YtebiojmfieoncaaGreatTeR7
import Derived.Test.YtebiojmfieoncaaGreatTeNS
import Derived.Test.YtebiojmfieoncaaGreatTeTb
namespace Go.Proofs.YtebiojmfieoncaaGreat
open Go.RowKit

set_option maxRecDepth 100000 in
set_option maxHeartbeats 2000000 in
theorem neq3 (r : R3) (w : World) : (binOp .neq TR3 (r3v r) (r3v r)).run Tryz.prog w = .ok (.bool false) w := by
  obtain ⟨a, b, c⟩ := r
  have u3 := Tryz.underlying3
  have a3 := Tryz.isAgg3
  have z3 := Tryz.sizeOf3
  rw [run_neq_struct, show (10000 : Nat) = 9999 + 1 from rfl, Op.equalIn]
  simp only [Sem.run_bind, run_underlying Tryz.underlying48, Result.andThen_ok]
  simp only [Std.Legacy.Range.forIn_eq_forIn_range', Std.Legacy.Range.size, Nat.sub_zero, Nat.add_sub_cancel, Nat.div_one, List.range'_succ, List.range'_zero, List.forIn_cons, List.forIn_nil]
  go_simp
theorem nguard3 (r s : R3) (x y : Operand) (w : World) : (eqGuard .neq TR3 x y (r3v r) (r3v s)).run Tryz.prog w = .ok () w := by
  obtain ⟨a, b, c⟩ := r
  obtain ⟨a', b', c'⟩ := s
  simp [eqGuard, go_sem]
/-- what each piece of TraitAll knows -/
structure TallCx (x : Tm) (A1 : Option Addr) (ca1 : Nat) (B1 : Option Addr) (cb1 : Nat) (K1 : Option Addr) (ck1 : Nat) (A2 : Option Addr) (ca2 : Nat) (B2 : Option Addr) (cb2 : Nat) (K2 : Option Addr) (ck2 : Nat) (W0 : World) (g6 g7 g9 bk ok i : Nat) (R : R3) : Prop where
  fc : ∀ W, Below W0.heap.size W0 W → W.cell? ⟨g6, 0, none⟩ = some (.int .i64 x.kind) ∧ W.cell? ⟨g6, 1, none⟩ = some (.string x.text) ∧ W.cell? ⟨g6, 2, none⟩ = some (.int .i64 x.n) ∧ W.cell? ⟨g6, 3, none⟩ = some (.slice A1 x.sh.length ca1) ∧ W.cell? ⟨g6, 4, none⟩ = some (.slice B1 x.at_.length cb1) ∧ W.cell? ⟨g6, 5, none⟩ = some (.slice K1 x.kids.length ck1) ∧ g6 < W.heap.size ∧ W.cell? ⟨g7, 0, none⟩ = some (.int .i64 R.a) ∧ W.cell? ⟨g7, 1, none⟩ = some (.int .i64 R.b) ∧ W.cell? ⟨g7, 2, none⟩ = some (.int .i64 R.c) ∧ g7 < W.heap.size ∧ W.cell? ⟨g9, 0, none⟩ = some (.int .i64 R.a) ∧ W.cell? ⟨g9, 1, none⟩ = some (.int .i64 R.b) ∧ W.cell? ⟨g9, 2, none⟩ = some (.int .i64 R.c) ∧ g9 < W.heap.size ∧ W.cell? ⟨bk, ok + i * 6, none⟩ = some (.int .i64 x.kind) ∧ W.cell? ⟨bk, ok + i * 6 + 1, none⟩ = some (.string x.text) ∧ W.cell? ⟨bk, ok + i * 6 + 2, none⟩ = some (.int .i64 x.n) ∧ W.cell? ⟨bk, ok + i * 6 + 3, none⟩ = some (.slice A2 x.sh.length ca2) ∧ W.cell? ⟨bk, ok + i * 6 + 4, none⟩ = some (.slice B2 x.at_.length cb2) ∧ W.cell? ⟨bk, ok + i * 6 + 5, none⟩ = some (.slice K2 x.kids.length ck2) ∧ bk < W.heap.size
  tot : ∀ (n : Int) (W : World), Below W0.heap.size W0 W → Calls Tryz.prog 28 #[tmVal x A1 ca1 B1 cb1 K1 ck1, .int .i64 n] W fun e w' => e = .returned (.bool (totalT x n)) ∧ Below W.heap.size W w'
  dtot : ∀ (n : Int) (W : World), Below W0.heap.size W0 W → Calls Tryz.prog 29 #[tmVal x A2 ca2 B2 cb2 K2 ck2, .int .i64 n] W fun e w' => e = .returned (.bool (totalT x n)) ∧ Below W.heap.size W w'
  kept : ∀ (W : World), Below W0.heap.size W0 W → Calls Tryz.prog 30 #[tmVal x A1 ca1 B1 cb1 K1 ck1, tmVal x A2 ca2 B2 cb2 K2 ck2] W fun e w' => e = .returned (.bool true) ∧ Below W.heap.size W w'
end Go.Proofs.YtebiojmfieoncaaGreat

namespace Go.Proofs.YtebiojmfieoncaaGreat
open Go.RowKit


set_option maxRecDepth 100000 in
set_option maxHeartbeats 100000000 in
theorem tall11 {x : Tm} {A1 : Option Addr} {ca1 : Nat} {B1 : Option Addr} {cb1 : Nat} {K1 : Option Addr} {ck1 : Nat} {A2 : Option Addr} {ca2 : Nat} {B2 : Option Addr} {cb2 : Nat} {K2 : Option Addr} {ck2 : Nat} {W0 : World} {g6 g7 g9 bk ok i : Nat} {R : R3} (cx : TallCx x A1 ca1 B1 cb1 K1 ck1 A2 ca2 B2 cb2 K2 ck2 W0 g6 g7 g9 bk ok i R) {n c : Nat} {E : Int} {V : Value} (hin : i < n)  {W : World} (hB : Below W0.heap.size W0 W) {K : Act → World → Prop} {Q' : Exit → Act → World → Prop} {s2 s3 s4 s11 s12 s13 s14 s15 s16 s17 s18 s19 s20 s21 s22 s23 s24 s25 s26 s27 s28 s29 s30 s31 s32 s33 s34 s35 s36 s37 s38 s39 s40 s41 s42 s43 s44 s45 s46 s47 s48 s49 s50 s51 s52 s53 s54 s55 s56 s57 s58 s59 s60 s61 s62 s63 s64 s65 s66 s67 s68 s69 s70 s71 s72 s73 s74 s75 s76 s77 s78 s79 s80 s81 s82 s83 s84 s85 s86 s87 s88 s89 s90 s91 s92 s93 s94 s95 s96 s97 s98 s99 s100 s101 : Value}
    (hP : ∀ c (a : Act) d v w, Q' (.panic c) (a.put (some d) v) w → Q' (.panic c) a w) (hK : ∀ (r45 r46 r47 r48 r49 r50 r51 r52 r53 r54 r55 r56 r57 r58 r59 r60 r61 r62 r63 r64 r65 r66 r67 r68 r69 r70 r71 : Value) (W' : World), Below W0.heap.size W0 W' → K { tmps := List.toArray ((.slice (some ⟨bk, ok, none⟩) n c) :: (V) :: s2 :: s3 :: s4 :: (.int .i64 (i : Int)) :: (.pointer (some ⟨g6, 0, none⟩)) :: (.pointer (some ⟨g7, 0, none⟩)) :: (.int .i64 E) :: (.pointer (some ⟨g9, 0, none⟩)) :: (.int .i64 E) :: s11 :: s12 :: s13 :: s14 :: s15 :: s16 :: s17 :: s18 :: s19 :: s20 :: s21 :: s22 :: s23 :: s24 :: s25 :: s26 :: s27 :: s28 :: s29 :: s30 :: s31 :: s32 :: s33 :: s34 :: s35 :: s36 :: s37 :: s38 :: s39 :: s40 :: s41 :: s42 :: s43 :: s44 :: r45 :: r46 :: r47 :: r48 :: r49 :: r50 :: r51 :: r52 :: r53 :: r54 :: r55 :: r56 :: r57 :: r58 :: r59 :: r60 :: r61 :: r62 :: r63 :: r64 :: r65 :: r66 :: r67 :: r68 :: r69 :: r70 :: r71 :: (.bool false) :: s73 :: s74 :: s75 :: s76 :: s77 :: s78 :: s79 :: s80 :: s81 :: s82 :: s83 :: s84 :: s85 :: s86 :: s87 :: s88 :: s89 :: s90 :: s91 :: s92 :: s93 :: s94 :: s95 :: s96 :: s97 :: s98 :: s99 :: s100 :: s101 :: []), defers := [] } W') :
    Code.wp Tryz.prog (regOf Tryz.f5 11) (Exit.then K Q') { tmps := List.toArray ((.slice (some ⟨bk, ok, none⟩) n c) :: (V) :: s2 :: s3 :: s4 :: (.int .i64 (i : Int)) :: (.pointer (some ⟨g6, 0, none⟩)) :: (.pointer (some ⟨g7, 0, none⟩)) :: (.int .i64 E) :: (.pointer (some ⟨g9, 0, none⟩)) :: (.int .i64 E) :: s11 :: s12 :: s13 :: s14 :: s15 :: s16 :: s17 :: s18 :: s19 :: s20 :: s21 :: s22 :: s23 :: s24 :: s25 :: s26 :: s27 :: s28 :: s29 :: s30 :: s31 :: s32 :: s33 :: s34 :: s35 :: s36 :: s37 :: s38 :: s39 :: s40 :: s41 :: s42 :: s43 :: s44 :: s45 :: s46 :: s47 :: s48 :: s49 :: s50 :: s51 :: s52 :: s53 :: s54 :: s55 :: s56 :: s57 :: s58 :: s59 :: s60 :: s61 :: s62 :: s63 :: s64 :: s65 :: s66 :: s67 :: s68 :: s69 :: s70 :: s71 :: s72 :: s73 :: s74 :: s75 :: s76 :: s77 :: s78 :: s79 :: s80 :: s81 :: s82 :: s83 :: s84 :: s85 :: s86 :: s87 :: s88 :: s89 :: s90 :: s91 :: s92 :: s93 :: s94 :: s95 :: s96 :: s97 :: s98 :: s99 :: s100 :: s101 :: []), defers := [] } W := by
  have CX := Lib.hid cx
  have FC := Lib.hid cx.fc
  have HI := Lib.hid hB
  have HK0 := Lib.hid hK
  have HP := Lib.hid hP
  have q1 : (0 : Int) ≤ (i : Int) := by omega
  have q2 : (i : Int) < (n : Int) := by omega
  have e3 := neq3 R
  have e4 := nguard3 R R
  clear cx hB hK hP
  conv => arg 2; whnf
  refine wp_region_held_drew (S := (fun W => Below W0.heap.size W0 W)) (by kernel_rfl) HI.out.drew (fun hHeld => ?_)
  obtain ⟨X, hX⟩ : ∃ X, X = W.drew := ⟨_, rfl⟩
  have HX : Hid (Below W0.heap.size W0 X) := Lib.hid (by rw [hX]; exact HI.out.drew)
  rw [← hX] at hHeld ⊢
  clear hX
  refine take_still (i := 0) (d := some 45) (v := .agg #[.int .i64 R.a, .int .i64 R.b, .int .i64 R.c]) rfl rfl (by kernel_rfl) (by kernel_rfl) (by kernel_rfl) (fun _ _ _ h => HP.out _ _ _ _ _ h) (Or.inl ⟨by rfl, ?_⟩) hHeld ?_
  · intro W hSw; obtain ⟨u0, u1, u2, u3, u4, u5, ul, a0, a1, a2, al, b0, b1, b2, bl, v0, v1, v2, v3, v4, v5, vl⟩ := FC.out W hSw; go_simp; try with_reducible rfl
  try simp only [Act.put, List.setIfInBounds_toArray, List.set_cons_zero, List.set_cons_succ]
  refine take_still (i := 1) (d := some 46) (v := .agg #[.int .i64 R.a, .int .i64 R.b, .int .i64 R.c]) rfl rfl (by kernel_rfl) (by kernel_rfl) (by kernel_rfl) (fun _ _ _ h => HP.out _ _ _ _ _ h) (Or.inl ⟨by rfl, ?_⟩) hHeld ?_
  · intro W hSw; obtain ⟨u0, u1, u2, u3, u4, u5, ul, a0, a1, a2, al, b0, b1, b2, bl, v0, v1, v2, v3, v4, v5, vl⟩ := FC.out W hSw; go_simp; try with_reducible rfl
  try simp only [Act.put, List.setIfInBounds_toArray, List.set_cons_zero, List.set_cons_succ]
  refine take_still (i := 2) (d := some 47) (v := .bool false) rfl rfl (by kernel_rfl) (by kernel_rfl) (by kernel_rfl) (fun _ _ _ h => HP.out _ _ _ _ _ h) (Or.inl ⟨by rfl, ?_⟩) hHeld ?_
  · intro W hSw; go_simp; try with_reducible rfl
  try simp only [Act.put, List.setIfInBounds_toArray, List.set_cons_zero, List.set_cons_succ]
  refine take_still (i := 3) (d := some 48) (v := .bool false) rfl rfl (by kernel_rfl) (by kernel_rfl) (by kernel_rfl) (fun _ _ _ h => HP.out _ _ _ _ _ h) (Or.inl ⟨by rfl, ?_⟩) hHeld ?_
  · intro W hSw; go_simp; try with_reducible rfl
  try simp only [Act.put, List.setIfInBounds_toArray, List.set_cons_zero, List.set_cons_succ]
  refine take_still (i := 4) (d := some 49) (v := .int .i64 E) rfl rfl (by kernel_rfl) (by kernel_rfl) (by kernel_rfl) (fun _ _ _ h => HP.out _ _ _ _ _ h) (Or.inl ⟨by rfl, ?_⟩) hHeld ?_
  · intro W hSw; go_simp; try with_reducible rfl
  try simp only [Act.put, List.setIfInBounds_toArray, List.set_cons_zero, List.set_cons_succ]
  refine take_still (i := 5) (d := some 50) (v := .int .i64 E) rfl rfl (by kernel_rfl) (by kernel_rfl) (by kernel_rfl) (fun _ _ _ h => HP.out _ _ _ _ _ h) (Or.inl ⟨by rfl, ?_⟩) hHeld ?_
  · intro W hSw; go_simp; try with_reducible rfl
  try simp only [Act.put, List.setIfInBounds_toArray, List.set_cons_zero, List.set_cons_succ]
  refine take_still (i := 6) (d := some 51) (v := .bool false) rfl rfl (by kernel_rfl) (by kernel_rfl) (by kernel_rfl) (fun _ _ _ h => HP.out _ _ _ _ _ h) (Or.inl ⟨by rfl, ?_⟩) hHeld ?_
  · intro W hSw; go_simp; try with_reducible rfl
  try simp only [Act.put, List.setIfInBounds_toArray, List.set_cons_zero, List.set_cons_succ]
  refine take_still (i := 7) (d := some 52) (v := .bool false) rfl rfl (by kernel_rfl) (by kernel_rfl) (by kernel_rfl) (fun _ _ _ h => HP.out _ _ _ _ _ h) (Or.inl ⟨by rfl, ?_⟩) hHeld ?_
  · intro W hSw; go_simp; try with_reducible rfl
  try simp only [Act.put, List.setIfInBounds_toArray, List.set_cons_zero, List.set_cons_succ]
  refine take_still (i := 8) (d := some 53) (v := .bool false) rfl rfl (by kernel_rfl) (by kernel_rfl) (by kernel_rfl) (fun _ _ _ h => HP.out _ _ _ _ _ h) (Or.inl ⟨by rfl, ?_⟩) hHeld ?_
  · intro W hSw; go_simp; try with_reducible rfl
  try simp only [Act.put, List.setIfInBounds_toArray, List.set_cons_zero, List.set_cons_succ]
  refine take_still (i := 9) (d := some 54) (v := .agg #[.int .i64 x.kind, .string x.text, .int .i64 x.n, .slice A1 x.sh.length ca1, .slice B1 x.at_.length cb1, .slice K1 x.kids.length ck1]) rfl rfl (by kernel_rfl) (by kernel_rfl) (by kernel_rfl) (fun _ _ _ h => HP.out _ _ _ _ _ h) (Or.inl ⟨by rfl, ?_⟩) hHeld ?_
  · intro W hSw; obtain ⟨u0, u1, u2, u3, u4, u5, ul, a0, a1, a2, al, b0, b1, b2, bl, v0, v1, v2, v3, v4, v5, vl⟩ := FC.out W hSw; go_simp; try with_reducible rfl
  try simp only [Act.put, List.setIfInBounds_toArray, List.set_cons_zero, List.set_cons_succ]
  refine take_still (i := 11) (d := some 56) (v := .slice (some ⟨bk, ok, none⟩) n c) rfl rfl (by kernel_rfl) (by kernel_rfl) (by kernel_rfl) (fun _ _ _ h => HP.out _ _ _ _ _ h) (Or.inl ⟨by rfl, ?_⟩) hHeld ?_
  · intro W hSw; go_simp; try with_reducible rfl
  try simp only [Act.put, List.setIfInBounds_toArray, List.set_cons_zero, List.set_cons_succ]
  refine take_still (i := 12) (d := some 57) (v := .int .i64 (i : Int)) rfl rfl (by kernel_rfl) (by kernel_rfl) (by kernel_rfl) (fun _ _ _ h => HP.out _ _ _ _ _ h) (Or.inl ⟨by rfl, ?_⟩) hHeld ?_
  · intro W hSw; go_simp; try with_reducible rfl
  try simp only [Act.put, List.setIfInBounds_toArray, List.set_cons_zero, List.set_cons_succ]
  refine take_still (i := 13) (d := some 58) (v := .pointer (some ⟨bk, ok + i * 6, none⟩)) rfl rfl (by kernel_rfl) (by kernel_rfl) (by kernel_rfl) (fun _ _ _ h => HP.out _ _ _ _ _ h) (Or.inl ⟨by rfl, ?_⟩) hHeld ?_
  · intro W hSw; go_simp; try with_reducible rfl
  try simp only [Act.put, List.setIfInBounds_toArray, List.set_cons_zero, List.set_cons_succ]
  refine take_still (i := 14) (d := some 59) (v := .agg #[.int .i64 x.kind, .string x.text, .int .i64 x.n, .slice A2 x.sh.length ca2, .slice B2 x.at_.length cb2, .slice K2 x.kids.length ck2]) rfl rfl (by kernel_rfl) (by kernel_rfl) (by kernel_rfl) (fun _ _ _ h => HP.out _ _ _ _ _ h) (Or.inl ⟨by rfl, ?_⟩) hHeld ?_
  · intro W hSw; obtain ⟨u0, u1, u2, u3, u4, u5, ul, a0, a1, a2, al, b0, b1, b2, bl, v0, v1, v2, v3, v4, v5, vl⟩ := FC.out W hSw; go_simp; try with_reducible rfl
  try simp only [Act.put, List.setIfInBounds_toArray, List.set_cons_zero, List.set_cons_succ]
  refine wpAnyH_ready (rs := [10]) (by kernel_rfl) (by simp) ?_
  refine AllReadyH.cons rfl (fun K hK => ?_) AllReadyH.nil
  go_simp
  go_at_call 28
  refine ((CX.out.tot 1 X HX.out)).mono ?_
  rintro e Pp1 ⟨rfl, hb⟩
  have HBp1 := Lib.hid (HX.out.then_ hb)
  clear hb
  refine hK.out _ _ HBp1.out (fun hHeld => ?_)
  clear hK K
  refine wpAnyH_ready (rs := [15]) (by kernel_rfl) (by simp) ?_
  refine AllReadyH.cons rfl (fun K hK => ?_) AllReadyH.nil
  go_simp
  go_at_call 29
  refine ((CX.out.dtot 1 Pp1 HBp1.out)).mono ?_
  rintro e Pp2 ⟨rfl, hb⟩
  have HBp2 := Lib.hid (HBp1.out.then_ hb)
  clear hb
  refine hK.out _ _ HBp2.out (fun hHeld => ?_)
  clear hK K
  refine take_still (i := 16) (d := some 61) (v := .bool false) rfl rfl (by kernel_rfl) (by kernel_rfl) (by kernel_rfl) (fun _ _ _ h => HP.out _ _ _ _ _ h) (Or.inl ⟨by rfl, ?_⟩) hHeld ?_
  · intro W hSw; go_simp; try with_reducible rfl
  try simp only [Act.put, List.setIfInBounds_toArray, List.set_cons_zero, List.set_cons_succ]
  refine take_still (i := 17) (d := some 62) (v := .bool false) rfl rfl (by kernel_rfl) (by kernel_rfl) (by kernel_rfl) (fun _ _ _ h => HP.out _ _ _ _ _ h) (Or.inl ⟨by rfl, ?_⟩) hHeld ?_
  · intro W hSw; go_simp; try with_reducible rfl
  try simp only [Act.put, List.setIfInBounds_toArray, List.set_cons_zero, List.set_cons_succ]
  refine take_still (i := 18) (d := some 63) (v := .bool false) rfl rfl (by kernel_rfl) (by kernel_rfl) (by kernel_rfl) (fun _ _ _ h => HP.out _ _ _ _ _ h) (Or.inl ⟨by rfl, ?_⟩) hHeld ?_
  · intro W hSw; go_simp; try with_reducible rfl
  try simp only [Act.put, List.setIfInBounds_toArray, List.set_cons_zero, List.set_cons_succ]
  refine take_still (i := 19) (d := some 64) (v := .agg #[.int .i64 x.kind, .string x.text, .int .i64 x.n, .slice A1 x.sh.length ca1, .slice B1 x.at_.length cb1, .slice K1 x.kids.length ck1]) rfl rfl (by kernel_rfl) (by kernel_rfl) (by kernel_rfl) (fun _ _ _ h => HP.out _ _ _ _ _ h) (Or.inl ⟨by rfl, ?_⟩) hHeld ?_
  · intro W hSw; obtain ⟨u0, u1, u2, u3, u4, u5, ul, a0, a1, a2, al, b0, b1, b2, bl, v0, v1, v2, v3, v4, v5, vl⟩ := FC.out W hSw; go_simp; try with_reducible rfl
  try simp only [Act.put, List.setIfInBounds_toArray, List.set_cons_zero, List.set_cons_succ]
  refine take_still (i := 21) (d := some 66) (v := .slice (some ⟨bk, ok, none⟩) n c) rfl rfl (by kernel_rfl) (by kernel_rfl) (by kernel_rfl) (fun _ _ _ h => HP.out _ _ _ _ _ h) (Or.inl ⟨by rfl, ?_⟩) hHeld ?_
  · intro W hSw; go_simp; try with_reducible rfl
  try simp only [Act.put, List.setIfInBounds_toArray, List.set_cons_zero, List.set_cons_succ]
  refine take_still (i := 22) (d := some 67) (v := .int .i64 (i : Int)) rfl rfl (by kernel_rfl) (by kernel_rfl) (by kernel_rfl) (fun _ _ _ h => HP.out _ _ _ _ _ h) (Or.inl ⟨by rfl, ?_⟩) hHeld ?_
  · intro W hSw; go_simp; try with_reducible rfl
  try simp only [Act.put, List.setIfInBounds_toArray, List.set_cons_zero, List.set_cons_succ]
  refine take_still (i := 23) (d := some 68) (v := .pointer (some ⟨bk, ok + i * 6, none⟩)) rfl rfl (by kernel_rfl) (by kernel_rfl) (by kernel_rfl) (fun _ _ _ h => HP.out _ _ _ _ _ h) (Or.inl ⟨by rfl, ?_⟩) hHeld ?_
  · intro W hSw; go_simp; try with_reducible rfl
  try simp only [Act.put, List.setIfInBounds_toArray, List.set_cons_zero, List.set_cons_succ]
  refine take_still (i := 24) (d := some 69) (v := .agg #[.int .i64 x.kind, .string x.text, .int .i64 x.n, .slice A2 x.sh.length ca2, .slice B2 x.at_.length cb2, .slice K2 x.kids.length ck2]) rfl rfl (by kernel_rfl) (by kernel_rfl) (by kernel_rfl) (fun _ _ _ h => HP.out _ _ _ _ _ h) (Or.inl ⟨by rfl, ?_⟩) hHeld ?_
  · intro W hSw; obtain ⟨u0, u1, u2, u3, u4, u5, ul, a0, a1, a2, al, b0, b1, b2, bl, v0, v1, v2, v3, v4, v5, vl⟩ := FC.out W hSw; go_simp; try with_reducible rfl
  try simp only [Act.put, List.setIfInBounds_toArray, List.set_cons_zero, List.set_cons_succ]
  refine wpAnyH_ready (rs := [20]) (by kernel_rfl) (by simp) ?_
  refine AllReadyH.cons rfl (fun K hK => ?_) AllReadyH.nil
  go_simp
  go_at_call 28
  refine ((CX.out.tot 2 Pp2 HBp2.out)).mono ?_
  rintro e Pp3 ⟨rfl, hb⟩
  have HBp3 := Lib.hid (HBp2.out.then_ hb)
  clear hb
  refine hK.out _ _ HBp3.out (fun hHeld => ?_)
  clear hK K
  refine wpAnyH_ready (rs := [25]) (by kernel_rfl) (by simp) ?_
  refine AllReadyH.cons rfl (fun K hK => ?_) AllReadyH.nil
  go_simp
  go_at_call 29
  refine ((CX.out.dtot 2 Pp3 HBp3.out)).mono ?_
  rintro e Pp4 ⟨rfl, hb⟩
  have HBp4 := Lib.hid (HBp3.out.then_ hb)
  clear hb
  refine hK.out _ _ HBp4.out (fun hHeld => ?_)
  clear hK K
  refine take_still (i := 26) (d := some 71) (v := .bool false) rfl rfl (by kernel_rfl) (by kernel_rfl) (by kernel_rfl) (fun _ _ _ h => HP.out _ _ _ _ _ h) (Or.inl ⟨by rfl, ?_⟩) hHeld ?_
  · intro W hSw; go_simp; try with_reducible rfl
  try simp only [Act.put, List.setIfInBounds_toArray, List.set_cons_zero, List.set_cons_succ]
  refine take_still (i := 27) (d := some 72) (v := .bool false) rfl rfl (by kernel_rfl) (by kernel_rfl) (by kernel_rfl) (fun _ _ _ h => HP.out _ _ _ _ _ h) (Or.inl ⟨by rfl, ?_⟩) hHeld ?_
  · intro W hSw; go_simp; try with_reducible rfl
  try simp only [Act.put, List.setIfInBounds_toArray, List.set_cons_zero, List.set_cons_succ]
  refine wpAnyH_done (by kernel_rfl) ?_ _
  change K _ _
  exact HK0.out _ _ _ _ _ _ _ _ _ _ _ _ _ _ _ _ _ _ _ _ _ _ _ _ _ _ _ _ HBp4.out

set_option maxRecDepth 100000 in
set_option maxHeartbeats 100000000 in
theorem tall13a {x : Tm} {A1 : Option Addr} {ca1 : Nat} {B1 : Option Addr} {cb1 : Nat} {K1 : Option Addr} {ck1 : Nat} {A2 : Option Addr} {ca2 : Nat} {B2 : Option Addr} {cb2 : Nat} {K2 : Option Addr} {ck2 : Nat} {W0 : World} {g6 g7 g9 bk ok i : Nat} {R : R3} (cx : TallCx x A1 ca1 B1 cb1 K1 ck1 A2 ca2 B2 cb2 K2 ck2 W0 g6 g7 g9 bk ok i R) {n c : Nat} {E : Int} (hin : i < n) {vb vo m cv : Nat} {z : Int} (hm : i < m) (hz : ∀ W, Below W0.heap.size W0 W → W.cell? ⟨vb, vo + i, none⟩ = some (.int .i64 z) ∧ vb < W.heap.size) {W : World} (hB : Below W0.heap.size W0 W) {K : Act → World → Prop} {Q' : Exit → Act → World → Prop} {s2 s3 s4 s11 s12 s13 s14 s15 s16 s17 s18 s19 s20 s21 s22 s23 s24 s25 s26 s27 s28 s29 s30 s31 s32 s33 s34 s35 s36 s37 s38 s39 s40 s41 s42 s43 s44 s45 s46 s47 s48 s49 s50 s51 s52 s53 s54 s55 s56 s57 s58 s59 s60 s61 s62 s63 s64 s65 s66 s67 s68 s69 s70 s71 s72 s73 s74 s75 s76 s77 s78 s79 s80 s81 s82 s83 s84 s85 s86 s87 s88 s89 s90 s91 s92 s93 s94 s95 s96 s97 s98 s99 s100 s101 : Value}
    (hP : ∀ c (a : Act) d v w, Q' (.panic c) (a.put (some d) v) w → Q' (.panic c) a w) (hK : ∀ (r73 r74 r75 r76 r77 r78 r79 r80 r81 r82 r83 r84 r85 r86 r87 r88 r89 r90 r91 r92 r93 : Value) (W' : World), Below W0.heap.size W0 W' → K { tmps := List.toArray ((.slice (some ⟨bk, ok, none⟩) n c) :: (.slice (some ⟨vb, vo, none⟩) m cv) :: s2 :: s3 :: s4 :: (.int .i64 (i : Int)) :: (.pointer (some ⟨g6, 0, none⟩)) :: (.pointer (some ⟨g7, 0, none⟩)) :: (.int .i64 E) :: (.pointer (some ⟨g9, 0, none⟩)) :: (.int .i64 E) :: s11 :: s12 :: s13 :: s14 :: s15 :: s16 :: s17 :: s18 :: s19 :: s20 :: s21 :: s22 :: s23 :: s24 :: s25 :: s26 :: s27 :: s28 :: s29 :: s30 :: s31 :: s32 :: s33 :: s34 :: s35 :: s36 :: s37 :: s38 :: s39 :: s40 :: s41 :: s42 :: s43 :: s44 :: s45 :: s46 :: s47 :: s48 :: s49 :: s50 :: s51 :: s52 :: s53 :: s54 :: s55 :: s56 :: s57 :: s58 :: s59 :: s60 :: s61 :: s62 :: s63 :: s64 :: s65 :: s66 :: s67 :: s68 :: s69 :: s70 :: s71 :: s72 :: r73 :: r74 :: r75 :: r76 :: r77 :: r78 :: r79 :: r80 :: r81 :: r82 :: r83 :: r84 :: r85 :: r86 :: r87 :: r88 :: r89 :: r90 :: r91 :: r92 :: r93 :: (.bool false) :: s95 :: s96 :: s97 :: s98 :: s99 :: s100 :: s101 :: []), defers := [] } W') :
    Code.wp Tryz.prog (regOf Tryz.f5 13) (Exit.then K Q') { tmps := List.toArray ((.slice (some ⟨bk, ok, none⟩) n c) :: (.slice (some ⟨vb, vo, none⟩) m cv) :: s2 :: s3 :: s4 :: (.int .i64 (i : Int)) :: (.pointer (some ⟨g6, 0, none⟩)) :: (.pointer (some ⟨g7, 0, none⟩)) :: (.int .i64 E) :: (.pointer (some ⟨g9, 0, none⟩)) :: (.int .i64 E) :: s11 :: s12 :: s13 :: s14 :: s15 :: s16 :: s17 :: s18 :: s19 :: s20 :: s21 :: s22 :: s23 :: s24 :: s25 :: s26 :: s27 :: s28 :: s29 :: s30 :: s31 :: s32 :: s33 :: s34 :: s35 :: s36 :: s37 :: s38 :: s39 :: s40 :: s41 :: s42 :: s43 :: s44 :: s45 :: s46 :: s47 :: s48 :: s49 :: s50 :: s51 :: s52 :: s53 :: s54 :: s55 :: s56 :: s57 :: s58 :: s59 :: s60 :: s61 :: s62 :: s63 :: s64 :: s65 :: s66 :: s67 :: s68 :: s69 :: s70 :: s71 :: s72 :: s73 :: s74 :: s75 :: s76 :: s77 :: s78 :: s79 :: s80 :: s81 :: s82 :: s83 :: s84 :: s85 :: s86 :: s87 :: s88 :: s89 :: s90 :: s91 :: s92 :: s93 :: s94 :: s95 :: s96 :: s97 :: s98 :: s99 :: s100 :: s101 :: []), defers := [] } W := by
  have CX := Lib.hid cx
  have FC := Lib.hid (fun W h => And.intro (cx.fc W h) (hz W h))
  have HI := Lib.hid hB
  have HK0 := Lib.hid hK
  have HP := Lib.hid hP
  have q1 : (0 : Int) ≤ (i : Int) := by omega
  have q2 : (i : Int) < (n : Int) := by omega
  have e3 := neq3 R
  have e4 := nguard3 R R
  have q3 : (i : Int) < (m : Int) := by omega
  clear hz
  clear cx hB hK hP
  conv => arg 2; whnf
  refine wp_region_held_drew (S := (fun W => Below W0.heap.size W0 W)) (by kernel_rfl) HI.out.drew (fun hHeld => ?_)
  obtain ⟨X, hX⟩ : ∃ X, X = W.drew := ⟨_, rfl⟩
  have HX : Hid (Below W0.heap.size W0 X) := Lib.hid (by rw [hX]; exact HI.out.drew)
  rw [← hX] at hHeld ⊢
  clear hX
  refine take_still (i := 0) (d := some 73) (v := .int .i64 (i : Int)) rfl rfl (by kernel_rfl) (by kernel_rfl) (by kernel_rfl) (fun _ _ _ h => HP.out _ _ _ _ _ h) (Or.inl ⟨by rfl, ?_⟩) hHeld ?_
  · intro W hSw; go_simp; try with_reducible rfl
  try simp only [Act.put, List.setIfInBounds_toArray, List.set_cons_zero, List.set_cons_succ]
  refine take_still (i := 1) (d := some 74) (v := .slice (some ⟨vb, vo, none⟩) m cv) rfl rfl (by kernel_rfl) (by kernel_rfl) (by kernel_rfl) (fun _ _ _ h => HP.out _ _ _ _ _ h) (Or.inl ⟨by rfl, ?_⟩) hHeld ?_
  · intro W hSw; go_simp; try with_reducible rfl
  try simp only [Act.put, List.setIfInBounds_toArray, List.set_cons_zero, List.set_cons_succ]
  refine take_still (i := 2) (d := some 75) (v := .int .i64 (m : Int)) rfl rfl (by kernel_rfl) (by kernel_rfl) (by kernel_rfl) (fun _ _ _ h => HP.out _ _ _ _ _ h) (Or.inl ⟨by rfl, ?_⟩) hHeld ?_
  · intro W hSw; go_simp; try with_reducible rfl
  try simp only [Act.put, List.setIfInBounds_toArray, List.set_cons_zero, List.set_cons_succ]
  refine take_still (i := 3) (d := some 76) (v := .bool true) rfl rfl (by kernel_rfl) (by kernel_rfl) (by kernel_rfl) (fun _ _ _ h => HP.out _ _ _ _ _ h) (Or.inl ⟨by rfl, ?_⟩) hHeld ?_
  · intro W hSw; go_simp; try with_reducible rfl
  try simp only [Act.put, List.setIfInBounds_toArray, List.set_cons_zero, List.set_cons_succ]
  refine take_still (i := 4) (d := some 77) (v := .bool true) rfl rfl (by kernel_rfl) (by kernel_rfl) (by kernel_rfl) (fun _ _ _ h => HP.out _ _ _ _ _ h) (Or.inl ⟨by rfl, ?_⟩) hHeld ?_
  · intro W hSw; go_simp; try with_reducible rfl
  try simp only [Act.put, List.setIfInBounds_toArray, List.set_cons_zero, List.set_cons_succ]
  refine take_still (i := 5) (d := some 78) (v := .agg #[.int .i64 x.kind, .string x.text, .int .i64 x.n, .slice A1 x.sh.length ca1, .slice B1 x.at_.length cb1, .slice K1 x.kids.length ck1]) rfl rfl (by kernel_rfl) (by kernel_rfl) (by kernel_rfl) (fun _ _ _ h => HP.out _ _ _ _ _ h) (Or.inl ⟨by rfl, ?_⟩) hHeld ?_
  · intro W hSw; obtain ⟨⟨u0, u1, u2, u3, u4, u5, ul, a0, a1, a2, al, b0, b1, b2, bl, v0, v1, v2, v3, v4, v5, vl⟩, kz, kzl⟩ := FC.out W hSw; go_simp; try with_reducible rfl
  try simp only [Act.put, List.setIfInBounds_toArray, List.set_cons_zero, List.set_cons_succ]
  refine take_still (i := 6) (d := some 79) (v := .slice (some ⟨vb, vo, none⟩) m cv) rfl rfl (by kernel_rfl) (by kernel_rfl) (by kernel_rfl) (fun _ _ _ h => HP.out _ _ _ _ _ h) (Or.inl ⟨by rfl, ?_⟩) hHeld ?_
  · intro W hSw; go_simp; try with_reducible rfl
  try simp only [Act.put, List.setIfInBounds_toArray, List.set_cons_zero, List.set_cons_succ]
  refine take_still (i := 7) (d := some 80) (v := .int .i64 (i : Int)) rfl rfl (by kernel_rfl) (by kernel_rfl) (by kernel_rfl) (fun _ _ _ h => HP.out _ _ _ _ _ h) (Or.inl ⟨by rfl, ?_⟩) hHeld ?_
  · intro W hSw; go_simp; try with_reducible rfl
  try simp only [Act.put, List.setIfInBounds_toArray, List.set_cons_zero, List.set_cons_succ]
  refine take_still (i := 8) (d := some 81) (v := .pointer (some ⟨vb, vo + i, none⟩)) rfl rfl (by kernel_rfl) (by kernel_rfl) (by kernel_rfl) (fun _ _ _ h => HP.out _ _ _ _ _ h) (Or.inl ⟨by rfl, ?_⟩) hHeld ?_
  · intro W hSw; go_simp; try with_reducible rfl
  try simp only [Act.put, List.setIfInBounds_toArray, List.set_cons_zero, List.set_cons_succ]
  refine take_still (i := 9) (d := some 82) (v := .int .i64 z) rfl rfl (by kernel_rfl) (by kernel_rfl) (by kernel_rfl) (fun _ _ _ h => HP.out _ _ _ _ _ h) (Or.inl ⟨by rfl, ?_⟩) hHeld ?_
  · intro W hSw; obtain ⟨⟨u0, u1, u2, u3, u4, u5, ul, a0, a1, a2, al, b0, b1, b2, bl, v0, v1, v2, v3, v4, v5, vl⟩, kz, kzl⟩ := FC.out W hSw; go_simp; try with_reducible rfl
  try simp only [Act.put, List.setIfInBounds_toArray, List.set_cons_zero, List.set_cons_succ]
  refine take_still (i := 11) (d := some 84) (v := .slice (some ⟨bk, ok, none⟩) n c) rfl rfl (by kernel_rfl) (by kernel_rfl) (by kernel_rfl) (fun _ _ _ h => HP.out _ _ _ _ _ h) (Or.inl ⟨by rfl, ?_⟩) hHeld ?_
  · intro W hSw; go_simp; try with_reducible rfl
  try simp only [Act.put, List.setIfInBounds_toArray, List.set_cons_zero, List.set_cons_succ]
  refine take_still (i := 12) (d := some 85) (v := .int .i64 (i : Int)) rfl rfl (by kernel_rfl) (by kernel_rfl) (by kernel_rfl) (fun _ _ _ h => HP.out _ _ _ _ _ h) (Or.inl ⟨by rfl, ?_⟩) hHeld ?_
  · intro W hSw; go_simp; try with_reducible rfl
  try simp only [Act.put, List.setIfInBounds_toArray, List.set_cons_zero, List.set_cons_succ]
  refine take_still (i := 13) (d := some 86) (v := .pointer (some ⟨bk, ok + i * 6, none⟩)) rfl rfl (by kernel_rfl) (by kernel_rfl) (by kernel_rfl) (fun _ _ _ h => HP.out _ _ _ _ _ h) (Or.inl ⟨by rfl, ?_⟩) hHeld ?_
  · intro W hSw; go_simp; try with_reducible rfl
  try simp only [Act.put, List.setIfInBounds_toArray, List.set_cons_zero, List.set_cons_succ]
  refine take_still (i := 14) (d := some 87) (v := .agg #[.int .i64 x.kind, .string x.text, .int .i64 x.n, .slice A2 x.sh.length ca2, .slice B2 x.at_.length cb2, .slice K2 x.kids.length ck2]) rfl rfl (by kernel_rfl) (by kernel_rfl) (by kernel_rfl) (fun _ _ _ h => HP.out _ _ _ _ _ h) (Or.inl ⟨by rfl, ?_⟩) hHeld ?_
  · intro W hSw; obtain ⟨⟨u0, u1, u2, u3, u4, u5, ul, a0, a1, a2, al, b0, b1, b2, bl, v0, v1, v2, v3, v4, v5, vl⟩, kz, kzl⟩ := FC.out W hSw; go_simp; try with_reducible rfl
  try simp only [Act.put, List.setIfInBounds_toArray, List.set_cons_zero, List.set_cons_succ]
  refine take_still (i := 15) (d := some 88) (v := .slice (some ⟨vb, vo, none⟩) m cv) rfl rfl (by kernel_rfl) (by kernel_rfl) (by kernel_rfl) (fun _ _ _ h => HP.out _ _ _ _ _ h) (Or.inl ⟨by rfl, ?_⟩) hHeld ?_
  · intro W hSw; go_simp; try with_reducible rfl
  try simp only [Act.put, List.setIfInBounds_toArray, List.set_cons_zero, List.set_cons_succ]
  refine take_still (i := 16) (d := some 89) (v := .int .i64 (i : Int)) rfl rfl (by kernel_rfl) (by kernel_rfl) (by kernel_rfl) (fun _ _ _ h => HP.out _ _ _ _ _ h) (Or.inl ⟨by rfl, ?_⟩) hHeld ?_
  · intro W hSw; go_simp; try with_reducible rfl
  try simp only [Act.put, List.setIfInBounds_toArray, List.set_cons_zero, List.set_cons_succ]
  refine take_still (i := 17) (d := some 90) (v := .pointer (some ⟨vb, vo + i, none⟩)) rfl rfl (by kernel_rfl) (by kernel_rfl) (by kernel_rfl) (fun _ _ _ h => HP.out _ _ _ _ _ h) (Or.inl ⟨by rfl, ?_⟩) hHeld ?_
  · intro W hSw; go_simp; try with_reducible rfl
  try simp only [Act.put, List.setIfInBounds_toArray, List.set_cons_zero, List.set_cons_succ]
  refine take_still (i := 18) (d := some 91) (v := .int .i64 z) rfl rfl (by kernel_rfl) (by kernel_rfl) (by kernel_rfl) (fun _ _ _ h => HP.out _ _ _ _ _ h) (Or.inl ⟨by rfl, ?_⟩) hHeld ?_
  · intro W hSw; obtain ⟨⟨u0, u1, u2, u3, u4, u5, ul, a0, a1, a2, al, b0, b1, b2, bl, v0, v1, v2, v3, v4, v5, vl⟩, kz, kzl⟩ := FC.out W hSw; go_simp; try with_reducible rfl
  try simp only [Act.put, List.setIfInBounds_toArray, List.set_cons_zero, List.set_cons_succ]
  refine wpAnyH_ready (rs := [10]) (by kernel_rfl) (by simp) ?_
  refine AllReadyH.cons rfl (fun K hK => ?_) AllReadyH.nil
  go_simp
  go_at_call 28
  refine ((CX.out.tot z X HX.out)).mono ?_
  rintro e Pp1 ⟨rfl, hb⟩
  have HBp1 := Lib.hid (HX.out.then_ hb)
  clear hb
  refine hK.out _ _ HBp1.out (fun hHeld => ?_)
  clear hK K
  refine wpAnyH_ready (rs := [19]) (by kernel_rfl) (by simp) ?_
  refine AllReadyH.cons rfl (fun K hK => ?_) AllReadyH.nil
  go_simp
  go_at_call 29
  refine ((CX.out.dtot z Pp1 HBp1.out)).mono ?_
  rintro e Pp2 ⟨rfl, hb⟩
  have HBp2 := Lib.hid (HBp1.out.then_ hb)
  clear hb
  refine hK.out _ _ HBp2.out (fun hHeld => ?_)
  clear hK K
  refine take_still (i := 20) (d := some 93) (v := .bool false) rfl rfl (by kernel_rfl) (by kernel_rfl) (by kernel_rfl) (fun _ _ _ h => HP.out _ _ _ _ _ h) (Or.inl ⟨by rfl, ?_⟩) hHeld ?_
  · intro W hSw; go_simp; try with_reducible rfl
  try simp only [Act.put, List.setIfInBounds_toArray, List.set_cons_zero, List.set_cons_succ]
  refine take_still (i := 21) (d := some 94) (v := .bool false) rfl rfl (by kernel_rfl) (by kernel_rfl) (by kernel_rfl) (fun _ _ _ h => HP.out _ _ _ _ _ h) (Or.inl ⟨by rfl, ?_⟩) hHeld ?_
  · intro W hSw; go_simp; try with_reducible rfl
  try simp only [Act.put, List.setIfInBounds_toArray, List.set_cons_zero, List.set_cons_succ]
  refine wpAnyH_done (by kernel_rfl) ?_ _
  change K _ _
  exact HK0.out _ _ _ _ _ _ _ _ _ _ _ _ _ _ _ _ _ _ _ _ _ _ HBp2.out

set_option maxRecDepth 100000 in
set_option maxHeartbeats 100000000 in
theorem tall13b {x : Tm} {A1 : Option Addr} {ca1 : Nat} {B1 : Option Addr} {cb1 : Nat} {K1 : Option Addr} {ck1 : Nat} {A2 : Option Addr} {ca2 : Nat} {B2 : Option Addr} {cb2 : Nat} {K2 : Option Addr} {ck2 : Nat} {W0 : World} {g6 g7 g9 bk ok i : Nat} {R : R3} (cx : TallCx x A1 ca1 B1 cb1 K1 ck1 A2 ca2 B2 cb2 K2 ck2 W0 g6 g7 g9 bk ok i R) {n c : Nat} {E : Int} (hin : i < n) {Q : Option Addr} {m cv : Nat} (hm : ¬ i < m) {W : World} (hB : Below W0.heap.size W0 W) {K : Act → World → Prop} {Q' : Exit → Act → World → Prop} {s2 s3 s4 s11 s12 s13 s14 s15 s16 s17 s18 s19 s20 s21 s22 s23 s24 s25 s26 s27 s28 s29 s30 s31 s32 s33 s34 s35 s36 s37 s38 s39 s40 s41 s42 s43 s44 s45 s46 s47 s48 s49 s50 s51 s52 s53 s54 s55 s56 s57 s58 s59 s60 s61 s62 s63 s64 s65 s66 s67 s68 s69 s70 s71 s72 s73 s74 s75 s76 s77 s78 s79 s80 s81 s82 s83 s84 s85 s86 s87 s88 s89 s90 s91 s92 s93 s94 s95 s96 s97 s98 s99 s100 s101 : Value}
    (hP : ∀ c (a : Act) d v w, Q' (.panic c) (a.put (some d) v) w → Q' (.panic c) a w) (hK : ∀ (r73 r74 r75 r76 r77 r78 r79 r80 r81 r82 r83 r84 r85 r86 r87 r88 r89 r90 r91 r92 r93 : Value) (W' : World), Below W0.heap.size W0 W' → K { tmps := List.toArray ((.slice (some ⟨bk, ok, none⟩) n c) :: (.slice Q m cv) :: s2 :: s3 :: s4 :: (.int .i64 (i : Int)) :: (.pointer (some ⟨g6, 0, none⟩)) :: (.pointer (some ⟨g7, 0, none⟩)) :: (.int .i64 E) :: (.pointer (some ⟨g9, 0, none⟩)) :: (.int .i64 E) :: s11 :: s12 :: s13 :: s14 :: s15 :: s16 :: s17 :: s18 :: s19 :: s20 :: s21 :: s22 :: s23 :: s24 :: s25 :: s26 :: s27 :: s28 :: s29 :: s30 :: s31 :: s32 :: s33 :: s34 :: s35 :: s36 :: s37 :: s38 :: s39 :: s40 :: s41 :: s42 :: s43 :: s44 :: s45 :: s46 :: s47 :: s48 :: s49 :: s50 :: s51 :: s52 :: s53 :: s54 :: s55 :: s56 :: s57 :: s58 :: s59 :: s60 :: s61 :: s62 :: s63 :: s64 :: s65 :: s66 :: s67 :: s68 :: s69 :: s70 :: s71 :: s72 :: r73 :: r74 :: r75 :: r76 :: r77 :: r78 :: r79 :: r80 :: r81 :: r82 :: r83 :: r84 :: r85 :: r86 :: r87 :: r88 :: r89 :: r90 :: r91 :: r92 :: r93 :: (.bool false) :: s95 :: s96 :: s97 :: s98 :: s99 :: s100 :: s101 :: []), defers := [] } W') :
    Code.wp Tryz.prog (regOf Tryz.f5 13) (Exit.then K Q') { tmps := List.toArray ((.slice (some ⟨bk, ok, none⟩) n c) :: (.slice Q m cv) :: s2 :: s3 :: s4 :: (.int .i64 (i : Int)) :: (.pointer (some ⟨g6, 0, none⟩)) :: (.pointer (some ⟨g7, 0, none⟩)) :: (.int .i64 E) :: (.pointer (some ⟨g9, 0, none⟩)) :: (.int .i64 E) :: s11 :: s12 :: s13 :: s14 :: s15 :: s16 :: s17 :: s18 :: s19 :: s20 :: s21 :: s22 :: s23 :: s24 :: s25 :: s26 :: s27 :: s28 :: s29 :: s30 :: s31 :: s32 :: s33 :: s34 :: s35 :: s36 :: s37 :: s38 :: s39 :: s40 :: s41 :: s42 :: s43 :: s44 :: s45 :: s46 :: s47 :: s48 :: s49 :: s50 :: s51 :: s52 :: s53 :: s54 :: s55 :: s56 :: s57 :: s58 :: s59 :: s60 :: s61 :: s62 :: s63 :: s64 :: s65 :: s66 :: s67 :: s68 :: s69 :: s70 :: s71 :: s72 :: s73 :: s74 :: s75 :: s76 :: s77 :: s78 :: s79 :: s80 :: s81 :: s82 :: s83 :: s84 :: s85 :: s86 :: s87 :: s88 :: s89 :: s90 :: s91 :: s92 :: s93 :: s94 :: s95 :: s96 :: s97 :: s98 :: s99 :: s100 :: s101 :: []), defers := [] } W := by
  have CX := Lib.hid cx
  have FC := Lib.hid cx.fc
  have HI := Lib.hid hB
  have HK0 := Lib.hid hK
  have HP := Lib.hid hP
  have q1 : (0 : Int) ≤ (i : Int) := by omega
  have q2 : (i : Int) < (n : Int) := by omega
  have e3 := neq3 R
  have e4 := nguard3 R R
  have q3 : ¬ (i : Int) < (m : Int) := by omega
  clear cx hB hK hP
  conv => arg 2; whnf
  refine wp_region_held_drew (S := (fun W => Below W0.heap.size W0 W)) (by kernel_rfl) HI.out.drew (fun hHeld => ?_)
  obtain ⟨X, hX⟩ : ∃ X, X = W.drew := ⟨_, rfl⟩
  have HX : Hid (Below W0.heap.size W0 X) := Lib.hid (by rw [hX]; exact HI.out.drew)
  rw [← hX] at hHeld ⊢
  clear hX
  refine take_still (i := 0) (d := some 73) (v := .int .i64 (i : Int)) rfl rfl (by kernel_rfl) (by kernel_rfl) (by kernel_rfl) (fun _ _ _ h => HP.out _ _ _ _ _ h) (Or.inl ⟨by rfl, ?_⟩) hHeld ?_
  · intro W hSw; go_simp; try with_reducible rfl
  try simp only [Act.put, List.setIfInBounds_toArray, List.set_cons_zero, List.set_cons_succ]
  refine take_still (i := 1) (d := some 74) (v := .slice Q m cv) rfl rfl (by kernel_rfl) (by kernel_rfl) (by kernel_rfl) (fun _ _ _ h => HP.out _ _ _ _ _ h) (Or.inl ⟨by rfl, ?_⟩) hHeld ?_
  · intro W hSw; go_simp; try with_reducible rfl
  try simp only [Act.put, List.setIfInBounds_toArray, List.set_cons_zero, List.set_cons_succ]
  refine take_still (i := 2) (d := some 75) (v := .int .i64 (m : Int)) rfl rfl (by kernel_rfl) (by kernel_rfl) (by kernel_rfl) (fun _ _ _ h => HP.out _ _ _ _ _ h) (Or.inl ⟨by rfl, ?_⟩) hHeld ?_
  · intro W hSw; go_simp; try with_reducible rfl
  try simp only [Act.put, List.setIfInBounds_toArray, List.set_cons_zero, List.set_cons_succ]
  refine take_still (i := 3) (d := some 76) (v := .bool false) rfl rfl (by kernel_rfl) (by kernel_rfl) (by kernel_rfl) (fun _ _ _ h => HP.out _ _ _ _ _ h) (Or.inl ⟨by rfl, ?_⟩) hHeld ?_
  · intro W hSw; go_simp; try with_reducible rfl
  try simp only [Act.put, List.setIfInBounds_toArray, List.set_cons_zero, List.set_cons_succ]
  refine take_still (i := 4) (d := some 77) (v := .bool false) rfl rfl (by kernel_rfl) (by kernel_rfl) (by kernel_rfl) (fun _ _ _ h => HP.out _ _ _ _ _ h) (Or.inl ⟨by rfl, ?_⟩) hHeld ?_
  · intro W hSw; go_simp; try with_reducible rfl
  try simp only [Act.put, List.setIfInBounds_toArray, List.set_cons_zero, List.set_cons_succ]
  refine take_still (i := 5) (d := some 78) (v := undef) rfl rfl (by kernel_rfl) (by kernel_rfl) (by kernel_rfl) (fun _ _ _ h => HP.out _ _ _ _ _ h) (Or.inr ⟨by rfl, rfl⟩) hHeld ?_
  try simp only [Act.put, List.setIfInBounds_toArray, List.set_cons_zero, List.set_cons_succ]
  refine take_still (i := 6) (d := some 79) (v := undef) rfl rfl (by kernel_rfl) (by kernel_rfl) (by kernel_rfl) (fun _ _ _ h => HP.out _ _ _ _ _ h) (Or.inr ⟨by rfl, rfl⟩) hHeld ?_
  try simp only [Act.put, List.setIfInBounds_toArray, List.set_cons_zero, List.set_cons_succ]
  refine take_still (i := 7) (d := some 80) (v := undef) rfl rfl (by kernel_rfl) (by kernel_rfl) (by kernel_rfl) (fun _ _ _ h => HP.out _ _ _ _ _ h) (Or.inr ⟨by rfl, rfl⟩) hHeld ?_
  try simp only [Act.put, List.setIfInBounds_toArray, List.set_cons_zero, List.set_cons_succ]
  refine take_still (i := 8) (d := some 81) (v := undef) rfl rfl (by kernel_rfl) (by kernel_rfl) (by kernel_rfl) (fun _ _ _ h => HP.out _ _ _ _ _ h) (Or.inr ⟨by rfl, rfl⟩) hHeld ?_
  try simp only [Act.put, List.setIfInBounds_toArray, List.set_cons_zero, List.set_cons_succ]
  refine take_still (i := 9) (d := some 82) (v := undef) rfl rfl (by kernel_rfl) (by kernel_rfl) (by kernel_rfl) (fun _ _ _ h => HP.out _ _ _ _ _ h) (Or.inr ⟨by rfl, rfl⟩) hHeld ?_
  try simp only [Act.put, List.setIfInBounds_toArray, List.set_cons_zero, List.set_cons_succ]
  refine take_still (i := 11) (d := some 84) (v := undef) rfl rfl (by kernel_rfl) (by kernel_rfl) (by kernel_rfl) (fun _ _ _ h => HP.out _ _ _ _ _ h) (Or.inr ⟨by rfl, rfl⟩) hHeld ?_
  try simp only [Act.put, List.setIfInBounds_toArray, List.set_cons_zero, List.set_cons_succ]
  refine take_still (i := 12) (d := some 85) (v := undef) rfl rfl (by kernel_rfl) (by kernel_rfl) (by kernel_rfl) (fun _ _ _ h => HP.out _ _ _ _ _ h) (Or.inr ⟨by rfl, rfl⟩) hHeld ?_
  try simp only [Act.put, List.setIfInBounds_toArray, List.set_cons_zero, List.set_cons_succ]
  refine take_still (i := 13) (d := some 86) (v := undef) rfl rfl (by kernel_rfl) (by kernel_rfl) (by kernel_rfl) (fun _ _ _ h => HP.out _ _ _ _ _ h) (Or.inr ⟨by rfl, rfl⟩) hHeld ?_
  try simp only [Act.put, List.setIfInBounds_toArray, List.set_cons_zero, List.set_cons_succ]
  refine take_still (i := 14) (d := some 87) (v := undef) rfl rfl (by kernel_rfl) (by kernel_rfl) (by kernel_rfl) (fun _ _ _ h => HP.out _ _ _ _ _ h) (Or.inr ⟨by rfl, rfl⟩) hHeld ?_
  try simp only [Act.put, List.setIfInBounds_toArray, List.set_cons_zero, List.set_cons_succ]
  refine take_still (i := 15) (d := some 88) (v := undef) rfl rfl (by kernel_rfl) (by kernel_rfl) (by kernel_rfl) (fun _ _ _ h => HP.out _ _ _ _ _ h) (Or.inr ⟨by rfl, rfl⟩) hHeld ?_
  try simp only [Act.put, List.setIfInBounds_toArray, List.set_cons_zero, List.set_cons_succ]
  refine take_still (i := 16) (d := some 89) (v := undef) rfl rfl (by kernel_rfl) (by kernel_rfl) (by kernel_rfl) (fun _ _ _ h => HP.out _ _ _ _ _ h) (Or.inr ⟨by rfl, rfl⟩) hHeld ?_
  try simp only [Act.put, List.setIfInBounds_toArray, List.set_cons_zero, List.set_cons_succ]
  refine take_still (i := 17) (d := some 90) (v := undef) rfl rfl (by kernel_rfl) (by kernel_rfl) (by kernel_rfl) (fun _ _ _ h => HP.out _ _ _ _ _ h) (Or.inr ⟨by rfl, rfl⟩) hHeld ?_
  try simp only [Act.put, List.setIfInBounds_toArray, List.set_cons_zero, List.set_cons_succ]
  refine take_still (i := 18) (d := some 91) (v := undef) rfl rfl (by kernel_rfl) (by kernel_rfl) (by kernel_rfl) (fun _ _ _ h => HP.out _ _ _ _ _ h) (Or.inr ⟨by rfl, rfl⟩) hHeld ?_
  try simp only [Act.put, List.setIfInBounds_toArray, List.set_cons_zero, List.set_cons_succ]
  refine take_still (i := 10) (d := some 83) (v := undef) rfl rfl (by kernel_rfl) (by kernel_rfl) (by kernel_rfl) (fun _ _ _ h => HP.out _ _ _ _ _ h) (Or.inr ⟨by rfl, rfl⟩) hHeld ?_
  try simp only [Act.put, List.setIfInBounds_toArray, List.set_cons_zero, List.set_cons_succ]
  refine take_still (i := 19) (d := some 92) (v := undef) rfl rfl (by kernel_rfl) (by kernel_rfl) (by kernel_rfl) (fun _ _ _ h => HP.out _ _ _ _ _ h) (Or.inr ⟨by rfl, rfl⟩) hHeld ?_
  try simp only [Act.put, List.setIfInBounds_toArray, List.set_cons_zero, List.set_cons_succ]
  refine take_still (i := 20) (d := some 93) (v := undef) rfl rfl (by kernel_rfl) (by kernel_rfl) (by kernel_rfl) (fun _ _ _ h => HP.out _ _ _ _ _ h) (Or.inr ⟨by rfl, rfl⟩) hHeld ?_
  try simp only [Act.put, List.setIfInBounds_toArray, List.set_cons_zero, List.set_cons_succ]
  refine take_still (i := 21) (d := some 94) (v := .bool false) rfl rfl (by kernel_rfl) (by kernel_rfl) (by kernel_rfl) (fun _ _ _ h => HP.out _ _ _ _ _ h) (Or.inl ⟨by rfl, ?_⟩) hHeld ?_
  · intro W hSw; go_simp; try with_reducible rfl
  try simp only [Act.put, List.setIfInBounds_toArray, List.set_cons_zero, List.set_cons_succ]
  refine wpAnyH_done (by kernel_rfl) ?_ _
  change K _ _
  exact HK0.out _ _ _ _ _ _ _ _ _ _ _ _ _ _ _ _ _ _ _ _ _ _ HX.out

set_option maxRecDepth 100000 in
set_option maxHeartbeats 100000000 in
theorem tall15 {x : Tm} {A1 : Option Addr} {ca1 : Nat} {B1 : Option Addr} {cb1 : Nat} {K1 : Option Addr} {ck1 : Nat} {A2 : Option Addr} {ca2 : Nat} {B2 : Option Addr} {cb2 : Nat} {K2 : Option Addr} {ck2 : Nat} {W0 : World} {g6 g7 g9 bk ok i : Nat} {R : R3} (cx : TallCx x A1 ca1 B1 cb1 K1 ck1 A2 ca2 B2 cb2 K2 ck2 W0 g6 g7 g9 bk ok i R) {n c : Nat} {E : Int} {V : Value} (hin : i < n)  {W : World} (hB : Below W0.heap.size W0 W) {K : Act → World → Prop} {Q' : Exit → Act → World → Prop} {s2 s3 s4 s11 s12 s13 s14 s15 s16 s17 s18 s19 s20 s21 s22 s23 s24 s25 s26 s27 s28 s29 s30 s31 s32 s33 s34 s35 s36 s37 s38 s39 s40 s41 s42 s43 s44 s45 s46 s47 s48 s49 s50 s51 s52 s53 s54 s55 s56 s57 s58 s59 s60 s61 s62 s63 s64 s65 s66 s67 s68 s69 s70 s71 s72 s73 s74 s75 s76 s77 s78 s79 s80 s81 s82 s83 s84 s85 s86 s87 s88 s89 s90 s91 s92 s93 s94 s95 s96 s97 s98 s99 s100 s101 : Value}
    (hP : ∀ c (a : Act) d v w, Q' (.panic c) (a.put (some d) v) w → Q' (.panic c) a w) (hK : ∀ (r95 r96 r97 r98 r99 r100 : Value) (W' : World), Below W0.heap.size W0 W' → K { tmps := List.toArray ((.slice (some ⟨bk, ok, none⟩) n c) :: (V) :: s2 :: s3 :: s4 :: (.int .i64 (i : Int)) :: (.pointer (some ⟨g6, 0, none⟩)) :: (.pointer (some ⟨g7, 0, none⟩)) :: (.int .i64 E) :: (.pointer (some ⟨g9, 0, none⟩)) :: (.int .i64 E) :: s11 :: s12 :: s13 :: s14 :: s15 :: s16 :: s17 :: s18 :: s19 :: s20 :: s21 :: s22 :: s23 :: s24 :: s25 :: s26 :: s27 :: s28 :: s29 :: s30 :: s31 :: s32 :: s33 :: s34 :: s35 :: s36 :: s37 :: s38 :: s39 :: s40 :: s41 :: s42 :: s43 :: s44 :: s45 :: s46 :: s47 :: s48 :: s49 :: s50 :: s51 :: s52 :: s53 :: s54 :: s55 :: s56 :: s57 :: s58 :: s59 :: s60 :: s61 :: s62 :: s63 :: s64 :: s65 :: s66 :: s67 :: s68 :: s69 :: s70 :: s71 :: s72 :: s73 :: s74 :: s75 :: s76 :: s77 :: s78 :: s79 :: s80 :: s81 :: s82 :: s83 :: s84 :: s85 :: s86 :: s87 :: s88 :: s89 :: s90 :: s91 :: s92 :: s93 :: s94 :: r95 :: r96 :: r97 :: r98 :: r99 :: r100 :: (.bool false) :: []), defers := [] } W') :
    Code.wp Tryz.prog (regOf Tryz.f5 15) (Exit.then K Q') { tmps := List.toArray ((.slice (some ⟨bk, ok, none⟩) n c) :: (V) :: s2 :: s3 :: s4 :: (.int .i64 (i : Int)) :: (.pointer (some ⟨g6, 0, none⟩)) :: (.pointer (some ⟨g7, 0, none⟩)) :: (.int .i64 E) :: (.pointer (some ⟨g9, 0, none⟩)) :: (.int .i64 E) :: s11 :: s12 :: s13 :: s14 :: s15 :: s16 :: s17 :: s18 :: s19 :: s20 :: s21 :: s22 :: s23 :: s24 :: s25 :: s26 :: s27 :: s28 :: s29 :: s30 :: s31 :: s32 :: s33 :: s34 :: s35 :: s36 :: s37 :: s38 :: s39 :: s40 :: s41 :: s42 :: s43 :: s44 :: s45 :: s46 :: s47 :: s48 :: s49 :: s50 :: s51 :: s52 :: s53 :: s54 :: s55 :: s56 :: s57 :: s58 :: s59 :: s60 :: s61 :: s62 :: s63 :: s64 :: s65 :: s66 :: s67 :: s68 :: s69 :: s70 :: s71 :: s72 :: s73 :: s74 :: s75 :: s76 :: s77 :: s78 :: s79 :: s80 :: s81 :: s82 :: s83 :: s84 :: s85 :: s86 :: s87 :: s88 :: s89 :: s90 :: s91 :: s92 :: s93 :: s94 :: s95 :: s96 :: s97 :: s98 :: s99 :: s100 :: s101 :: []), defers := [] } W := by
  have CX := Lib.hid cx
  have FC := Lib.hid cx.fc
  have HI := Lib.hid hB
  have HK0 := Lib.hid hK
  have HP := Lib.hid hP
  have q1 : (0 : Int) ≤ (i : Int) := by omega
  have q2 : (i : Int) < (n : Int) := by omega
  have e3 := neq3 R
  have e4 := nguard3 R R
  clear cx hB hK hP
  conv => arg 2; whnf
  refine wp_region_held_drew (S := (fun W => Below W0.heap.size W0 W)) (by kernel_rfl) HI.out.drew (fun hHeld => ?_)
  obtain ⟨X, hX⟩ : ∃ X, X = W.drew := ⟨_, rfl⟩
  have HX : Hid (Below W0.heap.size W0 X) := Lib.hid (by rw [hX]; exact HI.out.drew)
  rw [← hX] at hHeld ⊢
  clear hX
  refine take_still (i := 0) (d := some 95) (v := .agg #[.int .i64 x.kind, .string x.text, .int .i64 x.n, .slice A1 x.sh.length ca1, .slice B1 x.at_.length cb1, .slice K1 x.kids.length ck1]) rfl rfl (by kernel_rfl) (by kernel_rfl) (by kernel_rfl) (fun _ _ _ h => HP.out _ _ _ _ _ h) (Or.inl ⟨by rfl, ?_⟩) hHeld ?_
  · intro W hSw; obtain ⟨u0, u1, u2, u3, u4, u5, ul, a0, a1, a2, al, b0, b1, b2, bl, v0, v1, v2, v3, v4, v5, vl⟩ := FC.out W hSw; go_simp; try with_reducible rfl
  try simp only [Act.put, List.setIfInBounds_toArray, List.set_cons_zero, List.set_cons_succ]
  refine take_still (i := 1) (d := some 96) (v := .slice (some ⟨bk, ok, none⟩) n c) rfl rfl (by kernel_rfl) (by kernel_rfl) (by kernel_rfl) (fun _ _ _ h => HP.out _ _ _ _ _ h) (Or.inl ⟨by rfl, ?_⟩) hHeld ?_
  · intro W hSw; go_simp; try with_reducible rfl
  try simp only [Act.put, List.setIfInBounds_toArray, List.set_cons_zero, List.set_cons_succ]
  refine take_still (i := 2) (d := some 97) (v := .int .i64 (i : Int)) rfl rfl (by kernel_rfl) (by kernel_rfl) (by kernel_rfl) (fun _ _ _ h => HP.out _ _ _ _ _ h) (Or.inl ⟨by rfl, ?_⟩) hHeld ?_
  · intro W hSw; go_simp; try with_reducible rfl
  try simp only [Act.put, List.setIfInBounds_toArray, List.set_cons_zero, List.set_cons_succ]
  refine take_still (i := 3) (d := some 98) (v := .pointer (some ⟨bk, ok + i * 6, none⟩)) rfl rfl (by kernel_rfl) (by kernel_rfl) (by kernel_rfl) (fun _ _ _ h => HP.out _ _ _ _ _ h) (Or.inl ⟨by rfl, ?_⟩) hHeld ?_
  · intro W hSw; go_simp; try with_reducible rfl
  try simp only [Act.put, List.setIfInBounds_toArray, List.set_cons_zero, List.set_cons_succ]
  refine take_still (i := 4) (d := some 99) (v := .agg #[.int .i64 x.kind, .string x.text, .int .i64 x.n, .slice A2 x.sh.length ca2, .slice B2 x.at_.length cb2, .slice K2 x.kids.length ck2]) rfl rfl (by kernel_rfl) (by kernel_rfl) (by kernel_rfl) (fun _ _ _ h => HP.out _ _ _ _ _ h) (Or.inl ⟨by rfl, ?_⟩) hHeld ?_
  · intro W hSw; obtain ⟨u0, u1, u2, u3, u4, u5, ul, a0, a1, a2, al, b0, b1, b2, bl, v0, v1, v2, v3, v4, v5, vl⟩ := FC.out W hSw; go_simp; try with_reducible rfl
  try simp only [Act.put, List.setIfInBounds_toArray, List.set_cons_zero, List.set_cons_succ]
  refine wpAnyH_ready (rs := [5]) (by kernel_rfl) (by simp) ?_
  refine AllReadyH.cons rfl (fun K hK => ?_) AllReadyH.nil
  go_simp
  go_at_call 30
  refine ((CX.out.kept X HX.out)).mono ?_
  rintro e Pp1 ⟨rfl, hb⟩
  have HBp1 := Lib.hid (HX.out.then_ hb)
  clear hb
  refine hK.out _ _ HBp1.out (fun hHeld => ?_)
  clear hK K
  refine take_still (i := 6) (d := some 101) (v := .bool false) rfl rfl (by kernel_rfl) (by kernel_rfl) (by kernel_rfl) (fun _ _ _ h => HP.out _ _ _ _ _ h) (Or.inl ⟨by rfl, ?_⟩) hHeld ?_
  · intro W hSw; go_simp; try with_reducible rfl
  try simp only [Act.put, List.setIfInBounds_toArray, List.set_cons_zero, List.set_cons_succ]
  refine wpAnyH_done (by kernel_rfl) ?_ _
  change K _ _
  exact HK0.out _ _ _ _ _ _ _ HBp1.out

end Go.Proofs.YtebiojmfieoncaaGreat

namespace Go.Proofs.YtebiojmfieoncaaGreat
open Go.RowKit

set_option maxRecDepth 100000 in
set_option maxHeartbeats 32000000 in
theorem traitAll_any (X : Option Addr) (l : List Tm) (c : Nat) (V : Option Addr) (vs : List Int) (cv : Nat) (w : World) (h : KidsAt w X l 0) (hwf : ∀ t ∈ l, WfT t) (hl : l.length * 104 ≤ 140737488351232) (hlc : l.length ≤ c) (hv : IntsAt w V vs) (hvl : vs.length ≤ 140737488351232) :
    Calls Tryz.prog 5 #[.slice X l.length c, .slice V vs.length cv] w fun e w' => e = .returned (.bool true) ∧ Below w.heap.size w w' := by
  have HH := Lib.hid h
  have HWL := Lib.hid hwf
  have HVS := Lib.hid hv
  obtain ⟨n0, hn⟩ : ∃ n, n = l.length := ⟨_, rfl⟩
  obtain ⟨m, hm⟩ : ∃ m, m = vs.length := ⟨_, rfl⟩
  have HN := Lib.hid (And.intro hn hm)
  have HSO : Hid (∀ W, Below w.heap.size w W → Calls Tryz.prog 23 #[.slice X n0 c] W fun e w' => (∃ m : Nat, e = .returned (.slice X m c) ∧ m ≤ n0) ∧ Below W.heap.size W w') := Lib.hid fun W hb => by
    rw [hn]
    exact some_any l X c W (h.on hb) hwf (by omega) hlc
  rw [← hn] at hl ⊢
  rw [← hm] at hvl ⊢
  clear h hwf hn hm hv hlc
  go_enter Tryz.func5, Tryz.ntmps5
  go_wp2_with fail
  refine (begun16_any w).mono ?_
  rintro e w2 ⟨rfl, hb2⟩
  have HB2 := Lib.hid hb2
  clear hb2
  go_wp2_with fail
  refine (HSO.out w2 HB2.out).mono ?_
  rintro e w3 ⟨⟨n, rfl, hnn⟩, hb3⟩
  have HB3 := Lib.hid (HB2.out.then_ hb3)
  have HNN := Lib.hid hnn
  have hn4 : n ≤ 140737488351232 := by omega
  clear hb3 hnn hl
  go_wp2_with fail
  go_loopw [5] (fun v W => ∃ i : Nat, i ≤ n ∧ v = .int .i64 i ∧ Hid (Below w.heap.size w W)) (fun v _ => n - (intOf v).toNat)
  case atStart => exact ⟨0, Nat.zero_le _, rfl, HB3⟩
  case round =>
    obtain ⟨i, hi, rfl, HI⟩ := hrel
    by_cases hlt : i < n
    · obtain ⟨x, hx⟩ : ∃ x, l[i]? = some x := ⟨_, List.getElem?_eq_getElem (by have := HN.out.1; have := HNN.out; omega)⟩
      obtain ⟨bk, ok, rfl, hp1⟩ := HH.out.get hx
      rw [Nat.zero_add] at hp1
      obtain ⟨A2, ca2, B2, cb2, K2, ck2, lt1, r0, r1, r2, r3, r4, r5, hat2⟩ := hp1.cellsOn HI.out
      have HWX : Hid (WfT x) := Lib.hid (HWL.out x (List.mem_of_getElem? hx))
      have HAT : Hid (TmAt wr x A2 B2 K2) := Lib.hid (hat2.on HI.out)
      have KC : Hid (∀ W, Below wr.heap.size wr W → (W.cell? ⟨bk, ok + i * 6, none⟩ = some (.int .i64 x.kind) ∧ W.cell? ⟨bk, ok + i * 6 + 1, none⟩ = some (.string x.text) ∧ W.cell? ⟨bk, ok + i * 6 + 2, none⟩ = some (.int .i64 x.n) ∧ W.cell? ⟨bk, ok + i * 6 + 3, none⟩ = some (.slice A2 x.sh.length ca2) ∧ W.cell? ⟨bk, ok + i * 6 + 4, none⟩ = some (.slice B2 x.at_.length cb2) ∧ W.cell? ⟨bk, ok + i * 6 + 5, none⟩ = some (.slice K2 x.kids.length ck2)) ∧ bk < W.heap.size) := Lib.hid fun W hb => by
        have key : ∀ j v, wr.cell? ⟨bk, j, none⟩ = some v → W.cell? ⟨bk, j, none⟩ = some v := fun j v hv => (hb.cell (p := ⟨bk, j, none⟩) lt1).trans hv
        exact ⟨⟨key _ _ r0, key _ _ r1, key _ _ r2, key _ _ r3, key _ _ r4, key _ _ r5⟩, Nat.lt_of_lt_of_le lt1 hb.size⟩
      have HSM := Lib.hid (small_any x A2 ca2 B2 cb2 K2 ck2 wr HAT.out HWX.out)
      have q1 : (0 : Int) ≤ (i : Int) := by omega
      have q2 : (i : Int) < (n : Int) := by omega
      clear hx hp1 hat2
      unfold tmVal at HSM
      go_wp2_with fail
      refine HSM.out.mono ?_
      rintro e w4 ⟨⟨b, rfl⟩, hb4⟩
      have HB4 := Lib.hid hb4
      clear hb4 r0 r1 r2 r3 r4 r5 lt1 HSM
      cases b
      · go_wp2_with fail
        exact ⟨⟨i + 1, by omega, by go_num, Lib.hid (HI.out.then_ HB4.out)⟩, by simp [intOf]; omega⟩
      obtain ⟨⟨r0, r1, r2, r3, r4, r5⟩, lt1⟩ := KC.out w4 HB4.out
      have HTW := Lib.hid (twin7_any (cnt x) x A2 ca2 B2 cb2 K2 ck2 w4 (Nat.le_refl _) (HAT.out.on HB4.out) HWX.out)
      unfold tmVal at HTW
      go_wp2_with fail
      refine HTW.out.mono ?_
      rintro e w5 ⟨r, rfl, ho5, hs5, _, hb5⟩
      obtain ⟨hrt, f1, f2, f3⟩ := ho5.read
      have hval : rtVal x r = tmVal x r.s.p r.s.c r.a.p r.a.c r.k.p r.k.c := by unfold rtVal; rw [f1, f2, f3]
      have HVAL := Lib.hid hval
      have HO5 := Lib.hid (And.intro ho5 (And.intro hs5 hrt))
      have HB5 := Lib.hid (HB4.out.then_ hb5)
      rw [hval]
      clear ho5 hs5 hb5 hrt f1 f2 f3 hval r0 r1 r2 r3 r4 r5 lt1 HTW
      go_upto_region 9 with fail
      obtain ⟨w6, hw6⟩ : ∃ w6, w6 = w5.alloc (.cells (tmCells x r.s.p r.s.c r.a.p r.a.c r.k.p r.k.c) TTm) := ⟨_, rfl⟩
      have hg6 : w6.heap[w5.heap.size]? = some (.cells (tmCells x r.s.p r.s.c r.a.p r.a.c r.k.p r.k.c) TTm (0, 0)) := by rw [hw6]; exact heap_alloc_new _ _
      have hb6 : Below w5.heap.size w5 w6 := by rw [hw6]; exact (Below.refl _ _).alloc (Nat.le_refl _) _
      rw [← hw6]
      obtain ⟨g6, hgg⟩ : ∃ g, g = w5.heap.size := ⟨_, rfl⟩
      rw [← hgg] at hg6 ⊢
      have HB6 := Lib.hid (HB5.out.then_ hb6)
      have HO6 := Lib.hid (And.intro (HO5.out.1.on hb6) (And.intro (HO5.out.2.1.on hb6) (HO5.out.2.2.on hb6)))
      have HG6 : Hid (∀ W, Below w6.heap.size w6 W → W.heap[g6]? = some (.cells (tmCells x r.s.p r.s.c r.a.p r.a.c r.k.p r.k.c) TTm (0, 0))) := Lib.hid fun W h => (h.block _ (heap_lt hg6)).trans hg6
      obtain ⟨R, hR⟩ : ∃ R, R = (ranksT x).1 := ⟨_, rfl⟩
      obtain ⟨E, hE⟩ : ∃ E, E = (ranksT x).2 := ⟨_, rfl⟩
      have HRK := Lib.hid (tranks_any x r.s.p r.s.c r.a.p r.a.c r.k.p r.k.c w6 HO6.out.2.2 HWX.out)
      have HRD : Hid (∀ W, Below wr.heap.size wr W → Calls Tryz.prog 27 #[tmVal x A2 ca2 B2 cb2 K2 ck2] W fun e w' => e = .returned (.tuple #[r3v R, .int .i64 E]) ∧ Below W.heap.size W w') := Lib.hid fun W hb => by
        rw [hR, hE]
        exact dranks_any x A2 ca2 B2 cb2 K2 ck2 W (HAT.out.on hb) HWX.out
      rw [← hR, ← hE] at HRK
      have t0 := cell_at hg6 (j := 0) rfl
      have t1 := cell_at hg6 (j := 1) rfl
      have t2 := cell_at hg6 (j := 2) rfl
      have t3 := cell_at hg6 (j := 3) rfl
      have t4 := cell_at hg6 (j := 4) rfl
      have t5 := cell_at hg6 (j := 5) rfl
      have tl := heap_lt hg6
      clear hw6 hg6 hb6 hgg hR hE HO5
      unfold tmVal at HRK
      go_wp2_with fail
      refine HRK.out.mono ?_
      rintro e w7 ⟨rfl, hb7⟩
      clear t0 t1 t2 t3 t4 t5 tl HRK
      go_upto_region 10 with fail
      obtain ⟨w8, hw8⟩ : ∃ w8, w8 = w7.alloc (.cells (r3c R) TR3) := ⟨_, rfl⟩
      have hg7 : w8.heap[w7.heap.size]? = some (.cells (r3c R) TR3 (0, 0)) := by rw [hw8]; exact heap_alloc_new _ _
      have hb8 : Below w6.heap.size w6 w8 := by rw [hw8]; exact hb7.alloc hb7.size _
      rw [← hw8]
      obtain ⟨g7, hgg⟩ : ∃ g, g = w7.heap.size := ⟨_, rfl⟩
      rw [← hgg] at hg7 ⊢
      have HB8 := Lib.hid hb8
      have HG7 : Hid (∀ W, Below w8.heap.size w8 W → W.heap[g7]? = some (.cells (r3c R) TR3 (0, 0))) := Lib.hid fun W h => (h.block _ (heap_lt hg7)).trans hg7
      have HRE := Lib.hid (HRD.out w8 (HB6.out.then_ hb8))
      obtain ⟨⟨r0, r1, r2, r3, r4, r5⟩, lt1⟩ := KC.out w8 (HB6.out.then_ hb8)
      clear hw8 hg7 hb7 hb8 hgg HRD
      unfold tmVal at HRE
      go_wp2_with fail
      refine HRE.out.mono ?_
      rintro e w9 ⟨rfl, hb9⟩
      clear r0 r1 r2 r3 r4 r5 lt1 HRE
      go_upto_region 11 with fail
      obtain ⟨W0, hW0⟩ : ∃ W0, W0 = w9.alloc (.cells (r3c R) TR3) := ⟨_, rfl⟩
      have hg9 : W0.heap[w9.heap.size]? = some (.cells (r3c R) TR3 (0, 0)) := by rw [hW0]; exact heap_alloc_new _ _
      have hb0 : Below w8.heap.size w8 W0 := by rw [hW0]; exact hb9.alloc hb9.size _
      rw [← hW0]
      obtain ⟨g9, hgg⟩ : ∃ g, g = w9.heap.size := ⟨_, rfl⟩
      rw [← hgg] at hg9 ⊢
      have HB60 : Hid (Below w6.heap.size w6 W0) := Lib.hid (HB8.out.then_ hb0)
      have HBR : Hid (Below wr.heap.size wr W0) := Lib.hid (HB6.out.then_ HB60.out)
      have CX : Hid (TallCx x r.s.p r.s.c r.a.p r.a.c r.k.p r.k.c A2 ca2 B2 cb2 K2 ck2 W0 g6 g7 g9 bk ok i R) := Lib.hid ⟨fun W h => by
          have y6 := HG6.out W (HB60.out.then_ h)
          have y7 := HG7.out W (hb0.then_ h)
          have y9 := (h.block _ (heap_lt hg9)).trans hg9
          obtain ⟨⟨r0, r1, r2, r3, r4, r5⟩, lt1⟩ := KC.out W (HBR.out.then_ h)
          exact ⟨cell_at y6 rfl, cell_at y6 rfl, cell_at y6 rfl, cell_at y6 rfl, cell_at y6 rfl, cell_at y6 rfl, heap_lt y6, cell_at y7 rfl, cell_at y7 rfl, cell_at y7 rfl, heap_lt y7, cell_at y9 rfl, cell_at y9 rfl, cell_at y9 rfl, heap_lt y9, r0, r1, r2, r3, r4, r5, lt1⟩,
        fun k W h => total_any x r.s.p r.s.c r.a.p r.a.c r.k.p r.k.c k W (HO6.out.2.2.on (HB60.out.then_ h)) HWX.out,
        fun k W h => dtotal_any x A2 ca2 B2 cb2 K2 ck2 k W (HAT.out.on (HBR.out.then_ h)) HWX.out,
        fun W h => by
          rw [← HVAL.out]
          exact kept14_any (cnt x) x r A2 ca2 B2 cb2 K2 ck2 _ W (Nat.le_refl _) (HO6.out.1.on (HB60.out.then_ h)) (HO6.out.2.1.on (HB60.out.then_ h)) (HAT.out.on (HBR.out.then_ h)) HWX.out⟩
      clear hW0 hg9 hb0 hb9 hgg HG6 HG7 HO6
      refine tall11 CX.out hlt (Below.refl _ _) ?_ ?_
      · exact fun _ _ _ _ _ h => h
      intro _ _ _ _ _ _ _ _ _ _ _ _ _ _ _ _ _ _ _ _ _ _ _ _ _ _ _ Wa hba
      have HBA := Lib.hid hba
      clear hba
      go_upto_region 13 with fail
      by_cases him : i < m
      · obtain ⟨z, hz⟩ : ∃ z, vs[i]? = some z := ⟨_, List.getElem?_eq_getElem (by have := HN.out.2; omega)⟩
        obtain ⟨vb, vo, rfl, vl, vz⟩ := HVS.out i z hz
        have HVZ : Hid (∀ W, Below W0.heap.size W0 W → W.cell? ⟨vb, vo + i, none⟩ = some (.int .i64 z) ∧ vb < W.heap.size) := Lib.hid fun W h => by
          have hb := (HI.out.then_ HBR.out).then_ h
          exact ⟨(hb.cell (p := ⟨vb, vo + i, none⟩) vl).trans vz, Nat.lt_of_lt_of_le vl hb.size⟩
        clear hz vl vz
        refine tall13a CX.out hlt him HVZ.out HBA.out ?_ ?_
        · exact fun _ _ _ _ _ h => h
        intro _ _ _ _ _ _ _ _ _ _ _ _ _ _ _ _ _ _ _ _ _ Wb hbb
        have HBB := Lib.hid hbb
        clear hbb
        go_upto_region 15 with fail
        refine tall15 CX.out hlt HBB.out ?_ ?_
        · exact fun _ _ _ _ _ h => h
        intro _ _ _ _ _ _ Wc hbc
        have HBC := Lib.hid (HI.out.then_ (HBR.out.then_ hbc))
        clear hbc
        go_wp2_with fail
        exact ⟨⟨i + 1, by omega, by go_num, HBC⟩, by simp [intOf]; omega⟩
      · refine tall13b CX.out hlt him HBA.out ?_ ?_
        · exact fun _ _ _ _ _ h => h
        intro _ _ _ _ _ _ _ _ _ _ _ _ _ _ _ _ _ _ _ _ _ Wb hbb
        have HBB := Lib.hid hbb
        clear hbb
        go_upto_region 15 with fail
        refine tall15 CX.out hlt HBB.out ?_ ?_
        · exact fun _ _ _ _ _ h => h
        intro _ _ _ _ _ _ Wc hbc
        have HBC := Lib.hid (HI.out.then_ (HBR.out.then_ hbc))
        clear hbc
        go_wp2_with fail
        exact ⟨⟨i + 1, by omega, by go_num, HBC⟩, by simp [intOf]; omega⟩
    · obtain rfl : i = n := by omega
      clear hlt
      go_wp2_with fail
      go_ret
      exact ⟨rfl, HI.out⟩
end Go.Proofs.YtebiojmfieoncaaGreat
