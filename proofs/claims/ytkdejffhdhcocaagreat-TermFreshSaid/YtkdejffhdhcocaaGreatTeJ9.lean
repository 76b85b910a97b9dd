/- abacuslaw13.TermFresh, region 16: three copies are what they were. No condition. -/
import Derived.Test.YtkdejffhdhcocaaGreatTeRg
import Derived.Test.YtkdejffhdhcocaaGreatTeMC
import Derived.Deep.CutRange
namespace Go.Proofs.YtkdejffhdhcocaaGreat
open Go.RowKit

set_option maxRecDepth 100000 in
set_option maxHeartbeats 32000000 in
theorem tf16 {t : Tm} {A : Option Addr} {ca : Nat} {B : Option Addr} {cb : Nat} {K : Option Addr} {ck : Nat} {rx ry rz : Rt} {W0 : World} {b off i n c g7 g9 g11 : Nat} (hin : i < n)
    (hx : ∀ W, Below W0.heap.size W0 W → W.cell? ⟨g7, 0, none⟩ = some (.int .i64 t.kind) ∧ W.cell? ⟨g7, 1, none⟩ = some (.string t.text) ∧ W.cell? ⟨g7, 2, none⟩ = some (.int .i64 t.n) ∧ W.cell? ⟨g7, 3, none⟩ = some (.slice rx.s.p rx.s.n rx.s.c) ∧ W.cell? ⟨g7, 4, none⟩ = some (.slice rx.a.p rx.a.n rx.a.c) ∧ W.cell? ⟨g7, 5, none⟩ = some (.slice rx.k.p rx.k.n rx.k.c) ∧ g7 < W.heap.size) (hy : ∀ W, Below W0.heap.size W0 W → W.cell? ⟨g9, 0, none⟩ = some (.int .i64 t.kind) ∧ W.cell? ⟨g9, 1, none⟩ = some (.string t.text) ∧ W.cell? ⟨g9, 2, none⟩ = some (.int .i64 t.n) ∧ W.cell? ⟨g9, 3, none⟩ = some (.slice ry.s.p ry.s.n ry.s.c) ∧ W.cell? ⟨g9, 4, none⟩ = some (.slice ry.a.p ry.a.n ry.a.c) ∧ W.cell? ⟨g9, 5, none⟩ = some (.slice ry.k.p ry.k.n ry.k.c) ∧ g9 < W.heap.size) (hz : ∀ W, Below W0.heap.size W0 W → W.cell? ⟨g11, 0, none⟩ = some (.int .i64 t.kind) ∧ W.cell? ⟨g11, 1, none⟩ = some (.string t.text) ∧ W.cell? ⟨g11, 2, none⟩ = some (.int .i64 t.n) ∧ W.cell? ⟨g11, 3, none⟩ = some (.slice rz.s.p rz.s.n rz.s.c) ∧ W.cell? ⟨g11, 4, none⟩ = some (.slice rz.a.p rz.a.n rz.a.c) ∧ W.cell? ⟨g11, 5, none⟩ = some (.slice rz.k.p rz.k.n rz.k.c) ∧ g11 < W.heap.size) (hp : ∀ W, Below W0.heap.size W0 W → W.cell? ⟨b, off + i * 6, none⟩ = some (.int .i64 t.kind) ∧ W.cell? ⟨b, off + i * 6 + 1, none⟩ = some (.string t.text) ∧ W.cell? ⟨b, off + i * 6 + 2, none⟩ = some (.int .i64 t.n) ∧ W.cell? ⟨b, off + i * 6 + 3, none⟩ = some (.slice A t.sh.length ca) ∧ W.cell? ⟨b, off + i * 6 + 4, none⟩ = some (.slice B t.at_.length cb) ∧ W.cell? ⟨b, off + i * 6 + 5, none⟩ = some (.slice K t.kids.length ck) ∧ b < W.heap.size)
    (ex : ∀ W, Below W0.heap.size W0 W → Calls Tryz.prog 13 #[rtVal t rx, tmVal t A ca B cb K ck] W fun e w' => e = .returned (.bool true) ∧ Below W.heap.size W w') (ey : ∀ W, Below W0.heap.size W0 W → Calls Tryz.prog 13 #[rtVal t ry, tmVal t A ca B cb K ck] W fun e w' => e = .returned (.bool true) ∧ Below W.heap.size W w') (ez : ∀ W, Below W0.heap.size W0 W → Calls Tryz.prog 13 #[rtVal t rz, tmVal t A ca B cb K ck] W fun e w' => e = .returned (.bool true) ∧ Below W.heap.size W w')
    {Kf : Act → World → Prop} {Q' : Exit → Act → World → Prop} {s1 s2 s3 s4 s6 s13 s16 s17 s18 s19 s20 s21 s22 s23 s24 s25 s26 s27 s28 s29 s30 s31 s32 s33 s34 s35 s36 s37 s38 s39 s40 s41 s42 s43 s44 s45 s46 s47 s48 s49 s50 s51 s52 s53 s54 s55 s56 s57 s58 s59 s60 s61 s62 s63 s64 s65 s66 s67 s68 s69 s70 s71 s72 s73 s74 s75 s76 s77 s78 s79 s80 s81 s82 s83 s84 s85 s86 s87 s88 s89 s90 s91 s92 s93 s94 s95 s96 s97 s98 s99 s100 s101 s102 s103 s104 s105 s106 s107 s108 s109 s110 s111 s112 s113 s114 s115 s116 s117 s118 s119 s120 s121 s122 s123 s124 s125 s126 s127 s128 s129 s130 s131 s132 s133 s134 s135 s136 s137 s138 s139 s140 s141 s142 s143 s144 s145 s146 s147 s148 s149 s150 s151 s152 s153 s154 s155 s156 s157 s158 s159 s160 s161 s162 : Value} (hP : ∀ c (a : Act) d v w, Q' (.panic c) (a.put (some d) v) w → Q' (.panic c) a w)
    (hK : ∀ (r73 r74 r75 r76 r77 r78 r79 r80 r81 r82 r83 r84 r85 r86 r87 r88 r89 r90 r91 r92 r93 r94 r95 r96 r97 r98 r99 r100 r101 r102 r103 r104 r105 r106 r107 r108 r109 r110 r111 r112 r113 r114 r115 r116 : Value) (W' : World), Below W0.heap.size W0 W' → Kf { tmps := List.toArray ((.slice (some ⟨b, off, none⟩) n c) :: s1 :: s2 :: s3 :: s4 :: (.int .i64 (i : Int)) :: s6 :: (.pointer (some ⟨g7, 0, none⟩)) :: (.int .i64 0) :: (.pointer (some ⟨g9, 0, none⟩)) :: (.int .i64 0) :: (.pointer (some ⟨g11, 0, none⟩)) :: (.int .i64 0) :: s13 :: (.bool true) :: (.bool true) :: s16 :: s17 :: s18 :: s19 :: s20 :: s21 :: s22 :: s23 :: s24 :: s25 :: s26 :: s27 :: s28 :: s29 :: s30 :: s31 :: s32 :: s33 :: s34 :: s35 :: s36 :: s37 :: s38 :: s39 :: s40 :: s41 :: s42 :: s43 :: s44 :: s45 :: s46 :: s47 :: s48 :: s49 :: s50 :: s51 :: s52 :: s53 :: s54 :: s55 :: s56 :: s57 :: s58 :: s59 :: s60 :: s61 :: s62 :: s63 :: s64 :: s65 :: s66 :: s67 :: s68 :: s69 :: s70 :: s71 :: s72 :: r73 :: r74 :: r75 :: r76 :: r77 :: r78 :: r79 :: r80 :: r81 :: r82 :: r83 :: r84 :: r85 :: r86 :: r87 :: r88 :: r89 :: r90 :: r91 :: r92 :: r93 :: r94 :: r95 :: r96 :: r97 :: r98 :: r99 :: r100 :: r101 :: r102 :: r103 :: r104 :: r105 :: r106 :: r107 :: r108 :: r109 :: r110 :: r111 :: r112 :: r113 :: r114 :: r115 :: r116 :: (.bool false) :: s118 :: s119 :: s120 :: s121 :: s122 :: s123 :: s124 :: s125 :: s126 :: s127 :: s128 :: s129 :: s130 :: s131 :: s132 :: s133 :: s134 :: s135 :: s136 :: s137 :: s138 :: s139 :: s140 :: s141 :: s142 :: s143 :: s144 :: s145 :: s146 :: s147 :: s148 :: s149 :: s150 :: s151 :: s152 :: s153 :: s154 :: s155 :: s156 :: s157 :: s158 :: s159 :: s160 :: s161 :: s162 :: []), defers := [] } W') :
    Code.wp Tryz.prog (regOf Tryz.f5 16) (Exit.then Kf Q') { tmps := List.toArray ((.slice (some ⟨b, off, none⟩) n c) :: s1 :: s2 :: s3 :: s4 :: (.int .i64 (i : Int)) :: s6 :: (.pointer (some ⟨g7, 0, none⟩)) :: (.int .i64 0) :: (.pointer (some ⟨g9, 0, none⟩)) :: (.int .i64 0) :: (.pointer (some ⟨g11, 0, none⟩)) :: (.int .i64 0) :: s13 :: (.bool true) :: (.bool true) :: s16 :: s17 :: s18 :: s19 :: s20 :: s21 :: s22 :: s23 :: s24 :: s25 :: s26 :: s27 :: s28 :: s29 :: s30 :: s31 :: s32 :: s33 :: s34 :: s35 :: s36 :: s37 :: s38 :: s39 :: s40 :: s41 :: s42 :: s43 :: s44 :: s45 :: s46 :: s47 :: s48 :: s49 :: s50 :: s51 :: s52 :: s53 :: s54 :: s55 :: s56 :: s57 :: s58 :: s59 :: s60 :: s61 :: s62 :: s63 :: s64 :: s65 :: s66 :: s67 :: s68 :: s69 :: s70 :: s71 :: s72 :: s73 :: s74 :: s75 :: s76 :: s77 :: s78 :: s79 :: s80 :: s81 :: s82 :: s83 :: s84 :: s85 :: s86 :: s87 :: s88 :: s89 :: s90 :: s91 :: s92 :: s93 :: s94 :: s95 :: s96 :: s97 :: s98 :: s99 :: s100 :: s101 :: s102 :: s103 :: s104 :: s105 :: s106 :: s107 :: s108 :: s109 :: s110 :: s111 :: s112 :: s113 :: s114 :: s115 :: s116 :: s117 :: s118 :: s119 :: s120 :: s121 :: s122 :: s123 :: s124 :: s125 :: s126 :: s127 :: s128 :: s129 :: s130 :: s131 :: s132 :: s133 :: s134 :: s135 :: s136 :: s137 :: s138 :: s139 :: s140 :: s141 :: s142 :: s143 :: s144 :: s145 :: s146 :: s147 :: s148 :: s149 :: s150 :: s151 :: s152 :: s153 :: s154 :: s155 :: s156 :: s157 :: s158 :: s159 :: s160 :: s161 :: s162 :: []), defers := [] } W0 := by
  have HX := Lib.hid hx
  have HY := Lib.hid hy
  have HZ := Lib.hid hz
  have HPT := Lib.hid hp
  have EX := Lib.hid ex
  have EY := Lib.hid ey
  have EZ := Lib.hid ez
  have HK0 := Lib.hid hK
  have HP := Lib.hid hP
  have q1 : (0 : Int) ≤ (i : Int) := by omega
  have q2 : (i : Int) < (n : Int) := by omega
  unfold rtVal tmVal at EX EY EZ
  clear hx hy hz hp ex ey ez hK hP
  conv => arg 2; whnf
  refine wp_region_quiet (C := fun W' => Below W0.heap.size W0 W') (by kernel_rfl) (by kernel_rfl) ((Below.refl _ _).drew) ?_
  repeat
    (refine wpQuiet_step (fun Kz hK => ?_)
     go_simp
     first
     | (refine hK _ ?_; clear hK Kz)
     | (apply Exists.intro
        refine ⟨fun W' hC => ?_, hK _ ?_⟩
        (first
         | (obtain ⟨p0, p1, p2, p3, p4, p5, pl⟩ := HPT.out W' hC
            first
            | (go_simp; rfl)
            | (go_simp; done))
         | (obtain ⟨x0, x1, x2, x3, x4, x5, xl⟩ := HX.out W' hC
            go_simp; rfl)
         | (obtain ⟨x0, x1, x2, x3, x4, x5, xl⟩ := HY.out W' hC
            go_simp; rfl)
         | (obtain ⟨x0, x1, x2, x3, x4, x5, xl⟩ := HZ.out W' hC
            go_simp; rfl)
         | (refine (EX.out W' hC).mono ?_
            rintro e w' ⟨rfl, hb'⟩
            exact ⟨rfl, hC.then_ hb'⟩)
         | (refine (EY.out W' hC).mono ?_
            rintro e w' ⟨rfl, hb'⟩
            exact ⟨rfl, hC.then_ hb'⟩)
         | (refine (EZ.out W' hC).mono ?_
            rintro e w' ⟨rfl, hb'⟩
            exact ⟨rfl, hC.then_ hb'⟩))
        clear hK Kz))
  refine wpQuiet_nil ?_
  intro wc hCc
  have HBC := Lib.hid hCc
  clear hCc
  change Kf _ _
  exact HK0.out _ _ _ _ _ _ _ _ _ _ _ _ _ _ _ _ _ _ _ _ _ _ _ _ _ _ _ _ _ _ _ _ _ _ _ _ _ _ _ _ _ _ _ _ _ HBC.out
end Go.Proofs.YtkdejffhdhcocaaGreat
