/- TraitMade: regions 21, 23. No condition. -/
import Derived.Test.YtebiojmfieoncaaGreatTeG0
namespace Go.Proofs.YtebiojmfieoncaaGreat
open Go.RowKit


set_option maxRecDepth 100000 in
set_option maxHeartbeats 100000000 in
theorem made21f {u v : Tm} {Au : Option Addr} {cau : Nat} {Bu : Option Addr} {cbu : Nat} {Ku : Option Addr} {cku : Nat} {Av : Option Addr} {cav : Nat} {Bv : Option Addr} {cbv : Nat} {Kv : Option Addr} {ckv : Nat} {w W0 : World} {gu gv : Nat} (cx : MadeCx u v Au cau Bu cbu Ku cku Av cav Bv cbv Kv ckv w W0 gu gv) {i : Nat} {y : Bool} (hn0 : (i : Int) = 1 ∨ (i : Int) = 2) (hx0 : totT u (i : Int) = false) (hy0 : totT v (i : Int) = y) {W : World} (hB : Below W0.heap.size W0 W) {K : Act → World → Prop} {Q' : Exit → Act → World → Prop} {s0 s1 s4 s6 s8 s14 s15 s16 s17 s18 s19 s20 s21 s22 s23 s24 s25 s26 s27 s28 s29 s30 s31 s32 s33 s34 s35 s36 s37 s38 s39 s40 s41 s42 s43 s44 s45 s46 s47 s48 s49 s50 s51 s52 s53 s54 s55 s56 s57 s58 s59 s60 s61 s62 s63 s64 s65 s66 s67 s68 s69 s70 s71 s72 s73 s74 s75 s76 s77 s78 s79 s80 s81 s82 s83 s84 s85 s86 s87 s88 s89 s90 s91 s92 s93 s94 s95 s96 s97 s98 s99 s100 s101 s102 s103 s104 s105 s106 s107 s108 s109 s110 s111 s112 s113 s114 s115 s116 s117 s118 s119 s120 s121 s122 s123 s124 s125 s126 s127 s128 s129 s130 s131 s132 s133 s134 s135 s136 s137 s138 s139 s140 s141 s142 s143 s144 s145 s146 s147 s148 s149 s150 s151 s152 s153 s154 s155 s156 s157 s158 s159 s160 s161 s162 s163 s164 s165 s166 s167 s168 s169 s170 s171 s172 s173 s174 s175 s176 s177 s178 s179 s180 s181 s182 s183 s184 s185 s186 s187 s188 s189 s190 s191 s192 s193 s194 s195 s196 s197 s198 s199 s200 s201 s202 s203 s204 s205 s206 s207 s208 s209 s210 s211 s212 s213 s214 s215 s216 s217 s218 s219 s220 s221 s222 s223 s224 s225 s226 s227 s228 s229 s230 s231 s232 s233 s234 s235 s236 s237 s238 s239 s240 s241 s242 s243 s244 s245 s246 s247 s248 s249 s250 s251 s252 s253 s254 s255 s256 s257 s258 s259 s260 s261 s262 s263 s264 s265 s266 s267 s268 s269 s270 s271 s272 s273 s274 s275 s276 s277 s278 : Value}
    (hP : ∀ c (a : Act) d v w, Q' (.panic c) (a.put (some d) v) w → Q' (.panic c) a w) (hK : ∀ (r209 r210 r211 r212 r213 r214 r215 r216 r217 r218 r219 r220 r221 r222 r223 r224 r225 r226 r227 r228 r229 r230 r231 r232 r233 r234 r235 r236 r237 r238 r239 r240 r241 r242 r243 : Value) (W' : World), Below W0.heap.size W0 W' → K { tmps := List.toArray (s0 :: s1 :: (.pointer (some ⟨w.heap.size, 0, none⟩)) :: (.pointer (some ⟨w.heap.size + 1, 0, none⟩)) :: s4 :: (.pointer (some ⟨gu, 0, none⟩)) :: s6 :: (.pointer (some ⟨gv, 0, none⟩)) :: s8 :: (.pointer (some ⟨gv + 1, 0, none⟩)) :: (.bool true) :: (.int .i64 (i : Int)) :: (.bool false) :: (.bool y) :: s14 :: s15 :: s16 :: s17 :: s18 :: s19 :: s20 :: s21 :: s22 :: s23 :: s24 :: s25 :: s26 :: s27 :: s28 :: s29 :: s30 :: s31 :: s32 :: s33 :: s34 :: s35 :: s36 :: s37 :: s38 :: s39 :: s40 :: s41 :: s42 :: s43 :: s44 :: s45 :: s46 :: s47 :: s48 :: s49 :: s50 :: s51 :: s52 :: s53 :: s54 :: s55 :: s56 :: s57 :: s58 :: s59 :: s60 :: s61 :: s62 :: s63 :: s64 :: s65 :: s66 :: s67 :: s68 :: s69 :: s70 :: s71 :: s72 :: s73 :: s74 :: s75 :: s76 :: s77 :: s78 :: s79 :: s80 :: s81 :: s82 :: s83 :: s84 :: s85 :: s86 :: s87 :: s88 :: s89 :: s90 :: s91 :: s92 :: s93 :: s94 :: s95 :: s96 :: s97 :: s98 :: s99 :: s100 :: s101 :: s102 :: s103 :: s104 :: s105 :: s106 :: s107 :: s108 :: s109 :: s110 :: s111 :: s112 :: s113 :: s114 :: s115 :: s116 :: s117 :: s118 :: s119 :: s120 :: s121 :: s122 :: s123 :: s124 :: s125 :: s126 :: s127 :: s128 :: s129 :: s130 :: s131 :: s132 :: s133 :: s134 :: s135 :: s136 :: s137 :: s138 :: s139 :: s140 :: s141 :: s142 :: s143 :: s144 :: s145 :: s146 :: s147 :: s148 :: s149 :: s150 :: s151 :: s152 :: s153 :: s154 :: s155 :: s156 :: s157 :: s158 :: s159 :: s160 :: s161 :: s162 :: s163 :: s164 :: s165 :: s166 :: s167 :: s168 :: s169 :: s170 :: s171 :: s172 :: s173 :: s174 :: s175 :: s176 :: s177 :: s178 :: s179 :: s180 :: s181 :: s182 :: s183 :: s184 :: s185 :: s186 :: s187 :: s188 :: s189 :: s190 :: s191 :: s192 :: s193 :: s194 :: s195 :: s196 :: s197 :: s198 :: s199 :: s200 :: s201 :: s202 :: s203 :: s204 :: s205 :: s206 :: s207 :: s208 :: r209 :: r210 :: r211 :: r212 :: r213 :: r214 :: r215 :: r216 :: r217 :: r218 :: r219 :: r220 :: r221 :: r222 :: r223 :: r224 :: r225 :: r226 :: r227 :: r228 :: r229 :: r230 :: r231 :: r232 :: r233 :: r234 :: r235 :: r236 :: r237 :: r238 :: r239 :: r240 :: r241 :: r242 :: r243 :: (.bool false) :: s245 :: s246 :: s247 :: s248 :: s249 :: s250 :: s251 :: s252 :: s253 :: s254 :: s255 :: s256 :: s257 :: s258 :: s259 :: s260 :: s261 :: s262 :: s263 :: s264 :: s265 :: s266 :: s267 :: s268 :: s269 :: s270 :: s271 :: s272 :: s273 :: s274 :: s275 :: s276 :: s277 :: s278 :: []), defers := [] } W') :
    Code.wp Tryz.prog (regOf Tryz.f6 21) (Exit.then K Q') { tmps := List.toArray (s0 :: s1 :: (.pointer (some ⟨w.heap.size, 0, none⟩)) :: (.pointer (some ⟨w.heap.size + 1, 0, none⟩)) :: s4 :: (.pointer (some ⟨gu, 0, none⟩)) :: s6 :: (.pointer (some ⟨gv, 0, none⟩)) :: s8 :: (.pointer (some ⟨gv + 1, 0, none⟩)) :: (.bool true) :: (.int .i64 (i : Int)) :: (.bool false) :: (.bool y) :: s14 :: s15 :: s16 :: s17 :: s18 :: s19 :: s20 :: s21 :: s22 :: s23 :: s24 :: s25 :: s26 :: s27 :: s28 :: s29 :: s30 :: s31 :: s32 :: s33 :: s34 :: s35 :: s36 :: s37 :: s38 :: s39 :: s40 :: s41 :: s42 :: s43 :: s44 :: s45 :: s46 :: s47 :: s48 :: s49 :: s50 :: s51 :: s52 :: s53 :: s54 :: s55 :: s56 :: s57 :: s58 :: s59 :: s60 :: s61 :: s62 :: s63 :: s64 :: s65 :: s66 :: s67 :: s68 :: s69 :: s70 :: s71 :: s72 :: s73 :: s74 :: s75 :: s76 :: s77 :: s78 :: s79 :: s80 :: s81 :: s82 :: s83 :: s84 :: s85 :: s86 :: s87 :: s88 :: s89 :: s90 :: s91 :: s92 :: s93 :: s94 :: s95 :: s96 :: s97 :: s98 :: s99 :: s100 :: s101 :: s102 :: s103 :: s104 :: s105 :: s106 :: s107 :: s108 :: s109 :: s110 :: s111 :: s112 :: s113 :: s114 :: s115 :: s116 :: s117 :: s118 :: s119 :: s120 :: s121 :: s122 :: s123 :: s124 :: s125 :: s126 :: s127 :: s128 :: s129 :: s130 :: s131 :: s132 :: s133 :: s134 :: s135 :: s136 :: s137 :: s138 :: s139 :: s140 :: s141 :: s142 :: s143 :: s144 :: s145 :: s146 :: s147 :: s148 :: s149 :: s150 :: s151 :: s152 :: s153 :: s154 :: s155 :: s156 :: s157 :: s158 :: s159 :: s160 :: s161 :: s162 :: s163 :: s164 :: s165 :: s166 :: s167 :: s168 :: s169 :: s170 :: s171 :: s172 :: s173 :: s174 :: s175 :: s176 :: s177 :: s178 :: s179 :: s180 :: s181 :: s182 :: s183 :: s184 :: s185 :: s186 :: s187 :: s188 :: s189 :: s190 :: s191 :: s192 :: s193 :: s194 :: s195 :: s196 :: s197 :: s198 :: s199 :: s200 :: s201 :: s202 :: s203 :: s204 :: s205 :: s206 :: s207 :: s208 :: s209 :: s210 :: s211 :: s212 :: s213 :: s214 :: s215 :: s216 :: s217 :: s218 :: s219 :: s220 :: s221 :: s222 :: s223 :: s224 :: s225 :: s226 :: s227 :: s228 :: s229 :: s230 :: s231 :: s232 :: s233 :: s234 :: s235 :: s236 :: s237 :: s238 :: s239 :: s240 :: s241 :: s242 :: s243 :: s244 :: s245 :: s246 :: s247 :: s248 :: s249 :: s250 :: s251 :: s252 :: s253 :: s254 :: s255 :: s256 :: s257 :: s258 :: s259 :: s260 :: s261 :: s262 :: s263 :: s264 :: s265 :: s266 :: s267 :: s268 :: s269 :: s270 :: s271 :: s272 :: s273 :: s274 :: s275 :: s276 :: s277 :: s278 :: []), defers := [] } W := by
  have FC := Lib.hid cx.fc
  have BOW := Lib.hid cx.bow
  have WU := Lib.hid cx.wu
  have WV := Lib.hid cx.wv
  have MO := Lib.hid cx.mo
  have WFF := Lib.hid cx.wff
  have WF2 := Lib.hid cx.wf2
  have WF1 := Lib.hid cx.wf1
  have HI := Lib.hid hB
  have HK0 := Lib.hid hK
  have HP := Lib.hid hP
  have hn := Lib.hid hn0
  have HX := Lib.hid hx0
  have HY := Lib.hid hy0
  clear hn0 hx0 hy0
  clear cx hB hK hP
  conv => arg 2; whnf
  obtain ⟨u0, u1, u2, u3, u4, u5, ul, v0, v1, v2, v3, v4, v5, vl, a0, a1, a2, al, b0, b1, b2, bl, c0, c1, c2, cl⟩ := FC.out W HI.out
  go_wp2_with fail
  refine (of16_any 35 [u, v] W.heap.size 0 2 2 _ (row_new_at (w := W) [(u, Au, cau, Bu, cbu, Ku, cku), (v, Av, cav, Bv, cbv, Kv, ckv)] (fun x hx => by
    simp only [List.mem_cons, List.not_mem_nil, or_false] at hx
    rcases hx with rfl | rfl
    · exact (BOW.out W HI.out).1
    · exact (BOW.out W HI.out).2) rfl) rfl (by decide) (by decide)).mono ?_
  rintro e Pg0 ⟨hg0, cg0, rfl, hta, hb⟩
  have HBg0 := Lib.hid ((HI.out.alloc HI.out.size _).then_ hb)
  have HTg0 := Lib.hid hta
  clear hta hb u0 u1 u2 u3 u4 u5 ul v0 v1 v2 v3 v4 v5 vl a0 a1 a2 al b0 b1 b2 bl c0 c1 c2 cl
  have HTT := Lib.hid (total_any (tOf 35 [u, v]) none 0 none 0 (some ⟨hg0, 0, none⟩) cg0 (i : Int) Pg0 HTg0.out (WF2.out 35 ⟨by decide, by decide⟩))
  rw [total_of (MO.out.two 35 (by decide)) hn.out, tt_35, HX.out, HY.out, Bool.false_or] at HTT
  go_wp2_with fail
  refine HTT.out.mono ?_
  rintro e Pk0 ⟨rfl, hb⟩
  have HBk0 := Lib.hid (HBg0.out.then_ hb)
  clear hb HTT
  obtain ⟨u0, u1, u2, u3, u4, u5, ul, v0, v1, v2, v3, v4, v5, vl, a0, a1, a2, al, b0, b1, b2, bl, c0, c1, c2, cl⟩ := FC.out Pk0 HBk0.out
  go_wp2_with fail
  refine (of16_any 36 [u, v] Pk0.heap.size 0 2 2 _ (row_new_at (w := Pk0) [(u, Au, cau, Bu, cbu, Ku, cku), (v, Av, cav, Bv, cbv, Kv, ckv)] (fun x hx => by
    simp only [List.mem_cons, List.not_mem_nil, or_false] at hx
    rcases hx with rfl | rfl
    · exact (BOW.out Pk0 HBk0.out).1
    · exact (BOW.out Pk0 HBk0.out).2) rfl) rfl (by decide) (by decide)).mono ?_
  rintro e Pg1 ⟨hg1, cg1, rfl, hta, hb⟩
  have HBg1 := Lib.hid ((HBk0.out.alloc HBk0.out.size _).then_ hb)
  have HTg1 := Lib.hid hta
  clear hta hb u0 u1 u2 u3 u4 u5 ul v0 v1 v2 v3 v4 v5 vl a0 a1 a2 al b0 b1 b2 bl c0 c1 c2 cl
  have HTT := Lib.hid (total_any (tOf 36 [u, v]) none 0 none 0 (some ⟨hg1, 0, none⟩) cg1 (i : Int) Pg1 HTg1.out (WF2.out 36 ⟨by decide, by decide⟩))
  rw [total_of (MO.out.two 36 (by decide)) hn.out, tt_36, HX.out] at HTT
  go_wp2_with fail
  refine HTT.out.mono ?_
  rintro e Pk1 ⟨rfl, hb⟩
  have HBk1 := Lib.hid (HBg1.out.then_ hb)
  clear hb HTT
  obtain ⟨u0, u1, u2, u3, u4, u5, ul, v0, v1, v2, v3, v4, v5, vl, a0, a1, a2, al, b0, b1, b2, bl, c0, c1, c2, cl⟩ := FC.out Pk1 HBk1.out
  go_wp2_with fail
  refine (of16_any 24 [u] Pk1.heap.size 0 1 1 _ (row_new_at (w := Pk1) [(u, Au, cau, Bu, cbu, Ku, cku)] (fun x hx => by
    simp only [List.mem_cons, List.not_mem_nil, or_false] at hx
    subst hx
    · exact (BOW.out Pk1 HBk1.out).1) rfl) rfl (by decide) (by decide)).mono ?_
  rintro e Pg2 ⟨hg2, cg2, rfl, hta, hb⟩
  have HBg2 := Lib.hid ((HBk1.out.alloc HBk1.out.size _).then_ hb)
  have HTg2 := Lib.hid hta
  clear hta hb u0 u1 u2 u3 u4 u5 ul v0 v1 v2 v3 v4 v5 vl a0 a1 a2 al b0 b1 b2 bl c0 c1 c2 cl
  have HTT := Lib.hid (total_any (tOf 24 [u]) none 0 none 0 (some ⟨hg2, 0, none⟩) cg2 (i : Int) Pg2 HTg2.out (WF1.out 24 ⟨by decide, by decide⟩))
  rw [total_of (MO.out.one 24 (by decide)) hn.out, tt_24] at HTT
  go_wp2_with fail
  refine HTT.out.mono ?_
  rintro e Pk2 ⟨rfl, hb⟩
  have HBk2 := Lib.hid (HBg2.out.then_ hb)
  clear hb HTT
  obtain ⟨u0, u1, u2, u3, u4, u5, ul, v0, v1, v2, v3, v4, v5, vl, a0, a1, a2, al, b0, b1, b2, bl, c0, c1, c2, cl⟩ := FC.out Pk2 HBk2.out
  go_wp2_with fail
  refine (of16_any 28 [u, v] Pk2.heap.size 0 2 2 _ (row_new_at (w := Pk2) [(u, Au, cau, Bu, cbu, Ku, cku), (v, Av, cav, Bv, cbv, Kv, ckv)] (fun x hx => by
    simp only [List.mem_cons, List.not_mem_nil, or_false] at hx
    rcases hx with rfl | rfl
    · exact (BOW.out Pk2 HBk2.out).1
    · exact (BOW.out Pk2 HBk2.out).2) rfl) rfl (by decide) (by decide)).mono ?_
  rintro e Pg3 ⟨hg3, cg3, rfl, hta, hb⟩
  have HBg3 := Lib.hid ((HBk2.out.alloc HBk2.out.size _).then_ hb)
  have HTg3 := Lib.hid hta
  clear hta hb u0 u1 u2 u3 u4 u5 ul v0 v1 v2 v3 v4 v5 vl a0 a1 a2 al b0 b1 b2 bl c0 c1 c2 cl
  have HTT := Lib.hid (total_any (tOf 28 [u, v]) none 0 none 0 (some ⟨hg3, 0, none⟩) cg3 (i : Int) Pg3 HTg3.out (WF2.out 28 ⟨by decide, by decide⟩))
  rw [total_of (MO.out.two 28 (by decide)) hn.out, tt_28] at HTT
  go_wp2_with fail
  refine HTT.out.mono ?_
  rintro e Pk3 ⟨rfl, hb⟩
  have HBk3 := Lib.hid (HBg3.out.then_ hb)
  clear hb HTT
  go_wp2_with fail
  exact HK0.out _ _ _ _ _ _ _ _ _ _ _ _ _ _ _ _ _ _ _ _ _ _ _ _ _ _ _ _ _ _ _ _ _ _ _ _ HBk3.out

set_option maxRecDepth 100000 in
set_option maxHeartbeats 100000000 in
theorem made21t {u v : Tm} {Au : Option Addr} {cau : Nat} {Bu : Option Addr} {cbu : Nat} {Ku : Option Addr} {cku : Nat} {Av : Option Addr} {cav : Nat} {Bv : Option Addr} {cbv : Nat} {Kv : Option Addr} {ckv : Nat} {w W0 : World} {gu gv : Nat} (cx : MadeCx u v Au cau Bu cbu Ku cku Av cav Bv cbv Kv ckv w W0 gu gv) {i : Nat} {y : Bool} (hn0 : (i : Int) = 1 ∨ (i : Int) = 2) (hx0 : totT u (i : Int) = true) (hy0 : totT v (i : Int) = y) {W : World} (hB : Below W0.heap.size W0 W) {K : Act → World → Prop} {Q' : Exit → Act → World → Prop} {s0 s1 s4 s6 s8 s14 s15 s16 s17 s18 s19 s20 s21 s22 s23 s24 s25 s26 s27 s28 s29 s30 s31 s32 s33 s34 s35 s36 s37 s38 s39 s40 s41 s42 s43 s44 s45 s46 s47 s48 s49 s50 s51 s52 s53 s54 s55 s56 s57 s58 s59 s60 s61 s62 s63 s64 s65 s66 s67 s68 s69 s70 s71 s72 s73 s74 s75 s76 s77 s78 s79 s80 s81 s82 s83 s84 s85 s86 s87 s88 s89 s90 s91 s92 s93 s94 s95 s96 s97 s98 s99 s100 s101 s102 s103 s104 s105 s106 s107 s108 s109 s110 s111 s112 s113 s114 s115 s116 s117 s118 s119 s120 s121 s122 s123 s124 s125 s126 s127 s128 s129 s130 s131 s132 s133 s134 s135 s136 s137 s138 s139 s140 s141 s142 s143 s144 s145 s146 s147 s148 s149 s150 s151 s152 s153 s154 s155 s156 s157 s158 s159 s160 s161 s162 s163 s164 s165 s166 s167 s168 s169 s170 s171 s172 s173 s174 s175 s176 s177 s178 s179 s180 s181 s182 s183 s184 s185 s186 s187 s188 s189 s190 s191 s192 s193 s194 s195 s196 s197 s198 s199 s200 s201 s202 s203 s204 s205 s206 s207 s208 s209 s210 s211 s212 s213 s214 s215 s216 s217 s218 s219 s220 s221 s222 s223 s224 s225 s226 s227 s228 s229 s230 s231 s232 s233 s234 s235 s236 s237 s238 s239 s240 s241 s242 s243 s244 s245 s246 s247 s248 s249 s250 s251 s252 s253 s254 s255 s256 s257 s258 s259 s260 s261 s262 s263 s264 s265 s266 s267 s268 s269 s270 s271 s272 s273 s274 s275 s276 s277 s278 : Value}
    (hP : ∀ c (a : Act) d v w, Q' (.panic c) (a.put (some d) v) w → Q' (.panic c) a w) (hK : ∀ (r209 r210 r211 r212 r213 r214 r215 r216 r217 r218 r219 r220 r221 r222 r223 r224 r225 r226 r227 r228 r229 r230 r231 r232 r233 r234 r235 r236 r237 r238 r239 r240 r241 r242 r243 : Value) (W' : World), Below W0.heap.size W0 W' → K { tmps := List.toArray (s0 :: s1 :: (.pointer (some ⟨w.heap.size, 0, none⟩)) :: (.pointer (some ⟨w.heap.size + 1, 0, none⟩)) :: s4 :: (.pointer (some ⟨gu, 0, none⟩)) :: s6 :: (.pointer (some ⟨gv, 0, none⟩)) :: s8 :: (.pointer (some ⟨gv + 1, 0, none⟩)) :: (.bool true) :: (.int .i64 (i : Int)) :: (.bool true) :: (.bool y) :: s14 :: s15 :: s16 :: s17 :: s18 :: s19 :: s20 :: s21 :: s22 :: s23 :: s24 :: s25 :: s26 :: s27 :: s28 :: s29 :: s30 :: s31 :: s32 :: s33 :: s34 :: s35 :: s36 :: s37 :: s38 :: s39 :: s40 :: s41 :: s42 :: s43 :: s44 :: s45 :: s46 :: s47 :: s48 :: s49 :: s50 :: s51 :: s52 :: s53 :: s54 :: s55 :: s56 :: s57 :: s58 :: s59 :: s60 :: s61 :: s62 :: s63 :: s64 :: s65 :: s66 :: s67 :: s68 :: s69 :: s70 :: s71 :: s72 :: s73 :: s74 :: s75 :: s76 :: s77 :: s78 :: s79 :: s80 :: s81 :: s82 :: s83 :: s84 :: s85 :: s86 :: s87 :: s88 :: s89 :: s90 :: s91 :: s92 :: s93 :: s94 :: s95 :: s96 :: s97 :: s98 :: s99 :: s100 :: s101 :: s102 :: s103 :: s104 :: s105 :: s106 :: s107 :: s108 :: s109 :: s110 :: s111 :: s112 :: s113 :: s114 :: s115 :: s116 :: s117 :: s118 :: s119 :: s120 :: s121 :: s122 :: s123 :: s124 :: s125 :: s126 :: s127 :: s128 :: s129 :: s130 :: s131 :: s132 :: s133 :: s134 :: s135 :: s136 :: s137 :: s138 :: s139 :: s140 :: s141 :: s142 :: s143 :: s144 :: s145 :: s146 :: s147 :: s148 :: s149 :: s150 :: s151 :: s152 :: s153 :: s154 :: s155 :: s156 :: s157 :: s158 :: s159 :: s160 :: s161 :: s162 :: s163 :: s164 :: s165 :: s166 :: s167 :: s168 :: s169 :: s170 :: s171 :: s172 :: s173 :: s174 :: s175 :: s176 :: s177 :: s178 :: s179 :: s180 :: s181 :: s182 :: s183 :: s184 :: s185 :: s186 :: s187 :: s188 :: s189 :: s190 :: s191 :: s192 :: s193 :: s194 :: s195 :: s196 :: s197 :: s198 :: s199 :: s200 :: s201 :: s202 :: s203 :: s204 :: s205 :: s206 :: s207 :: s208 :: r209 :: r210 :: r211 :: r212 :: r213 :: r214 :: r215 :: r216 :: r217 :: r218 :: r219 :: r220 :: r221 :: r222 :: r223 :: r224 :: r225 :: r226 :: r227 :: r228 :: r229 :: r230 :: r231 :: r232 :: r233 :: r234 :: r235 :: r236 :: r237 :: r238 :: r239 :: r240 :: r241 :: r242 :: r243 :: (.bool false) :: s245 :: s246 :: s247 :: s248 :: s249 :: s250 :: s251 :: s252 :: s253 :: s254 :: s255 :: s256 :: s257 :: s258 :: s259 :: s260 :: s261 :: s262 :: s263 :: s264 :: s265 :: s266 :: s267 :: s268 :: s269 :: s270 :: s271 :: s272 :: s273 :: s274 :: s275 :: s276 :: s277 :: s278 :: []), defers := [] } W') :
    Code.wp Tryz.prog (regOf Tryz.f6 21) (Exit.then K Q') { tmps := List.toArray (s0 :: s1 :: (.pointer (some ⟨w.heap.size, 0, none⟩)) :: (.pointer (some ⟨w.heap.size + 1, 0, none⟩)) :: s4 :: (.pointer (some ⟨gu, 0, none⟩)) :: s6 :: (.pointer (some ⟨gv, 0, none⟩)) :: s8 :: (.pointer (some ⟨gv + 1, 0, none⟩)) :: (.bool true) :: (.int .i64 (i : Int)) :: (.bool true) :: (.bool y) :: s14 :: s15 :: s16 :: s17 :: s18 :: s19 :: s20 :: s21 :: s22 :: s23 :: s24 :: s25 :: s26 :: s27 :: s28 :: s29 :: s30 :: s31 :: s32 :: s33 :: s34 :: s35 :: s36 :: s37 :: s38 :: s39 :: s40 :: s41 :: s42 :: s43 :: s44 :: s45 :: s46 :: s47 :: s48 :: s49 :: s50 :: s51 :: s52 :: s53 :: s54 :: s55 :: s56 :: s57 :: s58 :: s59 :: s60 :: s61 :: s62 :: s63 :: s64 :: s65 :: s66 :: s67 :: s68 :: s69 :: s70 :: s71 :: s72 :: s73 :: s74 :: s75 :: s76 :: s77 :: s78 :: s79 :: s80 :: s81 :: s82 :: s83 :: s84 :: s85 :: s86 :: s87 :: s88 :: s89 :: s90 :: s91 :: s92 :: s93 :: s94 :: s95 :: s96 :: s97 :: s98 :: s99 :: s100 :: s101 :: s102 :: s103 :: s104 :: s105 :: s106 :: s107 :: s108 :: s109 :: s110 :: s111 :: s112 :: s113 :: s114 :: s115 :: s116 :: s117 :: s118 :: s119 :: s120 :: s121 :: s122 :: s123 :: s124 :: s125 :: s126 :: s127 :: s128 :: s129 :: s130 :: s131 :: s132 :: s133 :: s134 :: s135 :: s136 :: s137 :: s138 :: s139 :: s140 :: s141 :: s142 :: s143 :: s144 :: s145 :: s146 :: s147 :: s148 :: s149 :: s150 :: s151 :: s152 :: s153 :: s154 :: s155 :: s156 :: s157 :: s158 :: s159 :: s160 :: s161 :: s162 :: s163 :: s164 :: s165 :: s166 :: s167 :: s168 :: s169 :: s170 :: s171 :: s172 :: s173 :: s174 :: s175 :: s176 :: s177 :: s178 :: s179 :: s180 :: s181 :: s182 :: s183 :: s184 :: s185 :: s186 :: s187 :: s188 :: s189 :: s190 :: s191 :: s192 :: s193 :: s194 :: s195 :: s196 :: s197 :: s198 :: s199 :: s200 :: s201 :: s202 :: s203 :: s204 :: s205 :: s206 :: s207 :: s208 :: s209 :: s210 :: s211 :: s212 :: s213 :: s214 :: s215 :: s216 :: s217 :: s218 :: s219 :: s220 :: s221 :: s222 :: s223 :: s224 :: s225 :: s226 :: s227 :: s228 :: s229 :: s230 :: s231 :: s232 :: s233 :: s234 :: s235 :: s236 :: s237 :: s238 :: s239 :: s240 :: s241 :: s242 :: s243 :: s244 :: s245 :: s246 :: s247 :: s248 :: s249 :: s250 :: s251 :: s252 :: s253 :: s254 :: s255 :: s256 :: s257 :: s258 :: s259 :: s260 :: s261 :: s262 :: s263 :: s264 :: s265 :: s266 :: s267 :: s268 :: s269 :: s270 :: s271 :: s272 :: s273 :: s274 :: s275 :: s276 :: s277 :: s278 :: []), defers := [] } W := by
  have FC := Lib.hid cx.fc
  have BOW := Lib.hid cx.bow
  have WU := Lib.hid cx.wu
  have WV := Lib.hid cx.wv
  have MO := Lib.hid cx.mo
  have WFF := Lib.hid cx.wff
  have WF2 := Lib.hid cx.wf2
  have WF1 := Lib.hid cx.wf1
  have HI := Lib.hid hB
  have HK0 := Lib.hid hK
  have HP := Lib.hid hP
  have hn := Lib.hid hn0
  have HX := Lib.hid hx0
  have HY := Lib.hid hy0
  clear hn0 hx0 hy0
  clear cx hB hK hP
  conv => arg 2; whnf
  obtain ⟨u0, u1, u2, u3, u4, u5, ul, v0, v1, v2, v3, v4, v5, vl, a0, a1, a2, al, b0, b1, b2, bl, c0, c1, c2, cl⟩ := FC.out W HI.out
  go_wp2_with fail
  refine (of16_any 35 [u, v] W.heap.size 0 2 2 _ (row_new_at (w := W) [(u, Au, cau, Bu, cbu, Ku, cku), (v, Av, cav, Bv, cbv, Kv, ckv)] (fun x hx => by
    simp only [List.mem_cons, List.not_mem_nil, or_false] at hx
    rcases hx with rfl | rfl
    · exact (BOW.out W HI.out).1
    · exact (BOW.out W HI.out).2) rfl) rfl (by decide) (by decide)).mono ?_
  rintro e Pg0 ⟨hg0, cg0, rfl, hta, hb⟩
  have HBg0 := Lib.hid ((HI.out.alloc HI.out.size _).then_ hb)
  have HTg0 := Lib.hid hta
  clear hta hb u0 u1 u2 u3 u4 u5 ul v0 v1 v2 v3 v4 v5 vl a0 a1 a2 al b0 b1 b2 bl c0 c1 c2 cl
  have HTT := Lib.hid (total_any (tOf 35 [u, v]) none 0 none 0 (some ⟨hg0, 0, none⟩) cg0 (i : Int) Pg0 HTg0.out (WF2.out 35 ⟨by decide, by decide⟩))
  rw [total_of (MO.out.two 35 (by decide)) hn.out, tt_35, HX.out, HY.out, Bool.true_or] at HTT
  go_wp2_with fail
  refine HTT.out.mono ?_
  rintro e Pk0 ⟨rfl, hb⟩
  have HBk0 := Lib.hid (HBg0.out.then_ hb)
  clear hb HTT
  obtain ⟨u0, u1, u2, u3, u4, u5, ul, v0, v1, v2, v3, v4, v5, vl, a0, a1, a2, al, b0, b1, b2, bl, c0, c1, c2, cl⟩ := FC.out Pk0 HBk0.out
  go_wp2_with fail
  refine (of16_any 36 [u, v] Pk0.heap.size 0 2 2 _ (row_new_at (w := Pk0) [(u, Au, cau, Bu, cbu, Ku, cku), (v, Av, cav, Bv, cbv, Kv, ckv)] (fun x hx => by
    simp only [List.mem_cons, List.not_mem_nil, or_false] at hx
    rcases hx with rfl | rfl
    · exact (BOW.out Pk0 HBk0.out).1
    · exact (BOW.out Pk0 HBk0.out).2) rfl) rfl (by decide) (by decide)).mono ?_
  rintro e Pg1 ⟨hg1, cg1, rfl, hta, hb⟩
  have HBg1 := Lib.hid ((HBk0.out.alloc HBk0.out.size _).then_ hb)
  have HTg1 := Lib.hid hta
  clear hta hb u0 u1 u2 u3 u4 u5 ul v0 v1 v2 v3 v4 v5 vl a0 a1 a2 al b0 b1 b2 bl c0 c1 c2 cl
  have HTT := Lib.hid (total_any (tOf 36 [u, v]) none 0 none 0 (some ⟨hg1, 0, none⟩) cg1 (i : Int) Pg1 HTg1.out (WF2.out 36 ⟨by decide, by decide⟩))
  rw [total_of (MO.out.two 36 (by decide)) hn.out, tt_36, HX.out] at HTT
  go_wp2_with fail
  refine HTT.out.mono ?_
  rintro e Pk1 ⟨rfl, hb⟩
  have HBk1 := Lib.hid (HBg1.out.then_ hb)
  clear hb HTT
  obtain ⟨u0, u1, u2, u3, u4, u5, ul, v0, v1, v2, v3, v4, v5, vl, a0, a1, a2, al, b0, b1, b2, bl, c0, c1, c2, cl⟩ := FC.out Pk1 HBk1.out
  go_wp2_with fail
  refine (of16_any 24 [u] Pk1.heap.size 0 1 1 _ (row_new_at (w := Pk1) [(u, Au, cau, Bu, cbu, Ku, cku)] (fun x hx => by
    simp only [List.mem_cons, List.not_mem_nil, or_false] at hx
    subst hx
    · exact (BOW.out Pk1 HBk1.out).1) rfl) rfl (by decide) (by decide)).mono ?_
  rintro e Pg2 ⟨hg2, cg2, rfl, hta, hb⟩
  have HBg2 := Lib.hid ((HBk1.out.alloc HBk1.out.size _).then_ hb)
  have HTg2 := Lib.hid hta
  clear hta hb u0 u1 u2 u3 u4 u5 ul v0 v1 v2 v3 v4 v5 vl a0 a1 a2 al b0 b1 b2 bl c0 c1 c2 cl
  have HTT := Lib.hid (total_any (tOf 24 [u]) none 0 none 0 (some ⟨hg2, 0, none⟩) cg2 (i : Int) Pg2 HTg2.out (WF1.out 24 ⟨by decide, by decide⟩))
  rw [total_of (MO.out.one 24 (by decide)) hn.out, tt_24] at HTT
  go_wp2_with fail
  refine HTT.out.mono ?_
  rintro e Pk2 ⟨rfl, hb⟩
  have HBk2 := Lib.hid (HBg2.out.then_ hb)
  clear hb HTT
  obtain ⟨u0, u1, u2, u3, u4, u5, ul, v0, v1, v2, v3, v4, v5, vl, a0, a1, a2, al, b0, b1, b2, bl, c0, c1, c2, cl⟩ := FC.out Pk2 HBk2.out
  go_wp2_with fail
  refine (of16_any 28 [u, v] Pk2.heap.size 0 2 2 _ (row_new_at (w := Pk2) [(u, Au, cau, Bu, cbu, Ku, cku), (v, Av, cav, Bv, cbv, Kv, ckv)] (fun x hx => by
    simp only [List.mem_cons, List.not_mem_nil, or_false] at hx
    rcases hx with rfl | rfl
    · exact (BOW.out Pk2 HBk2.out).1
    · exact (BOW.out Pk2 HBk2.out).2) rfl) rfl (by decide) (by decide)).mono ?_
  rintro e Pg3 ⟨hg3, cg3, rfl, hta, hb⟩
  have HBg3 := Lib.hid ((HBk2.out.alloc HBk2.out.size _).then_ hb)
  have HTg3 := Lib.hid hta
  clear hta hb u0 u1 u2 u3 u4 u5 ul v0 v1 v2 v3 v4 v5 vl a0 a1 a2 al b0 b1 b2 bl c0 c1 c2 cl
  have HTT := Lib.hid (total_any (tOf 28 [u, v]) none 0 none 0 (some ⟨hg3, 0, none⟩) cg3 (i : Int) Pg3 HTg3.out (WF2.out 28 ⟨by decide, by decide⟩))
  rw [total_of (MO.out.two 28 (by decide)) hn.out, tt_28] at HTT
  go_wp2_with fail
  refine HTT.out.mono ?_
  rintro e Pk3 ⟨rfl, hb⟩
  have HBk3 := Lib.hid (HBg3.out.then_ hb)
  clear hb HTT
  go_wp2_with fail
  exact HK0.out _ _ _ _ _ _ _ _ _ _ _ _ _ _ _ _ _ _ _ _ _ _ _ _ _ _ _ _ _ _ _ _ _ _ _ _ HBk3.out

set_option maxRecDepth 100000 in
set_option maxHeartbeats 100000000 in
theorem made23_1 {u v : Tm} {Au : Option Addr} {cau : Nat} {Bu : Option Addr} {cbu : Nat} {Ku : Option Addr} {cku : Nat} {Av : Option Addr} {cav : Nat} {Bv : Option Addr} {cbv : Nat} {Kv : Option Addr} {ckv : Nat} {w W0 : World} {gu gv : Nat} (cx : MadeCx u v Au cau Bu cbu Ku cku Av cav Bv cbv Kv ckv w W0 gu gv) {i : Nat} {x y : Bool} (hn1 : (i : Int) = 1) (hx0 : totT u (i : Int) = x) (hy0 : totT v (i : Int) = y) {W : World} (hB : Below W0.heap.size W0 W) {K : Act → World → Prop} {Q' : Exit → Act → World → Prop} {s0 s1 s4 s6 s8 s14 s15 s16 s17 s18 s19 s20 s21 s22 s23 s24 s25 s26 s27 s28 s29 s30 s31 s32 s33 s34 s35 s36 s37 s38 s39 s40 s41 s42 s43 s44 s45 s46 s47 s48 s49 s50 s51 s52 s53 s54 s55 s56 s57 s58 s59 s60 s61 s62 s63 s64 s65 s66 s67 s68 s69 s70 s71 s72 s73 s74 s75 s76 s77 s78 s79 s80 s81 s82 s83 s84 s85 s86 s87 s88 s89 s90 s91 s92 s93 s94 s95 s96 s97 s98 s99 s100 s101 s102 s103 s104 s105 s106 s107 s108 s109 s110 s111 s112 s113 s114 s115 s116 s117 s118 s119 s120 s121 s122 s123 s124 s125 s126 s127 s128 s129 s130 s131 s132 s133 s134 s135 s136 s137 s138 s139 s140 s141 s142 s143 s144 s145 s146 s147 s148 s149 s150 s151 s152 s153 s154 s155 s156 s157 s158 s159 s160 s161 s162 s163 s164 s165 s166 s167 s168 s169 s170 s171 s172 s173 s174 s175 s176 s177 s178 s179 s180 s181 s182 s183 s184 s185 s186 s187 s188 s189 s190 s191 s192 s193 s194 s195 s196 s197 s198 s199 s200 s201 s202 s203 s204 s205 s206 s207 s208 s209 s210 s211 s212 s213 s214 s215 s216 s217 s218 s219 s220 s221 s222 s223 s224 s225 s226 s227 s228 s229 s230 s231 s232 s233 s234 s235 s236 s237 s238 s239 s240 s241 s242 s243 s244 s245 s246 s247 s248 s249 s250 s251 s252 s253 s254 s255 s256 s257 s258 s259 s260 s261 s262 s263 s264 s265 s266 s267 s268 s269 s270 s271 s272 s273 s274 s275 s276 s277 s278 : Value}
    (hP : ∀ c (a : Act) d v w, Q' (.panic c) (a.put (some d) v) w → Q' (.panic c) a w) (hK : ∀ (r245 r246 r247 r248 r249 r250 r251 r252 r253 r254 r255 r256 r257 r258 r259 r260 r261 r262 r263 r264 r265 r266 r267 r268 r269 : Value) (W' : World), Below W0.heap.size W0 W' → K { tmps := List.toArray (s0 :: s1 :: (.pointer (some ⟨w.heap.size, 0, none⟩)) :: (.pointer (some ⟨w.heap.size + 1, 0, none⟩)) :: s4 :: (.pointer (some ⟨gu, 0, none⟩)) :: s6 :: (.pointer (some ⟨gv, 0, none⟩)) :: s8 :: (.pointer (some ⟨gv + 1, 0, none⟩)) :: (.bool true) :: (.int .i64 (i : Int)) :: (.bool x) :: (.bool y) :: s14 :: s15 :: s16 :: s17 :: s18 :: s19 :: s20 :: s21 :: s22 :: s23 :: s24 :: s25 :: s26 :: s27 :: s28 :: s29 :: s30 :: s31 :: s32 :: s33 :: s34 :: s35 :: s36 :: s37 :: s38 :: s39 :: s40 :: s41 :: s42 :: s43 :: s44 :: s45 :: s46 :: s47 :: s48 :: s49 :: s50 :: s51 :: s52 :: s53 :: s54 :: s55 :: s56 :: s57 :: s58 :: s59 :: s60 :: s61 :: s62 :: s63 :: s64 :: s65 :: s66 :: s67 :: s68 :: s69 :: s70 :: s71 :: s72 :: s73 :: s74 :: s75 :: s76 :: s77 :: s78 :: s79 :: s80 :: s81 :: s82 :: s83 :: s84 :: s85 :: s86 :: s87 :: s88 :: s89 :: s90 :: s91 :: s92 :: s93 :: s94 :: s95 :: s96 :: s97 :: s98 :: s99 :: s100 :: s101 :: s102 :: s103 :: s104 :: s105 :: s106 :: s107 :: s108 :: s109 :: s110 :: s111 :: s112 :: s113 :: s114 :: s115 :: s116 :: s117 :: s118 :: s119 :: s120 :: s121 :: s122 :: s123 :: s124 :: s125 :: s126 :: s127 :: s128 :: s129 :: s130 :: s131 :: s132 :: s133 :: s134 :: s135 :: s136 :: s137 :: s138 :: s139 :: s140 :: s141 :: s142 :: s143 :: s144 :: s145 :: s146 :: s147 :: s148 :: s149 :: s150 :: s151 :: s152 :: s153 :: s154 :: s155 :: s156 :: s157 :: s158 :: s159 :: s160 :: s161 :: s162 :: s163 :: s164 :: s165 :: s166 :: s167 :: s168 :: s169 :: s170 :: s171 :: s172 :: s173 :: s174 :: s175 :: s176 :: s177 :: s178 :: s179 :: s180 :: s181 :: s182 :: s183 :: s184 :: s185 :: s186 :: s187 :: s188 :: s189 :: s190 :: s191 :: s192 :: s193 :: s194 :: s195 :: s196 :: s197 :: s198 :: s199 :: s200 :: s201 :: s202 :: s203 :: s204 :: s205 :: s206 :: s207 :: s208 :: s209 :: s210 :: s211 :: s212 :: s213 :: s214 :: s215 :: s216 :: s217 :: s218 :: s219 :: s220 :: s221 :: s222 :: s223 :: s224 :: s225 :: s226 :: s227 :: s228 :: s229 :: s230 :: s231 :: s232 :: s233 :: s234 :: s235 :: s236 :: s237 :: s238 :: s239 :: s240 :: s241 :: s242 :: s243 :: s244 :: r245 :: r246 :: r247 :: r248 :: r249 :: r250 :: r251 :: r252 :: r253 :: r254 :: r255 :: r256 :: r257 :: r258 :: r259 :: r260 :: r261 :: r262 :: r263 :: r264 :: r265 :: r266 :: r267 :: r268 :: r269 :: (.bool false) :: s271 :: s272 :: s273 :: s274 :: s275 :: s276 :: s277 :: s278 :: []), defers := [] } W') :
    Code.wp Tryz.prog (regOf Tryz.f6 23) (Exit.then K Q') { tmps := List.toArray (s0 :: s1 :: (.pointer (some ⟨w.heap.size, 0, none⟩)) :: (.pointer (some ⟨w.heap.size + 1, 0, none⟩)) :: s4 :: (.pointer (some ⟨gu, 0, none⟩)) :: s6 :: (.pointer (some ⟨gv, 0, none⟩)) :: s8 :: (.pointer (some ⟨gv + 1, 0, none⟩)) :: (.bool true) :: (.int .i64 (i : Int)) :: (.bool x) :: (.bool y) :: s14 :: s15 :: s16 :: s17 :: s18 :: s19 :: s20 :: s21 :: s22 :: s23 :: s24 :: s25 :: s26 :: s27 :: s28 :: s29 :: s30 :: s31 :: s32 :: s33 :: s34 :: s35 :: s36 :: s37 :: s38 :: s39 :: s40 :: s41 :: s42 :: s43 :: s44 :: s45 :: s46 :: s47 :: s48 :: s49 :: s50 :: s51 :: s52 :: s53 :: s54 :: s55 :: s56 :: s57 :: s58 :: s59 :: s60 :: s61 :: s62 :: s63 :: s64 :: s65 :: s66 :: s67 :: s68 :: s69 :: s70 :: s71 :: s72 :: s73 :: s74 :: s75 :: s76 :: s77 :: s78 :: s79 :: s80 :: s81 :: s82 :: s83 :: s84 :: s85 :: s86 :: s87 :: s88 :: s89 :: s90 :: s91 :: s92 :: s93 :: s94 :: s95 :: s96 :: s97 :: s98 :: s99 :: s100 :: s101 :: s102 :: s103 :: s104 :: s105 :: s106 :: s107 :: s108 :: s109 :: s110 :: s111 :: s112 :: s113 :: s114 :: s115 :: s116 :: s117 :: s118 :: s119 :: s120 :: s121 :: s122 :: s123 :: s124 :: s125 :: s126 :: s127 :: s128 :: s129 :: s130 :: s131 :: s132 :: s133 :: s134 :: s135 :: s136 :: s137 :: s138 :: s139 :: s140 :: s141 :: s142 :: s143 :: s144 :: s145 :: s146 :: s147 :: s148 :: s149 :: s150 :: s151 :: s152 :: s153 :: s154 :: s155 :: s156 :: s157 :: s158 :: s159 :: s160 :: s161 :: s162 :: s163 :: s164 :: s165 :: s166 :: s167 :: s168 :: s169 :: s170 :: s171 :: s172 :: s173 :: s174 :: s175 :: s176 :: s177 :: s178 :: s179 :: s180 :: s181 :: s182 :: s183 :: s184 :: s185 :: s186 :: s187 :: s188 :: s189 :: s190 :: s191 :: s192 :: s193 :: s194 :: s195 :: s196 :: s197 :: s198 :: s199 :: s200 :: s201 :: s202 :: s203 :: s204 :: s205 :: s206 :: s207 :: s208 :: s209 :: s210 :: s211 :: s212 :: s213 :: s214 :: s215 :: s216 :: s217 :: s218 :: s219 :: s220 :: s221 :: s222 :: s223 :: s224 :: s225 :: s226 :: s227 :: s228 :: s229 :: s230 :: s231 :: s232 :: s233 :: s234 :: s235 :: s236 :: s237 :: s238 :: s239 :: s240 :: s241 :: s242 :: s243 :: s244 :: s245 :: s246 :: s247 :: s248 :: s249 :: s250 :: s251 :: s252 :: s253 :: s254 :: s255 :: s256 :: s257 :: s258 :: s259 :: s260 :: s261 :: s262 :: s263 :: s264 :: s265 :: s266 :: s267 :: s268 :: s269 :: s270 :: s271 :: s272 :: s273 :: s274 :: s275 :: s276 :: s277 :: s278 :: []), defers := [] } W := by
  have FC := Lib.hid cx.fc
  have BOW := Lib.hid cx.bow
  have WU := Lib.hid cx.wu
  have WV := Lib.hid cx.wv
  have MO := Lib.hid cx.mo
  have WFF := Lib.hid cx.wff
  have WF2 := Lib.hid cx.wf2
  have WF1 := Lib.hid cx.wf1
  have HI := Lib.hid hB
  have HK0 := Lib.hid hK
  have HP := Lib.hid hP
  have HX := Lib.hid hx0
  have HY := Lib.hid hy0
  clear hx0 hy0
  have HN1 := Lib.hid hn1
  have hn : Hid ((i : Int) = 1 ∨ (i : Int) = 2) := Lib.hid (by omega)
  clear hn1
  clear cx hB hK hP
  conv => arg 2; whnf
  have e1 : ((i : Int) == 1) = true := by rw [HN1.out]; rfl
  have e2 : ((i : Int) == 2) = false := by rw [HN1.out]; rfl
  obtain ⟨u0, u1, u2, u3, u4, u5, ul, v0, v1, v2, v3, v4, v5, vl, a0, a1, a2, al, b0, b1, b2, bl, c0, c1, c2, cl⟩ := FC.out W HI.out
  go_wp2_with fail
  refine (of16_any 37 [u, v] W.heap.size 0 2 2 _ (row_new_at (w := W) [(u, Au, cau, Bu, cbu, Ku, cku), (v, Av, cav, Bv, cbv, Kv, ckv)] (fun x hx => by
    simp only [List.mem_cons, List.not_mem_nil, or_false] at hx
    rcases hx with rfl | rfl
    · exact (BOW.out W HI.out).1
    · exact (BOW.out W HI.out).2) rfl) rfl (by decide) (by decide)).mono ?_
  rintro e Pm1 ⟨hm1, cm1, rfl, hta, hb⟩
  have HBm1 := Lib.hid ((HI.out.alloc HI.out.size _).then_ hb)
  have HTm1 := Lib.hid hta
  clear hta hb u0 u1 u2 u3 u4 u5 ul v0 v1 v2 v3 v4 v5 vl a0 a1 a2 al b0 b1 b2 bl c0 c1 c2 cl
  have HTT := Lib.hid (total_any (tOf 37 [u, v]) none 0 none 0 (some ⟨hm1, 0, none⟩) cm1 (i : Int) Pm1 HTm1.out (WF2.out 37 ⟨by decide, by decide⟩))
  rw [total_of (MO.out.two 37 (by decide)) hn.out, tt_37, if_pos HN1.out, HX.out] at HTT
  go_wp2_with fail
  refine HTT.out.mono ?_
  rintro e Pn1 ⟨rfl, hb⟩
  have HBn1 := Lib.hid (HBm1.out.then_ hb)
  clear hb HTT
  go_wp2_with fail
  exact HK0.out _ _ _ _ _ _ _ _ _ _ _ _ _ _ _ _ _ _ _ _ _ _ _ _ _ _ HBn1.out

set_option maxRecDepth 100000 in
set_option maxHeartbeats 100000000 in
theorem made23_2 {u v : Tm} {Au : Option Addr} {cau : Nat} {Bu : Option Addr} {cbu : Nat} {Ku : Option Addr} {cku : Nat} {Av : Option Addr} {cav : Nat} {Bv : Option Addr} {cbv : Nat} {Kv : Option Addr} {ckv : Nat} {w W0 : World} {gu gv : Nat} (cx : MadeCx u v Au cau Bu cbu Ku cku Av cav Bv cbv Kv ckv w W0 gu gv) {i : Nat} {x y : Bool} (hn1 : (i : Int) = 2) (hx0 : totT u (i : Int) = x) (hy0 : totT v (i : Int) = y) {W : World} (hB : Below W0.heap.size W0 W) {K : Act → World → Prop} {Q' : Exit → Act → World → Prop} {s0 s1 s4 s6 s8 s14 s15 s16 s17 s18 s19 s20 s21 s22 s23 s24 s25 s26 s27 s28 s29 s30 s31 s32 s33 s34 s35 s36 s37 s38 s39 s40 s41 s42 s43 s44 s45 s46 s47 s48 s49 s50 s51 s52 s53 s54 s55 s56 s57 s58 s59 s60 s61 s62 s63 s64 s65 s66 s67 s68 s69 s70 s71 s72 s73 s74 s75 s76 s77 s78 s79 s80 s81 s82 s83 s84 s85 s86 s87 s88 s89 s90 s91 s92 s93 s94 s95 s96 s97 s98 s99 s100 s101 s102 s103 s104 s105 s106 s107 s108 s109 s110 s111 s112 s113 s114 s115 s116 s117 s118 s119 s120 s121 s122 s123 s124 s125 s126 s127 s128 s129 s130 s131 s132 s133 s134 s135 s136 s137 s138 s139 s140 s141 s142 s143 s144 s145 s146 s147 s148 s149 s150 s151 s152 s153 s154 s155 s156 s157 s158 s159 s160 s161 s162 s163 s164 s165 s166 s167 s168 s169 s170 s171 s172 s173 s174 s175 s176 s177 s178 s179 s180 s181 s182 s183 s184 s185 s186 s187 s188 s189 s190 s191 s192 s193 s194 s195 s196 s197 s198 s199 s200 s201 s202 s203 s204 s205 s206 s207 s208 s209 s210 s211 s212 s213 s214 s215 s216 s217 s218 s219 s220 s221 s222 s223 s224 s225 s226 s227 s228 s229 s230 s231 s232 s233 s234 s235 s236 s237 s238 s239 s240 s241 s242 s243 s244 s245 s246 s247 s248 s249 s250 s251 s252 s253 s254 s255 s256 s257 s258 s259 s260 s261 s262 s263 s264 s265 s266 s267 s268 s269 s270 s271 s272 s273 s274 s275 s276 s277 s278 : Value}
    (hP : ∀ c (a : Act) d v w, Q' (.panic c) (a.put (some d) v) w → Q' (.panic c) a w) (hK : ∀ (r245 r246 r247 r248 r249 r250 r251 r252 r253 r254 r255 r256 r257 r258 r259 r260 r261 r262 r263 r264 r265 r266 r267 r268 r269 : Value) (W' : World), Below W0.heap.size W0 W' → K { tmps := List.toArray (s0 :: s1 :: (.pointer (some ⟨w.heap.size, 0, none⟩)) :: (.pointer (some ⟨w.heap.size + 1, 0, none⟩)) :: s4 :: (.pointer (some ⟨gu, 0, none⟩)) :: s6 :: (.pointer (some ⟨gv, 0, none⟩)) :: s8 :: (.pointer (some ⟨gv + 1, 0, none⟩)) :: (.bool true) :: (.int .i64 (i : Int)) :: (.bool x) :: (.bool y) :: s14 :: s15 :: s16 :: s17 :: s18 :: s19 :: s20 :: s21 :: s22 :: s23 :: s24 :: s25 :: s26 :: s27 :: s28 :: s29 :: s30 :: s31 :: s32 :: s33 :: s34 :: s35 :: s36 :: s37 :: s38 :: s39 :: s40 :: s41 :: s42 :: s43 :: s44 :: s45 :: s46 :: s47 :: s48 :: s49 :: s50 :: s51 :: s52 :: s53 :: s54 :: s55 :: s56 :: s57 :: s58 :: s59 :: s60 :: s61 :: s62 :: s63 :: s64 :: s65 :: s66 :: s67 :: s68 :: s69 :: s70 :: s71 :: s72 :: s73 :: s74 :: s75 :: s76 :: s77 :: s78 :: s79 :: s80 :: s81 :: s82 :: s83 :: s84 :: s85 :: s86 :: s87 :: s88 :: s89 :: s90 :: s91 :: s92 :: s93 :: s94 :: s95 :: s96 :: s97 :: s98 :: s99 :: s100 :: s101 :: s102 :: s103 :: s104 :: s105 :: s106 :: s107 :: s108 :: s109 :: s110 :: s111 :: s112 :: s113 :: s114 :: s115 :: s116 :: s117 :: s118 :: s119 :: s120 :: s121 :: s122 :: s123 :: s124 :: s125 :: s126 :: s127 :: s128 :: s129 :: s130 :: s131 :: s132 :: s133 :: s134 :: s135 :: s136 :: s137 :: s138 :: s139 :: s140 :: s141 :: s142 :: s143 :: s144 :: s145 :: s146 :: s147 :: s148 :: s149 :: s150 :: s151 :: s152 :: s153 :: s154 :: s155 :: s156 :: s157 :: s158 :: s159 :: s160 :: s161 :: s162 :: s163 :: s164 :: s165 :: s166 :: s167 :: s168 :: s169 :: s170 :: s171 :: s172 :: s173 :: s174 :: s175 :: s176 :: s177 :: s178 :: s179 :: s180 :: s181 :: s182 :: s183 :: s184 :: s185 :: s186 :: s187 :: s188 :: s189 :: s190 :: s191 :: s192 :: s193 :: s194 :: s195 :: s196 :: s197 :: s198 :: s199 :: s200 :: s201 :: s202 :: s203 :: s204 :: s205 :: s206 :: s207 :: s208 :: s209 :: s210 :: s211 :: s212 :: s213 :: s214 :: s215 :: s216 :: s217 :: s218 :: s219 :: s220 :: s221 :: s222 :: s223 :: s224 :: s225 :: s226 :: s227 :: s228 :: s229 :: s230 :: s231 :: s232 :: s233 :: s234 :: s235 :: s236 :: s237 :: s238 :: s239 :: s240 :: s241 :: s242 :: s243 :: s244 :: r245 :: r246 :: r247 :: r248 :: r249 :: r250 :: r251 :: r252 :: r253 :: r254 :: r255 :: r256 :: r257 :: r258 :: r259 :: r260 :: r261 :: r262 :: r263 :: r264 :: r265 :: r266 :: r267 :: r268 :: r269 :: (.bool false) :: s271 :: s272 :: s273 :: s274 :: s275 :: s276 :: s277 :: s278 :: []), defers := [] } W') :
    Code.wp Tryz.prog (regOf Tryz.f6 23) (Exit.then K Q') { tmps := List.toArray (s0 :: s1 :: (.pointer (some ⟨w.heap.size, 0, none⟩)) :: (.pointer (some ⟨w.heap.size + 1, 0, none⟩)) :: s4 :: (.pointer (some ⟨gu, 0, none⟩)) :: s6 :: (.pointer (some ⟨gv, 0, none⟩)) :: s8 :: (.pointer (some ⟨gv + 1, 0, none⟩)) :: (.bool true) :: (.int .i64 (i : Int)) :: (.bool x) :: (.bool y) :: s14 :: s15 :: s16 :: s17 :: s18 :: s19 :: s20 :: s21 :: s22 :: s23 :: s24 :: s25 :: s26 :: s27 :: s28 :: s29 :: s30 :: s31 :: s32 :: s33 :: s34 :: s35 :: s36 :: s37 :: s38 :: s39 :: s40 :: s41 :: s42 :: s43 :: s44 :: s45 :: s46 :: s47 :: s48 :: s49 :: s50 :: s51 :: s52 :: s53 :: s54 :: s55 :: s56 :: s57 :: s58 :: s59 :: s60 :: s61 :: s62 :: s63 :: s64 :: s65 :: s66 :: s67 :: s68 :: s69 :: s70 :: s71 :: s72 :: s73 :: s74 :: s75 :: s76 :: s77 :: s78 :: s79 :: s80 :: s81 :: s82 :: s83 :: s84 :: s85 :: s86 :: s87 :: s88 :: s89 :: s90 :: s91 :: s92 :: s93 :: s94 :: s95 :: s96 :: s97 :: s98 :: s99 :: s100 :: s101 :: s102 :: s103 :: s104 :: s105 :: s106 :: s107 :: s108 :: s109 :: s110 :: s111 :: s112 :: s113 :: s114 :: s115 :: s116 :: s117 :: s118 :: s119 :: s120 :: s121 :: s122 :: s123 :: s124 :: s125 :: s126 :: s127 :: s128 :: s129 :: s130 :: s131 :: s132 :: s133 :: s134 :: s135 :: s136 :: s137 :: s138 :: s139 :: s140 :: s141 :: s142 :: s143 :: s144 :: s145 :: s146 :: s147 :: s148 :: s149 :: s150 :: s151 :: s152 :: s153 :: s154 :: s155 :: s156 :: s157 :: s158 :: s159 :: s160 :: s161 :: s162 :: s163 :: s164 :: s165 :: s166 :: s167 :: s168 :: s169 :: s170 :: s171 :: s172 :: s173 :: s174 :: s175 :: s176 :: s177 :: s178 :: s179 :: s180 :: s181 :: s182 :: s183 :: s184 :: s185 :: s186 :: s187 :: s188 :: s189 :: s190 :: s191 :: s192 :: s193 :: s194 :: s195 :: s196 :: s197 :: s198 :: s199 :: s200 :: s201 :: s202 :: s203 :: s204 :: s205 :: s206 :: s207 :: s208 :: s209 :: s210 :: s211 :: s212 :: s213 :: s214 :: s215 :: s216 :: s217 :: s218 :: s219 :: s220 :: s221 :: s222 :: s223 :: s224 :: s225 :: s226 :: s227 :: s228 :: s229 :: s230 :: s231 :: s232 :: s233 :: s234 :: s235 :: s236 :: s237 :: s238 :: s239 :: s240 :: s241 :: s242 :: s243 :: s244 :: s245 :: s246 :: s247 :: s248 :: s249 :: s250 :: s251 :: s252 :: s253 :: s254 :: s255 :: s256 :: s257 :: s258 :: s259 :: s260 :: s261 :: s262 :: s263 :: s264 :: s265 :: s266 :: s267 :: s268 :: s269 :: s270 :: s271 :: s272 :: s273 :: s274 :: s275 :: s276 :: s277 :: s278 :: []), defers := [] } W := by
  have FC := Lib.hid cx.fc
  have BOW := Lib.hid cx.bow
  have WU := Lib.hid cx.wu
  have WV := Lib.hid cx.wv
  have MO := Lib.hid cx.mo
  have WFF := Lib.hid cx.wff
  have WF2 := Lib.hid cx.wf2
  have WF1 := Lib.hid cx.wf1
  have HI := Lib.hid hB
  have HK0 := Lib.hid hK
  have HP := Lib.hid hP
  have HX := Lib.hid hx0
  have HY := Lib.hid hy0
  clear hx0 hy0
  have HN1 := Lib.hid hn1
  have hn : Hid ((i : Int) = 1 ∨ (i : Int) = 2) := Lib.hid (by omega)
  clear hn1
  clear cx hB hK hP
  conv => arg 2; whnf
  have e1 : ((i : Int) == 1) = false := by rw [HN1.out]; rfl
  have e2 : ((i : Int) == 2) = true := by rw [HN1.out]; rfl
  obtain ⟨u0, u1, u2, u3, u4, u5, ul, v0, v1, v2, v3, v4, v5, vl, a0, a1, a2, al, b0, b1, b2, bl, c0, c1, c2, cl⟩ := FC.out W HI.out
  go_wp2_with fail
  refine (of16_any 37 [u, v] W.heap.size 0 2 2 _ (row_new_at (w := W) [(u, Au, cau, Bu, cbu, Ku, cku), (v, Av, cav, Bv, cbv, Kv, ckv)] (fun x hx => by
    simp only [List.mem_cons, List.not_mem_nil, or_false] at hx
    rcases hx with rfl | rfl
    · exact (BOW.out W HI.out).1
    · exact (BOW.out W HI.out).2) rfl) rfl (by decide) (by decide)).mono ?_
  rintro e Pm2 ⟨hm2, cm2, rfl, hta, hb⟩
  have HBm2 := Lib.hid ((HI.out.alloc HI.out.size _).then_ hb)
  have HTm2 := Lib.hid hta
  clear hta hb u0 u1 u2 u3 u4 u5 ul v0 v1 v2 v3 v4 v5 vl a0 a1 a2 al b0 b1 b2 bl c0 c1 c2 cl
  have HTT := Lib.hid (total_any (tOf 37 [u, v]) none 0 none 0 (some ⟨hm2, 0, none⟩) cm2 (i : Int) Pm2 HTm2.out (WF2.out 37 ⟨by decide, by decide⟩))
  rw [total_of (MO.out.two 37 (by decide)) hn.out, tt_37, if_neg (by have := HN1.out; omega), HY.out] at HTT
  go_wp2_with fail
  refine HTT.out.mono ?_
  rintro e Pn2 ⟨rfl, hb⟩
  have HBn2 := Lib.hid (HBm2.out.then_ hb)
  clear hb HTT
  go_wp2_with fail
  exact HK0.out _ _ _ _ _ _ _ _ _ _ _ _ _ _ _ _ _ _ _ _ _ _ _ _ _ _ HBn2.out

end Go.Proofs.YtebiojmfieoncaaGreat
