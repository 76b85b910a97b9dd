/- TraitMade: regions 10, 11, 12, 18. No condition. -/
import Derived.Test.YtebiojmfieoncaaGreatTeG0
namespace Go.Proofs.YtebiojmfieoncaaGreat
open Go.RowKit


set_option maxRecDepth 100000 in
set_option maxHeartbeats 100000000 in
theorem made10 {u v : Tm} {Au : Option Addr} {cau : Nat} {Bu : Option Addr} {cbu : Nat} {Ku : Option Addr} {cku : Nat} {Av : Option Addr} {cav : Nat} {Bv : Option Addr} {cbv : Nat} {Kv : Option Addr} {ckv : Nat} {w W0 : World} {gu gv : Nat} (cx : MadeCx u v Au cau Bu cbu Ku cku Av cav Bv cbv Kv ckv w W0 gu gv)   {W : World} (hB : Below W0.heap.size W0 W) {K : Act → World → Prop} {Q' : Exit → Act → World → Prop} {s0 s1 s4 s6 s8 s10 s11 s12 s13 s14 s15 s16 s17 s18 s19 s20 s21 s22 s23 s24 s25 s26 s27 s28 s29 s30 s31 s32 s33 s34 s35 s36 s37 s38 s39 s40 s41 s42 s43 s44 s45 s46 s47 s48 s49 s50 s51 s52 s53 s54 s55 s56 s57 s58 s59 s60 s61 s62 s63 s64 s65 s66 s67 s68 s69 s70 s71 s72 s73 s74 s75 s76 s77 s78 s79 s80 s81 s82 s83 s84 s85 s86 s87 s88 s89 s90 s91 s92 s93 s94 s95 s96 s97 s98 s99 s100 s101 s102 s103 s104 s105 s106 s107 s108 s109 s110 s111 s112 s113 s114 s115 s116 s117 s118 s119 s120 s121 s122 s123 s124 s125 s126 s127 s128 s129 s130 s131 s132 s133 s134 s135 s136 s137 s138 s139 s140 s141 s142 s143 s144 s145 s146 s147 s148 s149 s150 s151 s152 s153 s154 s155 s156 s157 s158 s159 s160 s161 s162 s163 s164 s165 s166 s167 s168 s169 s170 s171 s172 s173 s174 s175 s176 s177 s178 s179 s180 s181 s182 s183 s184 s185 s186 s187 s188 s189 s190 s191 s192 s193 s194 s195 s196 s197 s198 s199 s200 s201 s202 s203 s204 s205 s206 s207 s208 s209 s210 s211 s212 s213 s214 s215 s216 s217 s218 s219 s220 s221 s222 s223 s224 s225 s226 s227 s228 s229 s230 s231 s232 s233 s234 s235 s236 s237 s238 s239 s240 s241 s242 s243 s244 s245 s246 s247 s248 s249 s250 s251 s252 s253 s254 s255 s256 s257 s258 s259 s260 s261 s262 s263 s264 s265 s266 s267 s268 s269 s270 s271 s272 s273 s274 s275 s276 s277 s278 : Value}
    (hP : ∀ c (a : Act) d v w, Q' (.panic c) (a.put (some d) v) w → Q' (.panic c) a w) (hK : ∀ (r59 r60 r61 r62 r63 r64 r65 r66 r67 r68 r69 r70 r71 r72 r73 r74 r75 r76 r77 r78 r79 r80 r81 r82 r83 r84 r85 r86 r87 r88 r89 r90 r91 r92 : Value) (W' : World), Below W0.heap.size W0 W' → K { tmps := List.toArray (s0 :: s1 :: (.pointer (some ⟨w.heap.size, 0, none⟩)) :: (.pointer (some ⟨w.heap.size + 1, 0, none⟩)) :: s4 :: (.pointer (some ⟨gu, 0, none⟩)) :: s6 :: (.pointer (some ⟨gv, 0, none⟩)) :: s8 :: (.pointer (some ⟨gv + 1, 0, none⟩)) :: (.bool true) :: s11 :: s12 :: s13 :: s14 :: s15 :: s16 :: s17 :: s18 :: s19 :: s20 :: s21 :: s22 :: s23 :: s24 :: s25 :: s26 :: s27 :: s28 :: s29 :: s30 :: s31 :: s32 :: s33 :: s34 :: s35 :: s36 :: s37 :: s38 :: s39 :: s40 :: s41 :: s42 :: s43 :: s44 :: s45 :: s46 :: s47 :: s48 :: s49 :: s50 :: s51 :: s52 :: s53 :: s54 :: s55 :: s56 :: s57 :: s58 :: r59 :: r60 :: r61 :: r62 :: r63 :: r64 :: r65 :: r66 :: r67 :: r68 :: r69 :: r70 :: r71 :: r72 :: r73 :: r74 :: r75 :: r76 :: r77 :: r78 :: r79 :: r80 :: r81 :: r82 :: r83 :: r84 :: r85 :: r86 :: r87 :: r88 :: r89 :: r90 :: r91 :: r92 :: s93 :: s94 :: s95 :: s96 :: s97 :: s98 :: s99 :: s100 :: s101 :: s102 :: s103 :: s104 :: s105 :: s106 :: s107 :: s108 :: s109 :: s110 :: s111 :: s112 :: s113 :: s114 :: s115 :: s116 :: s117 :: s118 :: s119 :: s120 :: s121 :: s122 :: s123 :: s124 :: s125 :: s126 :: s127 :: s128 :: s129 :: s130 :: s131 :: s132 :: s133 :: s134 :: s135 :: s136 :: s137 :: s138 :: s139 :: s140 :: s141 :: s142 :: s143 :: s144 :: s145 :: s146 :: s147 :: s148 :: s149 :: s150 :: s151 :: s152 :: s153 :: s154 :: s155 :: s156 :: s157 :: s158 :: s159 :: s160 :: s161 :: s162 :: s163 :: s164 :: s165 :: s166 :: s167 :: s168 :: s169 :: s170 :: s171 :: s172 :: s173 :: s174 :: s175 :: s176 :: s177 :: s178 :: s179 :: s180 :: s181 :: s182 :: s183 :: s184 :: s185 :: s186 :: s187 :: s188 :: s189 :: s190 :: s191 :: s192 :: s193 :: s194 :: s195 :: s196 :: s197 :: s198 :: s199 :: s200 :: s201 :: s202 :: s203 :: s204 :: s205 :: s206 :: s207 :: s208 :: s209 :: s210 :: s211 :: s212 :: s213 :: s214 :: s215 :: s216 :: s217 :: s218 :: s219 :: s220 :: s221 :: s222 :: s223 :: s224 :: s225 :: s226 :: s227 :: s228 :: s229 :: s230 :: s231 :: s232 :: s233 :: s234 :: s235 :: s236 :: s237 :: s238 :: s239 :: s240 :: s241 :: s242 :: s243 :: s244 :: s245 :: s246 :: s247 :: s248 :: s249 :: s250 :: s251 :: s252 :: s253 :: s254 :: s255 :: s256 :: s257 :: s258 :: s259 :: s260 :: s261 :: s262 :: s263 :: s264 :: s265 :: s266 :: s267 :: s268 :: s269 :: s270 :: s271 :: s272 :: s273 :: s274 :: s275 :: s276 :: s277 :: s278 :: []), defers := [] } W') :
    Code.wp Tryz.prog (regOf Tryz.f6 10) (Exit.then K Q') { tmps := List.toArray (s0 :: s1 :: (.pointer (some ⟨w.heap.size, 0, none⟩)) :: (.pointer (some ⟨w.heap.size + 1, 0, none⟩)) :: s4 :: (.pointer (some ⟨gu, 0, none⟩)) :: s6 :: (.pointer (some ⟨gv, 0, none⟩)) :: s8 :: (.pointer (some ⟨gv + 1, 0, none⟩)) :: s10 :: s11 :: s12 :: s13 :: s14 :: s15 :: s16 :: s17 :: s18 :: s19 :: s20 :: s21 :: s22 :: s23 :: s24 :: s25 :: s26 :: s27 :: s28 :: s29 :: s30 :: s31 :: s32 :: s33 :: s34 :: s35 :: s36 :: s37 :: s38 :: s39 :: s40 :: s41 :: s42 :: s43 :: s44 :: s45 :: s46 :: s47 :: s48 :: s49 :: s50 :: s51 :: s52 :: s53 :: s54 :: s55 :: s56 :: s57 :: s58 :: s59 :: s60 :: s61 :: s62 :: s63 :: s64 :: s65 :: s66 :: s67 :: s68 :: s69 :: s70 :: s71 :: s72 :: s73 :: s74 :: s75 :: s76 :: s77 :: s78 :: s79 :: s80 :: s81 :: s82 :: s83 :: s84 :: s85 :: s86 :: s87 :: s88 :: s89 :: s90 :: s91 :: s92 :: s93 :: s94 :: s95 :: s96 :: s97 :: s98 :: s99 :: s100 :: s101 :: s102 :: s103 :: s104 :: s105 :: s106 :: s107 :: s108 :: s109 :: s110 :: s111 :: s112 :: s113 :: s114 :: s115 :: s116 :: s117 :: s118 :: s119 :: s120 :: s121 :: s122 :: s123 :: s124 :: s125 :: s126 :: s127 :: s128 :: s129 :: s130 :: s131 :: s132 :: s133 :: s134 :: s135 :: s136 :: s137 :: s138 :: s139 :: s140 :: s141 :: s142 :: s143 :: s144 :: s145 :: s146 :: s147 :: s148 :: s149 :: s150 :: s151 :: s152 :: s153 :: s154 :: s155 :: s156 :: s157 :: s158 :: s159 :: s160 :: s161 :: s162 :: s163 :: s164 :: s165 :: s166 :: s167 :: s168 :: s169 :: s170 :: s171 :: s172 :: s173 :: s174 :: s175 :: s176 :: s177 :: s178 :: s179 :: s180 :: s181 :: s182 :: s183 :: s184 :: s185 :: s186 :: s187 :: s188 :: s189 :: s190 :: s191 :: s192 :: s193 :: s194 :: s195 :: s196 :: s197 :: s198 :: s199 :: s200 :: s201 :: s202 :: s203 :: s204 :: s205 :: s206 :: s207 :: s208 :: s209 :: s210 :: s211 :: s212 :: s213 :: s214 :: s215 :: s216 :: s217 :: s218 :: s219 :: s220 :: s221 :: s222 :: s223 :: s224 :: s225 :: s226 :: s227 :: s228 :: s229 :: s230 :: s231 :: s232 :: s233 :: s234 :: s235 :: s236 :: s237 :: s238 :: s239 :: s240 :: s241 :: s242 :: s243 :: s244 :: s245 :: s246 :: s247 :: s248 :: s249 :: s250 :: s251 :: s252 :: s253 :: s254 :: s255 :: s256 :: s257 :: s258 :: s259 :: s260 :: s261 :: s262 :: s263 :: s264 :: s265 :: s266 :: s267 :: s268 :: s269 :: s270 :: s271 :: s272 :: s273 :: s274 :: s275 :: s276 :: s277 :: s278 :: []), defers := [] } W := by
  have FC := Lib.hid cx.fc
  have BOW := Lib.hid cx.bow
  have WU := Lib.hid cx.wu
  have WV := Lib.hid cx.wv
  have MO := Lib.hid cx.mo
  have WFF := Lib.hid cx.wff
  have WF2 := Lib.hid cx.wf2
  have WF1 := Lib.hid cx.wf1
  have HI := Lib.hid hB
  have HK0 := Lib.hid hK
  have HP := Lib.hid hP
  clear cx hB hK hP
  conv => arg 2; whnf
  refine wp_region_held_drew (S := (fun W => Below W0.heap.size W0 W)) (by kernel_rfl) HI.out.drew (fun hHeld => ?_)
  obtain ⟨Xa, hX⟩ : ∃ X, X = W.drew := ⟨_, rfl⟩
  have HXa : Hid (Below W0.heap.size W0 Xa) := Lib.hid (by rw [hX]; exact HI.out.drew)
  rw [← hX] at hHeld ⊢
  clear hX
  refine take_still (i := 0) (d := some 59) (v := .agg #[.int .i64 u.kind, .string u.text, .int .i64 u.n, .slice Au u.sh.length cau, .slice Bu u.at_.length cbu, .slice Ku u.kids.length cku]) rfl rfl (by kernel_rfl) (by kernel_rfl) (by kernel_rfl) (fun _ _ _ h => HP.out _ _ _ _ _ h) (Or.inl ⟨by rfl, ?_⟩) hHeld ?_
  · intro W hSw; obtain ⟨u0, u1, u2, u3, u4, u5, ul, v0, v1, v2, v3, v4, v5, vl, a0, a1, a2, al, b0, b1, b2, bl, c0, c1, c2, cl⟩ := FC.out W hSw; go_simp; try with_reducible rfl
  try simp only [Act.put, List.setIfInBounds_toArray, List.set_cons_zero, List.set_cons_succ]
  refine take_still (i := 1) (d := some 60) (v := .agg #[.int .i64 v.kind, .string v.text, .int .i64 v.n, .slice Av v.sh.length cav, .slice Bv v.at_.length cbv, .slice Kv v.kids.length ckv]) rfl rfl (by kernel_rfl) (by kernel_rfl) (by kernel_rfl) (fun _ _ _ h => HP.out _ _ _ _ _ h) (Or.inl ⟨by rfl, ?_⟩) hHeld ?_
  · intro W hSw; obtain ⟨u0, u1, u2, u3, u4, u5, ul, v0, v1, v2, v3, v4, v5, vl, a0, a1, a2, al, b0, b1, b2, bl, c0, c1, c2, cl⟩ := FC.out W hSw; go_simp; try with_reducible rfl
  try simp only [Act.put, List.setIfInBounds_toArray, List.set_cons_zero, List.set_cons_succ]
  refine take_still (i := 4) (d := some 63) (v := .agg #[.int .i64 (rkT v).a, .int .i64 (rkT v).b, .int .i64 (rkT v).c]) rfl rfl (by kernel_rfl) (by kernel_rfl) (by kernel_rfl) (fun _ _ _ h => HP.out _ _ _ _ _ h) (Or.inl ⟨by rfl, ?_⟩) hHeld ?_
  · intro W hSw; obtain ⟨u0, u1, u2, u3, u4, u5, ul, v0, v1, v2, v3, v4, v5, vl, a0, a1, a2, al, b0, b1, b2, bl, c0, c1, c2, cl⟩ := FC.out W hSw; go_simp; try with_reducible rfl
  try simp only [Act.put, List.setIfInBounds_toArray, List.set_cons_zero, List.set_cons_succ]
  refine wpAnyH_ready (rs := [2]) (by kernel_rfl) (by simp) ?_
  refine AllReadyH.cons rfl (fun K hK => ?_) AllReadyH.nil
  go_simp
  obtain ⟨Va1, hV⟩ : ∃ V, V = Xa.alloc (.cells #[.int .i64 u.kind, .string u.text, .int .i64 u.n, .slice Au u.sh.length cau, .slice Bu u.at_.length cbu, .slice Ku u.kids.length cku, .int .i64 v.kind, .string v.text, .int .i64 v.n, .slice Av v.sh.length cav, .slice Bv v.at_.length cbv, .slice Kv v.kids.length ckv] TTm) := ⟨_, rfl⟩
  obtain ⟨ga1, hg⟩ : ∃ g, g = Xa.heap.size := ⟨_, rfl⟩
  have hKV : KidsAt Va1 (some ⟨ga1, 0, none⟩) [u, v] 0 := by
    rw [hV, hg]
    refine row_new_at (w := Xa) [(u, Au, cau, Bu, cbu, Ku, cku), (v, Av, cav, Bv, cbv, Kv, ckv)] (fun x hx => by
      simp only [List.mem_cons, List.not_mem_nil, or_false] at hx
      rcases hx with rfl | rfl
      · exact (BOW.out Xa HXa.out).1
      · exact (BOW.out Xa HXa.out).2) rfl
  have hbV : Below Xa.heap.size Xa Va1 := by rw [hV]; exact (Below.refl _ _).alloc (Nat.le_refl _) _
  have HBa1 := Lib.hid (HXa.out.then_ hbV)
  have HKa1 := Lib.hid hKV
  rw [← hV, ← hg]
  clear hV hg hKV hbV
  refine hK.out _ _ HBa1.out (fun hHeld => ?_)
  clear hK K
  refine wpAnyH_ready (rs := [3]) (by kernel_rfl) (by simp) ?_
  refine AllReadyH.cons rfl (fun K hK => ?_) AllReadyH.nil
  go_simp
  go_at_call 32
  refine (of16_any 28 [u, v] ga1 0 2 2 Va1 HKa1.out rfl (by decide) (by decide)).mono ?_
  rintro e Pa2 ⟨ha2, ca2, rfl, hta, hb⟩
  have HBa2 := Lib.hid (HBa1.out.then_ hb)
  have HTa2 := Lib.hid hta
  clear hta hb
  refine hK.out _ _ HBa2.out (fun hHeld => ?_)
  clear hK K
  refine wpAnyH_ready (rs := [5]) (by kernel_rfl) (by simp) ?_
  refine AllReadyH.cons rfl (fun K hK => ?_) AllReadyH.nil
  go_simp
  go_at_call 33
  refine (ranks16_any (tOf 28 [u, v]) none 0 none 0 (some ⟨ha2, 0, none⟩) ca2 ⟨(rkT v).a, (rkT v).b, (rkT v).c⟩ Pa2 HTa2.out (WF2.out 28 ⟨by decide, by decide⟩) (by rw [ranks_of (MO.out.two 28 (by decide))]) (by rw [ranks_of (MO.out.two 28 (by decide)), rkm_28]; try rfl)).mono ?_
  rintro e Pa3 ⟨rfl, hb⟩
  have HBa3 := Lib.hid (HBa2.out.then_ hb)
  clear hb
  refine hK.out _ _ HBa3.out (fun hHeld => ?_)
  clear hK K
  refine take_still (i := 6) (d := some 65) (v := .bool true) rfl rfl (by kernel_rfl) (by kernel_rfl) (by kernel_rfl) (fun _ _ _ h => HP.out _ _ _ _ _ h) (Or.inl ⟨by rfl, ?_⟩) hHeld ?_
  · intro W hSw; go_simp; try with_reducible rfl
  try simp only [Act.put, List.setIfInBounds_toArray, List.set_cons_zero, List.set_cons_succ]
  refine take_still (i := 7) (d := some 66) (v := .agg #[.int .i64 u.kind, .string u.text, .int .i64 u.n, .slice Au u.sh.length cau, .slice Bu u.at_.length cbu, .slice Ku u.kids.length cku]) rfl rfl (by kernel_rfl) (by kernel_rfl) (by kernel_rfl) (fun _ _ _ h => HP.out _ _ _ _ _ h) (Or.inl ⟨by rfl, ?_⟩) hHeld ?_
  · intro W hSw; obtain ⟨u0, u1, u2, u3, u4, u5, ul, v0, v1, v2, v3, v4, v5, vl, a0, a1, a2, al, b0, b1, b2, bl, c0, c1, c2, cl⟩ := FC.out W hSw; go_simp; try with_reducible rfl
  try simp only [Act.put, List.setIfInBounds_toArray, List.set_cons_zero, List.set_cons_succ]
  refine take_still (i := 8) (d := some 67) (v := .agg #[.int .i64 v.kind, .string v.text, .int .i64 v.n, .slice Av v.sh.length cav, .slice Bv v.at_.length cbv, .slice Kv v.kids.length ckv]) rfl rfl (by kernel_rfl) (by kernel_rfl) (by kernel_rfl) (fun _ _ _ h => HP.out _ _ _ _ _ h) (Or.inl ⟨by rfl, ?_⟩) hHeld ?_
  · intro W hSw; obtain ⟨u0, u1, u2, u3, u4, u5, ul, v0, v1, v2, v3, v4, v5, vl, a0, a1, a2, al, b0, b1, b2, bl, c0, c1, c2, cl⟩ := FC.out W hSw; go_simp; try with_reducible rfl
  try simp only [Act.put, List.setIfInBounds_toArray, List.set_cons_zero, List.set_cons_succ]
  refine take_still (i := 11) (d := some 70) (v := .pointer (some ⟨gv, 0, none⟩)) rfl rfl (by kernel_rfl) (by kernel_rfl) (by kernel_rfl) (fun _ _ _ h => HP.out _ _ _ _ _ h) (Or.inl ⟨by rfl, ?_⟩) hHeld ?_
  · intro W hSw; go_simp; try with_reducible rfl
  try simp only [Act.put, List.setIfInBounds_toArray, List.set_cons_zero, List.set_cons_succ]
  refine take_still (i := 12) (d := some 71) (v := .int .i64 (rkT v).a) rfl rfl (by kernel_rfl) (by kernel_rfl) (by kernel_rfl) (fun _ _ _ h => HP.out _ _ _ _ _ h) (Or.inl ⟨by rfl, ?_⟩) hHeld ?_
  · intro W hSw; obtain ⟨u0, u1, u2, u3, u4, u5, ul, v0, v1, v2, v3, v4, v5, vl, a0, a1, a2, al, b0, b1, b2, bl, c0, c1, c2, cl⟩ := FC.out W hSw; go_simp; try with_reducible rfl
  try simp only [Act.put, List.setIfInBounds_toArray, List.set_cons_zero, List.set_cons_succ]
  refine take_still (i := 13) (d := some 72) (v := .pointer (some ⟨gv, 0, none⟩)) rfl rfl (by kernel_rfl) (by kernel_rfl) (by kernel_rfl) (fun _ _ _ h => HP.out _ _ _ _ _ h) (Or.inl ⟨by rfl, ?_⟩) hHeld ?_
  · intro W hSw; go_simp; try with_reducible rfl
  try simp only [Act.put, List.setIfInBounds_toArray, List.set_cons_zero, List.set_cons_succ]
  refine take_still (i := 14) (d := some 73) (v := .int .i64 (rkT v).a) rfl rfl (by kernel_rfl) (by kernel_rfl) (by kernel_rfl) (fun _ _ _ h => HP.out _ _ _ _ _ h) (Or.inl ⟨by rfl, ?_⟩) hHeld ?_
  · intro W hSw; obtain ⟨u0, u1, u2, u3, u4, u5, ul, v0, v1, v2, v3, v4, v5, vl, a0, a1, a2, al, b0, b1, b2, bl, c0, c1, c2, cl⟩ := FC.out W hSw; go_simp; try with_reducible rfl
  try simp only [Act.put, List.setIfInBounds_toArray, List.set_cons_zero, List.set_cons_succ]
  refine take_still (i := 15) (d := some 74) (v := .pointer (some ⟨gv, 0, none⟩)) rfl rfl (by kernel_rfl) (by kernel_rfl) (by kernel_rfl) (fun _ _ _ h => HP.out _ _ _ _ _ h) (Or.inl ⟨by rfl, ?_⟩) hHeld ?_
  · intro W hSw; go_simp; try with_reducible rfl
  try simp only [Act.put, List.setIfInBounds_toArray, List.set_cons_zero, List.set_cons_succ]
  refine take_still (i := 16) (d := some 75) (v := .int .i64 (rkT v).a) rfl rfl (by kernel_rfl) (by kernel_rfl) (by kernel_rfl) (fun _ _ _ h => HP.out _ _ _ _ _ h) (Or.inl ⟨by rfl, ?_⟩) hHeld ?_
  · intro W hSw; obtain ⟨u0, u1, u2, u3, u4, u5, ul, v0, v1, v2, v3, v4, v5, vl, a0, a1, a2, al, b0, b1, b2, bl, c0, c1, c2, cl⟩ := FC.out W hSw; go_simp; try with_reducible rfl
  try simp only [Act.put, List.setIfInBounds_toArray, List.set_cons_zero, List.set_cons_succ]
  refine take_still (i := 17) (d := some 76) (v := .agg #[.int .i64 (rkT v).a, .int .i64 (rkT v).a, .int .i64 (rkT v).a]) rfl rfl (by kernel_rfl) (by kernel_rfl) (by kernel_rfl) (fun _ _ _ h => HP.out _ _ _ _ _ h) (Or.inl ⟨by rfl, ?_⟩) hHeld ?_
  · intro W hSw; go_simp; try with_reducible rfl
  try simp only [Act.put, List.setIfInBounds_toArray, List.set_cons_zero, List.set_cons_succ]
  refine wpAnyH_ready (rs := [9]) (by kernel_rfl) (by simp) ?_
  refine AllReadyH.cons rfl (fun K hK => ?_) AllReadyH.nil
  go_simp
  obtain ⟨Va4, hV⟩ : ∃ V, V = Pa3.alloc (.cells #[.int .i64 u.kind, .string u.text, .int .i64 u.n, .slice Au u.sh.length cau, .slice Bu u.at_.length cbu, .slice Ku u.kids.length cku, .int .i64 v.kind, .string v.text, .int .i64 v.n, .slice Av v.sh.length cav, .slice Bv v.at_.length cbv, .slice Kv v.kids.length ckv] TTm) := ⟨_, rfl⟩
  obtain ⟨ga4, hg⟩ : ∃ g, g = Pa3.heap.size := ⟨_, rfl⟩
  have hKV : KidsAt Va4 (some ⟨ga4, 0, none⟩) [u, v] 0 := by
    rw [hV, hg]
    refine row_new_at (w := Pa3) [(u, Au, cau, Bu, cbu, Ku, cku), (v, Av, cav, Bv, cbv, Kv, ckv)] (fun x hx => by
      simp only [List.mem_cons, List.not_mem_nil, or_false] at hx
      rcases hx with rfl | rfl
      · exact (BOW.out Pa3 HBa3.out).1
      · exact (BOW.out Pa3 HBa3.out).2) rfl
  have hbV : Below Pa3.heap.size Pa3 Va4 := by rw [hV]; exact (Below.refl _ _).alloc (Nat.le_refl _) _
  have HBa4 := Lib.hid (HBa3.out.then_ hbV)
  have HKa4 := Lib.hid hKV
  rw [← hV, ← hg]
  clear hV hg hKV hbV
  refine hK.out _ _ HBa4.out (fun hHeld => ?_)
  clear hK K
  refine wpAnyH_ready (rs := [10]) (by kernel_rfl) (by simp) ?_
  refine AllReadyH.cons rfl (fun K hK => ?_) AllReadyH.nil
  go_simp
  go_at_call 32
  refine (of16_any 30 [u, v] ga4 0 2 2 Va4 HKa4.out rfl (by decide) (by decide)).mono ?_
  rintro e Pa5 ⟨ha5, ca5, rfl, hta, hb⟩
  have HBa5 := Lib.hid (HBa4.out.then_ hb)
  have HTa5 := Lib.hid hta
  clear hta hb
  refine hK.out _ _ HBa5.out (fun hHeld => ?_)
  clear hK K
  refine wpAnyH_ready (rs := [18]) (by kernel_rfl) (by simp) ?_
  refine AllReadyH.cons rfl (fun K hK => ?_) AllReadyH.nil
  go_simp
  go_at_call 33
  refine (ranks16_any (tOf 30 [u, v]) none 0 none 0 (some ⟨ha5, 0, none⟩) ca5 ⟨(rkT v).a, (rkT v).a, (rkT v).a⟩ Pa5 HTa5.out (WF2.out 30 ⟨by decide, by decide⟩) (by rw [ranks_of (MO.out.two 30 (by decide))]) (by rw [ranks_of (MO.out.two 30 (by decide)), rkm_30]; try rfl)).mono ?_
  rintro e Pa6 ⟨rfl, hb⟩
  have HBa6 := Lib.hid (HBa5.out.then_ hb)
  clear hb
  refine hK.out _ _ HBa6.out (fun hHeld => ?_)
  clear hK K
  refine take_still (i := 19) (d := some 78) (v := .bool true) rfl rfl (by kernel_rfl) (by kernel_rfl) (by kernel_rfl) (fun _ _ _ h => HP.out _ _ _ _ _ h) (Or.inl ⟨by rfl, ?_⟩) hHeld ?_
  · intro W hSw; go_simp; try with_reducible rfl
  try simp only [Act.put, List.setIfInBounds_toArray, List.set_cons_zero, List.set_cons_succ]
  refine take_still (i := 20) (d := some 79) (v := .bool true) rfl rfl (by kernel_rfl) (by kernel_rfl) (by kernel_rfl) (fun _ _ _ h => HP.out _ _ _ _ _ h) (Or.inl ⟨by rfl, ?_⟩) hHeld ?_
  · intro W hSw; go_simp; try with_reducible rfl
  try simp only [Act.put, List.setIfInBounds_toArray, List.set_cons_zero, List.set_cons_succ]
  refine take_still (i := 21) (d := some 80) (v := .agg #[.int .i64 u.kind, .string u.text, .int .i64 u.n, .slice Au u.sh.length cau, .slice Bu u.at_.length cbu, .slice Ku u.kids.length cku]) rfl rfl (by kernel_rfl) (by kernel_rfl) (by kernel_rfl) (fun _ _ _ h => HP.out _ _ _ _ _ h) (Or.inl ⟨by rfl, ?_⟩) hHeld ?_
  · intro W hSw; obtain ⟨u0, u1, u2, u3, u4, u5, ul, v0, v1, v2, v3, v4, v5, vl, a0, a1, a2, al, b0, b1, b2, bl, c0, c1, c2, cl⟩ := FC.out W hSw; go_simp; try with_reducible rfl
  try simp only [Act.put, List.setIfInBounds_toArray, List.set_cons_zero, List.set_cons_succ]
  refine take_still (i := 22) (d := some 81) (v := .agg #[.int .i64 v.kind, .string v.text, .int .i64 v.n, .slice Av v.sh.length cav, .slice Bv v.at_.length cbv, .slice Kv v.kids.length ckv]) rfl rfl (by kernel_rfl) (by kernel_rfl) (by kernel_rfl) (fun _ _ _ h => HP.out _ _ _ _ _ h) (Or.inl ⟨by rfl, ?_⟩) hHeld ?_
  · intro W hSw; obtain ⟨u0, u1, u2, u3, u4, u5, ul, v0, v1, v2, v3, v4, v5, vl, a0, a1, a2, al, b0, b1, b2, bl, c0, c1, c2, cl⟩ := FC.out W hSw; go_simp; try with_reducible rfl
  try simp only [Act.put, List.setIfInBounds_toArray, List.set_cons_zero, List.set_cons_succ]
  refine take_still (i := 25) (d := some 84) (v := .pointer (some ⟨gv, 0, none⟩)) rfl rfl (by kernel_rfl) (by kernel_rfl) (by kernel_rfl) (fun _ _ _ h => HP.out _ _ _ _ _ h) (Or.inl ⟨by rfl, ?_⟩) hHeld ?_
  · intro W hSw; go_simp; try with_reducible rfl
  try simp only [Act.put, List.setIfInBounds_toArray, List.set_cons_zero, List.set_cons_succ]
  refine take_still (i := 26) (d := some 85) (v := .int .i64 (rkT v).a) rfl rfl (by kernel_rfl) (by kernel_rfl) (by kernel_rfl) (fun _ _ _ h => HP.out _ _ _ _ _ h) (Or.inl ⟨by rfl, ?_⟩) hHeld ?_
  · intro W hSw; obtain ⟨u0, u1, u2, u3, u4, u5, ul, v0, v1, v2, v3, v4, v5, vl, a0, a1, a2, al, b0, b1, b2, bl, c0, c1, c2, cl⟩ := FC.out W hSw; go_simp; try with_reducible rfl
  try simp only [Act.put, List.setIfInBounds_toArray, List.set_cons_zero, List.set_cons_succ]
  refine take_still (i := 27) (d := some 86) (v := .pointer (some ⟨gv, 0, none⟩)) rfl rfl (by kernel_rfl) (by kernel_rfl) (by kernel_rfl) (fun _ _ _ h => HP.out _ _ _ _ _ h) (Or.inl ⟨by rfl, ?_⟩) hHeld ?_
  · intro W hSw; go_simp; try with_reducible rfl
  try simp only [Act.put, List.setIfInBounds_toArray, List.set_cons_zero, List.set_cons_succ]
  refine take_still (i := 28) (d := some 87) (v := .int .i64 (rkT v).a) rfl rfl (by kernel_rfl) (by kernel_rfl) (by kernel_rfl) (fun _ _ _ h => HP.out _ _ _ _ _ h) (Or.inl ⟨by rfl, ?_⟩) hHeld ?_
  · intro W hSw; obtain ⟨u0, u1, u2, u3, u4, u5, ul, v0, v1, v2, v3, v4, v5, vl, a0, a1, a2, al, b0, b1, b2, bl, c0, c1, c2, cl⟩ := FC.out W hSw; go_simp; try with_reducible rfl
  try simp only [Act.put, List.setIfInBounds_toArray, List.set_cons_zero, List.set_cons_succ]
  refine take_still (i := 29) (d := some 88) (v := .pointer (some ⟨gv, 0, none⟩)) rfl rfl (by kernel_rfl) (by kernel_rfl) (by kernel_rfl) (fun _ _ _ h => HP.out _ _ _ _ _ h) (Or.inl ⟨by rfl, ?_⟩) hHeld ?_
  · intro W hSw; go_simp; try with_reducible rfl
  try simp only [Act.put, List.setIfInBounds_toArray, List.set_cons_zero, List.set_cons_succ]
  refine take_still (i := 30) (d := some 89) (v := .int .i64 (rkT v).a) rfl rfl (by kernel_rfl) (by kernel_rfl) (by kernel_rfl) (fun _ _ _ h => HP.out _ _ _ _ _ h) (Or.inl ⟨by rfl, ?_⟩) hHeld ?_
  · intro W hSw; obtain ⟨u0, u1, u2, u3, u4, u5, ul, v0, v1, v2, v3, v4, v5, vl, a0, a1, a2, al, b0, b1, b2, bl, c0, c1, c2, cl⟩ := FC.out W hSw; go_simp; try with_reducible rfl
  try simp only [Act.put, List.setIfInBounds_toArray, List.set_cons_zero, List.set_cons_succ]
  refine take_still (i := 31) (d := some 90) (v := .agg #[.int .i64 (rkT v).a, .int .i64 (rkT v).a, .int .i64 (rkT v).a]) rfl rfl (by kernel_rfl) (by kernel_rfl) (by kernel_rfl) (fun _ _ _ h => HP.out _ _ _ _ _ h) (Or.inl ⟨by rfl, ?_⟩) hHeld ?_
  · intro W hSw; go_simp; try with_reducible rfl
  try simp only [Act.put, List.setIfInBounds_toArray, List.set_cons_zero, List.set_cons_succ]
  refine wpAnyH_ready (rs := [23]) (by kernel_rfl) (by simp) ?_
  refine AllReadyH.cons rfl (fun K hK => ?_) AllReadyH.nil
  go_simp
  obtain ⟨Va7, hV⟩ : ∃ V, V = Pa6.alloc (.cells #[.int .i64 u.kind, .string u.text, .int .i64 u.n, .slice Au u.sh.length cau, .slice Bu u.at_.length cbu, .slice Ku u.kids.length cku, .int .i64 v.kind, .string v.text, .int .i64 v.n, .slice Av v.sh.length cav, .slice Bv v.at_.length cbv, .slice Kv v.kids.length ckv] TTm) := ⟨_, rfl⟩
  obtain ⟨ga7, hg⟩ : ∃ g, g = Pa6.heap.size := ⟨_, rfl⟩
  have hKV : KidsAt Va7 (some ⟨ga7, 0, none⟩) [u, v] 0 := by
    rw [hV, hg]
    refine row_new_at (w := Pa6) [(u, Au, cau, Bu, cbu, Ku, cku), (v, Av, cav, Bv, cbv, Kv, ckv)] (fun x hx => by
      simp only [List.mem_cons, List.not_mem_nil, or_false] at hx
      rcases hx with rfl | rfl
      · exact (BOW.out Pa6 HBa6.out).1
      · exact (BOW.out Pa6 HBa6.out).2) rfl
  have hbV : Below Pa6.heap.size Pa6 Va7 := by rw [hV]; exact (Below.refl _ _).alloc (Nat.le_refl _) _
  have HBa7 := Lib.hid (HBa6.out.then_ hbV)
  have HKa7 := Lib.hid hKV
  rw [← hV, ← hg]
  clear hV hg hKV hbV
  refine hK.out _ _ HBa7.out (fun hHeld => ?_)
  clear hK K
  refine wpAnyH_ready (rs := [24]) (by kernel_rfl) (by simp) ?_
  refine AllReadyH.cons rfl (fun K hK => ?_) AllReadyH.nil
  go_simp
  go_at_call 32
  refine (of16_any 32 [u, v] ga7 0 2 2 Va7 HKa7.out rfl (by decide) (by decide)).mono ?_
  rintro e Pa8 ⟨ha8, ca8, rfl, hta, hb⟩
  have HBa8 := Lib.hid (HBa7.out.then_ hb)
  have HTa8 := Lib.hid hta
  clear hta hb
  refine hK.out _ _ HBa8.out (fun hHeld => ?_)
  clear hK K
  refine wpAnyH_ready (rs := [32]) (by kernel_rfl) (by simp) ?_
  refine AllReadyH.cons rfl (fun K hK => ?_) AllReadyH.nil
  go_simp
  go_at_call 33
  refine (ranks16_any (tOf 32 [u, v]) none 0 none 0 (some ⟨ha8, 0, none⟩) ca8 ⟨(rkT v).a, (rkT v).a, (rkT v).a⟩ Pa8 HTa8.out (WF2.out 32 ⟨by decide, by decide⟩) (by rw [ranks_of (MO.out.two 32 (by decide))]) (by rw [ranks_of (MO.out.two 32 (by decide)), rkm_32]; try rfl)).mono ?_
  rintro e Pa9 ⟨rfl, hb⟩
  have HBa9 := Lib.hid (HBa8.out.then_ hb)
  clear hb
  refine hK.out _ _ HBa9.out (fun hHeld => ?_)
  clear hK K
  refine take_still (i := 33) (d := some 92) (v := .bool true) rfl rfl (by kernel_rfl) (by kernel_rfl) (by kernel_rfl) (fun _ _ _ h => HP.out _ _ _ _ _ h) (Or.inl ⟨by rfl, ?_⟩) hHeld ?_
  · intro W hSw; go_simp; try with_reducible rfl
  try simp only [Act.put, List.setIfInBounds_toArray, List.set_cons_zero, List.set_cons_succ]
  refine take_still (i := 34) (d := some 10) (v := .bool true) rfl rfl (by kernel_rfl) (by kernel_rfl) (by kernel_rfl) (fun _ _ _ h => HP.out _ _ _ _ _ h) (Or.inl ⟨by rfl, ?_⟩) hHeld ?_
  · intro W hSw; go_simp; try with_reducible rfl
  try simp only [Act.put, List.setIfInBounds_toArray, List.set_cons_zero, List.set_cons_succ]
  refine wpAnyH_done (by kernel_rfl) ?_ _
  change K _ _
  exact HK0.out _ _ _ _ _ _ _ _ _ _ _ _ _ _ _ _ _ _ _ _ _ _ _ _ _ _ _ _ _ _ _ _ _ _ _ HBa9.out

set_option maxRecDepth 100000 in
set_option maxHeartbeats 100000000 in
theorem made11 {u v : Tm} {Au : Option Addr} {cau : Nat} {Bu : Option Addr} {cbu : Nat} {Ku : Option Addr} {cku : Nat} {Av : Option Addr} {cav : Nat} {Bv : Option Addr} {cbv : Nat} {Kv : Option Addr} {ckv : Nat} {w W0 : World} {gu gv : Nat} (cx : MadeCx u v Au cau Bu cbu Ku cku Av cav Bv cbv Kv ckv w W0 gu gv)   {W : World} (hB : Below W0.heap.size W0 W) {K : Act → World → Prop} {Q' : Exit → Act → World → Prop} {s0 s1 s4 s6 s8 s11 s12 s13 s14 s15 s16 s17 s18 s19 s20 s21 s22 s23 s24 s25 s26 s27 s28 s29 s30 s31 s32 s33 s34 s35 s36 s37 s38 s39 s40 s41 s42 s43 s44 s45 s46 s47 s48 s49 s50 s51 s52 s53 s54 s55 s56 s57 s58 s59 s60 s61 s62 s63 s64 s65 s66 s67 s68 s69 s70 s71 s72 s73 s74 s75 s76 s77 s78 s79 s80 s81 s82 s83 s84 s85 s86 s87 s88 s89 s90 s91 s92 s93 s94 s95 s96 s97 s98 s99 s100 s101 s102 s103 s104 s105 s106 s107 s108 s109 s110 s111 s112 s113 s114 s115 s116 s117 s118 s119 s120 s121 s122 s123 s124 s125 s126 s127 s128 s129 s130 s131 s132 s133 s134 s135 s136 s137 s138 s139 s140 s141 s142 s143 s144 s145 s146 s147 s148 s149 s150 s151 s152 s153 s154 s155 s156 s157 s158 s159 s160 s161 s162 s163 s164 s165 s166 s167 s168 s169 s170 s171 s172 s173 s174 s175 s176 s177 s178 s179 s180 s181 s182 s183 s184 s185 s186 s187 s188 s189 s190 s191 s192 s193 s194 s195 s196 s197 s198 s199 s200 s201 s202 s203 s204 s205 s206 s207 s208 s209 s210 s211 s212 s213 s214 s215 s216 s217 s218 s219 s220 s221 s222 s223 s224 s225 s226 s227 s228 s229 s230 s231 s232 s233 s234 s235 s236 s237 s238 s239 s240 s241 s242 s243 s244 s245 s246 s247 s248 s249 s250 s251 s252 s253 s254 s255 s256 s257 s258 s259 s260 s261 s262 s263 s264 s265 s266 s267 s268 s269 s270 s271 s272 s273 s274 s275 s276 s277 s278 : Value}
    (hP : ∀ c (a : Act) d v w, Q' (.panic c) (a.put (some d) v) w → Q' (.panic c) a w) (hK : ∀ (r93 r94 r95 r96 r97 r98 r99 r100 r101 r102 r103 r104 r105 r106 r107 r108 r109 r110 r111 r112 r113 r114 r115 r116 r117 r118 r119 r120 r121 r122 r123 r124 r125 r126 : Value) (W' : World), Below W0.heap.size W0 W' → K { tmps := List.toArray (s0 :: s1 :: (.pointer (some ⟨w.heap.size, 0, none⟩)) :: (.pointer (some ⟨w.heap.size + 1, 0, none⟩)) :: s4 :: (.pointer (some ⟨gu, 0, none⟩)) :: s6 :: (.pointer (some ⟨gv, 0, none⟩)) :: s8 :: (.pointer (some ⟨gv + 1, 0, none⟩)) :: (.bool true) :: s11 :: s12 :: s13 :: s14 :: s15 :: s16 :: s17 :: s18 :: s19 :: s20 :: s21 :: s22 :: s23 :: s24 :: s25 :: s26 :: s27 :: s28 :: s29 :: s30 :: s31 :: s32 :: s33 :: s34 :: s35 :: s36 :: s37 :: s38 :: s39 :: s40 :: s41 :: s42 :: s43 :: s44 :: s45 :: s46 :: s47 :: s48 :: s49 :: s50 :: s51 :: s52 :: s53 :: s54 :: s55 :: s56 :: s57 :: s58 :: s59 :: s60 :: s61 :: s62 :: s63 :: s64 :: s65 :: s66 :: s67 :: s68 :: s69 :: s70 :: s71 :: s72 :: s73 :: s74 :: s75 :: s76 :: s77 :: s78 :: s79 :: s80 :: s81 :: s82 :: s83 :: s84 :: s85 :: s86 :: s87 :: s88 :: s89 :: s90 :: s91 :: s92 :: r93 :: r94 :: r95 :: r96 :: r97 :: r98 :: r99 :: r100 :: r101 :: r102 :: r103 :: r104 :: r105 :: r106 :: r107 :: r108 :: r109 :: r110 :: r111 :: r112 :: r113 :: r114 :: r115 :: r116 :: r117 :: r118 :: r119 :: r120 :: r121 :: r122 :: r123 :: r124 :: r125 :: r126 :: s127 :: s128 :: s129 :: s130 :: s131 :: s132 :: s133 :: s134 :: s135 :: s136 :: s137 :: s138 :: s139 :: s140 :: s141 :: s142 :: s143 :: s144 :: s145 :: s146 :: s147 :: s148 :: s149 :: s150 :: s151 :: s152 :: s153 :: s154 :: s155 :: s156 :: s157 :: s158 :: s159 :: s160 :: s161 :: s162 :: s163 :: s164 :: s165 :: s166 :: s167 :: s168 :: s169 :: s170 :: s171 :: s172 :: s173 :: s174 :: s175 :: s176 :: s177 :: s178 :: s179 :: s180 :: s181 :: s182 :: s183 :: s184 :: s185 :: s186 :: s187 :: s188 :: s189 :: s190 :: s191 :: s192 :: s193 :: s194 :: s195 :: s196 :: s197 :: s198 :: s199 :: s200 :: s201 :: s202 :: s203 :: s204 :: s205 :: s206 :: s207 :: s208 :: s209 :: s210 :: s211 :: s212 :: s213 :: s214 :: s215 :: s216 :: s217 :: s218 :: s219 :: s220 :: s221 :: s222 :: s223 :: s224 :: s225 :: s226 :: s227 :: s228 :: s229 :: s230 :: s231 :: s232 :: s233 :: s234 :: s235 :: s236 :: s237 :: s238 :: s239 :: s240 :: s241 :: s242 :: s243 :: s244 :: s245 :: s246 :: s247 :: s248 :: s249 :: s250 :: s251 :: s252 :: s253 :: s254 :: s255 :: s256 :: s257 :: s258 :: s259 :: s260 :: s261 :: s262 :: s263 :: s264 :: s265 :: s266 :: s267 :: s268 :: s269 :: s270 :: s271 :: s272 :: s273 :: s274 :: s275 :: s276 :: s277 :: s278 :: []), defers := [] } W') :
    Code.wp Tryz.prog (regOf Tryz.f6 11) (Exit.then K Q') { tmps := List.toArray (s0 :: s1 :: (.pointer (some ⟨w.heap.size, 0, none⟩)) :: (.pointer (some ⟨w.heap.size + 1, 0, none⟩)) :: s4 :: (.pointer (some ⟨gu, 0, none⟩)) :: s6 :: (.pointer (some ⟨gv, 0, none⟩)) :: s8 :: (.pointer (some ⟨gv + 1, 0, none⟩)) :: (.bool true) :: s11 :: s12 :: s13 :: s14 :: s15 :: s16 :: s17 :: s18 :: s19 :: s20 :: s21 :: s22 :: s23 :: s24 :: s25 :: s26 :: s27 :: s28 :: s29 :: s30 :: s31 :: s32 :: s33 :: s34 :: s35 :: s36 :: s37 :: s38 :: s39 :: s40 :: s41 :: s42 :: s43 :: s44 :: s45 :: s46 :: s47 :: s48 :: s49 :: s50 :: s51 :: s52 :: s53 :: s54 :: s55 :: s56 :: s57 :: s58 :: s59 :: s60 :: s61 :: s62 :: s63 :: s64 :: s65 :: s66 :: s67 :: s68 :: s69 :: s70 :: s71 :: s72 :: s73 :: s74 :: s75 :: s76 :: s77 :: s78 :: s79 :: s80 :: s81 :: s82 :: s83 :: s84 :: s85 :: s86 :: s87 :: s88 :: s89 :: s90 :: s91 :: s92 :: s93 :: s94 :: s95 :: s96 :: s97 :: s98 :: s99 :: s100 :: s101 :: s102 :: s103 :: s104 :: s105 :: s106 :: s107 :: s108 :: s109 :: s110 :: s111 :: s112 :: s113 :: s114 :: s115 :: s116 :: s117 :: s118 :: s119 :: s120 :: s121 :: s122 :: s123 :: s124 :: s125 :: s126 :: s127 :: s128 :: s129 :: s130 :: s131 :: s132 :: s133 :: s134 :: s135 :: s136 :: s137 :: s138 :: s139 :: s140 :: s141 :: s142 :: s143 :: s144 :: s145 :: s146 :: s147 :: s148 :: s149 :: s150 :: s151 :: s152 :: s153 :: s154 :: s155 :: s156 :: s157 :: s158 :: s159 :: s160 :: s161 :: s162 :: s163 :: s164 :: s165 :: s166 :: s167 :: s168 :: s169 :: s170 :: s171 :: s172 :: s173 :: s174 :: s175 :: s176 :: s177 :: s178 :: s179 :: s180 :: s181 :: s182 :: s183 :: s184 :: s185 :: s186 :: s187 :: s188 :: s189 :: s190 :: s191 :: s192 :: s193 :: s194 :: s195 :: s196 :: s197 :: s198 :: s199 :: s200 :: s201 :: s202 :: s203 :: s204 :: s205 :: s206 :: s207 :: s208 :: s209 :: s210 :: s211 :: s212 :: s213 :: s214 :: s215 :: s216 :: s217 :: s218 :: s219 :: s220 :: s221 :: s222 :: s223 :: s224 :: s225 :: s226 :: s227 :: s228 :: s229 :: s230 :: s231 :: s232 :: s233 :: s234 :: s235 :: s236 :: s237 :: s238 :: s239 :: s240 :: s241 :: s242 :: s243 :: s244 :: s245 :: s246 :: s247 :: s248 :: s249 :: s250 :: s251 :: s252 :: s253 :: s254 :: s255 :: s256 :: s257 :: s258 :: s259 :: s260 :: s261 :: s262 :: s263 :: s264 :: s265 :: s266 :: s267 :: s268 :: s269 :: s270 :: s271 :: s272 :: s273 :: s274 :: s275 :: s276 :: s277 :: s278 :: []), defers := [] } W := by
  have FC := Lib.hid cx.fc
  have BOW := Lib.hid cx.bow
  have WU := Lib.hid cx.wu
  have WV := Lib.hid cx.wv
  have MO := Lib.hid cx.mo
  have WFF := Lib.hid cx.wff
  have WF2 := Lib.hid cx.wf2
  have WF1 := Lib.hid cx.wf1
  have HI := Lib.hid hB
  have HK0 := Lib.hid hK
  have HP := Lib.hid hP
  clear cx hB hK hP
  conv => arg 2; whnf
  refine wp_region_held_drew (S := (fun W => Below W0.heap.size W0 W)) (by kernel_rfl) HI.out.drew (fun hHeld => ?_)
  obtain ⟨Xb, hX⟩ : ∃ X, X = W.drew := ⟨_, rfl⟩
  have HXb : Hid (Below W0.heap.size W0 Xb) := Lib.hid (by rw [hX]; exact HI.out.drew)
  rw [← hX] at hHeld ⊢
  clear hX
  refine take_still (i := 0) (d := some 93) (v := .bool true) rfl rfl (by kernel_rfl) (by kernel_rfl) (by kernel_rfl) (fun _ _ _ h => HP.out _ _ _ _ _ h) (Or.inl ⟨by rfl, ?_⟩) hHeld ?_
  · intro W hSw; go_simp; try with_reducible rfl
  try simp only [Act.put, List.setIfInBounds_toArray, List.set_cons_zero, List.set_cons_succ]
  refine take_still (i := 1) (d := some 94) (v := .bool true) rfl rfl (by kernel_rfl) (by kernel_rfl) (by kernel_rfl) (fun _ _ _ h => HP.out _ _ _ _ _ h) (Or.inl ⟨by rfl, ?_⟩) hHeld ?_
  · intro W hSw; go_simp; try with_reducible rfl
  try simp only [Act.put, List.setIfInBounds_toArray, List.set_cons_zero, List.set_cons_succ]
  refine take_still (i := 2) (d := some 95) (v := .agg #[.int .i64 u.kind, .string u.text, .int .i64 u.n, .slice Au u.sh.length cau, .slice Bu u.at_.length cbu, .slice Ku u.kids.length cku]) rfl rfl (by kernel_rfl) (by kernel_rfl) (by kernel_rfl) (fun _ _ _ h => HP.out _ _ _ _ _ h) (Or.inl ⟨by rfl, ?_⟩) hHeld ?_
  · intro W hSw; obtain ⟨u0, u1, u2, u3, u4, u5, ul, v0, v1, v2, v3, v4, v5, vl, a0, a1, a2, al, b0, b1, b2, bl, c0, c1, c2, cl⟩ := FC.out W hSw; go_simp; try with_reducible rfl
  try simp only [Act.put, List.setIfInBounds_toArray, List.set_cons_zero, List.set_cons_succ]
  refine take_still (i := 5) (d := some 98) (v := .pointer (some ⟨gu, 2, none⟩)) rfl rfl (by kernel_rfl) (by kernel_rfl) (by kernel_rfl) (fun _ _ _ h => HP.out _ _ _ _ _ h) (Or.inl ⟨by rfl, ?_⟩) hHeld ?_
  · intro W hSw; go_simp; try with_reducible rfl
  try simp only [Act.put, List.setIfInBounds_toArray, List.set_cons_zero, List.set_cons_succ]
  refine take_still (i := 6) (d := some 99) (v := .int .i64 (rkT u).c) rfl rfl (by kernel_rfl) (by kernel_rfl) (by kernel_rfl) (fun _ _ _ h => HP.out _ _ _ _ _ h) (Or.inl ⟨by rfl, ?_⟩) hHeld ?_
  · intro W hSw; obtain ⟨u0, u1, u2, u3, u4, u5, ul, v0, v1, v2, v3, v4, v5, vl, a0, a1, a2, al, b0, b1, b2, bl, c0, c1, c2, cl⟩ := FC.out W hSw; go_simp; try with_reducible rfl
  try simp only [Act.put, List.setIfInBounds_toArray, List.set_cons_zero, List.set_cons_succ]
  refine take_still (i := 7) (d := some 100) (v := .pointer (some ⟨gu, 1, none⟩)) rfl rfl (by kernel_rfl) (by kernel_rfl) (by kernel_rfl) (fun _ _ _ h => HP.out _ _ _ _ _ h) (Or.inl ⟨by rfl, ?_⟩) hHeld ?_
  · intro W hSw; go_simp; try with_reducible rfl
  try simp only [Act.put, List.setIfInBounds_toArray, List.set_cons_zero, List.set_cons_succ]
  refine take_still (i := 8) (d := some 101) (v := .int .i64 (rkT u).b) rfl rfl (by kernel_rfl) (by kernel_rfl) (by kernel_rfl) (fun _ _ _ h => HP.out _ _ _ _ _ h) (Or.inl ⟨by rfl, ?_⟩) hHeld ?_
  · intro W hSw; obtain ⟨u0, u1, u2, u3, u4, u5, ul, v0, v1, v2, v3, v4, v5, vl, a0, a1, a2, al, b0, b1, b2, bl, c0, c1, c2, cl⟩ := FC.out W hSw; go_simp; try with_reducible rfl
  try simp only [Act.put, List.setIfInBounds_toArray, List.set_cons_zero, List.set_cons_succ]
  refine take_still (i := 9) (d := some 102) (v := .agg #[.int .i64 64, .int .i64 (rkT u).c, .int .i64 (rkT u).b]) rfl rfl (by kernel_rfl) (by kernel_rfl) (by kernel_rfl) (fun _ _ _ h => HP.out _ _ _ _ _ h) (Or.inl ⟨by rfl, ?_⟩) hHeld ?_
  · intro W hSw; go_simp; try with_reducible rfl
  try simp only [Act.put, List.setIfInBounds_toArray, List.set_cons_zero, List.set_cons_succ]
  refine wpAnyH_ready (rs := [3]) (by kernel_rfl) (by simp) ?_
  refine AllReadyH.cons rfl (fun K hK => ?_) AllReadyH.nil
  go_simp
  obtain ⟨Vb1, hV⟩ : ∃ V, V = Xb.alloc (.cells #[.int .i64 u.kind, .string u.text, .int .i64 u.n, .slice Au u.sh.length cau, .slice Bu u.at_.length cbu, .slice Ku u.kids.length cku] TTm) := ⟨_, rfl⟩
  obtain ⟨gb1, hg⟩ : ∃ g, g = Xb.heap.size := ⟨_, rfl⟩
  have hKV : KidsAt Vb1 (some ⟨gb1, 0, none⟩) [u] 0 := by
    rw [hV, hg]
    refine row_new_at (w := Xb) [(u, Au, cau, Bu, cbu, Ku, cku)] (fun x hx => by
      simp only [List.mem_cons, List.not_mem_nil, or_false] at hx
      subst hx
      · exact (BOW.out Xb HXb.out).1) rfl
  have hbV : Below Xb.heap.size Xb Vb1 := by rw [hV]; exact (Below.refl _ _).alloc (Nat.le_refl _) _
  have HBb1 := Lib.hid (HXb.out.then_ hbV)
  have HKb1 := Lib.hid hKV
  rw [← hV, ← hg]
  clear hV hg hKV hbV
  refine hK.out _ _ HBb1.out (fun hHeld => ?_)
  clear hK K
  refine wpAnyH_ready (rs := [4]) (by kernel_rfl) (by simp) ?_
  refine AllReadyH.cons rfl (fun K hK => ?_) AllReadyH.nil
  go_simp
  go_at_call 32
  refine (of16_any 27 [u] gb1 0 1 1 Vb1 HKb1.out rfl (by decide) (by decide)).mono ?_
  rintro e Pb2 ⟨hb2, cb2, rfl, hta, hb⟩
  have HBb2 := Lib.hid (HBb1.out.then_ hb)
  have HTb2 := Lib.hid hta
  clear hta hb
  refine hK.out _ _ HBb2.out (fun hHeld => ?_)
  clear hK K
  refine wpAnyH_ready (rs := [10]) (by kernel_rfl) (by simp) ?_
  refine AllReadyH.cons rfl (fun K hK => ?_) AllReadyH.nil
  go_simp
  go_at_call 33
  refine (ranks16_any (tOf 27 [u]) none 0 none 0 (some ⟨hb2, 0, none⟩) cb2 ⟨64, (rkT u).c, (rkT u).b⟩ Pb2 HTb2.out (WF1.out 27 ⟨by decide, by decide⟩) (by rw [ranks_of (MO.out.one 27 (by decide))]) (by rw [ranks_of (MO.out.one 27 (by decide)), rkm_27]; try rfl)).mono ?_
  rintro e Pb3 ⟨rfl, hb⟩
  have HBb3 := Lib.hid (HBb2.out.then_ hb)
  clear hb
  refine hK.out _ _ HBb3.out (fun hHeld => ?_)
  clear hK K
  refine take_still (i := 11) (d := some 104) (v := .bool true) rfl rfl (by kernel_rfl) (by kernel_rfl) (by kernel_rfl) (fun _ _ _ h => HP.out _ _ _ _ _ h) (Or.inl ⟨by rfl, ?_⟩) hHeld ?_
  · intro W hSw; go_simp; try with_reducible rfl
  try simp only [Act.put, List.setIfInBounds_toArray, List.set_cons_zero, List.set_cons_succ]
  refine take_still (i := 12) (d := some 105) (v := .bool true) rfl rfl (by kernel_rfl) (by kernel_rfl) (by kernel_rfl) (fun _ _ _ h => HP.out _ _ _ _ _ h) (Or.inl ⟨by rfl, ?_⟩) hHeld ?_
  · intro W hSw; go_simp; try with_reducible rfl
  try simp only [Act.put, List.setIfInBounds_toArray, List.set_cons_zero, List.set_cons_succ]
  refine take_still (i := 13) (d := some 106) (v := .agg #[.int .i64 u.kind, .string u.text, .int .i64 u.n, .slice Au u.sh.length cau, .slice Bu u.at_.length cbu, .slice Ku u.kids.length cku]) rfl rfl (by kernel_rfl) (by kernel_rfl) (by kernel_rfl) (fun _ _ _ h => HP.out _ _ _ _ _ h) (Or.inl ⟨by rfl, ?_⟩) hHeld ?_
  · intro W hSw; obtain ⟨u0, u1, u2, u3, u4, u5, ul, v0, v1, v2, v3, v4, v5, vl, a0, a1, a2, al, b0, b1, b2, bl, c0, c1, c2, cl⟩ := FC.out W hSw; go_simp; try with_reducible rfl
  try simp only [Act.put, List.setIfInBounds_toArray, List.set_cons_zero, List.set_cons_succ]
  refine take_still (i := 14) (d := some 107) (v := .agg #[.int .i64 v.kind, .string v.text, .int .i64 v.n, .slice Av v.sh.length cav, .slice Bv v.at_.length cbv, .slice Kv v.kids.length ckv]) rfl rfl (by kernel_rfl) (by kernel_rfl) (by kernel_rfl) (fun _ _ _ h => HP.out _ _ _ _ _ h) (Or.inl ⟨by rfl, ?_⟩) hHeld ?_
  · intro W hSw; obtain ⟨u0, u1, u2, u3, u4, u5, ul, v0, v1, v2, v3, v4, v5, vl, a0, a1, a2, al, b0, b1, b2, bl, c0, c1, c2, cl⟩ := FC.out W hSw; go_simp; try with_reducible rfl
  try simp only [Act.put, List.setIfInBounds_toArray, List.set_cons_zero, List.set_cons_succ]
  refine take_still (i := 17) (d := some 110) (v := .agg #[.int .i64 (rkT u).a, .int .i64 (rkT u).b, .int .i64 (rkT u).c]) rfl rfl (by kernel_rfl) (by kernel_rfl) (by kernel_rfl) (fun _ _ _ h => HP.out _ _ _ _ _ h) (Or.inl ⟨by rfl, ?_⟩) hHeld ?_
  · intro W hSw; obtain ⟨u0, u1, u2, u3, u4, u5, ul, v0, v1, v2, v3, v4, v5, vl, a0, a1, a2, al, b0, b1, b2, bl, c0, c1, c2, cl⟩ := FC.out W hSw; go_simp; try with_reducible rfl
  try simp only [Act.put, List.setIfInBounds_toArray, List.set_cons_zero, List.set_cons_succ]
  refine wpAnyH_ready (rs := [15]) (by kernel_rfl) (by simp) ?_
  refine AllReadyH.cons rfl (fun K hK => ?_) AllReadyH.nil
  go_simp
  obtain ⟨Vb4, hV⟩ : ∃ V, V = Pb3.alloc (.cells #[.int .i64 u.kind, .string u.text, .int .i64 u.n, .slice Au u.sh.length cau, .slice Bu u.at_.length cbu, .slice Ku u.kids.length cku, .int .i64 v.kind, .string v.text, .int .i64 v.n, .slice Av v.sh.length cav, .slice Bv v.at_.length cbv, .slice Kv v.kids.length ckv] TTm) := ⟨_, rfl⟩
  obtain ⟨gb4, hg⟩ : ∃ g, g = Pb3.heap.size := ⟨_, rfl⟩
  have hKV : KidsAt Vb4 (some ⟨gb4, 0, none⟩) [u, v] 0 := by
    rw [hV, hg]
    refine row_new_at (w := Pb3) [(u, Au, cau, Bu, cbu, Ku, cku), (v, Av, cav, Bv, cbv, Kv, ckv)] (fun x hx => by
      simp only [List.mem_cons, List.not_mem_nil, or_false] at hx
      rcases hx with rfl | rfl
      · exact (BOW.out Pb3 HBb3.out).1
      · exact (BOW.out Pb3 HBb3.out).2) rfl
  have hbV : Below Pb3.heap.size Pb3 Vb4 := by rw [hV]; exact (Below.refl _ _).alloc (Nat.le_refl _) _
  have HBb4 := Lib.hid (HBb3.out.then_ hbV)
  have HKb4 := Lib.hid hKV
  rw [← hV, ← hg]
  clear hV hg hKV hbV
  refine hK.out _ _ HBb4.out (fun hHeld => ?_)
  clear hK K
  refine wpAnyH_ready (rs := [16]) (by kernel_rfl) (by simp) ?_
  refine AllReadyH.cons rfl (fun K hK => ?_) AllReadyH.nil
  go_simp
  go_at_call 32
  refine (of16_any 36 [u, v] gb4 0 2 2 Vb4 HKb4.out rfl (by decide) (by decide)).mono ?_
  rintro e Pb5 ⟨hb5, cb5, rfl, hta, hb⟩
  have HBb5 := Lib.hid (HBb4.out.then_ hb)
  have HTb5 := Lib.hid hta
  clear hta hb
  refine hK.out _ _ HBb5.out (fun hHeld => ?_)
  clear hK K
  refine wpAnyH_ready (rs := [18]) (by kernel_rfl) (by simp) ?_
  refine AllReadyH.cons rfl (fun K hK => ?_) AllReadyH.nil
  go_simp
  go_at_call 33
  refine (ranks16_any (tOf 36 [u, v]) none 0 none 0 (some ⟨hb5, 0, none⟩) cb5 ⟨(rkT u).a, (rkT u).b, (rkT u).c⟩ Pb5 HTb5.out (WF2.out 36 ⟨by decide, by decide⟩) (by rw [ranks_of (MO.out.two 36 (by decide))]) (by rw [ranks_of (MO.out.two 36 (by decide)), rkm_36]; try rfl)).mono ?_
  rintro e Pb6 ⟨rfl, hb⟩
  have HBb6 := Lib.hid (HBb5.out.then_ hb)
  clear hb
  refine hK.out _ _ HBb6.out (fun hHeld => ?_)
  clear hK K
  refine take_still (i := 19) (d := some 112) (v := .bool true) rfl rfl (by kernel_rfl) (by kernel_rfl) (by kernel_rfl) (fun _ _ _ h => HP.out _ _ _ _ _ h) (Or.inl ⟨by rfl, ?_⟩) hHeld ?_
  · intro W hSw; go_simp; try with_reducible rfl
  try simp only [Act.put, List.setIfInBounds_toArray, List.set_cons_zero, List.set_cons_succ]
  refine take_still (i := 20) (d := some 113) (v := .bool true) rfl rfl (by kernel_rfl) (by kernel_rfl) (by kernel_rfl) (fun _ _ _ h => HP.out _ _ _ _ _ h) (Or.inl ⟨by rfl, ?_⟩) hHeld ?_
  · intro W hSw; go_simp; try with_reducible rfl
  try simp only [Act.put, List.setIfInBounds_toArray, List.set_cons_zero, List.set_cons_succ]
  refine take_still (i := 21) (d := some 114) (v := .agg #[.int .i64 u.kind, .string u.text, .int .i64 u.n, .slice Au u.sh.length cau, .slice Bu u.at_.length cbu, .slice Ku u.kids.length cku]) rfl rfl (by kernel_rfl) (by kernel_rfl) (by kernel_rfl) (fun _ _ _ h => HP.out _ _ _ _ _ h) (Or.inl ⟨by rfl, ?_⟩) hHeld ?_
  · intro W hSw; obtain ⟨u0, u1, u2, u3, u4, u5, ul, v0, v1, v2, v3, v4, v5, vl, a0, a1, a2, al, b0, b1, b2, bl, c0, c1, c2, cl⟩ := FC.out W hSw; go_simp; try with_reducible rfl
  try simp only [Act.put, List.setIfInBounds_toArray, List.set_cons_zero, List.set_cons_succ]
  refine take_still (i := 22) (d := some 115) (v := .agg #[.int .i64 v.kind, .string v.text, .int .i64 v.n, .slice Av v.sh.length cav, .slice Bv v.at_.length cbv, .slice Kv v.kids.length ckv]) rfl rfl (by kernel_rfl) (by kernel_rfl) (by kernel_rfl) (fun _ _ _ h => HP.out _ _ _ _ _ h) (Or.inl ⟨by rfl, ?_⟩) hHeld ?_
  · intro W hSw; obtain ⟨u0, u1, u2, u3, u4, u5, ul, v0, v1, v2, v3, v4, v5, vl, a0, a1, a2, al, b0, b1, b2, bl, c0, c1, c2, cl⟩ := FC.out W hSw; go_simp; try with_reducible rfl
  try simp only [Act.put, List.setIfInBounds_toArray, List.set_cons_zero, List.set_cons_succ]
  refine take_still (i := 25) (d := some 118) (v := .pointer (some ⟨gu, 0, none⟩)) rfl rfl (by kernel_rfl) (by kernel_rfl) (by kernel_rfl) (fun _ _ _ h => HP.out _ _ _ _ _ h) (Or.inl ⟨by rfl, ?_⟩) hHeld ?_
  · intro W hSw; go_simp; try with_reducible rfl
  try simp only [Act.put, List.setIfInBounds_toArray, List.set_cons_zero, List.set_cons_succ]
  refine take_still (i := 26) (d := some 119) (v := .int .i64 (rkT u).a) rfl rfl (by kernel_rfl) (by kernel_rfl) (by kernel_rfl) (fun _ _ _ h => HP.out _ _ _ _ _ h) (Or.inl ⟨by rfl, ?_⟩) hHeld ?_
  · intro W hSw; obtain ⟨u0, u1, u2, u3, u4, u5, ul, v0, v1, v2, v3, v4, v5, vl, a0, a1, a2, al, b0, b1, b2, bl, c0, c1, c2, cl⟩ := FC.out W hSw; go_simp; try with_reducible rfl
  try simp only [Act.put, List.setIfInBounds_toArray, List.set_cons_zero, List.set_cons_succ]
  refine take_still (i := 27) (d := some 120) (v := .pointer (some ⟨gv, 1, none⟩)) rfl rfl (by kernel_rfl) (by kernel_rfl) (by kernel_rfl) (fun _ _ _ h => HP.out _ _ _ _ _ h) (Or.inl ⟨by rfl, ?_⟩) hHeld ?_
  · intro W hSw; go_simp; try with_reducible rfl
  try simp only [Act.put, List.setIfInBounds_toArray, List.set_cons_zero, List.set_cons_succ]
  refine take_still (i := 28) (d := some 121) (v := .int .i64 (rkT v).b) rfl rfl (by kernel_rfl) (by kernel_rfl) (by kernel_rfl) (fun _ _ _ h => HP.out _ _ _ _ _ h) (Or.inl ⟨by rfl, ?_⟩) hHeld ?_
  · intro W hSw; obtain ⟨u0, u1, u2, u3, u4, u5, ul, v0, v1, v2, v3, v4, v5, vl, a0, a1, a2, al, b0, b1, b2, bl, c0, c1, c2, cl⟩ := FC.out W hSw; go_simp; try with_reducible rfl
  try simp only [Act.put, List.setIfInBounds_toArray, List.set_cons_zero, List.set_cons_succ]
  refine take_still (i := 29) (d := some 122) (v := .pointer (some ⟨gv, 2, none⟩)) rfl rfl (by kernel_rfl) (by kernel_rfl) (by kernel_rfl) (fun _ _ _ h => HP.out _ _ _ _ _ h) (Or.inl ⟨by rfl, ?_⟩) hHeld ?_
  · intro W hSw; go_simp; try with_reducible rfl
  try simp only [Act.put, List.setIfInBounds_toArray, List.set_cons_zero, List.set_cons_succ]
  refine take_still (i := 30) (d := some 123) (v := .int .i64 (rkT v).c) rfl rfl (by kernel_rfl) (by kernel_rfl) (by kernel_rfl) (fun _ _ _ h => HP.out _ _ _ _ _ h) (Or.inl ⟨by rfl, ?_⟩) hHeld ?_
  · intro W hSw; obtain ⟨u0, u1, u2, u3, u4, u5, ul, v0, v1, v2, v3, v4, v5, vl, a0, a1, a2, al, b0, b1, b2, bl, c0, c1, c2, cl⟩ := FC.out W hSw; go_simp; try with_reducible rfl
  try simp only [Act.put, List.setIfInBounds_toArray, List.set_cons_zero, List.set_cons_succ]
  refine take_still (i := 31) (d := some 124) (v := .agg #[.int .i64 (rkT u).a, .int .i64 (rkT v).b, .int .i64 (rkT v).c]) rfl rfl (by kernel_rfl) (by kernel_rfl) (by kernel_rfl) (fun _ _ _ h => HP.out _ _ _ _ _ h) (Or.inl ⟨by rfl, ?_⟩) hHeld ?_
  · intro W hSw; go_simp; try with_reducible rfl
  try simp only [Act.put, List.setIfInBounds_toArray, List.set_cons_zero, List.set_cons_succ]
  refine wpAnyH_ready (rs := [23]) (by kernel_rfl) (by simp) ?_
  refine AllReadyH.cons rfl (fun K hK => ?_) AllReadyH.nil
  go_simp
  obtain ⟨Vb7, hV⟩ : ∃ V, V = Pb6.alloc (.cells #[.int .i64 u.kind, .string u.text, .int .i64 u.n, .slice Au u.sh.length cau, .slice Bu u.at_.length cbu, .slice Ku u.kids.length cku, .int .i64 v.kind, .string v.text, .int .i64 v.n, .slice Av v.sh.length cav, .slice Bv v.at_.length cbv, .slice Kv v.kids.length ckv] TTm) := ⟨_, rfl⟩
  obtain ⟨gb7, hg⟩ : ∃ g, g = Pb6.heap.size := ⟨_, rfl⟩
  have hKV : KidsAt Vb7 (some ⟨gb7, 0, none⟩) [u, v] 0 := by
    rw [hV, hg]
    refine row_new_at (w := Pb6) [(u, Au, cau, Bu, cbu, Ku, cku), (v, Av, cav, Bv, cbv, Kv, ckv)] (fun x hx => by
      simp only [List.mem_cons, List.not_mem_nil, or_false] at hx
      rcases hx with rfl | rfl
      · exact (BOW.out Pb6 HBb6.out).1
      · exact (BOW.out Pb6 HBb6.out).2) rfl
  have hbV : Below Pb6.heap.size Pb6 Vb7 := by rw [hV]; exact (Below.refl _ _).alloc (Nat.le_refl _) _
  have HBb7 := Lib.hid (HBb6.out.then_ hbV)
  have HKb7 := Lib.hid hKV
  rw [← hV, ← hg]
  clear hV hg hKV hbV
  refine hK.out _ _ HBb7.out (fun hHeld => ?_)
  clear hK K
  refine wpAnyH_ready (rs := [24]) (by kernel_rfl) (by simp) ?_
  refine AllReadyH.cons rfl (fun K hK => ?_) AllReadyH.nil
  go_simp
  go_at_call 32
  refine (of16_any 37 [u, v] gb7 0 2 2 Vb7 HKb7.out rfl (by decide) (by decide)).mono ?_
  rintro e Pb8 ⟨hb8, cb8, rfl, hta, hb⟩
  have HBb8 := Lib.hid (HBb7.out.then_ hb)
  have HTb8 := Lib.hid hta
  clear hta hb
  refine hK.out _ _ HBb8.out (fun hHeld => ?_)
  clear hK K
  refine wpAnyH_ready (rs := [32]) (by kernel_rfl) (by simp) ?_
  refine AllReadyH.cons rfl (fun K hK => ?_) AllReadyH.nil
  go_simp
  go_at_call 33
  refine (ranks16_any (tOf 37 [u, v]) none 0 none 0 (some ⟨hb8, 0, none⟩) cb8 ⟨(rkT u).a, (rkT v).b, (rkT v).c⟩ Pb8 HTb8.out (WF2.out 37 ⟨by decide, by decide⟩) (by rw [ranks_of (MO.out.two 37 (by decide))]) (by rw [ranks_of (MO.out.two 37 (by decide)), rkm_37]; try rfl)).mono ?_
  rintro e Pb9 ⟨rfl, hb⟩
  have HBb9 := Lib.hid (HBb8.out.then_ hb)
  clear hb
  refine hK.out _ _ HBb9.out (fun hHeld => ?_)
  clear hK K
  refine take_still (i := 33) (d := some 126) (v := .bool true) rfl rfl (by kernel_rfl) (by kernel_rfl) (by kernel_rfl) (fun _ _ _ h => HP.out _ _ _ _ _ h) (Or.inl ⟨by rfl, ?_⟩) hHeld ?_
  · intro W hSw; go_simp; try with_reducible rfl
  try simp only [Act.put, List.setIfInBounds_toArray, List.set_cons_zero, List.set_cons_succ]
  refine take_still (i := 34) (d := some 10) (v := .bool true) rfl rfl (by kernel_rfl) (by kernel_rfl) (by kernel_rfl) (fun _ _ _ h => HP.out _ _ _ _ _ h) (Or.inl ⟨by rfl, ?_⟩) hHeld ?_
  · intro W hSw; go_simp; try with_reducible rfl
  try simp only [Act.put, List.setIfInBounds_toArray, List.set_cons_zero, List.set_cons_succ]
  refine wpAnyH_done (by kernel_rfl) ?_ _
  change K _ _
  exact HK0.out _ _ _ _ _ _ _ _ _ _ _ _ _ _ _ _ _ _ _ _ _ _ _ _ _ _ _ _ _ _ _ _ _ _ _ HBb9.out

set_option maxRecDepth 100000 in
set_option maxHeartbeats 100000000 in
theorem made12 {u v : Tm} {Au : Option Addr} {cau : Nat} {Bu : Option Addr} {cbu : Nat} {Ku : Option Addr} {cku : Nat} {Av : Option Addr} {cav : Nat} {Bv : Option Addr} {cbv : Nat} {Kv : Option Addr} {ckv : Nat} {w W0 : World} {gu gv : Nat} (cx : MadeCx u v Au cau Bu cbu Ku cku Av cav Bv cbv Kv ckv w W0 gu gv)   {W : World} (hB : Below W0.heap.size W0 W) {K : Act → World → Prop} {Q' : Exit → Act → World → Prop} {s0 s1 s4 s6 s8 s11 s12 s13 s14 s15 s16 s17 s18 s19 s20 s21 s22 s23 s24 s25 s26 s27 s28 s29 s30 s31 s32 s33 s34 s35 s36 s37 s38 s39 s40 s41 s42 s43 s44 s45 s46 s47 s48 s49 s50 s51 s52 s53 s54 s55 s56 s57 s58 s59 s60 s61 s62 s63 s64 s65 s66 s67 s68 s69 s70 s71 s72 s73 s74 s75 s76 s77 s78 s79 s80 s81 s82 s83 s84 s85 s86 s87 s88 s89 s90 s91 s92 s93 s94 s95 s96 s97 s98 s99 s100 s101 s102 s103 s104 s105 s106 s107 s108 s109 s110 s111 s112 s113 s114 s115 s116 s117 s118 s119 s120 s121 s122 s123 s124 s125 s126 s127 s128 s129 s130 s131 s132 s133 s134 s135 s136 s137 s138 s139 s140 s141 s142 s143 s144 s145 s146 s147 s148 s149 s150 s151 s152 s153 s154 s155 s156 s157 s158 s159 s160 s161 s162 s163 s164 s165 s166 s167 s168 s169 s170 s171 s172 s173 s174 s175 s176 s177 s178 s179 s180 s181 s182 s183 s184 s185 s186 s187 s188 s189 s190 s191 s192 s193 s194 s195 s196 s197 s198 s199 s200 s201 s202 s203 s204 s205 s206 s207 s208 s209 s210 s211 s212 s213 s214 s215 s216 s217 s218 s219 s220 s221 s222 s223 s224 s225 s226 s227 s228 s229 s230 s231 s232 s233 s234 s235 s236 s237 s238 s239 s240 s241 s242 s243 s244 s245 s246 s247 s248 s249 s250 s251 s252 s253 s254 s255 s256 s257 s258 s259 s260 s261 s262 s263 s264 s265 s266 s267 s268 s269 s270 s271 s272 s273 s274 s275 s276 s277 s278 : Value}
    (hP : ∀ c (a : Act) d v w, Q' (.panic c) (a.put (some d) v) w → Q' (.panic c) a w) (hK : ∀ (r127 r128 r129 r130 r131 r132 r133 r134 r135 r136 r137 r138 r139 r140 r141 r142 r143 r144 r145 r146 r147 r148 r149 r150 r151 r152 r153 r154 r155 r156 r157 r158 r159 : Value) (W' : World), Below W0.heap.size W0 W' → K { tmps := List.toArray (s0 :: s1 :: (.pointer (some ⟨w.heap.size, 0, none⟩)) :: (.pointer (some ⟨w.heap.size + 1, 0, none⟩)) :: s4 :: (.pointer (some ⟨gu, 0, none⟩)) :: s6 :: (.pointer (some ⟨gv, 0, none⟩)) :: s8 :: (.pointer (some ⟨gv + 1, 0, none⟩)) :: (.bool true) :: s11 :: s12 :: s13 :: s14 :: s15 :: s16 :: s17 :: s18 :: s19 :: s20 :: s21 :: s22 :: s23 :: s24 :: s25 :: s26 :: s27 :: s28 :: s29 :: s30 :: s31 :: s32 :: s33 :: s34 :: s35 :: s36 :: s37 :: s38 :: s39 :: s40 :: s41 :: s42 :: s43 :: s44 :: s45 :: s46 :: s47 :: s48 :: s49 :: s50 :: s51 :: s52 :: s53 :: s54 :: s55 :: s56 :: s57 :: s58 :: s59 :: s60 :: s61 :: s62 :: s63 :: s64 :: s65 :: s66 :: s67 :: s68 :: s69 :: s70 :: s71 :: s72 :: s73 :: s74 :: s75 :: s76 :: s77 :: s78 :: s79 :: s80 :: s81 :: s82 :: s83 :: s84 :: s85 :: s86 :: s87 :: s88 :: s89 :: s90 :: s91 :: s92 :: s93 :: s94 :: s95 :: s96 :: s97 :: s98 :: s99 :: s100 :: s101 :: s102 :: s103 :: s104 :: s105 :: s106 :: s107 :: s108 :: s109 :: s110 :: s111 :: s112 :: s113 :: s114 :: s115 :: s116 :: s117 :: s118 :: s119 :: s120 :: s121 :: s122 :: s123 :: s124 :: s125 :: s126 :: r127 :: r128 :: r129 :: r130 :: r131 :: r132 :: r133 :: r134 :: r135 :: r136 :: r137 :: r138 :: r139 :: r140 :: r141 :: r142 :: r143 :: r144 :: r145 :: r146 :: r147 :: r148 :: r149 :: r150 :: r151 :: r152 :: r153 :: r154 :: r155 :: r156 :: r157 :: r158 :: r159 :: s160 :: s161 :: s162 :: s163 :: s164 :: s165 :: s166 :: s167 :: s168 :: s169 :: s170 :: s171 :: s172 :: s173 :: s174 :: s175 :: s176 :: s177 :: s178 :: s179 :: s180 :: s181 :: s182 :: s183 :: s184 :: s185 :: s186 :: s187 :: s188 :: s189 :: s190 :: s191 :: s192 :: s193 :: s194 :: s195 :: s196 :: s197 :: s198 :: s199 :: s200 :: s201 :: s202 :: s203 :: s204 :: s205 :: s206 :: s207 :: s208 :: s209 :: s210 :: s211 :: s212 :: s213 :: s214 :: s215 :: s216 :: s217 :: s218 :: s219 :: s220 :: s221 :: s222 :: s223 :: s224 :: s225 :: s226 :: s227 :: s228 :: s229 :: s230 :: s231 :: s232 :: s233 :: s234 :: s235 :: s236 :: s237 :: s238 :: s239 :: s240 :: s241 :: s242 :: s243 :: s244 :: s245 :: s246 :: s247 :: s248 :: s249 :: s250 :: s251 :: s252 :: s253 :: s254 :: s255 :: s256 :: s257 :: s258 :: s259 :: s260 :: s261 :: s262 :: s263 :: s264 :: s265 :: s266 :: s267 :: s268 :: s269 :: s270 :: s271 :: s272 :: s273 :: s274 :: s275 :: s276 :: s277 :: s278 :: []), defers := [] } W') :
    Code.wp Tryz.prog (regOf Tryz.f6 12) (Exit.then K Q') { tmps := List.toArray (s0 :: s1 :: (.pointer (some ⟨w.heap.size, 0, none⟩)) :: (.pointer (some ⟨w.heap.size + 1, 0, none⟩)) :: s4 :: (.pointer (some ⟨gu, 0, none⟩)) :: s6 :: (.pointer (some ⟨gv, 0, none⟩)) :: s8 :: (.pointer (some ⟨gv + 1, 0, none⟩)) :: (.bool true) :: s11 :: s12 :: s13 :: s14 :: s15 :: s16 :: s17 :: s18 :: s19 :: s20 :: s21 :: s22 :: s23 :: s24 :: s25 :: s26 :: s27 :: s28 :: s29 :: s30 :: s31 :: s32 :: s33 :: s34 :: s35 :: s36 :: s37 :: s38 :: s39 :: s40 :: s41 :: s42 :: s43 :: s44 :: s45 :: s46 :: s47 :: s48 :: s49 :: s50 :: s51 :: s52 :: s53 :: s54 :: s55 :: s56 :: s57 :: s58 :: s59 :: s60 :: s61 :: s62 :: s63 :: s64 :: s65 :: s66 :: s67 :: s68 :: s69 :: s70 :: s71 :: s72 :: s73 :: s74 :: s75 :: s76 :: s77 :: s78 :: s79 :: s80 :: s81 :: s82 :: s83 :: s84 :: s85 :: s86 :: s87 :: s88 :: s89 :: s90 :: s91 :: s92 :: s93 :: s94 :: s95 :: s96 :: s97 :: s98 :: s99 :: s100 :: s101 :: s102 :: s103 :: s104 :: s105 :: s106 :: s107 :: s108 :: s109 :: s110 :: s111 :: s112 :: s113 :: s114 :: s115 :: s116 :: s117 :: s118 :: s119 :: s120 :: s121 :: s122 :: s123 :: s124 :: s125 :: s126 :: s127 :: s128 :: s129 :: s130 :: s131 :: s132 :: s133 :: s134 :: s135 :: s136 :: s137 :: s138 :: s139 :: s140 :: s141 :: s142 :: s143 :: s144 :: s145 :: s146 :: s147 :: s148 :: s149 :: s150 :: s151 :: s152 :: s153 :: s154 :: s155 :: s156 :: s157 :: s158 :: s159 :: s160 :: s161 :: s162 :: s163 :: s164 :: s165 :: s166 :: s167 :: s168 :: s169 :: s170 :: s171 :: s172 :: s173 :: s174 :: s175 :: s176 :: s177 :: s178 :: s179 :: s180 :: s181 :: s182 :: s183 :: s184 :: s185 :: s186 :: s187 :: s188 :: s189 :: s190 :: s191 :: s192 :: s193 :: s194 :: s195 :: s196 :: s197 :: s198 :: s199 :: s200 :: s201 :: s202 :: s203 :: s204 :: s205 :: s206 :: s207 :: s208 :: s209 :: s210 :: s211 :: s212 :: s213 :: s214 :: s215 :: s216 :: s217 :: s218 :: s219 :: s220 :: s221 :: s222 :: s223 :: s224 :: s225 :: s226 :: s227 :: s228 :: s229 :: s230 :: s231 :: s232 :: s233 :: s234 :: s235 :: s236 :: s237 :: s238 :: s239 :: s240 :: s241 :: s242 :: s243 :: s244 :: s245 :: s246 :: s247 :: s248 :: s249 :: s250 :: s251 :: s252 :: s253 :: s254 :: s255 :: s256 :: s257 :: s258 :: s259 :: s260 :: s261 :: s262 :: s263 :: s264 :: s265 :: s266 :: s267 :: s268 :: s269 :: s270 :: s271 :: s272 :: s273 :: s274 :: s275 :: s276 :: s277 :: s278 :: []), defers := [] } W := by
  have FC := Lib.hid cx.fc
  have BOW := Lib.hid cx.bow
  have WU := Lib.hid cx.wu
  have WV := Lib.hid cx.wv
  have MO := Lib.hid cx.mo
  have WFF := Lib.hid cx.wff
  have WF2 := Lib.hid cx.wf2
  have WF1 := Lib.hid cx.wf1
  have HI := Lib.hid hB
  have HK0 := Lib.hid hK
  have HP := Lib.hid hP
  clear cx hB hK hP
  conv => arg 2; whnf
  refine wp_region_held_drew (S := (fun W => Below W0.heap.size W0 W)) (by kernel_rfl) HI.out.drew (fun hHeld => ?_)
  obtain ⟨Xc, hX⟩ : ∃ X, X = W.drew := ⟨_, rfl⟩
  have HXc : Hid (Below W0.heap.size W0 Xc) := Lib.hid (by rw [hX]; exact HI.out.drew)
  rw [← hX] at hHeld ⊢
  clear hX
  refine take_still (i := 0) (d := some 127) (v := .bool true) rfl rfl (by kernel_rfl) (by kernel_rfl) (by kernel_rfl) (fun _ _ _ h => HP.out _ _ _ _ _ h) (Or.inl ⟨by rfl, ?_⟩) hHeld ?_
  · intro W hSw; go_simp; try with_reducible rfl
  try simp only [Act.put, List.setIfInBounds_toArray, List.set_cons_zero, List.set_cons_succ]
  refine take_still (i := 1) (d := some 128) (v := .bool true) rfl rfl (by kernel_rfl) (by kernel_rfl) (by kernel_rfl) (fun _ _ _ h => HP.out _ _ _ _ _ h) (Or.inl ⟨by rfl, ?_⟩) hHeld ?_
  · intro W hSw; go_simp; try with_reducible rfl
  try simp only [Act.put, List.setIfInBounds_toArray, List.set_cons_zero, List.set_cons_succ]
  refine take_still (i := 2) (d := some 129) (v := .agg #[.int .i64 u.kind, .string u.text, .int .i64 u.n, .slice Au u.sh.length cau, .slice Bu u.at_.length cbu, .slice Ku u.kids.length cku]) rfl rfl (by kernel_rfl) (by kernel_rfl) (by kernel_rfl) (fun _ _ _ h => HP.out _ _ _ _ _ h) (Or.inl ⟨by rfl, ?_⟩) hHeld ?_
  · intro W hSw; obtain ⟨u0, u1, u2, u3, u4, u5, ul, v0, v1, v2, v3, v4, v5, vl, a0, a1, a2, al, b0, b1, b2, bl, c0, c1, c2, cl⟩ := FC.out W hSw; go_simp; try with_reducible rfl
  try simp only [Act.put, List.setIfInBounds_toArray, List.set_cons_zero, List.set_cons_succ]
  refine take_still (i := 3) (d := some 130) (v := .agg #[.int .i64 v.kind, .string v.text, .int .i64 v.n, .slice Av v.sh.length cav, .slice Bv v.at_.length cbv, .slice Kv v.kids.length ckv]) rfl rfl (by kernel_rfl) (by kernel_rfl) (by kernel_rfl) (fun _ _ _ h => HP.out _ _ _ _ _ h) (Or.inl ⟨by rfl, ?_⟩) hHeld ?_
  · intro W hSw; obtain ⟨u0, u1, u2, u3, u4, u5, ul, v0, v1, v2, v3, v4, v5, vl, a0, a1, a2, al, b0, b1, b2, bl, c0, c1, c2, cl⟩ := FC.out W hSw; go_simp; try with_reducible rfl
  try simp only [Act.put, List.setIfInBounds_toArray, List.set_cons_zero, List.set_cons_succ]
  refine take_still (i := 6) (d := some 133) (v := .agg #[.int .i64 64, .int .i64 64, .int .i64 64]) rfl rfl (by kernel_rfl) (by kernel_rfl) (by kernel_rfl) (fun _ _ _ h => HP.out _ _ _ _ _ h) (Or.inl ⟨by rfl, ?_⟩) hHeld ?_
  · intro W hSw; obtain ⟨u0, u1, u2, u3, u4, u5, ul, v0, v1, v2, v3, v4, v5, vl, a0, a1, a2, al, b0, b1, b2, bl, c0, c1, c2, cl⟩ := FC.out W hSw; go_simp; try with_reducible rfl
  try simp only [Act.put, List.setIfInBounds_toArray, List.set_cons_zero, List.set_cons_succ]
  refine wpAnyH_ready (rs := [4]) (by kernel_rfl) (by simp) ?_
  refine AllReadyH.cons rfl (fun K hK => ?_) AllReadyH.nil
  go_simp
  obtain ⟨Vc1, hV⟩ : ∃ V, V = Xc.alloc (.cells #[.int .i64 u.kind, .string u.text, .int .i64 u.n, .slice Au u.sh.length cau, .slice Bu u.at_.length cbu, .slice Ku u.kids.length cku, .int .i64 v.kind, .string v.text, .int .i64 v.n, .slice Av v.sh.length cav, .slice Bv v.at_.length cbv, .slice Kv v.kids.length ckv] TTm) := ⟨_, rfl⟩
  obtain ⟨gc1, hg⟩ : ∃ g, g = Xc.heap.size := ⟨_, rfl⟩
  have hKV : KidsAt Vc1 (some ⟨gc1, 0, none⟩) [u, v] 0 := by
    rw [hV, hg]
    refine row_new_at (w := Xc) [(u, Au, cau, Bu, cbu, Ku, cku), (v, Av, cav, Bv, cbv, Kv, ckv)] (fun x hx => by
      simp only [List.mem_cons, List.not_mem_nil, or_false] at hx
      rcases hx with rfl | rfl
      · exact (BOW.out Xc HXc.out).1
      · exact (BOW.out Xc HXc.out).2) rfl
  have hbV : Below Xc.heap.size Xc Vc1 := by rw [hV]; exact (Below.refl _ _).alloc (Nat.le_refl _) _
  have HBc1 := Lib.hid (HXc.out.then_ hbV)
  have HKc1 := Lib.hid hKV
  rw [← hV, ← hg]
  clear hV hg hKV hbV
  refine hK.out _ _ HBc1.out (fun hHeld => ?_)
  clear hK K
  refine wpAnyH_ready (rs := [5]) (by kernel_rfl) (by simp) ?_
  refine AllReadyH.cons rfl (fun K hK => ?_) AllReadyH.nil
  go_simp
  go_at_call 32
  refine (of16_any 29 [u, v] gc1 0 2 2 Vc1 HKc1.out rfl (by decide) (by decide)).mono ?_
  rintro e Pc2 ⟨hc2, cc2, rfl, hta, hb⟩
  have HBc2 := Lib.hid (HBc1.out.then_ hb)
  have HTc2 := Lib.hid hta
  clear hta hb
  refine hK.out _ _ HBc2.out (fun hHeld => ?_)
  clear hK K
  refine wpAnyH_ready (rs := [7]) (by kernel_rfl) (by simp) ?_
  refine AllReadyH.cons rfl (fun K hK => ?_) AllReadyH.nil
  go_simp
  go_at_call 33
  refine (ranks16_any (tOf 29 [u, v]) none 0 none 0 (some ⟨hc2, 0, none⟩) cc2 ⟨64, 64, 64⟩ Pc2 HTc2.out (WF2.out 29 ⟨by decide, by decide⟩) (by rw [ranks_of (MO.out.two 29 (by decide))]) (by rw [ranks_of (MO.out.two 29 (by decide)), rkm_29]; try rfl)).mono ?_
  rintro e Pc3 ⟨rfl, hb⟩
  have HBc3 := Lib.hid (HBc2.out.then_ hb)
  clear hb
  refine hK.out _ _ HBc3.out (fun hHeld => ?_)
  clear hK K
  refine take_still (i := 8) (d := some 135) (v := .bool true) rfl rfl (by kernel_rfl) (by kernel_rfl) (by kernel_rfl) (fun _ _ _ h => HP.out _ _ _ _ _ h) (Or.inl ⟨by rfl, ?_⟩) hHeld ?_
  · intro W hSw; go_simp; try with_reducible rfl
  try simp only [Act.put, List.setIfInBounds_toArray, List.set_cons_zero, List.set_cons_succ]
  refine take_still (i := 9) (d := some 136) (v := .bool true) rfl rfl (by kernel_rfl) (by kernel_rfl) (by kernel_rfl) (fun _ _ _ h => HP.out _ _ _ _ _ h) (Or.inl ⟨by rfl, ?_⟩) hHeld ?_
  · intro W hSw; go_simp; try with_reducible rfl
  try simp only [Act.put, List.setIfInBounds_toArray, List.set_cons_zero, List.set_cons_succ]
  refine take_still (i := 10) (d := some 137) (v := .agg #[.int .i64 u.kind, .string u.text, .int .i64 u.n, .slice Au u.sh.length cau, .slice Bu u.at_.length cbu, .slice Ku u.kids.length cku]) rfl rfl (by kernel_rfl) (by kernel_rfl) (by kernel_rfl) (fun _ _ _ h => HP.out _ _ _ _ _ h) (Or.inl ⟨by rfl, ?_⟩) hHeld ?_
  · intro W hSw; obtain ⟨u0, u1, u2, u3, u4, u5, ul, v0, v1, v2, v3, v4, v5, vl, a0, a1, a2, al, b0, b1, b2, bl, c0, c1, c2, cl⟩ := FC.out W hSw; go_simp; try with_reducible rfl
  try simp only [Act.put, List.setIfInBounds_toArray, List.set_cons_zero, List.set_cons_succ]
  refine take_still (i := 11) (d := some 138) (v := .agg #[.int .i64 v.kind, .string v.text, .int .i64 v.n, .slice Av v.sh.length cav, .slice Bv v.at_.length cbv, .slice Kv v.kids.length ckv]) rfl rfl (by kernel_rfl) (by kernel_rfl) (by kernel_rfl) (fun _ _ _ h => HP.out _ _ _ _ _ h) (Or.inl ⟨by rfl, ?_⟩) hHeld ?_
  · intro W hSw; obtain ⟨u0, u1, u2, u3, u4, u5, ul, v0, v1, v2, v3, v4, v5, vl, a0, a1, a2, al, b0, b1, b2, bl, c0, c1, c2, cl⟩ := FC.out W hSw; go_simp; try with_reducible rfl
  try simp only [Act.put, List.setIfInBounds_toArray, List.set_cons_zero, List.set_cons_succ]
  refine take_still (i := 12) (d := some 139) (v := .agg #[.int .i64 u.kind, .string u.text, .int .i64 u.n, .slice Au u.sh.length cau, .slice Bu u.at_.length cbu, .slice Ku u.kids.length cku]) rfl rfl (by kernel_rfl) (by kernel_rfl) (by kernel_rfl) (fun _ _ _ h => HP.out _ _ _ _ _ h) (Or.inl ⟨by rfl, ?_⟩) hHeld ?_
  · intro W hSw; obtain ⟨u0, u1, u2, u3, u4, u5, ul, v0, v1, v2, v3, v4, v5, vl, a0, a1, a2, al, b0, b1, b2, bl, c0, c1, c2, cl⟩ := FC.out W hSw; go_simp; try with_reducible rfl
  try simp only [Act.put, List.setIfInBounds_toArray, List.set_cons_zero, List.set_cons_succ]
  refine take_still (i := 15) (d := some 142) (v := .agg #[.int .i64 64, .int .i64 64, .int .i64 64]) rfl rfl (by kernel_rfl) (by kernel_rfl) (by kernel_rfl) (fun _ _ _ h => HP.out _ _ _ _ _ h) (Or.inl ⟨by rfl, ?_⟩) hHeld ?_
  · intro W hSw; obtain ⟨u0, u1, u2, u3, u4, u5, ul, v0, v1, v2, v3, v4, v5, vl, a0, a1, a2, al, b0, b1, b2, bl, c0, c1, c2, cl⟩ := FC.out W hSw; go_simp; try with_reducible rfl
  try simp only [Act.put, List.setIfInBounds_toArray, List.set_cons_zero, List.set_cons_succ]
  refine wpAnyH_ready (rs := [13]) (by kernel_rfl) (by simp) ?_
  refine AllReadyH.cons rfl (fun K hK => ?_) AllReadyH.nil
  go_simp
  obtain ⟨Vc4, hV⟩ : ∃ V, V = Pc3.alloc (.cells #[.int .i64 u.kind, .string u.text, .int .i64 u.n, .slice Au u.sh.length cau, .slice Bu u.at_.length cbu, .slice Ku u.kids.length cku, .int .i64 v.kind, .string v.text, .int .i64 v.n, .slice Av v.sh.length cav, .slice Bv v.at_.length cbv, .slice Kv v.kids.length ckv, .int .i64 u.kind, .string u.text, .int .i64 u.n, .slice Au u.sh.length cau, .slice Bu u.at_.length cbu, .slice Ku u.kids.length cku] TTm) := ⟨_, rfl⟩
  obtain ⟨gc4, hg⟩ : ∃ g, g = Pc3.heap.size := ⟨_, rfl⟩
  have hKV : KidsAt Vc4 (some ⟨gc4, 0, none⟩) [u, v, u] 0 := by
    rw [hV, hg]
    refine row_new_at (w := Pc3) [(u, Au, cau, Bu, cbu, Ku, cku), (v, Av, cav, Bv, cbv, Kv, ckv), (u, Au, cau, Bu, cbu, Ku, cku)] (fun x hx => by
      simp only [List.mem_cons, List.not_mem_nil, or_false] at hx
      rcases hx with rfl | rfl | rfl
      · exact (BOW.out Pc3 HBc3.out).1
      · exact (BOW.out Pc3 HBc3.out).2
      · exact (BOW.out Pc3 HBc3.out).1) rfl
  have hbV : Below Pc3.heap.size Pc3 Vc4 := by rw [hV]; exact (Below.refl _ _).alloc (Nat.le_refl _) _
  have HBc4 := Lib.hid (HBc3.out.then_ hbV)
  have HKc4 := Lib.hid hKV
  rw [← hV, ← hg]
  clear hV hg hKV hbV
  refine hK.out _ _ HBc4.out (fun hHeld => ?_)
  clear hK K
  refine wpAnyH_ready (rs := [14]) (by kernel_rfl) (by simp) ?_
  refine AllReadyH.cons rfl (fun K hK => ?_) AllReadyH.nil
  go_simp
  go_at_call 32
  refine (of16_any 45 [u, v, u] gc4 0 3 3 Vc4 HKc4.out rfl (by decide) (by decide)).mono ?_
  rintro e Pc5 ⟨hc5, cc5, rfl, hta, hb⟩
  have HBc5 := Lib.hid (HBc4.out.then_ hb)
  have HTc5 := Lib.hid hta
  clear hta hb
  refine hK.out _ _ HBc5.out (fun hHeld => ?_)
  clear hK K
  refine wpAnyH_ready (rs := [16]) (by kernel_rfl) (by simp) ?_
  refine AllReadyH.cons rfl (fun K hK => ?_) AllReadyH.nil
  go_simp
  go_at_call 33
  refine (ranks16_any (tOf 45 [u, v, u]) none 0 none 0 (some ⟨hc5, 0, none⟩) cc5 ⟨64, 64, 64⟩ Pc5 HTc5.out WFF.out (by rw [ranks_of MO.out.fork]) (by rw [ranks_of MO.out.fork, rkm_45]; try rfl)).mono ?_
  rintro e Pc6 ⟨rfl, hb⟩
  have HBc6 := Lib.hid (HBc5.out.then_ hb)
  clear hb
  refine hK.out _ _ HBc6.out (fun hHeld => ?_)
  clear hK K
  refine take_still (i := 17) (d := some 144) (v := .bool true) rfl rfl (by kernel_rfl) (by kernel_rfl) (by kernel_rfl) (fun _ _ _ h => HP.out _ _ _ _ _ h) (Or.inl ⟨by rfl, ?_⟩) hHeld ?_
  · intro W hSw; go_simp; try with_reducible rfl
  try simp only [Act.put, List.setIfInBounds_toArray, List.set_cons_zero, List.set_cons_succ]
  refine take_still (i := 18) (d := some 145) (v := .bool true) rfl rfl (by kernel_rfl) (by kernel_rfl) (by kernel_rfl) (fun _ _ _ h => HP.out _ _ _ _ _ h) (Or.inl ⟨by rfl, ?_⟩) hHeld ?_
  · intro W hSw; go_simp; try with_reducible rfl
  try simp only [Act.put, List.setIfInBounds_toArray, List.set_cons_zero, List.set_cons_succ]
  refine take_still (i := 19) (d := some 146) (v := .agg #[.int .i64 u.kind, .string u.text, .int .i64 u.n, .slice Au u.sh.length cau, .slice Bu u.at_.length cbu, .slice Ku u.kids.length cku]) rfl rfl (by kernel_rfl) (by kernel_rfl) (by kernel_rfl) (fun _ _ _ h => HP.out _ _ _ _ _ h) (Or.inl ⟨by rfl, ?_⟩) hHeld ?_
  · intro W hSw; obtain ⟨u0, u1, u2, u3, u4, u5, ul, v0, v1, v2, v3, v4, v5, vl, a0, a1, a2, al, b0, b1, b2, bl, c0, c1, c2, cl⟩ := FC.out W hSw; go_simp; try with_reducible rfl
  try simp only [Act.put, List.setIfInBounds_toArray, List.set_cons_zero, List.set_cons_succ]
  refine take_still (i := 20) (d := some 147) (v := .agg #[.int .i64 v.kind, .string v.text, .int .i64 v.n, .slice Av v.sh.length cav, .slice Bv v.at_.length cbv, .slice Kv v.kids.length ckv]) rfl rfl (by kernel_rfl) (by kernel_rfl) (by kernel_rfl) (fun _ _ _ h => HP.out _ _ _ _ _ h) (Or.inl ⟨by rfl, ?_⟩) hHeld ?_
  · intro W hSw; obtain ⟨u0, u1, u2, u3, u4, u5, ul, v0, v1, v2, v3, v4, v5, vl, a0, a1, a2, al, b0, b1, b2, bl, c0, c1, c2, cl⟩ := FC.out W hSw; go_simp; try with_reducible rfl
  try simp only [Act.put, List.setIfInBounds_toArray, List.set_cons_zero, List.set_cons_succ]
  refine take_still (i := 23) (d := some 150) (v := .agg #[.int .i64 64, .int .i64 64, .int .i64 64]) rfl rfl (by kernel_rfl) (by kernel_rfl) (by kernel_rfl) (fun _ _ _ h => HP.out _ _ _ _ _ h) (Or.inl ⟨by rfl, ?_⟩) hHeld ?_
  · intro W hSw; obtain ⟨u0, u1, u2, u3, u4, u5, ul, v0, v1, v2, v3, v4, v5, vl, a0, a1, a2, al, b0, b1, b2, bl, c0, c1, c2, cl⟩ := FC.out W hSw; go_simp; try with_reducible rfl
  try simp only [Act.put, List.setIfInBounds_toArray, List.set_cons_zero, List.set_cons_succ]
  refine wpAnyH_ready (rs := [21]) (by kernel_rfl) (by simp) ?_
  refine AllReadyH.cons rfl (fun K hK => ?_) AllReadyH.nil
  go_simp
  obtain ⟨Vc7, hV⟩ : ∃ V, V = Pc6.alloc (.cells #[.int .i64 u.kind, .string u.text, .int .i64 u.n, .slice Au u.sh.length cau, .slice Bu u.at_.length cbu, .slice Ku u.kids.length cku, .int .i64 v.kind, .string v.text, .int .i64 v.n, .slice Av v.sh.length cav, .slice Bv v.at_.length cbv, .slice Kv v.kids.length ckv] TTm) := ⟨_, rfl⟩
  obtain ⟨gc7, hg⟩ : ∃ g, g = Pc6.heap.size := ⟨_, rfl⟩
  have hKV : KidsAt Vc7 (some ⟨gc7, 0, none⟩) [u, v] 0 := by
    rw [hV, hg]
    refine row_new_at (w := Pc6) [(u, Au, cau, Bu, cbu, Ku, cku), (v, Av, cav, Bv, cbv, Kv, ckv)] (fun x hx => by
      simp only [List.mem_cons, List.not_mem_nil, or_false] at hx
      rcases hx with rfl | rfl
      · exact (BOW.out Pc6 HBc6.out).1
      · exact (BOW.out Pc6 HBc6.out).2) rfl
  have hbV : Below Pc6.heap.size Pc6 Vc7 := by rw [hV]; exact (Below.refl _ _).alloc (Nat.le_refl _) _
  have HBc7 := Lib.hid (HBc6.out.then_ hbV)
  have HKc7 := Lib.hid hKV
  rw [← hV, ← hg]
  clear hV hg hKV hbV
  refine hK.out _ _ HBc7.out (fun hHeld => ?_)
  clear hK K
  refine wpAnyH_ready (rs := [22]) (by kernel_rfl) (by simp) ?_
  refine AllReadyH.cons rfl (fun K hK => ?_) AllReadyH.nil
  go_simp
  go_at_call 32
  refine (of16_any 44 [u, v] gc7 0 2 2 Vc7 HKc7.out rfl (by decide) (by decide)).mono ?_
  rintro e Pc8 ⟨hc8, cc8, rfl, hta, hb⟩
  have HBc8 := Lib.hid (HBc7.out.then_ hb)
  have HTc8 := Lib.hid hta
  clear hta hb
  refine hK.out _ _ HBc8.out (fun hHeld => ?_)
  clear hK K
  refine wpAnyH_ready (rs := [24]) (by kernel_rfl) (by simp) ?_
  refine AllReadyH.cons rfl (fun K hK => ?_) AllReadyH.nil
  go_simp
  go_at_call 33
  refine (ranks16_any (tOf 44 [u, v]) none 0 none 0 (some ⟨hc8, 0, none⟩) cc8 ⟨64, 64, 64⟩ Pc8 HTc8.out (WF2.out 44 ⟨by decide, by decide⟩) (by rw [ranks_of (MO.out.two 44 (by decide))]) (by rw [ranks_of (MO.out.two 44 (by decide)), rkm_44]; try rfl)).mono ?_
  rintro e Pc9 ⟨rfl, hb⟩
  have HBc9 := Lib.hid (HBc8.out.then_ hb)
  clear hb
  refine hK.out _ _ HBc9.out (fun hHeld => ?_)
  clear hK K
  refine take_still (i := 25) (d := some 152) (v := .bool true) rfl rfl (by kernel_rfl) (by kernel_rfl) (by kernel_rfl) (fun _ _ _ h => HP.out _ _ _ _ _ h) (Or.inl ⟨by rfl, ?_⟩) hHeld ?_
  · intro W hSw; go_simp; try with_reducible rfl
  try simp only [Act.put, List.setIfInBounds_toArray, List.set_cons_zero, List.set_cons_succ]
  refine take_still (i := 26) (d := some 153) (v := .bool true) rfl rfl (by kernel_rfl) (by kernel_rfl) (by kernel_rfl) (fun _ _ _ h => HP.out _ _ _ _ _ h) (Or.inl ⟨by rfl, ?_⟩) hHeld ?_
  · intro W hSw; go_simp; try with_reducible rfl
  try simp only [Act.put, List.setIfInBounds_toArray, List.set_cons_zero, List.set_cons_succ]
  refine take_still (i := 27) (d := some 154) (v := .agg #[.int .i64 u.kind, .string u.text, .int .i64 u.n, .slice Au u.sh.length cau, .slice Bu u.at_.length cbu, .slice Ku u.kids.length cku]) rfl rfl (by kernel_rfl) (by kernel_rfl) (by kernel_rfl) (fun _ _ _ h => HP.out _ _ _ _ _ h) (Or.inl ⟨by rfl, ?_⟩) hHeld ?_
  · intro W hSw; obtain ⟨u0, u1, u2, u3, u4, u5, ul, v0, v1, v2, v3, v4, v5, vl, a0, a1, a2, al, b0, b1, b2, bl, c0, c1, c2, cl⟩ := FC.out W hSw; go_simp; try with_reducible rfl
  try simp only [Act.put, List.setIfInBounds_toArray, List.set_cons_zero, List.set_cons_succ]
  refine take_still (i := 30) (d := some 157) (v := .agg #[.int .i64 64, .int .i64 64, .int .i64 64]) rfl rfl (by kernel_rfl) (by kernel_rfl) (by kernel_rfl) (fun _ _ _ h => HP.out _ _ _ _ _ h) (Or.inl ⟨by rfl, ?_⟩) hHeld ?_
  · intro W hSw; obtain ⟨u0, u1, u2, u3, u4, u5, ul, v0, v1, v2, v3, v4, v5, vl, a0, a1, a2, al, b0, b1, b2, bl, c0, c1, c2, cl⟩ := FC.out W hSw; go_simp; try with_reducible rfl
  try simp only [Act.put, List.setIfInBounds_toArray, List.set_cons_zero, List.set_cons_succ]
  refine wpAnyH_ready (rs := [28]) (by kernel_rfl) (by simp) ?_
  refine AllReadyH.cons rfl (fun K hK => ?_) AllReadyH.nil
  go_simp
  obtain ⟨Vc10, hV⟩ : ∃ V, V = Pc9.alloc (.cells #[.int .i64 u.kind, .string u.text, .int .i64 u.n, .slice Au u.sh.length cau, .slice Bu u.at_.length cbu, .slice Ku u.kids.length cku] TTm) := ⟨_, rfl⟩
  obtain ⟨gc10, hg⟩ : ∃ g, g = Pc9.heap.size := ⟨_, rfl⟩
  have hKV : KidsAt Vc10 (some ⟨gc10, 0, none⟩) [u] 0 := by
    rw [hV, hg]
    refine row_new_at (w := Pc9) [(u, Au, cau, Bu, cbu, Ku, cku)] (fun x hx => by
      simp only [List.mem_cons, List.not_mem_nil, or_false] at hx
      subst hx
      · exact (BOW.out Pc9 HBc9.out).1) rfl
  have hbV : Below Pc9.heap.size Pc9 Vc10 := by rw [hV]; exact (Below.refl _ _).alloc (Nat.le_refl _) _
  have HBc10 := Lib.hid (HBc9.out.then_ hbV)
  have HKc10 := Lib.hid hKV
  rw [← hV, ← hg]
  clear hV hg hKV hbV
  refine hK.out _ _ HBc10.out (fun hHeld => ?_)
  clear hK K
  refine wpAnyH_ready (rs := [29]) (by kernel_rfl) (by simp) ?_
  refine AllReadyH.cons rfl (fun K hK => ?_) AllReadyH.nil
  go_simp
  go_at_call 32
  refine (of16_any 24 [u] gc10 0 1 1 Vc10 HKc10.out rfl (by decide) (by decide)).mono ?_
  rintro e Pc11 ⟨hc11, cc11, rfl, hta, hb⟩
  have HBc11 := Lib.hid (HBc10.out.then_ hb)
  have HTc11 := Lib.hid hta
  clear hta hb
  refine hK.out _ _ HBc11.out (fun hHeld => ?_)
  clear hK K
  refine wpAnyH_ready (rs := [31]) (by kernel_rfl) (by simp) ?_
  refine AllReadyH.cons rfl (fun K hK => ?_) AllReadyH.nil
  go_simp
  go_at_call 33
  refine (ranks16_any (tOf 24 [u]) none 0 none 0 (some ⟨hc11, 0, none⟩) cc11 ⟨64, 64, 64⟩ Pc11 HTc11.out (WF1.out 24 ⟨by decide, by decide⟩) (by rw [ranks_of (MO.out.one 24 (by decide))]) (by rw [ranks_of (MO.out.one 24 (by decide)), rkm_24]; try rfl)).mono ?_
  rintro e Pc12 ⟨rfl, hb⟩
  have HBc12 := Lib.hid (HBc11.out.then_ hb)
  clear hb
  refine hK.out _ _ HBc12.out (fun hHeld => ?_)
  clear hK K
  refine take_still (i := 32) (d := some 159) (v := .bool true) rfl rfl (by kernel_rfl) (by kernel_rfl) (by kernel_rfl) (fun _ _ _ h => HP.out _ _ _ _ _ h) (Or.inl ⟨by rfl, ?_⟩) hHeld ?_
  · intro W hSw; go_simp; try with_reducible rfl
  try simp only [Act.put, List.setIfInBounds_toArray, List.set_cons_zero, List.set_cons_succ]
  refine take_still (i := 33) (d := some 10) (v := .bool true) rfl rfl (by kernel_rfl) (by kernel_rfl) (by kernel_rfl) (fun _ _ _ h => HP.out _ _ _ _ _ h) (Or.inl ⟨by rfl, ?_⟩) hHeld ?_
  · intro W hSw; go_simp; try with_reducible rfl
  try simp only [Act.put, List.setIfInBounds_toArray, List.set_cons_zero, List.set_cons_succ]
  refine wpAnyH_done (by kernel_rfl) ?_ _
  change K _ _
  exact HK0.out _ _ _ _ _ _ _ _ _ _ _ _ _ _ _ _ _ _ _ _ _ _ _ _ _ _ _ _ _ _ _ _ _ _ HBc12.out

set_option maxRecDepth 100000 in
set_option maxHeartbeats 100000000 in
theorem made18 {u v : Tm} {Au : Option Addr} {cau : Nat} {Bu : Option Addr} {cbu : Nat} {Ku : Option Addr} {cku : Nat} {Av : Option Addr} {cav : Nat} {Bv : Option Addr} {cbv : Nat} {Kv : Option Addr} {ckv : Nat} {w W0 : World} {gu gv : Nat} (cx : MadeCx u v Au cau Bu cbu Ku cku Av cav Bv cbv Kv ckv w W0 gu gv) {i : Nat} (hn0 : (i : Int) = 1 ∨ (i : Int) = 2) {W : World} (hB : Below W0.heap.size W0 W) {K : Act → World → Prop} {Q' : Exit → Act → World → Prop} {s0 s1 s4 s6 s8 s12 s13 s14 s15 s16 s17 s18 s19 s20 s21 s22 s23 s24 s25 s26 s27 s28 s29 s30 s31 s32 s33 s34 s35 s36 s37 s38 s39 s40 s41 s42 s43 s44 s45 s46 s47 s48 s49 s50 s51 s52 s53 s54 s55 s56 s57 s58 s59 s60 s61 s62 s63 s64 s65 s66 s67 s68 s69 s70 s71 s72 s73 s74 s75 s76 s77 s78 s79 s80 s81 s82 s83 s84 s85 s86 s87 s88 s89 s90 s91 s92 s93 s94 s95 s96 s97 s98 s99 s100 s101 s102 s103 s104 s105 s106 s107 s108 s109 s110 s111 s112 s113 s114 s115 s116 s117 s118 s119 s120 s121 s122 s123 s124 s125 s126 s127 s128 s129 s130 s131 s132 s133 s134 s135 s136 s137 s138 s139 s140 s141 s142 s143 s144 s145 s146 s147 s148 s149 s150 s151 s152 s153 s154 s155 s156 s157 s158 s159 s160 s161 s162 s163 s164 s165 s166 s167 s168 s169 s170 s171 s172 s173 s174 s175 s176 s177 s178 s179 s180 s181 s182 s183 s184 s185 s186 s187 s188 s189 s190 s191 s192 s193 s194 s195 s196 s197 s198 s199 s200 s201 s202 s203 s204 s205 s206 s207 s208 s209 s210 s211 s212 s213 s214 s215 s216 s217 s218 s219 s220 s221 s222 s223 s224 s225 s226 s227 s228 s229 s230 s231 s232 s233 s234 s235 s236 s237 s238 s239 s240 s241 s242 s243 s244 s245 s246 s247 s248 s249 s250 s251 s252 s253 s254 s255 s256 s257 s258 s259 s260 s261 s262 s263 s264 s265 s266 s267 s268 s269 s270 s271 s272 s273 s274 s275 s276 s277 s278 : Value}
    (hP : ∀ c (a : Act) d v w, Q' (.panic c) (a.put (some d) v) w → Q' (.panic c) a w) (hK : ∀ (r166 r167 r168 r169 r170 r171 : Value) (W' : World), Below W0.heap.size W0 W' → K { tmps := List.toArray (s0 :: s1 :: (.pointer (some ⟨w.heap.size, 0, none⟩)) :: (.pointer (some ⟨w.heap.size + 1, 0, none⟩)) :: s4 :: (.pointer (some ⟨gu, 0, none⟩)) :: s6 :: (.pointer (some ⟨gv, 0, none⟩)) :: s8 :: (.pointer (some ⟨gv + 1, 0, none⟩)) :: (.bool true) :: (.int .i64 (i : Int)) :: (.bool (totT u (i : Int))) :: (.bool (totT v (i : Int))) :: s14 :: s15 :: s16 :: s17 :: s18 :: s19 :: s20 :: s21 :: s22 :: s23 :: s24 :: s25 :: s26 :: s27 :: s28 :: s29 :: s30 :: s31 :: s32 :: s33 :: s34 :: s35 :: s36 :: s37 :: s38 :: s39 :: s40 :: s41 :: s42 :: s43 :: s44 :: s45 :: s46 :: s47 :: s48 :: s49 :: s50 :: s51 :: s52 :: s53 :: s54 :: s55 :: s56 :: s57 :: s58 :: s59 :: s60 :: s61 :: s62 :: s63 :: s64 :: s65 :: s66 :: s67 :: s68 :: s69 :: s70 :: s71 :: s72 :: s73 :: s74 :: s75 :: s76 :: s77 :: s78 :: s79 :: s80 :: s81 :: s82 :: s83 :: s84 :: s85 :: s86 :: s87 :: s88 :: s89 :: s90 :: s91 :: s92 :: s93 :: s94 :: s95 :: s96 :: s97 :: s98 :: s99 :: s100 :: s101 :: s102 :: s103 :: s104 :: s105 :: s106 :: s107 :: s108 :: s109 :: s110 :: s111 :: s112 :: s113 :: s114 :: s115 :: s116 :: s117 :: s118 :: s119 :: s120 :: s121 :: s122 :: s123 :: s124 :: s125 :: s126 :: s127 :: s128 :: s129 :: s130 :: s131 :: s132 :: s133 :: s134 :: s135 :: s136 :: s137 :: s138 :: s139 :: s140 :: s141 :: s142 :: s143 :: s144 :: s145 :: s146 :: s147 :: s148 :: s149 :: s150 :: s151 :: s152 :: s153 :: s154 :: s155 :: s156 :: s157 :: s158 :: s159 :: s160 :: s161 :: s162 :: s163 :: s164 :: s165 :: r166 :: r167 :: r168 :: r169 :: r170 :: r171 :: s172 :: s173 :: s174 :: s175 :: s176 :: s177 :: s178 :: s179 :: s180 :: s181 :: s182 :: s183 :: s184 :: s185 :: s186 :: s187 :: s188 :: s189 :: s190 :: s191 :: s192 :: s193 :: s194 :: s195 :: s196 :: s197 :: s198 :: s199 :: s200 :: s201 :: s202 :: s203 :: s204 :: s205 :: s206 :: s207 :: s208 :: s209 :: s210 :: s211 :: s212 :: s213 :: s214 :: s215 :: s216 :: s217 :: s218 :: s219 :: s220 :: s221 :: s222 :: s223 :: s224 :: s225 :: s226 :: s227 :: s228 :: s229 :: s230 :: s231 :: s232 :: s233 :: s234 :: s235 :: s236 :: s237 :: s238 :: s239 :: s240 :: s241 :: s242 :: s243 :: s244 :: s245 :: s246 :: s247 :: s248 :: s249 :: s250 :: s251 :: s252 :: s253 :: s254 :: s255 :: s256 :: s257 :: s258 :: s259 :: s260 :: s261 :: s262 :: s263 :: s264 :: s265 :: s266 :: s267 :: s268 :: s269 :: s270 :: s271 :: s272 :: s273 :: s274 :: s275 :: s276 :: s277 :: s278 :: []), defers := [] } W') :
    Code.wp Tryz.prog (regOf Tryz.f6 18) (Exit.then K Q') { tmps := List.toArray (s0 :: s1 :: (.pointer (some ⟨w.heap.size, 0, none⟩)) :: (.pointer (some ⟨w.heap.size + 1, 0, none⟩)) :: s4 :: (.pointer (some ⟨gu, 0, none⟩)) :: s6 :: (.pointer (some ⟨gv, 0, none⟩)) :: s8 :: (.pointer (some ⟨gv + 1, 0, none⟩)) :: (.bool true) :: (.int .i64 (i : Int)) :: s12 :: s13 :: s14 :: s15 :: s16 :: s17 :: s18 :: s19 :: s20 :: s21 :: s22 :: s23 :: s24 :: s25 :: s26 :: s27 :: s28 :: s29 :: s30 :: s31 :: s32 :: s33 :: s34 :: s35 :: s36 :: s37 :: s38 :: s39 :: s40 :: s41 :: s42 :: s43 :: s44 :: s45 :: s46 :: s47 :: s48 :: s49 :: s50 :: s51 :: s52 :: s53 :: s54 :: s55 :: s56 :: s57 :: s58 :: s59 :: s60 :: s61 :: s62 :: s63 :: s64 :: s65 :: s66 :: s67 :: s68 :: s69 :: s70 :: s71 :: s72 :: s73 :: s74 :: s75 :: s76 :: s77 :: s78 :: s79 :: s80 :: s81 :: s82 :: s83 :: s84 :: s85 :: s86 :: s87 :: s88 :: s89 :: s90 :: s91 :: s92 :: s93 :: s94 :: s95 :: s96 :: s97 :: s98 :: s99 :: s100 :: s101 :: s102 :: s103 :: s104 :: s105 :: s106 :: s107 :: s108 :: s109 :: s110 :: s111 :: s112 :: s113 :: s114 :: s115 :: s116 :: s117 :: s118 :: s119 :: s120 :: s121 :: s122 :: s123 :: s124 :: s125 :: s126 :: s127 :: s128 :: s129 :: s130 :: s131 :: s132 :: s133 :: s134 :: s135 :: s136 :: s137 :: s138 :: s139 :: s140 :: s141 :: s142 :: s143 :: s144 :: s145 :: s146 :: s147 :: s148 :: s149 :: s150 :: s151 :: s152 :: s153 :: s154 :: s155 :: s156 :: s157 :: s158 :: s159 :: s160 :: s161 :: s162 :: s163 :: s164 :: s165 :: s166 :: s167 :: s168 :: s169 :: s170 :: s171 :: s172 :: s173 :: s174 :: s175 :: s176 :: s177 :: s178 :: s179 :: s180 :: s181 :: s182 :: s183 :: s184 :: s185 :: s186 :: s187 :: s188 :: s189 :: s190 :: s191 :: s192 :: s193 :: s194 :: s195 :: s196 :: s197 :: s198 :: s199 :: s200 :: s201 :: s202 :: s203 :: s204 :: s205 :: s206 :: s207 :: s208 :: s209 :: s210 :: s211 :: s212 :: s213 :: s214 :: s215 :: s216 :: s217 :: s218 :: s219 :: s220 :: s221 :: s222 :: s223 :: s224 :: s225 :: s226 :: s227 :: s228 :: s229 :: s230 :: s231 :: s232 :: s233 :: s234 :: s235 :: s236 :: s237 :: s238 :: s239 :: s240 :: s241 :: s242 :: s243 :: s244 :: s245 :: s246 :: s247 :: s248 :: s249 :: s250 :: s251 :: s252 :: s253 :: s254 :: s255 :: s256 :: s257 :: s258 :: s259 :: s260 :: s261 :: s262 :: s263 :: s264 :: s265 :: s266 :: s267 :: s268 :: s269 :: s270 :: s271 :: s272 :: s273 :: s274 :: s275 :: s276 :: s277 :: s278 :: []), defers := [] } W := by
  have FC := Lib.hid cx.fc
  have BOW := Lib.hid cx.bow
  have WU := Lib.hid cx.wu
  have WV := Lib.hid cx.wv
  have MO := Lib.hid cx.mo
  have WFF := Lib.hid cx.wff
  have WF2 := Lib.hid cx.wf2
  have WF1 := Lib.hid cx.wf1
  have HI := Lib.hid hB
  have HK0 := Lib.hid hK
  have HP := Lib.hid hP
  have hn := Lib.hid hn0
  clear hn0
  clear cx hB hK hP
  conv => arg 2; whnf
  refine wp_region_held_drew (S := (fun W => Below W0.heap.size W0 W)) (by kernel_rfl) HI.out.drew (fun hHeld => ?_)
  obtain ⟨Xd, hX⟩ : ∃ X, X = W.drew := ⟨_, rfl⟩
  have HXd : Hid (Below W0.heap.size W0 Xd) := Lib.hid (by rw [hX]; exact HI.out.drew)
  rw [← hX] at hHeld ⊢
  clear hX
  refine take_still (i := 0) (d := some 166) (v := .agg #[.int .i64 u.kind, .string u.text, .int .i64 u.n, .slice Au u.sh.length cau, .slice Bu u.at_.length cbu, .slice Ku u.kids.length cku]) rfl rfl (by kernel_rfl) (by kernel_rfl) (by kernel_rfl) (fun _ _ _ h => HP.out _ _ _ _ _ h) (Or.inl ⟨by rfl, ?_⟩) hHeld ?_
  · intro W hSw; obtain ⟨u0, u1, u2, u3, u4, u5, ul, v0, v1, v2, v3, v4, v5, vl, a0, a1, a2, al, b0, b1, b2, bl, c0, c1, c2, cl⟩ := FC.out W hSw; go_simp; try with_reducible rfl
  try simp only [Act.put, List.setIfInBounds_toArray, List.set_cons_zero, List.set_cons_succ]
  refine take_still (i := 1) (d := some 167) (v := .int .i64 (i : Int)) rfl rfl (by kernel_rfl) (by kernel_rfl) (by kernel_rfl) (fun _ _ _ h => HP.out _ _ _ _ _ h) (Or.inl ⟨by rfl, ?_⟩) hHeld ?_
  · intro W hSw; go_simp; try with_reducible rfl
  try simp only [Act.put, List.setIfInBounds_toArray, List.set_cons_zero, List.set_cons_succ]
  refine take_still (i := 3) (d := some 169) (v := .agg #[.int .i64 v.kind, .string v.text, .int .i64 v.n, .slice Av v.sh.length cav, .slice Bv v.at_.length cbv, .slice Kv v.kids.length ckv]) rfl rfl (by kernel_rfl) (by kernel_rfl) (by kernel_rfl) (fun _ _ _ h => HP.out _ _ _ _ _ h) (Or.inl ⟨by rfl, ?_⟩) hHeld ?_
  · intro W hSw; obtain ⟨u0, u1, u2, u3, u4, u5, ul, v0, v1, v2, v3, v4, v5, vl, a0, a1, a2, al, b0, b1, b2, bl, c0, c1, c2, cl⟩ := FC.out W hSw; go_simp; try with_reducible rfl
  try simp only [Act.put, List.setIfInBounds_toArray, List.set_cons_zero, List.set_cons_succ]
  refine take_still (i := 4) (d := some 170) (v := .int .i64 (i : Int)) rfl rfl (by kernel_rfl) (by kernel_rfl) (by kernel_rfl) (fun _ _ _ h => HP.out _ _ _ _ _ h) (Or.inl ⟨by rfl, ?_⟩) hHeld ?_
  · intro W hSw; go_simp; try with_reducible rfl
  try simp only [Act.put, List.setIfInBounds_toArray, List.set_cons_zero, List.set_cons_succ]
  refine wpAnyH_ready (rs := [2]) (by kernel_rfl) (by simp) ?_
  refine AllReadyH.cons rfl (fun K hK => ?_) AllReadyH.nil
  go_simp
  have HTT := Lib.hid (total_any u Au cau Bu cbu Ku cku (i : Int) Xd (BOW.out Xd HXd.out).1 WU.out)
  rw [total_of MO.out.mu hn.out] at HTT
  go_at_call 28
  refine HTT.out.mono ?_
  rintro e Pd1 ⟨rfl, hb⟩
  have HBd1 := Lib.hid (HXd.out.then_ hb)
  clear hb HTT
  refine hK.out _ _ HBd1.out (fun hHeld => ?_)
  clear hK K
  refine wpAnyH_ready (rs := [5]) (by kernel_rfl) (by simp) ?_
  refine AllReadyH.cons rfl (fun K hK => ?_) AllReadyH.nil
  go_simp
  have HTT := Lib.hid (total_any v Av cav Bv cbv Kv ckv (i : Int) Pd1 (BOW.out Pd1 HBd1.out).2 WV.out)
  rw [total_of MO.out.mv hn.out] at HTT
  go_at_call 28
  refine HTT.out.mono ?_
  rintro e Pd2 ⟨rfl, hb⟩
  have HBd2 := Lib.hid (HBd1.out.then_ hb)
  clear hb HTT
  refine hK.out _ _ HBd2.out (fun hHeld => ?_)
  clear hK K
  refine take_still (i := 6) (d := some 12) (v := .bool (totT u (i : Int))) rfl rfl (by kernel_rfl) (by kernel_rfl) (by kernel_rfl) (fun _ _ _ h => HP.out _ _ _ _ _ h) (Or.inl ⟨by rfl, ?_⟩) hHeld ?_
  · intro W hSw; go_simp; try with_reducible rfl
  try simp only [Act.put, List.setIfInBounds_toArray, List.set_cons_zero, List.set_cons_succ]
  refine take_still (i := 7) (d := some 13) (v := .bool (totT v (i : Int))) rfl rfl (by kernel_rfl) (by kernel_rfl) (by kernel_rfl) (fun _ _ _ h => HP.out _ _ _ _ _ h) (Or.inl ⟨by rfl, ?_⟩) hHeld ?_
  · intro W hSw; go_simp; try with_reducible rfl
  try simp only [Act.put, List.setIfInBounds_toArray, List.set_cons_zero, List.set_cons_succ]
  refine wpAnyH_done (by kernel_rfl) ?_ _
  change K _ _
  exact HK0.out _ _ _ _ _ _ _ HBd2.out

end Go.Proofs.YtebiojmfieoncaaGreat
