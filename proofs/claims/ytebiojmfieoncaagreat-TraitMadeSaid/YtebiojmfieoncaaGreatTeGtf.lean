/- TraitMade: region 19, one of four cases. No condition. -/
import Derived.Test.YtebiojmfieoncaaGreatTeG0
namespace Go.Proofs.YtebiojmfieoncaaGreat
open Go.RowKit


set_option maxRecDepth 100000 in
set_option maxHeartbeats 100000000 in
theorem made19tf {u v : Tm} {Au : Option Addr} {cau : Nat} {Bu : Option Addr} {cbu : Nat} {Ku : Option Addr} {cku : Nat} {Av : Option Addr} {cav : Nat} {Bv : Option Addr} {cbv : Nat} {Kv : Option Addr} {ckv : Nat} {w W0 : World} {gu gv : Nat} (cx : MadeCx u v Au cau Bu cbu Ku cku Av cav Bv cbv Kv ckv w W0 gu gv) {i : Nat} (hn0 : (i : Int) = 1 ∨ (i : Int) = 2) (hx0 : totT u (i : Int) = true) (hy0 : totT v (i : Int) = false) {W : World} (hB : Below W0.heap.size W0 W) {K : Act → World → Prop} {Q' : Exit → Act → World → Prop} {s0 s1 s4 s6 s8 s14 s15 s16 s17 s18 s19 s20 s21 s22 s23 s24 s25 s26 s27 s28 s29 s30 s31 s32 s33 s34 s35 s36 s37 s38 s39 s40 s41 s42 s43 s44 s45 s46 s47 s48 s49 s50 s51 s52 s53 s54 s55 s56 s57 s58 s59 s60 s61 s62 s63 s64 s65 s66 s67 s68 s69 s70 s71 s72 s73 s74 s75 s76 s77 s78 s79 s80 s81 s82 s83 s84 s85 s86 s87 s88 s89 s90 s91 s92 s93 s94 s95 s96 s97 s98 s99 s100 s101 s102 s103 s104 s105 s106 s107 s108 s109 s110 s111 s112 s113 s114 s115 s116 s117 s118 s119 s120 s121 s122 s123 s124 s125 s126 s127 s128 s129 s130 s131 s132 s133 s134 s135 s136 s137 s138 s139 s140 s141 s142 s143 s144 s145 s146 s147 s148 s149 s150 s151 s152 s153 s154 s155 s156 s157 s158 s159 s160 s161 s162 s163 s164 s165 s166 s167 s168 s169 s170 s171 s172 s173 s174 s175 s176 s177 s178 s179 s180 s181 s182 s183 s184 s185 s186 s187 s188 s189 s190 s191 s192 s193 s194 s195 s196 s197 s198 s199 s200 s201 s202 s203 s204 s205 s206 s207 s208 s209 s210 s211 s212 s213 s214 s215 s216 s217 s218 s219 s220 s221 s222 s223 s224 s225 s226 s227 s228 s229 s230 s231 s232 s233 s234 s235 s236 s237 s238 s239 s240 s241 s242 s243 s244 s245 s246 s247 s248 s249 s250 s251 s252 s253 s254 s255 s256 s257 s258 s259 s260 s261 s262 s263 s264 s265 s266 s267 s268 s269 s270 s271 s272 s273 s274 s275 s276 s277 s278 : Value}
    (hP : ∀ c (a : Act) d v w, Q' (.panic c) (a.put (some d) v) w → Q' (.panic c) a w) (hK : ∀ (r172 r173 r174 r175 r176 r177 r178 r179 r180 r181 r182 r183 r184 r185 r186 r187 r188 r189 r190 r191 r192 r193 r194 r195 r196 r197 r198 r199 r200 r201 r202 r203 r204 r205 r206 r207 : Value) (W' : World), Below W0.heap.size W0 W' → K { tmps := List.toArray (s0 :: s1 :: (.pointer (some ⟨w.heap.size, 0, none⟩)) :: (.pointer (some ⟨w.heap.size + 1, 0, none⟩)) :: s4 :: (.pointer (some ⟨gu, 0, none⟩)) :: s6 :: (.pointer (some ⟨gv, 0, none⟩)) :: s8 :: (.pointer (some ⟨gv + 1, 0, none⟩)) :: (.bool true) :: (.int .i64 (i : Int)) :: (.bool true) :: (.bool false) :: s14 :: s15 :: s16 :: s17 :: s18 :: s19 :: s20 :: s21 :: s22 :: s23 :: s24 :: s25 :: s26 :: s27 :: s28 :: s29 :: s30 :: s31 :: s32 :: s33 :: s34 :: s35 :: s36 :: s37 :: s38 :: s39 :: s40 :: s41 :: s42 :: s43 :: s44 :: s45 :: s46 :: s47 :: s48 :: s49 :: s50 :: s51 :: s52 :: s53 :: s54 :: s55 :: s56 :: s57 :: s58 :: s59 :: s60 :: s61 :: s62 :: s63 :: s64 :: s65 :: s66 :: s67 :: s68 :: s69 :: s70 :: s71 :: s72 :: s73 :: s74 :: s75 :: s76 :: s77 :: s78 :: s79 :: s80 :: s81 :: s82 :: s83 :: s84 :: s85 :: s86 :: s87 :: s88 :: s89 :: s90 :: s91 :: s92 :: s93 :: s94 :: s95 :: s96 :: s97 :: s98 :: s99 :: s100 :: s101 :: s102 :: s103 :: s104 :: s105 :: s106 :: s107 :: s108 :: s109 :: s110 :: s111 :: s112 :: s113 :: s114 :: s115 :: s116 :: s117 :: s118 :: s119 :: s120 :: s121 :: s122 :: s123 :: s124 :: s125 :: s126 :: s127 :: s128 :: s129 :: s130 :: s131 :: s132 :: s133 :: s134 :: s135 :: s136 :: s137 :: s138 :: s139 :: s140 :: s141 :: s142 :: s143 :: s144 :: s145 :: s146 :: s147 :: s148 :: s149 :: s150 :: s151 :: s152 :: s153 :: s154 :: s155 :: s156 :: s157 :: s158 :: s159 :: s160 :: s161 :: s162 :: s163 :: s164 :: s165 :: s166 :: s167 :: s168 :: s169 :: s170 :: s171 :: r172 :: r173 :: r174 :: r175 :: r176 :: r177 :: r178 :: r179 :: r180 :: r181 :: r182 :: r183 :: r184 :: r185 :: r186 :: r187 :: r188 :: r189 :: r190 :: r191 :: r192 :: r193 :: r194 :: r195 :: r196 :: r197 :: r198 :: r199 :: r200 :: r201 :: r202 :: r203 :: r204 :: r205 :: r206 :: r207 :: (.bool false) :: s209 :: s210 :: s211 :: s212 :: s213 :: s214 :: s215 :: s216 :: s217 :: s218 :: s219 :: s220 :: s221 :: s222 :: s223 :: s224 :: s225 :: s226 :: s227 :: s228 :: s229 :: s230 :: s231 :: s232 :: s233 :: s234 :: s235 :: s236 :: s237 :: s238 :: s239 :: s240 :: s241 :: s242 :: s243 :: s244 :: s245 :: s246 :: s247 :: s248 :: s249 :: s250 :: s251 :: s252 :: s253 :: s254 :: s255 :: s256 :: s257 :: s258 :: s259 :: s260 :: s261 :: s262 :: s263 :: s264 :: s265 :: s266 :: s267 :: s268 :: s269 :: s270 :: s271 :: s272 :: s273 :: s274 :: s275 :: s276 :: s277 :: s278 :: []), defers := [] } W') :
    Code.wp Tryz.prog (regOf Tryz.f6 19) (Exit.then K Q') { tmps := List.toArray (s0 :: s1 :: (.pointer (some ⟨w.heap.size, 0, none⟩)) :: (.pointer (some ⟨w.heap.size + 1, 0, none⟩)) :: s4 :: (.pointer (some ⟨gu, 0, none⟩)) :: s6 :: (.pointer (some ⟨gv, 0, none⟩)) :: s8 :: (.pointer (some ⟨gv + 1, 0, none⟩)) :: (.bool true) :: (.int .i64 (i : Int)) :: (.bool true) :: (.bool false) :: s14 :: s15 :: s16 :: s17 :: s18 :: s19 :: s20 :: s21 :: s22 :: s23 :: s24 :: s25 :: s26 :: s27 :: s28 :: s29 :: s30 :: s31 :: s32 :: s33 :: s34 :: s35 :: s36 :: s37 :: s38 :: s39 :: s40 :: s41 :: s42 :: s43 :: s44 :: s45 :: s46 :: s47 :: s48 :: s49 :: s50 :: s51 :: s52 :: s53 :: s54 :: s55 :: s56 :: s57 :: s58 :: s59 :: s60 :: s61 :: s62 :: s63 :: s64 :: s65 :: s66 :: s67 :: s68 :: s69 :: s70 :: s71 :: s72 :: s73 :: s74 :: s75 :: s76 :: s77 :: s78 :: s79 :: s80 :: s81 :: s82 :: s83 :: s84 :: s85 :: s86 :: s87 :: s88 :: s89 :: s90 :: s91 :: s92 :: s93 :: s94 :: s95 :: s96 :: s97 :: s98 :: s99 :: s100 :: s101 :: s102 :: s103 :: s104 :: s105 :: s106 :: s107 :: s108 :: s109 :: s110 :: s111 :: s112 :: s113 :: s114 :: s115 :: s116 :: s117 :: s118 :: s119 :: s120 :: s121 :: s122 :: s123 :: s124 :: s125 :: s126 :: s127 :: s128 :: s129 :: s130 :: s131 :: s132 :: s133 :: s134 :: s135 :: s136 :: s137 :: s138 :: s139 :: s140 :: s141 :: s142 :: s143 :: s144 :: s145 :: s146 :: s147 :: s148 :: s149 :: s150 :: s151 :: s152 :: s153 :: s154 :: s155 :: s156 :: s157 :: s158 :: s159 :: s160 :: s161 :: s162 :: s163 :: s164 :: s165 :: s166 :: s167 :: s168 :: s169 :: s170 :: s171 :: s172 :: s173 :: s174 :: s175 :: s176 :: s177 :: s178 :: s179 :: s180 :: s181 :: s182 :: s183 :: s184 :: s185 :: s186 :: s187 :: s188 :: s189 :: s190 :: s191 :: s192 :: s193 :: s194 :: s195 :: s196 :: s197 :: s198 :: s199 :: s200 :: s201 :: s202 :: s203 :: s204 :: s205 :: s206 :: s207 :: s208 :: s209 :: s210 :: s211 :: s212 :: s213 :: s214 :: s215 :: s216 :: s217 :: s218 :: s219 :: s220 :: s221 :: s222 :: s223 :: s224 :: s225 :: s226 :: s227 :: s228 :: s229 :: s230 :: s231 :: s232 :: s233 :: s234 :: s235 :: s236 :: s237 :: s238 :: s239 :: s240 :: s241 :: s242 :: s243 :: s244 :: s245 :: s246 :: s247 :: s248 :: s249 :: s250 :: s251 :: s252 :: s253 :: s254 :: s255 :: s256 :: s257 :: s258 :: s259 :: s260 :: s261 :: s262 :: s263 :: s264 :: s265 :: s266 :: s267 :: s268 :: s269 :: s270 :: s271 :: s272 :: s273 :: s274 :: s275 :: s276 :: s277 :: s278 :: []), defers := [] } W := by
  have FC := Lib.hid cx.fc
  have BOW := Lib.hid cx.bow
  have WU := Lib.hid cx.wu
  have WV := Lib.hid cx.wv
  have MO := Lib.hid cx.mo
  have WFF := Lib.hid cx.wff
  have WF2 := Lib.hid cx.wf2
  have WF1 := Lib.hid cx.wf1
  have HI := Lib.hid hB
  have HK0 := Lib.hid hK
  have HP := Lib.hid hP
  have hn := Lib.hid hn0
  have HX := Lib.hid hx0
  have HY := Lib.hid hy0
  clear hn0 hx0 hy0
  clear cx hB hK hP
  conv => arg 2; whnf
  refine wp_region_held_drew (S := (fun W => Below W0.heap.size W0 W)) (by kernel_rfl) HI.out.drew (fun hHeld => ?_)
  obtain ⟨Xe, hX⟩ : ∃ X, X = W.drew := ⟨_, rfl⟩
  have HXe : Hid (Below W0.heap.size W0 Xe) := Lib.hid (by rw [hX]; exact HI.out.drew)
  rw [← hX] at hHeld ⊢
  clear hX
  refine take_still (i := 0) (d := some 172) (v := .agg #[.int .i64 u.kind, .string u.text, .int .i64 u.n, .slice Au u.sh.length cau, .slice Bu u.at_.length cbu, .slice Ku u.kids.length cku]) rfl rfl (by kernel_rfl) (by kernel_rfl) (by kernel_rfl) (fun _ _ _ h => HP.out _ _ _ _ _ h) (Or.inl ⟨by rfl, ?_⟩) hHeld ?_
  · intro W hSw; obtain ⟨u0, u1, u2, u3, u4, u5, ul, v0, v1, v2, v3, v4, v5, vl, a0, a1, a2, al, b0, b1, b2, bl, c0, c1, c2, cl⟩ := FC.out W hSw; go_simp; try with_reducible rfl
  try simp only [Act.put, List.setIfInBounds_toArray, List.set_cons_zero, List.set_cons_succ]
  refine take_still (i := 1) (d := some 173) (v := .agg #[.int .i64 v.kind, .string v.text, .int .i64 v.n, .slice Av v.sh.length cav, .slice Bv v.at_.length cbv, .slice Kv v.kids.length ckv]) rfl rfl (by kernel_rfl) (by kernel_rfl) (by kernel_rfl) (fun _ _ _ h => HP.out _ _ _ _ _ h) (Or.inl ⟨by rfl, ?_⟩) hHeld ?_
  · intro W hSw; obtain ⟨u0, u1, u2, u3, u4, u5, ul, v0, v1, v2, v3, v4, v5, vl, a0, a1, a2, al, b0, b1, b2, bl, c0, c1, c2, cl⟩ := FC.out W hSw; go_simp; try with_reducible rfl
  try simp only [Act.put, List.setIfInBounds_toArray, List.set_cons_zero, List.set_cons_succ]
  refine take_still (i := 4) (d := some 176) (v := .int .i64 (i : Int)) rfl rfl (by kernel_rfl) (by kernel_rfl) (by kernel_rfl) (fun _ _ _ h => HP.out _ _ _ _ _ h) (Or.inl ⟨by rfl, ?_⟩) hHeld ?_
  · intro W hSw; go_simp; try with_reducible rfl
  try simp only [Act.put, List.setIfInBounds_toArray, List.set_cons_zero, List.set_cons_succ]
  refine take_still (i := 6) (d := some 178) (v := .bool false) rfl rfl (by kernel_rfl) (by kernel_rfl) (by kernel_rfl) (fun _ _ _ h => HP.out _ _ _ _ _ h) (Or.inl ⟨by rfl, ?_⟩) hHeld ?_
  · intro W hSw; go_simp; try with_reducible rfl
  try simp only [Act.put, List.setIfInBounds_toArray, List.set_cons_zero, List.set_cons_succ]
  refine wpAnyH_ready (rs := [2]) (by kernel_rfl) (by simp) ?_
  refine AllReadyH.cons rfl (fun K hK => ?_) AllReadyH.nil
  go_simp
  obtain ⟨Ve1, hV⟩ : ∃ V, V = Xe.alloc (.cells #[.int .i64 u.kind, .string u.text, .int .i64 u.n, .slice Au u.sh.length cau, .slice Bu u.at_.length cbu, .slice Ku u.kids.length cku, .int .i64 v.kind, .string v.text, .int .i64 v.n, .slice Av v.sh.length cav, .slice Bv v.at_.length cbv, .slice Kv v.kids.length ckv] TTm) := ⟨_, rfl⟩
  obtain ⟨ge1, hg⟩ : ∃ g, g = Xe.heap.size := ⟨_, rfl⟩
  have hKV : KidsAt Ve1 (some ⟨ge1, 0, none⟩) [u, v] 0 := by
    rw [hV, hg]
    refine row_new_at (w := Xe) [(u, Au, cau, Bu, cbu, Ku, cku), (v, Av, cav, Bv, cbv, Kv, ckv)] (fun x hx => by
      simp only [List.mem_cons, List.not_mem_nil, or_false] at hx
      rcases hx with rfl | rfl
      · exact (BOW.out Xe HXe.out).1
      · exact (BOW.out Xe HXe.out).2) rfl
  have hbV : Below Xe.heap.size Xe Ve1 := by rw [hV]; exact (Below.refl _ _).alloc (Nat.le_refl _) _
  have HBe1 := Lib.hid (HXe.out.then_ hbV)
  have HKe1 := Lib.hid hKV
  rw [← hV, ← hg]
  clear hV hg hKV hbV
  refine hK.out _ _ HBe1.out (fun hHeld => ?_)
  clear hK K
  refine wpAnyH_ready (rs := [3]) (by kernel_rfl) (by simp) ?_
  refine AllReadyH.cons rfl (fun K hK => ?_) AllReadyH.nil
  go_simp
  go_at_call 32
  refine (of16_any 29 [u, v] ge1 0 2 2 Ve1 HKe1.out rfl (by decide) (by decide)).mono ?_
  rintro e Pe2 ⟨he2, ce2, rfl, hta, hb⟩
  have HBe2 := Lib.hid (HBe1.out.then_ hb)
  have HTe2 := Lib.hid hta
  clear hta hb
  refine hK.out _ _ HBe2.out (fun hHeld => ?_)
  clear hK K
  refine wpAnyH_ready (rs := [5]) (by kernel_rfl) (by simp) ?_
  refine AllReadyH.cons rfl (fun K hK => ?_) AllReadyH.nil
  go_simp
  have HTT := Lib.hid (total_any (tOf 29 [u, v]) none 0 none 0 (some ⟨he2, 0, none⟩) ce2 (i : Int) Pe2 HTe2.out (WF2.out 29 ⟨by decide, by decide⟩))
  rw [total_of (MO.out.two 29 (by decide)) hn.out, tt_29, HY.out, Bool.false_and] at HTT
  go_at_call 28
  refine HTT.out.mono ?_
  rintro e Pe3 ⟨rfl, hb⟩
  have HBe3 := Lib.hid (HBe2.out.then_ hb)
  clear hb HTT
  refine hK.out _ _ HBe3.out (fun hHeld => ?_)
  clear hK K
  refine take_still (i := 7) (d := some 179) (v := .bool false) rfl rfl (by kernel_rfl) (by kernel_rfl) (by kernel_rfl) (fun _ _ _ h => HP.out _ _ _ _ _ h) (Or.inl ⟨by rfl, ?_⟩) hHeld ?_
  · intro W hSw; go_simp; try with_reducible rfl
  try simp only [Act.put, List.setIfInBounds_toArray, List.set_cons_zero, List.set_cons_succ]
  refine take_still (i := 8) (d := some 180) (v := undef) rfl rfl (by kernel_rfl) (by kernel_rfl) (by kernel_rfl) (fun _ _ _ h => HP.out _ _ _ _ _ h) (Or.inr ⟨by rfl, rfl⟩) hHeld ?_
  try simp only [Act.put, List.setIfInBounds_toArray, List.set_cons_zero, List.set_cons_succ]
  refine take_still (i := 9) (d := some 181) (v := undef) rfl rfl (by kernel_rfl) (by kernel_rfl) (by kernel_rfl) (fun _ _ _ h => HP.out _ _ _ _ _ h) (Or.inr ⟨by rfl, rfl⟩) hHeld ?_
  try simp only [Act.put, List.setIfInBounds_toArray, List.set_cons_zero, List.set_cons_succ]
  refine take_still (i := 10) (d := some 182) (v := .bool false) rfl rfl (by kernel_rfl) (by kernel_rfl) (by kernel_rfl) (fun _ _ _ h => HP.out _ _ _ _ _ h) (Or.inl ⟨by rfl, ?_⟩) hHeld ?_
  · intro W hSw; go_simp; try with_reducible rfl
  try simp only [Act.put, List.setIfInBounds_toArray, List.set_cons_zero, List.set_cons_succ]
  refine take_still (i := 11) (d := some 183) (v := .bool false) rfl rfl (by kernel_rfl) (by kernel_rfl) (by kernel_rfl) (fun _ _ _ h => HP.out _ _ _ _ _ h) (Or.inl ⟨by rfl, ?_⟩) hHeld ?_
  · intro W hSw; go_simp; try with_reducible rfl
  try simp only [Act.put, List.setIfInBounds_toArray, List.set_cons_zero, List.set_cons_succ]
  refine take_still (i := 12) (d := some 184) (v := .bool false) rfl rfl (by kernel_rfl) (by kernel_rfl) (by kernel_rfl) (fun _ _ _ h => HP.out _ _ _ _ _ h) (Or.inl ⟨by rfl, ?_⟩) hHeld ?_
  · intro W hSw; go_simp; try with_reducible rfl
  try simp only [Act.put, List.setIfInBounds_toArray, List.set_cons_zero, List.set_cons_succ]
  refine take_still (i := 13) (d := some 185) (v := .agg #[.int .i64 u.kind, .string u.text, .int .i64 u.n, .slice Au u.sh.length cau, .slice Bu u.at_.length cbu, .slice Ku u.kids.length cku]) rfl rfl (by kernel_rfl) (by kernel_rfl) (by kernel_rfl) (fun _ _ _ h => HP.out _ _ _ _ _ h) (Or.inl ⟨by rfl, ?_⟩) hHeld ?_
  · intro W hSw; obtain ⟨u0, u1, u2, u3, u4, u5, ul, v0, v1, v2, v3, v4, v5, vl, a0, a1, a2, al, b0, b1, b2, bl, c0, c1, c2, cl⟩ := FC.out W hSw; go_simp; try with_reducible rfl
  try simp only [Act.put, List.setIfInBounds_toArray, List.set_cons_zero, List.set_cons_succ]
  refine take_still (i := 14) (d := some 186) (v := .agg #[.int .i64 v.kind, .string v.text, .int .i64 v.n, .slice Av v.sh.length cav, .slice Bv v.at_.length cbv, .slice Kv v.kids.length ckv]) rfl rfl (by kernel_rfl) (by kernel_rfl) (by kernel_rfl) (fun _ _ _ h => HP.out _ _ _ _ _ h) (Or.inl ⟨by rfl, ?_⟩) hHeld ?_
  · intro W hSw; obtain ⟨u0, u1, u2, u3, u4, u5, ul, v0, v1, v2, v3, v4, v5, vl, a0, a1, a2, al, b0, b1, b2, bl, c0, c1, c2, cl⟩ := FC.out W hSw; go_simp; try with_reducible rfl
  try simp only [Act.put, List.setIfInBounds_toArray, List.set_cons_zero, List.set_cons_succ]
  refine take_still (i := 15) (d := some 187) (v := .agg #[.int .i64 u.kind, .string u.text, .int .i64 u.n, .slice Au u.sh.length cau, .slice Bu u.at_.length cbu, .slice Ku u.kids.length cku]) rfl rfl (by kernel_rfl) (by kernel_rfl) (by kernel_rfl) (fun _ _ _ h => HP.out _ _ _ _ _ h) (Or.inl ⟨by rfl, ?_⟩) hHeld ?_
  · intro W hSw; obtain ⟨u0, u1, u2, u3, u4, u5, ul, v0, v1, v2, v3, v4, v5, vl, a0, a1, a2, al, b0, b1, b2, bl, c0, c1, c2, cl⟩ := FC.out W hSw; go_simp; try with_reducible rfl
  try simp only [Act.put, List.setIfInBounds_toArray, List.set_cons_zero, List.set_cons_succ]
  refine take_still (i := 18) (d := some 190) (v := .int .i64 (i : Int)) rfl rfl (by kernel_rfl) (by kernel_rfl) (by kernel_rfl) (fun _ _ _ h => HP.out _ _ _ _ _ h) (Or.inl ⟨by rfl, ?_⟩) hHeld ?_
  · intro W hSw; go_simp; try with_reducible rfl
  try simp only [Act.put, List.setIfInBounds_toArray, List.set_cons_zero, List.set_cons_succ]
  refine take_still (i := 20) (d := some 192) (v := .bool true) rfl rfl (by kernel_rfl) (by kernel_rfl) (by kernel_rfl) (fun _ _ _ h => HP.out _ _ _ _ _ h) (Or.inl ⟨by rfl, ?_⟩) hHeld ?_
  · intro W hSw; go_simp; try with_reducible rfl
  try simp only [Act.put, List.setIfInBounds_toArray, List.set_cons_zero, List.set_cons_succ]
  refine wpAnyH_ready (rs := [16]) (by kernel_rfl) (by simp) ?_
  refine AllReadyH.cons rfl (fun K hK => ?_) AllReadyH.nil
  go_simp
  obtain ⟨Ve4, hV⟩ : ∃ V, V = Pe3.alloc (.cells #[.int .i64 u.kind, .string u.text, .int .i64 u.n, .slice Au u.sh.length cau, .slice Bu u.at_.length cbu, .slice Ku u.kids.length cku, .int .i64 v.kind, .string v.text, .int .i64 v.n, .slice Av v.sh.length cav, .slice Bv v.at_.length cbv, .slice Kv v.kids.length ckv, .int .i64 u.kind, .string u.text, .int .i64 u.n, .slice Au u.sh.length cau, .slice Bu u.at_.length cbu, .slice Ku u.kids.length cku] TTm) := ⟨_, rfl⟩
  obtain ⟨ge4, hg⟩ : ∃ g, g = Pe3.heap.size := ⟨_, rfl⟩
  have hKV : KidsAt Ve4 (some ⟨ge4, 0, none⟩) [u, v, u] 0 := by
    rw [hV, hg]
    refine row_new_at (w := Pe3) [(u, Au, cau, Bu, cbu, Ku, cku), (v, Av, cav, Bv, cbv, Kv, ckv), (u, Au, cau, Bu, cbu, Ku, cku)] (fun x hx => by
      simp only [List.mem_cons, List.not_mem_nil, or_false] at hx
      rcases hx with rfl | rfl | rfl
      · exact (BOW.out Pe3 HBe3.out).1
      · exact (BOW.out Pe3 HBe3.out).2
      · exact (BOW.out Pe3 HBe3.out).1) rfl
  have hbV : Below Pe3.heap.size Pe3 Ve4 := by rw [hV]; exact (Below.refl _ _).alloc (Nat.le_refl _) _
  have HBe4 := Lib.hid (HBe3.out.then_ hbV)
  have HKe4 := Lib.hid hKV
  rw [← hV, ← hg]
  clear hV hg hKV hbV
  refine hK.out _ _ HBe4.out (fun hHeld => ?_)
  clear hK K
  refine wpAnyH_ready (rs := [17]) (by kernel_rfl) (by simp) ?_
  refine AllReadyH.cons rfl (fun K hK => ?_) AllReadyH.nil
  go_simp
  go_at_call 32
  refine (of16_any 45 [u, v, u] ge4 0 3 3 Ve4 HKe4.out rfl (by decide) (by decide)).mono ?_
  rintro e Pe5 ⟨he5, ce5, rfl, hta, hb⟩
  have HBe5 := Lib.hid (HBe4.out.then_ hb)
  have HTe5 := Lib.hid hta
  clear hta hb
  refine hK.out _ _ HBe5.out (fun hHeld => ?_)
  clear hK K
  refine wpAnyH_ready (rs := [19]) (by kernel_rfl) (by simp) ?_
  refine AllReadyH.cons rfl (fun K hK => ?_) AllReadyH.nil
  go_simp
  have HTT := Lib.hid (total_any (tOf 45 [u, v, u]) none 0 none 0 (some ⟨he5, 0, none⟩) ce5 (i : Int) Pe5 HTe5.out WFF.out)
  rw [total_of MO.out.fork hn.out, tt_45, HX.out, Bool.true_and, Bool.true_and] at HTT
  go_at_call 28
  refine HTT.out.mono ?_
  rintro e Pe6 ⟨rfl, hb⟩
  have HBe6 := Lib.hid (HBe5.out.then_ hb)
  clear hb HTT
  refine hK.out _ _ HBe6.out (fun hHeld => ?_)
  clear hK K
  refine take_still (i := 21) (d := some 193) (v := .bool true) rfl rfl (by kernel_rfl) (by kernel_rfl) (by kernel_rfl) (fun _ _ _ h => HP.out _ _ _ _ _ h) (Or.inl ⟨by rfl, ?_⟩) hHeld ?_
  · intro W hSw; go_simp; try with_reducible rfl
  try simp only [Act.put, List.setIfInBounds_toArray, List.set_cons_zero, List.set_cons_succ]
  refine take_still (i := 22) (d := some 194) (v := .agg #[.int .i64 v.kind, .string v.text, .int .i64 v.n, .slice Av v.sh.length cav, .slice Bv v.at_.length cbv, .slice Kv v.kids.length ckv]) rfl rfl (by kernel_rfl) (by kernel_rfl) (by kernel_rfl) (fun _ _ _ h => HP.out _ _ _ _ _ h) (Or.inl ⟨by rfl, ?_⟩) hHeld ?_
  · intro W hSw; obtain ⟨u0, u1, u2, u3, u4, u5, ul, v0, v1, v2, v3, v4, v5, vl, a0, a1, a2, al, b0, b1, b2, bl, c0, c1, c2, cl⟩ := FC.out W hSw; go_simp; try with_reducible rfl
  try simp only [Act.put, List.setIfInBounds_toArray, List.set_cons_zero, List.set_cons_succ]
  refine wpAnyH_ready (rs := [23]) (by kernel_rfl) (by simp) ?_
  refine AllReadyH.cons rfl (fun K hK => ?_) AllReadyH.nil
  go_simp
  have HTT := Lib.hid (total_any v Av cav Bv cbv Kv ckv 2 Pe6 (BOW.out Pe6 HBe6.out).2 WV.out)
  rw [total_of MO.out.mv (.inr rfl)] at HTT
  go_at_call 28
  refine HTT.out.mono ?_
  rintro e Pe7 ⟨rfl, hb⟩
  have HBe7 := Lib.hid (HBe6.out.then_ hb)
  clear hb HTT
  refine hK.out _ _ HBe7.out (fun hHeld => ?_)
  clear hK K
  refine take_still (i := 24) (d := some 196) (v := .bool (totT v 2)) rfl rfl (by kernel_rfl) (by kernel_rfl) (by kernel_rfl) (fun _ _ _ h => HP.out _ _ _ _ _ h) (Or.inl ⟨by rfl, ?_⟩) hHeld ?_
  · intro W hSw; go_simp; try with_reducible rfl
  try simp only [Act.put, List.setIfInBounds_toArray, List.set_cons_zero, List.set_cons_succ]
  refine take_still (i := 25) (d := some 197) (v := .bool false) rfl rfl (by kernel_rfl) (by kernel_rfl) (by kernel_rfl) (fun _ _ _ h => HP.out _ _ _ _ _ h) (Or.inl ⟨by rfl, ?_⟩) hHeld ?_
  · intro W hSw; go_simp; try with_reducible rfl
  try simp only [Act.put, List.setIfInBounds_toArray, List.set_cons_zero, List.set_cons_succ]
  refine take_still (i := 26) (d := some 198) (v := .bool false) rfl rfl (by kernel_rfl) (by kernel_rfl) (by kernel_rfl) (fun _ _ _ h => HP.out _ _ _ _ _ h) (Or.inl ⟨by rfl, ?_⟩) hHeld ?_
  · intro W hSw; go_simp; try with_reducible rfl
  try simp only [Act.put, List.setIfInBounds_toArray, List.set_cons_zero, List.set_cons_succ]
  refine take_still (i := 27) (d := some 199) (v := .bool false) rfl rfl (by kernel_rfl) (by kernel_rfl) (by kernel_rfl) (fun _ _ _ h => HP.out _ _ _ _ _ h) (Or.inl ⟨by rfl, ?_⟩) hHeld ?_
  · intro W hSw; go_simp; try with_reducible rfl
  try simp only [Act.put, List.setIfInBounds_toArray, List.set_cons_zero, List.set_cons_succ]
  refine take_still (i := 28) (d := some 200) (v := .agg #[.int .i64 u.kind, .string u.text, .int .i64 u.n, .slice Au u.sh.length cau, .slice Bu u.at_.length cbu, .slice Ku u.kids.length cku]) rfl rfl (by kernel_rfl) (by kernel_rfl) (by kernel_rfl) (fun _ _ _ h => HP.out _ _ _ _ _ h) (Or.inl ⟨by rfl, ?_⟩) hHeld ?_
  · intro W hSw; obtain ⟨u0, u1, u2, u3, u4, u5, ul, v0, v1, v2, v3, v4, v5, vl, a0, a1, a2, al, b0, b1, b2, bl, c0, c1, c2, cl⟩ := FC.out W hSw; go_simp; try with_reducible rfl
  try simp only [Act.put, List.setIfInBounds_toArray, List.set_cons_zero, List.set_cons_succ]
  refine take_still (i := 31) (d := some 203) (v := .int .i64 (i : Int)) rfl rfl (by kernel_rfl) (by kernel_rfl) (by kernel_rfl) (fun _ _ _ h => HP.out _ _ _ _ _ h) (Or.inl ⟨by rfl, ?_⟩) hHeld ?_
  · intro W hSw; go_simp; try with_reducible rfl
  try simp only [Act.put, List.setIfInBounds_toArray, List.set_cons_zero, List.set_cons_succ]
  refine take_still (i := 33) (d := some 205) (v := .agg #[.int .i64 u.kind, .string u.text, .int .i64 u.n, .slice Au u.sh.length cau, .slice Bu u.at_.length cbu, .slice Ku u.kids.length cku]) rfl rfl (by kernel_rfl) (by kernel_rfl) (by kernel_rfl) (fun _ _ _ h => HP.out _ _ _ _ _ h) (Or.inl ⟨by rfl, ?_⟩) hHeld ?_
  · intro W hSw; obtain ⟨u0, u1, u2, u3, u4, u5, ul, v0, v1, v2, v3, v4, v5, vl, a0, a1, a2, al, b0, b1, b2, bl, c0, c1, c2, cl⟩ := FC.out W hSw; go_simp; try with_reducible rfl
  try simp only [Act.put, List.setIfInBounds_toArray, List.set_cons_zero, List.set_cons_succ]
  refine wpAnyH_ready (rs := [29]) (by kernel_rfl) (by simp) ?_
  refine AllReadyH.cons rfl (fun K hK => ?_) AllReadyH.nil
  go_simp
  obtain ⟨Ve8, hV⟩ : ∃ V, V = Pe7.alloc (.cells #[.int .i64 u.kind, .string u.text, .int .i64 u.n, .slice Au u.sh.length cau, .slice Bu u.at_.length cbu, .slice Ku u.kids.length cku] TTm) := ⟨_, rfl⟩
  obtain ⟨ge8, hg⟩ : ∃ g, g = Pe7.heap.size := ⟨_, rfl⟩
  have hKV : KidsAt Ve8 (some ⟨ge8, 0, none⟩) [u] 0 := by
    rw [hV, hg]
    refine row_new_at (w := Pe7) [(u, Au, cau, Bu, cbu, Ku, cku)] (fun x hx => by
      simp only [List.mem_cons, List.not_mem_nil, or_false] at hx
      subst hx
      · exact (BOW.out Pe7 HBe7.out).1) rfl
  have hbV : Below Pe7.heap.size Pe7 Ve8 := by rw [hV]; exact (Below.refl _ _).alloc (Nat.le_refl _) _
  have HBe8 := Lib.hid (HBe7.out.then_ hbV)
  have HKe8 := Lib.hid hKV
  rw [← hV, ← hg]
  clear hV hg hKV hbV
  refine hK.out _ _ HBe8.out (fun hHeld => ?_)
  clear hK K
  refine wpAnyH_ready (rs := [30]) (by kernel_rfl) (by simp) ?_
  refine AllReadyH.cons rfl (fun K hK => ?_) AllReadyH.nil
  go_simp
  go_at_call 32
  refine (of16_any 27 [u] ge8 0 1 1 Ve8 HKe8.out rfl (by decide) (by decide)).mono ?_
  rintro e Pe9 ⟨he9, ce9, rfl, hta, hb⟩
  have HBe9 := Lib.hid (HBe8.out.then_ hb)
  have HTe9 := Lib.hid hta
  clear hta hb
  refine hK.out _ _ HBe9.out (fun hHeld => ?_)
  clear hK K
  refine wpAnyH_ready (rs := [32]) (by kernel_rfl) (by simp) ?_
  refine AllReadyH.cons rfl (fun K hK => ?_) AllReadyH.nil
  go_simp
  have HTT := Lib.hid (total_any (tOf 27 [u]) none 0 none 0 (some ⟨he9, 0, none⟩) ce9 (i : Int) Pe9 HTe9.out (WF1.out 27 ⟨by decide, by decide⟩))
  rw [total_of (MO.out.one 27 (by decide)) hn.out, tt_27] at HTT
  go_at_call 28
  refine HTT.out.mono ?_
  rintro e Pe10 ⟨rfl, hb⟩
  have HBe10 := Lib.hid (HBe9.out.then_ hb)
  clear hb HTT
  refine hK.out _ _ HBe10.out (fun hHeld => ?_)
  clear hK K
  refine wpAnyH_ready (rs := [34]) (by kernel_rfl) (by simp) ?_
  refine AllReadyH.cons rfl (fun K hK => ?_) AllReadyH.nil
  go_simp
  have HTT := Lib.hid (total_any u Au cau Bu cbu Ku cku 2 Pe10 (BOW.out Pe10 HBe10.out).1 WU.out)
  rw [total_of MO.out.mu (.inr rfl)] at HTT
  go_at_call 28
  refine HTT.out.mono ?_
  rintro e Pe11 ⟨rfl, hb⟩
  have HBe11 := Lib.hid (HBe10.out.then_ hb)
  clear hb HTT
  refine hK.out _ _ HBe11.out (fun hHeld => ?_)
  clear hK K
  refine take_still (i := 35) (d := some 207) (v := .bool false) rfl rfl (by kernel_rfl) (by kernel_rfl) (by kernel_rfl) (fun _ _ _ h => HP.out _ _ _ _ _ h) (Or.inl ⟨by rfl, ?_⟩) hHeld ?_
  · intro W hSw; go_simp; try with_reducible rfl
  try simp only [Act.put, List.setIfInBounds_toArray, List.set_cons_zero, List.set_cons_succ]
  refine take_still (i := 36) (d := some 208) (v := .bool false) rfl rfl (by kernel_rfl) (by kernel_rfl) (by kernel_rfl) (fun _ _ _ h => HP.out _ _ _ _ _ h) (Or.inl ⟨by rfl, ?_⟩) hHeld ?_
  · intro W hSw; go_simp; try with_reducible rfl
  try simp only [Act.put, List.setIfInBounds_toArray, List.set_cons_zero, List.set_cons_succ]
  refine wpAnyH_done (by kernel_rfl) ?_ _
  change K _ _
  exact HK0.out _ _ _ _ _ _ _ _ _ _ _ _ _ _ _ _ _ _ _ _ _ _ _ _ _ _ _ _ _ _ _ _ _ _ _ _ _ HBe11.out

end Go.Proofs.YtebiojmfieoncaaGreat
