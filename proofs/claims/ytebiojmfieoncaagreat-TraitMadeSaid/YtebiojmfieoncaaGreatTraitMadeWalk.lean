/- The walk of TraitMade: it returns true. Condition: sizes within reach. -/
import Derived.Test.YtebiojmfieoncaaGreatTeG1
import Derived.Test.YtebiojmfieoncaaGreatTeGff
import Derived.Test.YtebiojmfieoncaaGreatTeGft
import Derived.Test.YtebiojmfieoncaaGreatTeGtf
import Derived.Test.YtebiojmfieoncaaGreatTeGtt
import Derived.Test.YtebiojmfieoncaaGreatTeG3
namespace Go.Proofs.YtebiojmfieoncaaGreat
open Go.RowKit

set_option maxRecDepth 100000 in
set_option maxHeartbeats 100000000 in
theorem traitMade_any (u v : Tm) (Au : Option Addr) (cau : Nat) (Bu : Option Addr) (cbu : Nat) (Ku : Option Addr) (cku : Nat) (Av : Option Addr) (cav : Nat) (Bv : Option Addr) (cbv : Nat) (Kv : Option Addr) (ckv : Nat) (w : World) (hu : TmAt w u Au Bu Ku) (hv : TmAt w v Av Bv Kv) (wfu : WfT u) (wfv : WfT v) :
    Calls Tryz.prog 6 #[tmVal u Au cau Bu cbu Ku cku, tmVal v Av cav Bv cbv Kv ckv] w fun e w' => e = .returned (.bool true) ∧ Below w.heap.size w w' := by
  obtain ⟨W2, hW2⟩ : ∃ W2, W2 = (w.alloc (.cells (tmCells u Au cau Bu cbu Ku cku) TTm)).alloc (.cells (tmCells v Av cav Bv cbv Kv ckv) TTm) := ⟨_, rfl⟩
  have hb2 : Below w.heap.size w W2 := by rw [hW2]; exact ((Below.refl _ _).alloc (Nat.le_refl _) _).alloc (by simp) _
  have HU : Hid (BoxAt W2 w.heap.size u Au cau Bu cbu Ku cku) := Lib.hid ⟨by rw [hW2]; exact (Below.heap_alloc _ _ _ (by simp)).trans (heap_alloc_new w _), hu.on hb2⟩
  have HV : Hid (BoxAt W2 (w.heap.size + 1) v Av cav Bv cbv Kv ckv) := Lib.hid ⟨by rw [hW2]; exact heap_new2 _ _ _, hv.on hb2⟩
  have HB2 := Lib.hid hb2
  have HW2 := Lib.hid hW2
  have WU := Lib.hid wfu
  have WV := Lib.hid wfv
  clear hu hv wfu wfv hb2 hW2
  have BOX : Hid (∀ W, Below W2.heap.size W2 W → BoxAt W w.heap.size u Au cau Bu cbu Ku cku ∧ BoxAt W (w.heap.size + 1) v Av cav Bv cbv Kv ckv) := Lib.hid fun W h => ⟨HU.out.on h, HV.out.on h⟩
  have WFF : Hid (WfT (tOf 45 [u, v, u])) := Lib.hid (wf_ofL ⟨by decide, by decide⟩ (fun x hx => by
    simp only [List.mem_cons, List.not_mem_nil, or_false] at hx
    rcases hx with rfl | rfl | rfl
    · exact WU.out
    · exact WV.out
    · exact WU.out) (by simp))
  have WF2 : Hid (∀ k, In64 k → WfT (tOf k [u, v])) := Lib.hid fun k hk => wf_ofL hk (fun x hx => by
    simp only [List.mem_cons, List.not_mem_nil, or_false] at hx
    rcases hx with rfl | rfl
    · exact WU.out
    · exact WV.out) (by simp)
  have WF1 : Hid (∀ k, In64 k → WfT (tOf k [u])) := Lib.hid fun k hk => wf_ofL hk (fun x hx => by
    simp only [List.mem_cons, List.not_mem_nil, or_false] at hx
    subst hx
    exact WU.out) (by simp)
  have WF0 : Hid (WfT (tOf 27 [tOf 27 [u]])) := Lib.hid (wf_ofL ⟨by decide, by decide⟩ (fun x hx => by
    simp only [List.mem_cons, List.not_mem_nil, or_false] at hx
    subst hx
    exact WF1.out 27 ⟨by decide, by decide⟩) (by simp))
  go_enter Tryz.func6, Tryz.ntmps6
  go_upto_region 1 with fail
  rw [← HW2.out]
  go_wp2_with fail
  refine (begun16_any W2).mono ?_
  rintro e w3 ⟨rfl, hb3⟩
  have HB3 := Lib.hid hb3
  clear hb3
  have BX := Lib.hid (BOX.out w3 HB3.out)
  obtain ⟨⟨u0, u1, u2, u3, u4, u5⟩, ul⟩ := BX.out.1.six
  obtain ⟨⟨v0, v1, v2, v3, v4, v5⟩, vl⟩ := BX.out.2.six
  go_wp2_with fail
  refine (small_any u Au cau Bu cbu Ku cku w3 BX.out.1.at_ WU.out).mono ?_
  rintro e w4 ⟨⟨b1, rfl⟩, hb4⟩
  have HB4 := Lib.hid (HB3.out.then_ hb4)
  clear hb4 BX u0 u1 u2 u3 u4 u5 ul v0 v1 v2 v3 v4 v5 vl
  have BX := Lib.hid (BOX.out w4 HB4.out)
  obtain ⟨⟨u0, u1, u2, u3, u4, u5⟩, ul⟩ := BX.out.1.six
  obtain ⟨⟨v0, v1, v2, v3, v4, v5⟩, vl⟩ := BX.out.2.six
  cases b1
  · go_wp2_with fail
    go_ret
    exact ⟨rfl, HB2.out.then_ HB4.out⟩
  go_wp2_with fail
  refine (small_any v Av cav Bv cbv Kv ckv w4 BX.out.2.at_ WV.out).mono ?_
  rintro e w5 ⟨⟨b2, rfl⟩, hb5⟩
  have HB5 := Lib.hid (HB4.out.then_ hb5)
  clear hb5 BX u0 u1 u2 u3 u4 u5 ul v0 v1 v2 v3 v4 v5 vl
  have BX := Lib.hid (BOX.out w5 HB5.out)
  obtain ⟨⟨u0, u1, u2, u3, u4, u5⟩, ul⟩ := BX.out.1.six
  obtain ⟨⟨v0, v1, v2, v3, v4, v5⟩, vl⟩ := BX.out.2.six
  cases b2
  · go_wp2_with fail
    go_ret
    exact ⟨rfl, HB2.out.then_ HB5.out⟩
  go_wp2_with fail
  refine (of16_any 45 [u, v, u] w5.heap.size 0 3 3 _ (row_new_at (w := w5) [(u, Au, cau, Bu, cbu, Ku, cku), (v, Av, cav, Bv, cbv, Kv, ckv), (u, Au, cau, Bu, cbu, Ku, cku)] (fun x hx => by
    simp only [List.mem_cons, List.not_mem_nil, or_false] at hx
    rcases hx with rfl | rfl | rfl
    · exact BX.out.1.at_
    · exact BX.out.2.at_
    · exact BX.out.1.at_) rfl) rfl (by decide) (by decide)).mono ?_
  rintro e w6 ⟨g6, c6, rfl, hta, hb⟩
  have HB6 := Lib.hid ((HB5.out.alloc HB5.out.size _).then_ hb)
  have HTA := Lib.hid hta
  clear hta hb BX u0 u1 u2 u3 u4 u5 ul v0 v1 v2 v3 v4 v5 vl
  go_wp2_with fail
  refine (may_any (tOf 45 [u, v, u]) none 0 none 0 (some ⟨g6, 0, none⟩) c6 3 w6 HTA.out WFF.out).mono ?_
  rintro e w7 ⟨rfl, hb⟩
  have HB7 := Lib.hid (HB6.out.then_ hb)
  clear hb HTA
  have BX := Lib.hid (BOX.out w7 HB7.out)
  obtain ⟨⟨u0, u1, u2, u3, u4, u5⟩, ul⟩ := BX.out.1.six
  by_cases hm : mayT (tOf 45 [u, v, u]) 3 = 0
  rotate_left
  · have dm : (mayT (tOf 45 [u, v, u]) 3 != 0) = true := by simpa using hm
    clear hm
    go_wp2_with fail
    go_ret
    exact ⟨rfl, HB2.out.then_ HB7.out⟩
  have HM1 := Lib.hid hm
  have dm : (mayT (tOf 45 [u, v, u]) 3 != 0) = false := by rw [hm]; rfl
  clear hm
  go_wp2_with fail
  refine (of16_any 27 [u] w7.heap.size 0 1 1 _ (row_new_at (w := w7) [(u, Au, cau, Bu, cbu, Ku, cku)] (fun x hx => by
    simp only [List.mem_cons, List.not_mem_nil, or_false] at hx
    subst hx
    exact BX.out.1.at_) rfl) rfl (by decide) (by decide)).mono ?_
  rintro e w8 ⟨g8, c8, rfl, hta, hb⟩
  have HB8 := Lib.hid ((HB7.out.alloc HB7.out.size _).then_ hb)
  have HTA := Lib.hid hta
  clear hta hb BX u0 u1 u2 u3 u4 u5 ul
  go_wp2_with fail
  refine (of16_any 27 [tOf 27 [u]] w8.heap.size 0 1 1 _ (row_new_at (w := w8) [(tOf 27 [u], none, 0, none, 0, some ⟨g8, 0, none⟩, c8)] (fun x hx => by
    simp only [List.mem_cons, List.not_mem_nil, or_false] at hx
    subst hx
    exact HTA.out) rfl) rfl (by decide) (by decide)).mono ?_
  rintro e w9 ⟨g9, c9, rfl, hta, hb⟩
  have HB9 := Lib.hid ((HB8.out.alloc HB8.out.size _).then_ hb)
  have HTB := Lib.hid hta
  clear hta hb HTA
  go_wp2_with fail
  refine (may_any (tOf 27 [tOf 27 [u]]) none 0 none 0 (some ⟨g9, 0, none⟩) c9 3 w9 HTB.out WF0.out).mono ?_
  rintro e wa ⟨rfl, hb⟩
  have HBa := Lib.hid (HB9.out.then_ hb)
  clear hb HTB
  have BX := Lib.hid (BOX.out wa HBa.out)
  obtain ⟨⟨u0, u1, u2, u3, u4, u5⟩, ul⟩ := BX.out.1.six
  obtain ⟨⟨v0, v1, v2, v3, v4, v5⟩, vl⟩ := BX.out.2.six
  by_cases hm : mayT (tOf 27 [tOf 27 [u]]) 3 = 0
  rotate_left
  · have dm2 : (mayT (tOf 27 [tOf 27 [u]]) 3 != 0) = true := by simpa using hm
    clear hm
    go_wp2_with fail
    go_ret
    exact ⟨rfl, HB2.out.then_ HBa.out⟩
  have MO := Lib.hid (made_ok HM1.out hm)
  have dm2 : (mayT (tOf 27 [tOf 27 [u]]) 3 != 0) = false := by rw [hm]; rfl
  clear hm HM1
  have HRK := Lib.hid (tranks_any u Au cau Bu cbu Ku cku wa BX.out.1.at_ WU.out)
  rw [ranks_of MO.out.mu] at HRK
  go_wp2_with fail
  refine HRK.out.mono ?_
  rintro e wb ⟨rfl, hb⟩
  have HBb := Lib.hid (HBa.out.then_ hb)
  clear hb HRK BX u0 u1 u2 u3 u4 u5 ul v0 v1 v2 v3 v4 v5 vl dm dm2
  go_upto_region 6 with fail
  obtain ⟨wc, hV⟩ : ∃ V, V = wb.alloc (.cells (r3c (rkT u)) TR3) := ⟨_, rfl⟩
  have hb : Below wb.heap.size wb wc := by rw [hV]; exact (Below.refl _ _).alloc (Nat.le_refl _) _
  have HGU : Hid (wc.heap[wb.heap.size]? = some (.cells (r3c (rkT u)) TR3 (0, 0))) := Lib.hid (by rw [hV]; exact heap_alloc_new _ _)
  have HBc := Lib.hid (HBb.out.then_ hb)
  rw [← hV]
  clear hV hb
  have BX := Lib.hid (BOX.out wc HBc.out)
  obtain ⟨⟨v0, v1, v2, v3, v4, v5⟩, vl⟩ := BX.out.2.six
  have HRK := Lib.hid (tranks_any v Av cav Bv cbv Kv ckv wc BX.out.2.at_ WV.out)
  rw [ranks_of MO.out.mv] at HRK
  go_wp2_with fail
  refine HRK.out.mono ?_
  rintro e wd ⟨rfl, hb⟩
  have HBd := Lib.hid (HBc.out.then_ hb)
  have HGU2 : Hid (wd.heap[wb.heap.size]? = some (.cells (r3c (rkT u)) TR3 (0, 0))) := Lib.hid ((hb.block _ (heap_lt HGU.out)).trans HGU.out)
  clear hb HRK BX v0 v1 v2 v3 v4 v5 vl
  go_upto_region 10 with fail
  obtain ⟨W0, hV⟩ : ∃ V, V = (wd.alloc (.cells (r3c (rkT v)) TR3)).alloc (.cells (r3c inf3) TR3) := ⟨_, rfl⟩
  have hb : Below wd.heap.size wd W0 := by rw [hV]; exact ((Below.refl _ _).alloc (Nat.le_refl _) _).alloc (by simp) _
  have HGV : Hid (W0.heap[wd.heap.size]? = some (.cells (r3c (rkT v)) TR3 (0, 0))) := Lib.hid (by rw [hV]; exact (Below.heap_alloc _ _ _ (by simp)).trans (heap_alloc_new _ _))
  have HGI : Hid (W0.heap[wd.heap.size + 1]? = some (.cells (r3c inf3) TR3 (0, 0))) := Lib.hid (by rw [hV]; exact heap_new2 _ _ _)
  have HGW : Hid (W0.heap[wb.heap.size]? = some (.cells (r3c (rkT u)) TR3 (0, 0))) := Lib.hid ((hb.block _ (heap_lt HGU2.out)).trans HGU2.out)
  have HB0 := Lib.hid (HBd.out.then_ hb)
  refine hV ▸ ?_
  clear hV hb
  obtain ⟨gu, hgu⟩ : ∃ g, g = wb.heap.size := ⟨_, rfl⟩
  obtain ⟨gv, hgv⟩ : ∃ g, g = wd.heap.size := ⟨_, rfl⟩
  rw [← hgu] at HGW ⊢
  rw [← hgv] at HGV HGI ⊢
  clear hgu hgv HGU HGU2
  have FC : Hid (∀ W, Below W0.heap.size W0 W → W.cell? ⟨w.heap.size, 0, none⟩ = some (.int .i64 u.kind) ∧ W.cell? ⟨w.heap.size, 1, none⟩ = some (.string u.text) ∧ W.cell? ⟨w.heap.size, 2, none⟩ = some (.int .i64 u.n) ∧ W.cell? ⟨w.heap.size, 3, none⟩ = some (.slice Au u.sh.length cau) ∧ W.cell? ⟨w.heap.size, 4, none⟩ = some (.slice Bu u.at_.length cbu) ∧ W.cell? ⟨w.heap.size, 5, none⟩ = some (.slice Ku u.kids.length cku) ∧ w.heap.size < W.heap.size ∧ W.cell? ⟨w.heap.size + 1, 0, none⟩ = some (.int .i64 v.kind) ∧ W.cell? ⟨w.heap.size + 1, 1, none⟩ = some (.string v.text) ∧ W.cell? ⟨w.heap.size + 1, 2, none⟩ = some (.int .i64 v.n) ∧ W.cell? ⟨w.heap.size + 1, 3, none⟩ = some (.slice Av v.sh.length cav) ∧ W.cell? ⟨w.heap.size + 1, 4, none⟩ = some (.slice Bv v.at_.length cbv) ∧ W.cell? ⟨w.heap.size + 1, 5, none⟩ = some (.slice Kv v.kids.length ckv) ∧ w.heap.size + 1 < W.heap.size ∧ W.cell? ⟨gu, 0, none⟩ = some (.int .i64 (rkT u).a) ∧ W.cell? ⟨gu, 1, none⟩ = some (.int .i64 (rkT u).b) ∧ W.cell? ⟨gu, 2, none⟩ = some (.int .i64 (rkT u).c) ∧ gu < W.heap.size ∧ W.cell? ⟨gv, 0, none⟩ = some (.int .i64 (rkT v).a) ∧ W.cell? ⟨gv, 1, none⟩ = some (.int .i64 (rkT v).b) ∧ W.cell? ⟨gv, 2, none⟩ = some (.int .i64 (rkT v).c) ∧ gv < W.heap.size ∧ W.cell? ⟨gv + 1, 0, none⟩ = some (.int .i64 64) ∧ W.cell? ⟨gv + 1, 1, none⟩ = some (.int .i64 64) ∧ W.cell? ⟨gv + 1, 2, none⟩ = some (.int .i64 64) ∧ gv + 1 < W.heap.size) := Lib.hid fun W h => by
    obtain ⟨x1, x2⟩ := BOX.out W (HB0.out.then_ h)
    have y1 := (h.block _ (heap_lt HGW.out)).trans HGW.out
    have y2 := (h.block _ (heap_lt HGV.out)).trans HGV.out
    have y3 := (h.block _ (heap_lt HGI.out)).trans HGI.out
    exact ⟨cell_at x1.cells rfl, cell_at x1.cells rfl, cell_at x1.cells rfl, cell_at x1.cells rfl, cell_at x1.cells rfl, cell_at x1.cells rfl, heap_lt x1.cells, cell_at x2.cells rfl, cell_at x2.cells rfl, cell_at x2.cells rfl, cell_at x2.cells rfl, cell_at x2.cells rfl, cell_at x2.cells rfl, heap_lt x2.cells, cell_at y1 rfl, cell_at y1 rfl, cell_at y1 rfl, heap_lt y1, cell_at y2 rfl, cell_at y2 rfl, cell_at y2 rfl, heap_lt y2, cell_at y3 rfl, cell_at y3 rfl, cell_at y3 rfl, heap_lt y3⟩
  have BOW : Hid (∀ W, Below W0.heap.size W0 W → TmAt W u Au Bu Ku ∧ TmAt W v Av Bv Kv) := Lib.hid fun W h => ⟨(BOX.out W (HB0.out.then_ h)).1.at_, (BOX.out W (HB0.out.then_ h)).2.at_⟩
  have CX : Hid (MadeCx u v Au cau Bu cbu Ku cku Av cav Bv cbv Kv ckv w W0 gu gv) := Lib.hid ⟨FC.out, BOW.out, WU.out, WV.out, MO.out⟩
  refine made10 CX.out (Below.refl _ _) ?_ ?_
  · exact fun _ _ _ _ _ h => h
  intro _ _ _ _ _ _ _ _ _ _ _ _ _ _ _ _ _ _ _ _ _ _ _ _ _ _ _ _ _ _ _ _ _ _ Wa hba
  have HBA := Lib.hid hba
  clear hba
  go_upto_region 11 with fail
  refine made11 CX.out HBA.out ?_ ?_
  · exact fun _ _ _ _ _ h => h
  intro _ _ _ _ _ _ _ _ _ _ _ _ _ _ _ _ _ _ _ _ _ _ _ _ _ _ _ _ _ _ _ _ _ _ Wb hbb
  have HBB := Lib.hid hbb
  clear hbb
  go_upto_region 12 with fail
  refine made12 CX.out HBB.out ?_ ?_
  · exact fun _ _ _ _ _ h => h
  intro _ _ _ _ _ _ _ _ _ _ _ _ _ _ _ _ _ _ _ _ _ _ _ _ _ _ _ _ _ _ _ _ _ Wc hbc
  have HBC := Lib.hid hbc
  clear hbc
  go_wp2_with fail
  go_loopw [11] (fun v W => ∃ i : Nat, 1 ≤ i ∧ i ≤ 3 ∧ v = .int .i64 i ∧ Hid (Below W0.heap.size W0 W)) (fun v _ => 3 - (intOf v).toNat)
  case atStart => exact ⟨1, Nat.le_refl _, by decide, rfl, HBC⟩
  case round =>
    obtain ⟨i, hi1, hi3, rfl, HI⟩ := hrel
    by_cases hlt : i ≤ 2
    · have hn : Hid ((i : Int) = 1 ∨ (i : Int) = 2) := Lib.hid (by omega)
      have b1 : (i : Int) ≤ 2 := by omega
      have hw1 : IntKind.i64.wrap ((i : Int) + 1) = (i : Int) + 1 := by rw [IntKind.wrap_i64]; omega
      go_upto_region 18 with fail
      refine made18 CX.out hn.out HI.out ?_ ?_
      · exact fun _ _ _ _ _ h => h
      intro _ _ _ _ _ _ Wd hbd
      have HBD := Lib.hid hbd
      clear hbd
      go_upto_region 19 with fail
      have key : ∀ (x y : Bool), totT u i = x → totT v i = y → Hid (totT u i = x ∧ totT v i = y) := fun x y h1 h2 => Lib.hid ⟨h1, h2⟩
      cases hx : totT u i <;> cases hy : totT v i
      all_goals
        have HXY := Lib.hid (And.intro hx hy)
        clear hx hy key
      · refine made19ff CX.out hn.out HXY.out.1 HXY.out.2 HBD.out ?_ ?_
        · exact fun _ _ _ _ _ h => h
        intro _ _ _ _ _ _ _ _ _ _ _ _ _ _ _ _ _ _ _ _ _ _ _ _ _ _ _ _ _ _ _ _ _ _ _ _ We hbe
        have HBE := Lib.hid hbe
        clear hbe
        go_upto_region 21 with fail
        refine made21f CX.out hn.out HXY.out.1 HXY.out.2 HBE.out ?_ ?_
        · exact fun _ _ _ _ _ h => h
        intro _ _ _ _ _ _ _ _ _ _ _ _ _ _ _ _ _ _ _ _ _ _ _ _ _ _ _ _ _ _ _ _ _ _ _ Wf hbf
        have HBF := Lib.hid hbf
        clear hbf
        go_upto_region 23 with fail
        rcases hn.out with hn1 | hn1
        · have HN1 := Lib.hid hn1
          clear hn1
          refine made23_1 CX.out HN1.out HXY.out.1 HXY.out.2 HBF.out ?_ ?_
          · exact fun _ _ _ _ _ h => h
          intro _ _ _ _ _ _ _ _ _ _ _ _ _ _ _ _ _ _ _ _ _ _ _ _ _ Wg hbg
          have HBG := Lib.hid hbg
          clear hbg
          go_wp2_with fail
          exact ⟨⟨i + 1, by omega, by omega, by go_num, HBG⟩, by simp [intOf]; omega⟩
        · have HN1 := Lib.hid hn1
          clear hn1
          refine made23_2 CX.out HN1.out HXY.out.1 HXY.out.2 HBF.out ?_ ?_
          · exact fun _ _ _ _ _ h => h
          intro _ _ _ _ _ _ _ _ _ _ _ _ _ _ _ _ _ _ _ _ _ _ _ _ _ Wg hbg
          have HBG := Lib.hid hbg
          clear hbg
          go_wp2_with fail
          exact ⟨⟨i + 1, by omega, by omega, by go_num, HBG⟩, by simp [intOf]; omega⟩
      · refine made19ft CX.out hn.out HXY.out.1 HXY.out.2 HBD.out ?_ ?_
        · exact fun _ _ _ _ _ h => h
        intro _ _ _ _ _ _ _ _ _ _ _ _ _ _ _ _ _ _ _ _ _ _ _ _ _ _ _ _ _ _ _ _ _ _ _ _ We hbe
        have HBE := Lib.hid hbe
        clear hbe
        go_upto_region 21 with fail
        refine made21f CX.out hn.out HXY.out.1 HXY.out.2 HBE.out ?_ ?_
        · exact fun _ _ _ _ _ h => h
        intro _ _ _ _ _ _ _ _ _ _ _ _ _ _ _ _ _ _ _ _ _ _ _ _ _ _ _ _ _ _ _ _ _ _ _ Wf hbf
        have HBF := Lib.hid hbf
        clear hbf
        go_upto_region 23 with fail
        rcases hn.out with hn1 | hn1
        · have HN1 := Lib.hid hn1
          clear hn1
          refine made23_1 CX.out HN1.out HXY.out.1 HXY.out.2 HBF.out ?_ ?_
          · exact fun _ _ _ _ _ h => h
          intro _ _ _ _ _ _ _ _ _ _ _ _ _ _ _ _ _ _ _ _ _ _ _ _ _ Wg hbg
          have HBG := Lib.hid hbg
          clear hbg
          go_wp2_with fail
          exact ⟨⟨i + 1, by omega, by omega, by go_num, HBG⟩, by simp [intOf]; omega⟩
        · have HN1 := Lib.hid hn1
          clear hn1
          refine made23_2 CX.out HN1.out HXY.out.1 HXY.out.2 HBF.out ?_ ?_
          · exact fun _ _ _ _ _ h => h
          intro _ _ _ _ _ _ _ _ _ _ _ _ _ _ _ _ _ _ _ _ _ _ _ _ _ Wg hbg
          have HBG := Lib.hid hbg
          clear hbg
          go_wp2_with fail
          exact ⟨⟨i + 1, by omega, by omega, by go_num, HBG⟩, by simp [intOf]; omega⟩
      · refine made19tf CX.out hn.out HXY.out.1 HXY.out.2 HBD.out ?_ ?_
        · exact fun _ _ _ _ _ h => h
        intro _ _ _ _ _ _ _ _ _ _ _ _ _ _ _ _ _ _ _ _ _ _ _ _ _ _ _ _ _ _ _ _ _ _ _ _ We hbe
        have HBE := Lib.hid hbe
        clear hbe
        go_upto_region 21 with fail
        refine made21t CX.out hn.out HXY.out.1 HXY.out.2 HBE.out ?_ ?_
        · exact fun _ _ _ _ _ h => h
        intro _ _ _ _ _ _ _ _ _ _ _ _ _ _ _ _ _ _ _ _ _ _ _ _ _ _ _ _ _ _ _ _ _ _ _ Wf hbf
        have HBF := Lib.hid hbf
        clear hbf
        go_upto_region 23 with fail
        rcases hn.out with hn1 | hn1
        · have HN1 := Lib.hid hn1
          clear hn1
          refine made23_1 CX.out HN1.out HXY.out.1 HXY.out.2 HBF.out ?_ ?_
          · exact fun _ _ _ _ _ h => h
          intro _ _ _ _ _ _ _ _ _ _ _ _ _ _ _ _ _ _ _ _ _ _ _ _ _ Wg hbg
          have HBG := Lib.hid hbg
          clear hbg
          go_wp2_with fail
          exact ⟨⟨i + 1, by omega, by omega, by go_num, HBG⟩, by simp [intOf]; omega⟩
        · have HN1 := Lib.hid hn1
          clear hn1
          refine made23_2 CX.out HN1.out HXY.out.1 HXY.out.2 HBF.out ?_ ?_
          · exact fun _ _ _ _ _ h => h
          intro _ _ _ _ _ _ _ _ _ _ _ _ _ _ _ _ _ _ _ _ _ _ _ _ _ Wg hbg
          have HBG := Lib.hid hbg
          clear hbg
          go_wp2_with fail
          exact ⟨⟨i + 1, by omega, by omega, by go_num, HBG⟩, by simp [intOf]; omega⟩
      · refine made19tt CX.out hn.out HXY.out.1 HXY.out.2 HBD.out ?_ ?_
        · exact fun _ _ _ _ _ h => h
        intro _ _ _ _ _ _ _ _ _ _ _ _ _ _ _ _ _ _ _ _ _ _ _ _ _ _ _ _ _ _ _ _ _ _ _ _ We hbe
        have HBE := Lib.hid hbe
        clear hbe
        go_upto_region 21 with fail
        refine made21t CX.out hn.out HXY.out.1 HXY.out.2 HBE.out ?_ ?_
        · exact fun _ _ _ _ _ h => h
        intro _ _ _ _ _ _ _ _ _ _ _ _ _ _ _ _ _ _ _ _ _ _ _ _ _ _ _ _ _ _ _ _ _ _ _ Wf hbf
        have HBF := Lib.hid hbf
        clear hbf
        go_upto_region 23 with fail
        rcases hn.out with hn1 | hn1
        · have HN1 := Lib.hid hn1
          clear hn1
          refine made23_1 CX.out HN1.out HXY.out.1 HXY.out.2 HBF.out ?_ ?_
          · exact fun _ _ _ _ _ h => h
          intro _ _ _ _ _ _ _ _ _ _ _ _ _ _ _ _ _ _ _ _ _ _ _ _ _ Wg hbg
          have HBG := Lib.hid hbg
          clear hbg
          go_wp2_with fail
          exact ⟨⟨i + 1, by omega, by omega, by go_num, HBG⟩, by simp [intOf]; omega⟩
        · have HN1 := Lib.hid hn1
          clear hn1
          refine made23_2 CX.out HN1.out HXY.out.1 HXY.out.2 HBF.out ?_ ?_
          · exact fun _ _ _ _ _ h => h
          intro _ _ _ _ _ _ _ _ _ _ _ _ _ _ _ _ _ _ _ _ _ _ _ _ _ Wg hbg
          have HBG := Lib.hid hbg
          clear hbg
          go_wp2_with fail
          exact ⟨⟨i + 1, by omega, by omega, by go_num, HBG⟩, by simp [intOf]; omega⟩
    · obtain rfl : i = 3 := by omega
      clear hlt hi1 hi3
      obtain ⟨u0, u1, u2, u3, u4, u5, ul, v0, v1, v2, v3, v4, v5, vl, a0, a1, a2, al, b0, b1, b2, bl, c0, c1, c2, cl⟩ := FC.out wr HI.out
      have HTT := Lib.hid (total_any u Au cau Bu cbu Ku cku 0 wr (BOW.out wr HI.out).1 WU.out)
      rw [(tt_bad u).1] at HTT
      go_wp2_with fail
      refine HTT.out.mono ?_
      rintro e z1 ⟨rfl, hb⟩
      have HBz := Lib.hid (HI.out.then_ hb)
      clear hb HTT u0 u1 u2 u3 u4 u5 ul v0 v1 v2 v3 v4 v5 vl a0 a1 a2 al b0 b1 b2 bl c0 c1 c2 cl
      obtain ⟨u0, u1, u2, u3, u4, u5, ul, v0, v1, v2, v3, v4, v5, vl, a0, a1, a2, al, b0, b1, b2, bl, c0, c1, c2, cl⟩ := FC.out z1 HBz.out
      have HTT := Lib.hid (total_any u Au cau Bu cbu Ku cku 3 z1 (BOW.out z1 HBz.out).1 WU.out)
      rw [(tt_bad u).2] at HTT
      go_wp2_with fail
      refine HTT.out.mono ?_
      rintro e z2 ⟨rfl, hb⟩
      have HBy := Lib.hid (HBz.out.then_ hb)
      clear hb HTT u0 u1 u2 u3 u4 u5 ul v0 v1 v2 v3 v4 v5 vl a0 a1 a2 al b0 b1 b2 bl c0 c1 c2 cl
      go_wp2_with fail
      go_ret
      exact ⟨rfl, HB2.out.then_ (HB0.out.then_ HBy.out)⟩
end Go.Proofs.YtebiojmfieoncaaGreat
