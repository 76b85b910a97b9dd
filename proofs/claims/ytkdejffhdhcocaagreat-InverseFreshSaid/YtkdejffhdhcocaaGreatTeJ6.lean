/- abacuslaw13.(*Shelf).Keep: the walk. Condition: sizes within reach. -/
import Derived.Test.YtkdejffhdhcocaaGreatTeJ5
import Derived.Test.YtkdejffhdhcocaaGreatTeJ2
import Derived.BigQuiet
import Derived.BigRegion
namespace Go.Proofs.YtkdejffhdhcocaaGreat
open Go.RowKit

/-- facts on the kid at hand, while only the shelf's own blocks turn -/
def KidF (Q : Nat → Prop) (w : World) (B ga i : Nat) (kd : Tm) (qr : Rt) : Prop := ∀ W, OnlyP Q w W → (W.cell? ⟨ga, i * 6, none⟩ = some (.int .i64 kd.kind) ∧ W.cell? ⟨ga, i * 6 + 1, none⟩ = some (.string kd.text) ∧ W.cell? ⟨ga, i * 6 + 2, none⟩ = some (.int .i64 kd.n) ∧ W.cell? ⟨ga, i * 6 + 3, none⟩ = some (.slice qr.s.p qr.s.n qr.s.c) ∧ W.cell? ⟨ga, i * 6 + 4, none⟩ = some (.slice qr.a.p qr.a.n qr.a.c) ∧ W.cell? ⟨ga, i * 6 + 5, none⟩ = some (.slice qr.k.p qr.k.n qr.k.c) ∧ ga < W.heap.size) ∧ OwnT W B kd qr
theorem own_tm {w : World} {B : Nat} {t : Tm} {r : Rt} (h : OwnT w B t r) : rtVal t r = tmVal t r.s.p r.s.c r.a.p r.a.c r.k.p r.k.c := by
  obtain ⟨_, e1, e2, e3⟩ := h.read
  unfold rtVal tmVal
  rw [e1, e2, e3]

theorem cnt_one (t : Tm) : 1 ≤ cnt t := by cases t; simp only [cnt]; omega
set_option maxRecDepth 100000 in
set_option maxHeartbeats 32000000 in
theorem keep13_any (ts0 : List Tm) (rs0 : List Rt) (ga m : Nat) (w : World) (B ps : Nat) (Q : Nat → Prop) (hga : w.heap[ga]? = some (.cells (rtCellsL ts0 rs0).toArray TTm (0, 0))) (hgq : ¬ Q ga)
    (ho : OwnL w B ts0 rs0) (hnd : (blksL rs0).Nodup) (hwf : ∀ t ∈ ts0, WfT t) (hQ : ∀ x ∈ blksL rs0, ¬ Q x) (hB : B ≤ w.heap.size) (hm : m = ts0.length) (hm2 : m ≤ 1000) (hs : ShX w B ps Q) :
    Calls Tryz.prog 10 #[.pointer (some ⟨ps, 0, none⟩), .slice (some ⟨ga, 0, none⟩) m m] w fun e w' => e = .returned (.tuple #[]) ∧ OnlyP Q w w' ∧ ShX w' B ps (fun x => Q x ∨ x ∈ blksL rs0 ∨ (w.heap.size ≤ x ∧ x < w'.heap.size)) := by
  obtain ⟨ta, ra, ua, va, vu, n, hs, hs1, hs2⟩ := hs
  obtain ⟨Q', hQ'⟩ : ∃ Q' : Nat → Prop, Q' = fun x => Q x ∨ x ∈ blksL rs0 ∨ w.heap.size ≤ x := ⟨_, rfl⟩
  have HK0 : Hid (KpI Q Q' w w B ps ta ta ra ua va vu n (blksL (rs0.drop 0))) := Lib.hid ⟨OnlyP.refl _ _, hs.inQ fun x hx _ => by rw [hQ']; exact .inl hx, fun x hx => ⟨by rw [hQ']; exact .inr (.inl hx), fun e => hQ x hx (hs.qa x e), fun e => hQ x hx (hs.qu x e), fun e => hQ x hx (hs.qra x e), fun e => hQ x hx (hs.qru x e)⟩, fun x hx _ => hs.qa x hx, fun x hx _ => hs.qu x hx⟩
  have HN0 : Hid ((ta.length : Int) ≤ n ∧ n ≤ 36864) := Lib.hid ⟨hs1, hs2⟩
  have HKF : Hid (∀ (i : Nat) (kd : Tm), ts0[i]? = some kd → ∃ qr, rs0[i]? = some qr ∧ KidF Q w B ga i kd qr) := Lib.hid fun i kd hkd => by
    obtain ⟨qr, hqr, _⟩ := ho.get hkd
    refine ⟨qr, hqr, fun W h => ?_⟩
    have hh := (h.block ga (heap_lt hga) hgq).trans hga
    have hl : OwnL W B ts0 rs0 := ho.kept fun g hg => h.block g (ho.blk g hg).2 (hQ g hg)
    obtain ⟨q2, hq2, hoq⟩ := hl.get hkd
    obtain rfl : qr = q2 := Option.some.inj (hqr.symm.trans hq2)
    have hc : ∀ o v, (rtCells kd qr)[o]? = some v → W.cell? ⟨ga, i * 6 + o, none⟩ = some v := fun o v hv => cell_at hh (by simpa using rtCells_get hkd hqr hv)
    exact ⟨⟨hc 0 _ rfl, hc 1 _ rfl, hc 2 _ rfl, hc 3 _ rfl, hc 4 _ rfl, hc 5 _ rfl, heap_lt hh⟩, hoq⟩
  have HBL : Hid (∀ x ∈ blksL rs0, x < w.heap.size) := Lib.hid fun x hx => (ho.blk x hx).2
  have HND : Hid ((blksL rs0).Nodup ∧ ga < w.heap.size ∧ ¬ Q ga) := Lib.hid ⟨hnd, heap_lt hga, hgq⟩
  have HPS : Hid (Q ps) := Lib.hid hs.qp
  have HQN : Hid (∀ x, w.heap.size ≤ x → Q' x) := Lib.hid fun x hx => by rw [hQ']; exact .inr (.inr hx)
  have HWF := Lib.hid hwf
  have HM := Lib.hid hm
  have HQ' := Lib.hid hQ'
  have HBB := Lib.hid hB
  obtain ⟨j0, hj, hz0, hz1, hz2⟩ := info_parts info_tm
  clear hga hgq ho hnd hwf hQ hs hs1 hs2 hQ' hm hB
  go_enter Tryz.func10, Tryz.ntmps10
  go_wp2_with fail
  go_loopw [4] (fun v W => ∃ (i : Nat) (ta : List Tm) (ra ua : List Rt) (va vu : Value) (n : Int), i ≤ m ∧ v = .int .i64 i ∧ Hid (KpI Q Q' w W B ps ta ta ra ua va vu n (blksL (rs0.drop i))) ∧ Hid ((ta.length : Int) ≤ n ∧ n ≤ 36864)) (fun v _ => m - (intOf v).toNat)
  case atStart => exact ⟨0, ta, ra, ua, va, vu, n, Nat.zero_le _, rfl, HK0, HN0⟩
  case round =>
    clear HK0 HN0
    obtain ⟨i, ta, ra, ua, va, vu, n, hi, rfl, HI, HN⟩ := hrel
    obtain ⟨x0, x1, x2, xf, xl⟩ := HI.out.sh.cells
    clear x0 x1
    have hEND : OnlyP Q w wr ∧ ShX wr B ps (fun x => Q x ∨ x ∈ blksL rs0 ∨ (w.heap.size ≤ x ∧ x < wr.heap.size)) := ⟨HI.out.on, ta, ra, ua, va, vu, n, HI.out.sh.inQ fun x hx hlt => by
      rw [HQ'.out] at hx
      rcases hx with hx | hx | hx
      · exact .inl hx
      · exact .inr (.inl hx)
      · exact .inr (.inr ⟨hx, hlt⟩), HN.out⟩
    have HEND := Lib.hid hEND
    clear hEND
    by_cases hlt : i < m
    · by_cases hn : n < 32768
      · obtain ⟨kd, hkd⟩ : ∃ kd, ts0[i]? = some kd := ⟨_, List.getElem?_eq_getElem (by rw [← HM.out]; exact hlt)⟩
        obtain ⟨qr, hqr, hkf⟩ := HKF.out i kd hkd
        have HF := Lib.hid hkf
        have HWK := Lib.hid (HWF.out kd (List.mem_of_getElem? hkd))
        have HQR := Lib.hid hqr
        have hdrop : blksL (rs0.drop i) = blksT qr ++ blksL (rs0.drop (i + 1)) := blksL_drop hqr
        have HDR := Lib.hid hdrop
        have HNX : Hid (∀ x ∈ blksL (rs0.drop (i + 1)), x < w.heap.size ∧ x ∉ blksT qr) := Lib.hid fun x hx => by
          have hnd := HND.out.1
          rw [blksL_split rs0 i, hdrop] at hnd
          have h2 := (List.nodup_append.1 (List.nodup_append.1 hnd).2.1).2.2
          exact ⟨HBL.out x (by rw [blksL_split rs0 i, hdrop]; exact List.mem_append_right _ (List.mem_append_right _ hx)), fun hm => h2 x hm x hx rfl⟩
        have HNQ : Hid ((blksT qr).Nodup ∧ ∀ x ∈ blksT qr, x ∈ blksL (rs0.drop i)) := Lib.hid ⟨by
          have hnd := HND.out.1
          rw [blksL_split rs0 i, hdrop] at hnd
          exact (List.nodup_append.1 (List.nodup_append.1 hnd).2.1).1, fun x hx => by rw [hdrop]; exact List.mem_append_left _ hx⟩
        obtain ⟨⟨c0, c1, c2, c3, c4, c5, cl⟩, _⟩ := HF.out wr HI.out.on
        have HLI : Hid (∀ W, OnlyP Q w W → Calls Tryz.prog 29 #[rtVal kd qr] W fun e w' => (∃ b : Bool, e = .returned (.bool b) ∧ (b = true → greatT kd = false)) ∧ Below W.heap.size W w') := Lib.hid fun W h => by
          rw [own_tm (HF.out W h).2]
          exact light_any _ _ _ _ _ _ _ _ (HF.out W h).2.read.1 HWK.out
        have HSI : Hid (∀ W, OnlyP Q w W → Calls Tryz.prog 42 #[rtVal kd qr] W fun e w' => e = .returned (.tuple #[.int .i64 ((sizeT kd).1 : Int), .int .i64 ((sizeT kd).2 : Int)]) ∧ Below W.heap.size W w') := Lib.hid fun W h => by
          rw [own_tm (HF.out W h).2]
          exact size_any _ _ _ _ _ _ _ _ (HF.out W h).2.read.1 HWK.out
        have HOW : Hid (∀ W, OnlyP Q w W → Calls Tryz.prog 43 #[rtVal kd qr] W (OwnPost kd W)) := Lib.hid fun W h => by
          rw [own_tm (HF.out W h).2]
          exact own_any (cnt kd) _ _ _ _ _ _ _ _ (Nat.le_refl _) (HF.out W h).2.read.1 HWK.out
        have b1 : (0 : Int) ≤ (i : Int) := by omega
        have b2 : (i : Int) < (m : Int) := by omega
        clear hkd hqr hkf hdrop HEND
        unfold rtVal at HLI HSI HOW
        go_wp2_with fail
        refine (HLI.out wr HI.out.on).mono ?_
        rintro e w2 ⟨⟨b, rfl, hb⟩, hb2⟩
        have H2 := Lib.hid (HI.out.below hb2)
        clear hb2 c0 c1 c2 c3 c4 c5 cl x2 xf xl
        cases b
        · clear hb
          go_wp2_with fail
          exact ⟨⟨i + 1, ta, ra, ua, va, vu, n, by omega, by go_num, Lib.hid (H2.out.less fun x hx => by rw [HDR.out]; exact List.mem_append_right _ hx), HN⟩, by simp [intOf]; omega⟩
        · have HGT := Lib.hid (hb rfl)
          clear hb
          obtain ⟨hsz, hcn, _⟩ := size_small HGT.out
          obtain ⟨⟨c0, c1, c2, c3, c4, c5, cl⟩, _⟩ := HF.out w2 H2.out.on
          rw [hsz] at HSI
          go_wp2_with fail
          refine (HSI.out w2 H2.out.on).mono ?_
          rintro e w3 ⟨rfl, hb3⟩
          have H3 := Lib.hid (H2.out.below hb3)
          clear hb3 c0 c1 c2 c3 c4 c5 cl hsz
          obtain ⟨x0, x1, x2, xf, xl⟩ := H3.out.sh.cells
          have f2 := xf 2
          clear x0 x1 xf
          obtain ⟨cn, hcnn⟩ : ∃ cn, cn = cnt kd := ⟨_, rfl⟩
          rw [← hcnn] at hcn ⊢
          have hn0 := HN.out
          have hw1 : IntKind.i64.wrap (n + (cn : Int)) = n + (cn : Int) := by rw [IntKind.wrap_i64]; omega
          have HC1 : Hid (1 ≤ cn) := Lib.hid (by rw [hcnn]; exact cnt_one kd)
          have HN6 : Hid (((ta.length + 1 : Nat) : Int) ≤ n + (cn : Int) ∧ n + (cn : Int) ≤ 36864) := Lib.hid (by have := HC1.out; omega)
          clear hcnn
          go_upto_region 6 with fail
          obtain ⟨W5, hW5⟩ : ∃ V, V = w3.setCell ⟨ps, 2, none⟩ (.int .i64 (n + (cn : Int))) := ⟨_, rfl⟩
          rw [← hW5]
          have H5 : Hid (KpI Q Q' w W5 B ps ta ta ra ua va vu (n + (cn : Int)) (blksL (rs0.drop i))) := Lib.hid (by rw [hW5]; exact H3.out.num HPS.out _)
          clear hW5 x2 xl f2 hw1
          obtain ⟨AA, cA, rfl, _, _⟩ := own_form H5.out.sh.ra
          obtain ⟨x0, x1, x2, xf, xl⟩ := H5.out.sh.cells
          have f0 := xf 0
          obtain ⟨⟨c0, c1, c2, c3, c4, c5, cl⟩, _⟩ := HF.out W5 H5.out.on
          have kx0 := (World.cell?_of_block (a := ⟨ps, 0, none⟩) (Below.heap_alloc W5 (.cells tm0 TTm) ps xl)).trans x0
          have d0 := (World.cell?_of_block (a := ⟨ga, i * 6, none⟩) (Below.heap_alloc W5 (.cells tm0 TTm) ga cl)).trans c0
          have d1 := (World.cell?_of_block (a := ⟨ga, i * 6 + 1, none⟩) (Below.heap_alloc W5 (.cells tm0 TTm) ga cl)).trans c1
          have d2 := (World.cell?_of_block (a := ⟨ga, i * 6 + 2, none⟩) (Below.heap_alloc W5 (.cells tm0 TTm) ga cl)).trans c2
          have d3 := (World.cell?_of_block (a := ⟨ga, i * 6 + 3, none⟩) (Below.heap_alloc W5 (.cells tm0 TTm) ga cl)).trans c3
          have d4 := (World.cell?_of_block (a := ⟨ga, i * 6 + 4, none⟩) (Below.heap_alloc W5 (.cells tm0 TTm) ga cl)).trans c4
          have d5 := (World.cell?_of_block (a := ⟨ga, i * 6 + 5, none⟩) (Below.heap_alloc W5 (.cells tm0 TTm) ga cl)).trans c5
          have hla : ta.length ≤ 36864 := by have := HN6.out; omega
          have b3 : (0 : Int) ≤ (ta.length : Int) := by omega
          have b4 : (ta.length : Int) < (ta.length : Int) + 1 := by omega
          go_cut [56] from 43 to 55 (fun v wx => v = .pointer (some ⟨ps, 0, none⟩) ∧ ∃ v', Hid (KpI Q Q' w wx B ps (ta ++ [kd]) ta (ra ++ [qr]) ua v' vu (n + (cn : Int)) (blksL (rs0.drop (i + 1)))))
          case first =>
            obtain ⟨W6, hW6⟩ : ∃ V, V = (W5.alloc (.cells tm0 TTm)).drew := ⟨_, rfl⟩
            have HB6 : Hid (Below W5.heap.size W5 W6) := Lib.hid (by rw [hW6]; exact ((Below.refl _ _).alloc (Nat.le_refl _) _).drew)
            have H6 := Lib.hid (H5.out.below HB6.out)
            have HC6 : Hid (∀ (q : Nat) (u : Value), tm0.toList[q]? = some u → W6.cell? ((⟨W5.heap.size, 0, none⟩ : Addr).add q) = some u) := Lib.hid (by rw [hW6]; exact cells_at3 _ tm0.toList _)
            have HZ6 : Hid (W6.heap.size = W5.heap.size + 1) := Lib.hid (by rw [hW6]; simp)
            have HB7 : Hid (B ≤ W6.heap.size ∧ w.heap.size ≤ W6.heap.size) := Lib.hid ⟨Nat.le_trans HBB.out H6.out.on.size, H6.out.on.size⟩
            have HAP : Hid (ps < W6.heap.size ∧ (Value.slice AA ta.length cA).ownBlock ≠ some ps ∧ ga < W6.heap.size ∧ (Value.slice AA ta.length cA).ownBlock ≠ some ga) := Lib.hid ⟨heap_lt H6.out.sh.sh, H6.out.sh.apart.1, (HF.out W6 H6.out.on).1.2.2.2.2.2.2, fun e => HND.out.2.2 (H6.out.qa ga e HND.out.2.1)⟩
            have HW6 := Lib.hid hW6
            clear hW6 x1 x2 xf xl cl
            go_region_law (go_loud (rw [← HW6.out]; refine step_append_lies _ rfl (.tmp 46) (.tmp 52) 22 rfl B TTm j0 (.agg tm0) 6 104 Tryz.underlying22 hj hz0 hz1 hz2 rfl (by decide) (.slice AA ta.length cA) ta.length (rtCellsL ta ra) (by simp [Act.eval, Act.put]) H6.out.sh.ra ⟨W5.heap.size, 0, none⟩ 1 1 tm0.toList (by simp [Act.eval, Act.put]) rfl HC6.out (by simp [Value.oneCell']) (by decide) (by unfold maxLen; omega) (by omega) HB7.out.1 (W5.heap.size + 1) HZ6.out ?_; intro g' cap' w' hown' hgr' hor' hlt'; have hq' := (hgr'.block ps HAP.out.1 (fun e => HAP.out.2.1 e.symm)).trans H6.out.sh.sh; have hg' := hgr'.block ga HAP.out.2.2.1 (fun e => HAP.out.2.2.2 e.symm); obtain ⟨⟨e0, e1, e2, e3, e4, e5, el⟩, _⟩ := HF.out W6 H6.out.on; have e0' := (World.cell?_of_block (a := ⟨ga, i * 6, none⟩) hg').trans e0; have e1' := (World.cell?_of_block (a := ⟨ga, i * 6 + 1, none⟩) hg').trans e1; have e2' := (World.cell?_of_block (a := ⟨ga, i * 6 + 2, none⟩) hg').trans e2; have e3' := (World.cell?_of_block (a := ⟨ga, i * 6 + 3, none⟩) hg').trans e3; have e4' := (World.cell?_of_block (a := ⟨ga, i * 6 + 4, none⟩) hg').trans e4; have e5' := (World.cell?_of_block (a := ⟨ga, i * 6 + 5, none⟩) hg').trans e5; have fq0 := unfrozen hq' 0; have kq0 := cell_at hq' (j := 0) rfl; have hz' := own_zero hown' (rtCellsL_len H6.out.sh.la.len); obtain ⟨y0, m0⟩ := hz' 0 (by omega); obtain ⟨y1, m1⟩ := hz' 1 (by omega); obtain ⟨y2, m2⟩ := hz' 2 (by omega); obtain ⟨y3, m3⟩ := hz' 3 (by omega); obtain ⟨y4, m4⟩ := hz' 4 (by omega); obtain ⟨y5, m5⟩ := hz' 5 (by omega); rw [Nat.add_zero] at m0; obtain ⟨cu', hcu'⟩ := row_type' hown' g' rfl; have n0 := unfrozen hcu' (ta.length * 6); have n1 := unfrozen hcu' (ta.length * 6 + 1); have n2 := unfrozen hcu' (ta.length * 6 + 2); have n3 := unfrozen hcu' (ta.length * 6 + 3); have n4 := unfrozen hcu' (ta.length * 6 + 4); have n5 := unfrozen hcu' (ta.length * 6 + 5); have np : g' ≠ ps := (fun e => absurd (types_apart (e ▸ hcu') hq') (by decide)); have HST := Lib.hid (And.intro hown' (And.intro hgr' hor')); clear hown' hgr' hor' hz' hcu' hg' e0 e1 e2 e3 e4 e5))
            all_goals
              (try rw [six_comm _ np])
              obtain ⟨WF, hWF⟩ : ∃ V, V = (sixT w' g' ta.length kd qr).setCell ⟨ps, 0, none⟩ (.slice (some ⟨g', 0, none⟩) (ta.length + 1) cap') := ⟨_, rfl⟩
              have HFN : Hid (KpI Q Q' w WF B ps (ta ++ [kd]) ta (ra ++ [qr]) ua (.slice (some ⟨g', 0, none⟩) (ta.length + 1) cap') vu (n + (cn : Int)) (blksL (rs0.drop (i + 1)))) := Lib.hid (by
                have h5 := H5.out
                rw [HDR.out] at h5
                rw [hWF]
                exact h5.moreA HB6.out (HF.out W6 H6.out.on).2 HNQ.out.1 HNX.out HQN.out HPS.out ⟨HWK.out, HGT.out⟩ HST.out.1 HST.out.2.1 (by rw [HZ6.out]; exact HST.out.2.2))
              rw [← hWF]
              clear HST hq' e0' e1' e2' e3' e4' e5' el fq0 kq0 m0 m1 m2 m3 m4 m5 n0 n1 n2 n3 n4 n5 hWF np
              go_wp2_with fail
              go_meet
              case rel => exact ⟨rfl, _, HFN⟩
          obtain ⟨rfl, va2, HR7⟩ := hcut
          obtain ⟨W7, rfl⟩ : ∃ V, V = wc := ⟨_, rfl⟩
          clear H5 H2 H3 HLI HSI x0 x1 x2 xf xl f0 c0 c1 c2 c3 c4 c5 cl kx0 d0 d1 d2 d3 d4 d5
          obtain ⟨AU, cU, rfl, _, _⟩ := own_form HR7.out.sh.ru
          obtain ⟨x0, x1, x2, xf, xl⟩ := HR7.out.sh.cells
          have f1 := xf 1
          obtain ⟨⟨c0, c1, c2, c3, c4, c5, cl⟩, _⟩ := HF.out W7 HR7.out.on
          have kx1 := (World.cell?_of_block (a := ⟨ps, 1, none⟩) (Below.heap_alloc W7 (.cells tm0 TTm) ps xl)).trans x1
          have d0 := (World.cell?_of_block (a := ⟨ga, i * 6, none⟩) (Below.heap_alloc W7 (.cells tm0 TTm) ga cl)).trans c0
          have d1 := (World.cell?_of_block (a := ⟨ga, i * 6 + 1, none⟩) (Below.heap_alloc W7 (.cells tm0 TTm) ga cl)).trans c1
          have d2 := (World.cell?_of_block (a := ⟨ga, i * 6 + 2, none⟩) (Below.heap_alloc W7 (.cells tm0 TTm) ga cl)).trans c2
          have d3 := (World.cell?_of_block (a := ⟨ga, i * 6 + 3, none⟩) (Below.heap_alloc W7 (.cells tm0 TTm) ga cl)).trans c3
          have d4 := (World.cell?_of_block (a := ⟨ga, i * 6 + 4, none⟩) (Below.heap_alloc W7 (.cells tm0 TTm) ga cl)).trans c4
          have d5 := (World.cell?_of_block (a := ⟨ga, i * 6 + 5, none⟩) (Below.heap_alloc W7 (.cells tm0 TTm) ga cl)).trans c5
          have HBA : Hid (Below W7.heap.size W7 ((W7.alloc (.cells tm0 TTm)).drew)) := Lib.hid ((Below.refl _ _).alloc (Nat.le_refl _) _).drew
          have HBD : Hid (Below W7.heap.size W7 W7.drew) := Lib.hid (Below.refl _ _).drew
          have HOWA := Lib.hid (HOW.out ((W7.alloc (.cells tm0 TTm)).drew) (HR7.out.on.below HBA.out))
          have HOWB := Lib.hid (HOW.out W7.drew (HR7.out.on.below HBD.out))
          have HNA : Hid (((W7.alloc (.cells tm0 TTm)).drew).heap[W7.heap.size]? = some (.cells tm0 TTm (0, 0)) ∧ W7.heap.size < ((W7.alloc (.cells tm0 TTm)).drew).heap.size) := Lib.hid ⟨heap_alloc_new W7 _, heap_lt (w := (W7.alloc (.cells tm0 TTm)).drew) (heap_alloc_new W7 _)⟩
          have HPL : Hid (ps < W7.heap.size ∧ (Value.slice AU ta.length cU).ownBlock ≠ some ps ∧ B ≤ W7.heap.size) := Lib.hid ⟨xl, HR7.out.sh.apart.2.1, Nat.le_trans HBB.out HR7.out.on.size⟩
          have HLE : Hid (∀ x ∈ blksL (rs0.drop (i + 1)), x < w.heap.size) := Lib.hid fun x hx => (HNX.out x hx).1
          clear HOW x0 x2 xf cl
          go_upto_region 7 with fail
          go_region_law (first
            | (refine step_append_lies _ rfl (.tmp 60) (.tmp 67) 22 rfl B TTm j0 (.agg tm0) 6 104 Tryz.underlying22 hj hz0 hz1 hz2 rfl (by decide) (.slice AU ta.length cU) ta.length (rtCellsL ta ua) (by simp [Act.eval, Act.put]) HA8.out.sh.ru ⟨W7.heap.size, 0, none⟩ 1 1 tm0.toList (by simp [Act.eval, Act.put]) rfl HCA.out (by simp [Value.oneCell']) (by decide) (by unfold maxLen; omega) (by omega) HSA.out _ rfl ?_; intro g' cap' w' hown' hgr' hor' hlt'; have hq' := (hgr'.block ps (Nat.lt_of_lt_of_le HPL.out.1 HX8.out.1.size) (fun e => HPL.out.2.1 e.symm)).trans HA8.out.sh.sh; have fq1 := unfrozen hq' 1; have kq1 := cell_at hq' (j := 1) rfl; have hz' := own_zero hown' (rtCellsL_len HA8.out.sh.lu.len); obtain ⟨y0, m0⟩ := hz' 0 (by omega); obtain ⟨y1, m1⟩ := hz' 1 (by omega); obtain ⟨y2, m2⟩ := hz' 2 (by omega); obtain ⟨y3, m3⟩ := hz' 3 (by omega); obtain ⟨y4, m4⟩ := hz' 4 (by omega); obtain ⟨y5, m5⟩ := hz' 5 (by omega); rw [Nat.add_zero] at m0; obtain ⟨cu', hcu'⟩ := row_type' hown' g' rfl; have n0 := unfrozen hcu' (ta.length * 6); have n1 := unfrozen hcu' (ta.length * 6 + 1); have n2 := unfrozen hcu' (ta.length * 6 + 2); have n3 := unfrozen hcu' (ta.length * 6 + 3); have n4 := unfrozen hcu' (ta.length * 6 + 4); have n5 := unfrozen hcu' (ta.length * 6 + 5); have np : g' ≠ ps := (fun e => absurd (types_apart (e ▸ hcu') hq') (by decide)); have HFN := Lib.hid (HR7.out.moreU HX8.out.1 HX8.out.2.1 HPL.out.2.2 HX8.out.2.2 HLE.out HQN.out HPS.out hown' hgr' hor'); clear hown' hgr' hor' hz' hcu')
            | (refine step_append_lies _ rfl (.tmp 60) (.tmp 67) 22 rfl B TTm j0 (.agg tm0) 6 104 Tryz.underlying22 hj hz0 hz1 hz2 rfl (by decide) (.slice AU ta.length cU) ta.length (rtCellsL ta ua) (by simp [Act.eval, Act.put]) HB8.out.sh.ru ⟨w8.heap.size, 0, none⟩ 1 1 tm0.toList (by simp [Act.eval, Act.put]) rfl HCB.out (by simp [Value.oneCell']) (by decide) (by unfold maxLen; omega) (by omega) HSB.out _ rfl ?_; intro g' cap' w' hown' hgr' hor' hlt'; have hq' := (hgr'.block ps (Nat.lt_of_lt_of_le HPL.out.1 HY8.out.1.size) (fun e => HPL.out.2.1 e.symm)).trans HB8.out.sh.sh; have fq1 := unfrozen hq' 1; have kq1 := cell_at hq' (j := 1) rfl; have hz' := own_zero hown' (rtCellsL_len HB8.out.sh.lu.len); obtain ⟨y0, m0⟩ := hz' 0 (by omega); obtain ⟨y1, m1⟩ := hz' 1 (by omega); obtain ⟨y2, m2⟩ := hz' 2 (by omega); obtain ⟨y3, m3⟩ := hz' 3 (by omega); obtain ⟨y4, m4⟩ := hz' 4 (by omega); obtain ⟨y5, m5⟩ := hz' 5 (by omega); rw [Nat.add_zero] at m0; obtain ⟨cu', hcu'⟩ := row_type' hown' g' rfl; have n0 := unfrozen hcu' (ta.length * 6); have n1 := unfrozen hcu' (ta.length * 6 + 1); have n2 := unfrozen hcu' (ta.length * 6 + 2); have n3 := unfrozen hcu' (ta.length * 6 + 3); have n4 := unfrozen hcu' (ta.length * 6 + 4); have n5 := unfrozen hcu' (ta.length * 6 + 5); have np : g' ≠ ps := (fun e => absurd (types_apart (e ▸ hcu') hq') (by decide)); have HFN := Lib.hid (HR7.out.moreU HY8.out.1 HY8.out.2.1 HPL.out.2.2 HY8.out.2.2 HLE.out HQN.out HPS.out hown' hgr' hor'); clear hown' hgr' hor' hz' hcu')
            | (go_simp; go_at_call 43; refine Calls.mono (by with_reducible exact HOWA.out) ?_; rintro e w8 ⟨r, rfl, ho8, hn8, hb8, _⟩; have HX8 : Hid (Below W7.heap.size W7 w8 ∧ OwnT w8 W7.heap.size kd r ∧ (blksT r).Nodup) := Lib.hid ⟨HBA.out.then_ hb8, ho8.mono HBA.out.size, hn8⟩; have HA8 := Lib.hid (HR7.out.below HX8.out.1); have HSA : Hid (B ≤ w8.heap.size) := Lib.hid (Nat.le_trans HPL.out.2.2 HX8.out.1.size); have HCA : Hid (∀ (q : Nat) (u : Value), tm0.toList[q]? = some u → w8.cell? ((⟨W7.heap.size, 0, none⟩ : Addr).add q) = some u) := Lib.hid (World.news_of_block ((hb8.block _ HNA.out.2).trans HNA.out.1)); have x1' := HA8.out.sh.cells.2.1; clear ho8 hn8 hb8)
            | (go_simp; go_at_call 43; refine Calls.mono (by with_reducible exact HOWB.out) ?_; rintro e w8 ⟨r, rfl, ho8, hn8, hb8, _⟩; have HX8 : Hid (Below W7.heap.size W7 w8 ∧ OwnT w8 W7.heap.size kd r ∧ (blksT r).Nodup) := Lib.hid ⟨HBD.out.then_ hb8, ho8, hn8⟩; have HBN : Hid (Below w8.heap.size w8 (w8.alloc (.cells tm0 TTm))) := Lib.hid ((Below.refl _ _).alloc (Nat.le_refl _) _); have HY8 : Hid (Below W7.heap.size W7 (w8.alloc (.cells tm0 TTm)) ∧ OwnT (w8.alloc (.cells tm0 TTm)) W7.heap.size kd r ∧ (blksT r).Nodup) := Lib.hid ⟨HX8.out.1.then_ HBN.out, ho8.on HBN.out, hn8⟩; have HB8 := Lib.hid (HR7.out.below HY8.out.1); have HSB : Hid (B ≤ (w8.alloc (.cells tm0 TTm)).heap.size) := Lib.hid (Nat.le_trans HPL.out.2.2 HY8.out.1.size); have HCB : Hid (∀ (q : Nat) (u : Value), tm0.toList[q]? = some u → (w8.alloc (.cells tm0 TTm)).cell? ((⟨w8.heap.size, 0, none⟩ : Addr).add q) = some u) := Lib.hid (cells_at3 _ tm0.toList _); have x1' := (HR7.out.below HX8.out.1).sh.cells.2.1; have x1'' := HB8.out.sh.cells.2.1; clear ho8 hn8 hb8))
          all_goals
            (try rw [six_comm _ np])
            obtain ⟨WF, hWF⟩ : ∃ V, V = (sixT w' g' ta.length kd r).setCell ⟨ps, 1, none⟩ (.slice (some ⟨g', 0, none⟩) (ta.length + 1) cap') := ⟨_, rfl⟩
            rw [← hWF] at HFN ⊢
            clear hq' fq1 kq1 m0 m1 m2 m3 m4 m5 n0 n1 n2 n3 n4 n5 hWF np
            go_wp2_with fail
            exact ⟨⟨i + 1, ta ++ [kd], ra ++ [qr], ua ++ [r], va2, _, n + (cn : Int), by omega, by go_num, HFN, Lib.hid (by rw [List.length_append]; exact HN6.out)⟩, by simp [intOf]; omega⟩
      · go_wp2_with fail
        exact bodyPost_end (results_none rfl _ _ _) rfl ⟨rfl, HEND.out⟩
    · obtain rfl : i = m := by omega
      have hge : ¬ (i : Int) < i := by omega
      clear hlt
      go_wp2_with fail
      exact bodyPost_end (results_none rfl _ _ _) rfl ⟨rfl, HEND.out⟩
end Go.Proofs.YtkdejffhdhcocaaGreat
