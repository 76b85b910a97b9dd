/- abacuslaw24.begun: it returns true. No condition. -/
import Derived.Test.YtebiojmfieoncaaGreatTeQo
namespace Go.Proofs.YtebiojmfieoncaaGreat
open Go.RowKit

set_option maxRecDepth 100000 in
set_option maxHeartbeats 32000000 in
theorem begun24_any (w : World) : Calls Tryz.prog 34 #[] w fun e w' => e = .returned (.bool true) ∧ Below w.heap.size w w' := by
  obtain ⟨u, hu⟩ : ∃ u, u = wT := ⟨_, rfl⟩
  have HUW := Lib.hid hu
  have HOF : Hid (ofT dT = (u, 0)) := Lib.hid (by rw [hu]; exact dT_of)
  clear hu
  go_enter Tryz.func34, Tryz.ntmps34
  go_upto_region 3 with fail
  obtain ⟨W0, hW0⟩ : ∃ W, W = (w.alloc (.cells #[.int .i64 2, .string ⟨#[121]⟩, .int .i64 0, .slice none 0 0, .slice none 0 0, .slice none 0 0] TTm)).alloc (.cells #[.int .i64 2, .string ⟨#[120]⟩, .int .i64 0, .slice none 0 0, .slice none 0 0, .slice none 0 0] TTm) := ⟨_, rfl⟩
  have hb0 : Below w.heap.size w W0 := by rw [hW0]; exact ((Below.refl _ _).alloc (Nat.le_refl _) _).alloc (by simp) _
  have hy : W0.heap[w.heap.size]? = some (.cells #[.int .i64 2, .string ⟨#[121]⟩, .int .i64 0, .slice none 0 0, .slice none 0 0, .slice none 0 0] TTm (0, 0)) := by rw [hW0]; exact (Below.heap_alloc _ _ _ (by simp)).trans (heap_alloc_new w _)
  have hx : W0.heap[w.heap.size + 1]? = some (.cells #[.int .i64 2, .string ⟨#[120]⟩, .int .i64 0, .slice none 0 0, .slice none 0 0, .slice none 0 0] TTm (0, 0)) := by rw [hW0]; exact heap_new2 _ _ _
  have HB0 := Lib.hid hb0
  rw [← hW0]
  refine b24_3 HOF.out (fun W h => ?_) ?_ ?_
  · have h1 := (h.block _ (heap_lt hy)).trans hy
    have h2 := (h.block _ (heap_lt hx)).trans hx
    exact ⟨cell_at h1 rfl, cell_at h1 rfl, cell_at h1 rfl, cell_at h1 rfl, cell_at h1 rfl, cell_at h1 rfl, cell_at h2 rfl, cell_at h2 rfl, cell_at h2 rfl, cell_at h2 rfl, cell_at h2 rfl, cell_at h2 rfl, heap_lt h1, heap_lt h2⟩
  · exact fun _ _ _ _ _ h => h
  intro _ _ _ _ _ _ _ _ _ _ _ _ _ g3 r B W3 hb3 h3 ho
  have HB3 := Lib.hid (hb0.then_ hb3)
  have HO := Lib.hid ho
  have HG := Lib.hid h3
  clear hW0 hb0 hy hx hb3 h3 ho
  go_wp2_with fail
  refine (lprim_any ⟨#[91]⟩ W3).mono ?_
  intro e p0 hh
  obtain ⟨he, hb⟩ := hh
  obtain rfl : e = .returned (.agg #[.int .i64 20, .string ⟨#[91]⟩, .int .i64 0, .slice none 0 0, .slice none 0 0, .slice none 0 0]) := he
  have HP0 := Lib.hid (HB3.out.then_ hb)
  have HS0 := Lib.hid (hb)
  clear hb
  go_wp2_with fail
  refine (lprim_any ⟨#[45]⟩ p0).mono ?_
  intro e p1 hh
  obtain ⟨he, hb⟩ := hh
  obtain rfl : e = .returned (.agg #[.int .i64 20, .string ⟨#[45]⟩, .int .i64 0, .slice none 0 0, .slice none 0 0, .slice none 0 0]) := he
  have HP1 := Lib.hid (HP0.out.then_ hb)
  have HS1 := Lib.hid (HS0.out.then_ hb)
  clear hb
  go_wp2_with fail
  refine (lprim_any ⟨#[42]⟩ p1).mono ?_
  intro e p2 hh
  obtain ⟨he, hb⟩ := hh
  obtain rfl : e = .returned (.agg #[.int .i64 20, .string ⟨#[42]⟩, .int .i64 0, .slice none 0 0, .slice none 0 0, .slice none 0 0]) := he
  have HP2 := Lib.hid (HP1.out.then_ hb)
  have HS2 := Lib.hid (HS1.out.then_ hb)
  clear hb
  go_wp2_with fail
  refine (lprim_any ⟨#[93]⟩ p2).mono ?_
  intro e p3 hh
  obtain ⟨he, hb⟩ := hh
  obtain rfl : e = .returned (.agg #[.int .i64 20, .string ⟨#[93]⟩, .int .i64 0, .slice none 0 0, .slice none 0 0, .slice none 0 0]) := he
  have HP3 := Lib.hid (HP2.out.then_ hb)
  have HS3 := Lib.hid (HS2.out.then_ hb)
  clear hb
  go_upto_region 5 with fail
  obtain ⟨V1, hV1⟩ : ∃ V, V = p3.alloc (.cells #[.int .i64 20, .string ⟨#[42]⟩, .int .i64 0, .slice none 0 0, .slice none 0 0, .slice none 0 0, .int .i64 20, .string ⟨#[93]⟩, .int .i64 0, .slice none 0 0, .slice none 0 0, .slice none 0 0] TTm) := ⟨_, rfl⟩
  have hk1 : KidsAt V1 (some ⟨p3.heap.size, 0, none⟩) [primT ⟨#[42]⟩, primT ⟨#[93]⟩] 0 := by
    rw [hV1]
    exact row_new_at (w := p3) [(primT ⟨#[42]⟩, none, 0, none, 0, none, 0), (primT ⟨#[93]⟩, none, 0, none, 0, none, 0)] (fun x hx => by
      simp only [List.mem_cons, List.not_mem_nil, or_false] at hx
      rcases hx with rfl | rfl
      · exact ⟨IntsAt.nil _ _, IntsAt.nil _ _, KidsAt.nil _ _⟩
      · exact ⟨IntsAt.nil _ _, IntsAt.nil _ _, KidsAt.nil _ _⟩) rfl
  obtain ⟨V2, hV2⟩ : ∃ V, V = V1.alloc (.cells #[.int .i64 20, .string ⟨#[91]⟩, .int .i64 0, .slice none 0 0, .slice none 0 0, .slice none 0 0, .int .i64 20, .string ⟨#[45]⟩, .int .i64 0, .slice none 0 0, .slice none 0 0, .slice none 0 0, .int .i64 46, .string ⟨#[]⟩, .int .i64 0, .slice none 0 0, .slice none 0 0, .slice (some ⟨p3.heap.size, 0, none⟩) 2 2] TTm) := ⟨_, rfl⟩
  have hk2 : KidsAt V2 (some ⟨p3.heap.size + 1, 0, none⟩) [primT ⟨#[91]⟩, primT ⟨#[45]⟩, tOf 46 [primT ⟨#[42]⟩, primT ⟨#[93]⟩]] 0 := by
    rw [show p3.heap.size + 1 = V1.heap.size by rw [hV1]; simp, hV2]
    exact row_new_at (w := V1) [(primT ⟨#[91]⟩, none, 0, none, 0, none, 0), (primT ⟨#[45]⟩, none, 0, none, 0, none, 0), (tOf 46 [primT ⟨#[42]⟩, primT ⟨#[93]⟩], none, 0, none, 0, some ⟨p3.heap.size, 0, none⟩, 2)] (fun x hx => by
      simp only [List.mem_cons, List.not_mem_nil, or_false] at hx
      rcases hx with rfl | rfl | rfl
      · exact ⟨IntsAt.nil _ _, IntsAt.nil _ _, KidsAt.nil _ _⟩
      · exact ⟨IntsAt.nil _ _, IntsAt.nil _ _, KidsAt.nil _ _⟩
      · exact of_at hk1) rfl
  have hb1 : Below p3.heap.size p3 V1 := by rw [hV1]; exact bl_alloc _ _
  have hb2 : Below V1.heap.size V1 V2 := by rw [hV2]; exact bl_alloc _ _
  obtain ⟨gq, hgq⟩ : ∃ g, g = p3.heap.size + 1 := ⟨_, rfl⟩
  obtain ⟨V3, hV3⟩ : ∃ V, V = V2.alloc (.cells #[.int .i64 45, .string ⟨#[]⟩, .int .i64 0, .slice none 0 0, .slice none 0 0, .slice (some ⟨p3.heap.size + 1, 0, none⟩) 3 3] TTm) := ⟨_, rfl⟩
  have hb4 : Below V2.heap.size V2 V3 := by rw [hV3]; exact bl_alloc _ _
  have hx5 : V3.heap[V2.heap.size]? = some (.cells #[.int .i64 45, .string ⟨#[]⟩, .int .i64 0, .slice none 0 0, .slice none 0 0, .slice (some ⟨gq, 0, none⟩) 3 3] TTm (0, 0)) := by rw [hV3, hgq]; exact heap_alloc_new _ _
  rw [show V2.heap.size = p3.heap.size + 1 + 1 by rw [hV2, hV1]; simp] at hx5
  have HX5 := Lib.hid hx5
  have HTW : Hid (TmAt V3 u none none (some ⟨gq, 0, none⟩)) := Lib.hid (by
    rw [HUW.out, hgq]
    exact of_at (hk2.on hb4))
  have HBV := Lib.hid (hb1.then_ (hb2.then_ hb4))
  rw [← hV1, ← hV2, ← hV3]
  clear hV1 hV2 hV3 hk1 hk2 hb1 hb2 hb4 hx5
  go_wp2_with fail
  refine (lprim_any ⟨#[43]⟩ V3).mono ?_
  intro e p4 hh
  obtain ⟨he, hb⟩ := hh
  obtain rfl : e = .returned (.agg #[.int .i64 20, .string ⟨#[43]⟩, .int .i64 0, .slice none 0 0, .slice none 0 0, .slice none 0 0]) := he
  have HP4 := Lib.hid hb
  clear hb
  have HOP := Lib.hid (tof24_any (primT ⟨#[43]⟩) none 0 none 0 none 0 p4 ⟨IntsAt.nil _ _, IntsAt.nil _ _, KidsAt.nil _ _⟩ (prim1_wf 43))
  go_wp2_with fail
  refine HOP.out.mono ?_
  intro e p5 hof
  obtain ⟨r2, he, _, _, hb⟩ := hof.get plus_of
  obtain ⟨q, hq⟩ : ∃ q, q = rtVal tNil r2 := ⟨_, rfl⟩
  obtain ⟨⟨rs1, rs2, rs3⟩, ⟨ra1, ra2, ra3⟩, ⟨rk1, rk2, rk3⟩, rq⟩ := r2
  obtain rfl : e = .returned (.tuple #[.agg #[.int .i64 0, .string ⟨#[]⟩, .int .i64 0, .slice rs1 rs2 rs3, .slice ra1 ra2 ra3, .slice rk1 rk2 rk3], .int .i64 35]) := he
  have HP5 := Lib.hid (HP4.out.then_ hb)
  clear hb hof hq q HOP
  go_upto_region 6 with fail
  obtain ⟨V6, hV6⟩ : ∃ V, V = p5.alloc (.cells #[.int .i64 0, .string ⟨#[]⟩, .int .i64 0, .slice rs1 rs2 rs3, .slice ra1 ra2 ra3, .slice rk1 rk2 rk3] TTm) := ⟨_, rfl⟩
  have hb6 : Below p5.heap.size p5 V6 := by rw [hV6]; exact bl_alloc _ _
  rw [← hV6]
  have HB36 : Hid (Below W3.heap.size W3 V6) := Lib.hid (HS3.out.then_ (HBV.out.then_ (HP5.out.then_ hb6)))
  have HB6 := Lib.hid (HP5.out.then_ hb6)
  have hxa := (HB36.out.block _ (heap_lt HG.out)).trans HG.out
  have hxb := (HB6.out.block _ (heap_lt HX5.out)).trans HX5.out
  obtain ⟨hru, f1, f2, f3⟩ := (HO.out.on HB36.out).read
  have HEQ : Hid (Calls Tryz.prog 37 #[.agg #[.int .i64 u.kind, .string u.text, .int .i64 u.n, .slice r.s.p r.s.n r.s.c, .slice r.a.p r.a.n r.a.c, .slice r.k.p r.k.n r.k.c], .agg #[.int .i64 45, .string ⟨#[]⟩, .int .i64 0, .slice none 0 0, .slice none 0 0, .slice (some ⟨gq, 0, none⟩) 3 3]] V6 fun e w' => e = .returned (.bool true) ∧ Below V6.heap.size V6 w') := Lib.hid (by
    have h := eq14_any (cnt u) u r.s.p r.s.c r.a.p r.a.c r.k.p r.k.c none 0 none 0 (some ⟨gq, 0, none⟩) 3 V6 (Nat.le_refl _) hru (HTW.out.on HB6.out) (by rw [HUW.out]; exact wT_wf)
    have e2 : tmVal u none 0 none 0 (some ⟨gq, 0, none⟩) 3 = .agg #[.int .i64 45, .string ⟨#[]⟩, .int .i64 0, .slice none 0 0, .slice none 0 0, .slice (some ⟨gq, 0, none⟩) 3 3] := by rw [HUW.out]; rfl
    have e1 : tmVal u r.s.p r.s.c r.a.p r.a.c r.k.p r.k.c = .agg #[.int .i64 u.kind, .string u.text, .int .i64 u.n, .slice r.s.p r.s.n r.s.c, .slice r.a.p r.a.n r.a.c, .slice r.k.p r.k.n r.k.c] := by rw [f1, f2, f3]
    rw [e1, e2] at h
    exact h)
  have a0 := cell_at hxa (j := 0) rfl
  have a1 := cell_at hxa (j := 1) rfl
  have a2 := cell_at hxa (j := 2) rfl
  have a3 := cell_at hxa (j := 3) rfl
  have a4 := cell_at hxa (j := 4) rfl
  have a5 := cell_at hxa (j := 5) rfl
  have al := heap_lt hxa
  have b0 := cell_at hxb (j := 0) rfl
  have b1 := cell_at hxb (j := 1) rfl
  have b2 := cell_at hxb (j := 2) rfl
  have b3 := cell_at hxb (j := 3) rfl
  have b4 := cell_at hxb (j := 4) rfl
  have b5 := cell_at hxb (j := 5) rfl
  have bl := heap_lt hxb
  clear hV6 hb6 hxa hxb hru f1 f2 f3 hgq
  go_wp2_with fail
  refine HEQ.out.mono ?_
  rintro e p7 ⟨rfl, hb⟩
  have HP7 := Lib.hid (HB3.out.then_ (HB36.out.then_ hb))
  clear hb
  go_wp2_with fail
  go_ret
  exact ⟨rfl, HP7.out⟩
end Go.Proofs.YtebiojmfieoncaaGreat
