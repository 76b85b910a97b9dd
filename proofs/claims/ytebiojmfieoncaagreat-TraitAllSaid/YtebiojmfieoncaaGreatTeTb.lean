/- abacuslaw16.begun. No condition. -/
import Derived.Test.YtebiojmfieoncaaGreatTeT9
namespace Go.Proofs.YtebiojmfieoncaaGreat
open Go.RowKit

/-- a name -/
def tNameB (s : ByteArray) : Tm := .mk 2 s 0 [] [] []

theorem prim_at (s : ByteArray) (w : World) (A B K : Option Addr) : TmAt w (tPrim s) A B K := ⟨IntsAt.nil _ _, IntsAt.nil _ _, KidsAt.nil _ _⟩
/-- a new row of terms -/
theorem row_at {w W : World} {g : Nat} : ∀ (l : List (Tm × Option Addr × Nat × Option Addr × Nat × Option Addr × Nat)) (i : Nat), (∀ x ∈ l, TmAt W x.1 x.2.1 x.2.2.2.1 x.2.2.2.2.2.1) → g < W.heap.size →
    (∀ j u, (l.flatMap fun x => (tmCells x.1 x.2.1 x.2.2.1 x.2.2.2.1 x.2.2.2.2.1 x.2.2.2.2.2.1 x.2.2.2.2.2.2).toList)[j]? = some u → W.cell? ⟨g, i * 6 + j, none⟩ = some u) → KidsAt W (some ⟨g, 0, none⟩) (l.map (·.1)) i
  | [], _, _, _, _ => by simp only [List.map_nil, KidsAt]
  | x :: r, i, h, hg, hc => by
    simp only [List.map_cons, KidsAt]
    refine ⟨⟨g, 0, _, rfl, hg, (h x (List.mem_cons_self ..)).is x.2.2.1 x.2.2.2.2.1 x.2.2.2.2.2.2, fun q u hq => ?_⟩, row_at (w := w) r (i + 1) (fun y hy => h y (List.mem_cons_of_mem _ hy)) hg fun j u hj => ?_⟩
    · have hq6 : q < 6 := (List.getElem?_eq_some_iff.1 hq).1
      rw [Nat.zero_add]
      exact hc q u (by rw [List.flatMap_cons, List.getElem?_append_left (by simpa using hq6)]; exact hq)
    · have h1 := hc (6 + j) u (by rw [List.flatMap_cons, List.getElem?_append_right (by simp)]; simpa using hj)
      rwa [show i * 6 + (6 + j) = (i + 1) * 6 + j by omega] at h1
theorem row_new_at {w : World} (l : List (Tm × Option Addr × Nat × Option Addr × Nat × Option Addr × Nat)) (h : ∀ x ∈ l, TmAt w x.1 x.2.1 x.2.2.2.1 x.2.2.2.2.2.1) {cs : Array Value} (hcs : cs.toList = l.flatMap fun x => (tmCells x.1 x.2.1 x.2.2.1 x.2.2.2.1 x.2.2.2.2.1 x.2.2.2.2.2.1 x.2.2.2.2.2.2).toList) :
    KidsAt (w.alloc (.cells cs TTm)) (some ⟨w.heap.size, 0, none⟩) (l.map (·.1)) 0 := by
  have hb : Below w.heap.size w (w.alloc (.cells cs TTm)) := (Below.refl _ _).alloc (Nat.le_refl _) _
  refine row_at (w := w) l 0 (fun x hx => (h x hx).on hb) (by simp) fun j u hj => ?_
  rw [← hcs] at hj
  rw [Nat.zero_mul, Nat.zero_add]
  exact cell_at (heap_alloc_new w _) (by simpa using hj)
theorem b16_facts : ranksT (tOf 27 [tPrim ⟨#[35]⟩]) = (⟨64, 64, 1⟩, 0) ∧ ranksT (tOf 30 [tPrim ⟨#[43]⟩, tPrim ⟨#[35, 46]⟩]) = (⟨1, 1, 1⟩, 0) ∧ ranksT (tNameB ⟨#[121]⟩) = (⟨0, 0, 0⟩, 5) ∧ totalT (tPrim ⟨#[35]⟩) 1 = true ∧ totalT (tPrim ⟨#[35]⟩) 2 = false ∧ totalT (tOf 45 [tPrim ⟨#[91]⟩, tPrim ⟨#[45, 58]⟩, tPrim ⟨#[93]⟩]) 2 = true := by
  refine ⟨by kernel_rfl, by kernel_rfl, by kernel_rfl, by kernel_rfl, by kernel_rfl, by kernel_rfl⟩
theorem wf_ofL {k : Int} {l : List Tm} (hk : In64 k) (hl : ∀ x ∈ l, WfT x) (hn : l.length ≤ 3) : WfT (tOf k l) := by
  simp only [tOf, WfT]
  refine ⟨hk, ⟨by decide, by decide⟩, fun x hx => (by cases hx), fun x hx => (by cases hx), by decide, by decide, by decide, ?_, WfL.of hl⟩
  omega
theorem name_wf : WfT (tNameB ⟨#[121]⟩) := by
  simp only [tNameB, WfT, WfL]
  exact ⟨⟨by decide, by decide⟩, ⟨by decide, by decide⟩, fun x hx => (by cases hx), fun x hx => (by cases hx), by decide, by decide, by decide, by decide, trivial⟩
set_option maxRecDepth 100000 in
set_option maxHeartbeats 16000000 in
theorem begun16_any (w : World) : Calls Tryz.prog 22 #[] w fun e w' => e = .returned (.bool true) ∧ Below w.heap.size w w' := by
  go_enter Tryz.func22, Tryz.ntmps22
  go_wp2_with fail
  refine (prim16_any ⟨#[35]⟩ _).mono ?_
  rintro e w1 ⟨rfl, hb⟩
  have HB1 := Lib.hid (((Below.refl w.heap.size w)).then_ hb)
  clear hb
  go_wp2_with fail
  refine (of16_any 27 [tPrim ⟨#[35]⟩] w1.heap.size 0 1 1 _ (row_new_at (w := w1) [(tPrim ⟨#[35]⟩, none, 0, none, 0, none, 0)] (fun x hx => by simp only [List.mem_cons, List.not_mem_nil, or_false] at hx; subst hx <;> exact prim_at _ _ _ _ _) rfl) rfl (by decide) (by decide)).mono ?_
  rintro e w2 ⟨g2, c2, rfl, hta, hb⟩
  have HB2 := Lib.hid ((HB1.out.alloc HB1.out.size _).then_ hb)
  have HTA := Lib.hid hta
  clear hb hta
  have HRK := Lib.hid (tranks_any (tOf 27 [tPrim ⟨#[35]⟩]) none 0 none 0 (some ⟨g2, 0, none⟩) c2 w2 HTA.out (wf_ofL ⟨by decide, by decide⟩ (fun x hx => by simp only [List.mem_cons, List.not_mem_nil, or_false] at hx; subst hx <;> exact prim_wf _ (by decide)) (by decide)))
  rw [b16_facts.1] at HRK
  go_wp2_with fail
  refine HRK.out.mono ?_
  rintro e w3 ⟨rfl, hb⟩
  have HB3 := Lib.hid ((HB2.out).then_ hb)
  clear hb HRK HTA
  go_upto_region 2 with fail
  obtain ⟨V3, hV⟩ : ∃ V, V = w3.alloc (.cells #[.int .i64 64, .int .i64 64, .int .i64 1] TR3) := ⟨_, rfl⟩
  have HV3 : Hid (V3.heap[w3.heap.size]? = some (.cells #[.int .i64 64, .int .i64 64, .int .i64 1] TR3 (0, 0)) ∧ Below w3.heap.size w3 V3) := Lib.hid ⟨by rw [hV]; exact heap_alloc_new _ _, by rw [hV]; exact (Below.refl _ _).alloc (Nat.le_refl _) _⟩
  have HC3 := Lib.hid ((HB3.out).then_ HV3.out.2)
  rw [← hV]
  clear hV
  go_wp2_with fail
  refine (prim16_any ⟨#[43]⟩ _).mono ?_
  rintro e w4 ⟨rfl, hb⟩
  have HB4 := Lib.hid ((HC3.out).then_ hb)
  have SB3_4 := Lib.hid (((Below.refl V3.heap.size V3)).then_ hb)
  clear hb
  go_wp2_with fail
  refine (prim16_any ⟨#[35, 46]⟩ _).mono ?_
  rintro e w5 ⟨rfl, hb⟩
  have HB5 := Lib.hid ((HB4.out).then_ hb)
  have SB3_5 := Lib.hid ((SB3_4.out).then_ hb)
  clear hb
  go_wp2_with fail
  refine (of16_any 30 [tPrim ⟨#[43]⟩, tPrim ⟨#[35, 46]⟩] w5.heap.size 0 2 2 _ (row_new_at (w := w5) [(tPrim ⟨#[43]⟩, none, 0, none, 0, none, 0), (tPrim ⟨#[35, 46]⟩, none, 0, none, 0, none, 0)] (fun x hx => by simp only [List.mem_cons, List.not_mem_nil, or_false] at hx; rcases hx with rfl | rfl <;> exact prim_at _ _ _ _ _) rfl) rfl (by decide) (by decide)).mono ?_
  rintro e w6 ⟨g6, c6, rfl, hta, hb⟩
  have HB6 := Lib.hid ((HB5.out.alloc HB5.out.size _).then_ hb)
  have HTA := Lib.hid hta
  have SB3_6 := Lib.hid ((SB3_5.out.alloc SB3_5.out.size _).then_ hb)
  clear hb hta
  have HRK := Lib.hid (tranks_any (tOf 30 [tPrim ⟨#[43]⟩, tPrim ⟨#[35, 46]⟩]) none 0 none 0 (some ⟨g6, 0, none⟩) c6 w6 HTA.out (wf_ofL ⟨by decide, by decide⟩ (fun x hx => by simp only [List.mem_cons, List.not_mem_nil, or_false] at hx; rcases hx with rfl | rfl <;> exact prim_wf _ (by decide)) (by decide)))
  rw [b16_facts.2.1] at HRK
  go_wp2_with fail
  refine HRK.out.mono ?_
  rintro e w7 ⟨rfl, hb⟩
  have HB7 := Lib.hid ((HB6.out).then_ hb)
  have SB3_7 := Lib.hid ((SB3_6.out).then_ hb)
  clear hb HRK HTA
  go_upto_region 3 with fail
  obtain ⟨V7, hV⟩ : ∃ V, V = w7.alloc (.cells #[.int .i64 1, .int .i64 1, .int .i64 1] TR3) := ⟨_, rfl⟩
  have HV7 : Hid (V7.heap[w7.heap.size]? = some (.cells #[.int .i64 1, .int .i64 1, .int .i64 1] TR3 (0, 0)) ∧ Below w7.heap.size w7 V7) := Lib.hid ⟨by rw [hV]; exact heap_alloc_new _ _, by rw [hV]; exact (Below.refl _ _).alloc (Nat.le_refl _) _⟩
  have HC7 := Lib.hid ((HB7.out).then_ HV7.out.2)
  have SB3_7c := Lib.hid ((SB3_7.out).then_ HV7.out.2)
  rw [← hV]
  clear hV
  have HNM : Hid (TmAt V7 (tNameB ⟨#[121]⟩) none none none) := Lib.hid ⟨IntsAt.nil _ _, IntsAt.nil _ _, KidsAt.nil _ _⟩
  have HRK := Lib.hid (tranks_any (tNameB ⟨#[121]⟩) none 0 none 0 none 0 V7 HNM.out name_wf)
  rw [b16_facts.2.2.1] at HRK
  go_wp2_with fail
  refine HRK.out.mono ?_
  rintro e w8 ⟨rfl, hb⟩
  have HB8 := Lib.hid ((HC7.out).then_ hb)
  have SB3_8 := Lib.hid ((SB3_7c.out).then_ hb)
  have SB7_8 := Lib.hid (((Below.refl V7.heap.size V7)).then_ hb)
  clear hb HRK
  go_upto_region 4 with fail
  obtain ⟨V8, hV⟩ : ∃ V, V = w8.alloc (.cells #[.int .i64 0, .int .i64 0, .int .i64 0] TR3) := ⟨_, rfl⟩
  have HV8 : Hid (V8.heap[w8.heap.size]? = some (.cells #[.int .i64 0, .int .i64 0, .int .i64 0] TR3 (0, 0)) ∧ Below w8.heap.size w8 V8) := Lib.hid ⟨by rw [hV]; exact heap_alloc_new _ _, by rw [hV]; exact (Below.refl _ _).alloc (Nat.le_refl _) _⟩
  have HC8 := Lib.hid ((HB8.out).then_ HV8.out.2)
  have SB3_8c := Lib.hid ((SB3_8.out).then_ HV8.out.2)
  have SB7_8c := Lib.hid ((SB7_8.out).then_ HV8.out.2)
  rw [← hV]
  clear hV
  have HEa : Hid (∀ W, Below V8.heap.size V8 W → W.heap[w3.heap.size]? = some (.cells #[.int .i64 64, .int .i64 64, .int .i64 1] TR3 (0, 0))) := Lib.hid fun W h => ((SB3_8c.out.then_ h).block _ (heap_lt HV3.out.1)).trans HV3.out.1
  have hea := HEa.out V8 (Below.refl _ _)
  have a0 := cell_at hea (j := 0) rfl
  have a1 := cell_at hea (j := 1) rfl
  have a2 := cell_at hea (j := 2) rfl
  have al := heap_lt hea
  clear hea
  have HEb : Hid (∀ W, Below V8.heap.size V8 W → W.heap[w7.heap.size]? = some (.cells #[.int .i64 1, .int .i64 1, .int .i64 1] TR3 (0, 0))) := Lib.hid fun W h => ((SB7_8c.out.then_ h).block _ (heap_lt HV7.out.1)).trans HV7.out.1
  have heb := HEb.out V8 (Below.refl _ _)
  have b0 := cell_at heb (j := 0) rfl
  have b1 := cell_at heb (j := 1) rfl
  have b2 := cell_at heb (j := 2) rfl
  have bl := heap_lt heb
  clear heb
  have hq1 : ∀ w, (binOp .eql TR3 (.agg #[.int .i64 64, .int .i64 64, .int .i64 1]) (.agg #[.int .i64 64, .int .i64 64, .int .i64 1])).run Tryz.prog w = .ok (.bool true) w := fun w => by simpa using eq3 ⟨64, 64, 1⟩ ⟨64, 64, 1⟩ w
  have hq2 : ∀ w, (binOp .eql TR3 (.agg #[.int .i64 1, .int .i64 1, .int .i64 1]) (.agg #[.int .i64 1, .int .i64 1, .int .i64 1])).run Tryz.prog w = .ok (.bool true) w := fun w => by simpa using eq3 ⟨1, 1, 1⟩ ⟨1, 1, 1⟩ w
  have hg1 : ∀ x y w, (eqGuard .eql TR3 x y (.agg #[.int .i64 64, .int .i64 64, .int .i64 1]) (.agg #[.int .i64 64, .int .i64 64, .int .i64 1])).run Tryz.prog w = .ok () w := fun x y w => guard3 ⟨64, 64, 1⟩ ⟨64, 64, 1⟩ x y w
  have hg2 : ∀ x y w, (eqGuard .eql TR3 x y (.agg #[.int .i64 1, .int .i64 1, .int .i64 1]) (.agg #[.int .i64 1, .int .i64 1, .int .i64 1])).run Tryz.prog w = .ok () w := fun x y w => guard3 ⟨1, 1, 1⟩ ⟨1, 1, 1⟩ x y w
  go_wp2_with fail
  refine (prim16_any ⟨#[35]⟩ _).mono ?_
  rintro e w9 ⟨rfl, hb⟩
  have HB9 := Lib.hid ((HC8.out).then_ hb)
  have SB3_9 := Lib.hid ((SB3_8c.out).then_ hb)
  have SB7_9 := Lib.hid ((SB7_8c.out).then_ hb)
  have SB8_9 := Lib.hid (((Below.refl V8.heap.size V8)).then_ hb)
  clear hb
  have HRK := Lib.hid (total_any (tPrim ⟨#[35]⟩) none 0 none 0 none 0 1 w9 (prim_at _ _ _ _ _) (prim_wf _ (by decide)))
  rw [b16_facts.2.2.2.1] at HRK
  go_wp2_with fail
  refine HRK.out.mono ?_
  rintro e w10 ⟨rfl, hb⟩
  have HB10 := Lib.hid ((HB9.out).then_ hb)
  have SB3_10 := Lib.hid ((SB3_9.out).then_ hb)
  have SB7_10 := Lib.hid ((SB7_9.out).then_ hb)
  have SB8_10 := Lib.hid ((SB8_9.out).then_ hb)
  clear hb HRK
  go_wp2_with fail
  refine (prim16_any ⟨#[35]⟩ _).mono ?_
  rintro e w11 ⟨rfl, hb⟩
  have HB11 := Lib.hid ((HB10.out).then_ hb)
  have SB3_11 := Lib.hid ((SB3_10.out).then_ hb)
  have SB7_11 := Lib.hid ((SB7_10.out).then_ hb)
  have SB8_11 := Lib.hid ((SB8_10.out).then_ hb)
  clear hb
  have HRK := Lib.hid (total_any (tPrim ⟨#[35]⟩) none 0 none 0 none 0 2 w11 (prim_at _ _ _ _ _) (prim_wf _ (by decide)))
  rw [b16_facts.2.2.2.2.1] at HRK
  go_wp2_with fail
  refine HRK.out.mono ?_
  rintro e w12 ⟨rfl, hb⟩
  have HB12 := Lib.hid ((HB11.out).then_ hb)
  have SB3_12 := Lib.hid ((SB3_11.out).then_ hb)
  have SB7_12 := Lib.hid ((SB7_11.out).then_ hb)
  have SB8_12 := Lib.hid ((SB8_11.out).then_ hb)
  clear hb HRK
  go_wp2_with fail
  refine (prim16_any ⟨#[91]⟩ _).mono ?_
  rintro e w13 ⟨rfl, hb⟩
  have HB13 := Lib.hid ((HB12.out).then_ hb)
  have SB3_13 := Lib.hid ((SB3_12.out).then_ hb)
  have SB7_13 := Lib.hid ((SB7_12.out).then_ hb)
  have SB8_13 := Lib.hid ((SB8_12.out).then_ hb)
  clear hb
  go_wp2_with fail
  refine (prim16_any ⟨#[45, 58]⟩ _).mono ?_
  rintro e w14 ⟨rfl, hb⟩
  have HB14 := Lib.hid ((HB13.out).then_ hb)
  have SB3_14 := Lib.hid ((SB3_13.out).then_ hb)
  have SB7_14 := Lib.hid ((SB7_13.out).then_ hb)
  have SB8_14 := Lib.hid ((SB8_13.out).then_ hb)
  clear hb
  go_wp2_with fail
  refine (prim16_any ⟨#[93]⟩ _).mono ?_
  rintro e w15 ⟨rfl, hb⟩
  have HB15 := Lib.hid ((HB14.out).then_ hb)
  have SB3_15 := Lib.hid ((SB3_14.out).then_ hb)
  have SB7_15 := Lib.hid ((SB7_14.out).then_ hb)
  have SB8_15 := Lib.hid ((SB8_14.out).then_ hb)
  clear hb
  go_wp2_with fail
  refine (of16_any 45 [tPrim ⟨#[91]⟩, tPrim ⟨#[45, 58]⟩, tPrim ⟨#[93]⟩] w15.heap.size 0 3 3 _ (row_new_at (w := w15) [(tPrim ⟨#[91]⟩, none, 0, none, 0, none, 0), (tPrim ⟨#[45, 58]⟩, none, 0, none, 0, none, 0), (tPrim ⟨#[93]⟩, none, 0, none, 0, none, 0)] (fun x hx => by simp only [List.mem_cons, List.not_mem_nil, or_false] at hx; rcases hx with rfl | rfl | rfl <;> exact prim_at _ _ _ _ _) rfl) rfl (by decide) (by decide)).mono ?_
  rintro e w16 ⟨g16, c16, rfl, hta, hb⟩
  have HB16 := Lib.hid ((HB15.out.alloc HB15.out.size _).then_ hb)
  have HTA := Lib.hid hta
  have SB3_16 := Lib.hid ((SB3_15.out.alloc SB3_15.out.size _).then_ hb)
  have SB7_16 := Lib.hid ((SB7_15.out.alloc SB7_15.out.size _).then_ hb)
  have SB8_16 := Lib.hid ((SB8_15.out.alloc SB8_15.out.size _).then_ hb)
  clear hb hta
  have HRK := Lib.hid (total_any (tOf 45 [tPrim ⟨#[91]⟩, tPrim ⟨#[45, 58]⟩, tPrim ⟨#[93]⟩]) none 0 none 0 (some ⟨g16, 0, none⟩) c16 2 w16 HTA.out (wf_ofL ⟨by decide, by decide⟩ (fun x hx => by simp only [List.mem_cons, List.not_mem_nil, or_false] at hx; rcases hx with rfl | rfl | rfl <;> exact prim_wf _ (by decide)) (by decide)))
  rw [b16_facts.2.2.2.2.2] at HRK
  go_wp2_with fail
  refine HRK.out.mono ?_
  rintro e w17 ⟨rfl, hb⟩
  have HB17 := Lib.hid ((HB16.out).then_ hb)
  have SB3_17 := Lib.hid ((SB3_16.out).then_ hb)
  have SB7_17 := Lib.hid ((SB7_16.out).then_ hb)
  have SB8_17 := Lib.hid ((SB8_16.out).then_ hb)
  clear hb HRK
  go_wp2_with fail
  go_ret
  exact ⟨rfl, HB17.out⟩
end Go.Proofs.YtebiojmfieoncaaGreat
