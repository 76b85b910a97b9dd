/- prim.others: the catalogue's rows. No condition. -/
import Derived.Test.YteohoodfcgfkeaaGreatTeP1
import Derived.Great.BuildSlice
namespace Go.Proofs.YteohoodfcgfkeaaGreat
open Go.RowKit

def othersL : List Ent := [⟨⟨#[35]⟩, (some 166), (some 168), 64, 1, 64, 0, false, false, 22⟩, ⟨⟨#[36]⟩, (some 166), (some 167), 64, 1, 64, 0, false, false, 23⟩, ⟨⟨#[44]⟩, (some 166), (some 167), 64, 64, 64, 0, false, false, 24⟩, ⟨⟨#[44, 46]⟩, (some 166), (some 167), 64, 64, 64, 0, false, false, 25⟩, ⟨⟨#[44, 58]⟩, (some 166), (some 167), 64, 64, 64, 0, false, false, 26⟩, ⟨⟨#[123]⟩, none, (some 165), 0, 0, 64, 0, false, false, 27⟩, ⟨⟨#[123, 46]⟩, (some 166), (some 167), 64, 1, 64, 0, false, false, 28⟩, ⟨⟨#[125, 46]⟩, (some 166), (some 167), 64, 1, 64, 0, false, false, 29⟩, ⟨⟨#[123, 58]⟩, (some 166), none, 64, 0, 0, 0, false, false, 30⟩, ⟨⟨#[125, 58]⟩, (some 166), none, 64, 0, 0, 0, false, false, 31⟩, ⟨⟨#[124, 46]⟩, (some 166), (some 167), 64, 1, 64, 0, false, false, 32⟩, ⟨⟨#[124, 58]⟩, (some 166), (some 167), 64, 1, 64, 0, false, false, 33⟩, ⟨⟨#[105, 46]⟩, (some 169), (some 165), 1, 64, 64, 0, false, false, 34⟩, ⟨⟨#[101, 46]⟩, none, (some 165), 0, 64, 64, 0, false, false, 35⟩, ⟨⟨#[126, 46]⟩, (some 164), none, 64, 0, 0, 0, false, false, 36⟩, ⟨⟨#[47, 58]⟩, (some 164), (some 165), 64, 64, 64, 0, false, false, 37⟩, ⟨⟨#[92, 58]⟩, (some 164), (some 165), 64, 64, 64, 0, false, false, 38⟩, ⟨⟨#[35, 46]⟩, (some 169), (some 168), 1, 1, 1, 0, false, false, 39⟩, ⟨⟨#[35, 58]⟩, (some 169), (some 168), 64, 1, 0, 0, false, false, 40⟩, ⟨⟨#[91]⟩, (some 166), (some 167), 64, 64, 64, 0, false, false, 41⟩, ⟨⟨#[93]⟩, (some 166), (some 167), 64, 64, 64, 0, false, false, 42⟩, ⟨⟨#[73, 46]⟩, (some 169), none, 1, 0, 0, 0, false, false, 43⟩]
set_option maxRecDepth 100000 in
set_option maxHeartbeats 16000000 in
theorem others_any (w : World) : Calls Tryz.prog 152 #[] w fun e w' => ∃ g, e = .returned (.slice (some ⟨g, 0, none⟩) 22 22) ∧ w'.heap[g]? = some (.cells (entsCells othersL).toArray TE (0, 0)) ∧ w.heap.size ≤ g ∧ Below w.heap.size w w' := by
  have HB0 : Hid (Below w.heap.size w w) := Lib.hid (Below.refl _ _)
  go_enter Tryz.func152, Tryz.ntmps152
  go_wp2_with fail
  refine (made_any 22 ⟨#[35]⟩ (some 166) 64 (some 168) 1 64 _).mono ?_
  rintro e w1 ⟨rfl, hb⟩
  have HB1 := Lib.hid (HB0.out.then_ hb)
  clear hb HB0
  go_wp2_with fail
  refine (made_any 23 ⟨#[36]⟩ (some 166) 64 (some 167) 1 64 _).mono ?_
  rintro e w2 ⟨rfl, hb⟩
  have HB2 := Lib.hid (HB1.out.then_ hb)
  clear hb HB1
  go_wp2_with fail
  refine (made_any 24 ⟨#[44]⟩ (some 166) 64 (some 167) 64 64 _).mono ?_
  rintro e w3 ⟨rfl, hb⟩
  have HB3 := Lib.hid (HB2.out.then_ hb)
  clear hb HB2
  go_wp2_with fail
  refine (made_any 25 ⟨#[44, 46]⟩ (some 166) 64 (some 167) 64 64 _).mono ?_
  rintro e w4 ⟨rfl, hb⟩
  have HB4 := Lib.hid (HB3.out.then_ hb)
  clear hb HB3
  go_wp2_with fail
  refine (made_any 26 ⟨#[44, 58]⟩ (some 166) 64 (some 167) 64 64 _).mono ?_
  rintro e w5 ⟨rfl, hb⟩
  have HB5 := Lib.hid (HB4.out.then_ hb)
  clear hb HB4
  go_wp2_with fail
  refine (made_any 27 ⟨#[123]⟩ none 0 (some 165) 0 64 _).mono ?_
  rintro e w6 ⟨rfl, hb⟩
  have HB6 := Lib.hid (HB5.out.then_ hb)
  clear hb HB5
  go_wp2_with fail
  refine (made_any 28 ⟨#[123, 46]⟩ (some 166) 64 (some 167) 1 64 _).mono ?_
  rintro e w7 ⟨rfl, hb⟩
  have HB7 := Lib.hid (HB6.out.then_ hb)
  clear hb HB6
  go_wp2_with fail
  refine (made_any 29 ⟨#[125, 46]⟩ (some 166) 64 (some 167) 1 64 _).mono ?_
  rintro e w8 ⟨rfl, hb⟩
  have HB8 := Lib.hid (HB7.out.then_ hb)
  clear hb HB7
  go_wp2_with fail
  refine (made_any 30 ⟨#[123, 58]⟩ (some 166) 64 none 0 0 _).mono ?_
  rintro e w9 ⟨rfl, hb⟩
  have HB9 := Lib.hid (HB8.out.then_ hb)
  clear hb HB8
  go_wp2_with fail
  refine (made_any 31 ⟨#[125, 58]⟩ (some 166) 64 none 0 0 _).mono ?_
  rintro e w10 ⟨rfl, hb⟩
  have HB10 := Lib.hid (HB9.out.then_ hb)
  clear hb HB9
  go_wp2_with fail
  refine (made_any 32 ⟨#[124, 46]⟩ (some 166) 64 (some 167) 1 64 _).mono ?_
  rintro e w11 ⟨rfl, hb⟩
  have HB11 := Lib.hid (HB10.out.then_ hb)
  clear hb HB10
  go_wp2_with fail
  refine (made_any 33 ⟨#[124, 58]⟩ (some 166) 64 (some 167) 1 64 _).mono ?_
  rintro e w12 ⟨rfl, hb⟩
  have HB12 := Lib.hid (HB11.out.then_ hb)
  clear hb HB11
  go_wp2_with fail
  refine (made_any 34 ⟨#[105, 46]⟩ (some 169) 1 (some 165) 64 64 _).mono ?_
  rintro e w13 ⟨rfl, hb⟩
  have HB13 := Lib.hid (HB12.out.then_ hb)
  clear hb HB12
  go_wp2_with fail
  refine (made_any 35 ⟨#[101, 46]⟩ none 0 (some 165) 64 64 _).mono ?_
  rintro e w14 ⟨rfl, hb⟩
  have HB14 := Lib.hid (HB13.out.then_ hb)
  clear hb HB13
  go_wp2_with fail
  refine (made_any 36 ⟨#[126, 46]⟩ (some 164) 64 none 0 0 _).mono ?_
  rintro e w15 ⟨rfl, hb⟩
  have HB15 := Lib.hid (HB14.out.then_ hb)
  clear hb HB14
  go_wp2_with fail
  refine (made_any 37 ⟨#[47, 58]⟩ (some 164) 64 (some 165) 64 64 _).mono ?_
  rintro e w16 ⟨rfl, hb⟩
  have HB16 := Lib.hid (HB15.out.then_ hb)
  clear hb HB15
  go_wp2_with fail
  refine (made_any 38 ⟨#[92, 58]⟩ (some 164) 64 (some 165) 64 64 _).mono ?_
  rintro e w17 ⟨rfl, hb⟩
  have HB17 := Lib.hid (HB16.out.then_ hb)
  clear hb HB16
  go_wp2_with fail
  refine (made_any 39 ⟨#[35, 46]⟩ (some 169) 1 (some 168) 1 1 _).mono ?_
  rintro e w18 ⟨rfl, hb⟩
  have HB18 := Lib.hid (HB17.out.then_ hb)
  clear hb HB17
  go_wp2_with fail
  refine (made_any 40 ⟨#[35, 58]⟩ (some 169) 64 (some 168) 1 0 _).mono ?_
  rintro e w19 ⟨rfl, hb⟩
  have HB19 := Lib.hid (HB18.out.then_ hb)
  clear hb HB18
  go_wp2_with fail
  refine (made_any 41 ⟨#[91]⟩ (some 166) 64 (some 167) 64 64 _).mono ?_
  rintro e w20 ⟨rfl, hb⟩
  have HB20 := Lib.hid (HB19.out.then_ hb)
  clear hb HB19
  go_wp2_with fail
  refine (made_any 42 ⟨#[93]⟩ (some 166) 64 (some 167) 64 64 _).mono ?_
  rintro e w21 ⟨rfl, hb⟩
  have HB21 := Lib.hid (HB20.out.then_ hb)
  clear hb HB20
  go_wp2_with fail
  refine (made_any 43 ⟨#[73, 46]⟩ (some 169) 1 none 0 0 _).mono ?_
  rintro e w22 ⟨rfl, hb⟩
  have HB22 := Lib.hid (HB21.out.then_ hb)
  clear hb HB21
  obtain ⟨ie, hie, hz0, hz1, hz2⟩ := info_parts info_ent
  go_wp2_with (refine wpList_buildSlice rfl 149 TE 22 _ rfl (entsCells othersL).toArray ie zeroEnt Tryz.underlying149 hie hz0 (by rw [hz1]; decide) (by rw [hz1]; decide) (by rw [hz1]; kernel_rfl) ?_)
  go_ret
  exact ⟨w22.heap.size, rfl, heap_alloc_new _ _, HB22.out.size, HB22.out.alloc HB22.out.size _⟩
end Go.Proofs.YteohoodfcgfkeaaGreat
