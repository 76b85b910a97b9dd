/- prim.sums: the catalogue's rows. No condition. -/
import Derived.Test.YteohoodfcgfkeaaGreatTeP0
import Derived.Great.BuildSlice
namespace Go.Proofs.YteohoodfcgfkeaaGreat
open Go.RowKit

/-- a row of the catalogue -/
structure Ent where
  s : ByteArray
  m : Option FuncId
  d : Option FuncId
  a : Int
  b : Int
  c : Int
  n : Int
  has : Bool
  co : Bool
  op : Int
def Ent.cells (e : Ent) : Array Value := entCells e.s (isF e.m) (isF e.d) e.a e.b e.c e.n e.has e.co e.op (fv e.m) (fv e.d)
abbrev zeroEnt : Value := .agg #[.string ⟨#[]⟩, .bool false, .bool false, .int .i64 0, .int .i64 0, .int .i64 0, .int .i64 0, .bool false, .bool false, .int .i64 0, .nilFunc, .nilFunc]
theorem info_ent : (Tryz.prog.info? TE).map (fun i => (i.zero, i.size, i.bytes)) = some (some zeroEnt, 12, 88) := by kernel_rfl
def entsCells (l : List Ent) : List Value := l.flatMap fun e => e.cells.toList

def sumsL : List Ent := [⟨⟨#[43]⟩, (some 159), (some 160), 0, 0, 0, 0, true, true, 1⟩, ⟨⟨#[45]⟩, (some 159), (some 160), 0, 0, 0, 0, true, false, 2⟩, ⟨⟨#[42]⟩, (some 159), (some 160), 0, 0, 0, 1, true, true, 3⟩, ⟨⟨#[37]⟩, none, (some 160), 0, 0, 0, 1, true, false, 4⟩, ⟨⟨#[124]⟩, (some 159), (some 160), 0, 0, 0, 0, true, false, 5⟩, ⟨⟨#[60, 46]⟩, (some 159), (some 160), 0, 0, 0, 9223372036854775807, true, true, 6⟩, ⟨⟨#[62, 46]⟩, (some 159), (some 160), 0, 0, 0, (-9223372036854775808), true, true, 7⟩, ⟨⟨#[60]⟩, none, (some 160), 0, 0, 0, 0, true, false, 8⟩, ⟨⟨#[62]⟩, none, (some 160), 0, 0, 0, 0, true, false, 9⟩, ⟨⟨#[61]⟩, (some 164), (some 160), 64, 0, 0, 1, true, true, 10⟩, ⟨⟨#[126, 58]⟩, (some 164), (some 160), 64, 0, 0, 0, true, true, 11⟩, ⟨⟨#[60, 58]⟩, (some 159), (some 160), 0, 0, 0, 1, true, false, 12⟩, ⟨⟨#[62, 58]⟩, (some 159), (some 160), 0, 0, 0, 1, true, false, 13⟩, ⟨⟨#[43, 46]⟩, none, (some 160), 0, 0, 0, 0, true, true, 14⟩, ⟨⟨#[42, 46]⟩, none, (some 160), 0, 0, 0, 1, true, true, 15⟩, ⟨⟨#[43, 58]⟩, (some 159), (some 160), 0, 0, 0, 0, false, true, 16⟩, ⟨⟨#[42, 58]⟩, (some 159), (some 160), 0, 0, 0, 0, false, true, 17⟩, ⟨⟨#[45, 46]⟩, (some 159), (some 165), 0, 64, 64, 0, false, false, 18⟩, ⟨⟨#[45, 58]⟩, (some 159), (some 165), 0, 64, 64, 0, false, true, 19⟩, ⟨⟨#[94]⟩, none, (some 160), 0, 0, 0, 1, true, false, 20⟩, ⟨⟨#[33]⟩, (some 159), (some 160), 0, 0, 0, 1, true, false, 21⟩]
set_option maxRecDepth 100000 in
set_option maxHeartbeats 16000000 in
theorem sums_any (w : World) : Calls Tryz.prog 151 #[] w fun e w' => ∃ g, e = .returned (.slice (some ⟨g, 0, none⟩) 21 21) ∧ w'.heap[g]? = some (.cells (entsCells sumsL).toArray TE (0, 0)) ∧ w.heap.size ≤ g ∧ Below w.heap.size w w' := by
  have HB0 : Hid (Below w.heap.size w w) := Lib.hid (Below.refl _ _)
  go_enter Tryz.func151, Tryz.ntmps151
  go_wp2_with fail
  refine (made_any 1 ⟨#[43]⟩ (some 159) 0 (some 160) 0 0 _).mono ?_
  rintro e w1 ⟨rfl, hb⟩
  have HB1 := Lib.hid (HB0.out.then_ hb)
  clear hb HB0
  go_wp2_with fail
  refine (with_any 1 ⟨#[43]⟩ (some 159) (some 160) 0 0 0 0 0 true true false false _).mono ?_
  rintro e w2 ⟨rfl, hb⟩
  have HB2 := Lib.hid (HB1.out.then_ hb)
  clear hb HB1
  go_wp2_with fail
  refine (both_any 1 ⟨#[43]⟩ (some 159) (some 160) 0 0 0 0 true true true false _).mono ?_
  rintro e w3 ⟨rfl, hb⟩
  have HB3 := Lib.hid (HB2.out.then_ hb)
  clear hb HB2
  go_wp2_with fail
  refine (made_any 2 ⟨#[45]⟩ (some 159) 0 (some 160) 0 0 _).mono ?_
  rintro e w4 ⟨rfl, hb⟩
  have HB4 := Lib.hid (HB3.out.then_ hb)
  clear hb HB3
  go_wp2_with fail
  refine (with_any 2 ⟨#[45]⟩ (some 159) (some 160) 0 0 0 0 0 true true false false _).mono ?_
  rintro e w5 ⟨rfl, hb⟩
  have HB5 := Lib.hid (HB4.out.then_ hb)
  clear hb HB4
  go_wp2_with fail
  refine (made_any 3 ⟨#[42]⟩ (some 159) 0 (some 160) 0 0 _).mono ?_
  rintro e w6 ⟨rfl, hb⟩
  have HB6 := Lib.hid (HB5.out.then_ hb)
  clear hb HB5
  go_wp2_with fail
  refine (with_any 3 ⟨#[42]⟩ (some 159) (some 160) 0 0 0 0 1 true true false false _).mono ?_
  rintro e w7 ⟨rfl, hb⟩
  have HB7 := Lib.hid (HB6.out.then_ hb)
  clear hb HB6
  go_wp2_with fail
  refine (both_any 3 ⟨#[42]⟩ (some 159) (some 160) 0 0 0 1 true true true false _).mono ?_
  rintro e w8 ⟨rfl, hb⟩
  have HB8 := Lib.hid (HB7.out.then_ hb)
  clear hb HB7
  go_wp2_with fail
  refine (made_any 4 ⟨#[37]⟩ none 0 (some 160) 0 0 _).mono ?_
  rintro e w9 ⟨rfl, hb⟩
  have HB9 := Lib.hid (HB8.out.then_ hb)
  clear hb HB8
  go_wp2_with fail
  refine (with_any 4 ⟨#[37]⟩ none (some 160) 0 0 0 0 1 false true false false _).mono ?_
  rintro e w10 ⟨rfl, hb⟩
  have HB10 := Lib.hid (HB9.out.then_ hb)
  clear hb HB9
  go_wp2_with fail
  refine (made_any 5 ⟨#[124]⟩ (some 159) 0 (some 160) 0 0 _).mono ?_
  rintro e w11 ⟨rfl, hb⟩
  have HB11 := Lib.hid (HB10.out.then_ hb)
  clear hb HB10
  go_wp2_with fail
  refine (with_any 5 ⟨#[124]⟩ (some 159) (some 160) 0 0 0 0 0 true true false false _).mono ?_
  rintro e w12 ⟨rfl, hb⟩
  have HB12 := Lib.hid (HB11.out.then_ hb)
  clear hb HB11
  go_wp2_with fail
  refine (made_any 6 ⟨#[60, 46]⟩ (some 159) 0 (some 160) 0 0 _).mono ?_
  rintro e w13 ⟨rfl, hb⟩
  have HB13 := Lib.hid (HB12.out.then_ hb)
  clear hb HB12
  go_wp2_with fail
  refine (with_any 6 ⟨#[60, 46]⟩ (some 159) (some 160) 0 0 0 0 9223372036854775807 true true false false _).mono ?_
  rintro e w14 ⟨rfl, hb⟩
  have HB14 := Lib.hid (HB13.out.then_ hb)
  clear hb HB13
  go_wp2_with fail
  refine (both_any 6 ⟨#[60, 46]⟩ (some 159) (some 160) 0 0 0 9223372036854775807 true true true false _).mono ?_
  rintro e w15 ⟨rfl, hb⟩
  have HB15 := Lib.hid (HB14.out.then_ hb)
  clear hb HB14
  go_wp2_with fail
  refine (made_any 7 ⟨#[62, 46]⟩ (some 159) 0 (some 160) 0 0 _).mono ?_
  rintro e w16 ⟨rfl, hb⟩
  have HB16 := Lib.hid (HB15.out.then_ hb)
  clear hb HB15
  go_wp2_with fail
  refine (with_any 7 ⟨#[62, 46]⟩ (some 159) (some 160) 0 0 0 0 (-9223372036854775808) true true false false _).mono ?_
  rintro e w17 ⟨rfl, hb⟩
  have HB17 := Lib.hid (HB16.out.then_ hb)
  clear hb HB16
  go_wp2_with fail
  refine (both_any 7 ⟨#[62, 46]⟩ (some 159) (some 160) 0 0 0 (-9223372036854775808) true true true false _).mono ?_
  rintro e w18 ⟨rfl, hb⟩
  have HB18 := Lib.hid (HB17.out.then_ hb)
  clear hb HB17
  go_wp2_with fail
  refine (made_any 8 ⟨#[60]⟩ none 0 (some 160) 0 0 _).mono ?_
  rintro e w19 ⟨rfl, hb⟩
  have HB19 := Lib.hid (HB18.out.then_ hb)
  clear hb HB18
  go_wp2_with fail
  refine (with_any 8 ⟨#[60]⟩ none (some 160) 0 0 0 0 0 false true false false _).mono ?_
  rintro e w20 ⟨rfl, hb⟩
  have HB20 := Lib.hid (HB19.out.then_ hb)
  clear hb HB19
  go_wp2_with fail
  refine (made_any 9 ⟨#[62]⟩ none 0 (some 160) 0 0 _).mono ?_
  rintro e w21 ⟨rfl, hb⟩
  have HB21 := Lib.hid (HB20.out.then_ hb)
  clear hb HB20
  go_wp2_with fail
  refine (with_any 9 ⟨#[62]⟩ none (some 160) 0 0 0 0 0 false true false false _).mono ?_
  rintro e w22 ⟨rfl, hb⟩
  have HB22 := Lib.hid (HB21.out.then_ hb)
  clear hb HB21
  go_wp2_with fail
  refine (made_any 10 ⟨#[61]⟩ (some 164) 64 (some 160) 0 0 _).mono ?_
  rintro e w23 ⟨rfl, hb⟩
  have HB23 := Lib.hid (HB22.out.then_ hb)
  clear hb HB22
  go_wp2_with fail
  refine (with_any 10 ⟨#[61]⟩ (some 164) (some 160) 64 0 0 0 1 true true false false _).mono ?_
  rintro e w24 ⟨rfl, hb⟩
  have HB24 := Lib.hid (HB23.out.then_ hb)
  clear hb HB23
  go_wp2_with fail
  refine (both_any 10 ⟨#[61]⟩ (some 164) (some 160) 64 0 0 1 true true true false _).mono ?_
  rintro e w25 ⟨rfl, hb⟩
  have HB25 := Lib.hid (HB24.out.then_ hb)
  clear hb HB24
  go_wp2_with fail
  refine (made_any 11 ⟨#[126, 58]⟩ (some 164) 64 (some 160) 0 0 _).mono ?_
  rintro e w26 ⟨rfl, hb⟩
  have HB26 := Lib.hid (HB25.out.then_ hb)
  clear hb HB25
  go_wp2_with fail
  refine (with_any 11 ⟨#[126, 58]⟩ (some 164) (some 160) 64 0 0 0 0 true true false false _).mono ?_
  rintro e w27 ⟨rfl, hb⟩
  have HB27 := Lib.hid (HB26.out.then_ hb)
  clear hb HB26
  go_wp2_with fail
  refine (both_any 11 ⟨#[126, 58]⟩ (some 164) (some 160) 64 0 0 0 true true true false _).mono ?_
  rintro e w28 ⟨rfl, hb⟩
  have HB28 := Lib.hid (HB27.out.then_ hb)
  clear hb HB27
  go_wp2_with fail
  refine (made_any 12 ⟨#[60, 58]⟩ (some 159) 0 (some 160) 0 0 _).mono ?_
  rintro e w29 ⟨rfl, hb⟩
  have HB29 := Lib.hid (HB28.out.then_ hb)
  clear hb HB28
  go_wp2_with fail
  refine (with_any 12 ⟨#[60, 58]⟩ (some 159) (some 160) 0 0 0 0 1 true true false false _).mono ?_
  rintro e w30 ⟨rfl, hb⟩
  have HB30 := Lib.hid (HB29.out.then_ hb)
  clear hb HB29
  go_wp2_with fail
  refine (made_any 13 ⟨#[62, 58]⟩ (some 159) 0 (some 160) 0 0 _).mono ?_
  rintro e w31 ⟨rfl, hb⟩
  have HB31 := Lib.hid (HB30.out.then_ hb)
  clear hb HB30
  go_wp2_with fail
  refine (with_any 13 ⟨#[62, 58]⟩ (some 159) (some 160) 0 0 0 0 1 true true false false _).mono ?_
  rintro e w32 ⟨rfl, hb⟩
  have HB32 := Lib.hid (HB31.out.then_ hb)
  clear hb HB31
  go_wp2_with fail
  refine (made_any 14 ⟨#[43, 46]⟩ none 0 (some 160) 0 0 _).mono ?_
  rintro e w33 ⟨rfl, hb⟩
  have HB33 := Lib.hid (HB32.out.then_ hb)
  clear hb HB32
  go_wp2_with fail
  refine (with_any 14 ⟨#[43, 46]⟩ none (some 160) 0 0 0 0 0 false true false false _).mono ?_
  rintro e w34 ⟨rfl, hb⟩
  have HB34 := Lib.hid (HB33.out.then_ hb)
  clear hb HB33
  go_wp2_with fail
  refine (both_any 14 ⟨#[43, 46]⟩ none (some 160) 0 0 0 0 false true true false _).mono ?_
  rintro e w35 ⟨rfl, hb⟩
  have HB35 := Lib.hid (HB34.out.then_ hb)
  clear hb HB34
  go_wp2_with fail
  refine (made_any 15 ⟨#[42, 46]⟩ none 0 (some 160) 0 0 _).mono ?_
  rintro e w36 ⟨rfl, hb⟩
  have HB36 := Lib.hid (HB35.out.then_ hb)
  clear hb HB35
  go_wp2_with fail
  refine (with_any 15 ⟨#[42, 46]⟩ none (some 160) 0 0 0 0 1 false true false false _).mono ?_
  rintro e w37 ⟨rfl, hb⟩
  have HB37 := Lib.hid (HB36.out.then_ hb)
  clear hb HB36
  go_wp2_with fail
  refine (both_any 15 ⟨#[42, 46]⟩ none (some 160) 0 0 0 1 false true true false _).mono ?_
  rintro e w38 ⟨rfl, hb⟩
  have HB38 := Lib.hid (HB37.out.then_ hb)
  clear hb HB37
  go_wp2_with fail
  refine (made_any 16 ⟨#[43, 58]⟩ (some 159) 0 (some 160) 0 0 _).mono ?_
  rintro e w39 ⟨rfl, hb⟩
  have HB39 := Lib.hid (HB38.out.then_ hb)
  clear hb HB38
  go_wp2_with fail
  refine (both_any 16 ⟨#[43, 58]⟩ (some 159) (some 160) 0 0 0 0 true true false false _).mono ?_
  rintro e w40 ⟨rfl, hb⟩
  have HB40 := Lib.hid (HB39.out.then_ hb)
  clear hb HB39
  go_wp2_with fail
  refine (made_any 17 ⟨#[42, 58]⟩ (some 159) 0 (some 160) 0 0 _).mono ?_
  rintro e w41 ⟨rfl, hb⟩
  have HB41 := Lib.hid (HB40.out.then_ hb)
  clear hb HB40
  go_wp2_with fail
  refine (both_any 17 ⟨#[42, 58]⟩ (some 159) (some 160) 0 0 0 0 true true false false _).mono ?_
  rintro e w42 ⟨rfl, hb⟩
  have HB42 := Lib.hid (HB41.out.then_ hb)
  clear hb HB41
  go_wp2_with fail
  refine (made_any 18 ⟨#[45, 46]⟩ (some 159) 0 (some 165) 64 64 _).mono ?_
  rintro e w43 ⟨rfl, hb⟩
  have HB43 := Lib.hid (HB42.out.then_ hb)
  clear hb HB42
  go_wp2_with fail
  refine (made_any 19 ⟨#[45, 58]⟩ (some 159) 0 (some 165) 64 64 _).mono ?_
  rintro e w44 ⟨rfl, hb⟩
  have HB44 := Lib.hid (HB43.out.then_ hb)
  clear hb HB43
  go_wp2_with fail
  refine (both_any 19 ⟨#[45, 58]⟩ (some 159) (some 165) 0 64 64 0 true true false false _).mono ?_
  rintro e w45 ⟨rfl, hb⟩
  have HB45 := Lib.hid (HB44.out.then_ hb)
  clear hb HB44
  go_wp2_with fail
  refine (made_any 20 ⟨#[94]⟩ none 0 (some 160) 0 0 _).mono ?_
  rintro e w46 ⟨rfl, hb⟩
  have HB46 := Lib.hid (HB45.out.then_ hb)
  clear hb HB45
  go_wp2_with fail
  refine (with_any 20 ⟨#[94]⟩ none (some 160) 0 0 0 0 1 false true false false _).mono ?_
  rintro e w47 ⟨rfl, hb⟩
  have HB47 := Lib.hid (HB46.out.then_ hb)
  clear hb HB46
  go_wp2_with fail
  refine (made_any 21 ⟨#[33]⟩ (some 159) 0 (some 160) 0 0 _).mono ?_
  rintro e w48 ⟨rfl, hb⟩
  have HB48 := Lib.hid (HB47.out.then_ hb)
  clear hb HB47
  go_wp2_with fail
  refine (with_any 21 ⟨#[33]⟩ (some 159) (some 160) 0 0 0 0 1 true true false false _).mono ?_
  rintro e w49 ⟨rfl, hb⟩
  have HB49 := Lib.hid (HB48.out.then_ hb)
  clear hb HB48
  obtain ⟨ie, hie, hz0, hz1, hz2⟩ := info_parts info_ent
  go_wp2_with (refine wpList_buildSlice rfl 149 TE 21 _ rfl (entsCells sumsL).toArray ie zeroEnt Tryz.underlying149 hie hz0 (by rw [hz1]; decide) (by rw [hz1]; decide) (by rw [hz1]; kernel_rfl) ?_)
  go_ret
  exact ⟨w49.heap.size, rfl, heap_alloc_new _ _, HB49.out.size, HB49.out.alloc HB49.out.size _⟩
end Go.Proofs.YteohoodfcgfkeaaGreat
