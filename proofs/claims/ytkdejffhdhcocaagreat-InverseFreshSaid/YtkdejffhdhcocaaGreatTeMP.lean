/- prim: made, with, both. No condition. · prim.sums: the catalogue's rows. No condition. · prim.others: the catalogue's rows. No condition. · prim.rows: the whole catalogue. No condition. · prim.Of, by its contract: the number of a spelling. Condition: the text is within reach. -/
import Derived.Test.YtkdejffhdhcocaaGreatTeW1
import Derived.Laws.EntriesVeiled
import Derived.Great.BuildSlice
import Derived.Deep.AppendLies
import Derived.OwnWalk
import Derived.Test.YtkdejffhdhcocaaGreatTeM1
import Derived.Maps.OwnOps
import Derived.Maps.OwnSet
namespace Go.Proofs.YtkdejffhdhcocaaGreat
open Go.RowKit

abbrev TE : TypeId := 162
abbrev T1F : TypeId := 159
abbrev T2F : TypeId := 160
/-- a function, or none -/
def fv : Option FuncId → Value
  | none => .nilFunc
  | some f => .func (.func f) #[] #[]
def isF : Option FuncId → Bool
  | none => false
  | some _ => true
/-- a row of the catalogue, as it lies in memory -/
abbrev entCells (s : ByteArray) (mo dy : Bool) (a b c n : Int) (has co : Bool) (op : Int) (m d : Value) : Array Value := #[.string s, .bool mo, .bool dy, .int .i64 a, .int .i64 b, .int .i64 c, .int .i64 n, .bool has, .bool co, .int .i64 op, m, d]
theorem neq1_f (f : FuncId) (w : World) : (binOp .neq T1F (.func (.func f) #[] #[]) .nilFunc).run Tryz.prog w = .ok (.bool true) w := by kernel_rfl
theorem neq1_n (w : World) : (binOp .neq T1F .nilFunc .nilFunc).run Tryz.prog w = .ok (.bool false) w := by kernel_rfl
theorem neq2_f (f : FuncId) (w : World) : (binOp .neq T2F (.func (.func f) #[] #[]) .nilFunc).run Tryz.prog w = .ok (.bool true) w := by kernel_rfl
theorem neq2_n (w : World) : (binOp .neq T2F .nilFunc .nilFunc).run Tryz.prog w = .ok (.bool false) w := by kernel_rfl
theorem guard1_f (f : FuncId) (x y : Operand) (w : World) : (eqGuard .neq T1F x y (.func (.func f) #[] #[]) .nilFunc).run Tryz.prog w = .ok () w := by kernel_rfl
theorem guard1_n (x y : Operand) (w : World) : (eqGuard .neq T1F x y .nilFunc .nilFunc).run Tryz.prog w = .ok () w := by kernel_rfl
theorem guard2_f (f : FuncId) (x y : Operand) (w : World) : (eqGuard .neq T2F x y (.func (.func f) #[] #[]) .nilFunc).run Tryz.prog w = .ok () w := by kernel_rfl
theorem guard2_n (x y : Operand) (w : World) : (eqGuard .neq T2F x y .nilFunc .nilFunc).run Tryz.prog w = .ok () w := by kernel_rfl
theorem ret_agg {P : Program} {fn : Func} {a : Act} {w : World} {v0 : Value} {B : World → Prop} (hr : (results fn a.tmps).run P w = .ok v0 w) (hd : a.defers = []) (hb : B w) : bodyPost P fn (fun e w' => e = .returned v0 ∧ B w') .ret a w := bodyPost_ret hr hd ⟨rfl, hb⟩
set_option maxRecDepth 100000 in
set_option maxHeartbeats 2000000 in
theorem made_any (op : Int) (s : ByteArray) (m : Option FuncId) (a : Int) (d : Option FuncId) (b c : Int) (w : World) :
    Calls Tryz.prog 158 #[.int .i64 op, .string s, fv m, .int .i64 a, fv d, .int .i64 b, .int .i64 c] w fun e w' => e = .returned (.agg (entCells s (isF m) (isF d) a b c 0 false false op (fv m) (fv d))) ∧ Below w.heap.size w w' := by
  have n1 := neq1_f
  have n2 := neq1_n
  have n3 := neq2_f
  have n4 := neq2_n
  have g1 := guard1_f
  have g2 := guard1_n
  have g3 := guard2_f
  have g4 := guard2_n
  cases m <;> cases d <;> simp only [fv, isF]
  all_goals
    go_enter Tryz.func158, Tryz.ntmps158
    go_wp2_with fail
    refine ret_agg ?_ rfl ?_
    · simp [results, Tryz.results158, go_sem]
    · repeat (first | exact Below.refl _ _ | refine Below.alloc ?_ (by simp) _ | refine Below.setCell ?_ (by simp) _)
set_option maxRecDepth 100000 in
set_option maxHeartbeats 2000000 in
theorem with_any (op : Int) (s : ByteArray) (m d : Option FuncId) (a b c n n' : Int) (mo dy has co : Bool) (w : World) :
    Calls Tryz.prog 159 #[.agg (entCells s mo dy a b c n has co op (fv m) (fv d)), .int .i64 n'] w fun e w' => e = .returned (.agg (entCells s mo dy a b c n' true co op (fv m) (fv d))) ∧ Below w.heap.size w w' := by
  cases m <;> cases d <;> simp only [fv]
  all_goals
    go_enter Tryz.func159, Tryz.ntmps159
    go_wp2_with fail
    refine ret_agg ?_ rfl ?_
    · simp [results, Tryz.results159, go_sem]
    · repeat (first | exact Below.refl _ _ | refine Below.alloc ?_ (by simp) _ | refine Below.setCell ?_ (by simp) _)
set_option maxRecDepth 100000 in
set_option maxHeartbeats 2000000 in
theorem both_any (op : Int) (s : ByteArray) (m d : Option FuncId) (a b c n : Int) (mo dy has co : Bool) (w : World) :
    Calls Tryz.prog 160 #[.agg (entCells s mo dy a b c n has co op (fv m) (fv d))] w fun e w' => e = .returned (.agg (entCells s mo dy a b c n has true op (fv m) (fv d))) ∧ Below w.heap.size w w' := by
  cases m <;> cases d <;> simp only [fv]
  all_goals
    go_enter Tryz.func160, Tryz.ntmps160
    go_wp2_with fail
    refine ret_agg ?_ rfl ?_
    · simp [results, Tryz.results160, go_sem]
    · repeat (first | exact Below.refl _ _ | refine Below.alloc ?_ (by simp) _ | refine Below.setCell ?_ (by simp) _)
end Go.Proofs.YtkdejffhdhcocaaGreat

namespace Go.Proofs.YtkdejffhdhcocaaGreat
open Go.RowKit

/-- a row of the catalogue -/
structure Ent where
  s : ByteArray
  m : Option FuncId
  d : Option FuncId
  a : Int
  b : Int
  c : Int
  n : Int
  has : Bool
  co : Bool
  op : Int
def Ent.cells (e : Ent) : Array Value := entCells e.s (isF e.m) (isF e.d) e.a e.b e.c e.n e.has e.co e.op (fv e.m) (fv e.d)
abbrev zeroEnt : Value := .agg #[.string ⟨#[]⟩, .bool false, .bool false, .int .i64 0, .int .i64 0, .int .i64 0, .int .i64 0, .bool false, .bool false, .int .i64 0, .nilFunc, .nilFunc]
theorem info_ent : (Tryz.prog.info? TE).map (fun i => (i.zero, i.size, i.bytes)) = some (some zeroEnt, 12, 88) := by kernel_rfl
def entsCells (l : List Ent) : List Value := l.flatMap fun e => e.cells.toList

def sumsL : List Ent := [⟨⟨#[43]⟩, (some 156), (some 157), 0, 0, 0, 0, true, true, 1⟩, ⟨⟨#[45]⟩, (some 156), (some 157), 0, 0, 0, 0, true, false, 2⟩, ⟨⟨#[42]⟩, (some 156), (some 157), 0, 0, 0, 1, true, true, 3⟩, ⟨⟨#[37]⟩, none, (some 157), 0, 0, 0, 1, true, false, 4⟩, ⟨⟨#[124]⟩, (some 156), (some 157), 0, 0, 0, 0, true, false, 5⟩, ⟨⟨#[60, 46]⟩, (some 156), (some 157), 0, 0, 0, 9223372036854775807, true, true, 6⟩, ⟨⟨#[62, 46]⟩, (some 156), (some 157), 0, 0, 0, (-9223372036854775808), true, true, 7⟩, ⟨⟨#[60]⟩, none, (some 157), 0, 0, 0, 0, true, false, 8⟩, ⟨⟨#[62]⟩, none, (some 157), 0, 0, 0, 0, true, false, 9⟩, ⟨⟨#[61]⟩, (some 161), (some 157), 64, 0, 0, 1, true, true, 10⟩, ⟨⟨#[126, 58]⟩, (some 161), (some 157), 64, 0, 0, 0, true, true, 11⟩, ⟨⟨#[60, 58]⟩, (some 156), (some 157), 0, 0, 0, 1, true, false, 12⟩, ⟨⟨#[62, 58]⟩, (some 156), (some 157), 0, 0, 0, 1, true, false, 13⟩, ⟨⟨#[43, 46]⟩, none, (some 157), 0, 0, 0, 0, true, true, 14⟩, ⟨⟨#[42, 46]⟩, none, (some 157), 0, 0, 0, 1, true, true, 15⟩, ⟨⟨#[43, 58]⟩, (some 156), (some 157), 0, 0, 0, 0, false, true, 16⟩, ⟨⟨#[42, 58]⟩, (some 156), (some 157), 0, 0, 0, 0, false, true, 17⟩, ⟨⟨#[45, 46]⟩, (some 156), (some 162), 0, 64, 64, 0, false, false, 18⟩, ⟨⟨#[45, 58]⟩, (some 156), (some 162), 0, 64, 64, 0, false, true, 19⟩, ⟨⟨#[94]⟩, none, (some 157), 0, 0, 0, 1, true, false, 20⟩, ⟨⟨#[33]⟩, (some 156), (some 157), 0, 0, 0, 1, true, false, 21⟩]
set_option maxRecDepth 100000 in
set_option maxHeartbeats 16000000 in
theorem sums_any (w : World) : Calls Tryz.prog 152 #[] w fun e w' => ∃ g, e = .returned (.slice (some ⟨g, 0, none⟩) 21 21) ∧ w'.heap[g]? = some (.cells (entsCells sumsL).toArray TE (0, 0)) ∧ w.heap.size ≤ g ∧ Below w.heap.size w w' := by
  have HB0 : Hid (Below w.heap.size w w) := Lib.hid (Below.refl _ _)
  go_enter Tryz.func152, Tryz.ntmps152
  go_wp2_with fail
  refine (made_any 1 ⟨#[43]⟩ (some 156) 0 (some 157) 0 0 _).mono ?_
  rintro e w1 ⟨rfl, hb⟩
  have HB1 := Lib.hid (HB0.out.then_ hb)
  clear hb HB0
  go_wp2_with fail
  refine (with_any 1 ⟨#[43]⟩ (some 156) (some 157) 0 0 0 0 0 true true false false _).mono ?_
  rintro e w2 ⟨rfl, hb⟩
  have HB2 := Lib.hid (HB1.out.then_ hb)
  clear hb HB1
  go_wp2_with fail
  refine (both_any 1 ⟨#[43]⟩ (some 156) (some 157) 0 0 0 0 true true true false _).mono ?_
  rintro e w3 ⟨rfl, hb⟩
  have HB3 := Lib.hid (HB2.out.then_ hb)
  clear hb HB2
  go_wp2_with fail
  refine (made_any 2 ⟨#[45]⟩ (some 156) 0 (some 157) 0 0 _).mono ?_
  rintro e w4 ⟨rfl, hb⟩
  have HB4 := Lib.hid (HB3.out.then_ hb)
  clear hb HB3
  go_wp2_with fail
  refine (with_any 2 ⟨#[45]⟩ (some 156) (some 157) 0 0 0 0 0 true true false false _).mono ?_
  rintro e w5 ⟨rfl, hb⟩
  have HB5 := Lib.hid (HB4.out.then_ hb)
  clear hb HB4
  go_wp2_with fail
  refine (made_any 3 ⟨#[42]⟩ (some 156) 0 (some 157) 0 0 _).mono ?_
  rintro e w6 ⟨rfl, hb⟩
  have HB6 := Lib.hid (HB5.out.then_ hb)
  clear hb HB5
  go_wp2_with fail
  refine (with_any 3 ⟨#[42]⟩ (some 156) (some 157) 0 0 0 0 1 true true false false _).mono ?_
  rintro e w7 ⟨rfl, hb⟩
  have HB7 := Lib.hid (HB6.out.then_ hb)
  clear hb HB6
  go_wp2_with fail
  refine (both_any 3 ⟨#[42]⟩ (some 156) (some 157) 0 0 0 1 true true true false _).mono ?_
  rintro e w8 ⟨rfl, hb⟩
  have HB8 := Lib.hid (HB7.out.then_ hb)
  clear hb HB7
  go_wp2_with fail
  refine (made_any 4 ⟨#[37]⟩ none 0 (some 157) 0 0 _).mono ?_
  rintro e w9 ⟨rfl, hb⟩
  have HB9 := Lib.hid (HB8.out.then_ hb)
  clear hb HB8
  go_wp2_with fail
  refine (with_any 4 ⟨#[37]⟩ none (some 157) 0 0 0 0 1 false true false false _).mono ?_
  rintro e w10 ⟨rfl, hb⟩
  have HB10 := Lib.hid (HB9.out.then_ hb)
  clear hb HB9
  go_wp2_with fail
  refine (made_any 5 ⟨#[124]⟩ (some 156) 0 (some 157) 0 0 _).mono ?_
  rintro e w11 ⟨rfl, hb⟩
  have HB11 := Lib.hid (HB10.out.then_ hb)
  clear hb HB10
  go_wp2_with fail
  refine (with_any 5 ⟨#[124]⟩ (some 156) (some 157) 0 0 0 0 0 true true false false _).mono ?_
  rintro e w12 ⟨rfl, hb⟩
  have HB12 := Lib.hid (HB11.out.then_ hb)
  clear hb HB11
  go_wp2_with fail
  refine (made_any 6 ⟨#[60, 46]⟩ (some 156) 0 (some 157) 0 0 _).mono ?_
  rintro e w13 ⟨rfl, hb⟩
  have HB13 := Lib.hid (HB12.out.then_ hb)
  clear hb HB12
  go_wp2_with fail
  refine (with_any 6 ⟨#[60, 46]⟩ (some 156) (some 157) 0 0 0 0 9223372036854775807 true true false false _).mono ?_
  rintro e w14 ⟨rfl, hb⟩
  have HB14 := Lib.hid (HB13.out.then_ hb)
  clear hb HB13
  go_wp2_with fail
  refine (both_any 6 ⟨#[60, 46]⟩ (some 156) (some 157) 0 0 0 9223372036854775807 true true true false _).mono ?_
  rintro e w15 ⟨rfl, hb⟩
  have HB15 := Lib.hid (HB14.out.then_ hb)
  clear hb HB14
  go_wp2_with fail
  refine (made_any 7 ⟨#[62, 46]⟩ (some 156) 0 (some 157) 0 0 _).mono ?_
  rintro e w16 ⟨rfl, hb⟩
  have HB16 := Lib.hid (HB15.out.then_ hb)
  clear hb HB15
  go_wp2_with fail
  refine (with_any 7 ⟨#[62, 46]⟩ (some 156) (some 157) 0 0 0 0 (-9223372036854775808) true true false false _).mono ?_
  rintro e w17 ⟨rfl, hb⟩
  have HB17 := Lib.hid (HB16.out.then_ hb)
  clear hb HB16
  go_wp2_with fail
  refine (both_any 7 ⟨#[62, 46]⟩ (some 156) (some 157) 0 0 0 (-9223372036854775808) true true true false _).mono ?_
  rintro e w18 ⟨rfl, hb⟩
  have HB18 := Lib.hid (HB17.out.then_ hb)
  clear hb HB17
  go_wp2_with fail
  refine (made_any 8 ⟨#[60]⟩ none 0 (some 157) 0 0 _).mono ?_
  rintro e w19 ⟨rfl, hb⟩
  have HB19 := Lib.hid (HB18.out.then_ hb)
  clear hb HB18
  go_wp2_with fail
  refine (with_any 8 ⟨#[60]⟩ none (some 157) 0 0 0 0 0 false true false false _).mono ?_
  rintro e w20 ⟨rfl, hb⟩
  have HB20 := Lib.hid (HB19.out.then_ hb)
  clear hb HB19
  go_wp2_with fail
  refine (made_any 9 ⟨#[62]⟩ none 0 (some 157) 0 0 _).mono ?_
  rintro e w21 ⟨rfl, hb⟩
  have HB21 := Lib.hid (HB20.out.then_ hb)
  clear hb HB20
  go_wp2_with fail
  refine (with_any 9 ⟨#[62]⟩ none (some 157) 0 0 0 0 0 false true false false _).mono ?_
  rintro e w22 ⟨rfl, hb⟩
  have HB22 := Lib.hid (HB21.out.then_ hb)
  clear hb HB21
  go_wp2_with fail
  refine (made_any 10 ⟨#[61]⟩ (some 161) 64 (some 157) 0 0 _).mono ?_
  rintro e w23 ⟨rfl, hb⟩
  have HB23 := Lib.hid (HB22.out.then_ hb)
  clear hb HB22
  go_wp2_with fail
  refine (with_any 10 ⟨#[61]⟩ (some 161) (some 157) 64 0 0 0 1 true true false false _).mono ?_
  rintro e w24 ⟨rfl, hb⟩
  have HB24 := Lib.hid (HB23.out.then_ hb)
  clear hb HB23
  go_wp2_with fail
  refine (both_any 10 ⟨#[61]⟩ (some 161) (some 157) 64 0 0 1 true true true false _).mono ?_
  rintro e w25 ⟨rfl, hb⟩
  have HB25 := Lib.hid (HB24.out.then_ hb)
  clear hb HB24
  go_wp2_with fail
  refine (made_any 11 ⟨#[126, 58]⟩ (some 161) 64 (some 157) 0 0 _).mono ?_
  rintro e w26 ⟨rfl, hb⟩
  have HB26 := Lib.hid (HB25.out.then_ hb)
  clear hb HB25
  go_wp2_with fail
  refine (with_any 11 ⟨#[126, 58]⟩ (some 161) (some 157) 64 0 0 0 0 true true false false _).mono ?_
  rintro e w27 ⟨rfl, hb⟩
  have HB27 := Lib.hid (HB26.out.then_ hb)
  clear hb HB26
  go_wp2_with fail
  refine (both_any 11 ⟨#[126, 58]⟩ (some 161) (some 157) 64 0 0 0 true true true false _).mono ?_
  rintro e w28 ⟨rfl, hb⟩
  have HB28 := Lib.hid (HB27.out.then_ hb)
  clear hb HB27
  go_wp2_with fail
  refine (made_any 12 ⟨#[60, 58]⟩ (some 156) 0 (some 157) 0 0 _).mono ?_
  rintro e w29 ⟨rfl, hb⟩
  have HB29 := Lib.hid (HB28.out.then_ hb)
  clear hb HB28
  go_wp2_with fail
  refine (with_any 12 ⟨#[60, 58]⟩ (some 156) (some 157) 0 0 0 0 1 true true false false _).mono ?_
  rintro e w30 ⟨rfl, hb⟩
  have HB30 := Lib.hid (HB29.out.then_ hb)
  clear hb HB29
  go_wp2_with fail
  refine (made_any 13 ⟨#[62, 58]⟩ (some 156) 0 (some 157) 0 0 _).mono ?_
  rintro e w31 ⟨rfl, hb⟩
  have HB31 := Lib.hid (HB30.out.then_ hb)
  clear hb HB30
  go_wp2_with fail
  refine (with_any 13 ⟨#[62, 58]⟩ (some 156) (some 157) 0 0 0 0 1 true true false false _).mono ?_
  rintro e w32 ⟨rfl, hb⟩
  have HB32 := Lib.hid (HB31.out.then_ hb)
  clear hb HB31
  go_wp2_with fail
  refine (made_any 14 ⟨#[43, 46]⟩ none 0 (some 157) 0 0 _).mono ?_
  rintro e w33 ⟨rfl, hb⟩
  have HB33 := Lib.hid (HB32.out.then_ hb)
  clear hb HB32
  go_wp2_with fail
  refine (with_any 14 ⟨#[43, 46]⟩ none (some 157) 0 0 0 0 0 false true false false _).mono ?_
  rintro e w34 ⟨rfl, hb⟩
  have HB34 := Lib.hid (HB33.out.then_ hb)
  clear hb HB33
  go_wp2_with fail
  refine (both_any 14 ⟨#[43, 46]⟩ none (some 157) 0 0 0 0 false true true false _).mono ?_
  rintro e w35 ⟨rfl, hb⟩
  have HB35 := Lib.hid (HB34.out.then_ hb)
  clear hb HB34
  go_wp2_with fail
  refine (made_any 15 ⟨#[42, 46]⟩ none 0 (some 157) 0 0 _).mono ?_
  rintro e w36 ⟨rfl, hb⟩
  have HB36 := Lib.hid (HB35.out.then_ hb)
  clear hb HB35
  go_wp2_with fail
  refine (with_any 15 ⟨#[42, 46]⟩ none (some 157) 0 0 0 0 1 false true false false _).mono ?_
  rintro e w37 ⟨rfl, hb⟩
  have HB37 := Lib.hid (HB36.out.then_ hb)
  clear hb HB36
  go_wp2_with fail
  refine (both_any 15 ⟨#[42, 46]⟩ none (some 157) 0 0 0 1 false true true false _).mono ?_
  rintro e w38 ⟨rfl, hb⟩
  have HB38 := Lib.hid (HB37.out.then_ hb)
  clear hb HB37
  go_wp2_with fail
  refine (made_any 16 ⟨#[43, 58]⟩ (some 156) 0 (some 157) 0 0 _).mono ?_
  rintro e w39 ⟨rfl, hb⟩
  have HB39 := Lib.hid (HB38.out.then_ hb)
  clear hb HB38
  go_wp2_with fail
  refine (both_any 16 ⟨#[43, 58]⟩ (some 156) (some 157) 0 0 0 0 true true false false _).mono ?_
  rintro e w40 ⟨rfl, hb⟩
  have HB40 := Lib.hid (HB39.out.then_ hb)
  clear hb HB39
  go_wp2_with fail
  refine (made_any 17 ⟨#[42, 58]⟩ (some 156) 0 (some 157) 0 0 _).mono ?_
  rintro e w41 ⟨rfl, hb⟩
  have HB41 := Lib.hid (HB40.out.then_ hb)
  clear hb HB40
  go_wp2_with fail
  refine (both_any 17 ⟨#[42, 58]⟩ (some 156) (some 157) 0 0 0 0 true true false false _).mono ?_
  rintro e w42 ⟨rfl, hb⟩
  have HB42 := Lib.hid (HB41.out.then_ hb)
  clear hb HB41
  go_wp2_with fail
  refine (made_any 18 ⟨#[45, 46]⟩ (some 156) 0 (some 162) 64 64 _).mono ?_
  rintro e w43 ⟨rfl, hb⟩
  have HB43 := Lib.hid (HB42.out.then_ hb)
  clear hb HB42
  go_wp2_with fail
  refine (made_any 19 ⟨#[45, 58]⟩ (some 156) 0 (some 162) 64 64 _).mono ?_
  rintro e w44 ⟨rfl, hb⟩
  have HB44 := Lib.hid (HB43.out.then_ hb)
  clear hb HB43
  go_wp2_with fail
  refine (both_any 19 ⟨#[45, 58]⟩ (some 156) (some 162) 0 64 64 0 true true false false _).mono ?_
  rintro e w45 ⟨rfl, hb⟩
  have HB45 := Lib.hid (HB44.out.then_ hb)
  clear hb HB44
  go_wp2_with fail
  refine (made_any 20 ⟨#[94]⟩ none 0 (some 157) 0 0 _).mono ?_
  rintro e w46 ⟨rfl, hb⟩
  have HB46 := Lib.hid (HB45.out.then_ hb)
  clear hb HB45
  go_wp2_with fail
  refine (with_any 20 ⟨#[94]⟩ none (some 157) 0 0 0 0 1 false true false false _).mono ?_
  rintro e w47 ⟨rfl, hb⟩
  have HB47 := Lib.hid (HB46.out.then_ hb)
  clear hb HB46
  go_wp2_with fail
  refine (made_any 21 ⟨#[33]⟩ (some 156) 0 (some 157) 0 0 _).mono ?_
  rintro e w48 ⟨rfl, hb⟩
  have HB48 := Lib.hid (HB47.out.then_ hb)
  clear hb HB47
  go_wp2_with fail
  refine (with_any 21 ⟨#[33]⟩ (some 156) (some 157) 0 0 0 0 1 true true false false _).mono ?_
  rintro e w49 ⟨rfl, hb⟩
  have HB49 := Lib.hid (HB48.out.then_ hb)
  clear hb HB48
  obtain ⟨ie, hie, hz0, hz1, hz2⟩ := info_parts info_ent
  go_wp2_with (refine wpList_buildSlice rfl 154 TE 21 _ rfl (entsCells sumsL).toArray ie zeroEnt Tryz.underlying154 hie hz0 (by rw [hz1]; decide) (by rw [hz1]; decide) (by rw [hz1]; kernel_rfl) ?_)
  go_ret
  exact ⟨w49.heap.size, rfl, heap_alloc_new _ _, HB49.out.size, HB49.out.alloc HB49.out.size _⟩
end Go.Proofs.YtkdejffhdhcocaaGreat

namespace Go.Proofs.YtkdejffhdhcocaaGreat
open Go.RowKit

def othersL : List Ent := [⟨⟨#[35]⟩, (some 163), (some 165), 64, 1, 64, 0, false, false, 22⟩, ⟨⟨#[36]⟩, (some 163), (some 164), 64, 1, 64, 0, false, false, 23⟩, ⟨⟨#[44]⟩, (some 163), (some 164), 64, 64, 64, 0, false, false, 24⟩, ⟨⟨#[44, 46]⟩, (some 163), (some 164), 64, 64, 64, 0, false, false, 25⟩, ⟨⟨#[44, 58]⟩, (some 163), (some 164), 64, 64, 64, 0, false, false, 26⟩, ⟨⟨#[123]⟩, none, (some 162), 0, 0, 64, 0, false, false, 27⟩, ⟨⟨#[123, 46]⟩, (some 163), (some 164), 64, 1, 64, 0, false, false, 28⟩, ⟨⟨#[125, 46]⟩, (some 163), (some 164), 64, 1, 64, 0, false, false, 29⟩, ⟨⟨#[123, 58]⟩, (some 163), none, 64, 0, 0, 0, false, false, 30⟩, ⟨⟨#[125, 58]⟩, (some 163), none, 64, 0, 0, 0, false, false, 31⟩, ⟨⟨#[124, 46]⟩, (some 163), (some 164), 64, 1, 64, 0, false, false, 32⟩, ⟨⟨#[124, 58]⟩, (some 163), (some 164), 64, 1, 64, 0, false, false, 33⟩, ⟨⟨#[105, 46]⟩, (some 166), (some 162), 1, 64, 64, 0, false, false, 34⟩, ⟨⟨#[101, 46]⟩, none, (some 162), 0, 64, 64, 0, false, false, 35⟩, ⟨⟨#[126, 46]⟩, (some 161), none, 64, 0, 0, 0, false, false, 36⟩, ⟨⟨#[47, 58]⟩, (some 161), (some 162), 64, 64, 64, 0, false, false, 37⟩, ⟨⟨#[92, 58]⟩, (some 161), (some 162), 64, 64, 64, 0, false, false, 38⟩, ⟨⟨#[35, 46]⟩, (some 166), (some 165), 1, 1, 1, 0, false, false, 39⟩, ⟨⟨#[35, 58]⟩, (some 166), (some 165), 64, 1, 0, 0, false, false, 40⟩, ⟨⟨#[91]⟩, (some 163), (some 164), 64, 64, 64, 0, false, false, 41⟩, ⟨⟨#[93]⟩, (some 163), (some 164), 64, 64, 64, 0, false, false, 42⟩, ⟨⟨#[73, 46]⟩, (some 166), none, 1, 0, 0, 0, false, false, 43⟩]
set_option maxRecDepth 100000 in
set_option maxHeartbeats 16000000 in
theorem others_any (w : World) : Calls Tryz.prog 153 #[] w fun e w' => ∃ g, e = .returned (.slice (some ⟨g, 0, none⟩) 22 22) ∧ w'.heap[g]? = some (.cells (entsCells othersL).toArray TE (0, 0)) ∧ w.heap.size ≤ g ∧ Below w.heap.size w w' := by
  have HB0 : Hid (Below w.heap.size w w) := Lib.hid (Below.refl _ _)
  go_enter Tryz.func153, Tryz.ntmps153
  go_wp2_with fail
  refine (made_any 22 ⟨#[35]⟩ (some 163) 64 (some 165) 1 64 _).mono ?_
  rintro e w1 ⟨rfl, hb⟩
  have HB1 := Lib.hid (HB0.out.then_ hb)
  clear hb HB0
  go_wp2_with fail
  refine (made_any 23 ⟨#[36]⟩ (some 163) 64 (some 164) 1 64 _).mono ?_
  rintro e w2 ⟨rfl, hb⟩
  have HB2 := Lib.hid (HB1.out.then_ hb)
  clear hb HB1
  go_wp2_with fail
  refine (made_any 24 ⟨#[44]⟩ (some 163) 64 (some 164) 64 64 _).mono ?_
  rintro e w3 ⟨rfl, hb⟩
  have HB3 := Lib.hid (HB2.out.then_ hb)
  clear hb HB2
  go_wp2_with fail
  refine (made_any 25 ⟨#[44, 46]⟩ (some 163) 64 (some 164) 64 64 _).mono ?_
  rintro e w4 ⟨rfl, hb⟩
  have HB4 := Lib.hid (HB3.out.then_ hb)
  clear hb HB3
  go_wp2_with fail
  refine (made_any 26 ⟨#[44, 58]⟩ (some 163) 64 (some 164) 64 64 _).mono ?_
  rintro e w5 ⟨rfl, hb⟩
  have HB5 := Lib.hid (HB4.out.then_ hb)
  clear hb HB4
  go_wp2_with fail
  refine (made_any 27 ⟨#[123]⟩ none 0 (some 162) 0 64 _).mono ?_
  rintro e w6 ⟨rfl, hb⟩
  have HB6 := Lib.hid (HB5.out.then_ hb)
  clear hb HB5
  go_wp2_with fail
  refine (made_any 28 ⟨#[123, 46]⟩ (some 163) 64 (some 164) 1 64 _).mono ?_
  rintro e w7 ⟨rfl, hb⟩
  have HB7 := Lib.hid (HB6.out.then_ hb)
  clear hb HB6
  go_wp2_with fail
  refine (made_any 29 ⟨#[125, 46]⟩ (some 163) 64 (some 164) 1 64 _).mono ?_
  rintro e w8 ⟨rfl, hb⟩
  have HB8 := Lib.hid (HB7.out.then_ hb)
  clear hb HB7
  go_wp2_with fail
  refine (made_any 30 ⟨#[123, 58]⟩ (some 163) 64 none 0 0 _).mono ?_
  rintro e w9 ⟨rfl, hb⟩
  have HB9 := Lib.hid (HB8.out.then_ hb)
  clear hb HB8
  go_wp2_with fail
  refine (made_any 31 ⟨#[125, 58]⟩ (some 163) 64 none 0 0 _).mono ?_
  rintro e w10 ⟨rfl, hb⟩
  have HB10 := Lib.hid (HB9.out.then_ hb)
  clear hb HB9
  go_wp2_with fail
  refine (made_any 32 ⟨#[124, 46]⟩ (some 163) 64 (some 164) 1 64 _).mono ?_
  rintro e w11 ⟨rfl, hb⟩
  have HB11 := Lib.hid (HB10.out.then_ hb)
  clear hb HB10
  go_wp2_with fail
  refine (made_any 33 ⟨#[124, 58]⟩ (some 163) 64 (some 164) 1 64 _).mono ?_
  rintro e w12 ⟨rfl, hb⟩
  have HB12 := Lib.hid (HB11.out.then_ hb)
  clear hb HB11
  go_wp2_with fail
  refine (made_any 34 ⟨#[105, 46]⟩ (some 166) 1 (some 162) 64 64 _).mono ?_
  rintro e w13 ⟨rfl, hb⟩
  have HB13 := Lib.hid (HB12.out.then_ hb)
  clear hb HB12
  go_wp2_with fail
  refine (made_any 35 ⟨#[101, 46]⟩ none 0 (some 162) 64 64 _).mono ?_
  rintro e w14 ⟨rfl, hb⟩
  have HB14 := Lib.hid (HB13.out.then_ hb)
  clear hb HB13
  go_wp2_with fail
  refine (made_any 36 ⟨#[126, 46]⟩ (some 161) 64 none 0 0 _).mono ?_
  rintro e w15 ⟨rfl, hb⟩
  have HB15 := Lib.hid (HB14.out.then_ hb)
  clear hb HB14
  go_wp2_with fail
  refine (made_any 37 ⟨#[47, 58]⟩ (some 161) 64 (some 162) 64 64 _).mono ?_
  rintro e w16 ⟨rfl, hb⟩
  have HB16 := Lib.hid (HB15.out.then_ hb)
  clear hb HB15
  go_wp2_with fail
  refine (made_any 38 ⟨#[92, 58]⟩ (some 161) 64 (some 162) 64 64 _).mono ?_
  rintro e w17 ⟨rfl, hb⟩
  have HB17 := Lib.hid (HB16.out.then_ hb)
  clear hb HB16
  go_wp2_with fail
  refine (made_any 39 ⟨#[35, 46]⟩ (some 166) 1 (some 165) 1 1 _).mono ?_
  rintro e w18 ⟨rfl, hb⟩
  have HB18 := Lib.hid (HB17.out.then_ hb)
  clear hb HB17
  go_wp2_with fail
  refine (made_any 40 ⟨#[35, 58]⟩ (some 166) 64 (some 165) 1 0 _).mono ?_
  rintro e w19 ⟨rfl, hb⟩
  have HB19 := Lib.hid (HB18.out.then_ hb)
  clear hb HB18
  go_wp2_with fail
  refine (made_any 41 ⟨#[91]⟩ (some 163) 64 (some 164) 64 64 _).mono ?_
  rintro e w20 ⟨rfl, hb⟩
  have HB20 := Lib.hid (HB19.out.then_ hb)
  clear hb HB19
  go_wp2_with fail
  refine (made_any 42 ⟨#[93]⟩ (some 163) 64 (some 164) 64 64 _).mono ?_
  rintro e w21 ⟨rfl, hb⟩
  have HB21 := Lib.hid (HB20.out.then_ hb)
  clear hb HB20
  go_wp2_with fail
  refine (made_any 43 ⟨#[73, 46]⟩ (some 166) 1 none 0 0 _).mono ?_
  rintro e w22 ⟨rfl, hb⟩
  have HB22 := Lib.hid (HB21.out.then_ hb)
  clear hb HB21
  obtain ⟨ie, hie, hz0, hz1, hz2⟩ := info_parts info_ent
  go_wp2_with (refine wpList_buildSlice rfl 154 TE 22 _ rfl (entsCells othersL).toArray ie zeroEnt Tryz.underlying154 hie hz0 (by rw [hz1]; decide) (by rw [hz1]; decide) (by rw [hz1]; kernel_rfl) ?_)
  go_ret
  exact ⟨w22.heap.size, rfl, heap_alloc_new _ _, HB22.out.size, HB22.out.alloc HB22.out.size _⟩
end Go.Proofs.YtkdejffhdhcocaaGreat

namespace Go.Proofs.YtkdejffhdhcocaaGreat
open Go.RowKit

def rowsL : List Ent := sumsL ++ othersL
theorem rows_cells : entsCells rowsL = entsCells sumsL ++ entsCells othersL := by unfold rowsL entsCells; exact List.flatMap_append
theorem ents_one : (entsCells sumsL ++ entsCells othersL).all (·.oneCell') = true := by kernel_rfl
/-- the catalogue lies at block g -/
def RowsLie (w : World) (g : Nat) : Prop := g < w.heap.size ∧ ∀ j u, (entsCells rowsL)[j]? = some u → w.cell? ⟨g, j, none⟩ = some u
theorem RowsLie.on {w w' : World} {g : Nat} (h : RowsLie w g) (hb : Below w.heap.size w w') : RowsLie w' g := ⟨Nat.lt_of_lt_of_le h.1 hb.size, fun j u hj => (hb.cell (p := ⟨g, j, none⟩) h.1).trans (h.2 j u hj)⟩
theorem sums_len : (entsCells sumsL).length = 21 * 12 := by kernel_rfl
theorem others_len : (entsCells othersL).length = 22 * 12 := by kernel_rfl
set_option maxRecDepth 100000 in
set_option maxHeartbeats 4000000 in
theorem rows_any (w : World) : Calls Tryz.prog 145 #[] w fun e w' => ∃ g c, e = .returned (.slice (some ⟨g, 0, none⟩) 43 c) ∧ RowsLie w' g ∧ w.heap.size ≤ g ∧ Below w.heap.size w w' := by
  obtain ⟨i0, hi, hz0, hz1, hz2⟩ := info_parts info_ent
  go_enter Tryz.func145, Tryz.ntmps145
  go_wp2_with fail
  refine (sums_any _).mono ?_
  rintro e w1 ⟨g1, rfl, h1, hg1, hb1⟩
  have HB1 := Lib.hid hb1
  have H1 := Lib.hid h1
  have HG1 := Lib.hid hg1
  clear hb1 h1 hg1
  go_wp2_with fail
  refine (others_any _).mono ?_
  rintro e w2 ⟨g2, rfl, h2, hg2, hb2⟩
  have HB2 := Lib.hid (HB1.out.then_ hb2)
  have H1' := Lib.hid ((hb2.block g1 (heap_lt H1.out)).trans H1.out)
  have H2 := Lib.hid h2
  have HO : Hid (w2.ownsRow w.heap.size TE 12 (.slice (some ⟨g1, 0, none⟩) 21 21) 21 (entsCells sumsL)) := Lib.hid ⟨sums_len, .inr ⟨g1, 21, (entsCells sumsL).toArray, rfl, HG1.out, H1'.out, Nat.le_refl _, by decide, by rw [List.size_toArray, sums_len], by rw [List.take_of_length_le (by rw [List.toList_toArray, sums_len]; exact Nat.le_refl _)]⟩⟩
  have HN : Hid (∀ j u, (entsCells othersL)[j]? = some u → w2.cell? ((⟨g2, 0, none⟩ : Addr).add j) = some u) := Lib.hid (fun j u hj => by
    have e : (⟨g2, 0, none⟩ : Addr).add j = ⟨g2, j, none⟩ := by unfold Addr.add; split <;> simp_all
    rw [e]
    have h := H2.out
    simpa [World.cell?, h] using hj)
  have HS := HB2.out.size
  clear hb2 h2 hg2 HB1 H1
  go_wp2_with (at_builtin; refine wpList_append_lies _ rfl (.tmp 1) (.tmp 2) 154 rfl w.heap.size TE i0 zeroEnt 12 88 Tryz.underlying154 hi hz0 hz1 hz2 rfl (by decide) (.slice (some ⟨g1, 0, none⟩) 21 21) 21 (entsCells sumsL) rfl HO.out ⟨g2, 0, none⟩ 22 22 (entsCells othersL) rfl others_len HN.out (fun u hu => List.all_eq_true.1 ents_one u (List.mem_append_right _ hu)) (by decide) (by decide) (by decide) HS w2.heap.size rfl ?_)
  intro g cap w3 hown hgr hor hlt
  have HOWN := Lib.hid hown
  have HB3 : Hid (Below w.heap.size w w3) := Lib.hid (HB2.out.grown hgr HB2.out.size (fun k hk => by cases hk; exact HG1.out))
  have HGE : Hid (w.heap.size ≤ g) := Lib.hid (by
    rcases hor with h | h
    · simp only [Value.ownBlock, Option.some.injEq] at h; have := HG1.out; omega
    · omega)
  clear hown hgr hor
  go_wp2_with fail
  go_ret
  refine ⟨g, cap, rfl, ⟨hlt, fun j u hj => ?_⟩, HGE.out, HB3.out⟩
  rw [rows_cells] at hj
  rcases HOWN.out.2 with ⟨h, _⟩ | ⟨g', cp, cur, hv, _, hb, _, _, _, ht⟩
  · cases h
  · simp only [Value.slice.injEq, Option.some.injEq, Addr.mk.injEq, and_true] at hv
    obtain ⟨rfl, _, _⟩ := hv
    have h1 : (cur.toList.take ((21 + 22) * 12))[j]? = some u := by rw [ht]; exact hj
    rw [List.getElem?_take] at h1
    split at h1
    · simpa [World.cell?, hb] using h1
    · cases h1
end Go.Proofs.YtkdejffhdhcocaaGreat

namespace Go.Proofs.YtkdejffhdhcocaaGreat
open Go.RowKit Go.WideMaps Go.Maps

def pairsFrom (k : Nat) : List (List UInt8) → List (List UInt8 × Int)
  | [] => []
  | c :: r => (c, (k : Int)) :: pairsFrom (k + 1) r
def pick (s : List UInt8) (a : Int) (p : List UInt8 × Int) : Int := if p.1 = s then p.2 else a
theorem opIn_none : ∀ (l : List (List UInt8)) (k : Nat) (s : List UInt8), s ∉ l → opIn l k s = 0
  | [], _, _, _ => rfl
  | c :: r, k, s, h => by
    simp only [List.mem_cons, not_or] at h
    rw [opIn, if_neg (fun e => h.1 e.symm)]
    exact opIn_none r (k + 1) s h.2
theorem fold_pairs : ∀ (l : List (List UInt8)) (k : Nat) (s : List UInt8) (acc : Int), l.Nodup → (pairsFrom k l).foldl (pick s) acc = if s ∈ l then (opIn l k s : Int) else acc
  | [], _, _, _, _ => rfl
  | c :: r, k, s, acc, h => by
    obtain ⟨h1, h2⟩ := List.nodup_cons.1 h
    simp only [pairsFrom, List.foldl_cons]
    rw [fold_pairs r (k + 1) s _ h2]
    by_cases hc : c = s
    · subst hc
      rw [if_neg h1, if_pos List.mem_cons_self, opIn, if_pos rfl]
      simp [pick]
    · have e : (s ∈ c :: r) ↔ s ∈ r := by simp [show ¬ s = c from fun e => hc e.symm]
      simp only [e, opIn, if_neg hc, pick]
def Ent.pair (e : Ent) : List UInt8 × Int := (e.s.data.toList, e.op)
theorem rows_pairs : rowsL.map Ent.pair = pairsFrom 1 spells := by kernel_rfl
theorem spells_nodup : spells.Nodup := by decide +kernel
/-- what the map holds after the first rows -/
def mapAt (k : Nat) (s : List UInt8) : Int := ((rowsL.take k).map Ent.pair).foldl (pick s) 0
theorem mapAt_all (s : List UInt8) : mapAt 43 s = (opOf s : Int) := by
  unfold mapAt
  rw [show rowsL.take 43 = rowsL from List.take_of_length_le (by decide +kernel), rows_pairs, fold_pairs _ _ _ _ spells_nodup]
  unfold opOf
  split
  · rfl
  · rename_i h; rw [opIn_none _ _ _ h]; rfl
theorem mapAt_step {k : Nat} {e : Ent} (h : rowsL[k]? = some e) (s : List UInt8) : mapAt (k + 1) s = if e.s.data.toList = s then e.op else mapAt k s := by
  unfold mapAt
  rw [List.take_add_one, h]
  simp [pick, Ent.pair]
theorem row_cells {k q : Nat} {e : Ent} {v : Value} (h : rowsL[k]? = some e) (hv : e.cells[q]? = some v) : (entsCells rowsL)[k * 12 + q]? = some v := by
  have main : ∀ (l : List Ent) (k : Nat), l[k]? = some e → (entsCells l)[k * 12 + q]? = some v := by
    intro l
    induction l with
    | nil => intro k h; simp at h
    | cons u r ih =>
      intro k h
      have hu : u.cells.toList.length = 12 := rfl
      have hq : q < 12 := by
        have := (Array.getElem?_eq_some_iff.1 hv).1
        have : e.cells.size = 12 := rfl
        omega
      simp only [entsCells, List.flatMap_cons]
      cases k with
      | zero =>
        simp only [List.getElem?_cons_zero, Option.some.injEq] at h
        subst h
        rw [Nat.zero_mul, Nat.zero_add, List.getElem?_append_left (by omega), Array.getElem?_toList]
        exact hv
      | succ k =>
        rw [List.getElem?_append_right (by omega), hu, show (k + 1) * 12 + q - 12 = k * 12 + q by omega]
        exact ih k (by simpa using h)
  exact main rowsL k h
theorem rows_wf : (rowsL.all fun e => (Lit.int .i64 e.op).wf && decide (e.s.size ≤ 8)) = true := by decide +kernel
theorem law_str : Keyed Tryz.prog 9 := string_keyed Tryz.underlying9
theorem zero_int (w : World) : (zeroValue 3).run Tryz.prog w = .ok (.int .i64 0) w := by kernel_rfl
def MapIs (D : DataW Unit) (k : Nat) : Prop := ∀ s : List UInt8, D.atKey (.string s) (.lit (.int .i64 0)) = .lit (.int .i64 (mapAt k s))
theorem MapIs.zero : MapIs (.map []) 0 := fun _ => rfl
theorem rows_len : rowsL.length = 43 := by decide +kernel
theorem MapIs.step {D : DataW Unit} {k : Nat} {e : Ent} (h : MapIs D k) (hD : IsMap D) (he : rowsL[k]? = some e) : MapIs (D.put (.string e.s.data.toList) (.lit (.int .i64 e.op))) (k + 1) := fun s => by
  rw [mapAt_step he]
  split
  · rename_i hs
    subst hs
    exact atKey_put_same hD (by simp [WideAt.IsKeyLit]) _ _
  · rename_i hs
    rw [atKey_put_other (fun e => hs (by injection e with e; exact e.symm))]
    exact h s
set_option maxRecDepth 100000 in
set_option maxHeartbeats 8000000 in
theorem of_any (s : ByteArray) (w : World) (hs : s.size ≤ 140737488351232) : Calls Tryz.prog 127 #[.string s] w fun e w' => e = .returned (.tuple #[.int .i64 (opOf s.data.toList : Nat), .bool (decide (0 < opOf s.data.toList))]) ∧ Below w.heap.size w w' := by
  have hmm := @run_makeMap Tryz.prog
  go_enter Tryz.func127, Tryz.ntmps127
  go_wp2_with fail
  refine (rows_any _).mono ?_
  rintro e w1 ⟨g, c, rfl, hr, hge, hb1⟩
  have HM : Hid (w1.ownsMap Tryz.prog 9 (plainElem (H := Unit) Tryz.prog 3) w.heap.size 0 (.map [])) := Lib.hid ((World.ownsMap_made w Tryz.prog 9 _).kept (row := none) (grown_below hb1 none) (by simp))
  have HR := Lib.hid hr
  have HG : Hid (w.heap.size < g) := Lib.hid (by have h := hge; simp at h; omega)
  have HB : Hid (Below w.heap.size w w1) := Lib.hid (((Below.refl w.heap.size w).alloc (Nat.le_refl _) _).trans (hb1.mono (by simp)))
  clear hb1 hr hge
  go_wp2_with fail
  go_loopw [11] (fun v W => ∃ (k : Nat) (D : DataW Unit), k ≤ 43 ∧ v = .int .i64 k ∧ Hid (W.ownsMap Tryz.prog 9 (plainElem (H := Unit) Tryz.prog 3) w.heap.size k D ∧ MapIs D k ∧ RowsLie W g ∧ Below w.heap.size w W)) (fun v _ => 43 - (intOf v).toNat)
  case atStart => exact ⟨0, .map [], Nat.zero_le _, rfl, Lib.hid ⟨HM.out, MapIs.zero, HR.out, HB.out⟩⟩
  case round =>
    obtain ⟨k, D, hk, rfl, HI⟩ := hrel
    have hkey0 : keyOf Tryz.prog 9 (.string s) = some (.string s.data.toList) := keyOf_string_mk Tryz.underlying9 (by unfold maxLen; omega)
    have HK0 := Lib.hid hkey0
    clear hkey0
    by_cases hlt : k < 43
    · obtain ⟨en, he⟩ : ∃ en, rowsL[k]? = some en := ⟨_, List.getElem?_eq_getElem (by rw [rows_len]; exact hlt)⟩
      have hwf := List.all_eq_true.1 rows_wf en (List.mem_of_getElem? he)
      rw [Bool.and_eq_true] at hwf
      have HWF := Lib.hid hwf
      have HE := Lib.hid he
      have HL : Hid (∀ q v, en.cells[q]? = some v → wr.cell? ⟨g, k * 12 + q, none⟩ = some v) := Lib.hid (fun q v hq => HI.out.2.2.1.2 _ _ (row_cells he hq))
      have hgl : g < wr.heap.size := HI.out.2.2.1.1
      clear he hwf
      obtain ⟨es, em, ed, ea, eb, ec, ee, eh, eco, eo⟩ := en
      have q0 : wr.cell? ⟨g, k * 12, none⟩ = some (.string es) := HL.out 0 _ rfl
      have q3 : wr.cell? ⟨g, k * 12 + 3, none⟩ = some (.int .i64 ea) := HL.out 3 _ rfl
      have q4 : wr.cell? ⟨g, k * 12 + 4, none⟩ = some (.int .i64 eb) := HL.out 4 _ rfl
      have q5 : wr.cell? ⟨g, k * 12 + 5, none⟩ = some (.int .i64 ec) := HL.out 5 _ rfl
      have q6 : wr.cell? ⟨g, k * 12 + 6, none⟩ = some (.int .i64 ee) := HL.out 6 _ rfl
      have q7 : wr.cell? ⟨g, k * 12 + 7, none⟩ = some (.bool eh) := HL.out 7 _ rfl
      have q8 : wr.cell? ⟨g, k * 12 + 8, none⟩ = some (.bool eco) := HL.out 8 _ rfl
      have q9 : wr.cell? ⟨g, k * 12 + 9, none⟩ = some (.int .i64 eo) := HL.out 9 _ rfl
      have HKE : Hid (keyOf Tryz.prog 9 (.string es) = some (.string es.data.toList)) := Lib.hid (keyOf_string_mk Tryz.underlying9 (by have := of_decide_eq_true HWF.out.2; unfold maxLen; simp only at this; omega))
      have HRL : Hid (∀ (o : Obj) (w2 : World), (wr.alloc o).grownBy w2 (some w.heap.size) → RowsLie w2 g) := Lib.hid (fun o w2 hg => by
        obtain ⟨h1, h2⟩ := HI.out.2.2.1.on ((Below.refl _ _).alloc (Nat.le_refl _) o)
        exact ⟨Nat.lt_of_lt_of_le h1 hg.size, fun j u hj => (World.cell?_of_block (a := ⟨g, j, none⟩) (hg.block g h1 (fun e => by injection e with e; have := HG.out; omega))).trans (h2 j u hj)⟩)
      have HBL : Hid (∀ (o : Obj) (w2 : World), (wr.alloc o).grownBy w2 (some w.heap.size) → Below w.heap.size w w2) := Lib.hid (fun o w2 hg => by
        have hb := HI.out.2.2.2.alloc HI.out.2.2.2.size o
        exact hb.grown hg hb.size (fun j hj => by cases hj; exact Nat.le_refl _))
      rcases em with _ | em <;> rcases ed with _ | ed
      · have q1 : wr.cell? ⟨g, k * 12 + 1, none⟩ = some (.bool false) := HL.out 1 _ rfl
        have q2 : wr.cell? ⟨g, k * 12 + 2, none⟩ = some (.bool false) := HL.out 2 _ rfl
        have q10 : wr.cell? ⟨g, k * 12 + 10, none⟩ = some (.nilFunc) := HL.out 10 _ rfl
        have q11 : wr.cell? ⟨g, k * 12 + 11, none⟩ = some (.nilFunc) := HL.out 11 _ rfl
        go_wp2_with (at_mapUpdate; refine wpList_mapUpdate_own _ rfl _ _ _ 91 rfl 9 3 law_str Tryz.underlying91 _ w.heap.size k D rfl (HI.out.1.alloc _) (by unfold maxLen; omega) _ _ _ rfl rfl HKE.out _ [] (plainElem_int Tryz.underlying3 HWF.out.1) ?_; intro w2 hown2 hgr2)
        have HN := Lib.hid (And.intro hown2 hgr2)
        clear hown2 hgr2 q1 q2 q10 q11 q0 q3 q4 q5 q6 q7 q8 q9
        go_wp2_with fail
        exact ⟨⟨k + 1, _, by omega, by go_num, Lib.hid ⟨HN.out.1, HI.out.2.1.step HI.out.1.isMap HE.out, HRL.out _ _ HN.out.2, HBL.out _ _ HN.out.2⟩⟩, by simp [intOf]; omega⟩
      · have q1 : wr.cell? ⟨g, k * 12 + 1, none⟩ = some (.bool false) := HL.out 1 _ rfl
        have q2 : wr.cell? ⟨g, k * 12 + 2, none⟩ = some (.bool true) := HL.out 2 _ rfl
        have q10 : wr.cell? ⟨g, k * 12 + 10, none⟩ = some (.nilFunc) := HL.out 10 _ rfl
        have q11 : wr.cell? ⟨g, k * 12 + 11, none⟩ = some (.func (.func ed) #[] #[]) := HL.out 11 _ rfl
        go_wp2_with (at_mapUpdate; refine wpList_mapUpdate_own _ rfl _ _ _ 91 rfl 9 3 law_str Tryz.underlying91 _ w.heap.size k D rfl (HI.out.1.alloc _) (by unfold maxLen; omega) _ _ _ rfl rfl HKE.out _ [] (plainElem_int Tryz.underlying3 HWF.out.1) ?_; intro w2 hown2 hgr2)
        have HN := Lib.hid (And.intro hown2 hgr2)
        clear hown2 hgr2 q1 q2 q10 q11 q0 q3 q4 q5 q6 q7 q8 q9
        go_wp2_with fail
        exact ⟨⟨k + 1, _, by omega, by go_num, Lib.hid ⟨HN.out.1, HI.out.2.1.step HI.out.1.isMap HE.out, HRL.out _ _ HN.out.2, HBL.out _ _ HN.out.2⟩⟩, by simp [intOf]; omega⟩
      · have q1 : wr.cell? ⟨g, k * 12 + 1, none⟩ = some (.bool true) := HL.out 1 _ rfl
        have q2 : wr.cell? ⟨g, k * 12 + 2, none⟩ = some (.bool false) := HL.out 2 _ rfl
        have q10 : wr.cell? ⟨g, k * 12 + 10, none⟩ = some (.func (.func em) #[] #[]) := HL.out 10 _ rfl
        have q11 : wr.cell? ⟨g, k * 12 + 11, none⟩ = some (.nilFunc) := HL.out 11 _ rfl
        go_wp2_with (at_mapUpdate; refine wpList_mapUpdate_own _ rfl _ _ _ 91 rfl 9 3 law_str Tryz.underlying91 _ w.heap.size k D rfl (HI.out.1.alloc _) (by unfold maxLen; omega) _ _ _ rfl rfl HKE.out _ [] (plainElem_int Tryz.underlying3 HWF.out.1) ?_; intro w2 hown2 hgr2)
        have HN := Lib.hid (And.intro hown2 hgr2)
        clear hown2 hgr2 q1 q2 q10 q11 q0 q3 q4 q5 q6 q7 q8 q9
        go_wp2_with fail
        exact ⟨⟨k + 1, _, by omega, by go_num, Lib.hid ⟨HN.out.1, HI.out.2.1.step HI.out.1.isMap HE.out, HRL.out _ _ HN.out.2, HBL.out _ _ HN.out.2⟩⟩, by simp [intOf]; omega⟩
      · have q1 : wr.cell? ⟨g, k * 12 + 1, none⟩ = some (.bool true) := HL.out 1 _ rfl
        have q2 : wr.cell? ⟨g, k * 12 + 2, none⟩ = some (.bool true) := HL.out 2 _ rfl
        have q10 : wr.cell? ⟨g, k * 12 + 10, none⟩ = some (.func (.func em) #[] #[]) := HL.out 10 _ rfl
        have q11 : wr.cell? ⟨g, k * 12 + 11, none⟩ = some (.func (.func ed) #[] #[]) := HL.out 11 _ rfl
        go_wp2_with (at_mapUpdate; refine wpList_mapUpdate_own _ rfl _ _ _ 91 rfl 9 3 law_str Tryz.underlying91 _ w.heap.size k D rfl (HI.out.1.alloc _) (by unfold maxLen; omega) _ _ _ rfl rfl HKE.out _ [] (plainElem_int Tryz.underlying3 HWF.out.1) ?_; intro w2 hown2 hgr2)
        have HN := Lib.hid (And.intro hown2 hgr2)
        clear hown2 hgr2 q1 q2 q10 q11 q0 q3 q4 q5 q6 q7 q8 q9
        go_wp2_with fail
        exact ⟨⟨k + 1, _, by omega, by go_num, Lib.hid ⟨HN.out.1, HI.out.2.1.step HI.out.1.isMap HE.out, HRL.out _ _ HN.out.2, HBL.out _ _ HN.out.2⟩⟩, by simp [intOf]; omega⟩
    · obtain rfl : k = 43 := by omega
      have HAT := Lib.hid (HI.out.2.1 s.data.toList)
      have HMA := Lib.hid (mapAt_all s.data.toList)
      clear hlt
      go_wp2_with (at_lookup; refine wpList_lookup_own_int _ rfl _ _ 91 rfl 9 3 .i64 law_str Tryz.underlying91 Tryz.underlying3 (zero_int _) w.heap.size 43 D rfl HI.out.1 _ _ rfl HK0.out ?_; intro cc hat hwc)
      have hcc : cc = (opOf s.data.toList : Nat) := by
        have h := HAT.out
        rw [hat, HMA.out] at h
        injection h with h
        injection h
      subst hcc
      clear hat hwc
      go_wp2_with fail
      go_ret2
      exact ⟨by simp, HI.out.2.2.2⟩
end Go.Proofs.YtkdejffhdhcocaaGreat
