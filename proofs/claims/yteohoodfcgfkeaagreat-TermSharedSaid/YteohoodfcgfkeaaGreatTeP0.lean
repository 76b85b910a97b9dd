/- prim: made, with, both. No condition. -/
import Derived.Test.YteohoodfcgfkeaaGreatTeW1
import Derived.Laws.EntriesVeiled
namespace Go.Proofs.YteohoodfcgfkeaaGreat
open Go.RowKit

abbrev TE : TypeId := 154
abbrev T1F : TypeId := 151
abbrev T2F : TypeId := 152
/-- a function, or none -/
def fv : Option FuncId → Value
  | none => .nilFunc
  | some f => .func (.func f) #[] #[]
def isF : Option FuncId → Bool
  | none => false
  | some _ => true
/-- a row of the catalogue, as it lies in memory -/
abbrev entCells (s : ByteArray) (mo dy : Bool) (a b c n : Int) (has co : Bool) (op : Int) (m d : Value) : Array Value := #[.string s, .bool mo, .bool dy, .int .i64 a, .int .i64 b, .int .i64 c, .int .i64 n, .bool has, .bool co, .int .i64 op, m, d]
theorem neq1_f (f : FuncId) (w : World) : (binOp .neq T1F (.func (.func f) #[] #[]) .nilFunc).run Tryz.prog w = .ok (.bool true) w := by kernel_rfl
theorem neq1_n (w : World) : (binOp .neq T1F .nilFunc .nilFunc).run Tryz.prog w = .ok (.bool false) w := by kernel_rfl
theorem neq2_f (f : FuncId) (w : World) : (binOp .neq T2F (.func (.func f) #[] #[]) .nilFunc).run Tryz.prog w = .ok (.bool true) w := by kernel_rfl
theorem neq2_n (w : World) : (binOp .neq T2F .nilFunc .nilFunc).run Tryz.prog w = .ok (.bool false) w := by kernel_rfl
theorem guard1_f (f : FuncId) (x y : Operand) (w : World) : (eqGuard .neq T1F x y (.func (.func f) #[] #[]) .nilFunc).run Tryz.prog w = .ok () w := by kernel_rfl
theorem guard1_n (x y : Operand) (w : World) : (eqGuard .neq T1F x y .nilFunc .nilFunc).run Tryz.prog w = .ok () w := by kernel_rfl
theorem guard2_f (f : FuncId) (x y : Operand) (w : World) : (eqGuard .neq T2F x y (.func (.func f) #[] #[]) .nilFunc).run Tryz.prog w = .ok () w := by kernel_rfl
theorem guard2_n (x y : Operand) (w : World) : (eqGuard .neq T2F x y .nilFunc .nilFunc).run Tryz.prog w = .ok () w := by kernel_rfl
theorem ret_agg {P : Program} {fn : Func} {a : Act} {w : World} {v0 : Value} {B : World → Prop} (hr : (results fn a.tmps).run P w = .ok v0 w) (hd : a.defers = []) (hb : B w) : bodyPost P fn (fun e w' => e = .returned v0 ∧ B w') .ret a w := bodyPost_ret hr hd ⟨rfl, hb⟩
set_option maxRecDepth 100000 in
set_option maxHeartbeats 2000000 in
theorem made_any (op : Int) (s : ByteArray) (m : Option FuncId) (a : Int) (d : Option FuncId) (b c : Int) (w : World) :
    Calls Tryz.prog 161 #[.int .i64 op, .string s, fv m, .int .i64 a, fv d, .int .i64 b, .int .i64 c] w fun e w' => e = .returned (.agg (entCells s (isF m) (isF d) a b c 0 false false op (fv m) (fv d))) ∧ Below w.heap.size w w' := by
  have n1 := neq1_f
  have n2 := neq1_n
  have n3 := neq2_f
  have n4 := neq2_n
  have g1 := guard1_f
  have g2 := guard1_n
  have g3 := guard2_f
  have g4 := guard2_n
  cases m <;> cases d <;> simp only [fv, isF]
  all_goals
    go_enter Tryz.func161, Tryz.ntmps161
    go_wp2_with fail
    refine ret_agg ?_ rfl ?_
    · simp [results, Tryz.results161, go_sem]
    · repeat (first | exact Below.refl _ _ | refine Below.alloc ?_ (by simp) _ | refine Below.setCell ?_ (by simp) _)
set_option maxRecDepth 100000 in
set_option maxHeartbeats 2000000 in
theorem with_any (op : Int) (s : ByteArray) (m d : Option FuncId) (a b c n n' : Int) (mo dy has co : Bool) (w : World) :
    Calls Tryz.prog 162 #[.agg (entCells s mo dy a b c n has co op (fv m) (fv d)), .int .i64 n'] w fun e w' => e = .returned (.agg (entCells s mo dy a b c n' true co op (fv m) (fv d))) ∧ Below w.heap.size w w' := by
  cases m <;> cases d <;> simp only [fv]
  all_goals
    go_enter Tryz.func162, Tryz.ntmps162
    go_wp2_with fail
    refine ret_agg ?_ rfl ?_
    · simp [results, Tryz.results162, go_sem]
    · repeat (first | exact Below.refl _ _ | refine Below.alloc ?_ (by simp) _ | refine Below.setCell ?_ (by simp) _)
set_option maxRecDepth 100000 in
set_option maxHeartbeats 2000000 in
theorem both_any (op : Int) (s : ByteArray) (m d : Option FuncId) (a b c n : Int) (mo dy has co : Bool) (w : World) :
    Calls Tryz.prog 163 #[.agg (entCells s mo dy a b c n has co op (fv m) (fv d))] w fun e w' => e = .returned (.agg (entCells s mo dy a b c n has true op (fv m) (fv d))) ∧ Below w.heap.size w w' := by
  cases m <;> cases d <;> simp only [fv]
  all_goals
    go_enter Tryz.func163, Tryz.ntmps163
    go_wp2_with fail
    refine ret_agg ?_ rfl ?_
    · simp [results, Tryz.results163, go_sem]
    · repeat (first | exact Below.refl _ _ | refine Below.alloc ?_ (by simp) _ | refine Below.setCell ?_ (by simp) _)
end Go.Proofs.YteohoodfcgfkeaaGreat
