/- abacusref1.Has, abacusref5..8.Has, abacusref7.Row. No condition. -/
import Derived.Test.YtebiojmfieoncaaGreatTeM1
import Derived.Test.YtebiojmfieoncaaGreatTeMW
namespace Go.Proofs.YtebiojmfieoncaaGreat
open Go.RowKit

def has1 (op v : Int) : Bool := if decide (op < 1) || decide (21 < op) then false else if op == 4 || op == 8 || op == 9 || op == 10 || op == 11 || op == 14 || op == 15 || op == 20 then v == 2 else if op == 18 || op == 19 then v == 1 else (v == 1 || v == 2)
set_option maxRecDepth 100000 in
set_option maxHeartbeats 8000000 in
theorem has1_any (op v : Int) (w : World) : Calls Tryz.prog 196 #[.int .i64 op, .int .i64 v] w fun e w' => e = .returned (.bool (has1 op v)) ∧ w' = w := by
  go_enter Tryz.func196, Tryz.ntmps196
  go_wp2_with fail
  all_goals
    go_ret
    refine ⟨?_, rfl⟩
    (try simp only [beq_iff_eq, beq_eq_false_iff_ne] at *)
    unfold has1
    simp (config := { decide := true }) [*]
def has6 (op v : Int) : Bool := if op == 22 || op == 30 || op == 31 then v == 1 else if op == 23 || op == 24 || op == 25 || op == 26 || op == 28 || op == 29 || op == 32 || op == 33 || op == 41 || op == 42 then (v == 1 || v == 2) else false
set_option maxRecDepth 100000 in
set_option maxHeartbeats 8000000 in
theorem has6_any (op v : Int) (w : World) : Calls Tryz.prog 169 #[.int .i64 op, .int .i64 v] w fun e w' => e = .returned (.bool (has6 op v)) ∧ w' = w := by
  go_enter Tryz.func169, Tryz.ntmps169
  go_wp2_with fail
  all_goals
    go_ret
    refine ⟨?_, rfl⟩
    (try simp only [beq_iff_eq, beq_eq_false_iff_ne] at *)
    unfold has6
    simp (config := { decide := true }) [*]
def row7 (op : Int) : Bool := if op == 27 || op == 34 || op == 35 || op == 36 || op == 11 || op == 10 || op == 37 || op == 38 || op == 18 || op == 19 then true else false
set_option maxRecDepth 100000 in
set_option maxHeartbeats 8000000 in
theorem row7_any (op : Int) (w : World) : Calls Tryz.prog 197 #[.int .i64 op] w fun e w' => e = .returned (.bool (row7 op)) ∧ w' = w := by
  go_enter Tryz.func197, Tryz.ntmps197
  go_wp2_with fail
  all_goals
    go_ret
    refine ⟨?_, rfl⟩
    (try simp only [beq_iff_eq, beq_eq_false_iff_ne] at *)
    unfold row7
    simp (config := { decide := true }) [*]
def has8 (op v : Int) : Bool := if op == 22 then v == 2 else if op == 34 || op == 43 then v == 1 else if op == 39 || op == 40 then (v == 1 || v == 2) else false
set_option maxRecDepth 100000 in
set_option maxHeartbeats 8000000 in
theorem has8_any (op v : Int) (w : World) : Calls Tryz.prog 171 #[.int .i64 op, .int .i64 v] w fun e w' => e = .returned (.bool (has8 op v)) ∧ w' = w := by
  go_enter Tryz.func171, Tryz.ntmps171
  go_wp2_with fail
  all_goals
    go_ret
    refine ⟨?_, rfl⟩
    (try simp only [beq_iff_eq, beq_eq_false_iff_ne] at *)
    unfold has8
    simp (config := { decide := true }) [*]
end Go.Proofs.YtebiojmfieoncaaGreat
