/- abacusref5.Has, abacusref7.Has, abacusref9: Owner, ranks, commutes, Identity. No condition. -/
import Derived.Test.YtebiojmfieoncaaGreatTeR0
import Derived.Test.YtebiojmfieoncaaGreatTeT2
namespace Go.Proofs.YtebiojmfieoncaaGreat
open Go.RowKit

theorem has5_any (op v : Int) (w : World) : Calls Tryz.prog 168 #[.int .i64 op, .int .i64 v] w fun e w' => e = .returned (.bool (has1 op v)) ∧ w' = w := by
  go_enter Tryz.func168, Tryz.ntmps168
  go_wp2_with fail
  refine (has1_any op v w).mono ?_
  rintro e w' ⟨rfl, rfl⟩
  go_wp2_with fail
  go_ret
  exact ⟨rfl, rfl⟩
def has7 (op v : Int) : Bool := if op == 36 || op == 11 || op == 10 then v == 1 else if op == 37 || op == 38 then (v == 1 || v == 2) else (row7 op && v == 2)
set_option maxRecDepth 100000 in
set_option maxHeartbeats 8000000 in
theorem has7_any (op v : Int) (w : World) : Calls Tryz.prog 170 #[.int .i64 op, .int .i64 v] w fun e w' => e = .returned (.bool (has7 op v)) ∧ w' = w := by
  cases hr : row7 op
  all_goals
    have HR := row7_any op w
    rw [hr] at HR
    have HC := Lib.hid HR
    have HRR := Lib.hid hr
    clear HR hr
    go_enter Tryz.func170, Tryz.ntmps170
    go_wp2_with (go_at_call 197; refine HC.out.mono ?_; rintro e w' ⟨rfl, rfl⟩)
    all_goals
      go_ret
      refine ⟨?_, rfl⟩
      (try simp only [beq_iff_eq, beq_eq_false_iff_ne] at *)
      have hr := HRR.out
      unfold has7
      simp (config := { decide := true }) [*]
def owner9 (op v : Int) : Int := if decide (op < 1) || decide (43 < op) then 0 else if has1 op v then 5 else if has6 op v then 6 else if has7 op v then 7 else if has8 op v then 8 else 0
set_option maxRecDepth 100000 in
set_option maxHeartbeats 8000000 in
theorem owner_any (op v : Int) (w : World) : Calls Tryz.prog 142 #[.int .i64 op, .int .i64 v] w fun e w' => e = .returned (.int .i64 (owner9 op v)) ∧ w' = w := by
  cases c5 : has1 op v <;> cases c6 : has6 op v <;> cases c7 : has7 op v <;> cases c8 : has8 op v
  all_goals
    have H5 := has5_any op v w
    have H6 := has6_any op v w
    have H7 := has7_any op v w
    have H8 := has8_any op v w
    rw [c5] at H5
    rw [c6] at H6
    rw [c7] at H7
    rw [c8] at H8
    have HC := Lib.hid (And.intro H5 (And.intro H6 (And.intro H7 H8)))
    have HD := Lib.hid (And.intro c5 (And.intro c6 (And.intro c7 c8)))
    clear H5 H6 H7 H8 c5 c6 c7 c8
    go_enter Tryz.func142, Tryz.ntmps142
    go_wp2_with (first
      | (go_at_call 168; refine HC.out.1.mono ?_; rintro e w' ⟨rfl, rfl⟩)
      | (go_at_call 169; refine HC.out.2.1.mono ?_; rintro e w' ⟨rfl, rfl⟩)
      | (go_at_call 170; refine HC.out.2.2.1.mono ?_; rintro e w' ⟨rfl, rfl⟩)
      | (go_at_call 171; refine HC.out.2.2.2.mono ?_; rintro e w' ⟨rfl, rfl⟩))
    all_goals
      go_ret
      refine ⟨?_, rfl⟩
      obtain ⟨c5, c6, c7, c8⟩ := HD.out
      unfold owner9
      first | (simp (config := { decide := true }) [*]; done) | (rw [if_neg (by simp; omega)]; simp (config := { decide := true }) [*]; done) | (rw [if_pos (by simp; omega)]; done)
def comm9 (op : Int) : Bool := if op == 1 || op == 3 || op == 6 || op == 7 || op == 10 || op == 11 || op == 14 || op == 16 || op == 17 || op == 19 then true else false
set_option maxRecDepth 100000 in
set_option maxHeartbeats 8000000 in
theorem comm9_any (op : Int) (w : World) : Calls Tryz.prog 144 #[.int .i64 op] w fun e w' => (∃ b : Bool, e = .returned (.bool b)) ∧ w' = w := by
  go_enter Tryz.func144, Tryz.ntmps144
  go_wp2_with fail
  all_goals
    go_ret
    exact ⟨⟨_, rfl⟩, rfl⟩
set_option maxRecDepth 100000 in
set_option maxHeartbeats 8000000 in
theorem ident9_any (op : Int) (w : World) : Calls Tryz.prog 145 #[.int .i64 op] w fun e w' => (∃ (n : Int) (b : Bool), e = .returned (.tuple #[.int .i64 n, .bool b])) ∧ w' = w := by
  go_enter Tryz.func145, Tryz.ntmps145
  go_wp2_with fail
  all_goals
    go_ret2
    exact ⟨⟨_, _, rfl⟩, rfl⟩
def rk9 (op : Int) : R3 := if op == 22 || op == 23 || op == 28 || op == 29 || op == 32 || op == 33 then ⟨64, 1, 64⟩ else if op == 18 || op == 19 then ⟨0, 64, 64⟩ else if op == 10 || op == 11 then ⟨64, 0, 0⟩ else if op == 27 then ⟨0, 0, 64⟩ else if op == 34 || op == 43 then ⟨1, 64, 64⟩ else if op == 39 then ⟨1, 1, 1⟩ else if op == 40 then ⟨64, 1, 0⟩ else if decide (op ≤ 21) then ⟨0, 0, 0⟩ else ⟨64, 64, 64⟩
set_option maxRecDepth 100000 in
set_option maxHeartbeats 16000000 in
theorem rk9_any (op : Int) (w : World) : Calls Tryz.prog 143 #[.int .i64 op] w fun e w' => e = .returned (r3v (rk9 op)) ∧ Below w.heap.size w w' := by
  go_enter Tryz.func143, Tryz.ntmps143
  go_wp2_with fail
  all_goals
    refine bodyPost_ret (results_r3 (p := 2) rfl rfl (heap_alloc_new w _)) rfl ⟨?_, (Below.refl _ _).alloc (Nat.le_refl _) _⟩
    (try simp only [beq_iff_eq, beq_eq_false_iff_ne] at *)
    unfold rk9
    first | (simp (config := { decide := true }) [*]; done) | (have h' : ¬ op ≤ 21 := (by omega); simp (config := { decide := true }) [*]; done)
end Go.Proofs.YtebiojmfieoncaaGreat
