/- term: fields. Condition: sizes within reach. -/
import Derived.Test.YtkdejffhdhcocaaGreatTeMW
import Derived.Test.YtkdejffhdhcocaaGreatTeW5
import Derived.Test.YtkdejffhdhcocaaGreatTeMP
namespace Go.Proofs.YtkdejffhdhcocaaGreat
open Go.RowKit

theorem emp_dec (s : ByteArray) : s.toList.isEmpty = s.data.toList.isEmpty := by rw [Lib.toList_data]
theorem len_emp (l : List Int) : ((l.length : Int) == 0) = l.isEmpty := by cases l <;> simp <;> omega
theorem ret_bool {a b : Bool} (h : a = b) : Ending.returned (.bool a) = .returned (.bool b) := by rw [h]
/-- what the walk of fields knows -/
structure FieldsW (t : Tm) (b off : Nat) (w : World) (k : Int) (A : Option Addr) (ca : Nat) (B : Option Addr) (cb : Nat) : Prop where
  lt : b < w.heap.size
  k0 : w.cell? ⟨b, off, none⟩ = some (.int .i64 k)
  k1 : w.cell? ⟨b, off + 1, none⟩ = some (.string t.text)
  k2 : w.cell? ⟨b, off + 2, none⟩ = some (.int .i64 t.n)
  k3 : w.cell? ⟨b, off + 3, none⟩ = some (.slice A t.sh.length ca)
  k4 : w.cell? ⟨b, off + 3 + 1, none⟩ = some (.slice B t.at_.length cb)
  at1 : IntsAt w A t.sh
  at2 : IntsAt w B t.at_
  wf : NodeWf t
def numE (t : Tm) : Bool := t.sh.isEmpty && t.at_.isEmpty
/-- text, n and num where the kind does not speak of them -/
theorem parts_eq (t : Tm) (x y z : Bool) (hx : x = t.text.toList.isEmpty) (hy : y = (t.n == 0)) (hz : z = (((t.sh.length : Int) == 0) && ((t.at_.length : Int) == 0))) : (x && y && z) = (t.text.data.toList.isEmpty && decide (t.n = 0) && numE t) := by
  rw [hx, hy, hz, emp_dec, beq_dec, len_emp, len_emp, numE]

set_option maxRecDepth 100000 in
set_option maxHeartbeats 16000000 in
theorem fields_other (t : Tm) (b off : Nat) (k : Int) (A : Option Addr) (ca : Nat) (B : Option Addr) (cb : Nat) (w : World) (h : FieldsW t b off w k A ca B cb) (h0 : ¬ k = 1) (h1 : ¬ k = 2) (h2 : ¬ k = 11) (h3 : ¬ k = 20) (h4 : ¬ k = 21) (h5 : ¬ k = 23) (h6 : ¬ k = 42) :
    Calls Tryz.prog 104 #[.pointer (some ⟨b, off, none⟩)] w fun e w' => e = .returned (.bool (t.text.data.toList.isEmpty && decide (t.n = 0) && numE t)) ∧ Below w.heap.size w w' := by
  obtain ⟨hlt, k0, k1, k2, k3, k4, at1, at2, hwf⟩ := h
  have d0 : (k == 1) = false := beq_no h0
  have d1 : (k == 2) = false := beq_no h1
  have d2 : (k == 11) = false := beq_no h2
  have d3 : (k == 20) = false := beq_no h3
  have d4 : (k == 21) = false := beq_no h4
  have d5 : (k == 23) = false := beq_no h5
  have d6 : (k == 42) = false := beq_no h6
  clear h0 h1 h2 h3 h4 h5 h6
  have HA := Lib.hid at1
  have HBB := Lib.hid at2
  have HWF := Lib.hid hwf
  obtain ⟨X, hX⟩ : ∃ X, X = t.text.toList.isEmpty := ⟨_, rfl⟩
  obtain ⟨Y, hY⟩ : ∃ Y, Y = (t.n == 0) := ⟨_, rfl⟩
  clear at1 at2 hwf
  rcases Nat.eq_zero_or_pos t.sh.length with hs | hs
  · have e1 : ((t.sh.length : Int) == 0) = true := beq_yes (by omega)
    have HZ : Hid (((t.at_.length : Int) == 0) = (((t.sh.length : Int) == 0) && ((t.at_.length : Int) == 0))) := Lib.hid (by rw [e1]; rfl)
    clear hs
    go_enter Tryz.func104, Tryz.ntmps104
    go_wp2_with fail
    go_quiet (fail)
    go_wp2_with fail
    have HB : Hid (Below w.heap.size w (w.drewN 0)) := Lib.hid (bdn (Below.refl _ _) _)
    all_goals
      go_ret
      refine ⟨ret_bool ?_, bdn (Below.refl _ _) _⟩
      first | (rw [← emp_dec, numE, ← len_emp, ← len_emp]; simp [*, beq_dec]; done) | (rw [← emp_dec]; simp [*]; done) | (rw [← emp_dec]; simp [*, beq_dec]; done) | (rw [numE, ← len_emp, ← len_emp]; simp [*, beq_dec]; done)
  · have e1 : ((t.sh.length : Int) == 0) = false := beq_no (by omega)
    have HZ : Hid (false = (((t.sh.length : Int) == 0) && ((t.at_.length : Int) == 0))) := Lib.hid (by rw [e1]; rfl)
    clear hs
    go_enter Tryz.func104, Tryz.ntmps104
    go_wp2_with fail
    go_quiet (fail)
    go_wp2_with fail
    have HB : Hid (Below w.heap.size w (w.drewN 0)) := Lib.hid (bdn (Below.refl _ _) _)
    all_goals
      go_ret
      refine ⟨ret_bool ?_, bdn (Below.refl _ _) _⟩
      first | (rw [← emp_dec, numE, ← len_emp, ← len_emp]; simp [*, beq_dec]; done) | (rw [← emp_dec]; simp [*]; done) | (rw [← emp_dec]; simp [*, beq_dec]; done) | (rw [numE, ← len_emp, ← len_emp]; simp [*, beq_dec]; done)
set_option maxRecDepth 100000 in
set_option maxHeartbeats 16000000 in
theorem fields_k1 (t : Tm) (b off : Nat) (A : Option Addr) (ca : Nat) (B : Option Addr) (cb : Nat) (w : World) (h : FieldsW t b off w 1 A ca B cb) :
    Calls Tryz.prog 104 #[.pointer (some ⟨b, off, none⟩)] w fun e w' => e = .returned (.bool (t.text.data.toList.isEmpty && decide (t.n = 0) && litOk t.sh t.at_)) ∧ Below w.heap.size w w' := by
  obtain ⟨hlt, k0, k1, k2, k3, k4, at1, at2, hwf⟩ := h
  have HA := Lib.hid at1
  have HBB := Lib.hid at2
  have HWF := Lib.hid hwf
  obtain ⟨X, hX⟩ : ∃ X, X = t.text.toList.isEmpty := ⟨_, rfl⟩
  obtain ⟨Y, hY⟩ : ∃ Y, Y = (t.n == 0) := ⟨_, rfl⟩
  clear at1 at2 hwf
  rcases Nat.eq_zero_or_pos t.sh.length with hs | hs
  · have e1 : ((t.sh.length : Int) == 0) = true := beq_yes (by omega)
    have HZ : Hid (((t.at_.length : Int) == 0) = (((t.sh.length : Int) == 0) && ((t.at_.length : Int) == 0))) := Lib.hid (by rw [e1]; rfl)
    clear hs
    go_enter Tryz.func104, Tryz.ntmps104
    go_wp2_with fail
    go_quiet (fail)
    go_wp2_with fail
    refine (literal_any t.sh t.at_ A ca B cb _ (HA.out.on (bdn (Below.refl _ _) _))).mono ?_
    rintro e w2 ⟨rfl, hb⟩
    have HB := Lib.hid ((bdn (Below.refl w.heap.size w) _).then_ hb)
    clear hb
    go_wp2_with fail
    all_goals
      go_ret
      refine ⟨ret_bool ?_, HB.out⟩
      first | (rw [← emp_dec, numE, ← len_emp, ← len_emp]; simp [*, beq_dec]; done) | (rw [← emp_dec]; simp [*]; done) | (rw [← emp_dec]; simp [*, beq_dec]; done) | (rw [numE, ← len_emp, ← len_emp]; simp [*, beq_dec]; done)
  · have e1 : ((t.sh.length : Int) == 0) = false := beq_no (by omega)
    have HZ : Hid (false = (((t.sh.length : Int) == 0) && ((t.at_.length : Int) == 0))) := Lib.hid (by rw [e1]; rfl)
    clear hs
    go_enter Tryz.func104, Tryz.ntmps104
    go_wp2_with fail
    go_quiet (fail)
    go_wp2_with fail
    refine (literal_any t.sh t.at_ A ca B cb _ (HA.out.on (bdn (Below.refl _ _) _))).mono ?_
    rintro e w2 ⟨rfl, hb⟩
    have HB := Lib.hid ((bdn (Below.refl w.heap.size w) _).then_ hb)
    clear hb
    go_wp2_with fail
    all_goals
      go_ret
      refine ⟨ret_bool ?_, HB.out⟩
      first | (rw [← emp_dec, numE, ← len_emp, ← len_emp]; simp [*, beq_dec]; done) | (rw [← emp_dec]; simp [*]; done) | (rw [← emp_dec]; simp [*, beq_dec]; done) | (rw [numE, ← len_emp, ← len_emp]; simp [*, beq_dec]; done)
set_option maxRecDepth 100000 in
set_option maxHeartbeats 16000000 in
theorem fields_k42 (t : Tm) (b off : Nat) (A : Option Addr) (ca : Nat) (B : Option Addr) (cb : Nat) (w : World) (h : FieldsW t b off w 42 A ca B cb) :
    Calls Tryz.prog 104 #[.pointer (some ⟨b, off, none⟩)] w fun e w' => e = .returned (.bool (t.text.data.toList.isEmpty && decide (t.n = 0) && rankOk t.sh t.at_)) ∧ Below w.heap.size w w' := by
  obtain ⟨hlt, k0, k1, k2, k3, k4, at1, at2, hwf⟩ := h
  have HA := Lib.hid at1
  have HBB := Lib.hid at2
  have HWF := Lib.hid hwf
  obtain ⟨X, hX⟩ : ∃ X, X = t.text.toList.isEmpty := ⟨_, rfl⟩
  obtain ⟨Y, hY⟩ : ∃ Y, Y = (t.n == 0) := ⟨_, rfl⟩
  clear at1 at2 hwf
  rcases Nat.eq_zero_or_pos t.sh.length with hs | hs
  · have e1 : ((t.sh.length : Int) == 0) = true := beq_yes (by omega)
    have HZ : Hid (((t.at_.length : Int) == 0) = (((t.sh.length : Int) == 0) && ((t.at_.length : Int) == 0))) := Lib.hid (by rw [e1]; rfl)
    clear hs
    go_enter Tryz.func104, Tryz.ntmps104
    go_wp2_with fail
    go_quiet (fail)
    go_wp2_with fail
    refine (ranks_any t.sh t.at_ A ca B cb _ (HA.out.on (bdn (Below.refl _ _) _)) (HBB.out.on (bdn (Below.refl _ _) _)) HWF.out.at_).mono ?_
    rintro e w2 ⟨rfl, hb⟩
    have HB := Lib.hid ((bdn (Below.refl w.heap.size w) _).then_ hb)
    clear hb
    go_wp2_with fail
    all_goals
      go_ret
      refine ⟨ret_bool ?_, HB.out⟩
      first | (rw [← emp_dec, numE, ← len_emp, ← len_emp]; simp [*, beq_dec]; done) | (rw [← emp_dec]; simp [*]; done) | (rw [← emp_dec]; simp [*, beq_dec]; done) | (rw [numE, ← len_emp, ← len_emp]; simp [*, beq_dec]; done)
  · have e1 : ((t.sh.length : Int) == 0) = false := beq_no (by omega)
    have HZ : Hid (false = (((t.sh.length : Int) == 0) && ((t.at_.length : Int) == 0))) := Lib.hid (by rw [e1]; rfl)
    clear hs
    go_enter Tryz.func104, Tryz.ntmps104
    go_wp2_with fail
    go_quiet (fail)
    go_wp2_with fail
    refine (ranks_any t.sh t.at_ A ca B cb _ (HA.out.on (bdn (Below.refl _ _) _)) (HBB.out.on (bdn (Below.refl _ _) _)) HWF.out.at_).mono ?_
    rintro e w2 ⟨rfl, hb⟩
    have HB := Lib.hid ((bdn (Below.refl w.heap.size w) _).then_ hb)
    clear hb
    go_wp2_with fail
    all_goals
      go_ret
      refine ⟨ret_bool ?_, HB.out⟩
      first | (rw [← emp_dec, numE, ← len_emp, ← len_emp]; simp [*, beq_dec]; done) | (rw [← emp_dec]; simp [*]; done) | (rw [← emp_dec]; simp [*, beq_dec]; done) | (rw [numE, ← len_emp, ← len_emp]; simp [*, beq_dec]; done)
set_option maxRecDepth 100000 in
set_option maxHeartbeats 16000000 in
theorem fields_k2 (t : Tm) (b off : Nat) (A : Option Addr) (ca : Nat) (B : Option Addr) (cb : Nat) (w : World) (h : FieldsW t b off w 2 A ca B cb) :
    Calls Tryz.prog 104 #[.pointer (some ⟨b, off, none⟩)] w fun e w' => e = .returned (.bool (isName t.text.data.toList 97 122 && decide (t.n = 0) && numE t)) ∧ Below w.heap.size w w' := by
  obtain ⟨hlt, k0, k1, k2, k3, k4, at1, at2, hwf⟩ := h
  have HA := Lib.hid at1
  have HBB := Lib.hid at2
  have HWF := Lib.hid hwf
  obtain ⟨X, hX⟩ : ∃ X, X = t.text.toList.isEmpty := ⟨_, rfl⟩
  obtain ⟨Y, hY⟩ : ∃ Y, Y = (t.n == 0) := ⟨_, rfl⟩
  clear at1 at2 hwf
  rcases Nat.eq_zero_or_pos t.sh.length with hs | hs
  · have e1 : ((t.sh.length : Int) == 0) = true := beq_yes (by omega)
    have HZ : Hid (((t.at_.length : Int) == 0) = (((t.sh.length : Int) == 0) && ((t.at_.length : Int) == 0))) := Lib.hid (by rw [e1]; rfl)
    clear hs
    go_enter Tryz.func104, Tryz.ntmps104
    go_wp2_with fail
    go_quiet (fail)
    go_wp2_with fail
    refine (named_any t.text 97 122 _ HWF.out.text).mono ?_
    rintro e w2 ⟨rfl, rfl⟩
    have HB : Hid (Below w.heap.size w w) := Lib.hid (Below.refl _ _)
    go_wp2_with fail
    all_goals
      go_ret
      refine ⟨ret_bool ?_, bdn (Below.refl _ _) _⟩
      first | (rw [numE, ← len_emp, ← len_emp]; simp [*, beq_dec]; done)
  · have e1 : ((t.sh.length : Int) == 0) = false := beq_no (by omega)
    have HZ : Hid (false = (((t.sh.length : Int) == 0) && ((t.at_.length : Int) == 0))) := Lib.hid (by rw [e1]; rfl)
    clear hs
    go_enter Tryz.func104, Tryz.ntmps104
    go_wp2_with fail
    go_quiet (fail)
    go_wp2_with fail
    refine (named_any t.text 97 122 _ HWF.out.text).mono ?_
    rintro e w2 ⟨rfl, rfl⟩
    have HB : Hid (Below w.heap.size w w) := Lib.hid (Below.refl _ _)
    go_wp2_with fail
    all_goals
      go_ret
      refine ⟨ret_bool ?_, bdn (Below.refl _ _) _⟩
      first | (rw [numE, ← len_emp, ← len_emp]; simp [*, beq_dec]; done)
set_option maxRecDepth 100000 in
set_option maxHeartbeats 16000000 in
theorem fields_k11 (t : Tm) (b off : Nat) (A : Option Addr) (ca : Nat) (B : Option Addr) (cb : Nat) (w : World) (h : FieldsW t b off w 11 A ca B cb) :
    Calls Tryz.prog 104 #[.pointer (some ⟨b, off, none⟩)] w fun e w' => e = .returned (.bool (isName t.text.data.toList 97 122 && decide (t.n = 0) && numE t)) ∧ Below w.heap.size w w' := by
  obtain ⟨hlt, k0, k1, k2, k3, k4, at1, at2, hwf⟩ := h
  have HA := Lib.hid at1
  have HBB := Lib.hid at2
  have HWF := Lib.hid hwf
  obtain ⟨X, hX⟩ : ∃ X, X = t.text.toList.isEmpty := ⟨_, rfl⟩
  obtain ⟨Y, hY⟩ : ∃ Y, Y = (t.n == 0) := ⟨_, rfl⟩
  clear at1 at2 hwf
  rcases Nat.eq_zero_or_pos t.sh.length with hs | hs
  · have e1 : ((t.sh.length : Int) == 0) = true := beq_yes (by omega)
    have HZ : Hid (((t.at_.length : Int) == 0) = (((t.sh.length : Int) == 0) && ((t.at_.length : Int) == 0))) := Lib.hid (by rw [e1]; rfl)
    clear hs
    go_enter Tryz.func104, Tryz.ntmps104
    go_wp2_with fail
    go_quiet (fail)
    go_wp2_with fail
    refine (named_any t.text 97 122 _ HWF.out.text).mono ?_
    rintro e w2 ⟨rfl, rfl⟩
    have HB : Hid (Below w.heap.size w w) := Lib.hid (Below.refl _ _)
    go_wp2_with fail
    all_goals
      go_ret
      refine ⟨ret_bool ?_, bdn (Below.refl _ _) _⟩
      first | (rw [numE, ← len_emp, ← len_emp]; simp [*, beq_dec]; done)
  · have e1 : ((t.sh.length : Int) == 0) = false := beq_no (by omega)
    have HZ : Hid (false = (((t.sh.length : Int) == 0) && ((t.at_.length : Int) == 0))) := Lib.hid (by rw [e1]; rfl)
    clear hs
    go_enter Tryz.func104, Tryz.ntmps104
    go_wp2_with fail
    go_quiet (fail)
    go_wp2_with fail
    refine (named_any t.text 97 122 _ HWF.out.text).mono ?_
    rintro e w2 ⟨rfl, rfl⟩
    have HB : Hid (Below w.heap.size w w) := Lib.hid (Below.refl _ _)
    go_wp2_with fail
    all_goals
      go_ret
      refine ⟨ret_bool ?_, bdn (Below.refl _ _) _⟩
      first | (rw [numE, ← len_emp, ← len_emp]; simp [*, beq_dec]; done)
set_option maxRecDepth 100000 in
set_option maxHeartbeats 16000000 in
theorem fields_k21 (t : Tm) (b off : Nat) (A : Option Addr) (ca : Nat) (B : Option Addr) (cb : Nat) (w : World) (h : FieldsW t b off w 21 A ca B cb) :
    Calls Tryz.prog 104 #[.pointer (some ⟨b, off, none⟩)] w fun e w' => e = .returned (.bool (isName t.text.data.toList 65 90 && decide (t.n = 0) && numE t)) ∧ Below w.heap.size w w' := by
  obtain ⟨hlt, k0, k1, k2, k3, k4, at1, at2, hwf⟩ := h
  have HA := Lib.hid at1
  have HBB := Lib.hid at2
  have HWF := Lib.hid hwf
  obtain ⟨X, hX⟩ : ∃ X, X = t.text.toList.isEmpty := ⟨_, rfl⟩
  obtain ⟨Y, hY⟩ : ∃ Y, Y = (t.n == 0) := ⟨_, rfl⟩
  clear at1 at2 hwf
  rcases Nat.eq_zero_or_pos t.sh.length with hs | hs
  · have e1 : ((t.sh.length : Int) == 0) = true := beq_yes (by omega)
    have HZ : Hid (((t.at_.length : Int) == 0) = (((t.sh.length : Int) == 0) && ((t.at_.length : Int) == 0))) := Lib.hid (by rw [e1]; rfl)
    clear hs
    go_enter Tryz.func104, Tryz.ntmps104
    go_wp2_with fail
    go_quiet (fail)
    go_wp2_with fail
    refine (named_any t.text 65 90 _ HWF.out.text).mono ?_
    rintro e w2 ⟨rfl, rfl⟩
    have HB : Hid (Below w.heap.size w w) := Lib.hid (Below.refl _ _)
    go_wp2_with fail
    all_goals
      go_ret
      refine ⟨ret_bool ?_, bdn (Below.refl _ _) _⟩
      first | (rw [numE, ← len_emp, ← len_emp]; simp [*, beq_dec]; done)
  · have e1 : ((t.sh.length : Int) == 0) = false := beq_no (by omega)
    have HZ : Hid (false = (((t.sh.length : Int) == 0) && ((t.at_.length : Int) == 0))) := Lib.hid (by rw [e1]; rfl)
    clear hs
    go_enter Tryz.func104, Tryz.ntmps104
    go_wp2_with fail
    go_quiet (fail)
    go_wp2_with fail
    refine (named_any t.text 65 90 _ HWF.out.text).mono ?_
    rintro e w2 ⟨rfl, rfl⟩
    have HB : Hid (Below w.heap.size w w) := Lib.hid (Below.refl _ _)
    go_wp2_with fail
    all_goals
      go_ret
      refine ⟨ret_bool ?_, bdn (Below.refl _ _) _⟩
      first | (rw [numE, ← len_emp, ← len_emp]; simp [*, beq_dec]; done)
set_option maxRecDepth 100000 in
set_option maxHeartbeats 16000000 in
theorem fields_k20 (t : Tm) (b off : Nat) (A : Option Addr) (ca : Nat) (B : Option Addr) (cb : Nat) (w : World) (h : FieldsW t b off w 20 A ca B cb) :
    Calls Tryz.prog 104 #[.pointer (some ⟨b, off, none⟩)] w fun e w' => e = .returned (.bool (decide (0 < opOf t.text.data.toList) && decide (t.n = 0) && numE t)) ∧ Below w.heap.size w w' := by
  obtain ⟨hlt, k0, k1, k2, k3, k4, at1, at2, hwf⟩ := h
  have HA := Lib.hid at1
  have HBB := Lib.hid at2
  have HWF := Lib.hid hwf
  obtain ⟨X, hX⟩ : ∃ X, X = t.text.toList.isEmpty := ⟨_, rfl⟩
  obtain ⟨Y, hY⟩ : ∃ Y, Y = (t.n == 0) := ⟨_, rfl⟩
  clear at1 at2 hwf
  rcases Nat.eq_zero_or_pos t.sh.length with hs | hs
  · have e1 : ((t.sh.length : Int) == 0) = true := beq_yes (by omega)
    have HZ : Hid (((t.at_.length : Int) == 0) = (((t.sh.length : Int) == 0) && ((t.at_.length : Int) == 0))) := Lib.hid (by rw [e1]; rfl)
    clear hs
    go_enter Tryz.func104, Tryz.ntmps104
    go_wp2_with fail
    go_quiet (fail)
    go_wp2_with fail
    refine (of_any t.text _ HWF.out.text).mono ?_
    rintro e w2 ⟨rfl, hb⟩
    have HB := Lib.hid ((bdn (Below.refl w.heap.size w) _).then_ hb)
    clear hb
    go_wp2_with fail
    all_goals
      go_ret
      refine ⟨ret_bool ?_, HB.out⟩
      first | (rw [← emp_dec, numE, ← len_emp, ← len_emp]; simp [*, beq_dec]; done) | (rw [← emp_dec]; simp [*]; done) | (rw [← emp_dec]; simp [*, beq_dec]; done) | (rw [numE, ← len_emp, ← len_emp]; simp [*, beq_dec]; done)
  · have e1 : ((t.sh.length : Int) == 0) = false := beq_no (by omega)
    have HZ : Hid (false = (((t.sh.length : Int) == 0) && ((t.at_.length : Int) == 0))) := Lib.hid (by rw [e1]; rfl)
    clear hs
    go_enter Tryz.func104, Tryz.ntmps104
    go_wp2_with fail
    go_quiet (fail)
    go_wp2_with fail
    refine (of_any t.text _ HWF.out.text).mono ?_
    rintro e w2 ⟨rfl, hb⟩
    have HB := Lib.hid ((bdn (Below.refl w.heap.size w) _).then_ hb)
    clear hb
    go_wp2_with fail
    all_goals
      go_ret
      refine ⟨ret_bool ?_, HB.out⟩
      first | (rw [← emp_dec, numE, ← len_emp, ← len_emp]; simp [*, beq_dec]; done) | (rw [← emp_dec]; simp [*]; done) | (rw [← emp_dec]; simp [*, beq_dec]; done) | (rw [numE, ← len_emp, ← len_emp]; simp [*, beq_dec]; done)
set_option maxRecDepth 100000 in
set_option maxHeartbeats 16000000 in
theorem fields_k23 (t : Tm) (b off : Nat) (A : Option Addr) (ca : Nat) (B : Option Addr) (cb : Nat) (w : World) (h : FieldsW t b off w 23 A ca B cb) :
    Calls Tryz.prog 104 #[.pointer (some ⟨b, off, none⟩)] w fun e w' => e = .returned (.bool (t.text.data.toList.isEmpty && decide (t.n = 1 ∨ t.n = 2) && numE t)) ∧ Below w.heap.size w w' := by
  obtain ⟨hlt, k0, k1, k2, k3, k4, at1, at2, hwf⟩ := h
  have HA := Lib.hid at1
  have HBB := Lib.hid at2
  have HWF := Lib.hid hwf
  obtain ⟨X, hX⟩ : ∃ X, X = t.text.toList.isEmpty := ⟨_, rfl⟩
  obtain ⟨Y, hY⟩ : ∃ Y, Y = (t.n == 0) := ⟨_, rfl⟩
  clear at1 at2 hwf
  rcases Nat.eq_zero_or_pos t.sh.length with hs | hs
  · have e1 : ((t.sh.length : Int) == 0) = true := beq_yes (by omega)
    have HZ : Hid (((t.at_.length : Int) == 0) = (((t.sh.length : Int) == 0) && ((t.at_.length : Int) == 0))) := Lib.hid (by rw [e1]; rfl)
    clear hs
    go_enter Tryz.func104, Tryz.ntmps104
    go_wp2_with fail
    go_quiet (fail)
    go_wp2_with fail
    have HB : Hid (Below w.heap.size w (w.drewN 0)) := Lib.hid (bdn (Below.refl _ _) _)
    all_goals
      go_ret
      refine ⟨ret_bool ?_, bdn (Below.refl _ _) _⟩
      first | (rw [← emp_dec, numE, ← len_emp, ← len_emp]; simp [*, beq_dec]; done) | (rw [← emp_dec]; simp [*]; done) | (rw [← emp_dec]; simp [*, beq_dec]; done) | (rw [numE, ← len_emp, ← len_emp]; simp [*, beq_dec]; done)
  · have e1 : ((t.sh.length : Int) == 0) = false := beq_no (by omega)
    have HZ : Hid (false = (((t.sh.length : Int) == 0) && ((t.at_.length : Int) == 0))) := Lib.hid (by rw [e1]; rfl)
    clear hs
    go_enter Tryz.func104, Tryz.ntmps104
    go_wp2_with fail
    go_quiet (fail)
    go_wp2_with fail
    have HB : Hid (Below w.heap.size w (w.drewN 0)) := Lib.hid (bdn (Below.refl _ _) _)
    all_goals
      go_ret
      refine ⟨ret_bool ?_, bdn (Below.refl _ _) _⟩
      first | (rw [← emp_dec, numE, ← len_emp, ← len_emp]; simp [*, beq_dec]; done) | (rw [← emp_dec]; simp [*]; done) | (rw [← emp_dec]; simp [*, beq_dec]; done) | (rw [numE, ← len_emp, ← len_emp]; simp [*, beq_dec]; done)
end Go.Proofs.YtkdejffhdhcocaaGreat
