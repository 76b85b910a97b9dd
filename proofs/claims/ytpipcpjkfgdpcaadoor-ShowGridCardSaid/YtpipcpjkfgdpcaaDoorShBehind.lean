/- show.behind: how many newlines stand behind a line. Condition: the line is not the last one. -/
import Derived.Test.YtpipcpjkfgdpcaaDoorShRange
import Derived.Deep.QuietTactic
import Derived.BigQuiet
namespace Go.Proofs.YtpipcpjkfgdpcaaDoor
open Go.RowKit

/-- how many axes, from the last one on, have come to their end -/
def trailR : List Int → Int → Nat
  | [], _ => 0
  | x :: r, p => if p % x = x - 1 then trailR r (p / x) + 1 else 0
def trail (s : List Int) (p : Int) : Nat := trailR s.reverse p
theorem trail_snoc (s : List Int) (x p : Int) : trail (s ++ [x]) p = if p % x = x - 1 then trail s (p / x) + 1 else 0 := by simp [trail, trailR]
theorem trail_le : ∀ (s : List Int) (p : Int), trail s p ≤ s.length := by
  have h : ∀ (r : List Int) (p : Int), trailR r p ≤ r.length := by
    intro r
    induction r with
    | nil => intro p; exact Nat.le_refl _
    | cons x r ih => intro p; unfold trailR; split; exact Nat.succ_le_succ (ih _); exact Nat.zero_le _
  intro s p
  have := h s.reverse p
  simpa [trail] using this
theorem places_snoc (s : List Int) (x : Int) : places (s ++ [x]) = places s * x := by simp [places]
theorem idx_take {s : List Int} {t : Nat} {x p : Int} (hx : s[t]? = some x) : (idx (s.take (t + 1)) p)[t]? = some (p % x) ∧ (idx (s.take (t + 1)) p).take t = idx (s.take t) (p / x) := by
  have hlt := (List.getElem?_eq_some_iff.1 hx).1
  have hl : (idx (s.take t) (p / x)).length = t := by rw [idx_len, List.length_take]; omega
  rw [take_snoc hx, idx_snoc]
  constructor
  · rw [List.getElem?_append_right (by omega), hl]
    simp
  · rw [List.take_append_of_le_length (by omega), List.take_of_length_le (by omega)]
theorem step_places {q x P : Int} (hx : 1 ≤ x) (h : q + 1 < P * x) (hf : q % x = x - 1) : q / x + 1 < P := by
  have h1 := Int.emod_add_mul_ediv q x
  have h2 : x * (q / x + 1) < x * P := by rw [Int.mul_comm x P, Int.mul_add]; omega
  exact Int.lt_of_mul_lt_mul_left h2 (by omega)

set_option maxHeartbeats 8000000 in
set_option maxRecDepth 100000 in
theorem behind_any (A B : Option Addr) (cp cq : Nat) (s a : List Int) (P : Nat) (w : World) (hA : IntsAt w A s) (hB : IntsAt w B a) (hs : ∀ x ∈ s, 1 ≤ x ∧ x ≤ 4096) (hk : 2 ≤ s.length) (hk2 : s.length ≤ 64) (hal : a.length = s.length)
    (ha : a.take (s.length - 1) = idx (s.take (s.length - 1)) P) (hP : (P : Int) + 1 < places (s.take (s.length - 1))) :
    Calls Tryd.prog 39 #[.slice A s.length cp, .slice B a.length cq] w fun e w' => e = .returned (.int .i64 ((1 + trail (s.take (s.length - 1)) P : Nat) : Int)) ∧ Below w.heap.size w w' := by
  have HA := Lib.hid hA
  have HB := Lib.hid hB
  have HSS := Lib.hid hs
  have HAA := Lib.hid ha
  have HPP := Lib.hid hP
  have HTL := Lib.hid (trail_le (s.take (s.length - 1)) P)
  rw [hal]
  obtain ⟨k, hkl⟩ : ∃ k, k = s.length := ⟨_, rfl⟩
  have HK := Lib.hid (And.intro hkl (hal.trans hkl.symm))
  rw [← hkl] at hk hk2 HAA HPP HTL ⊢
  clear hA hB hs ha hP hkl hal
  go_enter Tryd.func39, Tryd.ntmps39
  go_wp2_with fail
  go_loopw [5] (fun v5 wr => ∃ (t q : Nat), t + 2 ≤ k ∧ v5 = .int .i64 t ∧ Hid (a.take (t + 1) = idx (s.take (t + 1)) q) ∧ Hid ((q : Int) + 1 < places (s.take (t + 1))) ∧ Hid (trail (s.take (k - 1)) P = (k - 2 - t) + trail (s.take (t + 1)) q) ∧ Hid (Below w.heap.size w wr)) (fun v5 _ => (intOf v5).toNat)
  case atStart =>
    refine ⟨k - 2, P, by omega, ?_, ?_, ?_, ?_, Lib.hid (Below.refl _ _)⟩
    · congr 1; omega
    · have h := HAA; rw [show k - 1 = k - 2 + 1 by omega] at h; exact h
    · have h := HPP; rw [show k - 1 = k - 2 + 1 by omega] at h; exact h
    · exact Lib.hid (by rw [show k - 1 = k - 2 + 1 by omega]; omega)
  case round =>
    obtain ⟨t, q, ht, rfl, HT, HQ, HR, HBl⟩ := hrel
    have hlt : t < s.length := by rw [← HK.out.1]; omega
    obtain ⟨x, hx⟩ : ∃ x, s[t]? = some x := ⟨_, List.getElem?_eq_getElem hlt⟩
    obtain ⟨i1, i2⟩ := idx_take (p := (q : Int)) hx
    have hat : a[t]? = some ((q : Int) % x) := by
      have h := congrArg (fun l => l[t]?) HT.out
      simp only [List.getElem?_take, Nat.lt_succ_self, if_true] at h
      rw [h, i1]
    obtain ⟨b, off, hbA, hbl, kc⟩ := (HA.out.on HBl.out) t x hx
    obtain ⟨b', off', hbB, hbl', kc'⟩ := (HB.out.on HBl.out) t _ hat
    subst hbA hbB
    obtain ⟨hx1, hx2⟩ := HSS.out x (List.mem_of_getElem? hx)
    have HX := Lib.hid (take_snoc hx)
    have HI2 := Lib.hid i2
    by_cases hf : (q : Int) % x = x - 1
    · have hfb : ((q : Int) % x == x - 1) = true := by simp [hf]
      have hq := HQ.out
      rw [take_snoc hx, places_snoc] at hq
      have hst := step_places hx1 hq hf
      obtain ⟨m, rfl⟩ : ∃ m : Nat, x = m := ⟨x.toNat, by omega⟩
      have hqm : ((q : Int) / (m : Int)) = ((q / m : Nat) : Int) := by simp
      have HF := Lib.hid hf
      generalize q / m = d at hqm
      have ht0 : t ≠ 0 := fun h0 => by
        subst h0
        rw [hqm] at hst
        have : places (s.take 0) = 1 := rfl
        omega
      obtain ⟨u, rfl⟩ : ∃ u, t = u + 1 := ⟨t - 1, by omega⟩
      have hn1 : Hid (a.take (u + 1) = idx (s.take (u + 1)) (d : Int)) := Lib.hid (by
        have h := congrArg (List.take (u + 1)) HT.out
        rw [HI2.out, List.take_take, Nat.min_eq_left (Nat.le_succ _), hqm] at h
        exact h)
      have hn2 : Hid ((d : Int) + 1 < places (s.take (u + 1))) := Lib.hid (by rw [← hqm]; exact hst)
      have hn3 : Hid (trail (s.take (k - 1)) P = (k - 2 - u) + trail (s.take (u + 1)) (d : Int)) := Lib.hid (by
        rw [HR.out, HX.out, trail_snoc, if_pos HF.out, hqm]
        omega)
      clear hx i1 i2 hat hbl hbl' hq hst hqm hf
      go_wp2_with fail
      go_quiet (fail)
      go_wp2_with fail
      exact ⟨⟨u, d, by omega, rfl, hn1, hn2, hn3, Lib.hid (bdn HBl.out _)⟩, by simp [intOf]⟩
    · have hfb : ((q : Int) % x == x - 1) = false := by simpa using hf
      have HE : Hid (trail (s.take (k - 1)) P = k - 2 - t) := Lib.hid (by rw [HR.out, HX.out, trail_snoc, if_neg hf, Nat.add_zero])
      clear hx i1 i2 hat hbl hbl' hf
      go_wp2_with fail
      go_quiet (fail)
      go_wp2_with fail
      go_ret
      refine ⟨?_, bdn HBl.out _⟩
      rw [HE.out]
      have e1 : (1 + (k : Int) - 2 - (t : Int)) = ((1 + (k - 2 - t) : Nat) : Int) := by omega
      show Ending.returned (Value.int .i64 (1 + (k : Int) - 2 - (t : Int))) = _
      rw [e1]
end Go.Proofs.YtpipcpjkfgdpcaaDoor
