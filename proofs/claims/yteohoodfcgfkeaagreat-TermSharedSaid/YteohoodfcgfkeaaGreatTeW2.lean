/- term: named, literal, ranks. No condition. -/
import Derived.Test.YteohoodfcgfkeaaGreatTeW1
namespace Go.Proofs.YteohoodfcgfkeaaGreat
open Go.RowKit

theorem name_head (s : ByteArray) (lo hi : UInt8) : (s.size < 1 → isName s.data.toList lo hi = false) ∧ (∀ h : 0 < s.size, isName s.data.toList lo hi = (decide (s.size ≤ 32) && (lo ≤ s[0] && s[0] ≤ hi) && (s.data.toList.drop 1).all alnum)) := by
  obtain ⟨⟨l⟩⟩ := s
  cases l with
  | nil => exact ⟨fun _ => rfl, fun h => absurd h (Nat.lt_irrefl 0)⟩
  | cons c r =>
    refine ⟨fun h => ?_, fun h => ?_⟩
    · simp [ByteArray.size] at h
    · simp only [isName, ByteArray.size, List.size_toArray, List.length_cons, List.drop_succ_cons, List.drop_zero]
      congr 2
theorem name_step (s : ByteArray) (i : Nat) (h : i < s.size) : (s.data.toList.drop i).all alnum = (alnum s[i] && (s.data.toList.drop (i + 1)).all alnum) := by
  have hl : i < s.data.toList.length := by simpa using h
  rw [List.drop_eq_getElem_cons hl, List.all_cons]
  rfl
theorem u8_le (a b : UInt8) : decide (a ≤ b) = decide ((a.toNat : Int) ≤ b.toNat) := decide_eq_decide.2 (by rw [UInt8.le_iff_toNat_le]; omega)
theorem alnum_int (c : UInt8) : alnum c = (decide (97 ≤ (c.toNat : Int) ∧ (c.toNat : Int) ≤ 122) || decide (65 ≤ (c.toNat : Int) ∧ (c.toNat : Int) ≤ 90) || decide (48 ≤ (c.toNat : Int) ∧ (c.toNat : Int) ≤ 57)) := by
  unfold alnum
  rw [u8_le, u8_le, u8_le, u8_le, u8_le, u8_le, Bool.decide_and, Bool.decide_and, Bool.decide_and]
  rfl
set_option maxRecDepth 100000 in
set_option maxHeartbeats 8000000 in
theorem named_any (s : ByteArray) (lo hi : UInt8) (w : World) (hs : s.size ≤ 140737488351232) : Calls Tryz.prog 114 #[.string s, .int .u8 (lo.toNat : Int), .int .u8 (hi.toNat : Int)] w fun e w' => e = .returned (.bool (isName s.data.toList lo hi)) ∧ w' = w := by
  have HN := Lib.hid (name_head s lo hi)
  by_cases h0 : s.size < 1
  · have HR := Lib.hid (HN.out.1 h0)
    have h0' : (s.size : Int) < 1 := by omega
    go_enter Tryz.func114, Tryz.ntmps114
    go_wp2_with fail
    go_ret
    exact ⟨by rw [HR.out]; rfl, rfl⟩
  · have hp : 0 < s.size := by omega
    have h0' : ¬ (s.size : Int) < 1 := by omega
    have HR := Lib.hid (HN.out.2 hp)
    by_cases h1 : 32 < s.size
    · have HR2 : Hid (isName s.data.toList lo hi = false) := Lib.hid (by rw [HR.out, decide_eq_false (by omega)]; rfl)
      have h1' : (32 : Int) < s.size := by omega
      go_enter Tryz.func114, Tryz.ntmps114
      go_wp2_with fail
      go_ret
      exact ⟨by rw [HR2.out]; rfl, rfl⟩
    · have h1' : ¬ (32 : Int) < s.size := by omega
      by_cases h2 : (s[0].toNat : Int) < lo.toNat
      · have HR2 : Hid (isName s.data.toList lo hi = false) := Lib.hid (by rw [HR.out, u8_le lo, decide_eq_false (p := (lo.toNat : Int) ≤ s[0].toNat) (by omega)]; simp)
        go_enter Tryz.func114, Tryz.ntmps114
        go_wp2_with fail
        go_ret
        exact ⟨by rw [HR2.out]; rfl, rfl⟩
      · by_cases h3 : (hi.toNat : Int) < s[0].toNat
        · have HR2 : Hid (isName s.data.toList lo hi = false) := Lib.hid (by rw [HR.out, u8_le _ hi, decide_eq_false (p := (s[0].toNat : Int) ≤ hi.toNat) (by omega)]; simp)
          go_enter Tryz.func114, Tryz.ntmps114
          go_wp2_with fail
          go_ret
          exact ⟨by rw [HR2.out]; rfl, rfl⟩
        · have HR2 : Hid (isName s.data.toList lo hi = (s.data.toList.drop 1).all alnum) := Lib.hid (by rw [HR.out, u8_le lo, u8_le _ hi, decide_eq_true (p := (s[0].toNat : Int) ≤ hi.toNat) (by omega), decide_eq_true (p := s.size ≤ 32) (by omega), decide_eq_true (p := (lo.toNat : Int) ≤ s[0].toNat) (by omega)]; simp)
          go_enter Tryz.func114, Tryz.ntmps114
          go_wp2_with fail
          clear h2 h3
          go_loop [7] (fun v => ∃ i : Nat, 1 ≤ i ∧ i ≤ s.size ∧ v = .int .i64 i ∧ Hid (isName s.data.toList lo hi = (s.data.toList.drop i).all alnum)) (fun v => s.size - (intOf v).toNat)
          case atStart => exact ⟨1, by omega, by omega, rfl, HR2⟩
          case round =>
            obtain ⟨i, hi1, hi2, rfl, HI⟩ := hrel
            by_cases hlt : i < s.size
            · have HS := Lib.hid (name_step s i hlt)
              have hc : (s[i].toNat : Int) < 48 ∨ (48 ≤ (s[i].toNat : Int) ∧ (s[i].toNat : Int) ≤ 57) ∨ (57 < (s[i].toNat : Int) ∧ (s[i].toNat : Int) < 65) ∨ (65 ≤ (s[i].toNat : Int) ∧ (s[i].toNat : Int) ≤ 90) ∨ (90 < (s[i].toNat : Int) ∧ (s[i].toNat : Int) < 97) ∨ (97 ≤ (s[i].toNat : Int) ∧ (s[i].toNat : Int) ≤ 122) ∨ 122 < (s[i].toNat : Int) := by omega
              rcases hc with h | ⟨h, h'⟩ | ⟨h, h'⟩ | ⟨h, h'⟩ | ⟨h, h'⟩ | ⟨h, h'⟩ | h
              all_goals first
                | (have ha : alnum s[i] = false := by rw [alnum_int]; simp; omega
                   have HE : Hid (isName s.data.toList lo hi = false) := Lib.hid (by rw [HI.out, HS.out, ha]; rfl)
                   clear ha
                   go_wp2_with fail
                   go_ret
                   exact ⟨by rw [HE.out]; rfl, rfl⟩)
                | (have ha : alnum s[i] = true := by rw [alnum_int]; simp; omega
                   have HE : Hid (isName s.data.toList lo hi = (s.data.toList.drop (i + 1)).all alnum) := Lib.hid (by rw [HI.out, HS.out, ha]; rfl)
                   clear ha
                   go_wp2_with fail
                   go_round
                   case rel => exact ⟨i + 1, by omega, by omega, by go_num, HE⟩
                   case measure => simp [intOf]; omega)
            · obtain rfl : i = s.size := by omega
              have HE : Hid (isName s.data.toList lo hi = true) := Lib.hid (by rw [HI.out, List.drop_of_length_le (by simp)]; rfl)
              go_wp2_with fail
              go_ret
              exact ⟨by rw [HE.out]; rfl, rfl⟩
end Go.Proofs.YteohoodfcgfkeaaGreat
