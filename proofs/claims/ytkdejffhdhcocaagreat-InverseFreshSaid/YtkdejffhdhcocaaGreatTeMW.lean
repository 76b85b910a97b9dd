/- term: named, literal, ranks. No condition. · term: literal, ranks. No condition. · term: operand, pattern, is. No condition. -/
import Derived.Test.YtkdejffhdhcocaaGreatTeW1
import Derived.Lib.Strings
namespace Go.Proofs.YtkdejffhdhcocaaGreat
open Go.RowKit

theorem name_head (s : ByteArray) (lo hi : UInt8) : (s.size < 1 → isName s.data.toList lo hi = false) ∧ (∀ h : 0 < s.size, isName s.data.toList lo hi = (decide (s.size ≤ 32) && (lo ≤ s[0] && s[0] ≤ hi) && (s.data.toList.drop 1).all alnum)) := by
  obtain ⟨⟨l⟩⟩ := s
  cases l with
  | nil => exact ⟨fun _ => rfl, fun h => absurd h (Nat.lt_irrefl 0)⟩
  | cons c r =>
    refine ⟨fun h => ?_, fun h => ?_⟩
    · simp [ByteArray.size] at h
    · simp only [isName, ByteArray.size, List.size_toArray, List.length_cons, List.drop_succ_cons, List.drop_zero]
      congr 2
theorem name_step (s : ByteArray) (i : Nat) (h : i < s.size) : (s.data.toList.drop i).all alnum = (alnum s[i] && (s.data.toList.drop (i + 1)).all alnum) := by
  have hl : i < s.data.toList.length := by simpa using h
  rw [List.drop_eq_getElem_cons hl, List.all_cons]
  rfl
theorem u8_le (a b : UInt8) : decide (a ≤ b) = decide ((a.toNat : Int) ≤ b.toNat) := decide_eq_decide.2 (by rw [UInt8.le_iff_toNat_le]; omega)
theorem alnum_int (c : UInt8) : alnum c = (decide (97 ≤ (c.toNat : Int) ∧ (c.toNat : Int) ≤ 122) || decide (65 ≤ (c.toNat : Int) ∧ (c.toNat : Int) ≤ 90) || decide (48 ≤ (c.toNat : Int) ∧ (c.toNat : Int) ≤ 57)) := by
  unfold alnum
  rw [u8_le, u8_le, u8_le, u8_le, u8_le, u8_le, Bool.decide_and, Bool.decide_and, Bool.decide_and]
  rfl
set_option maxRecDepth 100000 in
set_option maxHeartbeats 8000000 in
theorem named_any (s : ByteArray) (lo hi : UInt8) (w : World) (hs : s.size ≤ 140737488351232) : Calls Tryz.prog 126 #[.string s, .int .u8 (lo.toNat : Int), .int .u8 (hi.toNat : Int)] w fun e w' => e = .returned (.bool (isName s.data.toList lo hi)) ∧ w' = w := by
  have HN := Lib.hid (name_head s lo hi)
  by_cases h0 : s.size < 1
  · have HR := Lib.hid (HN.out.1 h0)
    have h0' : (s.size : Int) < 1 := by omega
    go_enter Tryz.func126, Tryz.ntmps126
    go_wp2_with fail
    go_ret
    exact ⟨by rw [HR.out]; rfl, rfl⟩
  · have hp : 0 < s.size := by omega
    have h0' : ¬ (s.size : Int) < 1 := by omega
    have HR := Lib.hid (HN.out.2 hp)
    by_cases h1 : 32 < s.size
    · have HR2 : Hid (isName s.data.toList lo hi = false) := Lib.hid (by rw [HR.out, decide_eq_false (by omega)]; rfl)
      have h1' : (32 : Int) < s.size := by omega
      go_enter Tryz.func126, Tryz.ntmps126
      go_wp2_with fail
      go_ret
      exact ⟨by rw [HR2.out]; rfl, rfl⟩
    · have h1' : ¬ (32 : Int) < s.size := by omega
      by_cases h2 : (s[0].toNat : Int) < lo.toNat
      · have HR2 : Hid (isName s.data.toList lo hi = false) := Lib.hid (by rw [HR.out, u8_le lo, decide_eq_false (p := (lo.toNat : Int) ≤ s[0].toNat) (by omega)]; simp)
        go_enter Tryz.func126, Tryz.ntmps126
        go_wp2_with fail
        go_ret
        exact ⟨by rw [HR2.out]; rfl, rfl⟩
      · by_cases h3 : (hi.toNat : Int) < s[0].toNat
        · have HR2 : Hid (isName s.data.toList lo hi = false) := Lib.hid (by rw [HR.out, u8_le _ hi, decide_eq_false (p := (s[0].toNat : Int) ≤ hi.toNat) (by omega)]; simp)
          go_enter Tryz.func126, Tryz.ntmps126
          go_wp2_with fail
          go_ret
          exact ⟨by rw [HR2.out]; rfl, rfl⟩
        · have HR2 : Hid (isName s.data.toList lo hi = (s.data.toList.drop 1).all alnum) := Lib.hid (by rw [HR.out, u8_le lo, u8_le _ hi, decide_eq_true (p := (s[0].toNat : Int) ≤ hi.toNat) (by omega), decide_eq_true (p := s.size ≤ 32) (by omega), decide_eq_true (p := (lo.toNat : Int) ≤ s[0].toNat) (by omega)]; simp)
          go_enter Tryz.func126, Tryz.ntmps126
          go_wp2_with fail
          clear h2 h3
          go_loop [7] (fun v => ∃ i : Nat, 1 ≤ i ∧ i ≤ s.size ∧ v = .int .i64 i ∧ Hid (isName s.data.toList lo hi = (s.data.toList.drop i).all alnum)) (fun v => s.size - (intOf v).toNat)
          case atStart => exact ⟨1, by omega, by omega, rfl, HR2⟩
          case round =>
            obtain ⟨i, hi1, hi2, rfl, HI⟩ := hrel
            by_cases hlt : i < s.size
            · have HS := Lib.hid (name_step s i hlt)
              have hc : (s[i].toNat : Int) < 48 ∨ (48 ≤ (s[i].toNat : Int) ∧ (s[i].toNat : Int) ≤ 57) ∨ (57 < (s[i].toNat : Int) ∧ (s[i].toNat : Int) < 65) ∨ (65 ≤ (s[i].toNat : Int) ∧ (s[i].toNat : Int) ≤ 90) ∨ (90 < (s[i].toNat : Int) ∧ (s[i].toNat : Int) < 97) ∨ (97 ≤ (s[i].toNat : Int) ∧ (s[i].toNat : Int) ≤ 122) ∨ 122 < (s[i].toNat : Int) := by omega
              rcases hc with h | ⟨h, h'⟩ | ⟨h, h'⟩ | ⟨h, h'⟩ | ⟨h, h'⟩ | ⟨h, h'⟩ | h
              all_goals first
                | (have ha : alnum s[i] = false := by rw [alnum_int]; simp; omega
                   have HE : Hid (isName s.data.toList lo hi = false) := Lib.hid (by rw [HI.out, HS.out, ha]; rfl)
                   clear ha
                   go_wp2_with fail
                   go_ret
                   exact ⟨by rw [HE.out]; rfl, rfl⟩)
                | (have ha : alnum s[i] = true := by rw [alnum_int]; simp; omega
                   have HE : Hid (isName s.data.toList lo hi = (s.data.toList.drop (i + 1)).all alnum) := Lib.hid (by rw [HI.out, HS.out, ha]; rfl)
                   clear ha
                   go_wp2_with fail
                   go_round
                   case rel => exact ⟨i + 1, by omega, by omega, by go_num, HE⟩
                   case measure => simp [intOf]; omega)
            · obtain rfl : i = s.size := by omega
              have HE : Hid (isName s.data.toList lo hi = true) := Lib.hid (by rw [HI.out, List.drop_of_length_le (by simp)]; rfl)
              go_wp2_with fail
              go_ret
              exact ⟨by rw [HE.out]; rfl, rfl⟩
end Go.Proofs.YtkdejffhdhcocaaGreat

namespace Go.Proofs.YtkdejffhdhcocaaGreat
open Go.RowKit

theorem beq_yes {a b : Int} (h : a = b) : (a == b) = true := beq_iff_eq.2 h
theorem beq_no {a b : Int} (h : ¬ a = b) : (a == b) = false := beq_eq_false_iff_ne.2 h
theorem ints_cell {w : World} {A : Option Addr} {l : List Int} (h : IntsAt w A l) {i : Nat} {x : Int} (hx : l[i]? = some x) : ∃ b off, A = some ⟨b, off, none⟩ ∧ b < w.heap.size ∧ w.cell? ⟨b, off + i, none⟩ = some (.int .i64 x) := h i x hx
set_option maxRecDepth 100000 in
set_option maxHeartbeats 8000000 in
theorem literal_any (sh at_ : List Int) (A : Option Addr) (ca : Nat) (B : Option Addr) (cb : Nat) (w : World) (hA : IntsAt w A sh) :
    Calls Tryz.prog 125 #[.agg #[.slice A sh.length ca, .slice B at_.length cb]] w fun e w' => e = .returned (.bool (litOk sh at_)) ∧ Below w.heap.size w w' := by
  obtain ⟨m, hm⟩ : ∃ m, m = at_.length := ⟨_, rfl⟩
  have HM := Lib.hid hm
  rw [← hm]
  clear hm
  match sh, hA with
  | [], hA =>
    clear hA
    by_cases h1 : m = 1
    · have h1' : ((m : Int) == 1) = true := beq_yes (by omega)
      have HR : Hid (litOk [] at_ = true) := Lib.hid (by simp [litOk, ← HM.out, h1])
      clear h1
      go_enter Tryz.func125, Tryz.ntmps125
      go_wp2_with fail
      go_ret
      exact ⟨by rw [HR.out]; rfl, (Below.refl _ _).alloc (Nat.le_refl _) _⟩
    · have h1' : ((m : Int) == 1) = false := beq_no (by omega)
      have HR : Hid (litOk [] at_ = false) := Lib.hid (by simp [litOk, ← HM.out, h1])
      clear h1
      go_enter Tryz.func125, Tryz.ntmps125
      go_wp2_with fail
      go_ret
      exact ⟨by rw [HR.out]; rfl, (Below.refl _ _).alloc (Nat.le_refl _) _⟩
  | [k], hA =>
    obtain ⟨b, off, rfl, hlt, hc⟩ := hA 0 k rfl
    have hcell : (w.alloc (.cells #[.slice (some ⟨b, off, none⟩) 1 ca, .slice B m cb] 36)).cell? ⟨b, off, none⟩ = some (.int .i64 k) := (((Below.refl w.heap.size w).alloc (Nat.le_refl _) _).cell (p := ⟨b, off, none⟩) hlt).trans hc
    have HCELL := Lib.hid hcell
    have hr : litOk [k] at_ = decide (2 ≤ k ∧ k ≤ 64 ∧ (m : Int) = k) := by simp only [litOk, HM.out]
    have HRR := Lib.hid hr
    clear hc hA hr
    have hk : k < 2 ∨ 64 < k ∨ (2 ≤ k ∧ k ≤ 64) := by omega
    rcases hk with h | h | ⟨h, h'⟩
    · have HR : Hid (litOk [k] at_ = false) := Lib.hid (by rw [HRR.out, decide_eq_false (by omega)])
      have d1 : decide (2 ≤ k) = false := by simp; omega
      go_enter Tryz.func125, Tryz.ntmps125
      go_wp2_with fail
      go_quiet (fail)
      go_wp2_with fail
      go_ret
      exact ⟨by rw [HR.out]; rfl, bdn ((Below.refl _ _).alloc (Nat.le_refl _) _) _⟩
    · have HR : Hid (litOk [k] at_ = false) := Lib.hid (by rw [HRR.out, decide_eq_false (by omega)])
      have d1 : decide (2 ≤ k) = true := by simp; omega
      have d2 : decide (k ≤ 64) = false := by simp; omega
      go_enter Tryz.func125, Tryz.ntmps125
      go_wp2_with fail
      go_quiet (fail)
      go_wp2_with fail
      go_ret
      exact ⟨by rw [HR.out]; rfl, bdn ((Below.refl _ _).alloc (Nat.le_refl _) _) _⟩
    · have d1 : decide (2 ≤ k) = true := by simp; omega
      have d2 : decide (k ≤ 64) = true := by simp; omega
      by_cases hmk : (m : Int) = k
      · have HR : Hid (litOk [k] at_ = true) := Lib.hid (by rw [HRR.out, decide_eq_true (by omega)])
        have d3 : ((m : Int) == k) = true := beq_yes hmk
        clear hmk
        go_enter Tryz.func125, Tryz.ntmps125
        go_wp2_with fail
        go_quiet (fail)
        go_wp2_with fail
        go_ret
        exact ⟨by rw [HR.out]; rfl, bdn ((Below.refl _ _).alloc (Nat.le_refl _) _) _⟩
      · have HR : Hid (litOk [k] at_ = false) := Lib.hid (by rw [HRR.out, decide_eq_false (by omega)])
        have d3 : ((m : Int) == k) = false := beq_no hmk
        clear hmk
        go_enter Tryz.func125, Tryz.ntmps125
        go_wp2_with fail
        go_quiet (fail)
        go_wp2_with fail
        go_ret
        exact ⟨by rw [HR.out]; rfl, bdn ((Below.refl _ _).alloc (Nat.le_refl _) _) _⟩
  | a :: b :: r, hA =>
    obtain ⟨n, hn⟩ : ∃ n, n = (a :: b :: r).length := ⟨_, rfl⟩
    have h2 : 2 ≤ n := by simp at hn; omega
    rw [← hn]
    have d0 : ((n : Int) == 0) = false := beq_no (by omega)
    have d1 : ((n : Int) == 1) = false := beq_no (by omega)
    clear hn hA
    go_enter Tryz.func125, Tryz.ntmps125
    go_wp2_with fail
    go_ret
    exact ⟨rfl, (Below.refl _ _).alloc (Nat.le_refl _) _⟩

def rk (n : Int) : Bool := decide (n = 64 ∨ (-8 ≤ n ∧ n ≤ 8))
set_option maxRecDepth 100000 in
set_option maxHeartbeats 8000000 in
theorem ranks_any (sh at_ : List Int) (A : Option Addr) (ca : Nat) (B : Option Addr) (cb : Nat) (w : World) (hA : IntsAt w A sh) (hB : IntsAt w B at_) (hl : at_.length ≤ 140737488351232) :
    Calls Tryz.prog 128 #[.agg #[.slice A sh.length ca, .slice B at_.length cb]] w fun e w' => e = .returned (.bool (rankOk sh at_)) ∧ Below w.heap.size w w' := by
  obtain ⟨m, hm⟩ : ∃ m, m = at_.length := ⟨_, rfl⟩
  have HM := Lib.hid hm
  have HB := Lib.hid hB
  rw [← hm] at hl ⊢
  clear hm hB
  have HBX := Lib.hid (fun o => (Below.refl w.heap.size w).alloc (Nat.le_refl _) o)
  match sh, hA with
  | [], hA =>
    clear hA
    have hr : rankOk [] at_ = false := rfl
    have HR := Lib.hid hr
    clear hr
    go_enter Tryz.func128, Tryz.ntmps128
    go_wp2_with fail
    go_quiet (fail)
    go_wp2_with fail
    go_ret
    exact ⟨by rw [HR.out]; rfl, bdn (HBX.out _) _⟩
  | [k], hA =>
    obtain ⟨b, off, rfl, hlt, hc⟩ := hA 0 k rfl
    have hcell : (w.alloc (.cells #[.slice (some ⟨b, off, none⟩) 1 ca, .slice B m cb] 36)).cell? ⟨b, off, none⟩ = some (.int .i64 k) := ((HBX.out _).cell (p := ⟨b, off, none⟩) hlt).trans hc
    have hr : rankOk [k] at_ = (decide (1 ≤ k ∧ k ≤ 3 ∧ (m : Int) = k) && at_.all rk) := by rw [HM.out]; rfl
    have HRR := Lib.hid hr
    clear hc hA hr
    have hk : k < 1 ∨ 3 < k ∨ (1 ≤ k ∧ k ≤ 3) := by omega
    rcases hk with h | h | ⟨h, h'⟩
    · have HR : Hid (rankOk [k] at_ = false) := Lib.hid (by rw [HRR.out, decide_eq_false (by omega)]; rfl)
      have d1 : decide (k < 1) = true := by simp; omega
      go_enter Tryz.func128, Tryz.ntmps128
      go_wp2_with fail
      go_quiet (fail)
      go_wp2_with fail
      go_ret
      exact ⟨by rw [HR.out]; rfl, bdn (HBX.out _) _⟩
    · have HR : Hid (rankOk [k] at_ = false) := Lib.hid (by rw [HRR.out, decide_eq_false (by omega)]; rfl)
      have d1 : decide (k < 1) = false := by simp; omega
      have d2 : decide (3 < k) = true := by simp; omega
      go_enter Tryz.func128, Tryz.ntmps128
      go_wp2_with fail
      go_quiet (fail)
      go_wp2_with fail
      go_ret
      exact ⟨by rw [HR.out]; rfl, bdn (HBX.out _) _⟩
    · have d1 : decide (k < 1) = false := by simp; omega
      have d2 : decide (3 < k) = false := by simp; omega
      by_cases hmk : (m : Int) = k
      · have HR : Hid (rankOk [k] at_ = (at_.drop 0).all rk) := Lib.hid (by rw [HRR.out, decide_eq_true (by omega)]; rfl)
        have d3 : ((m : Int) != k) = false := by simp [hmk]
        have h3 : m ≤ 3 := by omega
        clear hmk
        go_enter Tryz.func128, Tryz.ntmps128
        go_wp2_with fail
        go_quiet (fail)
        go_wp2_with fail
        generalize hW : World.drewN _ _ = W1
        have HB1 : Hid (Below w.heap.size w W1) := Lib.hid (by rw [← hW]; exact bdn (HBX.out _) _)
        clear hW hcell d1 d2 d3
        go_loop [36] (fun v => ∃ i : Nat, i ≤ m ∧ v = .int .i64 i ∧ Hid (rankOk [k] at_ = (at_.drop i).all rk)) (fun v => m - (intOf v).toNat)
        case atStart => exact ⟨0, by omega, rfl, HR⟩
        case round =>
          obtain ⟨i, hi, rfl, HI⟩ := hrel
          by_cases hlt2 : i < m
          · obtain ⟨x, hx⟩ : ∃ x, at_[i]? = some x := ⟨_, List.getElem?_eq_getElem (by rw [← HM.out]; exact hlt2)⟩
            obtain ⟨b', off', rfl, hlt', hc'⟩ := HB.out.on HB1.out i x hx
            have HS : Hid ((at_.drop i).all rk = (rk x && (at_.drop (i + 1)).all rk)) := Lib.hid (by
              obtain ⟨hl', rfl⟩ := List.getElem?_eq_some_iff.1 hx
              rw [List.drop_eq_getElem_cons hl', List.all_cons])
            clear hx
            have hx : x = 64 ∨ (x ≠ 64 ∧ x < -8) ∨ (x ≠ 64 ∧ -8 ≤ x ∧ 8 < x) ∨ (x ≠ 64 ∧ -8 ≤ x ∧ x ≤ 8) := by omega
            have q1 : x = 64 → (x != 64) = false := fun h => by simp [h]
            have q2 : x ≠ 64 → (x != 64) = true := fun h => by simp [h]
            rcases hx with h | ⟨h, h1⟩ | ⟨h, h1, h2⟩ | ⟨h, h1, h2⟩
            · have ha : rk x = true := by unfold rk; simp; omega
              have HE : Hid (rankOk [k] at_ = (at_.drop (i + 1)).all rk) := Lib.hid (by rw [HI.out, HS.out, ha]; rfl)
              have q := q1 h
              clear ha q1 q2 h
              go_wp2_with fail
              go_round
              case rel => exact ⟨i + 1, by omega, by go_num, HE⟩
              case measure => simp [intOf]; omega
            · have ha : rk x = false := by unfold rk; simp; omega
              have HE : Hid (rankOk [k] at_ = false) := Lib.hid (by rw [HI.out, HS.out, ha]; rfl)
              have q := q2 h
              clear ha q1 q2 h
              go_wp2_with fail
              go_ret
              exact ⟨by rw [HE.out]; rfl, HB1.out⟩
            · have ha : rk x = false := by unfold rk; simp; omega
              have HE : Hid (rankOk [k] at_ = false) := Lib.hid (by rw [HI.out, HS.out, ha]; rfl)
              have q := q2 h
              clear ha q1 q2 h
              go_wp2_with fail
              go_ret
              exact ⟨by rw [HE.out]; rfl, HB1.out⟩
            · have ha : rk x = true := by unfold rk; simp; omega
              have HE : Hid (rankOk [k] at_ = (at_.drop (i + 1)).all rk) := Lib.hid (by rw [HI.out, HS.out, ha]; rfl)
              have q := q2 h
              clear ha q1 q2 h
              go_wp2_with fail
              go_round
              case rel => exact ⟨i + 1, by omega, by go_num, HE⟩
              case measure => simp [intOf]; omega
          · obtain rfl : i = m := by omega
            have HE : Hid (rankOk [k] at_ = true) := Lib.hid (by rw [HI.out, HM.out, List.drop_length]; rfl)
            go_wp2_with fail
            go_ret
            exact ⟨by rw [HE.out]; rfl, HB1.out⟩
      · have HR : Hid (rankOk [k] at_ = false) := Lib.hid (by rw [HRR.out, decide_eq_false (by omega)]; rfl)
        have d3 : ((m : Int) != k) = true := by simp [hmk]
        clear hmk
        go_enter Tryz.func128, Tryz.ntmps128
        go_wp2_with fail
        go_quiet (fail)
        go_wp2_with fail
        go_ret
        exact ⟨by rw [HR.out]; rfl, bdn (HBX.out _) _⟩
  | a :: b :: r, hA =>
    obtain ⟨n, hn⟩ : ∃ n, n = (a :: b :: r).length := ⟨_, rfl⟩
    have h2 : 2 ≤ n := by simp at hn; omega
    rw [← hn]
    have d1 : ((n : Int) != 1) = true := by simp; omega
    clear hn hA
    go_enter Tryz.func128, Tryz.ntmps128
    go_wp2_with fail
    go_quiet (fail)
    go_wp2_with fail
    go_ret
    exact ⟨rfl, bdn (HBX.out _) _⟩
end Go.Proofs.YtkdejffhdhcocaaGreat

namespace Go.Proofs.YtkdejffhdhcocaaGreat
open Go.RowKit

theorem str_yes {s : ByteArray} {l : List UInt8} (h : s.data.toList = l) : (s.toList == l) = true := by rw [Lib.toList_data]; exact beq_iff_eq.2 h
theorem str_no {s : ByteArray} {l : List UInt8} (h : ¬ s.data.toList = l) : (s.toList == l) = false := by rw [Lib.toList_data]; exact beq_eq_false_iff_ne.2 h
theorem beq_dec (a b : Int) : (a == b) = decide (a = b) := by
  by_cases h : a = b
  · rw [decide_eq_true h]; exact beq_iff_eq.2 h
  · rw [decide_eq_false h]; exact beq_eq_false_iff_ne.2 h
theorem bne_dec (a b : Int) : (a != b) = !decide (a = b) := by rw [bne, beq_dec]
theorem cell_at {w : World} {g j : Nat} {cs : Array Value} {t : TypeId} {v : Value} (h : w.heap[g]? = some (.cells cs t (0, 0))) (hv : cs[j]? = some v) : w.cell? ⟨g, j, none⟩ = some v := by simpa [World.cell?, h] using hv
set_option maxRecDepth 100000 in
set_option maxHeartbeats 4000000 in
theorem operand_any (t : Tm) (A : Option Addr) (ca : Nat) (B : Option Addr) (cb : Nat) (K : Option Addr) (ck : Nat) (w : World) :
    Calls Tryz.prog 146 #[tmVal t A ca B cb K ck] w fun e w' => e = .returned (.bool (isOperand t)) ∧ Below w.heap.size w w' := by
  obtain ⟨k, hk⟩ : ∃ k, k = t.kind := ⟨_, rfl⟩
  obtain ⟨s, hs⟩ : ∃ s, s = t.text := ⟨_, rfl⟩
  have HR : Hid (isOperand t = (decide (k = 1) || (decide (k = 2) && !(s.data.toList == [120]) && !(s.data.toList == [121])))) := Lib.hid (by rw [hk, hs]; rfl)
  have HBX := Lib.hid (fun o => (Below.refl w.heap.size w).alloc (Nat.le_refl _) o)
  unfold tmVal
  rw [← hk, ← hs]
  clear hk hs
  by_cases h1 : k = 1
  · have d1 : (k == 1) = true := by simp [h1]
    have HE : Hid (isOperand t = true) := Lib.hid (by rw [HR.out, h1]; rfl)
    clear h1
    go_enter Tryz.func146, Tryz.ntmps146
    go_wp2_with fail
    go_ret
    exact ⟨by rw [HE.out]; rfl, HBX.out _⟩
  · have d1 : (k == 1) = false := by simp [h1]
    by_cases h2 : k = 2
    · have d2 : (k == 2) = true := by simp [h2]
      by_cases h3 : s.data.toList = [120]
      · have d3 : (s.toList == [120]) = true := str_yes h3
        have HE : Hid (isOperand t = false) := Lib.hid (by rw [HR.out, h2, h3]; rfl)
        clear h1 h2 h3
        go_enter Tryz.func146, Tryz.ntmps146
        go_wp2_with fail
        go_ret
        exact ⟨by rw [HE.out]; rfl, HBX.out _⟩
      · have d3 : (s.toList == [120]) = false := str_no h3
        by_cases h4 : s.data.toList = [121]
        · have d4 : (s.toList == [121]) = true := str_yes h4
          have HE : Hid (isOperand t = false) := Lib.hid (by rw [HR.out, h2, h4]; rfl)
          clear h1 h2 h3 h4
          go_enter Tryz.func146, Tryz.ntmps146
          go_wp2_with fail
          go_ret
          exact ⟨by rw [HE.out]; rfl, HBX.out _⟩
        · have d4 : (s.toList == [121]) = false := str_no h4
          have HE : Hid (isOperand t = true) := Lib.hid (by rw [HR.out, h2]; simp [h3, h4])
          clear h1 h2 h3 h4
          go_enter Tryz.func146, Tryz.ntmps146
          go_wp2_with fail
          go_ret
          exact ⟨by rw [HE.out]; rfl, HBX.out _⟩
    · have d2 : (k == 2) = false := by simp [h2]
      have HE : Hid (isOperand t = false) := Lib.hid (by rw [HR.out]; simp [h1, h2])
      clear h1 h2
      go_enter Tryz.func146, Tryz.ntmps146
      go_wp2_with fail
      go_ret
      exact ⟨by rw [HE.out]; rfl, HBX.out _⟩
set_option maxRecDepth 100000 in
set_option maxHeartbeats 8000000 in
theorem pattern_any (k : Int) (w : World) : Calls Tryz.prog 129 #[.int .i64 k] w fun e w' => e = .returned (.string ⟨(patOf k).toArray⟩) ∧ w' = w := by
  go_enter Tryz.func129, Tryz.ntmps129
  go_wp2_with fail
  all_goals go_ret
  all_goals exact ⟨by simp_all [patOf], rfl⟩
set_option maxRecDepth 100000 in
set_option maxHeartbeats 8000000 in
theorem is_any (t : Tm) (A : Option Addr) (ca : Nat) (B : Option Addr) (cb : Nat) (K : Option Addr) (ck : Nat) (c : UInt8) (w : World) :
    Calls Tryz.prog 130 #[tmVal t A ca B cb K ck, .int .u8 (c.toNat : Int)] w fun e w' => e = .returned (.bool (fitsB t c)) ∧ Below w.heap.size w w' := by
  have HBX := Lib.hid (fun o => (Below.refl w.heap.size w).alloc (Nat.le_refl _) o)
  have un : ∀ d : UInt8, ¬ c = d → ((c.toNat : Int) == (d.toNat : Int)) = false := fun d h => by
    refine beq_eq_false_iff_ne.2 fun e => h (UInt8.toNat_inj.1 (by omega))
  unfold tmVal
  by_cases h1 : c = 110
  · have HE : Hid (fitsB t c = decide (cls t.kind = 1)) := Lib.hid (by unfold fitsB; rw [if_pos h1])
    rw [show (c.toNat : Int) = 110 by rw [h1]; rfl]
    clear un h1
    go_enter Tryz.func130, Tryz.ntmps130
    go_wp2_with fail
    refine (class_k _ _ _ _ _ _ _).mono ?_
    rintro e w' ⟨rfl, hb⟩
    have HB := Lib.hid ((HBX.out _).then_ hb)
    clear hb
    go_wp2_with fail
    go_ret
    rw [HE.out]
    exact ⟨by simp [beq_dec], HB.out⟩
  by_cases h2 : c = 118
  · have HE : Hid (fitsB t c = decide (cls t.kind = 3)) := Lib.hid (by unfold fitsB; rw [if_neg h1, if_pos h2])
    rw [show (c.toNat : Int) = 118 by rw [h2]; rfl]
    clear un h1 h2
    go_enter Tryz.func130, Tryz.ntmps130
    go_wp2_with fail
    refine (class_k _ _ _ _ _ _ _).mono ?_
    rintro e w' ⟨rfl, hb⟩
    have HB := Lib.hid ((HBX.out _).then_ hb)
    clear hb
    go_wp2_with fail
    go_ret
    rw [HE.out]
    exact ⟨by simp [beq_dec], HB.out⟩
  by_cases h3 : c = 98
  · have HE : Hid (fitsB t c = decide (t.kind = 14)) := Lib.hid (by unfold fitsB; rw [if_neg h1, if_neg h2, if_pos h3])
    rw [show (c.toNat : Int) = 98 by rw [h3]; rfl]
    clear un h1 h2 h3
    go_enter Tryz.func130, Tryz.ntmps130
    go_wp2_with fail
    go_ret
    rw [HE.out]
    exact ⟨by simp [beq_dec], HBX.out _⟩
  by_cases h4 : c = 111
  · have HE : Hid (fitsB t c = isOperand t) := Lib.hid (by unfold fitsB; rw [if_neg h1, if_neg h2, if_neg h3, if_pos h4])
    rw [show (c.toNat : Int) = 111 by rw [h4]; rfl]
    clear un h1 h2 h3 h4
    go_enter Tryz.func130, Tryz.ntmps130
    go_wp2_with fail
    refine (operand_any t A ca B cb K ck _).mono ?_
    rintro e w' ⟨rfl, hb⟩
    have HB := Lib.hid ((HBX.out _).then_ hb)
    clear hb
    go_wp2_with fail
    go_ret
    rw [HE.out]
    exact ⟨rfl, HB.out⟩
  have HE : Hid (fitsB t c = (decide (cls t.kind = 2) && !decide (t.kind = 14))) := Lib.hid (by unfold fitsB; rw [if_neg h1, if_neg h2, if_neg h3, if_neg h4])
  have u1 : ((c.toNat : Int) == 110) = false := un 110 h1
  have u2 : ((c.toNat : Int) == 118) = false := un 118 h2
  have u3 : ((c.toNat : Int) == 98) = false := un 98 h3
  have u4 : ((c.toNat : Int) == 111) = false := un 111 h4
  obtain ⟨k, hk⟩ : ∃ k, k = t.kind := ⟨_, rfl⟩
  rw [← hk] at HE ⊢
  clear un h1 h2 h3 h4 hk
  by_cases h5 : cls k = 2
  · have d5 : (cls k == 2) = true := by simp [h5]
    have HE2 : Hid (fitsB t c = !decide (k = 14)) := Lib.hid (by rw [HE.out, h5]; simp)
    clear h5
    go_enter Tryz.func130, Tryz.ntmps130
    go_wp2_with fail
    refine (class_k _ _ _ _ _ _ _).mono ?_
    rintro e w' ⟨rfl, hb⟩
    have HB := Lib.hid ((HBX.out _).then_ hb)
    have kc : w'.cell? ⟨w.heap.size, 0, none⟩ = some (.int .i64 k) := (hb.cell (p := ⟨w.heap.size, 0, none⟩) (by simp)).trans (cell_at (heap_alloc_new _ _) rfl)
    clear hb
    go_wp2_with fail
    go_ret
    rw [HE2.out]
    exact ⟨by simp [bne_dec], HB.out⟩
  · have d5 : (cls k == 2) = false := by simp [h5]
    have HE2 : Hid (fitsB t c = false) := Lib.hid (by rw [HE.out]; simp [h5])
    clear h5
    go_enter Tryz.func130, Tryz.ntmps130
    go_wp2_with fail
    refine (class_k _ _ _ _ _ _ _).mono ?_
    rintro e w' ⟨rfl, hb⟩
    have HB := Lib.hid ((HBX.out _).then_ hb)
    clear hb
    go_wp2_with fail
    go_ret
    rw [HE2.out]
    exact ⟨rfl, HB.out⟩
end Go.Proofs.YtkdejffhdhcocaaGreat
