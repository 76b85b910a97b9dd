/- term: literal, ranks. No condition. -/
import Derived.Test.YteohoodfcgfkeaaGreatTeW1
namespace Go.Proofs.YteohoodfcgfkeaaGreat
open Go.RowKit

theorem beq_yes {a b : Int} (h : a = b) : (a == b) = true := beq_iff_eq.2 h
theorem beq_no {a b : Int} (h : ¬ a = b) : (a == b) = false := beq_eq_false_iff_ne.2 h
theorem ints_cell {w : World} {A : Option Addr} {l : List Int} (h : IntsAt w A l) {i : Nat} {x : Int} (hx : l[i]? = some x) : ∃ b off, A = some ⟨b, off, none⟩ ∧ b < w.heap.size ∧ w.cell? ⟨b, off + i, none⟩ = some (.int .i64 x) := h i x hx
set_option maxRecDepth 100000 in
set_option maxHeartbeats 8000000 in
theorem literal_any (sh at_ : List Int) (A : Option Addr) (ca : Nat) (B : Option Addr) (cb : Nat) (w : World) (hA : IntsAt w A sh) :
    Calls Tryz.prog 113 #[.agg #[.slice A sh.length ca, .slice B at_.length cb]] w fun e w' => e = .returned (.bool (litOk sh at_)) ∧ Below w.heap.size w w' := by
  obtain ⟨m, hm⟩ : ∃ m, m = at_.length := ⟨_, rfl⟩
  have HM := Lib.hid hm
  rw [← hm]
  clear hm
  match sh, hA with
  | [], hA =>
    clear hA
    by_cases h1 : m = 1
    · have h1' : ((m : Int) == 1) = true := beq_yes (by omega)
      have HR : Hid (litOk [] at_ = true) := Lib.hid (by simp [litOk, ← HM.out, h1])
      clear h1
      go_enter Tryz.func113, Tryz.ntmps113
      go_wp2_with fail
      go_ret
      exact ⟨by rw [HR.out]; rfl, (Below.refl _ _).alloc (Nat.le_refl _) _⟩
    · have h1' : ((m : Int) == 1) = false := beq_no (by omega)
      have HR : Hid (litOk [] at_ = false) := Lib.hid (by simp [litOk, ← HM.out, h1])
      clear h1
      go_enter Tryz.func113, Tryz.ntmps113
      go_wp2_with fail
      go_ret
      exact ⟨by rw [HR.out]; rfl, (Below.refl _ _).alloc (Nat.le_refl _) _⟩
  | [k], hA =>
    obtain ⟨b, off, rfl, hlt, hc⟩ := hA 0 k rfl
    have hcell : (w.alloc (.cells #[.slice (some ⟨b, off, none⟩) 1 ca, .slice B m cb] 25)).cell? ⟨b, off, none⟩ = some (.int .i64 k) := (((Below.refl w.heap.size w).alloc (Nat.le_refl _) _).cell (p := ⟨b, off, none⟩) hlt).trans hc
    have HCELL := Lib.hid hcell
    have hr : litOk [k] at_ = decide (2 ≤ k ∧ k ≤ 64 ∧ (m : Int) = k) := by simp only [litOk, HM.out]
    have HRR := Lib.hid hr
    clear hc hA hr
    have hk : k < 2 ∨ 64 < k ∨ (2 ≤ k ∧ k ≤ 64) := by omega
    rcases hk with h | h | ⟨h, h'⟩
    · have HR : Hid (litOk [k] at_ = false) := Lib.hid (by rw [HRR.out, decide_eq_false (by omega)])
      have d1 : decide (2 ≤ k) = false := by simp; omega
      go_enter Tryz.func113, Tryz.ntmps113
      go_wp2_with fail
      go_quiet (fail)
      go_wp2_with fail
      go_ret
      exact ⟨by rw [HR.out]; rfl, bdn ((Below.refl _ _).alloc (Nat.le_refl _) _) _⟩
    · have HR : Hid (litOk [k] at_ = false) := Lib.hid (by rw [HRR.out, decide_eq_false (by omega)])
      have d1 : decide (2 ≤ k) = true := by simp; omega
      have d2 : decide (k ≤ 64) = false := by simp; omega
      go_enter Tryz.func113, Tryz.ntmps113
      go_wp2_with fail
      go_quiet (fail)
      go_wp2_with fail
      go_ret
      exact ⟨by rw [HR.out]; rfl, bdn ((Below.refl _ _).alloc (Nat.le_refl _) _) _⟩
    · have d1 : decide (2 ≤ k) = true := by simp; omega
      have d2 : decide (k ≤ 64) = true := by simp; omega
      by_cases hmk : (m : Int) = k
      · have HR : Hid (litOk [k] at_ = true) := Lib.hid (by rw [HRR.out, decide_eq_true (by omega)])
        have d3 : ((m : Int) == k) = true := beq_yes hmk
        clear hmk
        go_enter Tryz.func113, Tryz.ntmps113
        go_wp2_with fail
        go_quiet (fail)
        go_wp2_with fail
        go_ret
        exact ⟨by rw [HR.out]; rfl, bdn ((Below.refl _ _).alloc (Nat.le_refl _) _) _⟩
      · have HR : Hid (litOk [k] at_ = false) := Lib.hid (by rw [HRR.out, decide_eq_false (by omega)])
        have d3 : ((m : Int) == k) = false := beq_no hmk
        clear hmk
        go_enter Tryz.func113, Tryz.ntmps113
        go_wp2_with fail
        go_quiet (fail)
        go_wp2_with fail
        go_ret
        exact ⟨by rw [HR.out]; rfl, bdn ((Below.refl _ _).alloc (Nat.le_refl _) _) _⟩
  | a :: b :: r, hA =>
    obtain ⟨n, hn⟩ : ∃ n, n = (a :: b :: r).length := ⟨_, rfl⟩
    have h2 : 2 ≤ n := by simp at hn; omega
    rw [← hn]
    have d0 : ((n : Int) == 0) = false := beq_no (by omega)
    have d1 : ((n : Int) == 1) = false := beq_no (by omega)
    clear hn hA
    go_enter Tryz.func113, Tryz.ntmps113
    go_wp2_with fail
    go_ret
    exact ⟨rfl, (Below.refl _ _).alloc (Nat.le_refl _) _⟩

def rk (n : Int) : Bool := decide (n = 64 ∨ (-8 ≤ n ∧ n ≤ 8))
set_option maxRecDepth 100000 in
set_option maxHeartbeats 8000000 in
theorem ranks_any (sh at_ : List Int) (A : Option Addr) (ca : Nat) (B : Option Addr) (cb : Nat) (w : World) (hA : IntsAt w A sh) (hB : IntsAt w B at_) (hl : at_.length ≤ 140737488351232) :
    Calls Tryz.prog 115 #[.agg #[.slice A sh.length ca, .slice B at_.length cb]] w fun e w' => e = .returned (.bool (rankOk sh at_)) ∧ Below w.heap.size w w' := by
  obtain ⟨m, hm⟩ : ∃ m, m = at_.length := ⟨_, rfl⟩
  have HM := Lib.hid hm
  have HB := Lib.hid hB
  rw [← hm] at hl ⊢
  clear hm hB
  have HBX := Lib.hid (fun o => (Below.refl w.heap.size w).alloc (Nat.le_refl _) o)
  match sh, hA with
  | [], hA =>
    clear hA
    have hr : rankOk [] at_ = false := rfl
    have HR := Lib.hid hr
    clear hr
    go_enter Tryz.func115, Tryz.ntmps115
    go_wp2_with fail
    go_quiet (fail)
    go_wp2_with fail
    go_ret
    exact ⟨by rw [HR.out]; rfl, bdn (HBX.out _) _⟩
  | [k], hA =>
    obtain ⟨b, off, rfl, hlt, hc⟩ := hA 0 k rfl
    have hcell : (w.alloc (.cells #[.slice (some ⟨b, off, none⟩) 1 ca, .slice B m cb] 25)).cell? ⟨b, off, none⟩ = some (.int .i64 k) := ((HBX.out _).cell (p := ⟨b, off, none⟩) hlt).trans hc
    have hr : rankOk [k] at_ = (decide (1 ≤ k ∧ k ≤ 3 ∧ (m : Int) = k) && at_.all rk) := by rw [HM.out]; rfl
    have HRR := Lib.hid hr
    clear hc hA hr
    have hk : k < 1 ∨ 3 < k ∨ (1 ≤ k ∧ k ≤ 3) := by omega
    rcases hk with h | h | ⟨h, h'⟩
    · have HR : Hid (rankOk [k] at_ = false) := Lib.hid (by rw [HRR.out, decide_eq_false (by omega)]; rfl)
      have d1 : decide (k < 1) = true := by simp; omega
      go_enter Tryz.func115, Tryz.ntmps115
      go_wp2_with fail
      go_quiet (fail)
      go_wp2_with fail
      go_ret
      exact ⟨by rw [HR.out]; rfl, bdn (HBX.out _) _⟩
    · have HR : Hid (rankOk [k] at_ = false) := Lib.hid (by rw [HRR.out, decide_eq_false (by omega)]; rfl)
      have d1 : decide (k < 1) = false := by simp; omega
      have d2 : decide (3 < k) = true := by simp; omega
      go_enter Tryz.func115, Tryz.ntmps115
      go_wp2_with fail
      go_quiet (fail)
      go_wp2_with fail
      go_ret
      exact ⟨by rw [HR.out]; rfl, bdn (HBX.out _) _⟩
    · have d1 : decide (k < 1) = false := by simp; omega
      have d2 : decide (3 < k) = false := by simp; omega
      by_cases hmk : (m : Int) = k
      · have HR : Hid (rankOk [k] at_ = (at_.drop 0).all rk) := Lib.hid (by rw [HRR.out, decide_eq_true (by omega)]; rfl)
        have d3 : ((m : Int) != k) = false := by simp [hmk]
        have h3 : m ≤ 3 := by omega
        clear hmk
        go_enter Tryz.func115, Tryz.ntmps115
        go_wp2_with fail
        go_quiet (fail)
        go_wp2_with fail
        generalize hW : World.drewN _ _ = W1
        have HB1 : Hid (Below w.heap.size w W1) := Lib.hid (by rw [← hW]; exact bdn (HBX.out _) _)
        clear hW hcell d1 d2 d3
        go_loop [36] (fun v => ∃ i : Nat, i ≤ m ∧ v = .int .i64 i ∧ Hid (rankOk [k] at_ = (at_.drop i).all rk)) (fun v => m - (intOf v).toNat)
        case atStart => exact ⟨0, by omega, rfl, HR⟩
        case round =>
          obtain ⟨i, hi, rfl, HI⟩ := hrel
          by_cases hlt2 : i < m
          · obtain ⟨x, hx⟩ : ∃ x, at_[i]? = some x := ⟨_, List.getElem?_eq_getElem (by rw [← HM.out]; exact hlt2)⟩
            obtain ⟨b', off', rfl, hlt', hc'⟩ := HB.out.on HB1.out i x hx
            have HS : Hid ((at_.drop i).all rk = (rk x && (at_.drop (i + 1)).all rk)) := Lib.hid (by
              obtain ⟨hl', rfl⟩ := List.getElem?_eq_some_iff.1 hx
              rw [List.drop_eq_getElem_cons hl', List.all_cons])
            clear hx
            have hx : x = 64 ∨ (x ≠ 64 ∧ x < -8) ∨ (x ≠ 64 ∧ -8 ≤ x ∧ 8 < x) ∨ (x ≠ 64 ∧ -8 ≤ x ∧ x ≤ 8) := by omega
            have q1 : x = 64 → (x != 64) = false := fun h => by simp [h]
            have q2 : x ≠ 64 → (x != 64) = true := fun h => by simp [h]
            rcases hx with h | ⟨h, h1⟩ | ⟨h, h1, h2⟩ | ⟨h, h1, h2⟩
            · have ha : rk x = true := by unfold rk; simp; omega
              have HE : Hid (rankOk [k] at_ = (at_.drop (i + 1)).all rk) := Lib.hid (by rw [HI.out, HS.out, ha]; rfl)
              have q := q1 h
              clear ha q1 q2 h
              go_wp2_with fail
              go_round
              case rel => exact ⟨i + 1, by omega, by go_num, HE⟩
              case measure => simp [intOf]; omega
            · have ha : rk x = false := by unfold rk; simp; omega
              have HE : Hid (rankOk [k] at_ = false) := Lib.hid (by rw [HI.out, HS.out, ha]; rfl)
              have q := q2 h
              clear ha q1 q2 h
              go_wp2_with fail
              go_ret
              exact ⟨by rw [HE.out]; rfl, HB1.out⟩
            · have ha : rk x = false := by unfold rk; simp; omega
              have HE : Hid (rankOk [k] at_ = false) := Lib.hid (by rw [HI.out, HS.out, ha]; rfl)
              have q := q2 h
              clear ha q1 q2 h
              go_wp2_with fail
              go_ret
              exact ⟨by rw [HE.out]; rfl, HB1.out⟩
            · have ha : rk x = true := by unfold rk; simp; omega
              have HE : Hid (rankOk [k] at_ = (at_.drop (i + 1)).all rk) := Lib.hid (by rw [HI.out, HS.out, ha]; rfl)
              have q := q2 h
              clear ha q1 q2 h
              go_wp2_with fail
              go_round
              case rel => exact ⟨i + 1, by omega, by go_num, HE⟩
              case measure => simp [intOf]; omega
          · obtain rfl : i = m := by omega
            have HE : Hid (rankOk [k] at_ = true) := Lib.hid (by rw [HI.out, HM.out, List.drop_length]; rfl)
            go_wp2_with fail
            go_ret
            exact ⟨by rw [HE.out]; rfl, HB1.out⟩
      · have HR : Hid (rankOk [k] at_ = false) := Lib.hid (by rw [HRR.out, decide_eq_false (by omega)]; rfl)
        have d3 : ((m : Int) != k) = true := by simp [hmk]
        clear hmk
        go_enter Tryz.func115, Tryz.ntmps115
        go_wp2_with fail
        go_quiet (fail)
        go_wp2_with fail
        go_ret
        exact ⟨by rw [HR.out]; rfl, bdn (HBX.out _) _⟩
  | a :: b :: r, hA =>
    obtain ⟨n, hn⟩ : ∃ n, n = (a :: b :: r).length := ⟨_, rfl⟩
    have h2 : 2 ≤ n := by simp at hn; omega
    rw [← hn]
    have d1 : ((n : Int) != 1) = true := by simp; omega
    clear hn hA
    go_enter Tryz.func115, Tryz.ntmps115
    go_wp2_with fail
    go_quiet (fail)
    go_wp2_with fail
    go_ret
    exact ⟨rfl, bdn (HBX.out _) _⟩
end Go.Proofs.YteohoodfcgfkeaaGreat
