/- term: operand, pattern, is. No condition. -/
import Derived.Test.YteohoodfcgfkeaaGreatTeW1
import Derived.Lib.Strings
namespace Go.Proofs.YteohoodfcgfkeaaGreat
open Go.RowKit

theorem str_yes {s : ByteArray} {l : List UInt8} (h : s.data.toList = l) : (s.toList == l) = true := by rw [Lib.toList_data]; exact beq_iff_eq.2 h
theorem str_no {s : ByteArray} {l : List UInt8} (h : ¬ s.data.toList = l) : (s.toList == l) = false := by rw [Lib.toList_data]; exact beq_eq_false_iff_ne.2 h
theorem beq_dec (a b : Int) : (a == b) = decide (a = b) := by
  by_cases h : a = b
  · rw [decide_eq_true h]; exact beq_iff_eq.2 h
  · rw [decide_eq_false h]; exact beq_eq_false_iff_ne.2 h
theorem bne_dec (a b : Int) : (a != b) = !decide (a = b) := by rw [bne, beq_dec]
theorem cell_at {w : World} {g j : Nat} {cs : Array Value} {t : TypeId} {v : Value} (h : w.heap[g]? = some (.cells cs t (0, 0))) (hv : cs[j]? = some v) : w.cell? ⟨g, j, none⟩ = some v := by simpa [World.cell?, h] using hv
set_option maxRecDepth 100000 in
set_option maxHeartbeats 4000000 in
theorem operand_any (t : Tm) (A : Option Addr) (ca : Nat) (B : Option Addr) (cb : Nat) (K : Option Addr) (ck : Nat) (w : World) :
    Calls Tryz.prog 141 #[tmVal t A ca B cb K ck] w fun e w' => e = .returned (.bool (isOperand t)) ∧ Below w.heap.size w w' := by
  obtain ⟨k, hk⟩ : ∃ k, k = t.kind := ⟨_, rfl⟩
  obtain ⟨s, hs⟩ : ∃ s, s = t.text := ⟨_, rfl⟩
  have HR : Hid (isOperand t = (decide (k = 1) || (decide (k = 2) && !(s.data.toList == [120]) && !(s.data.toList == [121])))) := Lib.hid (by rw [hk, hs]; rfl)
  have HBX := Lib.hid (fun o => (Below.refl w.heap.size w).alloc (Nat.le_refl _) o)
  unfold tmVal
  rw [← hk, ← hs]
  clear hk hs
  by_cases h1 : k = 1
  · have d1 : (k == 1) = true := by simp [h1]
    have HE : Hid (isOperand t = true) := Lib.hid (by rw [HR.out, h1]; rfl)
    clear h1
    go_enter Tryz.func141, Tryz.ntmps141
    go_wp2_with fail
    go_ret
    exact ⟨by rw [HE.out]; rfl, HBX.out _⟩
  · have d1 : (k == 1) = false := by simp [h1]
    by_cases h2 : k = 2
    · have d2 : (k == 2) = true := by simp [h2]
      by_cases h3 : s.data.toList = [120]
      · have d3 : (s.toList == [120]) = true := str_yes h3
        have HE : Hid (isOperand t = false) := Lib.hid (by rw [HR.out, h2, h3]; rfl)
        clear h1 h2 h3
        go_enter Tryz.func141, Tryz.ntmps141
        go_wp2_with fail
        go_ret
        exact ⟨by rw [HE.out]; rfl, HBX.out _⟩
      · have d3 : (s.toList == [120]) = false := str_no h3
        by_cases h4 : s.data.toList = [121]
        · have d4 : (s.toList == [121]) = true := str_yes h4
          have HE : Hid (isOperand t = false) := Lib.hid (by rw [HR.out, h2, h4]; rfl)
          clear h1 h2 h3 h4
          go_enter Tryz.func141, Tryz.ntmps141
          go_wp2_with fail
          go_ret
          exact ⟨by rw [HE.out]; rfl, HBX.out _⟩
        · have d4 : (s.toList == [121]) = false := str_no h4
          have HE : Hid (isOperand t = true) := Lib.hid (by rw [HR.out, h2]; simp [h3, h4])
          clear h1 h2 h3 h4
          go_enter Tryz.func141, Tryz.ntmps141
          go_wp2_with fail
          go_ret
          exact ⟨by rw [HE.out]; rfl, HBX.out _⟩
    · have d2 : (k == 2) = false := by simp [h2]
      have HE : Hid (isOperand t = false) := Lib.hid (by rw [HR.out]; simp [h1, h2])
      clear h1 h2
      go_enter Tryz.func141, Tryz.ntmps141
      go_wp2_with fail
      go_ret
      exact ⟨by rw [HE.out]; rfl, HBX.out _⟩
set_option maxRecDepth 100000 in
set_option maxHeartbeats 8000000 in
theorem pattern_any (k : Int) (w : World) : Calls Tryz.prog 116 #[.int .i64 k] w fun e w' => e = .returned (.string ⟨(patOf k).toArray⟩) ∧ w' = w := by
  go_enter Tryz.func116, Tryz.ntmps116
  go_wp2_with fail
  all_goals go_ret
  all_goals exact ⟨by simp_all [patOf], rfl⟩
set_option maxRecDepth 100000 in
set_option maxHeartbeats 8000000 in
theorem is_any (t : Tm) (A : Option Addr) (ca : Nat) (B : Option Addr) (cb : Nat) (K : Option Addr) (ck : Nat) (c : UInt8) (w : World) :
    Calls Tryz.prog 117 #[tmVal t A ca B cb K ck, .int .u8 (c.toNat : Int)] w fun e w' => e = .returned (.bool (fitsB t c)) ∧ Below w.heap.size w w' := by
  have HBX := Lib.hid (fun o => (Below.refl w.heap.size w).alloc (Nat.le_refl _) o)
  have un : ∀ d : UInt8, ¬ c = d → ((c.toNat : Int) == (d.toNat : Int)) = false := fun d h => by
    refine beq_eq_false_iff_ne.2 fun e => h (UInt8.toNat_inj.1 (by omega))
  unfold tmVal
  by_cases h1 : c = 110
  · have HE : Hid (fitsB t c = decide (cls t.kind = 1)) := Lib.hid (by unfold fitsB; rw [if_pos h1])
    rw [show (c.toNat : Int) = 110 by rw [h1]; rfl]
    clear un h1
    go_enter Tryz.func117, Tryz.ntmps117
    go_wp2_with fail
    refine (class_k _ _ _ _ _ _ _).mono ?_
    rintro e w' ⟨rfl, hb⟩
    have HB := Lib.hid ((HBX.out _).then_ hb)
    clear hb
    go_wp2_with fail
    go_ret
    rw [HE.out]
    exact ⟨by simp [beq_dec], HB.out⟩
  by_cases h2 : c = 118
  · have HE : Hid (fitsB t c = decide (cls t.kind = 3)) := Lib.hid (by unfold fitsB; rw [if_neg h1, if_pos h2])
    rw [show (c.toNat : Int) = 118 by rw [h2]; rfl]
    clear un h1 h2
    go_enter Tryz.func117, Tryz.ntmps117
    go_wp2_with fail
    refine (class_k _ _ _ _ _ _ _).mono ?_
    rintro e w' ⟨rfl, hb⟩
    have HB := Lib.hid ((HBX.out _).then_ hb)
    clear hb
    go_wp2_with fail
    go_ret
    rw [HE.out]
    exact ⟨by simp [beq_dec], HB.out⟩
  by_cases h3 : c = 98
  · have HE : Hid (fitsB t c = decide (t.kind = 14)) := Lib.hid (by unfold fitsB; rw [if_neg h1, if_neg h2, if_pos h3])
    rw [show (c.toNat : Int) = 98 by rw [h3]; rfl]
    clear un h1 h2 h3
    go_enter Tryz.func117, Tryz.ntmps117
    go_wp2_with fail
    go_ret
    rw [HE.out]
    exact ⟨by simp [beq_dec], HBX.out _⟩
  by_cases h4 : c = 111
  · have HE : Hid (fitsB t c = isOperand t) := Lib.hid (by unfold fitsB; rw [if_neg h1, if_neg h2, if_neg h3, if_pos h4])
    rw [show (c.toNat : Int) = 111 by rw [h4]; rfl]
    clear un h1 h2 h3 h4
    go_enter Tryz.func117, Tryz.ntmps117
    go_wp2_with fail
    refine (operand_any t A ca B cb K ck _).mono ?_
    rintro e w' ⟨rfl, hb⟩
    have HB := Lib.hid ((HBX.out _).then_ hb)
    clear hb
    go_wp2_with fail
    go_ret
    rw [HE.out]
    exact ⟨rfl, HB.out⟩
  have HE : Hid (fitsB t c = (decide (cls t.kind = 2) && !decide (t.kind = 14))) := Lib.hid (by unfold fitsB; rw [if_neg h1, if_neg h2, if_neg h3, if_neg h4])
  have u1 : ((c.toNat : Int) == 110) = false := un 110 h1
  have u2 : ((c.toNat : Int) == 118) = false := un 118 h2
  have u3 : ((c.toNat : Int) == 98) = false := un 98 h3
  have u4 : ((c.toNat : Int) == 111) = false := un 111 h4
  obtain ⟨k, hk⟩ : ∃ k, k = t.kind := ⟨_, rfl⟩
  rw [← hk] at HE ⊢
  clear un h1 h2 h3 h4 hk
  by_cases h5 : cls k = 2
  · have d5 : (cls k == 2) = true := by simp [h5]
    have HE2 : Hid (fitsB t c = !decide (k = 14)) := Lib.hid (by rw [HE.out, h5]; simp)
    clear h5
    go_enter Tryz.func117, Tryz.ntmps117
    go_wp2_with fail
    refine (class_k _ _ _ _ _ _ _).mono ?_
    rintro e w' ⟨rfl, hb⟩
    have HB := Lib.hid ((HBX.out _).then_ hb)
    have kc : w'.cell? ⟨w.heap.size, 0, none⟩ = some (.int .i64 k) := (hb.cell (p := ⟨w.heap.size, 0, none⟩) (by simp)).trans (cell_at (heap_alloc_new _ _) rfl)
    clear hb
    go_wp2_with fail
    go_ret
    rw [HE2.out]
    exact ⟨by simp [bne_dec], HB.out⟩
  · have d5 : (cls k == 2) = false := by simp [h5]
    have HE2 : Hid (fitsB t c = false) := Lib.hid (by rw [HE.out]; simp [h5])
    clear h5
    go_enter Tryz.func117, Tryz.ntmps117
    go_wp2_with fail
    refine (class_k _ _ _ _ _ _ _).mono ?_
    rintro e w' ⟨rfl, hb⟩
    have HB := Lib.hid ((HBX.out _).then_ hb)
    clear hb
    go_wp2_with fail
    go_ret
    rw [HE2.out]
    exact ⟨rfl, HB.out⟩
end Go.Proofs.YteohoodfcgfkeaaGreat
