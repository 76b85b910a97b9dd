/- term: May. Condition: sizes within reach. -/
import Derived.Test.YtkdejffhdhcocaaGreatTeW9
namespace Go.Proofs.YtkdejffhdhcocaaGreat
open Go.RowKit

set_option maxRecDepth 100000 in
set_option maxHeartbeats 8000000 in
theorem may_any (t : Tm) (A : Option Addr) (ca : Nat) (B : Option Addr) (cb : Nat) (K : Option Addr) (ck : Nat) (c : Int) (w : World) (hat : TmAt w t A B K) (hwf : WfT t) :
    Calls Tryz.prog 32 #[tmVal t A ca B cb K ck, .int .i64 c] w fun e w' => e = .returned (.int .i64 (mayT t c)) ∧ Below w.heap.size w w' := by
  obtain ⟨W1, hW1⟩ : ∃ W1, W1 = w.alloc (.cells (tmCells t A ca B cb K ck) 38) := ⟨_, rfl⟩
  have hb1 : Below w.heap.size w W1 := by rw [hW1]; exact (Below.refl _ _).alloc (Nat.le_refl _) _
  have hc1 : W1.heap[w.heap.size]? = some (.cells (tmCells t A ca B cb K ck) 38 (0, 0)) := by rw [hW1]; exact heap_alloc_new w _
  have HX := Lib.hid (And.intro hb1 (And.intro hc1 (hat.on hb1)))
  have HWF := Lib.hid hwf
  have HW1 := Lib.hid hW1
  have HP : Hid (PtrAt W1 w.heap.size 0 t) := Lib.hid (PtrAt.mk HX.out.2.2 HX.out.2.1)
  have HK : Hid (∀ W, Below W1.heap.size W1 W → W.cell? ⟨w.heap.size, 0, none⟩ = some (.int .i64 t.kind) ∧ W.cell? ⟨w.heap.size, 1, none⟩ = some (.string t.text) ∧ W.cell? ⟨w.heap.size, 2, none⟩ = some (.int .i64 t.n) ∧ W.cell? ⟨w.heap.size, 3, none⟩ = some (.slice A t.sh.length ca) ∧ W.cell? ⟨w.heap.size, 4, none⟩ = some (.slice B t.at_.length cb) ∧ W.cell? ⟨w.heap.size, 5, none⟩ = some (.slice K t.kids.length ck)) := Lib.hid fun W h => by
    have hh := (h.block _ (heap_lt HX.out.2.1)).trans HX.out.2.1
    exact ⟨cell_at hh rfl, cell_at hh rfl, cell_at hh rfl, cell_at hh rfl, cell_at hh rfl, cell_at hh rfl⟩
  clear hat hwf hb1 hc1 hW1
  by_cases hc : c < 1 ∨ 3 < c
  · have HR : Hid (mayT t c = 1) := Lib.hid (by unfold mayT; rw [if_pos hc])
    have d1 : (c != 1) = true := by simp; omega
    have d2 : (c != 2) = true := by simp; omega
    have d3 : (c != 3) = true := by simp; omega
    clear hc
    go_enter Tryz.func32, Tryz.ntmps32
    go_wp2_with fail
    go_ret
    rw [HR.out, ← HW1.out]
    exact ⟨rfl, HX.out.1⟩
  have HM : Hid (mayT t c = if greatT t = true then 2 else if goodT false t = false then 33 else if cls t.kind ≠ c then 5 else 0) := Lib.hid (by unfold mayT; rw [if_neg hc])
  have hc3 : c = 1 ∨ c = 2 ∨ c = 3 := by omega
  have HD : (cls t.kind != c) = true ∧ Hid ((if cls t.kind ≠ c then (5 : Int) else 0) = 5) ∨ (cls t.kind != c) = false ∧ Hid ((if cls t.kind ≠ c then (5 : Int) else 0) = 0) := by
    by_cases h : cls t.kind = c
    · exact .inr ⟨by simp [h], Lib.hid (if_neg (fun e => e h))⟩
    · exact .inl ⟨by simp [h], Lib.hid (if_pos h)⟩
  clear hc
  rcases HD with ⟨hd, HV⟩ | ⟨hd, HV⟩ <;> rcases hc3 with rfl | rfl | rfl
  all_goals
    cases hg : greatT t with
    | true =>
      have HR := Lib.hid (HM.out.trans (if_pos hg))
      go_enter Tryz.func32, Tryz.ntmps32
      go_wp2_with fail
      rw [← HW1.out]
      refine (great_any t A ca B cb K ck W1 HX.out.2.2 HWF.out).mono ?_
      rintro e w2 ⟨rfl, hb2⟩
      have HB2 := Lib.hid (HX.out.1.then_ hb2)
      rw [hg]
      clear hg hb2
      go_wp2_with fail
      go_ret
      rw [HR.out]
      exact ⟨rfl, HB2.out⟩
    | false =>
      have HR1 := Lib.hid (HM.out.trans (if_neg (by rw [hg]; decide)))
      cases hgd : goodT false t with
      | false =>
        have HR := Lib.hid (HR1.out.trans (if_pos hgd))
        go_enter Tryz.func32, Tryz.ntmps32
        go_wp2_with fail
        rw [← HW1.out]
        refine (great_any t A ca B cb K ck W1 HX.out.2.2 HWF.out).mono ?_
        rintro e w2 ⟨rfl, hb2⟩
        have HB2 := Lib.hid hb2
        rw [hg]
        clear hg hb2
        go_wp2_with fail
        refine (good_any (cnt t) t w.heap.size 0 false w2 (Nat.le_refl _) (HP.out.on HB2.out) HWF.out).mono ?_
        rintro e w3 ⟨rfl, hb3⟩
        have HB3 := Lib.hid (HX.out.1.then_ (HB2.out.then_ hb3))
        rw [hgd]
        clear hgd hb3
        go_wp2_with fail
        go_ret
        rw [HR.out]
        exact ⟨rfl, HB3.out⟩
      | true =>
        have HR2 := Lib.hid (HR1.out.trans (if_neg (by rw [hgd]; decide)))
        go_enter Tryz.func32, Tryz.ntmps32
        go_wp2_with fail
        rw [← HW1.out]
        refine (great_any t A ca B cb K ck W1 HX.out.2.2 HWF.out).mono ?_
        rintro e w2 ⟨rfl, hb2⟩
        have HB2 := Lib.hid hb2
        rw [hg]
        clear hg hb2
        go_wp2_with fail
        refine (good_any (cnt t) t w.heap.size 0 false w2 (Nat.le_refl _) (HP.out.on HB2.out) HWF.out).mono ?_
        rintro e w3 ⟨rfl, hb3⟩
        have HB3 := Lib.hid (HB2.out.then_ hb3)
        rw [hgd]
        obtain ⟨q0, q1, q2, q3, q4, q5⟩ := HK.out w3 HB3.out
        clear hgd hb3
        go_wp2_with fail
        refine (class_k _ _ _ _ _ _ _).mono ?_
        rintro e w4 ⟨rfl, hb4⟩
        have HB4 := Lib.hid (HX.out.1.then_ (HB3.out.then_ hb4))
        clear hb4 q0 q1 q2 q3 q4 q5
        go_wp2_with fail
        go_ret
        rw [HR2.out, HV.out]
        exact ⟨rfl, HB4.out⟩
end Go.Proofs.YtkdejffhdhcocaaGreat
