/- trait.Total. Condition: sizes within reach. -/
import Derived.Test.YtebiojmfieoncaaGreatTeT7
namespace Go.Proofs.YtebiojmfieoncaaGreat
open Go.RowKit Go.WideMaps Go.Maps

/-- what Total answers -/
def totalT (t : Tm) (v : Int) : Bool := if (v = 1 ∨ v = 2) ∧ mayT t 3 = 0 then totT t v else false
set_option maxRecDepth 100000 in
set_option maxHeartbeats 8000000 in
theorem total_any (t : Tm) (A : Option Addr) (ca : Nat) (B : Option Addr) (cb : Nat) (K : Option Addr) (ck : Nat) (v : Int) (w : World) (hat : TmAt w t A B K) (hwf : WfT t) :
    Calls Tryz.prog 28 #[tmVal t A ca B cb K ck, .int .i64 v] w fun e w' => e = .returned (.bool (totalT t v)) ∧ Below w.heap.size w w' := by
  obtain ⟨W1, hW1⟩ : ∃ W1, W1 = w.alloc (.cells (tmCells t A ca B cb K ck) TTm) := ⟨_, rfl⟩
  have hb1 : Below w.heap.size w W1 := by rw [hW1]; exact (Below.refl _ _).alloc (Nat.le_refl _) _
  have hx1 : W1.heap[w.heap.size]? = some (.cells (tmCells t A ca B cb K ck) TTm (0, 0)) := by rw [hW1]; exact heap_alloc_new w _
  have HX := Lib.hid (And.intro hb1 (And.intro hx1 (hat.on hb1)))
  have HWF := Lib.hid hwf
  have HW1 := Lib.hid hW1
  have k0 := cell_at hx1 (j := 0) rfl
  have k1 := cell_at hx1 (j := 1) rfl
  have k2 := cell_at hx1 (j := 2) rfl
  have k3 := cell_at hx1 (j := 3) rfl
  have k4 := cell_at hx1 (j := 4) rfl
  have k5 := cell_at hx1 (j := 5) rfl
  clear hat hwf hb1 hx1 hW1
  by_cases hv : v = 1 ∨ v = 2
  · have HM : Hid (Calls Tryz.prog 31 #[tmVal t A ca B cb K ck, .int .i64 3] W1 fun e w' => e = .returned (.int .i64 (mayT t 3)) ∧ Below W1.heap.size W1 w') := Lib.hid (may_any t A ca B cb K ck 3 W1 HX.out.2.2 HWF.out)
    have HV := Lib.hid hv
    have d3 : ((v != 1) = false) ∨ ((v != 1) = true ∧ (v != 2) = false) := by
      rcases hv with rfl | rfl
      · exact .inl rfl
      · exact .inr ⟨rfl, rfl⟩
    unfold tmVal at HM
    by_cases hm : mayT t 3 = 0
    · have HR : Hid (totalT t v = totT t v) := Lib.hid (by unfold totalT; rw [if_pos ⟨hv, hm⟩])
      have HG := Lib.hid (may_goodT hm).1
      have dm : (mayT t 3 != 0) = false := by rw [hm]; rfl
      clear hv hm
      rcases d3 with d1 | ⟨d1, d2⟩
      all_goals
        go_enter Tryz.func28, Tryz.ntmps28
        go_upto_region 1 with fail
        rw [← HW1.out]
        go_wp2_with fail
        refine HM.out.mono ?_
        rintro e w2 ⟨rfl, hb2⟩
        have HB2 := Lib.hid hb2
        clear hb2 k0 k1 k2 k3 k4 k5
        go_wp2_with fail
        refine (valences_any w2).mono ?_
        rintro e w3 ⟨Bm, n, D, rfl, hmap, his, _, _, hb3⟩
        have HB3 := Lib.hid (HB2.out.then_ hb3)
        have HMP := Lib.hid (And.intro hmap his)
        clear hmap his hb3
        go_upto_region 6 with fail
        obtain ⟨W6, hW6⟩ : ∃ W, W = (w3.alloc (.cells #[.map (some Bm)] TMp)).alloc (.cells #[.func (.func 68) #[] #[.pointer (some ⟨w3.heap.size + 1, 0, none⟩), .pointer (some ⟨w3.heap.size, 0, none⟩)]] TFn) := ⟨_, rfl⟩
        have hb6 : Below w3.heap.size w3 W6 := by rw [hW6]; exact ((Below.refl _ _).alloc (Nat.le_refl _) _).alloc (by simp) _
        have HT6 : Hid (TotW W6 Bm w3.heap.size (w3.heap.size + 1) n D) := Lib.hid ⟨HMP.out.1.kept (row := none) (grown_below hb6 none) (by simp), HMP.out.2, by rw [hW6]; exact (Below.heap_alloc _ _ _ (by simp)).trans (heap_alloc_new w3 _), by rw [hW6]; exact heap_new2 _ _ _⟩
        have HB6 := Lib.hid (HB3.out.then_ hb6)
        rw [← hW6]
        clear hW6 hb6
        have cl := cell_at HT6.out.gl (j := 0) rfl
        go_wp2_with fail
        refine (tot_any (cnt t) t w.heap.size 0 v W6 Bm w3.heap.size (w3.heap.size + 1) n D (Nat.le_refl _) (PtrAt.mk (HX.out.2.2.on HB6.out) ((HB6.out.block _ (heap_lt HX.out.2.1)).trans HX.out.2.1)) HWF.out HG.out HV.out HT6.out).mono ?_
        rintro e w7 ⟨rfl, hb7⟩
        have HB7 := Lib.hid (HX.out.1.then_ (HB6.out.then_ hb7))
        clear hb7 cl
        go_wp2_with fail
        go_ret
        exact ⟨by rw [HR.out]; rfl, HB7.out⟩
    · have HR : Hid (totalT t v = false) := Lib.hid (by unfold totalT; rw [if_neg (fun h => hm h.2)])
      have dm : (mayT t 3 != 0) = true := by simpa using hm
      clear hv hm
      rcases d3 with d1 | ⟨d1, d2⟩
      all_goals
        go_enter Tryz.func28, Tryz.ntmps28
        go_upto_region 1 with fail
        rw [← HW1.out]
        go_wp2_with fail
        refine HM.out.mono ?_
        rintro e w2 ⟨rfl, hb2⟩
        have HB2 := Lib.hid (HX.out.1.then_ hb2)
        clear hb2 k0 k1 k2 k3 k4 k5
        go_wp2_with fail
        go_ret
        exact ⟨by rw [HR.out]; rfl, HB2.out⟩
  · have HR : Hid (totalT t v = false) := Lib.hid (by unfold totalT; rw [if_neg (fun h => hv h.1)])
    have d1 : (v != 1) = true := by simp; omega
    have d2 : (v != 2) = true := by simp; omega
    clear hv
    go_enter Tryz.func28, Tryz.ntmps28
    go_upto_region 1 with fail
    rw [← HW1.out]
    go_wp2_with fail
    go_ret
    exact ⟨by rw [HR.out]; rfl, HX.out.1⟩
end Go.Proofs.YtebiojmfieoncaaGreat
