/- The walk of TacitShape: it returns true. Condition: sizes within reach. -/
import Derived.Test.YtebiojmfieoncaaGreatTeQt
import Derived.Test.YtebiojmfieoncaaGreatTeQu
import Derived.Test.YtebiojmfieoncaaGreatTeQr
import Derived.Test.YtebiojmfieoncaaGreatTeNS
namespace Go.Proofs.YtebiojmfieoncaaGreat
open Go.RowKit

theorem may_ok {u : Tm} (h : TrOk u) (hg : greatT u = false) : mayT u 3 = 0 := by
  unfold mayT
  rw [if_neg (by omega), if_neg (by rw [hg]; decide), if_neg (by rw [h.1]; decide), if_neg (by rw [h.2.1]; decide)]
theorem size_ok {u : Tm} (hg : greatT u = false) : sizeT u = (cnt u, dep u) := by unfold sizeT; rw [if_neg (by rw [hg]; decide)]
theorem ofT_wf2 {t : Tm} (h : WfT t) : WfT (ofT t).1 := by
  unfold ofT
  by_cases h1 : mayT t 3 ≠ 0
  · rw [if_pos h1]; exact nil_wf
  · rw [if_neg h1]
    by_cases h2 : 2048 < (sizeT t).1
    · rw [if_pos h2]; exact nil_wf
    · rw [if_neg h2]
      by_cases h3 : plainT t = false
      · rw [if_pos h3]; exact nil_wf
      · rw [if_neg h3]
        by_cases h4 : greatT (trn (cnt t) (nounT t)) = true
        · show WfT (if _ then _ else _); rw [if_pos h4]; exact nil_wf
        · show WfT (if _ then _ else _); rw [if_neg h4]; exact (tr_wf (cnt t)).1 _ (by unfold nounT; exact nth_wf (nth_wf (nth_wf h 0) 0) 0)
set_option maxRecDepth 100000 in
set_option maxHeartbeats 32000000 in
theorem tacitShape_any (t : Tm) (A : Option Addr) (ca : Nat) (B : Option Addr) (cb : Nat) (K : Option Addr) (ck : Nat) (w : World) (hat : TmAt w t A B K) (hwf : WfT t) :
    Calls Tryz.prog 8 #[tmVal t A ca B cb K ck] w fun e w' => e = .returned (.bool true) ∧ Below w.heap.size w w' := by
  obtain ⟨W1, hW1⟩ : ∃ W1, W1 = w.alloc (.cells (tmCells t A ca B cb K ck) TTm) := ⟨_, rfl⟩
  have hb1 : Below w.heap.size w W1 := by rw [hW1]; exact (Below.refl _ _).alloc (Nat.le_refl _) _
  have hx1 : W1.heap[w.heap.size]? = some (.cells (tmCells t A ca B cb K ck) TTm (0, 0)) := by rw [hW1]; exact heap_alloc_new w _
  have HX : Hid (∀ W, Below W1.heap.size W1 W → W.heap[w.heap.size]? = some (.cells (tmCells t A ca B cb K ck) TTm (0, 0))) := Lib.hid fun W h => (h.block _ (heap_lt hx1)).trans hx1
  have HAT : Hid (∀ W, Below W1.heap.size W1 W → TmAt W t A B K) := Lib.hid fun W h => hat.on (hb1.then_ h)
  have HWF := Lib.hid hwf
  have HB1 := Lib.hid hb1
  have HW1 := Lib.hid hW1
  clear hat hwf hb1 hx1 hW1
  go_enter Tryz.func8, Tryz.ntmps8
  go_upto_region 1 with fail
  rw [← HW1.out]
  go_wp2_with fail
  refine (begun24_any W1).mono ?_
  rintro e w2 ⟨rfl, hb2⟩
  have HB2 := Lib.hid hb2
  have HSM := Lib.hid (small_any t A ca B cb K ck w2 (HAT.out w2 hb2) HWF.out)
  clear hb2
  have hx := HX.out w2 HB2.out
  have k0 : w2.cell? ⟨w.heap.size, 0, none⟩ = some (.int .i64 t.kind) := cell_at hx rfl
  have k1 : w2.cell? ⟨w.heap.size, 1, none⟩ = some (.string t.text) := cell_at hx rfl
  have k2 : w2.cell? ⟨w.heap.size, 2, none⟩ = some (.int .i64 t.n) := cell_at hx rfl
  have k3 : w2.cell? ⟨w.heap.size, 3, none⟩ = some (.slice A t.sh.length ca) := cell_at hx rfl
  have k4 : w2.cell? ⟨w.heap.size, 4, none⟩ = some (.slice B t.at_.length cb) := cell_at hx rfl
  have k5 : w2.cell? ⟨w.heap.size, 5, none⟩ = some (.slice K t.kids.length ck) := cell_at hx rfl
  have kl := heap_lt hx
  clear hx
  unfold tmVal at HSM
  go_wp2_with fail
  refine HSM.out.mono ?_
  rintro e w3 ⟨⟨b, rfl⟩, hb3⟩
  have HB3 := Lib.hid (HB2.out.then_ hb3)
  clear hb3 HSM
  clear k0 k1 k2 k3 k4 k5 kl
  cases b
  · go_wp2_with fail
    go_ret
    exact ⟨rfl, HB1.out.then_ HB3.out⟩
  have hx := HX.out w3 HB3.out
  have k0 : w3.cell? ⟨w.heap.size, 0, none⟩ = some (.int .i64 t.kind) := cell_at hx rfl
  have k1 : w3.cell? ⟨w.heap.size, 1, none⟩ = some (.string t.text) := cell_at hx rfl
  have k2 : w3.cell? ⟨w.heap.size, 2, none⟩ = some (.int .i64 t.n) := cell_at hx rfl
  have k3 : w3.cell? ⟨w.heap.size, 3, none⟩ = some (.slice A t.sh.length ca) := cell_at hx rfl
  have k4 : w3.cell? ⟨w.heap.size, 4, none⟩ = some (.slice B t.at_.length cb) := cell_at hx rfl
  have k5 : w3.cell? ⟨w.heap.size, 5, none⟩ = some (.slice K t.kids.length ck) := cell_at hx rfl
  have kl := heap_lt hx
  clear hx
  obtain ⟨u, hu⟩ : ∃ u, u = (ofT t).1 := ⟨_, rfl⟩
  obtain ⟨E, hE⟩ : ∃ E, E = (ofT t).2 := ⟨_, rfl⟩
  have HOE : Hid (ofT t = (u, E)) := Lib.hid (by rw [hu, hE])
  have HUW : Hid (WfT u) := Lib.hid (by rw [hu]; exact ofT_wf2 HWF.out)
  have HOF := Lib.hid (tof24_any t A ca B cb K ck w3 (HAT.out w3 HB3.out) HWF.out)
  clear hu hE
  unfold tmVal at HOF
  go_wp2_with fail
  refine HOF.out.mono ?_
  intro e w4 hof
  obtain ⟨r, rfl, ho, _, hb4⟩ := hof.get HOE.out
  obtain ⟨hru, f1, f2, f3⟩ := ho.read
  have hval : rtVal u r = tmVal u r.s.p r.s.c r.a.p r.a.c r.k.p r.k.c := by unfold rtVal; rw [f1, f2, f3]
  rw [hval]
  go_upto_region 6 with fail
  obtain ⟨W5, hW5⟩ : ∃ W, W = w4.alloc (.cells (tmCells u r.s.p r.s.c r.a.p r.a.c r.k.p r.k.c) TTm) := ⟨_, rfl⟩
  have hb5 : Below w4.heap.size w4 W5 := by rw [hW5]; exact (Below.refl _ _).alloc (Nat.le_refl _) _
  have hu5 : W5.heap[w4.heap.size]? = some (.cells (tmCells u r.s.p r.s.c r.a.p r.a.c r.k.p r.k.c) TTm (0, 0)) := by rw [hW5]; exact heap_alloc_new _ _
  obtain ⟨g3, hg3⟩ : ∃ g, g = w4.heap.size := ⟨_, rfl⟩
  rw [← hW5, ← hg3]
  rw [← hg3] at hu5
  have HB5 := Lib.hid (HB3.out.then_ (hb4.then_ hb5))
  have HU : Hid (∀ W, Below W5.heap.size W5 W → W.heap[g3]? = some (.cells (tmCells u r.s.p r.s.c r.a.p r.a.c r.k.p r.k.c) TTm (0, 0))) := Lib.hid fun W h => (h.block _ (heap_lt hu5)).trans hu5
  have HUT : Hid (∀ W, Below W5.heap.size W5 W → TmAt W u r.s.p r.a.p r.k.p) := Lib.hid fun W h => hru.on (hb5.then_ h)
  clear hof ho hru f1 f2 f3 hval hW5 hb4 hb5 hu5 hg3 HOF
  clear k0 k1 k2 k3 k4 k5 kl
  by_cases hE0 : E = 0
  · have hofE : (ofT t).2 = 0 := by rw [HOE.out]; exact hE0
    obtain ⟨hok, hgt, hgu, hc, hd⟩ := of_shape hofE
    rw [show (ofT t).1 = u by rw [HOE.out]] at hok hgu hc hd
    obtain ⟨a, ha⟩ : ∃ a, a = cnt t := ⟨_, rfl⟩
    obtain ⟨b, hb⟩ : ∃ b, b = dep t := ⟨_, rfl⟩
    obtain ⟨c, hc2⟩ : ∃ c, c = cnt u := ⟨_, rfl⟩
    obtain ⟨d, hd2⟩ : ∃ d, d = dep u := ⟨_, rfl⟩
    have hlim : a ≤ 4096 := by
      unfold greatT at hgt
      rw [decide_eq_false_iff_not] at hgt
      omega
    have HST : Hid (∀ W, Below W1.heap.size W1 W → Calls Tryz.prog 38 #[tmVal t A ca B cb K ck] W fun e w' => e = .returned (.tuple #[.int .i64 (a : Int), .int .i64 (b : Int)]) ∧ Below W.heap.size W w') := Lib.hid fun W h => by
      have h := size_any t A ca B cb K ck W (HAT.out W h) HWF.out
      rw [size_ok hgt] at h
      rw [ha, hb]
      exact h
    have HSU : Hid (∀ W, Below W5.heap.size W5 W → Calls Tryz.prog 38 #[tmVal u r.s.p r.s.c r.a.p r.a.c r.k.p r.k.c] W fun e w' => e = .returned (.tuple #[.int .i64 (c : Int), .int .i64 (d : Int)]) ∧ Below W.heap.size W w') := Lib.hid fun W h => by
      have h := size_any u r.s.p r.s.c r.a.p r.a.c r.k.p r.k.c W (HUT.out W h) HUW.out
      rw [size_ok hgu] at h
      rw [hc2, hd2]
      exact h
    have HPL : Hid (∀ W, Below W5.heap.size W5 W → Calls Tryz.prog 39 #[tmVal u r.s.p r.s.c r.a.p r.a.c r.k.p r.k.c] W fun e w' => e = .returned (.bool true) ∧ Below W.heap.size W w') := Lib.hid fun W h => by
      have h := plain24_any (cnt u) u r.s.p r.s.c r.a.p r.a.c r.k.p r.k.c W (Nat.le_refl _) (HUT.out W h) HUW.out
      rw [hok.2.2] at h
      exact h
    have HMY : Hid (∀ W, Below W5.heap.size W5 W → Calls Tryz.prog 31 #[tmVal u r.s.p r.s.c r.a.p r.a.c r.k.p r.k.c, .int .i64 3] W fun e w' => e = .returned (.int .i64 0) ∧ Below W.heap.size W w') := Lib.hid fun W h => by
      have h := may_any u r.s.p r.s.c r.a.p r.a.c r.k.p r.k.c 3 W (HUT.out W h) HUW.out
      rw [may_ok hok hgu] at h
      exact h
    have wr1 : IntKind.i64.wrap (2 * (a : Int)) = 2 * (a : Int) := by rw [IntKind.wrap_i64]; omega
    have q1 : (c : Int) ≤ 2 * (a : Int) := by omega
    have q2 : (d : Int) ≤ (b : Int) := by omega
    subst hE0
    clear hofE hok hgt hgu hc hd ha hb hc2 hd2 hlim
    have hx := HX.out W5 HB5.out
    have k0 : W5.cell? ⟨w.heap.size, 0, none⟩ = some (.int .i64 t.kind) := cell_at hx rfl
    have k1 : W5.cell? ⟨w.heap.size, 1, none⟩ = some (.string t.text) := cell_at hx rfl
    have k2 : W5.cell? ⟨w.heap.size, 2, none⟩ = some (.int .i64 t.n) := cell_at hx rfl
    have k3 : W5.cell? ⟨w.heap.size, 3, none⟩ = some (.slice A t.sh.length ca) := cell_at hx rfl
    have k4 : W5.cell? ⟨w.heap.size, 4, none⟩ = some (.slice B t.at_.length cb) := cell_at hx rfl
    have k5 : W5.cell? ⟨w.heap.size, 5, none⟩ = some (.slice K t.kids.length ck) := cell_at hx rfl
    have kl := heap_lt hx
    clear hx
    have HL1 := Lib.hid (HST.out W5 HB5.out)
    unfold tmVal at HL1
    go_wp2_with fail
    refine HL1.out.mono ?_
    rintro e w6 ⟨rfl, hb6⟩
    have HB6 := Lib.hid hb6
    have HL2 := Lib.hid (HSU.out w6 hb6)
    clear hb6 HL1
    clear k0 k1 k2 k3 k4 k5 kl
    have hu := HU.out w6 HB6.out
    have u0 := cell_at hu (j := 0) rfl
    have u1 := cell_at hu (j := 1) rfl
    have u2 := cell_at hu (j := 2) rfl
    have u3 := cell_at hu (j := 3) rfl
    have u4 := cell_at hu (j := 4) rfl
    have u5 := cell_at hu (j := 5) rfl
    have ul := heap_lt hu
    clear hu
    unfold tmVal at HL2
    go_wp2_with fail
    refine HL2.out.mono ?_
    rintro e w7 ⟨rfl, hb7⟩
    have HB7 := Lib.hid (HB6.out.then_ hb7)
    have HL3 := Lib.hid (HPL.out w7 HB7.out)
    clear hb7 HL2
    clear u0 u1 u2 u3 u4 u5 ul
    have hu := HU.out w7 HB7.out
    have u0 := cell_at hu (j := 0) rfl
    have u1 := cell_at hu (j := 1) rfl
    have u2 := cell_at hu (j := 2) rfl
    have u3 := cell_at hu (j := 3) rfl
    have u4 := cell_at hu (j := 4) rfl
    have u5 := cell_at hu (j := 5) rfl
    have ul := heap_lt hu
    clear hu
    unfold tmVal at HL3
    go_wp2_with fail
    refine HL3.out.mono ?_
    rintro e w8 ⟨rfl, hb8⟩
    have HB8 := Lib.hid (HB7.out.then_ hb8)
    have HL4 := Lib.hid (HMY.out w8 HB8.out)
    clear hb8 HL3
    clear u0 u1 u2 u3 u4 u5 ul
    have hu := HU.out w8 HB8.out
    have u0 := cell_at hu (j := 0) rfl
    have u1 := cell_at hu (j := 1) rfl
    have u2 := cell_at hu (j := 2) rfl
    have u3 := cell_at hu (j := 3) rfl
    have u4 := cell_at hu (j := 4) rfl
    have u5 := cell_at hu (j := 5) rfl
    have ul := heap_lt hu
    clear hu
    unfold tmVal at HL4
    go_wp2_with fail
    refine HL4.out.mono ?_
    rintro e w9 ⟨rfl, hb9⟩
    have HB9 := Lib.hid (HB8.out.then_ hb9)
    clear hb9 HL4
    go_wp2_with fail
    go_ret
    exact ⟨rfl, HB1.out.then_ (HB5.out.then_ HB9.out)⟩
  · have hun : u = tNil := by
      have h := of_else (t := t) (by rw [HOE.out]; exact hE0)
      rw [HOE.out] at h
      exact h
    have d1 : (E != 0) = true := by simpa using hE0
    have hu := HU.out W5 (Below.refl _ _)
    rw [hun] at hu
    have u0 : W5.cell? ⟨g3, 0, none⟩ = some (.int .i64 0) := cell_at hu rfl
    have u5 : W5.cell? ⟨g3, 5, none⟩ = some (.slice r.k.p 0 r.k.c) := cell_at hu rfl
    have ul := heap_lt hu
    clear hu hun hE0 HU HUT HUW HOE
    go_wp2_with fail
    go_ret
    exact ⟨rfl, HB1.out.then_ HB5.out⟩
end Go.Proofs.YtebiojmfieoncaaGreat
