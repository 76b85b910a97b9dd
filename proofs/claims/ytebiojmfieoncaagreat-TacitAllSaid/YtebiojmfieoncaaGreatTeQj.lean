/- tacit.valences at VPow and VAgenda, and at all kinds. Condition: sizes within reach. -/
import Derived.Test.YtebiojmfieoncaaGreatTeQ4
import Derived.Test.YtebiojmfieoncaaGreatTeQ5
import Derived.Laws.CopyOwn
import Derived.Laws.OwnMore
import Derived.Deep.RegionLaw
namespace Go.Proofs.YtebiojmfieoncaaGreat
open Go.RowKit

set_option maxRecDepth 100000 in
theorem neg_any (z : Int) (w : World) : Calls Tryz.prog 175 #[.int .i64 z] w fun e w' => e = .returned (.bool (decide (z < 0))) ∧ Below w.heap.size w w' := by
  by_cases h : z < 0
  · have HR : Hid (decide (z < 0) = true) := Lib.hid (decide_eq_true h)
    go_enter Tryz.func175, Tryz.ntmps175
    go_wp2_with fail
    go_ret
    exact ⟨by rw [HR.out]; first | rfl | simp [h], Below.refl _ _⟩
  · have HR : Hid (decide (z < 0) = false) := Lib.hid (decide_eq_false h)
    go_enter Tryz.func175, Tryz.ntmps175
    go_wp2_with fail
    go_ret
    exact ⟨by rw [HR.out]; first | rfl | simp [h], Below.refl _ _⟩
set_option maxRecDepth 100000 in
set_option maxHeartbeats 4000000 in
theorem index_any (l : List Int) (A : Option Addr) (n ca : Nat) (w : World) (hl : IntsAt w A l) (hn : n = l.length) (hn2 : n ≤ 140737488351232) :
    Calls Tryz.prog 198 #[.slice A n ca, .func (.func 175) #[] #[]] w fun e w' => (∃ r : Int, e = .returned (.int .i64 r) ∧ (0 ≤ r ↔ (l.all fun z => decide (0 ≤ z)) = false) ∧ -1 ≤ r ∧ r ≤ 140737488351232) ∧ Below w.heap.size w w' := by
  have HAT := Lib.hid hl
  have HN := Lib.hid hn
  clear hl hn
  go_enter Tryz.func198, Tryz.ntmps198
  go_wp2_with fail
  go_loopw [8] (fun v W => ∃ i : Nat, i ≤ n ∧ v = .int .i64 i ∧ Hid (∀ j z, j < i → l[j]? = some z → 0 ≤ z) ∧ Hid (Below w.heap.size w W)) (fun v _ => n - (intOf v).toNat)
  case atStart => exact ⟨0, Nat.zero_le _, rfl, Lib.hid fun j z h => absurd h (Nat.not_lt_zero _), Lib.hid (Below.refl _ _)⟩
  case round =>
    obtain ⟨i, hi, rfl, HJ, HI⟩ := hrel
    by_cases hlt : i < n
    · obtain ⟨z, hz⟩ : ∃ z, l[i]? = some z := ⟨_, List.getElem?_eq_getElem (by rw [← HN.out]; exact hlt)⟩
      obtain ⟨g, off, rfl, gl, kc⟩ := (HAT.out.on HI.out) i z hz
      have q1 : (0 : Int) ≤ (i : Int) := by omega
      have q2 : (i : Int) < (n : Int) := by omega
      have HZ := Lib.hid hz
      clear hz
      go_wp2_with fail
      refine (neg_any z wr).mono ?_
      rintro e w2 ⟨rfl, hb2⟩
      have HB2 := Lib.hid (HI.out.then_ hb2)
      clear hb2
      by_cases h0 : z < 0
      · have d0 : decide (z < 0) = true := decide_eq_true h0
        have HR : Hid ((l.all fun z => decide (0 ≤ z)) = false) := Lib.hid (by
          refine Bool.eq_false_iff.2 fun h => ?_
          have h1 := List.all_eq_true.1 h z (List.mem_of_getElem? HZ.out)
          simp only [decide_eq_true_eq] at h1
          omega)
        rw [d0]
        go_wp2_with fail
        go_ret
        exact ⟨⟨i, rfl, ⟨fun _ => HR.out, fun _ => by omega⟩, by omega, by omega⟩, HB2.out⟩
      · have d0 : decide (z < 0) = false := decide_eq_false h0
        have HJ2 : Hid (∀ j y, j < i + 1 → l[j]? = some y → 0 ≤ y) := Lib.hid fun j y hj hy => by
          by_cases e : j = i
          · subst e
            rw [HZ.out] at hy
            injection hy with hy
            omega
          · exact HJ.out j y (by omega) hy
        rw [d0]
        go_wp2_with fail
        exact ⟨⟨i + 1, by omega, by go_num, HJ2, HB2⟩, by simp [intOf]; omega⟩
    · obtain rfl : i = n := by omega
      have HR : Hid ((l.all fun z => decide (0 ≤ z)) = true) := Lib.hid (by
        rw [List.all_eq_true]
        intro z hz
        obtain ⟨j, hj⟩ := List.getElem?_of_mem hz
        exact decide_eq_true (HJ.out j z (by rw [HN.out]; exact (List.getElem?_eq_some_iff.1 hj).1) hj))
      clear hlt
      go_wp2_with fail
      go_ret
      exact ⟨⟨-1, rfl, ⟨fun h => by omega, fun h => by rw [HR.out] at h; cases h⟩, by omega, by omega⟩, HI.out⟩
set_option maxRecDepth 100000 in
theorem contains_any (l : List Int) (A : Option Addr) (n ca : Nat) (w : World) (hl : IntsAt w A l) (hn : n = l.length) (hn2 : n ≤ 140737488351232) :
    Calls Tryz.prog 174 #[.slice A n ca, .func (.func 175) #[] #[]] w fun e w' => e = .returned (.bool (!(l.all fun z => decide (0 ≤ z)))) ∧ Below w.heap.size w w' := by
  have HX := Lib.hid (index_any l A n ca w hl hn hn2)
  clear hl hn hn2
  go_enter Tryz.func174, Tryz.ntmps174
  go_wp2_with fail
  refine HX.out.mono ?_
  rintro e w2 ⟨⟨r, rfl, hr, h1, h2⟩, hb2⟩
  have HB2 := Lib.hid hb2
  clear hb2
  by_cases h0 : 0 ≤ r
  · have HR := Lib.hid (hr.1 h0)
    clear hr
    go_wp2_with fail
    go_ret
    exact ⟨by rw [HR.out]; first | rfl | simp [h0], HB2.out⟩
  · have HR : Hid ((l.all fun z => decide (0 ≤ z)) = true) := Lib.hid (by
      cases h : (l.all fun z => decide (0 ≤ z)) with
      | true => rfl
      | false => exact absurd (hr.2 h) h0)
    clear hr
    go_wp2_with fail
    go_ret
    exact ⟨by rw [HR.out]; first | rfl | simp [h0], HB2.out⟩
set_option maxRecDepth 100000 in
set_option maxHeartbeats 8000000 in
theorem val_41 (t : Tm) (A : Option Addr) (ca : Nat) (B : Option Addr) (cb : Nat) (K : Option Addr) (ck : Nat) (v : Int) (b : Bool) (w : World) (hat : TmAt w t A B K) (hwf : WfT t) (hg : goodT b t = true) (hv : v = 1 ∨ v = 2) (hk : t.kind = 41) :
    Calls Tryz.prog 151 #[tmVal t A ca B cb K ck, .int .i64 v] w fun e w' => ValPost t v w e w' := by
  obtain ⟨x, y, hks, _, _⟩ := two_kids hg (c := 118) (d := 111) (by rw [hk]; decide) (by omega) (by omega) (by omega)
  obtain ⟨W1, hW1⟩ : ∃ W1, W1 = (w.alloc (.cells (tmCells t A ca B cb K ck) TTm)).alloc (.cells #[.int .i64 v] 3) := ⟨_, rfl⟩
  have hb1 : Below w.heap.size w W1 := by rw [hW1]; exact ((Below.refl _ _).alloc (Nat.le_refl _) _).alloc (by simp) _
  have hx1 : W1.heap[w.heap.size]? = some (.cells (tmCells t A ca B cb K ck) TTm (0, 0)) := by rw [hW1]; exact (Below.heap_alloc _ _ _ (by simp)).trans (heap_alloc_new w _)
  have hv1 : W1.heap[w.heap.size + 1]? = some (.cells #[.int .i64 v] 3 (0, 0)) := by rw [hW1]; exact heap_new2 _ _ _
  have HW1 := Lib.hid hW1
  have H1 := Lib.hid (And.intro hb1 hv1)
  have HV := Lib.hid hv
  have k0 : W1.cell? ⟨w.heap.size, 0, none⟩ = some (.int .i64 t.kind) := cell_at hx1 rfl
  have kl := heap_lt hx1
  have cv := cell_at hv1 (j := 0) rfl
  have cl := heap_lt hv1
  have H5 : Hid (W1.cell? ⟨w.heap.size, 5, none⟩ = some (.slice K t.kids.length ck)) := Lib.hid (cell_at hx1 rfl)
  clear hW1 hb1 hx1 hv1
  have kk25 : (t.kind == 25) = false := by rw [hk]; rfl
  have kk26 : (t.kind == 26) = false := by rw [hk]; rfl
  have kk27 : (t.kind == 27) = false := by rw [hk]; rfl
  have kk28 : (t.kind == 28) = false := by rw [hk]; rfl
  have kk29 : (t.kind == 29) = false := by rw [hk]; rfl
  have kk46 : (t.kind == 46) = false := by rw [hk]; rfl
  have kk30 : (t.kind == 30) = false := by rw [hk]; rfl
  have kk31 : (t.kind == 31) = false := by rw [hk]; rfl
  have kk32 : (t.kind == 32) = false := by rw [hk]; rfl
  have kk33 : (t.kind == 33) = false := by rw [hk]; rfl
  have kk36 : (t.kind == 36) = false := by rw [hk]; rfl
  have kk42 : (t.kind == 42) = false := by rw [hk]; rfl
  have kk34 : (t.kind == 34) = false := by rw [hk]; rfl
  have kk35 : (t.kind == 35) = false := by rw [hk]; rfl
  have kk37 : (t.kind == 37) = false := by rw [hk]; rfl
  have kk38 : (t.kind == 38) = false := by rw [hk]; rfl
  have kk41 : (t.kind == 41) = true := by rw [hk]; rfl
  rcases hv with rfl | rfl
  · obtain ⟨gy, oy, hKy, py⟩ := hat.kids.get (i := 1) (t := y) (by rw [hks]; rfl)
    rw [show oy + (0 + 1) * 6 = oy + 6 from rfl] at py
    obtain ⟨Ay, cay, By, cby, Ky, cky, yl, y0, y1, y2, y3, y4, y5, haty⟩ := py.cellsOn H1.out.1
    have hk5 : W1.cell? ⟨w.heap.size, 5, none⟩ = some (.slice (some ⟨gy, oy, none⟩) 2 ck) := by
      have h := H5.out
      rw [hKy, show t.kids.length = 2 by rw [hks]; rfl] at h
      exact h
    have hny : nth t.kids 1 = y := by rw [hks]; rfl
    have HRV : Hid (valT t 1 = if decide (y.kind = 1) && noneBelow y then [1] else []) := Lib.hid (by unfold valT; rw [if_neg (by omega)]; rw [if_neg (by omega)]; rw [if_neg (by omega)]; rw [if_neg (by omega)]; rw [if_neg (by omega)]; rw [if_neg (by omega)]; rw [if_neg (by omega)]; rw [if_neg (by omega)]; rw [if_neg (by omega)]; rw [if_neg (by omega)]; rw [if_pos (by omega)]; rw [if_neg (by decide), hny])
    obtain ⟨ny, hny2⟩ : ∃ n, n = y.at_.length := ⟨_, rfl⟩
    have hny3 : ny ≤ 140737488351232 := by rw [hny2]; exact (hwf.node.each y (by rw [hks]; simp)).node.at_
    obtain ⟨W2, hW2⟩ : ∃ W2, W2 = W1.alloc (.cells (tmCells y Ay cay By cby Ky cky) TTm) := ⟨_, rfl⟩
    have hb2 : Below W1.heap.size W1 W2 := by rw [hW2]; exact (Below.refl _ _).alloc (Nat.le_refl _) _
    have hx2 : W2.heap[W1.heap.size]? = some (.cells (tmCells y Ay cay By cby Ky cky) TTm (0, 0)) := by rw [hW2]; exact heap_alloc_new _ _
    have HB2 := Lib.hid (H1.out.1.then_ hb2)
    have HC := Lib.hid (contains_any y.at_ By ny cby W2 (haty.at_.on (H1.out.1.then_ hb2)) hny2 hny3)
    have m0 := cell_at hx2 (j := 0) rfl
    have m4 : W2.cell? ⟨W1.heap.size, 4, none⟩ = some (.slice By ny cby) := by rw [hny2]; exact cell_at hx2 rfl
    have ml := heap_lt hx2
    have HW2 := Lib.hid hW2
    have cv2 : W2.cell? ⟨w.heap.size + 1, 0, none⟩ = some (.int .i64 1) := (hb2.cell (p := ⟨w.heap.size + 1, 0, none⟩) cl).trans cv
    have cl2 : w.heap.size + 1 < W2.heap.size := Nat.lt_of_lt_of_le cl hb2.size
    by_cases hy1 : y.kind = 1
    · have d1 : (y.kind == 1) = true := by rw [hy1]; rfl
      have HD1 : Hid (decide (y.kind = 1) = true) := Lib.hid (decide_eq_true hy1)
      clear hat hwf hg hks hKy py haty hny hb2 hx2 hW2 hny2 hny3 hk H5 hy1
      go_enter Tryz.func151, Tryz.ntmps151
      go_upto_region 1 with fail
      rw [← HW1.out]
      go_upto_region 37 with fail
      rw [← HW2.out]
      go_wp2_with fail
      refine HC.out.mono ?_
      rintro e w3 ⟨rfl, hb3⟩
      have HB3 := Lib.hid (HB2.out.then_ hb3)
      clear hb3
      cases hnb : noneBelow y with
      | true =>
        have HR : Hid (valT t 1 = [1]) := Lib.hid (by rw [HRV.out, HD1.out, hnb]; rfl)
        have hnb2 : (y.at_.all fun z => decide (0 ≤ z)) = true := hnb
        rw [hnb2]
        clear hnb hnb2
        go_wp2_with fail
        go_ret
        unfold ValPost
        refine ⟨⟨some ⟨w3.heap.size, 0, none⟩, 1, by rw [HR.out]; rfl, ?_⟩, (HB3.out).alloc (HB3.out).size _⟩
        rw [HR.out]
        exact ints_new w3 [1] TIn
      | false =>
        have HR : Hid (valT t 1 = []) := Lib.hid (by rw [HRV.out, HD1.out, hnb]; rfl)
        have hnb2 : (y.at_.all fun z => decide (0 ≤ z)) = false := hnb
        rw [hnb2]
        clear hnb hnb2
        go_wp2_with fail
        go_ret
        unfold ValPost
        refine ⟨⟨none, 0, by rw [HR.out]; rfl, ?_⟩, HB3.out⟩
        rw [HR.out]
        exact ints_nil _ _
    · have d1 : (y.kind == 1) = false := beq_no hy1
      have HR : Hid (valT t 1 = []) := Lib.hid (by rw [HRV.out, decide_eq_false hy1]; rfl)
      clear hat hwf hg hks hKy py haty hny hb2 hx2 hW2 hny2 hny3 hk H5 hy1 HC
      go_enter Tryz.func151, Tryz.ntmps151
      go_upto_region 1 with fail
      rw [← HW1.out]
      go_upto_region 37 with fail
      rw [← HW2.out]
      go_wp2_with fail
      go_ret
      unfold ValPost
      refine ⟨⟨none, 0, by rw [HR.out]; rfl, ?_⟩, HB2.out⟩
      rw [HR.out]
      exact ints_nil _ _
  · have HR : Hid (valT t 2 = [2]) := Lib.hid (by unfold valT; rw [if_neg (by omega)]; rw [if_neg (by omega)]; rw [if_neg (by omega)]; rw [if_neg (by omega)]; rw [if_neg (by omega)]; rw [if_neg (by omega)]; rw [if_neg (by omega)]; rw [if_neg (by omega)]; rw [if_neg (by omega)]; rw [if_neg (by omega)]; rw [if_pos (by omega)]; rw [if_pos rfl])
    clear hk hat hwf hg hks H5
    go_enter Tryz.func151, Tryz.ntmps151
    go_upto_region 1 with fail
    rw [← HW1.out]
    go_wp2_with fail
    go_ret
    unfold ValPost
    refine ⟨⟨some ⟨W1.heap.size, 0, none⟩, 1, by rw [HR.out]; rfl, ?_⟩, (H1.out.1).alloc (H1.out.1).size _⟩
    rw [HR.out]
    exact ints_new W1 [2] TIn
set_option maxRecDepth 100000 in
set_option maxHeartbeats 16000000 in
theorem mul64_any (n : Nat) (hn : 2 ≤ n ∧ n ≤ 17) (w : World) : Calls Tryz.prog 221 #[.int .u64 1, .int .u64 (n : Int)] w fun e w' => e = .returned (.tuple #[.int .u64 0, .int .u64 (n : Int)]) ∧ Below w.heap.size w w' := by
  have h : n = 2 ∨ n = 3 ∨ n = 4 ∨ n = 5 ∨ n = 6 ∨ n = 7 ∨ n = 8 ∨ n = 9 ∨ n = 10 ∨ n = 11 ∨ n = 12 ∨ n = 13 ∨ n = 14 ∨ n = 15 ∨ n = 16 ∨ n = 17 := by omega
  clear hn
  rcases h with rfl | rfl | rfl | rfl | rfl | rfl | rfl | rfl | rfl | rfl | rfl | rfl | rfl | rfl | rfl | rfl
  all_goals
    go_enter Tryz.func221, Tryz.ntmps221
    go_wp2_with fail
    go_ret2
    exact ⟨rfl, Below.refl _ _⟩
set_option maxRecDepth 100000 in
set_option maxHeartbeats 4000000 in
theorem mul_any (n : Nat) (hn : 2 ≤ n ∧ n ≤ 17) (w : World) : Calls Tryz.prog 199 #[.int .u64 1, .int .u64 (n : Int)] w fun e w' => e = .returned (.tuple #[.int .u64 0, .int .u64 (n : Int)]) ∧ Below w.heap.size w w' := by
  have HM := Lib.hid (mul64_any n hn w)
  have h1 : (0 : Int) ≤ (n : Int) ∧ (n : Int) ≤ 17 := by omega
  obtain ⟨h1, h2⟩ := h1
  have hc : IntKind.u64.wrap (n : Int) = n := by rw [IntKind.wrap_u64]; omega
  clear hn
  go_enter Tryz.func199, Tryz.ntmps199
  go_wp2_with fail
  refine HM.out.mono ?_
  rintro e w2 ⟨rfl, hb2⟩
  have HB2 := Lib.hid hb2
  clear hb2
  go_wp2_with fail
  go_ret2
  exact ⟨rfl, HB2.out⟩
theorem ints_row {W : World} {g : Nat} {l : List Int} (h : W.heap[g]? = some (.cells (intVals l).toArray TIn (0, 0))) : IntsAt W (some ⟨g, 0, none⟩) l := fun i x hx => ⟨g, 0, rfl, heap_lt h, by
  rw [Nat.zero_add]
  refine cell_at h ?_
  unfold intVals
  rw [List.getElem?_toArray, List.getElem?_map, hx]
  rfl⟩
theorem splice_rep (v : Int) (n k c : Nat) (hc : c = min (n - k) k) : splice (intVals (List.replicate k v ++ List.replicate (n - k) 0)) k (intVals (List.replicate c v)) = intVals (List.replicate (k + c) v ++ List.replicate (n - (k + c)) 0) := by
  unfold splice intVals
  simp only [List.map_append, List.map_replicate, List.length_replicate]
  rw [List.take_append_of_le_length (by simp), List.take_of_length_le (by simp), List.drop_append, List.length_replicate, List.drop_of_length_le (by simp), List.nil_append, List.drop_replicate, ← List.append_assoc, List.replicate_append_replicate]
  congr 2
  omega
set_option maxRecDepth 100000 in
set_option maxHeartbeats 16000000 in
theorem repeat_any (v : Int) (n cx g : Nat) (w : World) (hn : 2 ≤ n ∧ n ≤ 17) (hx : w.cell? ⟨g, 0, none⟩ = some (.int .i64 v)) :
    Calls Tryz.prog 176 #[.slice (some ⟨g, 0, none⟩) 1 cx, .int .i64 (n : Int)] w fun e w' => (∃ (P : Option Addr) (c : Nat), e = .returned (.slice P n c) ∧ IntsAt w' P (List.replicate n v)) ∧ Below w.heap.size w w' := by
  have HMU := Lib.hid (mul_any n hn)
  have HX := Lib.hid hx
  obtain ⟨n1, n2⟩ := hn
  have p0 : ¬ ((n : Int) < 0) := by omega
  have hc : IntKind.u64.wrap (n : Int) = n := by rw [IntKind.wrap_u64]; omega
  have hc2 : IntKind.i64.wrap (n : Int) = n := by rw [IntKind.wrap_i64]; omega
  have p1 : ¬ ((9223372036854775807 : Int) < (n : Int)) := by omega
  have hsz : (Tryz.prog.info? TIn).map (·.size) = some 1 := by kernel_rfl
  obtain ⟨j0, hj0, hz0, hz1, hz2⟩ := info_parts info_in
  clear hx
  go_enter Tryz.func176, Tryz.ntmps176
  go_wp2_with fail
  refine (HMU.out w).mono ?_
  rintro e w2 ⟨rfl, hb2⟩
  have HB2 := Lib.hid hb2
  clear hb2
  go_wp2_with (at_make; refine wpList_make_full _ rfl _ _ 24 rfl w2.heap.size TIn j0 (.int .i64 0) 1 Tryz.underlying24 hj0 hz0 hz1 .i64 .i64 (n : Int) (n : Int) n rfl rfl rfl rfl (by rw [hz2]; omega) (by unfold maxLen; omega) (Nat.le_refl _) ?_)
  intro W3 hown hg
  have hb3 : Below w2.heap.size w2 W3 := ⟨hg.os, hg.tape, hg.output, hg.size, fun k hk => hg.block k hk (by simp)⟩
  have HR3 : Hid (W3.heap[w2.heap.size]? = some (.cells (intVals (List.replicate 0 v ++ List.replicate (n - 0) 0)).toArray TIn (0, 0))) := Lib.hid (by
    rcases hown.2 with ⟨h0, _⟩ | ⟨g', cap, cur, hv, _, hb, _, _, hs, ht⟩
    · cases h0
    · simp only [Value.slice.injEq, Option.some.injEq, Addr.mk.injEq, and_true, true_and] at hv
      obtain ⟨rfl, rfl⟩ := hv
      have hl : cur.toList = intVals (List.replicate n 0) := by
        rw [toList_madeCells_one] at ht
        rw [List.take_of_length_le (by rw [Array.length_toList, hs]; exact Nat.le_refl _)] at ht
        rw [ht]
        unfold intVals
        rw [List.map_replicate]
      rw [hb, List.replicate_zero, List.nil_append, Nat.sub_zero, ← hl])
  have HB3 := Lib.hid (HB2.out.then_ hb3)
  have HS3 := Lib.hid HB2.out.size
  have HX3 : Hid (W3.cell? ⟨g, 0, none⟩ = some (.int .i64 v)) := Lib.hid ((HB3.out.cell (p := ⟨g, 0, none⟩) (cell_lt' HX.out)).trans HX.out)
  clear hown hg hb3 hj0 hz0 hz1 hz2
  have SRC1 : Hid (∀ j u, (intVals (List.replicate 1 v))[j]? = some u → W3.cell? ((⟨g, 0, none⟩ : Addr).add j) = some u) := Lib.hid fun j u hu => by
    have hj : j < 1 := (List.getElem?_eq_some_iff.1 hu).1
    have e : j = 0 := by omega
    subst e
    obtain rfl := Option.some.inj hu
    exact HX3.out
  have LEN1 : Hid ((intVals (List.replicate 1 v)).length = Nat.min 1 n) := Lib.hid (by
    show 1 = min 1 n
    omega)
  have FIT1 : Hid (0 + (intVals (List.replicate 1 v)).length ≤ (intVals (List.replicate 0 v ++ List.replicate (n - 0) 0)).length) := Lib.hid (by
    rw [intVals_len, intVals_len, List.length_append, List.length_replicate, List.length_replicate, List.length_replicate]
    omega)
  go_upto_region 7 with fail
  go_wp2_with (refine wpList_copy_splice rfl (.tmp 31) (.tmp 32) 24 24 rfl TIn Tryz.underlying24 hsz (some ⟨w2.heap.size, 0, none⟩) (some ⟨g, 0, none⟩) n n 1 cx rfl rfl w2.heap.size 0 (intVals (List.replicate 0 v ++ List.replicate (n - 0) 0)) TIn HR3.out (intVals (List.replicate 1 v)) LEN1.out (fun _ => ⟨rfl, ⟨g, 0, none⟩, rfl, SRC1.out⟩) FIT1.out (intVals_one _) w.heap.size w HB3.out HS3.out ?_)
  intro W4 h4 hb4
  have HR4 : Hid (W4.heap[w2.heap.size]? = some (.cells (intVals (List.replicate 1 v ++ List.replicate (n - 1) 0)).toArray TIn (0, 0))) := Lib.hid (by
    have e : splice (intVals (List.replicate 0 v ++ List.replicate (n - 0) 0)) 0 (intVals (List.replicate 1 v)) = intVals (List.replicate 1 v ++ List.replicate (n - 1) 0) := by
      obtain ⟨m, rfl⟩ : ∃ m, n = m + 1 := ⟨n - 1, by omega⟩
      rfl
    rw [← e]
    exact h4.out)
  have HB4 := Lib.hid hb4
  clear h4 hb4
  go_wp2_with fail
  go_loopw [8] (fun v8 W => ∃ k : Nat, 1 ≤ k ∧ k ≤ n ∧ v8 = .int .i64 k ∧ Hid (W.heap[w2.heap.size]? = some (.cells (intVals (List.replicate k v ++ List.replicate (n - k) 0)).toArray TIn (0, 0))) ∧ Hid (Below w.heap.size w W)) (fun v8 _ => n - (intOf v8).toNat)
  case atStart => exact ⟨1, Nat.le_refl _, by omega, by first | rfl | go_num, HR4, HB4⟩
  case round =>
    obtain ⟨k, hk1, hk, rfl, HR, HB⟩ := hrel
    by_cases hlt : k < n
    · have q1 : (0 : Int) ≤ (k : Int) := by omega
      have q2 : (k : Int) < (n : Int) := by omega
      have q3 : (k : Int) ≤ (n : Int) := by omega
      have HNK : Hid (¬ n = k) := Lib.hid (by omega)
      have LENK : Hid ((intVals (List.replicate (min (n - k) k) v)).length = Nat.min k (n - k)) := Lib.hid (by
        rw [intVals_len, List.length_replicate]
        show min (n - k) k = min k (n - k)
        omega)
      have FITK : Hid (k + (intVals (List.replicate (min (n - k) k) v)).length ≤ (intVals (List.replicate k v ++ List.replicate (n - k) 0)).length) := Lib.hid (by
        rw [intVals_len, intVals_len, List.length_append, List.length_replicate, List.length_replicate, List.length_replicate]
        omega)
      have SRCK : Hid (∀ j u, (intVals (List.replicate (min (n - k) k) v))[j]? = some u → wr.drew.cell? ((⟨w2.heap.size, 0, none⟩ : Addr).add j) = some u) := Lib.hid fun j u hu => by
        have hj : j < min (n - k) k := by have := (List.getElem?_eq_some_iff.1 hu).1; rwa [intVals_len, List.length_replicate] at this
        have e2 : (⟨w2.heap.size, 0, none⟩ : Addr).add j = ⟨w2.heap.size, j, none⟩ := by unfold Addr.add; split <;> simp_all
        rw [e2]
        refine cell_at (w := wr.drew) HR.out ?_
        unfold intVals at hu ⊢
        rw [List.getElem?_map, List.getElem?_replicate, if_pos hj] at hu
        rw [List.getElem?_toArray, List.getElem?_map, List.getElem?_append_left (by rw [List.length_replicate]; omega), List.getElem?_replicate, if_pos (by omega)]
        exact hu
      go_wp2_with fail
      go_upto_region 9 with fail
      go_region_law (refine step_copy_splice rfl (.tmp 41) (.tmp 44) 24 24 rfl TIn Tryz.underlying24 hsz (some ⟨w2.heap.size, k, none⟩) (some ⟨w2.heap.size, 0, none⟩) (n - k) (n - k) k n (by have hnk := HNK.out; simp [Act.eval, Act.put, hnk]) (by simp [Act.eval, Act.put]) w2.heap.size k (intVals (List.replicate k v ++ List.replicate (n - k) 0)) TIn HR.out (intVals (List.replicate (min (n - k) k) v)) LENK.out (fun _ => ⟨rfl, ⟨w2.heap.size, 0, none⟩, rfl, SRCK.out⟩) FITK.out (intVals_one _) w.heap.size w HB.out.drew HS3.out ?_; intro W5 h5 hb5)
      have e := splice_rep v n k (min (n - k) k) rfl
      have HR5 : Hid (W5.heap[w2.heap.size]? = some (.cells (intVals (List.replicate (k + min (n - k) k) v ++ List.replicate (n - (k + min (n - k) k)) 0)).toArray TIn (0, 0))) := Lib.hid (by rw [← e]; exact h5.out)
      have HB5 := Lib.hid hb5
      have HQ : Hid ((intVals (List.replicate (min (n - k) k) v)).length = min (n - k) k) := Lib.hid (by rw [intVals_len, List.length_replicate])
      clear h5 hb5 e
      go_wp2_with fail
      have hW : IntKind.i64.wrap ((k : Int) + ((intVals (List.replicate (min (n - k) k) v)).length : Int)) = ((k + min (n - k) k : Nat) : Int) := by
        rw [HQ.out, IntKind.wrap_i64]
        omega
      rw [hW]
      first | exact ⟨⟨k + min (n - k) k, by omega, by omega, rfl, HR5⟩, by simp [intOf]; omega⟩ | exact ⟨⟨k + min (n - k) k, by omega, by omega, rfl, HR5, HB5⟩, by simp [intOf]; omega⟩
    · obtain rfl : k = n := by omega
      clear hlt
      go_wp2_with fail
      go_ret
      refine ⟨⟨some ⟨w2.heap.size, 0, none⟩, k, rfl, ?_⟩, HB.out⟩
      have h := HR.out
      rw [Nat.sub_self, List.replicate_zero, List.append_nil] at h
      exact ints_row h
set_option maxRecDepth 100000 in
set_option maxHeartbeats 8000000 in
theorem val_43 (t : Tm) (A : Option Addr) (ca : Nat) (B : Option Addr) (cb : Nat) (K : Option Addr) (ck : Nat) (v : Int) (b : Bool) (w : World) (hg : goodT b t = true) (hk : t.kind = 43) :
    Calls Tryz.prog 151 #[tmVal t A ca B cb K ck, .int .i64 v] w fun e w' => ValPost t v w e w' := by
  have hkb := good_kids hg
  unfold kidsB at hkb
  rw [if_neg (by omega), if_neg (by omega), if_pos hk] at hkb
  simp only [Bool.and_eq_true, decide_eq_true_eq] at hkb
  obtain ⟨n, hn⟩ : ∃ n, n = t.kids.length := ⟨_, rfl⟩
  have hn17 : 2 ≤ n ∧ n ≤ 17 := by omega
  obtain ⟨W1, hW1⟩ : ∃ W1, W1 = (w.alloc (.cells (tmCells t A ca B cb K ck) TTm)).alloc (.cells #[.int .i64 v] 3) := ⟨_, rfl⟩
  have hb1 : Below w.heap.size w W1 := by rw [hW1]; exact ((Below.refl _ _).alloc (Nat.le_refl _) _).alloc (by simp) _
  have hx1 : W1.heap[w.heap.size]? = some (.cells (tmCells t A ca B cb K ck) TTm (0, 0)) := by rw [hW1]; exact (Below.heap_alloc _ _ _ (by simp)).trans (heap_alloc_new w _)
  have hv1 : W1.heap[w.heap.size + 1]? = some (.cells #[.int .i64 v] 3 (0, 0)) := by rw [hW1]; exact heap_new2 _ _ _
  have HW1 := Lib.hid hW1
  have H1 := Lib.hid (And.intro hb1 hv1)
  have k0 : W1.cell? ⟨w.heap.size, 0, none⟩ = some (.int .i64 t.kind) := cell_at hx1 rfl
  have kl := heap_lt hx1
  have cv := cell_at hv1 (j := 0) rfl
  have cl := heap_lt hv1
  have k5 : W1.cell? ⟨w.heap.size, 5, none⟩ = some (.slice K n ck) := by rw [hn]; exact cell_at hx1 rfl
  clear hW1 hb1 hx1 hv1
  have HR : Hid (valT t v = List.replicate n v) := Lib.hid (by rw [hn]; unfold valT; rw [if_neg (by omega)]; rw [if_neg (by omega)]; rw [if_neg (by omega)]; rw [if_neg (by omega)]; rw [if_neg (by omega)]; rw [if_neg (by omega)]; rw [if_neg (by omega)]; rw [if_neg (by omega)]; rw [if_neg (by omega)]; rw [if_neg (by omega)]; rw [if_neg (by omega)]; rw [if_neg (by omega)]; rw [if_neg (by omega)]; rw [if_pos (by omega)])
  obtain ⟨W2, hW2⟩ : ∃ W2, W2 = W1.alloc (.cells #[.int .i64 v] TIn) := ⟨_, rfl⟩
  have hb2 : Below W1.heap.size W1 W2 := by rw [hW2]; exact (Below.refl _ _).alloc (Nat.le_refl _) _
  have HREP := Lib.hid (repeat_any v n 1 W1.heap.size W2 hn17 (cell_at (by rw [hW2]; exact heap_alloc_new _ _) rfl))
  have HB2 := Lib.hid (H1.out.1.then_ hb2)
  have HW2 := Lib.hid hW2
  have kk25 : (t.kind == 25) = false := by rw [hk]; rfl
  have kk26 : (t.kind == 26) = false := by rw [hk]; rfl
  have kk27 : (t.kind == 27) = false := by rw [hk]; rfl
  have kk28 : (t.kind == 28) = false := by rw [hk]; rfl
  have kk29 : (t.kind == 29) = false := by rw [hk]; rfl
  have kk46 : (t.kind == 46) = false := by rw [hk]; rfl
  have kk30 : (t.kind == 30) = false := by rw [hk]; rfl
  have kk31 : (t.kind == 31) = false := by rw [hk]; rfl
  have kk32 : (t.kind == 32) = false := by rw [hk]; rfl
  have kk33 : (t.kind == 33) = false := by rw [hk]; rfl
  have kk36 : (t.kind == 36) = false := by rw [hk]; rfl
  have kk42 : (t.kind == 42) = false := by rw [hk]; rfl
  have kk34 : (t.kind == 34) = false := by rw [hk]; rfl
  have kk35 : (t.kind == 35) = false := by rw [hk]; rfl
  have kk37 : (t.kind == 37) = false := by rw [hk]; rfl
  have kk38 : (t.kind == 38) = false := by rw [hk]; rfl
  have kk41 : (t.kind == 41) = false := by rw [hk]; rfl
  have kk39 : (t.kind == 39) = false := by rw [hk]; rfl
  have kk40 : (t.kind == 40) = false := by rw [hk]; rfl
  have kk43 : (t.kind == 43) = true := by rw [hk]; rfl
  clear hk hg hkb hn hn17 hb2 hW2
  go_enter Tryz.func151, Tryz.ntmps151
  go_upto_region 1 with fail
  rw [← HW1.out]
  go_wp2_with fail
  rw [← HW2.out]
  refine HREP.out.mono ?_
  rintro e w3 ⟨⟨P, c, rfl, hi⟩, hb3⟩
  have H3 := Lib.hid (And.intro hi (HB2.out.then_ hb3))
  clear hi hb3
  go_wp2_with fail
  go_ret
  unfold ValPost
  refine ⟨⟨P, c, by rw [HR.out, List.length_replicate]; rfl, ?_⟩, H3.out.2⟩
  rw [HR.out]
  exact H3.out.1
theorem val_any (t : Tm) (A : Option Addr) (ca : Nat) (B : Option Addr) (cb : Nat) (K : Option Addr) (ck : Nat) (v : Int) (b : Bool) (w : World) (hat : TmAt w t A B K) (hwf : WfT t) (hg : goodT b t = true) (hv : v = 1 ∨ v = 2) :
    Calls Tryz.prog 151 #[tmVal t A ca B cb K ck, .int .i64 v] w fun e w' => ValPost t v w e w' := by
  by_cases h25 : t.kind = 25
  · exact val_25 t A ca B cb K ck v w hv h25
  by_cases h26 : t.kind = 26
  · exact val_26 t A ca B cb K ck v w hv h26
  by_cases h27 : t.kind = 27
  · exact val_27 t A ca B cb K ck v w hv h27
  by_cases h28 : t.kind = 28
  · exact val_28 t A ca B cb K ck v w hv h28
  by_cases h29 : t.kind = 29
  · exact val_29 t A ca B cb K ck v w hv h29
  by_cases h46 : t.kind = 46
  · exact val_46 t A ca B cb K ck v w hv h46
  by_cases h30 : t.kind = 30
  · exact val_30 t A ca B cb K ck v w hv h30
  by_cases h31 : t.kind = 31
  · exact val_31 t A ca B cb K ck v w hv h31
  by_cases h32 : t.kind = 32
  · exact val_32 t A ca B cb K ck v w hv h32
  by_cases h33 : t.kind = 33
  · exact val_33 t A ca B cb K ck v w hv h33
  by_cases h36 : t.kind = 36
  · exact val_36 t A ca B cb K ck v w hv h36
  by_cases h42 : t.kind = 42
  · exact val_42 t A ca B cb K ck v w hv h42
  by_cases h34 : t.kind = 34
  · exact val_34 t A ca B cb K ck v w hv h34
  by_cases h35 : t.kind = 35
  · exact val_35 t A ca B cb K ck v w hv h35
  by_cases h37 : t.kind = 37
  · exact val_37 t A ca B cb K ck v w hv h37
  by_cases h38 : t.kind = 38
  · exact val_38 t A ca B cb K ck v w hv h38
  by_cases h41 : t.kind = 41
  · exact val_41 t A ca B cb K ck v b w hat hwf hg hv h41
  by_cases h39 : t.kind = 39
  · exact val_39 t A ca B cb K ck v w hv h39
  by_cases h40 : t.kind = 40
  · exact val_40 t A ca B cb K ck v w hv h40
  by_cases h43 : t.kind = 43
  · exact val_43 t A ca B cb K ck v b w hg h43
  by_cases h44 : t.kind = 44
  · exact val_44 t A ca B cb K ck v w hv h44
  by_cases h45 : t.kind = 45
  · exact val_45 t A ca B cb K ck v w hv h45
  exact val_no t A ca B cb K ck v w hv ⟨h25, h26, h27, h28, h29, h46, h30, h31, h32, h33, h36, h42, h34, h35, h37, h38, h41, h39, h40, h43, h44, h45⟩
end Go.Proofs.YtebiojmfieoncaaGreat
