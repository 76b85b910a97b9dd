/- abacusref13.Same: two terms the same, by their rows. Condition: sizes within reach. · abacusref13.Names: the names of a term, rising. Condition: sizes within reach. · abacuslaw13.plays: each call of package term is as the document says. Condition: sizes within reach. -/
import Derived.Test.YteohoodfcgfkeaaGreatTeD3
import Derived.Test.YteohoodfcgfkeaaGreatTeD2
import Derived.Test.YteohoodfcgfkeaaGreatTeNc
namespace Go.Proofs.YteohoodfcgfkeaaGreat
open Go.RowKit

theorem two_new1 (w : World) (o1 o2 : Obj) : ((w.alloc o1).alloc o2).drew.heap[w.heap.size]? = some o1 := (Below.heap_alloc _ _ _ (by simp)).trans (heap_alloc_new w o1)
theorem two_new2 (w : World) (o1 o2 : Obj) : ((w.alloc o1).alloc o2).drew.heap[w.heap.size + 1]? = some o2 := heap_new2 w o1 o2
theorem two_newB (w : World) (o1 o2 : Obj) : Below w.heap.size w ((w.alloc o1).alloc o2).drew := (((Below.refl _ _).alloc (Nat.le_refl _) o1).alloc (by simp) o2).drew
set_option maxRecDepth 100000 in
set_option maxHeartbeats 16000000 in
theorem dsame_any (a b : Tm) (A : Option Addr) (ca : Nat) (B : Option Addr) (cb : Nat) (K : Option Addr) (ck : Nat) (A' : Option Addr) (ca' : Nat) (B' : Option Addr) (cb' : Nat) (K' : Option Addr) (ck' : Nat) (w : World) (h1 : TmAt w a A B K) (w1 : WfT a) (h2 : TmAt w b A' B' K') (w2 : WfT b) :
    Calls Tryz.prog 59 #[tmVal a A ca B cb K ck, tmVal b A' ca' B' cb' K' ck'] w fun e w' => e = .returned (.bool (sameT a b)) ∧ Below w.heap.size w w' := by
  obtain ⟨W2, hW2⟩ : ∃ W2, W2 = (w.alloc (.cells (tmCells a A ca B cb K ck) TTm)).alloc (.cells (tmCells b A' ca' B' cb' K' ck') TTm) := ⟨_, rfl⟩
  have hb1 : Below w.heap.size w (w.alloc (.cells (tmCells a A ca B cb K ck) TTm)) := (Below.refl _ _).alloc (Nat.le_refl _) _
  have hb2 : Below w.heap.size w W2 := by rw [hW2]; exact hb1.alloc hb1.size _
  have hx1 : W2.heap[w.heap.size]? = some (.cells (tmCells a A ca B cb K ck) TTm (0, 0)) := by rw [hW2]; exact (Below.heap_alloc _ _ _ (by simp)).trans (heap_alloc_new w _)
  have hx2 : W2.heap[w.heap.size + 1]? = some (.cells (tmCells b A' ca' B' cb' K' ck') TTm (0, 0)) := by rw [hW2]; exact heap_new2 _ _ _
  have HX := Lib.hid (And.intro hb2 (And.intro (h1.on hb2) (h2.on hb2)))
  have HW2 := Lib.hid hW2
  have HWF := Lib.hid (And.intro w1 w2)
  have HK2 : Hid (∀ W, Below W2.heap.size W2 W → W.cell? ⟨w.heap.size + 1, 0, none⟩ = some (.int .i64 b.kind) ∧ W.cell? ⟨w.heap.size + 1, 1, none⟩ = some (.string b.text) ∧ W.cell? ⟨w.heap.size + 1, 2, none⟩ = some (.int .i64 b.n) ∧ W.cell? ⟨w.heap.size + 1, 3, none⟩ = some (.slice A' b.sh.length ca') ∧ W.cell? ⟨w.heap.size + 1, 4, none⟩ = some (.slice B' b.at_.length cb') ∧ W.cell? ⟨w.heap.size + 1, 5, none⟩ = some (.slice K' b.kids.length ck')) := Lib.hid fun W h => by
    have hh := (h.block _ (heap_lt hx2)).trans hx2
    exact ⟨cell_at hh rfl, cell_at hh rfl, cell_at hh rfl, cell_at hh rfl, cell_at hh rfl, cell_at hh rfl⟩
  obtain ⟨y0, y1, y2, y3, y4, y5⟩ : W2.cell? ⟨w.heap.size, 0, none⟩ = some (.int .i64 a.kind) ∧ W2.cell? ⟨w.heap.size, 1, none⟩ = some (.string a.text) ∧ W2.cell? ⟨w.heap.size, 2, none⟩ = some (.int .i64 a.n) ∧ W2.cell? ⟨w.heap.size, 3, none⟩ = some (.slice A a.sh.length ca) ∧ W2.cell? ⟨w.heap.size, 4, none⟩ = some (.slice B a.at_.length cb) ∧ W2.cell? ⟨w.heap.size, 5, none⟩ = some (.slice K a.kids.length ck) :=
    ⟨cell_at hx1 rfl, cell_at hx1 rfl, cell_at hx1 rfl, cell_at hx1 rfl, cell_at hx1 rfl, cell_at hx1 rfl⟩
  obtain ⟨R, hR⟩ : ∃ R, R = sameT a b := ⟨_, rfl⟩
  have HR := Lib.hid hR
  rw [← hR]
  clear hR h1 h2 w1 w2 hb1 hb2 hx1 hx2 hW2
  go_enter Tryz.func59, Tryz.ntmps59
  go_upto_region 1 with fail
  rw [← HW2.out]
  go_wp2_with fail
  refine (row_any a A ca B cb K ck W2 HX.out.2.1 HWF.out.1).mono ?_
  rintro e w3 ⟨wa, hba, hposta⟩
  clear y0 y1 y2 y3 y4 y5
  have key : ∀ W, Below W2.heap.size W2 W → Calls Tryz.prog 91 #[tmVal b A' ca' B' cb' K' ck'] W fun e w' => ∃ w0 : World, Below W.heap.size W w0 ∧ RowPost b w0 W e w' := fun W hW => row_any b A' ca' B' cb' K' ck' W (HX.out.2.2.on hW) HWF.out.2
  have HKEY := Lib.hid key
  clear key
  rcases hposta with ⟨hga, rfl, hb3⟩ | ⟨hga, N, g, cap, L, rs, rfl, hL, hN, hl, hl1, hrow, hb3⟩
  · have HE : Hid (R = false) := Lib.hid (by rw [HR.out]; exact same_great (.inl hga))
    have HB3 := Lib.hid hb3
    obtain ⟨y0, y1, y2, y3, y4, y5⟩ := HK2.out w3 hb3
    clear hb3 hba hga
    go_wp2_with fail
    refine (HKEY.out w3 HB3.out).mono ?_
    rintro e w4 ⟨wb, hbb, hpostb⟩
    obtain ⟨v, c, rfl, hb4⟩ : ∃ v c, e = .returned (.tuple #[v, .bool c]) ∧ Below w3.heap.size w3 w4 := by
      rcases hpostb with ⟨_, rfl, hb⟩ | ⟨_, N, g, cap, L, rs, rfl, _, _, _, _, _, hb⟩
      · exact ⟨_, _, rfl, hb⟩
      · exact ⟨_, _, rfl, hb⟩
    have HB4 := Lib.hid ((HX.out.1.then_ HB3.out).then_ hb4)
    clear hpostb hbb hb4
    go_wp2_with fail
    go_ret
    exact ⟨by rw [HE.out]; rfl, HB4.out⟩
  · have HA := Lib.hid (And.intro hga (And.intro hL (And.intro hN (And.intro hrow hb3))))
    obtain ⟨y0, y1, y2, y3, y4, y5⟩ := HK2.out w3 hb3
    obtain ⟨n, hn⟩ : ∃ n, n = L.length := ⟨_, rfl⟩
    have HNL := Lib.hid hn
    rw [← hn] at hl hl1 ⊢
    clear hb3 hba hga hL hN hrow hn
    go_wp2_with fail
    refine (HKEY.out w3 HA.out.2.2.2.2).mono ?_
    rintro e w4 ⟨wb, hbb, hpostb⟩
    clear y0 y1 y2 y3 y4 y5
    rcases hpostb with ⟨hgb, rfl, hb4⟩ | ⟨hgb, N', g', cap', M, rs', rfl, hM, hN', hl', hl1', hrow', hb4⟩
    · have HE : Hid (R = false) := Lib.hid (by rw [HR.out]; exact same_great (.inr hgb))
      have HB4 := Lib.hid ((HX.out.1.then_ HA.out.2.2.2.2).then_ hb4)
      clear hbb hb4 hgb
      go_wp2_with fail
      go_ret
      exact ⟨by rw [HE.out]; rfl, HB4.out⟩
    · have HB := Lib.hid (And.intro hgb (And.intro hM (And.intro hN' (And.intro hrow' hb4))))
      have HEA : Hid (N = (rowN ⟨a, 1, false⟩ N).length) := Lib.hid (by rw [← HA.out.2.1]; exact HA.out.2.2.1)
      have HEB : Hid (N' = (rowN ⟨b, 1, false⟩ N').length) := Lib.hid (by rw [← HB.out.2.1]; exact HB.out.2.2.1)
      have HB4 := Lib.hid ((HX.out.1.then_ HA.out.2.2.2.2).then_ hb4)
      have HRA := Lib.hid (HA.out.2.2.2.1.on hb4)
      obtain ⟨m, hm⟩ : ∃ m, m = M.length := ⟨_, rfl⟩
      have HML := Lib.hid hm
      rw [← hm] at hl' hl1' ⊢
      clear hbb hb4 hgb hM hN' hrow' hm
      by_cases hnm : n = m
      · subst hnm
        go_wp2_with fail
        go_loopw [9] (fun v W => ∃ i : Nat, i ≤ n ∧ v = .int .i64 i ∧ Hid ((∀ j x y, j < i → L[j]? = some x → M[j]? = some y → likeNd x.t y.t) ∧ Below w4.heap.size w4 W)) (fun v _ => n - (intOf v).toNat)
        case atStart => exact ⟨0, Nat.zero_le _, rfl, Lib.hid ⟨fun j x y hj => absurd hj (Nat.not_lt_zero j), Below.refl _ _⟩⟩
        case round =>
          obtain ⟨i, hi, rfl, HI⟩ := hrel
          by_cases hlt : i < n
          · obtain ⟨x, hx⟩ : ∃ x, L[i]? = some x := ⟨_, List.getElem?_eq_getElem (by rw [← HNL.out]; exact hlt)⟩
            obtain ⟨y, hy⟩ : ∃ y, M[i]? = some y := ⟨_, List.getElem?_eq_getElem (by rw [← HML.out]; exact hlt)⟩
            have hra := HRA.out.on HI.out.2
            have hrb := HB.out.2.2.2.1.on HI.out.2
            obtain ⟨r, hr, hnd, p0, p1, p2, p3, p4, p5, _, _⟩ := hra.eight hx
            obtain ⟨r', hr', hnd', q0, q1, q2, q3, q4, q5, _, _⟩ := hrb.eight hy
            have lt1 := hra.lt.2
            have lt2 := hrb.lt.2
            have HN1 := Lib.hid (hnd.on hra.be)
            have HN2 := Lib.hid (hnd'.on hrb.be)
            have HXY := Lib.hid (And.intro hx hy)
            clear hx hy hra hrb hr hr' hnd hnd'
            go_upto_region 8 with fail
            go_cut [10, 11] from 41 to 51 (fun v10 v11 wx => ∃ g1 g2 : Nat, v10 = .pointer (some ⟨g1, 0, none⟩) ∧ v11 = .pointer (some ⟨g2, 0, none⟩) ∧ Hid (wx.heap[g1]? = some (.cells (tmCells x.t r.s.p r.s.c r.a.p r.a.c r.k.p r.k.c) TTm (0, 0)) ∧ wx.heap[g2]? = some (.cells (tmCells y.t r'.s.p r'.s.c r'.a.p r'.a.c r'.k.p r'.k.c) TTm (0, 0)) ∧ Below wr.heap.size wr wx))
            case first =>
              go_region
              all_goals
                go_wp2_with fail
                go_meet
                case rel =>
                  refine ⟨_, _, rfl, rfl, Lib.hid ?_⟩
                  first
                  | exact ⟨two_new1 _ _ _, two_new2 _ _ _, two_newB _ _ _⟩
                  | exact ⟨two_new2 _ _ _, two_new1 _ _ _, two_newB _ _ _⟩
            obtain ⟨g1, g2, rfl, rfl, HC⟩ := hcut
            have k0 := cell_at HC.out.1 (j := 0) rfl
            have k1 := cell_at HC.out.1 (j := 1) rfl
            have k2 := cell_at HC.out.1 (j := 2) rfl
            have k3 := cell_at HC.out.1 (j := 3) rfl
            have k4 := cell_at HC.out.1 (j := 4) rfl
            have k5 := cell_at HC.out.1 (j := 5) rfl
            have m0 := cell_at HC.out.2.1 (j := 0) rfl
            have m1 := cell_at HC.out.2.1 (j := 1) rfl
            have m2 := cell_at HC.out.2.1 (j := 2) rfl
            have m3 := cell_at HC.out.2.1 (j := 3) rfl
            have m4 := cell_at HC.out.2.1 (j := 4) rfl
            have m5 := cell_at HC.out.2.1 (j := 5) rfl
            clear p0 p1 p2 p3 p4 p5 q0 q1 q2 q3 q4 q5
            have HNO : Hid (¬ likeNd x.t y.t → R = false) := Lib.hid fun h => by
              rw [HR.out]
              exact rows_unlike HEA.out HEB.out (by rw [← HA.out.2.1]; exact HXY.out.1) (by rw [← HB.out.2.1]; exact HXY.out.2) h
            have HBE : Hid (Below w.heap.size w wc) := Lib.hid ((HB4.out.then_ HI.out.2).then_ HC.out.2.2)
            by_cases e1 : x.t.kind = y.t.kind
            · have d1 : (x.t.kind != y.t.kind) = false := by simp [e1]
              by_cases e2 : x.t.text = y.t.text
              · have d2 := str_nneq e2
                have d2' := str_beq e2
                by_cases e3 : x.t.n = y.t.n
                · have d3 : (x.t.n != y.t.n) = false := by simp [e3]
                  by_cases e4 : x.t.kids.length = y.t.kids.length
                  · have d4 : ((x.t.kids.length : Int) != (y.t.kids.length : Int)) = false := by simp; omega
                    have hbw := HI.out.2.then_ HC.out.2.2
                    have HS3 := Lib.hid (same3_any x.t.sh y.t.sh x.t.at_ y.t.at_ r.s.p r.s.c r.a.p r.a.c r'.s.p r'.s.c r'.a.p r'.a.c wc (HN1.out.at_.sh.on HC.out.2.2) (HN1.out.at_.at_.on HC.out.2.2) (HN2.out.at_.sh.on HC.out.2.2) (HN2.out.at_.at_.on HC.out.2.2) HN1.out.wf.node.sh HN2.out.wf.node.sh HN1.out.wf.node.at_ HN2.out.wf.node.at_)
                    have HEQ := Lib.hid (And.intro e1 (And.intro e2 (And.intro e3 e4)))
                    have HBW := Lib.hid hbw
                    clear e1 e2 e3 e4 hbw
                    go_wp2_with fail
                    refine HS3.out.mono ?_
                    rintro e w5 ⟨rfl, hb5⟩
                    have HB5 := Lib.hid hb5
                    clear hb5 k0 k1 k2 k3 k4 k5 m0 m1 m2 m3 m4 m5
                    by_cases e5 : x.t.sh = y.t.sh ∧ x.t.at_ = y.t.at_
                    · rw [decide_eq_true e5]
                      have HLK : Hid (likeNd x.t y.t) := Lib.hid ⟨HEQ.out.1, HEQ.out.2.1, HEQ.out.2.2.1, e5.1, e5.2, HEQ.out.2.2.2⟩
                      clear e5
                      go_wp2_with fail
                      refine ⟨⟨i + 1, by omega, by go_num, Lib.hid ⟨fun j x' y' hj hx' hy' => ?_, HBW.out.then_ HB5.out⟩⟩, by simp [intOf]; omega⟩
                      rcases Nat.lt_or_ge j i with h2 | h2
                      · exact HI.out.1 j x' y' h2 hx' hy'
                      · obtain rfl : j = i := by omega
                        rw [HXY.out.1] at hx'
                        rw [HXY.out.2] at hy'
                        obtain rfl := Option.some.inj hx'
                        obtain rfl := Option.some.inj hy'
                        exact HLK.out
                    · rw [decide_eq_false e5]
                      have HE : Hid (R = false) := Lib.hid (HNO.out fun h => e5 ⟨h.2.2.2.1, h.2.2.2.2.1⟩)
                      clear e5
                      go_wp2_with fail
                      go_ret
                      exact ⟨by rw [HE.out]; rfl, HBE.out.then_ HB5.out⟩
                  · have d4 : ((x.t.kids.length : Int) != (y.t.kids.length : Int)) = true := by simp; omega
                    have HE : Hid (R = false) := Lib.hid (HNO.out fun h => e4 h.2.2.2.2.2)
                    clear e1 e2 e3 e4
                    go_wp2_with fail
                    go_ret
                    exact ⟨by rw [HE.out]; rfl, HBE.out⟩
                · have d3 : (x.t.n != y.t.n) = true := by simp [e3]
                  have HE : Hid (R = false) := Lib.hid (HNO.out fun h => e3 h.2.2.1)
                  clear e1 e2 e3
                  go_wp2_with fail
                  go_ret
                  exact ⟨by rw [HE.out]; rfl, HBE.out⟩
              · have d2 := str_neq e2
                have d2' := str_bne e2
                have HE : Hid (R = false) := Lib.hid (HNO.out fun h => e2 h.2.1)
                clear e1 e2
                go_wp2_with fail
                go_ret
                exact ⟨by rw [HE.out]; rfl, HBE.out⟩
            · have d1 : (x.t.kind != y.t.kind) = true := by simp [e1]
              have HE : Hid (R = false) := Lib.hid (HNO.out fun h => e1 h.1)
              clear e1
              go_wp2_with fail
              go_ret
              exact ⟨by rw [HE.out]; rfl, HBE.out⟩
          · obtain rfl : i = n := by omega
            have HE : Hid (R = true) := Lib.hid (by
              rw [HR.out]
              have hnn : N = N' := by rw [HA.out.2.2.1, HB.out.2.2.1, ← HNL.out, ← HML.out]
              refine same_yes HA.out.1 HB.out.1 (rows_same ⟨a, 1, false⟩ ⟨b, 1, false⟩ (N := N) HEA.out (by rw [hnn]; exact HEB.out) fun j x y hx hy => ?_)
              rw [← HA.out.2.1] at hx
              rw [hnn, ← HB.out.2.1] at hy
              exact HI.out.1 j x y (by rw [HNL.out]; exact (List.getElem?_eq_some_iff.1 hx).1) hx hy)
            clear hlt
            go_wp2_with fail
            go_ret
            exact ⟨by rw [HE.out]; rfl, HB4.out.then_ HI.out.2⟩
      · have HE : Hid (R = false) := Lib.hid (by
          rw [HR.out]
          exact rows_unlen HEA.out HEB.out (by rw [HA.out.2.2.1, HB.out.2.2.1, ← HNL.out, ← HML.out]; exact hnm))
        have d1 : ((n : Int) != (m : Int)) = true := by simp; omega
        clear hnm
        go_wp2_with fail
        go_ret
        exact ⟨by rw [HE.out]; rfl, HB4.out⟩
end Go.Proofs.YteohoodfcgfkeaaGreat

namespace Go.Proofs.YteohoodfcgfkeaaGreat
open Go.RowKit Go.Maps

theorem names_out {t : Tm} {w w' : World} {e : Ending} (h : NamesPost t w e w') : ∃ (P : Option Addr) (c : Nat) (l : List ByteArray), e = .returned (.slice P l.length c) ∧ Rise l ∧ l.length ≤ 5000 ∧ (greatT t = true → l = []) ∧ (greatT t = false → ∀ s, s ∈ l ↔ s ∈ nmT t) ∧ StrsAt w' P l ∧ Below w.heap.size w w' := by
  rcases h with ⟨hg, rfl, hb⟩ | ⟨hg, g, cap, l, rfl, hr, hm, hl, ho, hb⟩
  · exact ⟨none, 0, [], rfl, by simp [Rise], by simp, fun _ => rfl, fun h => (by rw [hg] at h; cases h), StrsAt.nil _ _, hb⟩
  · exact ⟨some ⟨g, 0, none⟩, cap, l, rfl, hr, hl, fun h => (by rw [hg] at h; cases h), fun _ => hm, strs_row ho, hb⟩
set_option maxRecDepth 100000 in
set_option maxHeartbeats 8000000 in
theorem dnames_any (t : Tm) (A : Option Addr) (ca : Nat) (B : Option Addr) (cb : Nat) (K : Option Addr) (ck : Nat) (w : World) (hat : TmAt w t A B K) (hwf : WfT t) :
    Calls Tryz.prog 60 #[tmVal t A ca B cb K ck] w fun e w' => ∃ (P : Option Addr) (c : Nat) (l : List ByteArray), e = .returned (.slice P l.length c) ∧ Rise l ∧ l.length ≤ 5000 ∧ (greatT t = true → l = []) ∧ (greatT t = false → ∀ s, s ∈ l ↔ s ∈ nmT t) ∧ StrsAt w' P l ∧ Below w.heap.size w w' := by
  obtain ⟨W1, hW1⟩ : ∃ W1, W1 = w.alloc (.cells (tmCells t A ca B cb K ck) TTm) := ⟨_, rfl⟩
  have hb1 : Below w.heap.size w W1 := by rw [hW1]; exact (Below.refl _ _).alloc (Nat.le_refl _) _
  have hx1 : W1.heap[w.heap.size]? = some (.cells (tmCells t A ca B cb K ck) TTm (0, 0)) := by rw [hW1]; exact heap_alloc_new w _
  obtain ⟨k0, k1, k2, k3, k4, k5⟩ : W1.cell? ⟨w.heap.size, 0, none⟩ = some (.int .i64 t.kind) ∧ W1.cell? ⟨w.heap.size, 1, none⟩ = some (.string t.text) ∧ W1.cell? ⟨w.heap.size, 2, none⟩ = some (.int .i64 t.n) ∧ W1.cell? ⟨w.heap.size, 3, none⟩ = some (.slice A t.sh.length ca) ∧ W1.cell? ⟨w.heap.size, 4, none⟩ = some (.slice B t.at_.length cb) ∧ W1.cell? ⟨w.heap.size, 5, none⟩ = some (.slice K t.kids.length ck) :=
    ⟨cell_at hx1 rfl, cell_at hx1 rfl, cell_at hx1 rfl, cell_at hx1 rfl, cell_at hx1 rfl, cell_at hx1 rfl⟩
  have HX := Lib.hid (And.intro hb1 (And.intro (hat.on hb1) hwf))
  have HW1 := Lib.hid hW1
  clear hat hwf hb1 hx1 hW1
  go_enter Tryz.func60, Tryz.ntmps60
  go_upto_region 1 with fail
  rw [← HW1.out]
  go_wp2_with fail
  refine (row_any t A ca B cb K ck W1 HX.out.2.1 HX.out.2.2).mono ?_
  rintro e w2 ⟨w0, hbw, hpost⟩
  clear k0 k1 k2 k3 k4 k5
  rcases hpost with ⟨hg, rfl, hb⟩ | ⟨hg, N, g, cap, L, rs, rfl, hL, hN, hl, hl1, hrow, hb⟩
  · have HB := Lib.hid (HX.out.1.then_ hb)
    have HG := Lib.hid hg
    clear hb hbw hg
    go_wp2_with fail
    go_loopw [5, 6] (fun v5 v6 W => v5 = .slice none 0 0 ∧ v6 = .int .i64 0 ∧ W = w2) (fun _ _ _ => 0)
    case atStart => exact ⟨rfl, rfl, rfl⟩
    case round =>
      obtain ⟨rfl, rfl, hw⟩ := hrel
      subst hw
      go_wp2_with fail
      go_ret
      exact ⟨none, 0, [], rfl, by simp [Rise], by simp, fun _ => rfl, fun h => (by rw [HG.out] at h; cases h), StrsAt.nil _ _, HB.out⟩
  · have HB := Lib.hid (HX.out.1.then_ hb)
    have HG := Lib.hid hg
    have HROW := Lib.hid hrow
    have HNM : Hid (∀ s, s ∈ nmT t ↔ ∃ x ∈ L, isNm x.t.kind = true ∧ x.t.text = s) := Lib.hid fun s => by rw [hL]; exact nm_row t (by rw [← hL]; exact hN) s
    obtain ⟨n, hn⟩ : ∃ n, n = L.length := ⟨_, rfl⟩
    have HN := Lib.hid hn
    rw [← hn] at hl hl1 ⊢
    clear hb hbw hg hL hN hrow hn
    go_wp2_with fail
    go_loopw [5, 6] (fun v5 v6 W => ∃ (i m c : Nat) (P : Option Addr) (l : List ByteArray), i ≤ n ∧ v6 = .int .i64 i ∧ v5 = .slice P m c ∧ m ≤ i ∧ Hid (m = l.length ∧ W.ownsRow w2.heap.size TSt 1 (.slice P m c) m (l.map Value.string) ∧ Rise l ∧ (∀ s, s ∈ l ↔ nmTake L i s) ∧ Below w2.heap.size w2 W)) (fun _ v6 _ => n - (intOf v6).toNat)
    case atStart => exact ⟨0, 0, 0, none, [], Nat.zero_le _, rfl, rfl, Nat.le_refl _, Lib.hid ⟨rfl, World.ownsRow_nil _ _ _ _, by simp [Rise], fun s => by simp [nmTake], Below.refl _ _⟩⟩
    case round =>
      obtain ⟨i, m, c, P, l, hi, rfl, rfl, hm, HI⟩ := hrel
      by_cases hlt : i < n
      · obtain ⟨y, hy⟩ : ∃ y, L[i]? = some y := ⟨_, List.getElem?_eq_getElem (by rw [← HN.out]; exact hlt)⟩
        obtain ⟨r, hr, hnd, q0, q1, _⟩ := (HROW.out.on HI.out.2.2.2.2).eight hy
        have HY := Lib.hid hy
        have e1 : (0 : Int) ≤ (i : Int) := by omega
        have e2 : (i : Int) < (n : Int) := by omega
        clear hy hr hnd
        have ks : (y.t.kind = 2) ∨ ((y.t.kind == 2) = false ∧ y.t.kind = 21) ∨ ((y.t.kind == 2) = false ∧ (y.t.kind == 21) = false ∧ y.t.kind = 11) ∨ ((y.t.kind == 2) = false ∧ (y.t.kind == 21) = false ∧ (y.t.kind == 11) = false) := by
          by_cases h2 : y.t.kind = 2
          · exact .inl h2
          by_cases h21 : y.t.kind = 21
          · exact .inr (.inl ⟨beq_no h2, h21⟩)
          by_cases h11 : y.t.kind = 11
          · exact .inr (.inr (.inl ⟨beq_no h2, beq_no h21, h11⟩))
          exact .inr (.inr (.inr ⟨beq_no h2, beq_no h21, beq_no h11⟩))
        have isn : isNm y.t.kind = true → Hid (isNm y.t.kind = true) := fun h => Lib.hid h
        have HISN := Lib.hid isn
        clear isn
        rcases ks with h | ⟨h0, h⟩ | ⟨h0, h00, h⟩ | ⟨h0, h00, h⟩
        · have HH := HISN.out (by rw [h]; rfl)
          replace h : (y.t.kind == 2) = true := beq_yes h
          go_wp2_with fail
          refine (dput_any w2.heap.size l m HI.out.1 P c y.t.text wr HI.out.2.1 HI.out.2.2.1 (by omega) HI.out.2.2.2.2.size).mono ?_
          rintro e w3 ⟨Q, d, l', rfl, hrow', hrise', hmem', hlen', hgr⟩
          have HP := Lib.hid (And.intro hrow' (And.intro hrise' (And.intro hmem' (HI.out.2.2.2.2.grown hgr HI.out.2.2.2.2.size (fun k hk => (HI.out.2.1.lt k hk).1)))))
          obtain ⟨m', hm'⟩ : ∃ m', m' = l'.length := ⟨_, rfl⟩
          have HM' := Lib.hid hm'
          rw [← hm'] at hlen' ⊢
          clear hrow' hrise' hmem' hgr hm' q0 q1
          go_wp2_with fail
          exact ⟨⟨i + 1, m', d, Q, l', by omega, by go_num, rfl, by omega, Lib.hid ⟨HM'.out, by rw [HM'.out]; exact HP.out.1, HP.out.2.1, fun s => by rw [nmTake_yes HY.out HH.out s, ← HI.out.2.2.2.1 s]; exact HP.out.2.2.1 s, HP.out.2.2.2⟩⟩, by simp [intOf]; omega⟩
        · have HH := HISN.out (by rw [h]; rfl)
          replace h : (y.t.kind == 21) = true := beq_yes h
          go_wp2_with fail
          refine (dput_any w2.heap.size l m HI.out.1 P c y.t.text wr HI.out.2.1 HI.out.2.2.1 (by omega) HI.out.2.2.2.2.size).mono ?_
          rintro e w3 ⟨Q, d, l', rfl, hrow', hrise', hmem', hlen', hgr⟩
          have HP := Lib.hid (And.intro hrow' (And.intro hrise' (And.intro hmem' (HI.out.2.2.2.2.grown hgr HI.out.2.2.2.2.size (fun k hk => (HI.out.2.1.lt k hk).1)))))
          obtain ⟨m', hm'⟩ : ∃ m', m' = l'.length := ⟨_, rfl⟩
          have HM' := Lib.hid hm'
          rw [← hm'] at hlen' ⊢
          clear hrow' hrise' hmem' hgr hm' q0 q1
          go_wp2_with fail
          exact ⟨⟨i + 1, m', d, Q, l', by omega, by go_num, rfl, by omega, Lib.hid ⟨HM'.out, by rw [HM'.out]; exact HP.out.1, HP.out.2.1, fun s => by rw [nmTake_yes HY.out HH.out s, ← HI.out.2.2.2.1 s]; exact HP.out.2.2.1 s, HP.out.2.2.2⟩⟩, by simp [intOf]; omega⟩
        · have HH := HISN.out (by rw [h]; rfl)
          replace h : (y.t.kind == 11) = true := beq_yes h
          go_wp2_with fail
          refine (dput_any w2.heap.size l m HI.out.1 P c y.t.text wr HI.out.2.1 HI.out.2.2.1 (by omega) HI.out.2.2.2.2.size).mono ?_
          rintro e w3 ⟨Q, d, l', rfl, hrow', hrise', hmem', hlen', hgr⟩
          have HP := Lib.hid (And.intro hrow' (And.intro hrise' (And.intro hmem' (HI.out.2.2.2.2.grown hgr HI.out.2.2.2.2.size (fun k hk => (HI.out.2.1.lt k hk).1)))))
          obtain ⟨m', hm'⟩ : ∃ m', m' = l'.length := ⟨_, rfl⟩
          have HM' := Lib.hid hm'
          rw [← hm'] at hlen' ⊢
          clear hrow' hrise' hmem' hgr hm' q0 q1
          go_wp2_with fail
          exact ⟨⟨i + 1, m', d, Q, l', by omega, by go_num, rfl, by omega, Lib.hid ⟨HM'.out, by rw [HM'.out]; exact HP.out.1, HP.out.2.1, fun s => by rw [nmTake_yes HY.out HH.out s, ← HI.out.2.2.2.1 s]; exact HP.out.2.2.1 s, HP.out.2.2.2⟩⟩, by simp [intOf]; omega⟩
        · have HH : Hid (isNm y.t.kind = false) := Lib.hid (by unfold isNm; simp at h h0 h00 ⊢; omega)
          go_wp2_with fail
          exact ⟨⟨i + 1, m, c, P, l, by omega, by go_num, rfl, by omega, Lib.hid ⟨HI.out.1, HI.out.2.1, HI.out.2.2.1, fun s => by rw [nmTake_no HY.out HH.out s]; exact HI.out.2.2.2.1 s, HI.out.2.2.2.2⟩⟩, by simp [intOf]; omega⟩
      · obtain rfl : i = n := by omega
        clear hlt
        go_wp2_with fail
        go_ret
        refine ⟨P, c, l, by rw [HI.out.1]; rfl, HI.out.2.2.1, by rw [← HI.out.1]; omega, fun h => (by rw [HG.out] at h; cases h), fun _ s => ?_, strs_row (by have := HI.out.2.1; rw [HI.out.1] at this; exact this), HB.out.then_ HI.out.2.2.2.2⟩
        rw [HI.out.2.2.2.1 s, HNM.out s]
        unfold nmTake
        rw [HN.out, List.take_length]
end Go.Proofs.YteohoodfcgfkeaaGreat

namespace Go.Proofs.YteohoodfcgfkeaaGreat
open Go.RowKit

abbrev opArr (k : Int) (t : Tm) (A : Option Addr) (ca : Nat) (B : Option Addr) (cb : Nat) (K : Option Addr) (ck : Nat) (u : Tm) (A' : Option Addr) (ca' : Nat) (B' : Option Addr) (cb' : Nat) (K' : Option Addr) (ck' : Nat) (n : Int) : Array Value := #[.int .i64 k, .int .i64 t.kind, .string t.text, .int .i64 t.n, .slice A t.sh.length ca, .slice B t.at_.length cb, .slice K t.kids.length ck, .int .i64 u.kind, .string u.text, .int .i64 u.n, .slice A' u.sh.length ca', .slice B' u.at_.length cb', .slice K' u.kids.length ck', .int .i64 n]
/-- what a copy is: of a great term a term without anything -/
def cpT (t : Tm) : Tm := if greatT t = true then .mk 0 ⟨#[]⟩ 0 [] [] [] else t
def cpE (t : Tm) : Int := if greatT t = true then 2 else 0
theorem cpT_ok {t : Tm} (h : WfT t) : WfT (cpT t) ∧ greatT (cpT t) = false := by
  unfold cpT
  cases hg : greatT t with
  | true =>
    rw [if_pos rfl]
    refine ⟨?_, by decide⟩
    simp only [WfT, WfL]
    exact ⟨by unfold In64; omega, by unfold In64; omega, fun x hx => (by cases hx), fun x hx => (by cases hx), by decide, by decide, by decide, by decide, trivial⟩
  | false => rw [if_neg (by decide)]; exact ⟨h, hg⟩
theorem copy_out {t : Tm} {w w' : World} {e : Ending} (h : CopyPost t w e w') : ∃ (P : Option Addr) (p : Nat) (Q : Option Addr) (q : Nat) (R : Option Addr) (r : Nat), e = .returned (.tuple #[tmVal (cpT t) P p Q q R r, .int .i64 (cpE t)]) ∧ TmAt w' (cpT t) P Q R ∧ Below w.heap.size w w' := by
  unfold cpT cpE
  rcases h with ⟨hg, rfl, hb⟩ | ⟨hg, r, rfl, ho, _, hb⟩
  · rw [if_pos hg, if_pos hg]
    exact ⟨none, 0, none, 0, none, 0, rfl, ⟨IntsAt.nil _ _, IntsAt.nil _ _, KidsAt.nil _ _⟩, hb⟩
  · rw [if_neg (by rw [hg]; decide), if_neg (by rw [hg]; decide)]
    obtain ⟨h1, f1, f2, f3⟩ := ho.read
    refine ⟨r.s.p, r.s.c, r.a.p, r.a.c, r.k.p, r.k.c, ?_, h1, hb⟩
    unfold rtVal
    rw [f1, f2, f3]
set_option maxRecDepth 100000 in
set_option maxHeartbeats 16000000 in
theorem plays_any (k : Int) (t : Tm) (A : Option Addr) (ca : Nat) (B : Option Addr) (cb : Nat) (K : Option Addr) (ck : Nat) (u : Tm) (A' : Option Addr) (ca' : Nat) (B' : Option Addr) (cb' : Nat) (K' : Option Addr) (ck' : Nat) (n : Int) (w : World) (h1 : TmAt w t A B K) (w1 : WfT t) (h2 : TmAt w u A' B' K') (w2 : WfT u) :
    Calls Tryz.prog 24 #[.agg (opArr k t A ca B cb K ck u A' ca' B' cb' K' ck' n)] w fun e w' => e = .returned (.bool true) ∧ Below w.heap.size w w' := by
  obtain ⟨W1, hW1⟩ : ∃ W1, W1 = w.alloc (.cells (opArr k t A ca B cb K ck u A' ca' B' cb' K' ck' n) 48) := ⟨_, rfl⟩
  have hb1 : Below w.heap.size w W1 := by rw [hW1]; exact (Below.refl _ _).alloc (Nat.le_refl _) _
  have hx1 : W1.heap[w.heap.size]? = some (.cells (opArr k t A ca B cb K ck u A' ca' B' cb' K' ck' n) 48 (0, 0)) := by rw [hW1]; exact heap_alloc_new w _
  have HK : Hid (∀ W, Below W1.heap.size W1 W → W.cell? ⟨w.heap.size, 0, none⟩ = some (.int .i64 k) ∧ W.cell? ⟨w.heap.size, 1, none⟩ = some (.int .i64 t.kind) ∧ W.cell? ⟨w.heap.size, 2, none⟩ = some (.string t.text) ∧ W.cell? ⟨w.heap.size, 3, none⟩ = some (.int .i64 t.n) ∧ W.cell? ⟨w.heap.size, 4, none⟩ = some (.slice A t.sh.length ca) ∧ W.cell? ⟨w.heap.size, 5, none⟩ = some (.slice B t.at_.length cb) ∧ W.cell? ⟨w.heap.size, 6, none⟩ = some (.slice K t.kids.length ck) ∧ W.cell? ⟨w.heap.size, 7, none⟩ = some (.int .i64 u.kind) ∧ W.cell? ⟨w.heap.size, 8, none⟩ = some (.string u.text) ∧ W.cell? ⟨w.heap.size, 9, none⟩ = some (.int .i64 u.n) ∧ W.cell? ⟨w.heap.size, 10, none⟩ = some (.slice A' u.sh.length ca') ∧ W.cell? ⟨w.heap.size, 11, none⟩ = some (.slice B' u.at_.length cb') ∧ W.cell? ⟨w.heap.size, 12, none⟩ = some (.slice K' u.kids.length ck') ∧ W.cell? ⟨w.heap.size, 13, none⟩ = some (.int .i64 n)) := Lib.hid fun W h => by
    have hh := (h.block _ (heap_lt hx1)).trans hx1
    exact ⟨cell_at hh rfl, cell_at hh rfl, cell_at hh rfl, cell_at hh rfl, cell_at hh rfl, cell_at hh rfl, cell_at hh rfl, cell_at hh rfl, cell_at hh rfl, cell_at hh rfl, cell_at hh rfl, cell_at hh rfl, cell_at hh rfl, cell_at hh rfl⟩
  have HX := Lib.hid (And.intro hb1 (And.intro (h1.on hb1) (h2.on hb1)))
  have HWF := Lib.hid (And.intro w1 w2)
  have HW1 := Lib.hid hW1
  clear h1 h2 w1 w2 hb1 hx1 hW1
  have cs : (k = 1) ∨ (k = 2) ∨ (k = 3) ∨ (k = 4) ∨ (k = 5) ∨ (k = 6) ∨ ((k == 1) = false ∧ (k == 2) = false ∧ (k == 3) = false ∧ (k == 4) = false ∧ (k == 5) = false ∧ (k == 6) = false) := by
    by_cases e1 : k = 1
    · exact .inl e1
    by_cases e2 : k = 2
    · exact .inr (.inl e2)
    by_cases e3 : k = 3
    · exact .inr (.inr (.inl e3))
    by_cases e4 : k = 4
    · exact .inr (.inr (.inr (.inl e4)))
    by_cases e5 : k = 5
    · exact .inr (.inr (.inr (.inr (.inl e5))))
    by_cases e6 : k = 6
    · exact .inr (.inr (.inr (.inr (.inr (.inl e6)))))
    exact .inr (.inr (.inr (.inr (.inr (.inr ⟨beq_no e1, beq_no e2, beq_no e3, beq_no e4, beq_no e5, beq_no e6⟩)))))
  rcases cs with rfl | rfl | rfl | rfl | rfl | rfl | ⟨d1, d2, d3, d4, d5, d6⟩
  · go_enter Tryz.func24, Tryz.ntmps24
    go_upto_region 1 with fail
    rw [← HW1.out]
    obtain ⟨q0, q1, q2, q3, q4, q5, q6, q7, q8, q9, q10, q11, q12, q13⟩ := HK.out W1 (Below.refl _ _)
    go_wp2_with fail
    clear q0 q1 q2 q3 q4 q5 q6 q7 q8 q9 q10 q11 q12 q13
    refine wp_region_quiet (C := fun W' => Below W1.heap.size W1 W') (by kernel_rfl) (by kernel_rfl) ((Below.refl _ _).drew) ?_
    repeat
      (refine wpQuiet_step (fun Kz hK => ?_)
       go_simp
       first
       | (refine hK _ ?_; clear hK Kz)
       | (apply Exists.intro
          refine ⟨fun W' hC => ?_, hK _ ?_⟩
          (obtain ⟨q0, q1, q2, q3, q4, q5, q6, q7, q8, q9, q10, q11, q12, q13⟩ := HK.out W' hC
           first
           | (go_simp; rfl)
           | (go_simp; done)
           | (refine (may_any t A ca B cb K ck n W' (HX.out.2.1.on hC) HWF.out.1).mono ?_
              rintro e w' ⟨rfl, hb'⟩
              exact ⟨rfl, hC.then_ hb'⟩)
           | (refine (dmay_any t A ca B cb K ck n W' (HX.out.2.1.on hC) HWF.out.1).mono ?_
              rintro e w' ⟨rfl, hb'⟩
              exact ⟨rfl, hC.then_ hb'⟩))
          clear hK Kz))
    refine wpQuiet_nil ?_
    intro w8 hC8
    have HC8 := Lib.hid hC8
    clear hC8
    go_wp2_with fail
    go_ret
    exact ⟨by simp, HX.out.1.then_ HC8.out⟩
  · go_enter Tryz.func24, Tryz.ntmps24
    go_upto_region 1 with fail
    rw [← HW1.out]
    obtain ⟨q0, q1, q2, q3, q4, q5, q6, q7, q8, q9, q10, q11, q12, q13⟩ := HK.out W1 (Below.refl _ _)
    go_wp2_with fail
    clear q0 q1 q2 q3 q4 q5 q6 q7 q8 q9 q10 q11 q12 q13
    refine wp_region_quiet (C := fun W' => Below W1.heap.size W1 W') (by kernel_rfl) (by kernel_rfl) ((Below.refl _ _).drew) ?_
    repeat
      (refine wpQuiet_step (fun Kz hK => ?_)
       go_simp
       first
       | (refine hK _ ?_; clear hK Kz)
       | (apply Exists.intro
          refine ⟨fun W' hC => ?_, hK _ ?_⟩
          (obtain ⟨q0, q1, q2, q3, q4, q5, q6, q7, q8, q9, q10, q11, q12, q13⟩ := HK.out W' hC
           first
           | (go_simp; rfl)
           | (go_simp; done)
           | (refine (class_k t.kind _ _ _ _ _ W').mono ?_
              rintro e w' ⟨rfl, hb'⟩
              exact ⟨rfl, hC.then_ hb'⟩)
           | (refine (dclass_k t.kind _ _ _ _ _ W').mono ?_
              rintro e w' ⟨rfl, hb'⟩
              exact ⟨rfl, hC.then_ hb'⟩))
          clear hK Kz))
    refine wpQuiet_nil ?_
    intro w8 hC8
    have HC8 := Lib.hid hC8
    clear hC8
    go_wp2_with fail
    go_ret
    exact ⟨by simp, HX.out.1.then_ HC8.out⟩
  · go_enter Tryz.func24, Tryz.ntmps24
    go_upto_region 1 with fail
    rw [← HW1.out]
    obtain ⟨q0, q1, q2, q3, q4, q5, q6, q7, q8, q9, q10, q11, q12, q13⟩ := HK.out W1 (Below.refl _ _)
    go_wp2_with fail
    refine (size_any t A ca B cb K ck W1 HX.out.2.1 HWF.out.1).mono ?_
    rintro e w2 ⟨rfl, hb2⟩
    have HB2 := Lib.hid hb2
    clear hb2 q0 q1 q2 q3 q4 q5 q6 q7 q8 q9 q10 q11 q12 q13
    obtain ⟨q0, q1, q2, q3, q4, q5, q6, q7, q8, q9, q10, q11, q12, q13⟩ := HK.out w2 HB2.out
    go_wp2_with fail
    refine (dsize_any t A ca B cb K ck w2 (HX.out.2.1.on HB2.out) HWF.out.1).mono ?_
    rintro e w3 ⟨rfl, hb3⟩
    have HB3 := Lib.hid (HB2.out.then_ hb3)
    clear hb3 q0 q1 q2 q3 q4 q5 q6 q7 q8 q9 q10 q11 q12 q13
    go_wp2_with fail
    go_ret
    exact ⟨by simp, HX.out.1.then_ HB3.out⟩
  · go_enter Tryz.func24, Tryz.ntmps24
    go_upto_region 1 with fail
    rw [← HW1.out]
    obtain ⟨q0, q1, q2, q3, q4, q5, q6, q7, q8, q9, q10, q11, q12, q13⟩ := HK.out W1 (Below.refl _ _)
    go_wp2_with fail
    clear q0 q1 q2 q3 q4 q5 q6 q7 q8 q9 q10 q11 q12 q13
    refine wp_region_quiet (C := fun W' => Below W1.heap.size W1 W') (by kernel_rfl) (by kernel_rfl) ((Below.refl _ _).drew) ?_
    repeat
      (refine wpQuiet_step (fun Kz hK => ?_)
       go_simp
       first
       | (refine hK _ ?_; clear hK Kz)
       | (apply Exists.intro
          refine ⟨fun W' hC => ?_, hK _ ?_⟩
          (obtain ⟨q0, q1, q2, q3, q4, q5, q6, q7, q8, q9, q10, q11, q12, q13⟩ := HK.out W' hC
           first
           | (go_simp; rfl)
           | (go_simp; done)
           | (refine (sameV_any t u A ca B cb K ck A' ca' B' cb' K' ck' W' (HX.out.2.1.on hC) (HX.out.2.2.on hC) HWF.out.1 HWF.out.2).mono ?_
              rintro e w' ⟨rfl, hb'⟩
              exact ⟨rfl, hC.then_ hb'⟩)
           | (refine (dsame_any t u A ca B cb K ck A' ca' B' cb' K' ck' W' (HX.out.2.1.on hC) HWF.out.1 (HX.out.2.2.on hC) HWF.out.2).mono ?_
              rintro e w' ⟨rfl, hb'⟩
              exact ⟨rfl, hC.then_ hb'⟩))
          clear hK Kz))
    refine wpQuiet_nil ?_
    intro w8 hC8
    have HC8 := Lib.hid hC8
    clear hC8
    go_wp2_with fail
    go_ret
    exact ⟨by simp, HX.out.1.then_ HC8.out⟩
  · go_enter Tryz.func24, Tryz.ntmps24
    go_upto_region 1 with fail
    rw [← HW1.out]
    obtain ⟨q0, q1, q2, q3, q4, q5, q6, q7, q8, q9, q10, q11, q12, q13⟩ := HK.out W1 (Below.refl _ _)
    go_wp2_with fail
    refine (names_any t A ca B cb K ck W1 HX.out.2.1 HWF.out.1).mono ?_
    rintro e w2 hpost
    obtain ⟨P, c, l, rfl, hr, hnl, hm1, hm2, hst, hb2⟩ := names_out hpost
    have HB2 := Lib.hid hb2
    have HL := Lib.hid (And.intro hr (And.intro hnl (And.intro hm1 (And.intro hm2 hst))))
    clear hpost hb2 hr hnl hm1 hm2 hst q0 q1 q2 q3 q4 q5 q6 q7 q8 q9 q10 q11 q12 q13
    obtain ⟨q0, q1, q2, q3, q4, q5, q6, q7, q8, q9, q10, q11, q12, q13⟩ := HK.out w2 HB2.out
    go_wp2_with fail
    refine (dnames_any t A ca B cb K ck w2 (HX.out.2.1.on HB2.out) HWF.out.1).mono ?_
    rintro e w3 ⟨P', c', l', rfl, hr', hnl', hm1', hm2', hst', hb3⟩
    have HB3 := Lib.hid (And.intro (HB2.out.then_ hb3) hb3)
    have hll : l = l' := rise_unique HL.out.1 hr' fun s => by
      cases hg : greatT t with
      | true => rw [HL.out.2.2.1 hg, hm1' hg]
      | false => rw [HL.out.2.2.2.1 hg s, hm2' hg s]
    have HT := Lib.hid (texts_any l l' P c P' c' w3 (HL.out.2.2.2.2.on hb3) hst' (by have := HL.out.2.1; omega) (by omega))
    have HLL := Lib.hid hll
    clear hb3 hr' hnl' hm1' hm2' hst' hll q0 q1 q2 q3 q4 q5 q6 q7 q8 q9 q10 q11 q12 q13
    go_wp2_with fail
    refine HT.out.mono ?_
    rintro e w4 ⟨rfl, hb4⟩
    have HB4 := Lib.hid (HB3.out.1.then_ (drew_below hb4))
    clear hb4
    go_wp2_with fail
    go_ret
    exact ⟨by rw [decide_eq_true HLL.out]; rfl, HX.out.1.then_ HB4.out⟩
  · go_enter Tryz.func24, Tryz.ntmps24
    go_upto_region 1 with fail
    rw [← HW1.out]
    obtain ⟨q0, q1, q2, q3, q4, q5, q6, q7, q8, q9, q10, q11, q12, q13⟩ := HK.out W1 (Below.refl _ _)
    go_wp2_with fail
    refine (dsize_any t A ca B cb K ck W1 HX.out.2.1 HWF.out.1).mono ?_
    rintro e w2 ⟨rfl, hb2⟩
    have HB2 := Lib.hid hb2
    clear hb2 q0 q1 q2 q3 q4 q5 q6 q7 q8 q9 q10 q11 q12 q13
    obtain ⟨q0, q1, q2, q3, q4, q5, q6, q7, q8, q9, q10, q11, q12, q13⟩ := HK.out w2 HB2.out
    cases hg : greatT t with
    | true =>
      have hs : sizeT t = (4097, 257) := by unfold sizeT; rw [if_pos hg]
      rw [hs]
      clear hg hs
      go_wp2_with fail
      refine (copy_any t A ca B cb K ck w2 (HX.out.2.1.on HB2.out) HWF.out.1).mono ?_
      rintro e w4 hpost
      obtain ⟨P1, p1, Q1, r1, R1, s1, rfl, ht1, hb4⟩ := copy_out hpost
      have HB4 := Lib.hid (And.intro (HB2.out.then_ hb4) (And.intro ht1 hb4))
      clear hpost ht1 hb4 q0 q1 q2 q3 q4 q5 q6 q7 q8 q9 q10 q11 q12 q13
      obtain ⟨q0, q1, q2, q3, q4, q5, q6, q7, q8, q9, q10, q11, q12, q13⟩ := HK.out w4 HB4.out.1
      go_upto_region 21 with fail
      obtain ⟨W5, e5⟩ : ∃ W5, W5 = w4.alloc (.cells (tmCells (cpT t) P1 p1 Q1 r1 R1 s1) TTm) := ⟨_, rfl⟩
      have hb5 : Below w4.heap.size w4 W5 := by rw [e5]; exact (Below.refl _ _).alloc (Nat.le_refl _) _
      have hx5 : W5.heap[w4.heap.size]? = some (.cells (tmCells (cpT t) P1 p1 Q1 r1 R1 s1) TTm (0, 0)) := by rw [e5]; exact heap_alloc_new w4 _
      rw [← e5]
      have HB5 := Lib.hid (And.intro (HB4.out.1.then_ hb5) (And.intro hx5 (HB4.out.2.1.on hb5)))
      clear e5 hx5 hb5 q0 q1 q2 q3 q4 q5 q6 q7 q8 q9 q10 q11 q12 q13
      obtain ⟨q0, q1, q2, q3, q4, q5, q6, q7, q8, q9, q10, q11, q12, q13⟩ := HK.out W5 HB5.out.1
      go_wp2_with fail
      refine (dcopy_any t A ca B cb K ck W5 (HX.out.2.1.on HB5.out.1) HWF.out.1).mono ?_
      rintro e w6 hpost
      obtain ⟨P2, p2, Q2, r2, R2, s2, rfl, ht2, hb6⟩ := copy_out hpost
      have HB6 := Lib.hid (And.intro (HB5.out.1.then_ hb6) (And.intro ht2 hb6))
      clear hpost ht2 hb6 q0 q1 q2 q3 q4 q5 q6 q7 q8 q9 q10 q11 q12 q13
      go_upto_region 22 with fail
      obtain ⟨W7, e7⟩ : ∃ W7, W7 = w6.alloc (.cells (tmCells (cpT t) P2 p2 Q2 r2 R2 s2) TTm) := ⟨_, rfl⟩
      have hb7 : Below w6.heap.size w6 W7 := by rw [e7]; exact (Below.refl _ _).alloc (Nat.le_refl _) _
      have hx7 : W7.heap[w6.heap.size]? = some (.cells (tmCells (cpT t) P2 p2 Q2 r2 R2 s2) TTm (0, 0)) := by rw [e7]; exact heap_alloc_new w6 _
      rw [← e7]
      have hz1 := ((HB6.out.2.2.then_ hb7).block _ (heap_lt HB5.out.2.1)).trans HB5.out.2.1
      obtain ⟨k0, k1, k2, k3, k4, k5⟩ : W7.cell? ⟨w4.heap.size, 0, none⟩ = some (.int .i64 (cpT t).kind) ∧ W7.cell? ⟨w4.heap.size, 1, none⟩ = some (.string (cpT t).text) ∧ W7.cell? ⟨w4.heap.size, 2, none⟩ = some (.int .i64 (cpT t).n) ∧ W7.cell? ⟨w4.heap.size, 3, none⟩ = some (.slice P1 (cpT t).sh.length p1) ∧ W7.cell? ⟨w4.heap.size, 4, none⟩ = some (.slice Q1 (cpT t).at_.length r1) ∧ W7.cell? ⟨w4.heap.size, 5, none⟩ = some (.slice R1 (cpT t).kids.length s1) := ⟨cell_at hz1 rfl, cell_at hz1 rfl, cell_at hz1 rfl, cell_at hz1 rfl, cell_at hz1 rfl, cell_at hz1 rfl⟩
      obtain ⟨m0, m1, m2, m3, m4, m5⟩ : W7.cell? ⟨w6.heap.size, 0, none⟩ = some (.int .i64 (cpT t).kind) ∧ W7.cell? ⟨w6.heap.size, 1, none⟩ = some (.string (cpT t).text) ∧ W7.cell? ⟨w6.heap.size, 2, none⟩ = some (.int .i64 (cpT t).n) ∧ W7.cell? ⟨w6.heap.size, 3, none⟩ = some (.slice P2 (cpT t).sh.length p2) ∧ W7.cell? ⟨w6.heap.size, 4, none⟩ = some (.slice Q2 (cpT t).at_.length r2) ∧ W7.cell? ⟨w6.heap.size, 5, none⟩ = some (.slice R2 (cpT t).kids.length s2) := ⟨cell_at hx7 rfl, cell_at hx7 rfl, cell_at hx7 rfl, cell_at hx7 rfl, cell_at hx7 rfl, cell_at hx7 rfl⟩
      have HEQ := Lib.hid (eq_any (cpT t) P1 p1 Q1 r1 R1 s1 P2 p2 Q2 r2 R2 s2 W7 (HB5.out.2.2.on (HB6.out.2.2.then_ hb7)) (HB6.out.2.1.on hb7) (cpT_ok HWF.out.1).1 (cpT_ok HWF.out.1).2)
      have HB7 := Lib.hid (HB6.out.1.then_ hb7)
      clear e7 hx7 hb7 hz1
      go_wp2_with fail
      refine HEQ.out.mono ?_
      rintro e w8 ⟨rfl, hb8⟩
      have HB8 := Lib.hid (HB7.out.then_ hb8)
      clear hb8 k0 k1 k2 k3 k4 k5 m0 m1 m2 m3 m4 m5
      go_wp2_with fail
      go_ret
      exact ⟨by simp, HX.out.1.then_ HB8.out⟩
    | false =>
      obtain ⟨hs, hn1, hd1⟩ := size_small hg
      rw [hs]
      have e1 : ((cnt t : Nat) : Int) ≤ 4096 := by omega
      clear hg hs hd1
      go_wp2_with fail
      refine (light_any t A ca B cb K ck w2 (HX.out.2.1.on HB2.out) HWF.out.1).mono ?_
      rintro e w3 ⟨⟨b, rfl, _⟩, hb3⟩
      have HB3 := Lib.hid (HB2.out.then_ hb3)
      clear hb3 q0 q1 q2 q3 q4 q5 q6 q7 q8 q9 q10 q11 q12 q13
      obtain ⟨q0, q1, q2, q3, q4, q5, q6, q7, q8, q9, q10, q11, q12, q13⟩ := HK.out w3 HB3.out
      cases b with
      | false =>
        go_wp2_with fail
        go_ret
        exact ⟨rfl, HX.out.1.then_ HB3.out⟩
      | true =>
        go_wp2_with fail
        refine (copy_any t A ca B cb K ck w3 (HX.out.2.1.on HB3.out) HWF.out.1).mono ?_
        rintro e w4 hpost
        obtain ⟨P1, p1, Q1, r1, R1, s1, rfl, ht1, hb4⟩ := copy_out hpost
        have HB4 := Lib.hid (And.intro (HB3.out.then_ hb4) (And.intro ht1 hb4))
        clear hpost ht1 hb4 q0 q1 q2 q3 q4 q5 q6 q7 q8 q9 q10 q11 q12 q13
        obtain ⟨q0, q1, q2, q3, q4, q5, q6, q7, q8, q9, q10, q11, q12, q13⟩ := HK.out w4 HB4.out.1
        go_upto_region 21 with fail
        obtain ⟨W5, e5⟩ : ∃ W5, W5 = w4.alloc (.cells (tmCells (cpT t) P1 p1 Q1 r1 R1 s1) TTm) := ⟨_, rfl⟩
        have hb5 : Below w4.heap.size w4 W5 := by rw [e5]; exact (Below.refl _ _).alloc (Nat.le_refl _) _
        have hx5 : W5.heap[w4.heap.size]? = some (.cells (tmCells (cpT t) P1 p1 Q1 r1 R1 s1) TTm (0, 0)) := by rw [e5]; exact heap_alloc_new w4 _
        rw [← e5]
        have HB5 := Lib.hid (And.intro (HB4.out.1.then_ hb5) (And.intro hx5 (HB4.out.2.1.on hb5)))
        clear e5 hx5 hb5 q0 q1 q2 q3 q4 q5 q6 q7 q8 q9 q10 q11 q12 q13
        obtain ⟨q0, q1, q2, q3, q4, q5, q6, q7, q8, q9, q10, q11, q12, q13⟩ := HK.out W5 HB5.out.1
        go_wp2_with fail
        refine (dcopy_any t A ca B cb K ck W5 (HX.out.2.1.on HB5.out.1) HWF.out.1).mono ?_
        rintro e w6 hpost
        obtain ⟨P2, p2, Q2, r2, R2, s2, rfl, ht2, hb6⟩ := copy_out hpost
        have HB6 := Lib.hid (And.intro (HB5.out.1.then_ hb6) (And.intro ht2 hb6))
        clear hpost ht2 hb6 q0 q1 q2 q3 q4 q5 q6 q7 q8 q9 q10 q11 q12 q13
        go_upto_region 22 with fail
        obtain ⟨W7, e7⟩ : ∃ W7, W7 = w6.alloc (.cells (tmCells (cpT t) P2 p2 Q2 r2 R2 s2) TTm) := ⟨_, rfl⟩
        have hb7 : Below w6.heap.size w6 W7 := by rw [e7]; exact (Below.refl _ _).alloc (Nat.le_refl _) _
        have hx7 : W7.heap[w6.heap.size]? = some (.cells (tmCells (cpT t) P2 p2 Q2 r2 R2 s2) TTm (0, 0)) := by rw [e7]; exact heap_alloc_new w6 _
        rw [← e7]
        have hz1 := ((HB6.out.2.2.then_ hb7).block _ (heap_lt HB5.out.2.1)).trans HB5.out.2.1
        obtain ⟨k0, k1, k2, k3, k4, k5⟩ : W7.cell? ⟨w4.heap.size, 0, none⟩ = some (.int .i64 (cpT t).kind) ∧ W7.cell? ⟨w4.heap.size, 1, none⟩ = some (.string (cpT t).text) ∧ W7.cell? ⟨w4.heap.size, 2, none⟩ = some (.int .i64 (cpT t).n) ∧ W7.cell? ⟨w4.heap.size, 3, none⟩ = some (.slice P1 (cpT t).sh.length p1) ∧ W7.cell? ⟨w4.heap.size, 4, none⟩ = some (.slice Q1 (cpT t).at_.length r1) ∧ W7.cell? ⟨w4.heap.size, 5, none⟩ = some (.slice R1 (cpT t).kids.length s1) := ⟨cell_at hz1 rfl, cell_at hz1 rfl, cell_at hz1 rfl, cell_at hz1 rfl, cell_at hz1 rfl, cell_at hz1 rfl⟩
        obtain ⟨m0, m1, m2, m3, m4, m5⟩ : W7.cell? ⟨w6.heap.size, 0, none⟩ = some (.int .i64 (cpT t).kind) ∧ W7.cell? ⟨w6.heap.size, 1, none⟩ = some (.string (cpT t).text) ∧ W7.cell? ⟨w6.heap.size, 2, none⟩ = some (.int .i64 (cpT t).n) ∧ W7.cell? ⟨w6.heap.size, 3, none⟩ = some (.slice P2 (cpT t).sh.length p2) ∧ W7.cell? ⟨w6.heap.size, 4, none⟩ = some (.slice Q2 (cpT t).at_.length r2) ∧ W7.cell? ⟨w6.heap.size, 5, none⟩ = some (.slice R2 (cpT t).kids.length s2) := ⟨cell_at hx7 rfl, cell_at hx7 rfl, cell_at hx7 rfl, cell_at hx7 rfl, cell_at hx7 rfl, cell_at hx7 rfl⟩
        have HEQ := Lib.hid (eq_any (cpT t) P1 p1 Q1 r1 R1 s1 P2 p2 Q2 r2 R2 s2 W7 (HB5.out.2.2.on (HB6.out.2.2.then_ hb7)) (HB6.out.2.1.on hb7) (cpT_ok HWF.out.1).1 (cpT_ok HWF.out.1).2)
        have HB7 := Lib.hid (HB6.out.1.then_ hb7)
        clear e7 hx7 hb7 hz1
        go_wp2_with fail
        refine HEQ.out.mono ?_
        rintro e w8 ⟨rfl, hb8⟩
        have HB8 := Lib.hid (HB7.out.then_ hb8)
        clear hb8 k0 k1 k2 k3 k4 k5 m0 m1 m2 m3 m4 m5
        go_wp2_with fail
        go_ret
        exact ⟨by simp, HX.out.1.then_ HB8.out⟩
  · go_enter Tryz.func24, Tryz.ntmps24
    go_upto_region 1 with fail
    rw [← HW1.out]
    obtain ⟨q0, q1, q2, q3, q4, q5, q6, q7, q8, q9, q10, q11, q12, q13⟩ := HK.out W1 (Below.refl _ _)
    go_wp2_with fail
    go_ret
    exact ⟨rfl, HX.out.1⟩
end Go.Proofs.YteohoodfcgfkeaaGreat
