/- slices.Equal at []int, []int64. Condition: sizes within reach. · term: same, Same. Condition: sizes within reach. -/
import Derived.Test.YtkdejffhdhcocaaGreatTeMW
import Derived.StillTailTactics
namespace Go.Proofs.YtkdejffhdhcocaaGreat
open Go.RowKit

theorem drew_below {w W : World} (h : ∃ q, W = w.drewN q) : Below w.heap.size w W := by
  obtain ⟨q, rfl⟩ := h
  exact bdn (Below.refl _ _) q
theorem drew_more {w W : World} (h : ∃ q, W = w.drewN q) (n : Nat) : ∃ q, W.drewN n = w.drewN q := by
  obtain ⟨q, rfl⟩ := h
  exact ⟨q + n, World.drewN_drewN _ _ _⟩
theorem drew_then {w W W' : World} (h : ∃ q, W = w.drewN q) (h' : ∃ q, W' = W.drewN q) : ∃ q, W' = w.drewN q := by
  obtain ⟨n, rfl⟩ := h'
  exact drew_more h n
theorem dec_cons (a b : Int) (p q : List Int) : decide (a :: p = b :: q) = (decide (a = b) && decide (p = q)) := by
  by_cases h : a = b <;> by_cases h' : p = q <;> simp [h, h']
theorem eq_step {xs ys : List Int} {i : Nat} {x y : Int} (hx : xs[i]? = some x) (hy : ys[i]? = some y) : decide (xs.drop i = ys.drop i) = (decide (x = y) && decide (xs.drop (i + 1) = ys.drop (i + 1))) := by
  obtain ⟨h1, rfl⟩ := List.getElem?_eq_some_iff.1 hx
  obtain ⟨h2, rfl⟩ := List.getElem?_eq_some_iff.1 hy
  rw [List.drop_eq_getElem_cons h1, List.drop_eq_getElem_cons h2]
  exact dec_cons _ _ _ _

set_option maxRecDepth 100000 in
set_option maxHeartbeats 4000000 in
theorem equal_int (xs ys : List Int) (A : Option Addr) (ca : Nat) (B : Option Addr) (cb : Nat) (w : World) (hA : IntsAt w A xs) (hB : IntsAt w B ys) (hl : xs.length ≤ 140737488351232) (hm : ys.length ≤ 140737488351232) :
    Calls Tryz.prog 106 #[.slice A xs.length ca, .slice B ys.length cb] w fun e w' => e = .returned (.bool (decide (xs = ys))) ∧ ∃ m, w' = w.drewN m := by
  have HA := Lib.hid hA
  have HB := Lib.hid hB
  obtain ⟨n, hn⟩ : ∃ n, n = xs.length := ⟨_, rfl⟩
  obtain ⟨m, hmm⟩ : ∃ m, m = ys.length := ⟨_, rfl⟩
  have HN := Lib.hid hn
  have HM := Lib.hid hmm
  rw [← hn] at hl ⊢
  rw [← hmm] at hm ⊢
  clear hA hB hn hmm
  by_cases hnm : n = m
  · have HNM := Lib.hid hnm
    have d0 : ((n : Int) != (m : Int)) = false := by simp; omega
    have hnm1 : n ≤ m := by omega
    clear hnm
    go_enter Tryz.func106, Tryz.ntmps106
    go_wp2_with fail
    clear d0
    go_loopw [13] (fun v W => ∃ i : Nat, i ≤ n ∧ v = .int .i64 i ∧ Hid (decide (xs = ys) = decide (xs.drop i = ys.drop i) ∧ ∃ q, W = w.drewN q)) (fun v _ => n - (intOf v).toNat)
    case atStart => exact ⟨0, Nat.zero_le _, rfl, Lib.hid ⟨rfl, 0, rfl⟩⟩
    case round =>
      obtain ⟨i, hi, rfl, HI⟩ := hrel
      by_cases hlt : i < n
      · obtain ⟨x, hx⟩ : ∃ x, xs[i]? = some x := ⟨_, List.getElem?_eq_getElem (by rw [← HN.out]; exact hlt)⟩
        obtain ⟨y, hy⟩ : ∃ y, ys[i]? = some y := ⟨_, List.getElem?_eq_getElem (by rw [← HM.out]; omega)⟩
        obtain ⟨b1, o1, rfl, l1, c1⟩ := HA.out.on (drew_below HI.out.2) i x hx
        obtain ⟨b2, o2, rfl, l2, c2⟩ := HB.out.on (drew_below HI.out.2) i y hy
        have HS := Lib.hid (eq_step hx hy)
        have q1 : (0 : Int) ≤ (i : Int) := by omega
        have q2 : (i : Int) < (n : Int) := by omega
        have q3 : (i : Int) < (m : Int) := by omega
        clear hx hy
        by_cases hxy : x = y
        · have HE : Hid (decide (xs = ys) = decide (xs.drop (i + 1) = ys.drop (i + 1))) := Lib.hid (by rw [HI.out.1, HS.out, decide_eq_true hxy]; rfl)
          have d1 : (x != y) = false := by simp [hxy]
          clear hxy
          go_wp2_with fail
          go_quiet (fail)
          go_wp2_with fail
          exact ⟨⟨i + 1, by omega, by go_num, Lib.hid ⟨HE.out, drew_more HI.out.2 _⟩⟩, by simp [intOf]; omega⟩
        · have HE : Hid (decide (xs = ys) = false) := Lib.hid (by rw [HI.out.1, HS.out, decide_eq_false hxy]; rfl)
          have d1 : (x != y) = true := by simp [hxy]
          clear hxy
          go_wp2_with fail
          go_quiet (fail)
          go_wp2_with fail
          go_ret
          rw [HE.out]
          exact ⟨rfl, drew_more HI.out.2 _⟩
      · obtain rfl : i = n := by omega
        have HE : Hid (decide (xs = ys) = true) := Lib.hid (by rw [HI.out.1, List.drop_of_length_le (by rw [← HN.out]; exact Nat.le_refl _), List.drop_of_length_le (by rw [← HM.out, ← HNM.out]; exact Nat.le_refl _)]; rfl)
        clear hlt
        go_wp2_with fail
        go_ret
        rw [HE.out]
        exact ⟨rfl, HI.out.2⟩
  · have HE : Hid (decide (xs = ys) = false) := Lib.hid (decide_eq_false fun e => hnm (by rw [HN.out, HM.out, e]))
    have d0 : ((n : Int) != (m : Int)) = true := by simp; omega
    clear hnm
    go_enter Tryz.func106, Tryz.ntmps106
    go_wp2_with fail
    go_ret
    rw [HE.out]
    exact ⟨rfl, 0, rfl⟩
set_option maxRecDepth 100000 in
set_option maxHeartbeats 4000000 in
theorem equal_i64 (xs ys : List Int) (A : Option Addr) (ca : Nat) (B : Option Addr) (cb : Nat) (w : World) (hA : IntsAt w A xs) (hB : IntsAt w B ys) (hl : xs.length ≤ 140737488351232) (hm : ys.length ≤ 140737488351232) :
    Calls Tryz.prog 107 #[.slice A xs.length ca, .slice B ys.length cb] w fun e w' => e = .returned (.bool (decide (xs = ys))) ∧ ∃ m, w' = w.drewN m := by
  have HA := Lib.hid hA
  have HB := Lib.hid hB
  obtain ⟨n, hn⟩ : ∃ n, n = xs.length := ⟨_, rfl⟩
  obtain ⟨m, hmm⟩ : ∃ m, m = ys.length := ⟨_, rfl⟩
  have HN := Lib.hid hn
  have HM := Lib.hid hmm
  rw [← hn] at hl ⊢
  rw [← hmm] at hm ⊢
  clear hA hB hn hmm
  by_cases hnm : n = m
  · have HNM := Lib.hid hnm
    have d0 : ((n : Int) != (m : Int)) = false := by simp; omega
    have hnm1 : n ≤ m := by omega
    clear hnm
    go_enter Tryz.func107, Tryz.ntmps107
    go_wp2_with fail
    clear d0
    go_loopw [13] (fun v W => ∃ i : Nat, i ≤ n ∧ v = .int .i64 i ∧ Hid (decide (xs = ys) = decide (xs.drop i = ys.drop i) ∧ ∃ q, W = w.drewN q)) (fun v _ => n - (intOf v).toNat)
    case atStart => exact ⟨0, Nat.zero_le _, rfl, Lib.hid ⟨rfl, 0, rfl⟩⟩
    case round =>
      obtain ⟨i, hi, rfl, HI⟩ := hrel
      by_cases hlt : i < n
      · obtain ⟨x, hx⟩ : ∃ x, xs[i]? = some x := ⟨_, List.getElem?_eq_getElem (by rw [← HN.out]; exact hlt)⟩
        obtain ⟨y, hy⟩ : ∃ y, ys[i]? = some y := ⟨_, List.getElem?_eq_getElem (by rw [← HM.out]; omega)⟩
        obtain ⟨b1, o1, rfl, l1, c1⟩ := HA.out.on (drew_below HI.out.2) i x hx
        obtain ⟨b2, o2, rfl, l2, c2⟩ := HB.out.on (drew_below HI.out.2) i y hy
        have HS := Lib.hid (eq_step hx hy)
        have q1 : (0 : Int) ≤ (i : Int) := by omega
        have q2 : (i : Int) < (n : Int) := by omega
        have q3 : (i : Int) < (m : Int) := by omega
        clear hx hy
        by_cases hxy : x = y
        · have HE : Hid (decide (xs = ys) = decide (xs.drop (i + 1) = ys.drop (i + 1))) := Lib.hid (by rw [HI.out.1, HS.out, decide_eq_true hxy]; rfl)
          have d1 : (x != y) = false := by simp [hxy]
          clear hxy
          go_wp2_with fail
          go_quiet (fail)
          go_wp2_with fail
          exact ⟨⟨i + 1, by omega, by go_num, Lib.hid ⟨HE.out, drew_more HI.out.2 _⟩⟩, by simp [intOf]; omega⟩
        · have HE : Hid (decide (xs = ys) = false) := Lib.hid (by rw [HI.out.1, HS.out, decide_eq_false hxy]; rfl)
          have d1 : (x != y) = true := by simp [hxy]
          clear hxy
          go_wp2_with fail
          go_quiet (fail)
          go_wp2_with fail
          go_ret
          rw [HE.out]
          exact ⟨rfl, drew_more HI.out.2 _⟩
      · obtain rfl : i = n := by omega
        have HE : Hid (decide (xs = ys) = true) := Lib.hid (by rw [HI.out.1, List.drop_of_length_le (by rw [← HN.out]; exact Nat.le_refl _), List.drop_of_length_le (by rw [← HM.out, ← HNM.out]; exact Nat.le_refl _)]; rfl)
        clear hlt
        go_wp2_with fail
        go_ret
        rw [HE.out]
        exact ⟨rfl, HI.out.2⟩
  · have HE : Hid (decide (xs = ys) = false) := Lib.hid (decide_eq_false fun e => hnm (by rw [HN.out, HM.out, e]))
    have d0 : ((n : Int) != (m : Int)) = true := by simp; omega
    clear hnm
    go_enter Tryz.func107, Tryz.ntmps107
    go_wp2_with fail
    go_ret
    rw [HE.out]
    exact ⟨rfl, 0, rfl⟩
end Go.Proofs.YtkdejffhdhcocaaGreat

namespace Go.Proofs.YtkdejffhdhcocaaGreat
open Go.RowKit

theorem eqT_node (a b : Tm) : eqT a b = (decide (a.kind = b.kind) && decide (a.text = b.text) && decide (a.n = b.n) && decide (a.sh = b.sh) && decide (a.at_ = b.at_) && eqL a.kids b.kids) := by
  cases a; cases b
  simp only [eqT, Tm.kind, Tm.text, Tm.n, Tm.sh, Tm.at_, Tm.kids]
  rfl
theorem eqL_len : ∀ (p q : List Tm), p.length ≠ q.length → eqL p q = false
  | [], [], h => absurd rfl h
  | _ :: p, _ :: q, h => by rw [eqL, eqL_len p q (by simpa using h), Bool.and_false]
  | [], _ :: _, _ => rfl
  | _ :: _, [], _ => rfl
theorem eqL_step {p q : List Tm} {i : Nat} {a b : Tm} (h : p[i]? = some a) (h' : q[i]? = some b) : eqL (p.drop i) (q.drop i) = (eqT a b && eqL (p.drop (i + 1)) (q.drop (i + 1))) := by
  obtain ⟨hl, rfl⟩ := List.getElem?_eq_some_iff.1 h
  obtain ⟨hl', rfl⟩ := List.getElem?_eq_some_iff.1 h'
  rw [List.drop_eq_getElem_cons hl, List.drop_eq_getElem_cons hl', eqL]
theorem str_eq {a b : ByteArray} (h : a = b) : (a.toList == b.toList) = true := by rw [h]; exact beq_self_eq_true _
theorem str_ne {a b : ByteArray} (h : ¬ a = b) : (a.toList == b.toList) = false := beq_eq_false_iff_ne.2 fun e => h (by
  rw [Lib.toList_data, Lib.toList_data] at e
  exact ByteArray.ext (Array.toList_inj.1 e))
set_option maxRecDepth 100000 in
set_option maxHeartbeats 16000000 in
theorem same_any (N : Nat) : ∀ (t u : Tm) (b off b' off' : Nat) (w : World), cnt t ≤ N → PtrAt w b off t → PtrAt w b' off' u → WfT t → WfT u →
    Calls Tryz.prog 73 #[.pointer (some ⟨b, off, none⟩), .pointer (some ⟨b', off', none⟩)] w fun e w' => e = .returned (.bool (eqT t u)) ∧ ∃ m, w' = w.drewN m := by
  induction N with
  | zero => intro t u b off b' off' w h; cases t; simp [cnt] at h
  | succ N ih =>
    intro t u b off b' off' w hN hp hp' hwf hwf'
    obtain ⟨A, ca, B, cb, K, ck, hlt, k0, k1, k2, k3, k4, k5, hat⟩ := hp.cells
    obtain ⟨A', ca', B', cb', K', ck', hlt', k0', k1', k2', k3', k4', k5', hat'⟩ := hp'.cells
    have hk := hwf.node.kids
    have hk' := hwf'.node.kids
    have IH := Lib.hid ih
    have HE := Lib.hid (eqT_node t u)
    have HWF := Lib.hid hwf
    have HWF' := Lib.hid hwf'
    have HAT := Lib.hid hat
    have HAT' := Lib.hid hat'
    have HNN := Lib.hid hN
    have HP := Lib.hid (And.intro hp hp')
    have k4e : w.cell? ⟨b, off + 3 + 1, none⟩ = some (.slice B t.at_.length cb) := k4
    have k4e' : w.cell? ⟨b', off' + 3 + 1, none⟩ = some (.slice B' u.at_.length cb') := k4'
    clear ih hwf hwf' hat hat' hN hp hp' k4 k4'
    by_cases h1 : t.kind = u.kind
    case neg =>
      have d1 : (t.kind != u.kind) = true := by simp [h1]
      have HR : Hid (eqT t u = false) := Lib.hid (by rw [HE.out, decide_eq_false h1]; rfl)
      clear h1
      go_enter Tryz.func73, Tryz.ntmps73
      go_wp2_with fail
      refine wp_region_quiet_lit (by kernel_rfl) (by kernel_rfl) ?_
      simp only [List.cons_append, List.nil_append, List.append_eq]
      repeat (go_big_quiet_step (first | (go_at_call 106; exact Calls.quiet_of (equal_int t.sh u.sh A ca A' ca' _ (HAT.out.sh.on (bdn (Below.refl _ _) _)) (HAT'.out.sh.on (bdn (Below.refl _ _) _)) HWF.out.node.sh HWF'.out.node.sh)) | (go_at_call 107; exact Calls.quiet_of (equal_i64 t.at_ u.at_ B cb B' cb' _ (HAT.out.at_.on (bdn (Below.refl _ _) _)) (HAT'.out.at_.on (bdn (Below.refl _ _) _)) HWF.out.node.at_ HWF'.out.node.at_))))
      refine wpQuiet_nil ?_
      intro _ hw'
      obtain ⟨nq, hw''⟩ := hw'
      subst hw''
      go_wp2_with fail
      go_ret
      rw [HR.out]
      exact ⟨rfl, _, rfl⟩
    have d1 : (t.kind != u.kind) = false := by simp [h1]
    have H1 := Lib.hid h1
    clear h1
    by_cases h2 : t.text = u.text
    case neg =>
      have d2 : (t.text.toList == u.text.toList) = false := str_ne h2
      have HR : Hid (eqT t u = false) := Lib.hid (by rw [HE.out, decide_eq_false h2]; simp)
      clear h2
      go_enter Tryz.func73, Tryz.ntmps73
      go_wp2_with fail
      refine wp_region_quiet_lit (by kernel_rfl) (by kernel_rfl) ?_
      simp only [List.cons_append, List.nil_append, List.append_eq]
      repeat (go_big_quiet_step (first | (go_at_call 106; exact Calls.quiet_of (equal_int t.sh u.sh A ca A' ca' _ (HAT.out.sh.on (bdn (Below.refl _ _) _)) (HAT'.out.sh.on (bdn (Below.refl _ _) _)) HWF.out.node.sh HWF'.out.node.sh)) | (go_at_call 107; exact Calls.quiet_of (equal_i64 t.at_ u.at_ B cb B' cb' _ (HAT.out.at_.on (bdn (Below.refl _ _) _)) (HAT'.out.at_.on (bdn (Below.refl _ _) _)) HWF.out.node.at_ HWF'.out.node.at_))))
      refine wpQuiet_nil ?_
      intro _ hw'
      obtain ⟨nq, hw''⟩ := hw'
      subst hw''
      go_wp2_with fail
      go_ret
      rw [HR.out]
      exact ⟨rfl, _, rfl⟩
    have d2 : (t.text.toList == u.text.toList) = true := str_eq h2
    have H2 := Lib.hid h2
    clear h2
    by_cases h3 : t.n = u.n
    case neg =>
      have d3 : (t.n != u.n) = true := by simp [h3]
      have HR : Hid (eqT t u = false) := Lib.hid (by rw [HE.out, decide_eq_false h3]; simp)
      clear h3
      go_enter Tryz.func73, Tryz.ntmps73
      go_wp2_with fail
      refine wp_region_quiet_lit (by kernel_rfl) (by kernel_rfl) ?_
      simp only [List.cons_append, List.nil_append, List.append_eq]
      repeat (go_big_quiet_step (first | (go_at_call 106; exact Calls.quiet_of (equal_int t.sh u.sh A ca A' ca' _ (HAT.out.sh.on (bdn (Below.refl _ _) _)) (HAT'.out.sh.on (bdn (Below.refl _ _) _)) HWF.out.node.sh HWF'.out.node.sh)) | (go_at_call 107; exact Calls.quiet_of (equal_i64 t.at_ u.at_ B cb B' cb' _ (HAT.out.at_.on (bdn (Below.refl _ _) _)) (HAT'.out.at_.on (bdn (Below.refl _ _) _)) HWF.out.node.at_ HWF'.out.node.at_))))
      refine wpQuiet_nil ?_
      intro _ hw'
      obtain ⟨nq, hw''⟩ := hw'
      subst hw''
      go_wp2_with fail
      go_ret
      rw [HR.out]
      exact ⟨rfl, _, rfl⟩
    have d3 : (t.n != u.n) = false := by simp [h3]
    have H3 := Lib.hid h3
    clear h3
    by_cases h4 : t.sh = u.sh
    case neg =>
      have d4 : decide (t.sh = u.sh) = false := decide_eq_false h4
      have HR : Hid (eqT t u = false) := Lib.hid (by rw [HE.out, decide_eq_false h4]; simp)
      clear h4
      go_enter Tryz.func73, Tryz.ntmps73
      go_wp2_with fail
      refine wp_region_quiet_lit (by kernel_rfl) (by kernel_rfl) ?_
      simp only [List.cons_append, List.nil_append, List.append_eq]
      repeat (go_big_quiet_step (first | (go_at_call 106; exact Calls.quiet_of (equal_int t.sh u.sh A ca A' ca' _ (HAT.out.sh.on (bdn (Below.refl _ _) _)) (HAT'.out.sh.on (bdn (Below.refl _ _) _)) HWF.out.node.sh HWF'.out.node.sh)) | (go_at_call 107; exact Calls.quiet_of (equal_i64 t.at_ u.at_ B cb B' cb' _ (HAT.out.at_.on (bdn (Below.refl _ _) _)) (HAT'.out.at_.on (bdn (Below.refl _ _) _)) HWF.out.node.at_ HWF'.out.node.at_))))
      refine wpQuiet_nil ?_
      intro _ hw'
      obtain ⟨nq, hw''⟩ := hw'
      subst hw''
      go_wp2_with fail
      go_ret
      rw [HR.out]
      exact ⟨rfl, _, rfl⟩
    have d4 : decide (t.sh = u.sh) = true := decide_eq_true h4
    have H4 := Lib.hid h4
    clear h4
    by_cases h5 : t.at_ = u.at_
    case neg =>
      have d5 : decide (t.at_ = u.at_) = false := decide_eq_false h5
      have HR : Hid (eqT t u = false) := Lib.hid (by rw [HE.out, decide_eq_false h5]; simp)
      clear h5
      go_enter Tryz.func73, Tryz.ntmps73
      go_wp2_with fail
      refine wp_region_quiet_lit (by kernel_rfl) (by kernel_rfl) ?_
      simp only [List.cons_append, List.nil_append, List.append_eq]
      repeat (go_big_quiet_step (first | (go_at_call 106; exact Calls.quiet_of (equal_int t.sh u.sh A ca A' ca' _ (HAT.out.sh.on (bdn (Below.refl _ _) _)) (HAT'.out.sh.on (bdn (Below.refl _ _) _)) HWF.out.node.sh HWF'.out.node.sh)) | (go_at_call 107; exact Calls.quiet_of (equal_i64 t.at_ u.at_ B cb B' cb' _ (HAT.out.at_.on (bdn (Below.refl _ _) _)) (HAT'.out.at_.on (bdn (Below.refl _ _) _)) HWF.out.node.at_ HWF'.out.node.at_))))
      refine wpQuiet_nil ?_
      intro _ hw'
      obtain ⟨nq, hw''⟩ := hw'
      subst hw''
      go_wp2_with fail
      go_ret
      rw [HR.out]
      exact ⟨rfl, _, rfl⟩
    have d5 : decide (t.at_ = u.at_) = true := decide_eq_true h5
    have H5 := Lib.hid h5
    clear h5
    obtain ⟨n, hn⟩ : ∃ n, n = t.kids.length := ⟨_, rfl⟩
    obtain ⟨m, hm⟩ : ∃ m, m = u.kids.length := ⟨_, rfl⟩
    have HN := Lib.hid hn
    have HM := Lib.hid hm
    rw [← hn] at k5 hk
    rw [← hm] at k5' hk'
    clear hn hm
    by_cases h6 : n = m
    case neg =>
      have d6 : ((n : Int) != (m : Int)) = true := by simp; omega
      have HR : Hid (eqT t u = false) := Lib.hid (by rw [HE.out, eqL_len _ _ (by rw [← HN.out, ← HM.out]; exact h6)]; simp)
      clear h6
      go_enter Tryz.func73, Tryz.ntmps73
      go_wp2_with fail
      refine wp_region_quiet_lit (by kernel_rfl) (by kernel_rfl) ?_
      simp only [List.cons_append, List.nil_append, List.append_eq]
      repeat (go_big_quiet_step (first | (go_at_call 106; exact Calls.quiet_of (equal_int t.sh u.sh A ca A' ca' _ (HAT.out.sh.on (bdn (Below.refl _ _) _)) (HAT'.out.sh.on (bdn (Below.refl _ _) _)) HWF.out.node.sh HWF'.out.node.sh)) | (go_at_call 107; exact Calls.quiet_of (equal_i64 t.at_ u.at_ B cb B' cb' _ (HAT.out.at_.on (bdn (Below.refl _ _) _)) (HAT'.out.at_.on (bdn (Below.refl _ _) _)) HWF.out.node.at_ HWF'.out.node.at_))))
      refine wpQuiet_nil ?_
      intro _ hw'
      obtain ⟨nq, hw''⟩ := hw'
      subst hw''
      go_wp2_with fail
      go_ret
      rw [HR.out]
      exact ⟨rfl, _, rfl⟩
    have d6 : ((n : Int) != (m : Int)) = false := by simp; omega
    have H6 := Lib.hid h6
    have h6' : n ≤ m := by omega
    have HR : Hid (eqT t u = eqL (t.kids.drop 0) (u.kids.drop 0)) := Lib.hid (by rw [HE.out, decide_eq_true H1.out, decide_eq_true H2.out, decide_eq_true H3.out, decide_eq_true H4.out, decide_eq_true H5.out]; rfl)
    have HK5 : Hid (∀ W, (∃ q, W = w.drewN q) → W.cell? ⟨b, off + 5, none⟩ = some (.slice K n ck) ∧ W.cell? ⟨b', off' + 5, none⟩ = some (.slice K' n ck')) := Lib.hid fun W h => ⟨((drew_below h).cell (p := ⟨b, off + 5, none⟩) hlt).trans k5, ((drew_below h).cell (p := ⟨b', off' + 5, none⟩) hlt').trans (by rw [H6.out]; exact k5')⟩
    clear h6
    go_enter Tryz.func73, Tryz.ntmps73
    go_wp2_with fail
    refine wp_region_quiet_lit (by kernel_rfl) (by kernel_rfl) ?_
    simp only [List.cons_append, List.nil_append, List.append_eq]
    repeat (go_big_quiet_step (first | (go_at_call 106; exact Calls.quiet_of (equal_int t.sh u.sh A ca A' ca' _ (HAT.out.sh.on (bdn (Below.refl _ _) _)) (HAT'.out.sh.on (bdn (Below.refl _ _) _)) HWF.out.node.sh HWF'.out.node.sh)) | (go_at_call 107; exact Calls.quiet_of (equal_i64 t.at_ u.at_ B cb B' cb' _ (HAT.out.at_.on (bdn (Below.refl _ _) _)) (HAT'.out.at_.on (bdn (Below.refl _ _) _)) HWF.out.node.at_ HWF'.out.node.at_))))
    refine wpQuiet_nil ?_
    intro _ hw'
    obtain ⟨nq, hw''⟩ := hw'
    subst hw''
    go_wp2_with fail
    generalize hW : World.drewN w _ = W0
    have HW0 : Hid (∃ q, W0 = w.drewN q) := Lib.hid ⟨_, hW.symm⟩
    clear hW d1 d2 d3 d4 d5 d6 k0 k1 k2 k3 k4e k5 k0' k1' k2' k3' k4e' k5'
    go_loopw [83] (fun v W => ∃ i : Nat, i ≤ n ∧ v = .int .i64 i ∧ Hid (eqT t u = eqL (t.kids.drop i) (u.kids.drop i) ∧ ∃ q, W = w.drewN q)) (fun v _ => n - (intOf v).toNat)
    case atStart => exact ⟨0, Nat.zero_le _, rfl, Lib.hid ⟨HR.out, HW0.out⟩⟩
    case round =>
      obtain ⟨i, hi, rfl, HI⟩ := hrel
      obtain ⟨q5, q5'⟩ := HK5.out _ HI.out.2
      by_cases hlt2 : i < n
      · obtain ⟨x, hx⟩ : ∃ x, t.kids[i]? = some x := ⟨_, List.getElem?_eq_getElem (by rw [← HN.out]; exact hlt2)⟩
        obtain ⟨y, hy⟩ : ∃ y, u.kids[i]? = some y := ⟨_, List.getElem?_eq_getElem (by rw [← HM.out]; omega)⟩
        obtain ⟨b1, o1, rfl, p1⟩ := (HAT.out.kids.on (drew_below HI.out.2)).get hx
        obtain ⟨b2, o2, rfl, p2⟩ := (HAT'.out.kids.on (drew_below HI.out.2)).get hy
        rw [Nat.zero_add] at p1 p2
        have HS := Lib.hid (eqL_step hx hy)
        have HC : Hid (cnt x ≤ N) := Lib.hid (by have := cnt_kid hx; have := HNN.out; omega)
        have HX : Hid (WfT x ∧ WfT y) := Lib.hid ⟨HWF.out.node.each x (List.mem_of_getElem? hx), HWF'.out.node.each y (List.mem_of_getElem? hy)⟩
        have HPP := Lib.hid (And.intro p1 p2)
        have z1 : (0 : Int) ≤ (i : Int) := by omega
        have z2 : (i : Int) < (n : Int) := by omega
        clear hx hy p1 p2
        cases hf : eqT x y with
        | false =>
          have HR2 : Hid (eqT t u = false) := Lib.hid (by rw [HI.out.1, HS.out, hf]; rfl)
          go_wp2_with fail
          go_quiet ((go_at_call 73; exact Calls.quiet_of (IH.out x y b1 (o1 + i * 6) b2 (o2 + i * 6) _ HC.out (HPP.out.1.on (bdn (Below.refl _ _) _)) (HPP.out.2.on (bdn (Below.refl _ _) _)) HX.out.1 HX.out.2)))
          rw [hf]
          go_wp2_with fail
          go_ret
          rw [HR2.out]
          exact ⟨rfl, drew_more HI.out.2 _⟩
        | true =>
          have HR2 : Hid (eqT t u = eqL (t.kids.drop (i + 1)) (u.kids.drop (i + 1))) := Lib.hid (by rw [HI.out.1, HS.out, hf]; rfl)
          go_wp2_with fail
          go_quiet ((go_at_call 73; exact Calls.quiet_of (IH.out x y b1 (o1 + i * 6) b2 (o2 + i * 6) _ HC.out (HPP.out.1.on (bdn (Below.refl _ _) _)) (HPP.out.2.on (bdn (Below.refl _ _) _)) HX.out.1 HX.out.2)))
          rw [hf]
          go_wp2_with fail
          exact ⟨⟨i + 1, by omega, by go_num, Lib.hid ⟨HR2.out, drew_more HI.out.2 _⟩⟩, by simp [intOf]; omega⟩
      · obtain rfl : i = n := by omega
        have HR2 : Hid (eqT t u = true) := Lib.hid (by rw [HI.out.1, List.drop_of_length_le (by rw [← HN.out]; exact Nat.le_refl _), List.drop_of_length_le (by rw [← HM.out, ← H6.out]; exact Nat.le_refl _)]; rfl)
        clear hlt2
        go_wp2_with fail
        go_ret
        rw [HR2.out]
        exact ⟨rfl, HI.out.2⟩
end Go.Proofs.YtkdejffhdhcocaaGreat
