/- term: good, May, Same. Condition: sizes within reach. -/
import Derived.Test.YtkdejffhdhcocaaGreatTeW6
import Derived.Test.YtkdejffhdhcocaaGreatTeMQ
namespace Go.Proofs.YtkdejffhdhcocaaGreat
open Go.RowKit

set_option maxRecDepth 100000 in
set_option maxHeartbeats 8000000 in
theorem sameV_any (t u : Tm) (A : Option Addr) (ca : Nat) (B : Option Addr) (cb : Nat) (K : Option Addr) (ck : Nat) (A' : Option Addr) (ca' : Nat) (B' : Option Addr) (cb' : Nat) (K' : Option Addr) (ck' : Nat) (w : World) (hat : TmAt w t A B K) (hat' : TmAt w u A' B' K') (hwf : WfT t) (hwf' : WfT u) :
    Calls Tryz.prog 33 #[tmVal t A ca B cb K ck, tmVal u A' ca' B' cb' K' ck'] w fun e w' => e = .returned (.bool (sameT t u)) ∧ Below w.heap.size w w' := by
  obtain ⟨W2, hW2⟩ : ∃ W2, W2 = (w.alloc (.cells (tmCells t A ca B cb K ck) 38)).alloc (.cells (tmCells u A' ca' B' cb' K' ck') 38) := ⟨_, rfl⟩
  have hb1 : Below w.heap.size w (w.alloc (.cells (tmCells t A ca B cb K ck) 38)) := (Below.refl _ _).alloc (Nat.le_refl _) _
  have hb2 : Below w.heap.size w W2 := by rw [hW2]; exact hb1.alloc hb1.size _
  have hc1 : W2.heap[w.heap.size]? = some (.cells (tmCells t A ca B cb K ck) 38 (0, 0)) := by rw [hW2]; exact (Below.heap_alloc _ _ _ (by simp)).trans (heap_alloc_new w _)
  have hc2 : W2.heap[w.heap.size + 1]? = some (.cells (tmCells u A' ca' B' cb' K' ck') 38 (0, 0)) := by rw [hW2]; exact heap_new2 _ _ _
  have HX := Lib.hid (And.intro hb2 (And.intro hc1 (And.intro hc2 (And.intro (hat.on hb2) (hat'.on hb2)))))
  have HWF := Lib.hid (And.intro hwf hwf')
  have HW2 := Lib.hid hW2
  have HS : Hid (sameT t u = (!greatT t && !greatT u && eqT t u)) := Lib.hid rfl
  have k1 : ∀ W, Below W2.heap.size W2 W → W.cell? ⟨w.heap.size + 1, 0, none⟩ = some (.int .i64 u.kind) ∧ W.cell? ⟨w.heap.size + 1, 1, none⟩ = some (.string u.text) ∧ W.cell? ⟨w.heap.size + 1, 2, none⟩ = some (.int .i64 u.n) ∧ W.cell? ⟨w.heap.size + 1, 3, none⟩ = some (.slice A' u.sh.length ca') ∧ W.cell? ⟨w.heap.size + 1, 4, none⟩ = some (.slice B' u.at_.length cb') ∧ W.cell? ⟨w.heap.size + 1, 5, none⟩ = some (.slice K' u.kids.length ck') := fun W h => by
    have hh := (h.block _ (heap_lt HX.out.2.2.1)).trans HX.out.2.2.1
    exact ⟨cell_at hh rfl, cell_at hh rfl, cell_at hh rfl, cell_at hh rfl, cell_at hh rfl, cell_at hh rfl⟩
  have K1 := Lib.hid k1
  clear hat hat' hwf hwf' hb1 hb2 hc1 hc2 hW2 k1
  cases hg : greatT t with
  | true =>
    have HR : Hid (sameT t u = false) := Lib.hid (by rw [HS.out, hg]; rfl)
    go_enter Tryz.func33, Tryz.ntmps33
    go_wp2_with fail
    rw [← HW2.out]
    refine (great_any t A ca B cb K ck W2 HX.out.2.2.2.1 HWF.out.1).mono ?_
    rintro e w3 ⟨rfl, hb3⟩
    have HB3 := Lib.hid (HX.out.1.then_ hb3)
    rw [hg]
    clear hg hb3
    go_wp2_with fail
    go_ret
    rw [HR.out]
    exact ⟨rfl, HB3.out⟩
  | false =>
    cases hg2 : greatT u with
    | true =>
      have HR : Hid (sameT t u = false) := Lib.hid (by rw [HS.out, hg, hg2]; rfl)
      go_enter Tryz.func33, Tryz.ntmps33
      go_wp2_with fail
      rw [← HW2.out]
      refine (great_any t A ca B cb K ck W2 HX.out.2.2.2.1 HWF.out.1).mono ?_
      rintro e w3 ⟨rfl, hb3⟩
      obtain ⟨q0, q1, q2, q3, q4, q5⟩ := K1.out w3 hb3
      have HB3 := Lib.hid hb3
      rw [hg]
      clear hg hb3
      go_wp2_with fail
      refine (great_any u A' ca' B' cb' K' ck' w3 (HX.out.2.2.2.2.on HB3.out) HWF.out.2).mono ?_
      rintro e w4 ⟨rfl, hb4⟩
      have HB4 := Lib.hid ((HX.out.1.then_ HB3.out).then_ hb4)
      rw [hg2]
      clear hg2 hb4 q0 q1 q2 q3 q4 q5
      go_wp2_with fail
      go_ret
      rw [HR.out]
      exact ⟨rfl, HB4.out⟩
    | false =>
      have HR : Hid (sameT t u = eqT t u) := Lib.hid (by rw [HS.out, hg, hg2]; rfl)
      go_enter Tryz.func33, Tryz.ntmps33
      go_wp2_with fail
      rw [← HW2.out]
      refine (great_any t A ca B cb K ck W2 HX.out.2.2.2.1 HWF.out.1).mono ?_
      rintro e w3 ⟨rfl, hb3⟩
      obtain ⟨q0, q1, q2, q3, q4, q5⟩ := K1.out w3 hb3
      have HB3 := Lib.hid hb3
      rw [hg]
      clear hg hb3
      go_wp2_with fail
      refine (great_any u A' ca' B' cb' K' ck' w3 (HX.out.2.2.2.2.on HB3.out) HWF.out.2).mono ?_
      rintro e w4 ⟨rfl, hb4⟩
      have HB4 := Lib.hid (HB3.out.then_ hb4)
      rw [hg2]
      clear hg2 hb4 q0 q1 q2 q3 q4 q5
      go_wp2_with fail
      refine (same_any (cnt t) t u w.heap.size 0 (w.heap.size + 1) 0 w4 (Nat.le_refl _) ((PtrAt.mk HX.out.2.2.2.1 HX.out.2.1).on HB4.out) ((PtrAt.mk HX.out.2.2.2.2 HX.out.2.2.1).on HB4.out) HWF.out.1 HWF.out.2).mono ?_
      rintro e w5 ⟨rfl, hd⟩
      have HB5 := Lib.hid ((HX.out.1.then_ HB4.out).then_ (drew_below hd))
      clear hd
      go_wp2_with fail
      go_ret
      rw [HR.out]
      exact ⟨rfl, HB5.out⟩

theorem fieldsW_of {t : Tm} {b off : Nat} {w : World} (hp : PtrAt w b off t) (hwf : WfT t) : ∃ A ca B cb, FieldsW t b off w t.kind A ca B cb := by
  obtain ⟨A, ca, B, cb, K, ck, hlt, k0, k1, k2, k3, k4, k5, hat⟩ := hp.cells
  exact ⟨A, ca, B, cb, hlt, k0, k1, k2, k3, k4, hat.sh, hat.at_, hwf.node⟩
theorem fields_any (t : Tm) (b off : Nat) (w : World) (hp : PtrAt w b off t) (hwf : WfT t) : Calls Tryz.prog 104 #[.pointer (some ⟨b, off, none⟩)] w fun e w' => e = .returned (.bool (fieldsB t)) ∧ Below w.heap.size w w' := by
  obtain ⟨A, ca, B, cb, h⟩ := fieldsW_of hp hwf
  have aux : ∀ (k : Int) (x : Bool), t.kind = k → x = fieldsB t → (Calls Tryz.prog 104 #[.pointer (some ⟨b, off, none⟩)] w fun e w' => e = .returned (.bool x) ∧ Below w.heap.size w w') → Calls Tryz.prog 104 #[.pointer (some ⟨b, off, none⟩)] w fun e w' => e = .returned (.bool (fieldsB t)) ∧ Below w.heap.size w w' := fun k x _ e hc => by rw [← e]; exact hc
  by_cases h1 : t.kind = 1
  · rw [h1] at h
    exact aux 1 _ h1 (by unfold fieldsB textB nB numB; rw [h1]; rfl) (fields_k1 t b off A ca B cb w h)
  by_cases h2 : t.kind = 2
  · rw [h2] at h
    exact aux 2 _ h2 (by unfold fieldsB textB nB numB; rw [h2]; rfl) (fields_k2 t b off A ca B cb w h)
  by_cases h3 : t.kind = 11
  · rw [h3] at h
    exact aux 11 _ h3 (by unfold fieldsB textB nB numB; rw [h3]; rfl) (fields_k11 t b off A ca B cb w h)
  by_cases h4 : t.kind = 20
  · rw [h4] at h
    exact aux 20 _ h4 (by unfold fieldsB textB nB numB; rw [h4]; rfl) (fields_k20 t b off A ca B cb w h)
  by_cases h5 : t.kind = 21
  · rw [h5] at h
    exact aux 21 _ h5 (by unfold fieldsB textB nB numB; rw [h5]; rfl) (fields_k21 t b off A ca B cb w h)
  by_cases h6 : t.kind = 23
  · rw [h6] at h
    exact aux 23 _ h6 (by unfold fieldsB textB nB numB; rw [h6]; rfl) (fields_k23 t b off A ca B cb w h)
  by_cases h7 : t.kind = 42
  · rw [h7] at h
    exact aux 42 _ h7 (by unfold fieldsB textB nB numB; rw [h7]; rfl) (fields_k42 t b off A ca B cb w h)
  refine aux _ _ rfl ?_ (fields_other t b off t.kind A ca B cb w h h1 h2 h3 h4 h5 h6 h7)
  unfold fieldsB textB nB numB
  rw [if_neg (by omega), if_neg h4, if_neg h5, if_neg h6, if_neg h1, if_neg h7]
  rfl
theorem goodT_node (b : Bool) (t : Tm) : goodT b t = (nodeB t b && goodL (lowOf t.kind t.n b) t.kids) := by
  cases t
  simp only [goodT, Tm.kind, Tm.n, Tm.kids]
theorem goodL_step {l : List Tm} {i : Nat} {t : Tm} (h : l[i]? = some t) (b : Bool) : goodL b (l.drop i) = (goodT b t && goodL b (l.drop (i + 1))) := by
  obtain ⟨hl, rfl⟩ := List.getElem?_eq_some_iff.1 h
  rw [List.drop_eq_getElem_cons hl, goodL]
theorem cs_false : ∀ a x2 x11 x : Bool, (!(a && (x2 || x11) && x)) = false → a = true ∧ (x2 = true ∨ x2 = false ∧ x11 = true) ∧ x = true := by decide
theorem cs_true : ∀ a x2 x11 x : Bool, (!(a && (x2 || x11) && x)) = true → (a = false) ∨ (a = true ∧ x2 = false ∧ x11 = false) ∨ (a = true ∧ x2 = true ∧ x = false) ∨ (a = true ∧ x2 = false ∧ x11 = true ∧ x = false) := by decide
set_option maxRecDepth 100000 in
set_option maxHeartbeats 16000000 in
theorem good_any (N : Nat) : ∀ (t : Tm) (b off : Nat) (alone : Bool) (w : World), cnt t ≤ N → PtrAt w b off t → WfT t →
    Calls Tryz.prog 72 #[.pointer (some ⟨b, off, none⟩), .bool alone] w fun e w' => e = .returned (.bool (goodT alone t)) ∧ Below w.heap.size w w' := by
  induction N with
  | zero => intro t b off alone w h; cases t; simp [cnt] at h
  | succ N ih =>
    intro t b off alone w hN hp hwf
    obtain ⟨A, ca, B, cb, K, ck, hlt, k0, k1, k2, k3, k4, k5, hat⟩ := hp.cells
    have hk := hwf.node.kids
    have IH := Lib.hid ih
    have HG := Lib.hid (goodT_node alone t)
    have HWF := Lib.hid hwf
    have HAT := Lib.hid hat
    have HNN := Lib.hid hN
    have HP := Lib.hid hp
    have HND : Hid (nodeB t alone = (!decide (cls t.kind = 0) && fieldsB t && kidsB t.kind t.kids && !(alone && (decide (t.kind = 2) || decide (t.kind = 11)) && t.text.data.toList == [120]))) := Lib.hid rfl
    have HCL := Lib.hid (fun (v1 v2 v3 v4 v5 : Value) => class_k t.kind v1 v2 v3 v4 v5 w)
    clear ih hwf hat hN hp
    by_cases h1 : cls t.kind = 0
    · have d1 : (cls t.kind == 0) = true := beq_yes h1
      have HR : Hid (goodT alone t = false) := Lib.hid (by rw [HG.out, HND.out, decide_eq_true h1]; rfl)
      clear h1
      go_enter Tryz.func72, Tryz.ntmps72
      go_wp2_with fail
      refine (HCL.out _ _ _ _ _).mono ?_
      rintro e w1 ⟨rfl, hb1⟩
      have HB1 := Lib.hid hb1
      clear hb1
      go_wp2_with fail
      go_ret
      rw [HR.out]
      exact ⟨rfl, HB1.out⟩
    have d1 : (cls t.kind == 0) = false := beq_no h1
    have H1 : Hid (decide (cls t.kind = 0) = false) := Lib.hid (decide_eq_false h1)
    clear h1
    cases h2 : fieldsB t with
    | false =>
      have HR : Hid (goodT alone t = false) := Lib.hid (by rw [HG.out, HND.out, h2]; simp)
      go_enter Tryz.func72, Tryz.ntmps72
      go_wp2_with fail
      refine (HCL.out _ _ _ _ _).mono ?_
      rintro e w1 ⟨rfl, hb1⟩
      have HB1 := Lib.hid hb1
      clear hb1
      go_wp2_with fail
      refine (fields_any t b off w1 (HP.out.on HB1.out) HWF.out).mono ?_
      rintro e w2 ⟨rfl, hb2⟩
      have HB2 := Lib.hid (HB1.out.then_ hb2)
      rw [h2]
      clear hb2 h2
      go_wp2_with fail
      go_ret
      rw [HR.out]
      exact ⟨rfl, HB2.out⟩
    | true =>
    cases h3 : kidsB t.kind t.kids with
    | false =>
      have HR : Hid (goodT alone t = false) := Lib.hid (by rw [HG.out, HND.out, h3]; simp)
      go_enter Tryz.func72, Tryz.ntmps72
      go_wp2_with fail
      refine (HCL.out _ _ _ _ _).mono ?_
      rintro e w1 ⟨rfl, hb1⟩
      have HB1 := Lib.hid hb1
      clear hb1
      go_wp2_with fail
      refine (fields_any t b off w1 (HP.out.on HB1.out) HWF.out).mono ?_
      rintro e w2 ⟨rfl, hb2⟩
      have HB2 := Lib.hid (HB1.out.then_ hb2)
      rw [h2]
      clear hb2 h2
      go_wp2_with fail
      refine (kids_any t b off w2 (HP.out.on HB2.out) HWF.out).mono ?_
      rintro e w3 ⟨rfl, hb3⟩
      have HB3 := Lib.hid (HB2.out.then_ hb3)
      rw [h3]
      clear hb3 h3
      go_wp2_with fail
      go_ret
      rw [HR.out]
      exact ⟨rfl, HB3.out⟩
    | true =>
    have H2 := Lib.hid h2
    have H3 := Lib.hid h3
    clear h2 h3
    have HK : Hid (∀ W, Below w.heap.size w W → W.cell? ⟨b, off, none⟩ = some (.int .i64 t.kind) ∧ W.cell? ⟨b, off + 1, none⟩ = some (.string t.text) ∧ W.cell? ⟨b, off + 2, none⟩ = some (.int .i64 t.n) ∧ W.cell? ⟨b, off + 5, none⟩ = some (.slice K t.kids.length ck)) := Lib.hid fun W h =>
      ⟨(h.cell (p := ⟨b, off, none⟩) hlt).trans k0, (h.cell (p := ⟨b, off + 1, none⟩) hlt).trans k1, (h.cell (p := ⟨b, off + 2, none⟩) hlt).trans k2, (h.cell (p := ⟨b, off + 5, none⟩) hlt).trans k5⟩
    have HX : Hid (nodeB t alone = !(alone && (t.kind == 2 || t.kind == 11) && t.text.toList == [120])) := Lib.hid (by rw [HND.out, H1.out, H2.out, H3.out, beq_dec, beq_dec, Lib.toList_data]; rfl)
    cases hx : nodeB t alone with
    | false =>
      have HR : Hid (goodT alone t = false) := Lib.hid (by rw [HG.out, hx]; rfl)
      have hx2 := HX.out
      rw [hx] at hx2
      have cs : alone = true ∧ ((t.kind == 2) = true ∨ (t.kind == 2) = false ∧ (t.kind == 11) = true) ∧ (t.text.toList == [120]) = true := cs_false _ _ _ _ hx2.symm
      clear hx hx2
      obtain ⟨rfl, cs2, px⟩ := cs
      rcases cs2 with p2 | ⟨p2, p11⟩
      all_goals
        go_enter Tryz.func72, Tryz.ntmps72
        go_wp2_with fail
        refine (HCL.out _ _ _ _ _).mono ?_
        rintro e w1 ⟨rfl, hb1⟩
        have HB1 := Lib.hid hb1
        clear hb1
        go_wp2_with fail
        refine (fields_any t b off w1 (HP.out.on HB1.out) HWF.out).mono ?_
        rintro e w2 ⟨rfl, hb2⟩
        have HB2 := Lib.hid (HB1.out.then_ hb2)
        rw [H2.out]
        clear hb2
        go_wp2_with fail
        refine (kids_any t b off w2 (HP.out.on HB2.out) HWF.out).mono ?_
        rintro e w3 ⟨rfl, hb3⟩
        have HB3 := Lib.hid (HB2.out.then_ hb3)
        rw [H3.out]
        obtain ⟨m0, m1, m2, m5⟩ := HK.out w3 HB3.out
        clear hb3
        go_wp2_with fail
        go_ret
        rw [HR.out]
        exact ⟨rfl, HB3.out⟩
    | true =>
      have hx2 := HX.out
      rw [hx] at hx2
      have HX3 := Lib.hid hx
      have cs : (alone = false) ∨ (alone = true ∧ (t.kind == 2) = false ∧ (t.kind == 11) = false) ∨ (alone = true ∧ (t.kind == 2) = true ∧ (t.text.toList == [120]) = false) ∨ (alone = true ∧ (t.kind == 2) = false ∧ (t.kind == 11) = true ∧ (t.text.toList == [120]) = false) := cs_true _ _ _ _ hx2.symm
      have cs2 : ((t.kind == 23) = false ∧ lowOf t.kind t.n alone = alone) ∨ ((t.kind == 23) = true ∧ (t.n == 1) = true ∧ lowOf t.kind t.n alone = true) ∨ ((t.kind == 23) = true ∧ (t.n == 1) = false ∧ lowOf t.kind t.n alone = false) := by
        unfold lowOf
        by_cases q : t.kind = 23
        · rw [q, if_pos rfl]
          by_cases q1 : t.n = 1
          · rw [q1]; exact .inr (.inl ⟨rfl, rfl, rfl⟩)
          · rw [decide_eq_false q1]; exact .inr (.inr ⟨rfl, beq_no q1, rfl⟩)
        · rw [if_neg q]; exact .inl ⟨beq_no q, rfl⟩
      clear hx hx2
      rcases cs with rfl | ⟨rfl, p2, p11⟩ | ⟨rfl, p2, px⟩ | ⟨rfl, p2, p11, px⟩ <;> rcases cs2 with ⟨p23, hlo⟩ | ⟨p23, pn, hlo⟩ | ⟨p23, pn, hlo⟩
      · have HR2 : Hid (goodT false t = goodL false (t.kids.drop 0)) := Lib.hid (by rw [HG.out, HX3.out, hlo]; rfl)
        clear hlo
        go_enter Tryz.func72, Tryz.ntmps72
        go_wp2_with fail
        refine (HCL.out _ _ _ _ _).mono ?_
        rintro e w1 ⟨rfl, hb1⟩
        have HB1 := Lib.hid hb1
        clear hb1
        go_wp2_with fail
        refine (fields_any t b off w1 (HP.out.on HB1.out) HWF.out).mono ?_
        rintro e w2 ⟨rfl, hb2⟩
        have HB2 := Lib.hid (HB1.out.then_ hb2)
        rw [H2.out]
        clear hb2
        go_wp2_with fail
        refine (kids_any t b off w2 (HP.out.on HB2.out) HWF.out).mono ?_
        rintro e w3 ⟨rfl, hb3⟩
        have HB3 := Lib.hid (HB2.out.then_ hb3)
        rw [H3.out]
        obtain ⟨m0, m1, m2, m5⟩ := HK.out w3 HB3.out
        clear hb3
        go_wp2_with fail
        clear m0 m1 m2 m5 k0 k1 k2 k5 d1
        go_loopw [58] (fun v W => ∃ i : Nat, i ≤ t.kids.length ∧ v = .int .i64 i ∧ Hid (goodT false t = goodL false (t.kids.drop i) ∧ Below w.heap.size w W)) (fun v _ => t.kids.length - (intOf v).toNat)
        case atStart => exact ⟨0, Nat.zero_le _, rfl, Lib.hid ⟨HR2.out, HB3.out⟩⟩
        case round =>
          obtain ⟨i, hi, rfl, HI⟩ := hrel
          obtain ⟨_, _, _, m5⟩ := HK.out _ HI.out.2
          by_cases hlt2 : i < t.kids.length
          · obtain ⟨x, hx⟩ : ∃ x, t.kids[i]? = some x := ⟨_, List.getElem?_eq_getElem hlt2⟩
            obtain ⟨b1, o1, rfl, p1⟩ := (HAT.out.kids.on HI.out.2).get hx
            rw [Nat.zero_add] at p1
            have HS := Lib.hid (goodL_step hx false)
            have HC : Hid (cnt x ≤ N) := Lib.hid (by have := cnt_kid hx; have := HNN.out; omega)
            have HX2 : Hid (WfT x) := Lib.hid (HWF.out.node.each x (List.mem_of_getElem? hx))
            have HPP := Lib.hid p1
            clear hx p1
            cases hf : goodT false x with
            | false =>
              have HR3 : Hid (goodT false t = false) := Lib.hid (by rw [HI.out.1, HS.out, hf]; rfl)
              go_wp2_with fail
              refine (IH.out x b1 (o1 + i * 6) false _ HC.out HPP.out HX2.out).mono ?_
              rintro e w5 ⟨rfl, hb5⟩
              have HB5 := Lib.hid (HI.out.2.then_ hb5)
              rw [hf]
              clear hf hb5
              go_wp2_with fail
              go_ret
              rw [HR3.out]
              exact ⟨rfl, HB5.out⟩
            | true =>
              have HR3 : Hid (goodT false t = goodL false (t.kids.drop (i + 1))) := Lib.hid (by rw [HI.out.1, HS.out, hf]; rfl)
              go_wp2_with fail
              refine (IH.out x b1 (o1 + i * 6) false _ HC.out HPP.out HX2.out).mono ?_
              rintro e w5 ⟨rfl, hb5⟩
              have HB5 := Lib.hid (HI.out.2.then_ hb5)
              rw [hf]
              clear hf hb5
              go_wp2_with fail
              exact ⟨⟨i + 1, by omega, by go_num, Lib.hid ⟨HR3.out, HB5.out⟩⟩, by simp [intOf]; omega⟩
          · obtain rfl : i = t.kids.length := by omega
            have hge : ¬ (t.kids.length : Int) < t.kids.length := by omega
            have HR3 : Hid (goodT false t = true) := Lib.hid (by rw [HI.out.1, List.drop_length]; rfl)
            clear hlt2
            go_wp2_with fail
            go_ret
            rw [HR3.out]
            exact ⟨rfl, HI.out.2⟩
      · have HR2 : Hid (goodT false t = goodL true (t.kids.drop 0)) := Lib.hid (by rw [HG.out, HX3.out, hlo]; rfl)
        clear hlo
        go_enter Tryz.func72, Tryz.ntmps72
        go_wp2_with fail
        refine (HCL.out _ _ _ _ _).mono ?_
        rintro e w1 ⟨rfl, hb1⟩
        have HB1 := Lib.hid hb1
        clear hb1
        go_wp2_with fail
        refine (fields_any t b off w1 (HP.out.on HB1.out) HWF.out).mono ?_
        rintro e w2 ⟨rfl, hb2⟩
        have HB2 := Lib.hid (HB1.out.then_ hb2)
        rw [H2.out]
        clear hb2
        go_wp2_with fail
        refine (kids_any t b off w2 (HP.out.on HB2.out) HWF.out).mono ?_
        rintro e w3 ⟨rfl, hb3⟩
        have HB3 := Lib.hid (HB2.out.then_ hb3)
        rw [H3.out]
        obtain ⟨m0, m1, m2, m5⟩ := HK.out w3 HB3.out
        clear hb3
        go_wp2_with fail
        clear m0 m1 m2 m5 k0 k1 k2 k5 d1
        go_loopw [58] (fun v W => ∃ i : Nat, i ≤ t.kids.length ∧ v = .int .i64 i ∧ Hid (goodT false t = goodL true (t.kids.drop i) ∧ Below w.heap.size w W)) (fun v _ => t.kids.length - (intOf v).toNat)
        case atStart => exact ⟨0, Nat.zero_le _, rfl, Lib.hid ⟨HR2.out, HB3.out⟩⟩
        case round =>
          obtain ⟨i, hi, rfl, HI⟩ := hrel
          obtain ⟨_, _, _, m5⟩ := HK.out _ HI.out.2
          by_cases hlt2 : i < t.kids.length
          · obtain ⟨x, hx⟩ : ∃ x, t.kids[i]? = some x := ⟨_, List.getElem?_eq_getElem hlt2⟩
            obtain ⟨b1, o1, rfl, p1⟩ := (HAT.out.kids.on HI.out.2).get hx
            rw [Nat.zero_add] at p1
            have HS := Lib.hid (goodL_step hx true)
            have HC : Hid (cnt x ≤ N) := Lib.hid (by have := cnt_kid hx; have := HNN.out; omega)
            have HX2 : Hid (WfT x) := Lib.hid (HWF.out.node.each x (List.mem_of_getElem? hx))
            have HPP := Lib.hid p1
            clear hx p1
            cases hf : goodT true x with
            | false =>
              have HR3 : Hid (goodT false t = false) := Lib.hid (by rw [HI.out.1, HS.out, hf]; rfl)
              go_wp2_with fail
              refine (IH.out x b1 (o1 + i * 6) true _ HC.out HPP.out HX2.out).mono ?_
              rintro e w5 ⟨rfl, hb5⟩
              have HB5 := Lib.hid (HI.out.2.then_ hb5)
              rw [hf]
              clear hf hb5
              go_wp2_with fail
              go_ret
              rw [HR3.out]
              exact ⟨rfl, HB5.out⟩
            | true =>
              have HR3 : Hid (goodT false t = goodL true (t.kids.drop (i + 1))) := Lib.hid (by rw [HI.out.1, HS.out, hf]; rfl)
              go_wp2_with fail
              refine (IH.out x b1 (o1 + i * 6) true _ HC.out HPP.out HX2.out).mono ?_
              rintro e w5 ⟨rfl, hb5⟩
              have HB5 := Lib.hid (HI.out.2.then_ hb5)
              rw [hf]
              clear hf hb5
              go_wp2_with fail
              exact ⟨⟨i + 1, by omega, by go_num, Lib.hid ⟨HR3.out, HB5.out⟩⟩, by simp [intOf]; omega⟩
          · obtain rfl : i = t.kids.length := by omega
            have hge : ¬ (t.kids.length : Int) < t.kids.length := by omega
            have HR3 : Hid (goodT false t = true) := Lib.hid (by rw [HI.out.1, List.drop_length]; rfl)
            clear hlt2
            go_wp2_with fail
            go_ret
            rw [HR3.out]
            exact ⟨rfl, HI.out.2⟩
      · have HR2 : Hid (goodT false t = goodL false (t.kids.drop 0)) := Lib.hid (by rw [HG.out, HX3.out, hlo]; rfl)
        clear hlo
        go_enter Tryz.func72, Tryz.ntmps72
        go_wp2_with fail
        refine (HCL.out _ _ _ _ _).mono ?_
        rintro e w1 ⟨rfl, hb1⟩
        have HB1 := Lib.hid hb1
        clear hb1
        go_wp2_with fail
        refine (fields_any t b off w1 (HP.out.on HB1.out) HWF.out).mono ?_
        rintro e w2 ⟨rfl, hb2⟩
        have HB2 := Lib.hid (HB1.out.then_ hb2)
        rw [H2.out]
        clear hb2
        go_wp2_with fail
        refine (kids_any t b off w2 (HP.out.on HB2.out) HWF.out).mono ?_
        rintro e w3 ⟨rfl, hb3⟩
        have HB3 := Lib.hid (HB2.out.then_ hb3)
        rw [H3.out]
        obtain ⟨m0, m1, m2, m5⟩ := HK.out w3 HB3.out
        clear hb3
        go_wp2_with fail
        clear m0 m1 m2 m5 k0 k1 k2 k5 d1
        go_loopw [58] (fun v W => ∃ i : Nat, i ≤ t.kids.length ∧ v = .int .i64 i ∧ Hid (goodT false t = goodL false (t.kids.drop i) ∧ Below w.heap.size w W)) (fun v _ => t.kids.length - (intOf v).toNat)
        case atStart => exact ⟨0, Nat.zero_le _, rfl, Lib.hid ⟨HR2.out, HB3.out⟩⟩
        case round =>
          obtain ⟨i, hi, rfl, HI⟩ := hrel
          obtain ⟨_, _, _, m5⟩ := HK.out _ HI.out.2
          by_cases hlt2 : i < t.kids.length
          · obtain ⟨x, hx⟩ : ∃ x, t.kids[i]? = some x := ⟨_, List.getElem?_eq_getElem hlt2⟩
            obtain ⟨b1, o1, rfl, p1⟩ := (HAT.out.kids.on HI.out.2).get hx
            rw [Nat.zero_add] at p1
            have HS := Lib.hid (goodL_step hx false)
            have HC : Hid (cnt x ≤ N) := Lib.hid (by have := cnt_kid hx; have := HNN.out; omega)
            have HX2 : Hid (WfT x) := Lib.hid (HWF.out.node.each x (List.mem_of_getElem? hx))
            have HPP := Lib.hid p1
            clear hx p1
            cases hf : goodT false x with
            | false =>
              have HR3 : Hid (goodT false t = false) := Lib.hid (by rw [HI.out.1, HS.out, hf]; rfl)
              go_wp2_with fail
              refine (IH.out x b1 (o1 + i * 6) false _ HC.out HPP.out HX2.out).mono ?_
              rintro e w5 ⟨rfl, hb5⟩
              have HB5 := Lib.hid (HI.out.2.then_ hb5)
              rw [hf]
              clear hf hb5
              go_wp2_with fail
              go_ret
              rw [HR3.out]
              exact ⟨rfl, HB5.out⟩
            | true =>
              have HR3 : Hid (goodT false t = goodL false (t.kids.drop (i + 1))) := Lib.hid (by rw [HI.out.1, HS.out, hf]; rfl)
              go_wp2_with fail
              refine (IH.out x b1 (o1 + i * 6) false _ HC.out HPP.out HX2.out).mono ?_
              rintro e w5 ⟨rfl, hb5⟩
              have HB5 := Lib.hid (HI.out.2.then_ hb5)
              rw [hf]
              clear hf hb5
              go_wp2_with fail
              exact ⟨⟨i + 1, by omega, by go_num, Lib.hid ⟨HR3.out, HB5.out⟩⟩, by simp [intOf]; omega⟩
          · obtain rfl : i = t.kids.length := by omega
            have hge : ¬ (t.kids.length : Int) < t.kids.length := by omega
            have HR3 : Hid (goodT false t = true) := Lib.hid (by rw [HI.out.1, List.drop_length]; rfl)
            clear hlt2
            go_wp2_with fail
            go_ret
            rw [HR3.out]
            exact ⟨rfl, HI.out.2⟩
      · have HR2 : Hid (goodT true t = goodL true (t.kids.drop 0)) := Lib.hid (by rw [HG.out, HX3.out, hlo]; rfl)
        clear hlo
        go_enter Tryz.func72, Tryz.ntmps72
        go_wp2_with fail
        refine (HCL.out _ _ _ _ _).mono ?_
        rintro e w1 ⟨rfl, hb1⟩
        have HB1 := Lib.hid hb1
        clear hb1
        go_wp2_with fail
        refine (fields_any t b off w1 (HP.out.on HB1.out) HWF.out).mono ?_
        rintro e w2 ⟨rfl, hb2⟩
        have HB2 := Lib.hid (HB1.out.then_ hb2)
        rw [H2.out]
        clear hb2
        go_wp2_with fail
        refine (kids_any t b off w2 (HP.out.on HB2.out) HWF.out).mono ?_
        rintro e w3 ⟨rfl, hb3⟩
        have HB3 := Lib.hid (HB2.out.then_ hb3)
        rw [H3.out]
        obtain ⟨m0, m1, m2, m5⟩ := HK.out w3 HB3.out
        clear hb3
        go_wp2_with fail
        clear m0 m1 m2 m5 k0 k1 k2 k5 d1
        go_loopw [58] (fun v W => ∃ i : Nat, i ≤ t.kids.length ∧ v = .int .i64 i ∧ Hid (goodT true t = goodL true (t.kids.drop i) ∧ Below w.heap.size w W)) (fun v _ => t.kids.length - (intOf v).toNat)
        case atStart => exact ⟨0, Nat.zero_le _, rfl, Lib.hid ⟨HR2.out, HB3.out⟩⟩
        case round =>
          obtain ⟨i, hi, rfl, HI⟩ := hrel
          obtain ⟨_, _, _, m5⟩ := HK.out _ HI.out.2
          by_cases hlt2 : i < t.kids.length
          · obtain ⟨x, hx⟩ : ∃ x, t.kids[i]? = some x := ⟨_, List.getElem?_eq_getElem hlt2⟩
            obtain ⟨b1, o1, rfl, p1⟩ := (HAT.out.kids.on HI.out.2).get hx
            rw [Nat.zero_add] at p1
            have HS := Lib.hid (goodL_step hx true)
            have HC : Hid (cnt x ≤ N) := Lib.hid (by have := cnt_kid hx; have := HNN.out; omega)
            have HX2 : Hid (WfT x) := Lib.hid (HWF.out.node.each x (List.mem_of_getElem? hx))
            have HPP := Lib.hid p1
            clear hx p1
            cases hf : goodT true x with
            | false =>
              have HR3 : Hid (goodT true t = false) := Lib.hid (by rw [HI.out.1, HS.out, hf]; rfl)
              go_wp2_with fail
              refine (IH.out x b1 (o1 + i * 6) true _ HC.out HPP.out HX2.out).mono ?_
              rintro e w5 ⟨rfl, hb5⟩
              have HB5 := Lib.hid (HI.out.2.then_ hb5)
              rw [hf]
              clear hf hb5
              go_wp2_with fail
              go_ret
              rw [HR3.out]
              exact ⟨rfl, HB5.out⟩
            | true =>
              have HR3 : Hid (goodT true t = goodL true (t.kids.drop (i + 1))) := Lib.hid (by rw [HI.out.1, HS.out, hf]; rfl)
              go_wp2_with fail
              refine (IH.out x b1 (o1 + i * 6) true _ HC.out HPP.out HX2.out).mono ?_
              rintro e w5 ⟨rfl, hb5⟩
              have HB5 := Lib.hid (HI.out.2.then_ hb5)
              rw [hf]
              clear hf hb5
              go_wp2_with fail
              exact ⟨⟨i + 1, by omega, by go_num, Lib.hid ⟨HR3.out, HB5.out⟩⟩, by simp [intOf]; omega⟩
          · obtain rfl : i = t.kids.length := by omega
            have hge : ¬ (t.kids.length : Int) < t.kids.length := by omega
            have HR3 : Hid (goodT true t = true) := Lib.hid (by rw [HI.out.1, List.drop_length]; rfl)
            clear hlt2
            go_wp2_with fail
            go_ret
            rw [HR3.out]
            exact ⟨rfl, HI.out.2⟩
      · have HR2 : Hid (goodT true t = goodL true (t.kids.drop 0)) := Lib.hid (by rw [HG.out, HX3.out, hlo]; rfl)
        clear hlo
        go_enter Tryz.func72, Tryz.ntmps72
        go_wp2_with fail
        refine (HCL.out _ _ _ _ _).mono ?_
        rintro e w1 ⟨rfl, hb1⟩
        have HB1 := Lib.hid hb1
        clear hb1
        go_wp2_with fail
        refine (fields_any t b off w1 (HP.out.on HB1.out) HWF.out).mono ?_
        rintro e w2 ⟨rfl, hb2⟩
        have HB2 := Lib.hid (HB1.out.then_ hb2)
        rw [H2.out]
        clear hb2
        go_wp2_with fail
        refine (kids_any t b off w2 (HP.out.on HB2.out) HWF.out).mono ?_
        rintro e w3 ⟨rfl, hb3⟩
        have HB3 := Lib.hid (HB2.out.then_ hb3)
        rw [H3.out]
        obtain ⟨m0, m1, m2, m5⟩ := HK.out w3 HB3.out
        clear hb3
        go_wp2_with fail
        clear m0 m1 m2 m5 k0 k1 k2 k5 d1
        go_loopw [58] (fun v W => ∃ i : Nat, i ≤ t.kids.length ∧ v = .int .i64 i ∧ Hid (goodT true t = goodL true (t.kids.drop i) ∧ Below w.heap.size w W)) (fun v _ => t.kids.length - (intOf v).toNat)
        case atStart => exact ⟨0, Nat.zero_le _, rfl, Lib.hid ⟨HR2.out, HB3.out⟩⟩
        case round =>
          obtain ⟨i, hi, rfl, HI⟩ := hrel
          obtain ⟨_, _, _, m5⟩ := HK.out _ HI.out.2
          by_cases hlt2 : i < t.kids.length
          · obtain ⟨x, hx⟩ : ∃ x, t.kids[i]? = some x := ⟨_, List.getElem?_eq_getElem hlt2⟩
            obtain ⟨b1, o1, rfl, p1⟩ := (HAT.out.kids.on HI.out.2).get hx
            rw [Nat.zero_add] at p1
            have HS := Lib.hid (goodL_step hx true)
            have HC : Hid (cnt x ≤ N) := Lib.hid (by have := cnt_kid hx; have := HNN.out; omega)
            have HX2 : Hid (WfT x) := Lib.hid (HWF.out.node.each x (List.mem_of_getElem? hx))
            have HPP := Lib.hid p1
            clear hx p1
            cases hf : goodT true x with
            | false =>
              have HR3 : Hid (goodT true t = false) := Lib.hid (by rw [HI.out.1, HS.out, hf]; rfl)
              go_wp2_with fail
              refine (IH.out x b1 (o1 + i * 6) true _ HC.out HPP.out HX2.out).mono ?_
              rintro e w5 ⟨rfl, hb5⟩
              have HB5 := Lib.hid (HI.out.2.then_ hb5)
              rw [hf]
              clear hf hb5
              go_wp2_with fail
              go_ret
              rw [HR3.out]
              exact ⟨rfl, HB5.out⟩
            | true =>
              have HR3 : Hid (goodT true t = goodL true (t.kids.drop (i + 1))) := Lib.hid (by rw [HI.out.1, HS.out, hf]; rfl)
              go_wp2_with fail
              refine (IH.out x b1 (o1 + i * 6) true _ HC.out HPP.out HX2.out).mono ?_
              rintro e w5 ⟨rfl, hb5⟩
              have HB5 := Lib.hid (HI.out.2.then_ hb5)
              rw [hf]
              clear hf hb5
              go_wp2_with fail
              exact ⟨⟨i + 1, by omega, by go_num, Lib.hid ⟨HR3.out, HB5.out⟩⟩, by simp [intOf]; omega⟩
          · obtain rfl : i = t.kids.length := by omega
            have hge : ¬ (t.kids.length : Int) < t.kids.length := by omega
            have HR3 : Hid (goodT true t = true) := Lib.hid (by rw [HI.out.1, List.drop_length]; rfl)
            clear hlt2
            go_wp2_with fail
            go_ret
            rw [HR3.out]
            exact ⟨rfl, HI.out.2⟩
      · have HR2 : Hid (goodT true t = goodL false (t.kids.drop 0)) := Lib.hid (by rw [HG.out, HX3.out, hlo]; rfl)
        clear hlo
        go_enter Tryz.func72, Tryz.ntmps72
        go_wp2_with fail
        refine (HCL.out _ _ _ _ _).mono ?_
        rintro e w1 ⟨rfl, hb1⟩
        have HB1 := Lib.hid hb1
        clear hb1
        go_wp2_with fail
        refine (fields_any t b off w1 (HP.out.on HB1.out) HWF.out).mono ?_
        rintro e w2 ⟨rfl, hb2⟩
        have HB2 := Lib.hid (HB1.out.then_ hb2)
        rw [H2.out]
        clear hb2
        go_wp2_with fail
        refine (kids_any t b off w2 (HP.out.on HB2.out) HWF.out).mono ?_
        rintro e w3 ⟨rfl, hb3⟩
        have HB3 := Lib.hid (HB2.out.then_ hb3)
        rw [H3.out]
        obtain ⟨m0, m1, m2, m5⟩ := HK.out w3 HB3.out
        clear hb3
        go_wp2_with fail
        clear m0 m1 m2 m5 k0 k1 k2 k5 d1
        go_loopw [58] (fun v W => ∃ i : Nat, i ≤ t.kids.length ∧ v = .int .i64 i ∧ Hid (goodT true t = goodL false (t.kids.drop i) ∧ Below w.heap.size w W)) (fun v _ => t.kids.length - (intOf v).toNat)
        case atStart => exact ⟨0, Nat.zero_le _, rfl, Lib.hid ⟨HR2.out, HB3.out⟩⟩
        case round =>
          obtain ⟨i, hi, rfl, HI⟩ := hrel
          obtain ⟨_, _, _, m5⟩ := HK.out _ HI.out.2
          by_cases hlt2 : i < t.kids.length
          · obtain ⟨x, hx⟩ : ∃ x, t.kids[i]? = some x := ⟨_, List.getElem?_eq_getElem hlt2⟩
            obtain ⟨b1, o1, rfl, p1⟩ := (HAT.out.kids.on HI.out.2).get hx
            rw [Nat.zero_add] at p1
            have HS := Lib.hid (goodL_step hx false)
            have HC : Hid (cnt x ≤ N) := Lib.hid (by have := cnt_kid hx; have := HNN.out; omega)
            have HX2 : Hid (WfT x) := Lib.hid (HWF.out.node.each x (List.mem_of_getElem? hx))
            have HPP := Lib.hid p1
            clear hx p1
            cases hf : goodT false x with
            | false =>
              have HR3 : Hid (goodT true t = false) := Lib.hid (by rw [HI.out.1, HS.out, hf]; rfl)
              go_wp2_with fail
              refine (IH.out x b1 (o1 + i * 6) false _ HC.out HPP.out HX2.out).mono ?_
              rintro e w5 ⟨rfl, hb5⟩
              have HB5 := Lib.hid (HI.out.2.then_ hb5)
              rw [hf]
              clear hf hb5
              go_wp2_with fail
              go_ret
              rw [HR3.out]
              exact ⟨rfl, HB5.out⟩
            | true =>
              have HR3 : Hid (goodT true t = goodL false (t.kids.drop (i + 1))) := Lib.hid (by rw [HI.out.1, HS.out, hf]; rfl)
              go_wp2_with fail
              refine (IH.out x b1 (o1 + i * 6) false _ HC.out HPP.out HX2.out).mono ?_
              rintro e w5 ⟨rfl, hb5⟩
              have HB5 := Lib.hid (HI.out.2.then_ hb5)
              rw [hf]
              clear hf hb5
              go_wp2_with fail
              exact ⟨⟨i + 1, by omega, by go_num, Lib.hid ⟨HR3.out, HB5.out⟩⟩, by simp [intOf]; omega⟩
          · obtain rfl : i = t.kids.length := by omega
            have hge : ¬ (t.kids.length : Int) < t.kids.length := by omega
            have HR3 : Hid (goodT true t = true) := Lib.hid (by rw [HI.out.1, List.drop_length]; rfl)
            clear hlt2
            go_wp2_with fail
            go_ret
            rw [HR3.out]
            exact ⟨rfl, HI.out.2⟩
      · have HR2 : Hid (goodT true t = goodL true (t.kids.drop 0)) := Lib.hid (by rw [HG.out, HX3.out, hlo]; rfl)
        clear hlo
        go_enter Tryz.func72, Tryz.ntmps72
        go_wp2_with fail
        refine (HCL.out _ _ _ _ _).mono ?_
        rintro e w1 ⟨rfl, hb1⟩
        have HB1 := Lib.hid hb1
        clear hb1
        go_wp2_with fail
        refine (fields_any t b off w1 (HP.out.on HB1.out) HWF.out).mono ?_
        rintro e w2 ⟨rfl, hb2⟩
        have HB2 := Lib.hid (HB1.out.then_ hb2)
        rw [H2.out]
        clear hb2
        go_wp2_with fail
        refine (kids_any t b off w2 (HP.out.on HB2.out) HWF.out).mono ?_
        rintro e w3 ⟨rfl, hb3⟩
        have HB3 := Lib.hid (HB2.out.then_ hb3)
        rw [H3.out]
        obtain ⟨m0, m1, m2, m5⟩ := HK.out w3 HB3.out
        clear hb3
        go_wp2_with fail
        clear m0 m1 m2 m5 k0 k1 k2 k5 d1
        go_loopw [58] (fun v W => ∃ i : Nat, i ≤ t.kids.length ∧ v = .int .i64 i ∧ Hid (goodT true t = goodL true (t.kids.drop i) ∧ Below w.heap.size w W)) (fun v _ => t.kids.length - (intOf v).toNat)
        case atStart => exact ⟨0, Nat.zero_le _, rfl, Lib.hid ⟨HR2.out, HB3.out⟩⟩
        case round =>
          obtain ⟨i, hi, rfl, HI⟩ := hrel
          obtain ⟨_, _, _, m5⟩ := HK.out _ HI.out.2
          by_cases hlt2 : i < t.kids.length
          · obtain ⟨x, hx⟩ : ∃ x, t.kids[i]? = some x := ⟨_, List.getElem?_eq_getElem hlt2⟩
            obtain ⟨b1, o1, rfl, p1⟩ := (HAT.out.kids.on HI.out.2).get hx
            rw [Nat.zero_add] at p1
            have HS := Lib.hid (goodL_step hx true)
            have HC : Hid (cnt x ≤ N) := Lib.hid (by have := cnt_kid hx; have := HNN.out; omega)
            have HX2 : Hid (WfT x) := Lib.hid (HWF.out.node.each x (List.mem_of_getElem? hx))
            have HPP := Lib.hid p1
            clear hx p1
            cases hf : goodT true x with
            | false =>
              have HR3 : Hid (goodT true t = false) := Lib.hid (by rw [HI.out.1, HS.out, hf]; rfl)
              go_wp2_with fail
              refine (IH.out x b1 (o1 + i * 6) true _ HC.out HPP.out HX2.out).mono ?_
              rintro e w5 ⟨rfl, hb5⟩
              have HB5 := Lib.hid (HI.out.2.then_ hb5)
              rw [hf]
              clear hf hb5
              go_wp2_with fail
              go_ret
              rw [HR3.out]
              exact ⟨rfl, HB5.out⟩
            | true =>
              have HR3 : Hid (goodT true t = goodL true (t.kids.drop (i + 1))) := Lib.hid (by rw [HI.out.1, HS.out, hf]; rfl)
              go_wp2_with fail
              refine (IH.out x b1 (o1 + i * 6) true _ HC.out HPP.out HX2.out).mono ?_
              rintro e w5 ⟨rfl, hb5⟩
              have HB5 := Lib.hid (HI.out.2.then_ hb5)
              rw [hf]
              clear hf hb5
              go_wp2_with fail
              exact ⟨⟨i + 1, by omega, by go_num, Lib.hid ⟨HR3.out, HB5.out⟩⟩, by simp [intOf]; omega⟩
          · obtain rfl : i = t.kids.length := by omega
            have hge : ¬ (t.kids.length : Int) < t.kids.length := by omega
            have HR3 : Hid (goodT true t = true) := Lib.hid (by rw [HI.out.1, List.drop_length]; rfl)
            clear hlt2
            go_wp2_with fail
            go_ret
            rw [HR3.out]
            exact ⟨rfl, HI.out.2⟩
      · have HR2 : Hid (goodT true t = goodL true (t.kids.drop 0)) := Lib.hid (by rw [HG.out, HX3.out, hlo]; rfl)
        clear hlo
        go_enter Tryz.func72, Tryz.ntmps72
        go_wp2_with fail
        refine (HCL.out _ _ _ _ _).mono ?_
        rintro e w1 ⟨rfl, hb1⟩
        have HB1 := Lib.hid hb1
        clear hb1
        go_wp2_with fail
        refine (fields_any t b off w1 (HP.out.on HB1.out) HWF.out).mono ?_
        rintro e w2 ⟨rfl, hb2⟩
        have HB2 := Lib.hid (HB1.out.then_ hb2)
        rw [H2.out]
        clear hb2
        go_wp2_with fail
        refine (kids_any t b off w2 (HP.out.on HB2.out) HWF.out).mono ?_
        rintro e w3 ⟨rfl, hb3⟩
        have HB3 := Lib.hid (HB2.out.then_ hb3)
        rw [H3.out]
        obtain ⟨m0, m1, m2, m5⟩ := HK.out w3 HB3.out
        clear hb3
        go_wp2_with fail
        clear m0 m1 m2 m5 k0 k1 k2 k5 d1
        go_loopw [58] (fun v W => ∃ i : Nat, i ≤ t.kids.length ∧ v = .int .i64 i ∧ Hid (goodT true t = goodL true (t.kids.drop i) ∧ Below w.heap.size w W)) (fun v _ => t.kids.length - (intOf v).toNat)
        case atStart => exact ⟨0, Nat.zero_le _, rfl, Lib.hid ⟨HR2.out, HB3.out⟩⟩
        case round =>
          obtain ⟨i, hi, rfl, HI⟩ := hrel
          obtain ⟨_, _, _, m5⟩ := HK.out _ HI.out.2
          by_cases hlt2 : i < t.kids.length
          · obtain ⟨x, hx⟩ : ∃ x, t.kids[i]? = some x := ⟨_, List.getElem?_eq_getElem hlt2⟩
            obtain ⟨b1, o1, rfl, p1⟩ := (HAT.out.kids.on HI.out.2).get hx
            rw [Nat.zero_add] at p1
            have HS := Lib.hid (goodL_step hx true)
            have HC : Hid (cnt x ≤ N) := Lib.hid (by have := cnt_kid hx; have := HNN.out; omega)
            have HX2 : Hid (WfT x) := Lib.hid (HWF.out.node.each x (List.mem_of_getElem? hx))
            have HPP := Lib.hid p1
            clear hx p1
            cases hf : goodT true x with
            | false =>
              have HR3 : Hid (goodT true t = false) := Lib.hid (by rw [HI.out.1, HS.out, hf]; rfl)
              go_wp2_with fail
              refine (IH.out x b1 (o1 + i * 6) true _ HC.out HPP.out HX2.out).mono ?_
              rintro e w5 ⟨rfl, hb5⟩
              have HB5 := Lib.hid (HI.out.2.then_ hb5)
              rw [hf]
              clear hf hb5
              go_wp2_with fail
              go_ret
              rw [HR3.out]
              exact ⟨rfl, HB5.out⟩
            | true =>
              have HR3 : Hid (goodT true t = goodL true (t.kids.drop (i + 1))) := Lib.hid (by rw [HI.out.1, HS.out, hf]; rfl)
              go_wp2_with fail
              refine (IH.out x b1 (o1 + i * 6) true _ HC.out HPP.out HX2.out).mono ?_
              rintro e w5 ⟨rfl, hb5⟩
              have HB5 := Lib.hid (HI.out.2.then_ hb5)
              rw [hf]
              clear hf hb5
              go_wp2_with fail
              exact ⟨⟨i + 1, by omega, by go_num, Lib.hid ⟨HR3.out, HB5.out⟩⟩, by simp [intOf]; omega⟩
          · obtain rfl : i = t.kids.length := by omega
            have hge : ¬ (t.kids.length : Int) < t.kids.length := by omega
            have HR3 : Hid (goodT true t = true) := Lib.hid (by rw [HI.out.1, List.drop_length]; rfl)
            clear hlt2
            go_wp2_with fail
            go_ret
            rw [HR3.out]
            exact ⟨rfl, HI.out.2⟩
      · have HR2 : Hid (goodT true t = goodL false (t.kids.drop 0)) := Lib.hid (by rw [HG.out, HX3.out, hlo]; rfl)
        clear hlo
        go_enter Tryz.func72, Tryz.ntmps72
        go_wp2_with fail
        refine (HCL.out _ _ _ _ _).mono ?_
        rintro e w1 ⟨rfl, hb1⟩
        have HB1 := Lib.hid hb1
        clear hb1
        go_wp2_with fail
        refine (fields_any t b off w1 (HP.out.on HB1.out) HWF.out).mono ?_
        rintro e w2 ⟨rfl, hb2⟩
        have HB2 := Lib.hid (HB1.out.then_ hb2)
        rw [H2.out]
        clear hb2
        go_wp2_with fail
        refine (kids_any t b off w2 (HP.out.on HB2.out) HWF.out).mono ?_
        rintro e w3 ⟨rfl, hb3⟩
        have HB3 := Lib.hid (HB2.out.then_ hb3)
        rw [H3.out]
        obtain ⟨m0, m1, m2, m5⟩ := HK.out w3 HB3.out
        clear hb3
        go_wp2_with fail
        clear m0 m1 m2 m5 k0 k1 k2 k5 d1
        go_loopw [58] (fun v W => ∃ i : Nat, i ≤ t.kids.length ∧ v = .int .i64 i ∧ Hid (goodT true t = goodL false (t.kids.drop i) ∧ Below w.heap.size w W)) (fun v _ => t.kids.length - (intOf v).toNat)
        case atStart => exact ⟨0, Nat.zero_le _, rfl, Lib.hid ⟨HR2.out, HB3.out⟩⟩
        case round =>
          obtain ⟨i, hi, rfl, HI⟩ := hrel
          obtain ⟨_, _, _, m5⟩ := HK.out _ HI.out.2
          by_cases hlt2 : i < t.kids.length
          · obtain ⟨x, hx⟩ : ∃ x, t.kids[i]? = some x := ⟨_, List.getElem?_eq_getElem hlt2⟩
            obtain ⟨b1, o1, rfl, p1⟩ := (HAT.out.kids.on HI.out.2).get hx
            rw [Nat.zero_add] at p1
            have HS := Lib.hid (goodL_step hx false)
            have HC : Hid (cnt x ≤ N) := Lib.hid (by have := cnt_kid hx; have := HNN.out; omega)
            have HX2 : Hid (WfT x) := Lib.hid (HWF.out.node.each x (List.mem_of_getElem? hx))
            have HPP := Lib.hid p1
            clear hx p1
            cases hf : goodT false x with
            | false =>
              have HR3 : Hid (goodT true t = false) := Lib.hid (by rw [HI.out.1, HS.out, hf]; rfl)
              go_wp2_with fail
              refine (IH.out x b1 (o1 + i * 6) false _ HC.out HPP.out HX2.out).mono ?_
              rintro e w5 ⟨rfl, hb5⟩
              have HB5 := Lib.hid (HI.out.2.then_ hb5)
              rw [hf]
              clear hf hb5
              go_wp2_with fail
              go_ret
              rw [HR3.out]
              exact ⟨rfl, HB5.out⟩
            | true =>
              have HR3 : Hid (goodT true t = goodL false (t.kids.drop (i + 1))) := Lib.hid (by rw [HI.out.1, HS.out, hf]; rfl)
              go_wp2_with fail
              refine (IH.out x b1 (o1 + i * 6) false _ HC.out HPP.out HX2.out).mono ?_
              rintro e w5 ⟨rfl, hb5⟩
              have HB5 := Lib.hid (HI.out.2.then_ hb5)
              rw [hf]
              clear hf hb5
              go_wp2_with fail
              exact ⟨⟨i + 1, by omega, by go_num, Lib.hid ⟨HR3.out, HB5.out⟩⟩, by simp [intOf]; omega⟩
          · obtain rfl : i = t.kids.length := by omega
            have hge : ¬ (t.kids.length : Int) < t.kids.length := by omega
            have HR3 : Hid (goodT true t = true) := Lib.hid (by rw [HI.out.1, List.drop_length]; rfl)
            clear hlt2
            go_wp2_with fail
            go_ret
            rw [HR3.out]
            exact ⟨rfl, HI.out.2⟩
      · have HR2 : Hid (goodT true t = goodL true (t.kids.drop 0)) := Lib.hid (by rw [HG.out, HX3.out, hlo]; rfl)
        clear hlo
        go_enter Tryz.func72, Tryz.ntmps72
        go_wp2_with fail
        refine (HCL.out _ _ _ _ _).mono ?_
        rintro e w1 ⟨rfl, hb1⟩
        have HB1 := Lib.hid hb1
        clear hb1
        go_wp2_with fail
        refine (fields_any t b off w1 (HP.out.on HB1.out) HWF.out).mono ?_
        rintro e w2 ⟨rfl, hb2⟩
        have HB2 := Lib.hid (HB1.out.then_ hb2)
        rw [H2.out]
        clear hb2
        go_wp2_with fail
        refine (kids_any t b off w2 (HP.out.on HB2.out) HWF.out).mono ?_
        rintro e w3 ⟨rfl, hb3⟩
        have HB3 := Lib.hid (HB2.out.then_ hb3)
        rw [H3.out]
        obtain ⟨m0, m1, m2, m5⟩ := HK.out w3 HB3.out
        clear hb3
        go_wp2_with fail
        clear m0 m1 m2 m5 k0 k1 k2 k5 d1
        go_loopw [58] (fun v W => ∃ i : Nat, i ≤ t.kids.length ∧ v = .int .i64 i ∧ Hid (goodT true t = goodL true (t.kids.drop i) ∧ Below w.heap.size w W)) (fun v _ => t.kids.length - (intOf v).toNat)
        case atStart => exact ⟨0, Nat.zero_le _, rfl, Lib.hid ⟨HR2.out, HB3.out⟩⟩
        case round =>
          obtain ⟨i, hi, rfl, HI⟩ := hrel
          obtain ⟨_, _, _, m5⟩ := HK.out _ HI.out.2
          by_cases hlt2 : i < t.kids.length
          · obtain ⟨x, hx⟩ : ∃ x, t.kids[i]? = some x := ⟨_, List.getElem?_eq_getElem hlt2⟩
            obtain ⟨b1, o1, rfl, p1⟩ := (HAT.out.kids.on HI.out.2).get hx
            rw [Nat.zero_add] at p1
            have HS := Lib.hid (goodL_step hx true)
            have HC : Hid (cnt x ≤ N) := Lib.hid (by have := cnt_kid hx; have := HNN.out; omega)
            have HX2 : Hid (WfT x) := Lib.hid (HWF.out.node.each x (List.mem_of_getElem? hx))
            have HPP := Lib.hid p1
            clear hx p1
            cases hf : goodT true x with
            | false =>
              have HR3 : Hid (goodT true t = false) := Lib.hid (by rw [HI.out.1, HS.out, hf]; rfl)
              go_wp2_with fail
              refine (IH.out x b1 (o1 + i * 6) true _ HC.out HPP.out HX2.out).mono ?_
              rintro e w5 ⟨rfl, hb5⟩
              have HB5 := Lib.hid (HI.out.2.then_ hb5)
              rw [hf]
              clear hf hb5
              go_wp2_with fail
              go_ret
              rw [HR3.out]
              exact ⟨rfl, HB5.out⟩
            | true =>
              have HR3 : Hid (goodT true t = goodL true (t.kids.drop (i + 1))) := Lib.hid (by rw [HI.out.1, HS.out, hf]; rfl)
              go_wp2_with fail
              refine (IH.out x b1 (o1 + i * 6) true _ HC.out HPP.out HX2.out).mono ?_
              rintro e w5 ⟨rfl, hb5⟩
              have HB5 := Lib.hid (HI.out.2.then_ hb5)
              rw [hf]
              clear hf hb5
              go_wp2_with fail
              exact ⟨⟨i + 1, by omega, by go_num, Lib.hid ⟨HR3.out, HB5.out⟩⟩, by simp [intOf]; omega⟩
          · obtain rfl : i = t.kids.length := by omega
            have hge : ¬ (t.kids.length : Int) < t.kids.length := by omega
            have HR3 : Hid (goodT true t = true) := Lib.hid (by rw [HI.out.1, List.drop_length]; rfl)
            clear hlt2
            go_wp2_with fail
            go_ret
            rw [HR3.out]
            exact ⟨rfl, HI.out.2⟩
      · have HR2 : Hid (goodT true t = goodL true (t.kids.drop 0)) := Lib.hid (by rw [HG.out, HX3.out, hlo]; rfl)
        clear hlo
        go_enter Tryz.func72, Tryz.ntmps72
        go_wp2_with fail
        refine (HCL.out _ _ _ _ _).mono ?_
        rintro e w1 ⟨rfl, hb1⟩
        have HB1 := Lib.hid hb1
        clear hb1
        go_wp2_with fail
        refine (fields_any t b off w1 (HP.out.on HB1.out) HWF.out).mono ?_
        rintro e w2 ⟨rfl, hb2⟩
        have HB2 := Lib.hid (HB1.out.then_ hb2)
        rw [H2.out]
        clear hb2
        go_wp2_with fail
        refine (kids_any t b off w2 (HP.out.on HB2.out) HWF.out).mono ?_
        rintro e w3 ⟨rfl, hb3⟩
        have HB3 := Lib.hid (HB2.out.then_ hb3)
        rw [H3.out]
        obtain ⟨m0, m1, m2, m5⟩ := HK.out w3 HB3.out
        clear hb3
        go_wp2_with fail
        clear m0 m1 m2 m5 k0 k1 k2 k5 d1
        go_loopw [58] (fun v W => ∃ i : Nat, i ≤ t.kids.length ∧ v = .int .i64 i ∧ Hid (goodT true t = goodL true (t.kids.drop i) ∧ Below w.heap.size w W)) (fun v _ => t.kids.length - (intOf v).toNat)
        case atStart => exact ⟨0, Nat.zero_le _, rfl, Lib.hid ⟨HR2.out, HB3.out⟩⟩
        case round =>
          obtain ⟨i, hi, rfl, HI⟩ := hrel
          obtain ⟨_, _, _, m5⟩ := HK.out _ HI.out.2
          by_cases hlt2 : i < t.kids.length
          · obtain ⟨x, hx⟩ : ∃ x, t.kids[i]? = some x := ⟨_, List.getElem?_eq_getElem hlt2⟩
            obtain ⟨b1, o1, rfl, p1⟩ := (HAT.out.kids.on HI.out.2).get hx
            rw [Nat.zero_add] at p1
            have HS := Lib.hid (goodL_step hx true)
            have HC : Hid (cnt x ≤ N) := Lib.hid (by have := cnt_kid hx; have := HNN.out; omega)
            have HX2 : Hid (WfT x) := Lib.hid (HWF.out.node.each x (List.mem_of_getElem? hx))
            have HPP := Lib.hid p1
            clear hx p1
            cases hf : goodT true x with
            | false =>
              have HR3 : Hid (goodT true t = false) := Lib.hid (by rw [HI.out.1, HS.out, hf]; rfl)
              go_wp2_with fail
              refine (IH.out x b1 (o1 + i * 6) true _ HC.out HPP.out HX2.out).mono ?_
              rintro e w5 ⟨rfl, hb5⟩
              have HB5 := Lib.hid (HI.out.2.then_ hb5)
              rw [hf]
              clear hf hb5
              go_wp2_with fail
              go_ret
              rw [HR3.out]
              exact ⟨rfl, HB5.out⟩
            | true =>
              have HR3 : Hid (goodT true t = goodL true (t.kids.drop (i + 1))) := Lib.hid (by rw [HI.out.1, HS.out, hf]; rfl)
              go_wp2_with fail
              refine (IH.out x b1 (o1 + i * 6) true _ HC.out HPP.out HX2.out).mono ?_
              rintro e w5 ⟨rfl, hb5⟩
              have HB5 := Lib.hid (HI.out.2.then_ hb5)
              rw [hf]
              clear hf hb5
              go_wp2_with fail
              exact ⟨⟨i + 1, by omega, by go_num, Lib.hid ⟨HR3.out, HB5.out⟩⟩, by simp [intOf]; omega⟩
          · obtain rfl : i = t.kids.length := by omega
            have hge : ¬ (t.kids.length : Int) < t.kids.length := by omega
            have HR3 : Hid (goodT true t = true) := Lib.hid (by rw [HI.out.1, List.drop_length]; rfl)
            clear hlt2
            go_wp2_with fail
            go_ret
            rw [HR3.out]
            exact ⟨rfl, HI.out.2⟩
      · have HR2 : Hid (goodT true t = goodL false (t.kids.drop 0)) := Lib.hid (by rw [HG.out, HX3.out, hlo]; rfl)
        clear hlo
        go_enter Tryz.func72, Tryz.ntmps72
        go_wp2_with fail
        refine (HCL.out _ _ _ _ _).mono ?_
        rintro e w1 ⟨rfl, hb1⟩
        have HB1 := Lib.hid hb1
        clear hb1
        go_wp2_with fail
        refine (fields_any t b off w1 (HP.out.on HB1.out) HWF.out).mono ?_
        rintro e w2 ⟨rfl, hb2⟩
        have HB2 := Lib.hid (HB1.out.then_ hb2)
        rw [H2.out]
        clear hb2
        go_wp2_with fail
        refine (kids_any t b off w2 (HP.out.on HB2.out) HWF.out).mono ?_
        rintro e w3 ⟨rfl, hb3⟩
        have HB3 := Lib.hid (HB2.out.then_ hb3)
        rw [H3.out]
        obtain ⟨m0, m1, m2, m5⟩ := HK.out w3 HB3.out
        clear hb3
        go_wp2_with fail
        clear m0 m1 m2 m5 k0 k1 k2 k5 d1
        go_loopw [58] (fun v W => ∃ i : Nat, i ≤ t.kids.length ∧ v = .int .i64 i ∧ Hid (goodT true t = goodL false (t.kids.drop i) ∧ Below w.heap.size w W)) (fun v _ => t.kids.length - (intOf v).toNat)
        case atStart => exact ⟨0, Nat.zero_le _, rfl, Lib.hid ⟨HR2.out, HB3.out⟩⟩
        case round =>
          obtain ⟨i, hi, rfl, HI⟩ := hrel
          obtain ⟨_, _, _, m5⟩ := HK.out _ HI.out.2
          by_cases hlt2 : i < t.kids.length
          · obtain ⟨x, hx⟩ : ∃ x, t.kids[i]? = some x := ⟨_, List.getElem?_eq_getElem hlt2⟩
            obtain ⟨b1, o1, rfl, p1⟩ := (HAT.out.kids.on HI.out.2).get hx
            rw [Nat.zero_add] at p1
            have HS := Lib.hid (goodL_step hx false)
            have HC : Hid (cnt x ≤ N) := Lib.hid (by have := cnt_kid hx; have := HNN.out; omega)
            have HX2 : Hid (WfT x) := Lib.hid (HWF.out.node.each x (List.mem_of_getElem? hx))
            have HPP := Lib.hid p1
            clear hx p1
            cases hf : goodT false x with
            | false =>
              have HR3 : Hid (goodT true t = false) := Lib.hid (by rw [HI.out.1, HS.out, hf]; rfl)
              go_wp2_with fail
              refine (IH.out x b1 (o1 + i * 6) false _ HC.out HPP.out HX2.out).mono ?_
              rintro e w5 ⟨rfl, hb5⟩
              have HB5 := Lib.hid (HI.out.2.then_ hb5)
              rw [hf]
              clear hf hb5
              go_wp2_with fail
              go_ret
              rw [HR3.out]
              exact ⟨rfl, HB5.out⟩
            | true =>
              have HR3 : Hid (goodT true t = goodL false (t.kids.drop (i + 1))) := Lib.hid (by rw [HI.out.1, HS.out, hf]; rfl)
              go_wp2_with fail
              refine (IH.out x b1 (o1 + i * 6) false _ HC.out HPP.out HX2.out).mono ?_
              rintro e w5 ⟨rfl, hb5⟩
              have HB5 := Lib.hid (HI.out.2.then_ hb5)
              rw [hf]
              clear hf hb5
              go_wp2_with fail
              exact ⟨⟨i + 1, by omega, by go_num, Lib.hid ⟨HR3.out, HB5.out⟩⟩, by simp [intOf]; omega⟩
          · obtain rfl : i = t.kids.length := by omega
            have hge : ¬ (t.kids.length : Int) < t.kids.length := by omega
            have HR3 : Hid (goodT true t = true) := Lib.hid (by rw [HI.out.1, List.drop_length]; rfl)
            clear hlt2
            go_wp2_with fail
            go_ret
            rw [HR3.out]
            exact ⟨rfl, HI.out.2⟩
end Go.Proofs.YtkdejffhdhcocaaGreat
