/- show.Text, all arrays. Conditions: strconv's table of powers is as laid; at most 2^40 lengths and numbers. -/
import Derived.Test.YtpipcpjkfgdpcaaDoorShTxt
import Derived.Test.YtpipcpjkfgdpcaaDoorShSpec
namespace Go.Proofs.YtpipcpjkfgdpcaaDoor
open Go.RowKit
attribute [local go_sem] Oper.semAt_some

set_option maxHeartbeats 8000000 in
set_option maxRecDepth 100000 in
theorem text_not (A B : Option Addr) (ca cb : Nat) (s a : List Int) (w : World) (hA : IntsAt w A s) (hl : All64 s) (hn : s.length ≤ 4611686018427387904) (h0 : arMay s a ≠ 0) :
    Calls Tryd.prog 13 #[.agg #[.slice A s.length ca, .slice B a.length cb]] w fun e w' => e = .returned (.tuple #[.string ⟨#[]⟩, .int .i64 1]) ∧ Below w.heap.size w w' := by
  have HA := Lib.hid hA
  have HM := Lib.hid (fun w hA => arrMay_any A B ca cb s a w hA hl hn)
  have hb : (arMay s a != 0) = true := by simpa using h0
  clear hA hl h0
  go_enter Tryd.func13, Tryd.ntmps13
  go_wp2_with fail
  have hb1 : Below w.heap.size w (w.alloc (.cells #[.slice A s.length ca, .slice B a.length cb] 36)) := (Below.refl _ _).alloc (Nat.le_refl _) _
  refine (HM.out _ (HA.out.on hb1)).mono ?_
  rintro e w2 ⟨rfl, hb2⟩
  have HB2 := Lib.hid (hb1.then_ hb2)
  clear hb1 hb2
  go_wp2_with fail
  go_ret2
  exact ⟨rfl, HB2.out⟩

set_option maxHeartbeats 8000000 in
set_option maxRecDepth 100000 in
theorem text_few (A B : Option Addr) (ca cb : Nat) (s a : List Int) (w : World) (hA : IntsAt w A s) (hB : IntsAt w B a) (hl : All64 s) (hla : All64 a) (hn : s.length ≤ 1099511627776) (hm : a.length ≤ 1099511627776) (hp : Pow10 w) (h0 : arMay s a = 0) (hf : a.length = 0 ∨ s.length ≤ 1) :
    Calls Tryd.prog 13 #[.agg #[.slice A s.length ca, .slice B a.length cb]] w fun e w' => e = .returned (.tuple #[.string ⟨(text s a).toArray⟩, .int .i64 0]) ∧ Below w.heap.size w w' := by
  have HA := Lib.hid hA
  have HB := Lib.hid hB
  have HP := Lib.hid hp
  have HL := Lib.hid hla
  have HR := Lib.hid (fun w hA hp => rowInt64 B cb a w hA hla hm hp)
  have HC := Lib.hid (arrMay_any A B ca cb s a (w.alloc (.cells #[.slice A s.length ca, .slice B a.length cb] 36)) (hA.on ((Below.refl _ _).alloc (Nat.le_refl _) _)) hl (by omega))
  rw [h0] at HC
  have H0 := Lib.hid h0
  clear hA hB hl hla h0 hp
  obtain ⟨k, hk⟩ : ∃ k, k = s.length := ⟨_, rfl⟩
  obtain ⟨n, hnn⟩ : ∃ n, n = a.length := ⟨_, rfl⟩
  have HK := Lib.hid (And.intro hk hnn)
  rw [← hk, ← hnn] at HC hf ⊢
  rw [← hk] at hn
  rw [← hnn] at hm HR
  clear hk hnn
  go_enter Tryd.func13, Tryd.ntmps13
  go_wp2_with fail
  refine HC.out.mono ?_
  rintro e w2 ⟨rfl, hb2⟩
  have h02 : w2.heap[w.heap.size]? = some (.cells #[.slice A k ca, .slice B n cb] 36 (0, 0)) := (hb2.block _ (by simp)).trans (heap_alloc_new w _)
  have HB2 : Hid (Below w.heap.size w w2) := Lib.hid (((Below.refl _ w).alloc (Nat.le_refl _) _).then_ hb2)
  obtain ⟨x0, x1⟩ := heap2 h02
  have hlt0 : w.heap.size < w2.heap.size := (Array.getElem?_eq_some_iff.1 h02).1
  have hb3 : Below w2.heap.size w2 (w2.alloc (.cells #[.int .i64 (k : Int)] 3)) := (Below.refl _ _).alloc (Nat.le_refl _) _
  have y0 := (hb3.cell (p := ⟨w.heap.size, 0, none⟩) hlt0).trans x0
  have y1 := (hb3.cell (p := ⟨w.heap.size, 1, none⟩) hlt0).trans x1
  have HB3 := Lib.hid (HB2.out.then_ hb3)
  clear hb2 h02 hb3
  by_cases hn0 : n = 0
  · subst hn0
    go_wp2_with fail
    go_ret2
    refine ⟨?_, HB3.out⟩
    unfold text
    rw [if_pos HK.out.2.symm]
    rfl
  · have e1 : ((n : Int) == 0) = false := beq_eq_false_iff_ne.2 (by omega)
    by_cases hk0 : k = 0
    · have e2 : ((k : Int) == 0) = true := by simp [hk0]
      have hs : s = [] := List.length_eq_zero_iff.1 (by rw [← HK.out.1]; exact hk0)
      have hn1 : n = 1 := by
        have h := H0.out
        subst hs
        unfold arMay at h
        rw [HK.out.2]
        split at h
        · cases h
        · rename_i hh
          have : places [] = a.length := Classical.byContradiction fun hc => hh ⟨rfl, hc⟩
          have h1 : places [] = 1 := rfl
          omega
      obtain ⟨x, hx⟩ : ∃ x, a[0]? = some x := ⟨_, List.getElem?_eq_getElem (by rw [← HK.out.2]; omega)⟩
      have hx64 := HL.out x (List.mem_of_getElem? hx)
      obtain ⟨b, off, rfl, hbl, kc⟩ := (HB.out.on HB3.out) 0 x hx
      have HX : Hid (text s a = digits x) := Lib.hid (by
        unfold text
        rw [if_neg (by rw [← HK.out.2]; exact hn0), if_pos (by rw [← HK.out.1]; exact hk0)]
        simp [atomAt, hx])
      have HX6 := Lib.hid hx64
      rw [Nat.add_zero] at kc
      have hn1' : (0 : Int) < n := by omega
      clear hf hx hs hbl hx64 hn1 hk0
      go_wp2_with fail
      refine (digits_any x HX6.out _ (HP.out.on HB3.out)).mono ?_
      rintro e w4 ⟨rfl, hb4⟩
      have HB4 := Lib.hid (HB3.out.then_ hb4)
      clear hb4
      go_wp2_with fail
      go_ret2
      refine ⟨?_, HB4.out⟩
      rw [HX.out]
      rfl
    · have hk1 : k = 1 := by rcases hf with h | h <;> omega
      have HX : Hid (text s a = joined a) := Lib.hid (by
        unfold text
        rw [if_neg (by rw [← HK.out.2]; exact hn0), if_neg (by rw [← HK.out.1]; exact hk0), if_pos (by rw [← HK.out.1]; exact hk1)])
      have e2 : ((k : Int) == 0) = false := beq_eq_false_iff_ne.2 (by omega)
      have e3 : ((k : Int) == 1) = true := by simp [hk1]
      clear hf hk1 hk0
      go_wp2_with fail
      refine (HR.out _ (HB.out.on HB3.out) (HP.out.on HB3.out)).mono ?_
      rintro e w4 ⟨rfl, hb4⟩
      have HB4 := Lib.hid (HB3.out.then_ hb4)
      clear hb4
      go_wp2_with fail
      go_ret2
      refine ⟨?_, HB4.out⟩
      rw [HX.out]
      rfl

/-- Text's answer -/
def textErr (s a : List Int) : Int := if arMay s a = 0 then 0 else 1
def textOf (s a : List Int) : List UInt8 := if arMay s a = 0 then text s a else []
theorem text_any (A B : Option Addr) (ca cb : Nat) (s a : List Int) (w : World) (hA : IntsAt w A s) (hB : IntsAt w B a) (hl : All64 s) (hla : All64 a) (hn : s.length ≤ 4611686018427387904) (hm : a.length ≤ 4611686018427387904) (hp : Pow10 w) :
    Calls Tryd.prog 13 #[.agg #[.slice A s.length ca, .slice B a.length cb]] w fun e w' => e = .returned (.tuple #[.string ⟨(textOf s a).toArray⟩, .int .i64 (textErr s a)]) ∧ Below w.heap.size w w' := by
  unfold textOf textErr
  by_cases h0 : arMay s a = 0
  · rw [if_pos h0, if_pos h0]
    by_cases hf : a.length = 0 ∨ s.length ≤ 1
    · exact text_few A B ca cb s a w hA hB hl hla (by have := (may_parts h0).2.2.1; omega) (by have := (may_parts h0).2.2.2; omega) hp h0 hf
    · have ha : a ≠ [] := fun e => hf (.inl (by rw [e]; rfl))
      have hs : s ≠ [] := fun e => hf (.inr (by rw [e]; exact Nat.zero_le _))
      have hM : shMay s = 0 := by
        unfold arMay at h0
        split at h0
        · cases h0
        · exact h0
      have hlast : 0 ≤ s.getLast hs := (may_nonneg hM).1 _ (List.getLast_mem hs)
      obtain ⟨m, hmm⟩ : ∃ m : Nat, s.getLast hs = m := ⟨_, (Int.toNat_of_nonneg hlast).symm⟩
      have hsd : s = s.dropLast ++ [(m : Int)] := by rw [← hmm]; exact (List.dropLast_concat_getLast hs).symm
      have hd0 : s.dropLast ≠ [] := fun e => hf (.inr (by rw [hsd, e]; simp))
      have hla1 : lastOf s = m := by unfold lastOf; rw [List.getLast?_eq_some_getLast hs, Option.getD_some, hmm]; simp
      have ht : text s a = grid s a m a.length a.length := by
        unfold text
        rw [if_neg (fun e => hf (.inl e)), if_neg (fun e => hf (.inr (by omega))), if_neg (fun e => hf (.inr (by omega))), hla1]
      rw [ht]
      have := text_grid A B ca cb s.dropLast a m w (by rw [← hsd]; exact hA) hB (by rw [← hsd]; exact hl) hla hp (by rw [← hsd]; exact h0) ha hd0
      rwa [← hsd] at this
  · rw [if_neg h0, if_neg h0]
    exact text_not A B ca cb s a w hA hl hn h0
/-- Flat's text -/
def flatOf (s a : List Int) : List UInt8 := if arMay s a = 0 then flat s a else []
theorem flat_any (A B : Option Addr) (ca cb : Nat) (s a : List Int) (w : World) (hA : IntsAt w A s) (hB : IntsAt w B a) (hl : All64 s) (hla : All64 a) (hn : s.length ≤ 4611686018427387904) (hp : Pow10 w) :
    Calls Tryd.prog 12 #[.agg #[.slice A s.length ca, .slice B a.length cb]] w fun e w' => e = .returned (.tuple #[.string ⟨(flatOf s a).toArray⟩, .int .i64 (textErr s a)]) ∧ Below w.heap.size w w' := by
  unfold flatOf textErr
  by_cases h0 : arMay s a = 0
  · rw [if_pos h0, if_pos h0]
    exact flat_may A B ca cb s a w hA hB hl hla (by have := (may_parts h0).2.2.1; omega) (by have := (may_parts h0).2.2.2; omega) hp h0
  · rw [if_neg h0, if_neg h0]
    exact flat_not A B ca cb s a w hA hl hn h0
end Go.Proofs.YtpipcpjkfgdpcaaDoor
