/- The law ShowReads. Condition: strconv's table of powers is as laid. -/
import Derived.Test.YtpipcpjkfgdpcaaDoorShBegun
namespace Go.Proofs.YtpipcpjkfgdpcaaDoor
open Go.RowKit
attribute [local go_sem] Oper.semAt_some

set_option maxHeartbeats 16000000 in
set_option maxRecDepth 100000 in
theorem showReads_any (s : ByteArray) (w : World) (hp : Pow10 w) : Calls Tryd.prog 5 #[.string s] w fun e w' => e = .returned (.bool true) ∧ Below w.heap.size w w' := by
  have HP := Lib.hid hp
  have HBG := Lib.hid (begun_any w hp)
  clear hp
  go_enter Tryd.func5, Tryd.ntmps5
  go_wp2_with fail
  refine HBG.out.mono ?_
  rintro e w1 ⟨rfl, hb1⟩
  have HB1 := Lib.hid hb1
  clear hb1 HBG
  go_wp2_with fail
  refine (read_any s w1).mono ?_
  rintro e w2 ⟨sv, av, place, err, rfl, hb2, ⟨rfl, rfl, sh, at_, o1, o2, h3, h4, h5, h6, _, _⟩ | ⟨he, hp0, hp1, rfl, rfl, _⟩⟩
  · obtain ⟨A, ca, rfl⟩ := row_form o1
    obtain ⟨B, cb, rfl⟩ := row_form o2
    have HA : Hid (ArrAt w2 A B sh at_) := Lib.hid ⟨row_ints o1, row_ints o2⟩
    have HB2 := Lib.hid (HB1.out.then_ hb2)
    have h5' : (⟨(flat sh at_).toArray⟩ : ByteArray) = s := by rw [h5]
    have hm := may_parts h6
    have hb3 : Below w2.heap.size w2 (w2.alloc (.cells #[.slice A sh.length ca, .slice B at_.length cb] 36)) := (Below.refl _ _).alloc (Nat.le_refl _) _
    have HBX := Lib.hid hb3
    have hX := heap_alloc_new w2 (.cells #[.slice A sh.length ca, .slice B at_.length cb] 36)
    have HX := Lib.hid hX
    have H64 := Lib.hid (And.intro h3 h4)
    have HM := Lib.hid (And.intro h6 hm)
    obtain ⟨x0, x1⟩ := heap2 hX
    have hcall := flat_may A B ca cb sh at_ (w2.alloc (.cells #[.slice A sh.length ca, .slice B at_.length cb] 36)) (HA.out.1.on hb3) (HA.out.2.on hb3) h3 h4 (by omega) (by omega) (HP.out.on (HB2.out.then_ hb3)) h6
    rw [h5'] at hcall
    have HC := Lib.hid hcall
    clear o1 o2 h3 h4 h5 h6 h5' hm hb3 hX hcall hb2
    go_wp2_with fail
    refine HC.out.mono ?_
    rintro e w4 ⟨rfl, hb4⟩
    have hY := (hb4.block _ (Array.getElem?_eq_some_iff.1 HX.out).1).trans HX.out
    obtain ⟨y0, y1⟩ := heap2 hY
    have hb24 := HBX.out.then_ hb4
    have HB4 := Lib.hid (HB2.out.then_ hb24)
    have hcall := arrMay_any A B ca cb sh at_ w4 (HA.out.1.on hb24) H64.out.1 (by have := HM.out.2.2.2.1; omega)
    rw [HM.out.1] at hcall
    have HC2 := Lib.hid hcall
    clear hY hb4 hb24 hcall HC x0 x1
    go_wp2_with fail
    refine HC2.out.mono ?_
    rintro e w5 ⟨rfl, hb5⟩
    have HB5 := Lib.hid (HB4.out.then_ hb5)
    clear hb5 HC2 y0 y1
    go_wp2_with fail
    go_ret
    exact ⟨rfl, HB5.out⟩
  · have heb : (err == 0) = false := beq_eq_false_iff_ne.2 he
    have HB2 := Lib.hid (HB1.out.then_ hb2)
    have hX := heap_alloc_new w2 (.cells #[.slice none 0 0, .slice none 0 0] 36)
    have hb3 : Below w2.heap.size w2 (w2.alloc (.cells #[.slice none 0 0, .slice none 0 0] 36)) := (Below.refl _ _).alloc (Nat.le_refl _) _
    have HB3 := Lib.hid (HB2.out.then_ hb3)
    obtain ⟨x0, x1⟩ := heap2 hX
    clear hb2 hb3 hX he
    go_wp2_with fail
    go_ret
    exact ⟨rfl, HB3.out⟩
end Go.Proofs.YtpipcpjkfgdpcaaDoor
