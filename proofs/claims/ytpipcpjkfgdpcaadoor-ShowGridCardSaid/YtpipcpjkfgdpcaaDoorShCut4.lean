/- show.cut behind its label 'more'. No condition. -/
import Derived.Test.YtpipcpjkfgdpcaaDoorShCut3
namespace Go.Proofs.YtpipcpjkfgdpcaaDoor
open Go.RowKit

theorem dec_small (d : Nat) (h : d < 10) : Lib.decDigits d = [UInt8.ofNat (48 + d)] := by rw [Lib.decDigits, dif_pos h]
theorem dec_push (n d : Nat) (hn : 1 ≤ n) (h : d < 10) : Lib.decDigits (n * 10 + d) = Lib.decDigits n ++ [UInt8.ofNat (48 + d)] := by
  rw [Lib.decDigits, dif_neg (by omega), show (n * 10 + d) / 10 = n by omega, show (n * 10 + d) % 10 = d by omega]
theorem num_push {n d : Nat} (h0 : n = 0 → 1 ≤ d) (h : d < 10) : numText (n * 10 + d) = numText n ++ [UInt8.ofNat (48 + d)] := by
  unfold numText
  by_cases hn : n = 0
  · have := h0 hn
    subst hn
    rw [if_neg (by omega), if_pos rfl, Nat.zero_mul, Nat.zero_add, dec_small d h]
    rfl
  · rw [if_neg (by omega), if_neg hn, dec_push n d (by omega) h]
theorem byte_digit {x : UInt8} {d : Nat} (h : x.toNat = 48 + d) : UInt8.ofNat (48 + d) = x := by
  apply UInt8.toNat_inj.1
  have h1 : x.toNat < 256 := UInt8.toNat_lt x
  rw [UInt8.toNat_ofNat']
  omega
theorem get_data {s : ByteArray} {i : Nat} (h : i < s.size) : s.data[i]? = some s[i] := by
  have h' : i < s.data.size := h
  rw [Array.getElem?_eq_getElem h']
  rfl

set_option maxHeartbeats 8000000 in
set_option maxRecDepth 100000 in
theorem cut_more (s : ByteArray) (w0 : World) (hs : s.size ≤ 1048576) (r : Code) (hR : cutAt 4 = some r) (a : Act) (w : World) (hJ : cutJ s w0 4 a w) : CutPasses s w0 (cutM s 4 a w) r a w := by
  have e : cutAt 4 = some _ := rfl
  rw [e] at hR
  cases hR
  clear e
  intro Q1 hret hgo hfall
  obtain ⟨c, n, i, f, b, o, u, rfl, hi, hf, hn, hW, ht, hA⟩ := hJ
  obtain ⟨L, l, av, ahead, dol, mark⟩ := c
  have HW := Lib.hid hW
  have HT := Lib.hid ht
  have HA : Hid (∃ N, Num o n N ∧ moreK (lst s) (words (lst s)) b N f i l ahead mark = allWords (lst s)) := Lib.hid hA
  have HGo := Lib.hid hgo
  have HFall := Lib.hid hfall
  have HN := Lib.hid hn
  clear hW ht hA hfall hgo hret hn
  simp only [cutFrame]
  go_upto_region 21 with fail
  go_cut [101] from 13 (fun v wx => ((v = .bool true ∧ ∃ h : i < s.size, 48 ≤ s[i].toNat ∧ s[i].toNat ≤ 57) ∨ (v = .bool false ∧ ∀ h : i < s.size, ¬ (48 ≤ s[i].toNat ∧ s[i].toNat ≤ 57))) ∧ wx = w)
  case first =>
    by_cases hlt : i < s.size
    · have hlti : (i : Int) < s.size := by omega
      by_cases h48 : 48 ≤ s[i].toNat
      · have d48 : (48 : Int) ≤ s[i].toNat := by omega
        by_cases h57 : s[i].toNat ≤ 57
        · have d57 : (s[i].toNat : Int) ≤ 57 := by omega
          have HX : Hid (∃ h : i < s.size, 48 ≤ s[i].toNat ∧ s[i].toNat ≤ 57) := Lib.hid ⟨hlt, h48, h57⟩
          go_wp2_with fail
          all_goals
            go_meet
            case rel => exact ⟨.inl ⟨by simp, HX.out⟩, rfl⟩
        · have d57 : ¬ (s[i].toNat : Int) ≤ 57 := by omega
          have HX : Hid (∀ h : i < s.size, ¬ (48 ≤ s[i].toNat ∧ s[i].toNat ≤ 57)) := Lib.hid fun h hh => h57 hh.2
          go_wp2_with fail
          all_goals
            go_meet
            case rel => exact ⟨.inr ⟨by simp <;> omega, HX.out⟩, rfl⟩
      · have d48 : ¬ (48 : Int) ≤ s[i].toNat := by omega
        have HX : Hid (∀ h : i < s.size, ¬ (48 ≤ s[i].toNat ∧ s[i].toNat ≤ 57)) := Lib.hid fun h hh => h48 hh.1
        go_wp2_with fail
        all_goals
          go_meet
          case rel => exact ⟨.inr ⟨by simp <;> omega, HX.out⟩, rfl⟩
    · have hlti : ¬ (i : Int) < s.size := by omega
      have HX : Hid (∀ h : i < s.size, ¬ (48 ≤ s[i].toNat ∧ s[i].toNat ≤ 57)) := Lib.hid fun h => absurd h hlt
      go_wp2_with fail
      all_goals
        go_meet
        case rel => exact ⟨.inr ⟨by simp, HX.out⟩, rfl⟩
  obtain ⟨hv, rfl⟩ := hcut
  rcases hv with ⟨rfl, hlt, h48, h57⟩ | ⟨rfl, hno⟩
  · obtain ⟨d, hd⟩ : ∃ d : Nat, s[i].toNat = 48 + d := ⟨s[i].toNat - 48, by omega⟩
    have hd10 : d < 10 := by omega
    have hsub : IntKind.u8.wrap ((s[i].toNat : Int) - 48) = d := by rw [hd, IntKind.wrap_u8]; omega
    have HD := Lib.hid hd
    clear hd h48 h57
    have hdu : IntKind.u64.wrap (d : Int) = d := by rw [IntKind.wrap_u64]; omega
    have hms : IntKind.u64.wrap (18446744073709551615 - (d : Int)) = 18446744073709551615 - (d : Int) := by rw [IntKind.wrap_u64]; omega
    go_upto_region 23 with fail
    go_cut [11] from 13 (fun v11 wx => (∃ o' : Bool, v11 = .bool o' ∧ Hid ((o' = false → o = false ∧ n * 10 + d < 18446744073709551616) ∧ (o' = true → o = true ∨ 18446744073709551616 ≤ n * 10 + d))) ∧ wx = wc)
    case first =>
      cases o with
      | true =>
        go_wp2_with fail
        all_goals
          go_meet
          case rel => exact ⟨⟨true, rfl, Lib.hid (by refine ⟨fun h => (by cases h), fun _ => .inl (by first | rfl | trivial)⟩)⟩, rfl⟩
      | false =>
        have hd0 : (0 : Int) ≤ 18446744073709551615 - (d : Int) := by omega
        by_cases hbig : ((18446744073709551615 - (d : Int)) / 10) < n
        · have HGE : Hid (18446744073709551616 ≤ n * 10 + d) := Lib.hid (by omega)
          go_wp2_with fail
          all_goals
            go_meet
            case rel => exact ⟨⟨true, rfl, Lib.hid (by refine ⟨fun h => (by cases h), fun _ => ?_⟩; first | exact .inr HGE.out | exact HGE.out)⟩, rfl⟩
        · have HLT : Hid (n * 10 + d < 18446744073709551616) := Lib.hid (by omega)
          go_wp2_with fail
          all_goals
            go_meet
            case rel => exact ⟨⟨false, rfl, Lib.hid (by refine ⟨fun _ => ?_, fun h => (by cases h)⟩; first | exact ⟨rfl, HLT.out⟩ | exact HLT.out | exact ⟨trivial, HLT.out⟩)⟩, rfl⟩
    obtain ⟨⟨o', rfl, HO⟩, hw1⟩ := hcut
    subst hw1
    clear hms hsub
    go_upto_region 24 with fail
    go_cut [7] from 13 (fun v7 wx => (∃ m : Nat, v7 = .int .u64 m ∧ Hid (m < 18446744073709551616 ∧ (n * 10 + d < 18446744073709551616 → m = n * 10 + d))) ∧ wx = wc)
    case first =>
      go_wp2_with fail
      go_meet
      case rel => exact ⟨⟨((n * 10) % 18446744073709551616 + d) % 18446744073709551616, by rw [IntKind.wrap_u64, IntKind.wrap_u64]; congr 1, Lib.hid ⟨by omega, by omega⟩⟩, rfl⟩
    obtain ⟨⟨m, rfl, HM⟩, hw2⟩ := hcut
    subst hw2
    go_wp2_with fail
    refine wp_goto (HGo.out 4 _ _ (cutJ_of ⟨L, l, av, ahead, dol, mark⟩ m (i + 1) f b o' rfl (by omega) hf HM.out.1 HW.out ?_ ?_) ?_)
    · intro ho'
      obtain ⟨ho, hlt2⟩ := HO.out.1 ho'
      obtain ⟨h1, h2⟩ := HT.out ho
      have hm := HM.out.2 hlt2
      have hd1 : n = 0 → 1 ≤ d := fun h0 => by
        obtain ⟨x, hx, hx1, _⟩ := h2 h0
        rw [get_data hlt] at hx
        obtain rfl := Option.some.inj hx
        have := HD.out
        omega
      refine ⟨?_, fun h0 => ?_⟩
      · rw [upto_succ hlt, h1, hm, num_push hd1 hd10, byte_digit HD.out]
        simp only [List.append_assoc]
      · have : n = 0 := by omega
        have := hd1 this
        omega
    · obtain ⟨N, h1, h2⟩ := HA.out
      have hdd : s[i].toNat - 48 = d := by have := HD.out; omega
      refine ⟨N * 10 + d, num_step h1 (fun h => ⟨(HO.out.1 h).1, HM.out.2 (HO.out.1 h).2⟩) HO.out.2, ?_⟩
      have h3 := more_step (rec := words (lst s)) (b := b) (N := N) (f := f) (l := l) (a := ahead) (m := mark) (at_some hlt) (by have := HD.out; omega) (by have := HD.out; omega)
      rw [hdd] at h3
      exact h3.symm.trans h2
    · rw [cutM_at]
      show 8 * (s.size - (i + 1)) + 5 < 8 * (s.size - i) + 5
      omega
  · have HNO := Lib.hid hno
    clear hno
    go_wp2_with fail
    rename_i hK
    refine wp_label (hK _ _ (HFall.out 3 _ _ _ rfl (cutJ_of ⟨L, l, av, ahead, dol, mark⟩ n i f b o rfl hi hf HN.out HW.out ?_ ?_) ?_))
    · intro ho
      obtain ⟨h1, h2⟩ := HT.out ho
      have hn0 : n ≠ 0 := fun h0 => by
        obtain ⟨x, hx, hx1, hx2⟩ := h2 h0
        have hlt : i < s.size := (Array.getElem?_eq_some_iff.1 hx).1
        rw [get_data hlt] at hx
        obtain rfl := Option.some.inj hx
        exact HNO.out hlt ⟨by omega, hx2⟩
      refine ⟨?_, fun _ => by omega⟩
      unfold numText at h1
      rw [if_neg hn0] at h1
      exact h1
    · obtain ⟨N, h1, h2⟩ := HA.out
      refine ⟨N, h1, ?_⟩
      refine (more_stop (rec := words (lst s)) (b := b) (N := N) (f := f) (l := l) (a := ahead) (m := mark) (fun x hx => ?_)).symm.trans h2
      have hlt := (List.getElem?_eq_some_iff.1 hx).1
      rw [len_data] at hlt
      rw [at_some hlt] at hx
      obtain rfl := Option.some.inj hx
      exact HNO.out hlt
    · rw [cutM_at]
      show 8 * (s.size - i) + 4 < 8 * (s.size - i) + 5
      omega
end Go.Proofs.YtpipcpjkfgdpcaaDoor
