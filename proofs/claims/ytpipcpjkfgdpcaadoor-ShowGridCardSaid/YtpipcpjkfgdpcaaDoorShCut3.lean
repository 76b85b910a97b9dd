/- show.cut behind its label 'done'. Condition: the text is at most 2^20 bytes. -/
import Derived.Test.YtpipcpjkfgdpcaaDoorShCut2
import Derived.Deep.CutBlock
import Derived.Maps.AppendAt
import Derived.Deep.AppendLies
namespace Go.Proofs.YtpipcpjkfgdpcaaDoor
open Go.RowKit

theorem signed_in {o b : Bool} {n : Nat} (h : Fits o b n) : In64 (signed b n) := by
  cases b with
  | false => have := h.2.1 rfl; simp only [signed]; constructor <;> simp <;> omega
  | true => have := h.2.2 rfl; simp only [signed]; constructor <;> simp <;> omega
theorem signed_text {b : Bool} {n : Nat} (h : b = true → 1 ≤ n) : digits (signed b n) = sg b ++ Lib.decDigits n := by
  cases b with
  | false =>
    have h0 : ¬ (n : Int) < 0 := by omega
    simp only [signed, digits, sg, Bool.false_eq_true, if_false, List.nil_append]
    rw [if_neg h0]
    simp
  | true =>
    have := h rfl
    have h0 : -(n : Int) < 0 := by omega
    simp only [signed, digits, sg, if_true]
    rw [if_pos h0]
    simp
theorem bl_snoc (l : List Int) (x : Int) : bl (l ++ [x]) = bl l ++ (digits x ++ [32]) := by simp [bl]
theorem bl_len : ∀ l : List Int, 2 * l.length ≤ (bl l).length
  | [] => by simp [bl]
  | x :: r => by
    have h1 := digits_pos x
    have h2 := bl_len r
    simp only [bl, List.flatMap_cons, List.length_append, List.length_cons, List.length_nil] at h2 ⊢
    omega
theorem upto_len (s : ByteArray) (i : Nat) : (upto s i).length ≤ s.size := by
  unfold upto
  rw [List.length_take, Array.length_toList]
  exact Nat.min_le_right _ _
theorem info_int64 : (Tryd.prog.info? 2).map (fun i => (i.zero, i.size, i.bytes)) = some (some (.int .i64 0), 1, 8) := by kernel_rfl

set_option maxHeartbeats 8000000 in
set_option maxRecDepth 100000 in
theorem cut_done (s : ByteArray) (w0 : World) (hs : s.size ≤ 1048576) (r : Code) (hR : cutAt 3 = some r) (a : Act) (w : World) (hJ : cutJ s w0 3 a w) : CutPasses s w0 (cutM s 3 a w) r a w := by
  have e : cutAt 3 = some _ := rfl
  rw [e] at hR
  cases hR
  intro Q1 hret hgo hfall
  obtain ⟨c, n, i, f, b, o, u, rfl, hi, hf, hn, hW, ht, hA⟩ := hJ
  obtain ⟨L, l, av, ahead, dol, mark⟩ := c
  obtain ⟨A, cp, hLL⟩ : ∃ A cp, L = .slice A l.length cp := hW.ol.form
  obtain ⟨A2, cp2, hAA⟩ : ∃ A cp, av = .slice A ahead.length cp := hW.oa.form
  subst hLL hAA
  have HW := Lib.hid hW
  have HT := Lib.hid ht
  have HA : Hid (∃ N, Num o n N ∧ finK (lst s) (words (lst s)) b N f i l ahead mark = allWords (lst s)) := Lib.hid hA
  have HGo := Lib.hid hgo
  have HFall := Lib.hid hfall
  have HRet := Lib.hid hret
  obtain ⟨q0, q1, q2, q3⟩ := heap3 hW.p5
  have hblk := hW.p2
  have HN := Lib.hid hn
  clear hW ht hA hfall hgo hret hn
  simp only [cutFrame]
  simp only at q0 q1 q2 q3
  go_upto_region 26 with fail
  go_cut [136] from 13 (fun v wx => ((v = .bool false ∧ Fits o b n) ∨ (v = .bool true ∧ ¬ Fits o b n)) ∧ wx = w)
  case first =>
    cases o with
    | true =>
      go_wp2_with fail
      all_goals
        go_meet
        case rel => exact ⟨.inr ⟨rfl, fun h => by have := h.1; cases this⟩, rfl⟩
    | false =>
      cases b with
      | false =>
        rcases Nat.lt_or_ge 9223372036854775807 n with hbig | hok
        · have hd : decide ((9223372036854775807 : Int) < n) = true := by simp; omega
          have HB := Lib.hid hbig
          clear hbig
          go_wp2_with fail
          all_goals
            go_meet
            case rel => exact ⟨.inr ⟨rfl, fun h => by have := h.2.1 rfl; have := HB.out; omega⟩, rfl⟩
        · have hd : decide ((9223372036854775807 : Int) < n) = false := by simp; omega
          have HB := Lib.hid hok
          clear hok
          go_wp2_with fail
          all_goals
            go_meet
            case rel => exact ⟨.inl ⟨rfl, rfl, fun _ => HB.out, fun h => (by cases h)⟩, rfl⟩
      | true =>
        rcases Nat.lt_or_ge 9223372036854775808 n with hbig | hok
        · have hd : decide ((9223372036854775808 : Int) < n) = true := by simp; omega
          have HB := Lib.hid hbig
          clear hbig
          go_wp2_with fail
          all_goals
            go_meet
            case rel => exact ⟨.inr ⟨rfl, fun h => by have := h.2.2 rfl; have := HB.out; omega⟩, rfl⟩
        · have hd : decide ((9223372036854775808 : Int) < n) = false := by simp; omega
          have HB := Lib.hid hok
          clear hok
          go_wp2_with fail
          all_goals
            go_meet
            case rel => exact ⟨.inl ⟨rfl, rfl, fun h => (by cases h), fun _ => HB.out⟩, rfl⟩
  obtain ⟨hv, rfl⟩ := hcut
  rcases hv with ⟨rfl, hfits⟩ | ⟨rfl, hnot⟩
  · have HFit := Lib.hid hfits
    have HAF : Hid (afterK (lst s) (words (lst s)) i (l ++ [signed b n]) ahead mark = allWords (lst s)) := Lib.hid (by obtain ⟨N, h1, h2⟩ := HA.out; rw [← h2, fin_ok h1 hfits])
    clear hfits
    go_upto_if 139 with fail
    go_cut [7] from 13 (fun v7 wx => (∃ m : Nat, v7 = .int .u64 m ∧ m < 18446744073709551616 ∧ Hid (wrap64 m = signed b n)) ∧ wx = wc)
    case first =>
      cases b with
      | false =>
        go_wp2_with fail
        go_meet
        case rel => exact ⟨⟨n, rfl, HN.out, Lib.hid (by have := HFit.out.2.1 rfl; rw [IntWalk.wrap64_in _ (by omega)]; rfl)⟩, rfl⟩
      | true =>
        have h1 : 1 ≤ n := (HT.out HFit.out.1).2 rfl
        have h2 := HFit.out.2.2 rfl
        have hwr : IntKind.u64.wrap (-(n : Int)) = ((18446744073709551616 - n : Nat) : Int) := by rw [IntKind.wrap_u64]; omega
        have HWR : Hid (wrap64 ((18446744073709551616 - n : Nat) : Int) = -(n : Int)) := Lib.hid (by unfold wrap64; omega)
        have HLT : Hid (18446744073709551616 - n < 18446744073709551616) := Lib.hid (by omega)
        clear h1 h2
        go_wp2_with fail
        go_meet
        case rel => exact ⟨⟨18446744073709551616 - n, rfl, HLT.out, Lib.hid (by rw [HWR.out]; rfl)⟩, rfl⟩
    obtain ⟨⟨m, rfl, hm, HM⟩, hwd⟩ := hcut
    obtain ⟨w, rfl⟩ : ∃ w, w = wc := ⟨_, rfl⟩
    subst hwd
    obtain ⟨x, hx⟩ : ∃ x, x = signed b n := ⟨_, rfl⟩
    rw [← hx] at HM
    have hwx : wrap64 (m : Int) = x := HM.out
    have HX := Lib.hid hx
    have HMM := Lib.hid hm
    have HOWN : Hid ((w.alloc (.cells #[.int .i64 x] 2)).ownsRow w0.heap.size 2 1 (.slice A l.length cp) l.length (l.map fun y => .int .i64 y)) := Lib.hid (HW.out.ol.alloc _)
    obtain ⟨j0, hj, hz0, hz1, hz2⟩ := info_parts info_int64
    have hll : l.length ≤ 1048576 := by
      have h1 := bl_len l
      have h2 := (HT.out HFit.out.1).1
      have h3 := upto_len s i
      have h4 := congrArg List.length h2
      simp only [Cst.pre, List.length_append] at h4
      omega
    clear hx HM hm
    go_wp2_with (at_builtin; refine wpList_append_own_at _ rfl (.tmp 142) (.tmp 145) 28 rfl w0.heap.size 2 j0 (.int .i64 0) 1 8 Tryd.underlying28 hj hz0 hz1 hz2 rfl (by decide) (.slice A l.length cp) l.length (l.map fun y => .int .i64 y) rfl HOWN.out ⟨w.heap.size, 0, none⟩ 1 1 [.int .i64 x] rfl rfl (cell_one_new _ _ _) (by simp [Value.oneCell']) ?_ ?_ ?_ ?_)
    · unfold maxLen; omega
    · omega
    · have := HW.out.be.size; simp; omega
    intro lv' w2 hown2 hgr2 _ hfr0
    have hc2 : CutW s w0 w2 ⟨lv', l ++ [x], .slice A2 ahead.length cp2, ahead, dol, mark⟩ := by
      have hW := HW.out
      have hb1 : Below w0.heap.size w0 (w.alloc (.cells #[.int .i64 x] 2)) := hW.be.alloc hW.be.size _
      have hlt2 : w0.heap.size < w.heap.size := (Array.getElem?_eq_some_iff.1 hW.p2).1
      have hlt5 : w0.heap.size + 1 < w.heap.size := (Array.getElem?_eq_some_iff.1 hW.p5).1
      have ne : ∀ (g : Nat) (cs : Array Value), w.heap[g]? = some (.cells cs 96 (0, 0)) → some g ≠ (Value.slice A l.length cp).ownBlock := fun g cs hg h => by
        obtain ⟨cur, hc⟩ := hW.ol.row g h.symm
        rw [hg] at hc; injection hc with hc; injection hc with _ ht; cases ht
      have hx64 : In64 x := by rw [HX.out]; exact signed_in HFit.out
      refine ⟨hb1.grown hgr2 (by have := hb1.size; exact this) (fun k hk => (hW.ol.lt k hk).1), ?_, ?_, ?_, ?_, ?_, ?_, hW.aa, hW.dol⟩
      · exact (hgr2.block _ (by simp; omega) (ne _ _ hW.p2)).trans ((Below.heap_alloc _ _ _ hlt2).trans hW.p2)
      · exact (hgr2.block _ (by simp; omega) (ne _ _ hW.p5)).trans ((Below.heap_alloc _ _ _ hlt5).trans hW.p5)
      · simpa [OwnsInts] using hown2
      · exact World.ownsRow.kept (hW.oa.alloc _) hgr2 hW.ap
      · rcases hW.ap with h | h
        · exact .inl h
        · refine .inr ?_
          rcases hfr0 with h' | h'
          · rw [h']; exact h
          · rw [h']
            intro e
            have := (hW.oa.lt _ e).2
            omega
      · intro y hy
        rcases List.mem_append.1 hy with hy | hy
        · exact hW.al y hy
        · simp only [List.mem_cons, List.not_mem_nil, or_false] at hy
          subst hy
          exact hx64
    have hpre : upto s i ++ [32] = (Cst.mk lv' (l ++ [x]) (.slice A2 ahead.length cp2) ahead dol mark).pre := by
      have h2 := HT.out HFit.out.1
      have h3 := signed_text h2.2
      rw [← HX.out] at h3
      rw [h2.1]
      simp only [Cst.pre, bl_snoc, h3, List.append_assoc]
    obtain ⟨g', cp', rfl, _⟩ := World.ownsRow.form hown2 (by omega)
    have HC2 := Lib.hid hc2
    have HPre := Lib.hid hpre
    clear hown2 hgr2 hfr0 hc2 hpre hll
    by_cases hil : i = s.size
    · have hib : ((i : Int) == s.size) = true := by simp [hil]
      go_wp2_with fail
      refine wp_goto (HGo.out 1 _ _ (cutJ_of ⟨.slice (some ⟨g', 0, none⟩) (l.length + 1) cp', l ++ [x], .slice A2 ahead.length cp2, ahead, dol, mark⟩ m i f b o rfl hi hf HMM.out HC2.out ⟨hil, HPre.out⟩ (by have h := HAF.out; rw [← HX.out, after_end _ _ _ (by rw [len_data]; exact hil)] at h; exact h)) ?_)
      rw [cutM_at]
      show 8 * (s.size - i) + 0 < 8 * (s.size - i) + 4
      omega
    · have hib : ((i : Int) == s.size) = false := by simp; omega
      go_wp2_with fail
      rename_i hK
      refine wp_label (hK _ _ (HFall.out 2 _ _ _ rfl (cutJ_of ⟨.slice (some ⟨g', 0, none⟩) (l.length + 1) cp', l ++ [x], .slice A2 ahead.length cp2, ahead, dol, mark⟩ m i f b o rfl hi hf HMM.out HC2.out ⟨by omega, HPre.out⟩ (by have h := HAF.out; rw [← HX.out] at h; exact h)) ?_))
      rw [cutM_at]
      show 8 * (s.size - i) + 3 < 8 * (s.size - i) + 4
      omega
  · have HNot := Lib.hid hnot
    clear hnot
    go_wp2_with (refine wp_store_words _ w0.heap.size _ (.tmp 2) (.tmp 137) rfl rfl hblk rfl rfl _ _ _ rfl rfl ?_)
    refine HRet.out _ _ (bodyPost_ret (results_words rfl rfl (setRow_heap _ _ _ _ _ _ hblk)) rfl ?_)
    exact HW.out.err _ _ _ _ _ _ (.inr rfl) (by omega) (by omega) (by obtain ⟨N, h1, h2⟩ := HA.out; rw [← h2, fin_bad h1 HNot.out])
end Go.Proofs.YtpipcpjkfgdpcaaDoor
