/- The walk of show.Read. No condition. -/
import Derived.Test.YtpipcpjkfgdpcaaDoorShRead0
namespace Go.Proofs.YtpipcpjkfgdpcaaDoor
open Go.RowKit

theorem read_start {w w2 : World} {av lv : Value} {ahead l : List Int} {mark : Int} (hb : Below (w.alloc (.cells #[.slice none 0 0, .slice none 0 0] 36)).heap.size (w.alloc (.cells #[.slice none 0 0, .slice none 0 0] 36)) w2)
    (oa : OwnsInts w2 (w.alloc (.cells #[.slice none 0 0, .slice none 0 0] 36)).heap.size av ahead) (ol : OwnsInts w2 (w.alloc (.cells #[.slice none 0 0, .slice none 0 0] 36)).heap.size lv l) :
    ReadW w ((w2.alloc wzero).setRow w2.heap.size #[av, lv, .int .i64 mark]) w2.heap.size av lv ahead l mark := by
  have hs : w.heap.size ≤ (w.alloc (.cells #[.slice none 0 0, .slice none 0 0] 36)).heap.size := by simp
  have mono : ∀ {v : Value} {l : List Int}, OwnsInts w2 (w.alloc (.cells #[.slice none 0 0, .slice none 0 0] 36)).heap.size v l → OwnsInts w2 w.heap.size v l := fun {v l} h => ⟨h.1, by
    rcases h.2 with h0 | ⟨g, cap, cur, hv, hb, r⟩
    · exact .inl h0
    · exact .inr ⟨g, cap, cur, hv, Nat.le_trans hs hb, r⟩⟩
  have hb1 : Below w.heap.size w w2 := ((Below.refl _ w).alloc (Nat.le_refl _) _).then_ hb
  have hq : (w2.alloc wzero).heap[w2.heap.size]? = some wzero := heap_alloc_new w2 _
  have g := grown_row (w2.alloc wzero) w2.heap.size #[av, lv, .int .i64 mark]
  have hlt : w.heap.size < w2.heap.size := Nat.lt_of_lt_of_le (by simp) hb.size
  refine ⟨below_setRow (hb1.alloc hb1.size _) hb1.size _, ?_, setRow_heap _ _ _ _ _ _ hq, row_other ((mono oa).alloc _) g hq (by decide), row_other ((mono ol).alloc _) g hq (by decide)⟩
  refine (setRow_other _ _ _ _ (by omega)).trans ((Below.heap_alloc _ _ _ hlt).trans ((hb.block _ (by simp)).trans (heap_alloc_new w _)))

theorem read_begun {w w2 : World} (hb : Below (w.alloc (.cells #[.slice none 0 0, .slice none 0 0] 36)).heap.size (w.alloc (.cells #[.slice none 0 0, .slice none 0 0] 36)) w2) (cs : Array Value) :
    Below w.heap.size w ((w2.alloc wzero).setRow w2.heap.size cs) ∧ ((w2.alloc wzero).setRow w2.heap.size cs).heap[w.heap.size]? = some (.cells #[.slice none 0 0, .slice none 0 0] 36 (0, 0)) := by
  have hb1 : Below w.heap.size w w2 := ((Below.refl _ w).alloc (Nat.le_refl _) _).then_ hb
  have hlt : w.heap.size < w2.heap.size := Nat.lt_of_lt_of_le (by simp) hb.size
  exact ⟨below_setRow (hb1.alloc hb1.size _) hb1.size _, (setRow_other _ _ _ _ (by omega)).trans ((Below.heap_alloc _ _ _ hlt).trans ((hb.block _ (by simp)).trans (heap_alloc_new w _)))⟩
theorem arr_two {W : World} {p : Nat} {a b x y : Value} {t : TypeId} (h : W.heap[p]? = some (.cells #[a, b] t (0, 0))) : (((W.setCell ⟨p, 0, none⟩ x).setCell ⟨p, 1, none⟩ y).drew).heap[p]? = some (.cells #[x, y] t (0, 0)) := by
  show ((W.setCell ⟨p, 0, none⟩ x).setCell ⟨p, 1, none⟩ y).heap[p]? = _
  simp [World.setCell, Array.getElem?_modify, h]
theorem read_err2 {s : ByteArray} {w wr : World} (h : Below w.heap.size w wr) (place err : Int) (he : err ≠ 0) (h0 : 0 ≤ place) (h1 : place ≤ s.size) (hr : readSpec (lst s) = ([], [], place, err)) (x y : Value) :
    ReadPost s w (.returned (.tuple #[.agg #[.slice none 0 0, .slice none 0 0], .int .i64 place, .int .i64 err])) ((wr.setCell ⟨w.heap.size, 0, none⟩ x).setCell ⟨w.heap.size, 1, none⟩ y).drew :=
  ⟨_, _, place, err, rfl, (((h.setCell (p := ⟨w.heap.size, 0, none⟩) (Nat.le_refl _) x).setCell (p := ⟨w.heap.size, 1, none⟩) (Nat.le_refl _) y).drew), .inr ⟨he, h0, h1, rfl, rfl, hr⟩⟩
theorem slice_len {w : World} {B : Nat} {e : TypeId} {A : Option Addr} {n cp : Nat} {l : List Int} (h : w.ownsRow B e 1 (.slice A n cp) l.length (l.map fun x => .int .i64 x)) : n = l.length := by
  obtain ⟨A', cp', h'⟩ := row_form h
  injection h'

set_option maxHeartbeats 8000000 in
set_option maxRecDepth 100000 in
theorem read_any (s : ByteArray) (w : World) : Calls Tryd.prog 15 #[.string s] w (ReadPost s w) := by
  go_enter Tryd.func15, Tryd.ntmps15
  have hp0 : (w.alloc (.cells #[.slice none 0 0, .slice none 0 0] 36)).heap[w.heap.size]? = some (.cells #[.slice none 0 0, .slice none 0 0] 36 (0, 0)) := heap_alloc_new w _
  by_cases hbig : 1048576 < s.size
  · have hd : decide ((1048576 : Int) < s.size) = true := by simp; omega
    have HBig := Lib.hid hbig
    clear hbig
    go_wp2_with (refine wp_store_arr _ w.heap.size _ (.tmp 2) (.tmp 15) rfl rfl hp0 rfl rfl _ _ rfl rfl ?_)
    refine bodyPost_ret (results_arr rfl rfl (setRow_heap _ _ _ _ _ _ hp0)) rfl ?_
    exact read_err ((Below.refl _ _).alloc (Nat.le_refl _) _) _ 0 2 (by decide) (by decide) (Int.natCast_nonneg _) (spec_long HBig.out)
  · have hd : decide ((1048576 : Int) < s.size) = false := by simp; omega
    have HS : Hid (s.size ≤ 1048576) := Lib.hid (by omega)
    clear hbig hp0
    go_wp2_with fail
    refine (cut_any s _ HS.out).mono ?_
    rintro e w2 ⟨av, lv, mark, place, err, rfl, hb, ⟨A2, n2, cp2, rfl⟩, ⟨A, n, cp, rfl⟩, hc⟩
    have hq0 : (w2.alloc wzero).heap[w2.heap.size]? = some wzero := heap_alloc_new w2 _
    have HB := Lib.hid hb
    have HC := Lib.hid hc
    clear hb hc hd
    go_upto_block 0 with (refine wp_store_words _ w2.heap.size _ (.tmp 5) (.tmp 19) rfl rfl hq0 rfl rfl _ _ _ rfl rfl ?_)
    obtain ⟨W, hW⟩ : ∃ W, W = (w2.alloc wzero).setRow w2.heap.size #[.slice A2 n2 cp2, .slice A n cp, .int .i64 mark] := ⟨_, rfl⟩
    obtain ⟨hbW, hpW⟩ := read_begun HB.out #[.slice A2 n2 cp2, .slice A n cp, .int .i64 mark]
    rw [← hW] at hbW hpW ⊢
    have HBW := Lib.hid hbW
    clear hbW hq0
    rcases HC.out with ⟨rfl, rfl, c, hcav, hcL, hcm, hol, hoa, _, hl64, ha64, hdol, hpre, htot⟩ | ⟨herr, hpl0, hpl1, htot⟩
    · obtain ⟨L, l, av', ahead, dol, mark'⟩ := c
      simp only at hcav hcL hcm hol hoa hl64 ha64 hdol htot
      subst hcav hcL hcm
      have hR := read_start (mark := mark') HB.out hoa hol
      rw [← hW] at hR
      obtain rfl := slice_len hoa
      obtain rfl := slice_len hol
      obtain ⟨k0, k1, k2, k3⟩ := heap3 hR.q
      have HR := Lib.hid hR
      have HPre := Lib.hid (cut_ne hpre)
      have HTot := Lib.hid htot
      clear htot
      have H64 := Lib.hid (And.intro hl64 ha64)
      clear hR hpre hl64 ha64 hol hoa hW HB HC
      cases dol with
      | false =>
        obtain ⟨rfl, rfl⟩ : mark' = -1 ∧ ahead = [] := by rcases hdol with ⟨_, h1, h2⟩ | ⟨h, _⟩; exact ⟨h1, h2⟩; cases h
        have HL := Lib.hid (HPre.out.1 rfl)
        clear hdol
        by_cases h1 : l.length = 1
        · have x1 : ((l.length : Int) == 1) = true := by simp [h1]
          have H1 := Lib.hid h1
          clear h1
          go_wp2_with (refine wp_store_arr _ w.heap.size _ (.tmp 2) (.tmp 40) rfl rfl hpW rfl rfl _ _ rfl rfl ?_)
          refine bodyPost_ret (results_arr rfl rfl (setRow_heap _ _ _ _ _ _ hpW)) rfl ?_
          refine read_ok HR.out _ [] (World.ownsRow_nil _ _ _ _) (fun x hx => (by cases hx)) H64.out.1 (by rw [HL.out.2]; rfl) ?_ HS.out (spec_one HS.out HTot.out (by decide) H1.out)
          show (if (0 : Int) = 0 ∧ (1 : Int) ≠ (l.length : Int) then (1 : Int) else 0) = 0
          rw [H1.out]
          rfl
        · have x1 : ((l.length : Int) == 1) = false := by simp; omega
          by_cases h4 : 4096 < l.length
          · have x4 : (4096 : Int) < l.length := by omega
            go_wp2_with (refine wp_store_arr _ w.heap.size _ (.tmp 2) (.tmp 51) rfl rfl hpW rfl rfl _ _ rfl rfl ?_)
            refine bodyPost_ret (results_arr rfl rfl (setRow_heap _ _ _ _ _ _ hpW)) rfl ?_
            exact read_err HBW.out _ 0 17 (by decide) (by decide) (Int.natCast_nonneg _) (spec_many HS.out HTot.out (by decide) h1 h4)
          · have x4 : ¬ (4096 : Int) < l.length := by omega
            have hl0 : l.length ≠ 0 := by simpa using HL.out.1
            have HLE : Hid (1 < l.length ∧ l.length ≤ 4096) := Lib.hid ⟨by omega, by omega⟩
            clear hl0
            have hpA : (W.alloc (.cells #[.int .i64 l.length] 3)).heap[w.heap.size]? = some (.cells #[.slice none 0 0, .slice none 0 0] 36 (0, 0)) := (Below.heap_alloc _ _ _ (Array.getElem?_eq_some_iff.1 hpW).1).trans hpW
            have hqlt : w2.heap.size < W.heap.size := (Array.getElem?_eq_some_iff.1 HR.out.q).1
            have kA := ((World.cell?_of_block (a := ⟨w2.heap.size, 1, none⟩) (Below.heap_alloc W (.cells #[.int .i64 l.length] 3) _ hqlt))).trans k1
            clear h1 h4
            go_wp2_with (refine wp_store_arr _ w.heap.size _ (.tmp 2) (.tmp 62) rfl rfl hpA rfl rfl _ _ rfl rfl ?_)
            refine bodyPost_ret (results_arr rfl rfl (setRow_heap _ _ _ _ _ _ hpA)) rfl ?_
            obtain ⟨f1, f2⟩ := flat_list HLE.out.1 HLE.out.2
            refine read_ok (HR.out.grown (World.grownBy_alloc W _ none) (fun k hk => by cases hk)) _ [(l.length : Int)] (owns_one W _ HBW.out.size _) (fun x hx => ?_) H64.out.1 (by rw [HL.out.2]; exact f1) f2 HS.out (spec_list HS.out HTot.out (by decide) (by have := HLE.out.1; omega) (by have := HLE.out.2; omega))
            simp only [List.mem_cons, List.not_mem_nil, or_false] at hx
            subst hx
            have := HLE.out.2
            constructor <;> omega
      | true =>
        have hm : ¬ mark' < 0 := by rcases hdol with ⟨h, _⟩ | ⟨_, h, _⟩; cases h; exact Int.not_lt.2 h
        have HMK : Hid (0 ≤ mark' ∧ mark' ≤ s.size) := Lib.hid (by rcases hdol with ⟨h, _⟩ | ⟨_, h⟩; cases h; exact h)
        have HL := Lib.hid (HPre.out.2 rfl)
        clear hdol
        by_cases ha : ahead.length = 0
        · have xa : ((ahead.length : Int) == 0) = true := by simp [ha]
          have HA0 := Lib.hid ha
          obtain ⟨p0, p1⟩ := heap2 hpW
          have pf : ∀ j, W.frozen? ⟨w.heap.size, j, none⟩ = false := fun j => by simp [World.frozen?, hpW]
          go_wp2_with fail
          go_region
          go_wp2_with fail
          refine bodyPost_ret (results_arr rfl rfl (arr_two hpW)) rfl ?_
          exact read_err2 HBW.out mark' 37 (by decide) HMK.out.1 HMK.out.2 (spec_bare HS.out HTot.out (Int.not_lt.2 HMK.out.1) HA0.out) _ _
        · have xa : ((ahead.length : Int) == 0) = false := beq_eq_false_iff_ne.2 (by omega)
          have HA : Hid (ahead ≠ []) := Lib.hid (fun e => ha (by rw [e]; rfl))
          have HA1 : Hid (ahead.length ≠ 0) := Lib.hid ha
          obtain ⟨m, hmm⟩ : ∃ m, m = ahead.length := ⟨_, rfl⟩
          have hml : m ≤ 1048576 := by
            have h1 := congrArg List.length HL.out
            have h2 := bl_len ahead
            have h3 := HS.out
            simp only [List.length_append, List.length_cons, List.length_nil, Array.length_toList] at h1
            have h4 : s.data.size = s.size := rfl
            omega
          have HM := Lib.hid hmm
          rw [← hmm] at xa k0 HR ⊢
          clear ha hmm
          go_wp2_with fail
          clear k0 k1 k2 k3
          go_loopw [8, 74] (fun v8 v74 wr => ∃ (i : Nat) (v : Value), i ≤ m ∧ v74 = .int .i64 i ∧ v8 = v ∧ Hid (OwnsI wr w.heap.size v (ahead.take i)) ∧ Hid (ReadW w wr w2.heap.size (.slice A2 m cp2) (.slice A l.length cp) ahead l mark')) (fun _ v74 _ => m - (intOf v74).toNat)
          case atStart => exact ⟨0, .slice none 0 0, Nat.zero_le _, rfl, rfl, Lib.hid (World.ownsRow_nil _ _ _ _), HR⟩
          case round =>
            obtain ⟨i, v, hi, rfl, rfl, HO, HRr⟩ := hrel
            obtain ⟨B8, c8, hv8⟩ := row_form HO.out
            subst hv8
            have htl : (ahead.take i).length = i := by rw [List.length_take, Nat.min_eq_left (by rw [← HM.out]; omega)]
            by_cases hlt : i < m
            · obtain ⟨x, hx⟩ : ∃ x, ahead[i]? = some x := ⟨_, List.getElem?_eq_getElem (by rw [← HM.out]; exact hlt)⟩
              obtain ⟨b, off, rfl, hbl, kc⟩ := row_ints HRr.out.oa i x hx
              have HTK := Lib.hid (take_snoc hx)
              have h0 : wr.ownsRow w.heap.size 3 1 (.slice B8 i c8) i ((ahead.take i).map fun y => .int .i64 y) := by
                have h := HO.out
                unfold OwnsI at h
                rw [htl] at h
                exact h
              have HOWN := Lib.hid (h0.alloc (.cells #[.int .i64 x] 3))
              rw [htl]
              clear h0 HO htl
              obtain ⟨j0, hj, hz0, hz1, hz2⟩ := info_parts info_int
              clear hx hbl
              go_wp2_with (at_builtin; refine wpList_append_own _ rfl (.tmp 78) (.tmp 80) 25 rfl w.heap.size 3 j0 (.int .i64 0) 1 8 Tryd.underlying25 hj hz0 hz1 hz2 rfl (by decide) (.slice B8 i c8) i ((ahead.take i).map fun y => .int .i64 y) rfl HOWN.out ⟨wr.heap.size, 0, none⟩ 1 1 [.int .i64 x] rfl rfl (cell_one_new _ _ _) (by simp [Value.oneCell']) ?_ ?_ ?_ ?_)
              · unfold maxLen; omega
              · omega
              · have := HRr.out.be.size; simp; omega
              intro lv' w4 hown2 hgr2 _
              have HO2 : Hid (OwnsI w4 w.heap.size lv' (ahead.take (i + 1))) := Lib.hid (by
                rw [HTK.out]
                unfold OwnsI
                rw [List.length_append, List.map_append, List.length_take, Nat.min_eq_left (by rw [← HM.out]; omega), List.map_take]
                exact hown2)
              have HR2 : Hid (ReadW w w4 w2.heap.size (.slice (some ⟨b, off, none⟩) m cp2) (.slice A l.length cp) ahead l mark') := Lib.hid
                ((HRr.out.grown (World.grownBy_alloc wr _ none) (fun k hk => by cases hk)).grown hgr2 (fun k hk => ⟨(HOWN.out.lt k hk).1, row_type HOWN.out k hk⟩))
              clear hown2 hgr2
              go_wp2_with fail
              exact ⟨⟨i + 1, lv', by omega, by go_num, rfl, HO2, HR2⟩, by simp [intOf]; omega⟩
            · obtain rfl : i = m := by omega
              have hge : ¬ (i : Int) < i := by omega
              have hta : ahead.take i = ahead := by rw [HM.out, List.take_length]
              have h0 : OwnsI wr w.heap.size (.slice B8 i c8) ahead := by
                have h := HO.out
                rw [hta, ← HM.out] at h
                exact h
              have HO' := Lib.hid h0
              rw [hta, ← HM.out]
              clear hta htl HO h0
              go_wp2_with fail
              have hcall := size_any B8 c8 ahead wr (row_ints HO'.out) H64.out.2 (by rw [← HM.out]; omega)
              rw [← HM.out] at hcall
              refine hcall.mono ?_
              clear hcall
              rintro e w5 ⟨rfl, rfl⟩
              have hR := HRr.out
              obtain ⟨k0, k1, k2, k3⟩ := heap3 hR.q
              have hp5 := hR.p
              have HB5 := Lib.hid hR.be
              clear hR
              by_cases h0 : shMay ahead = 0
              · have hsz : shSize ahead = places ahead := by unfold shSize; rw [if_pos h0]
                have H0 := Lib.hid h0
                rw [h0, hsz]
                clear h0 hsz
                by_cases hpl : places ahead = l.length
                · have xpl : (places ahead != (l.length : Int)) = false := by simp [hpl]
                  by_cases hone : i = 1 ∧ 1 < l.length
                  · obtain ⟨h1, h2⟩ := hone
                    have x1 : ((i : Int) == 1) = true := by simp [h1]
                    have x2 : (1 : Int) < places ahead := by omega
                    obtain ⟨p0, p1⟩ := heap2 hp5
                    have pf : ∀ j, w5.frozen? ⟨w.heap.size, j, none⟩ = false := fun j => by simp [World.frozen?, hp5]
                    have HPL1 := Lib.hid hpl
                    have HO1 : Hid (ahead.length = 1 ∧ 1 < l.length) := Lib.hid ⟨by rw [← HM.out]; exact h1, h2⟩
                    clear hpl h1
                    go_wp2_with fail
                    go_region
                    go_wp2_with fail
                    refine bodyPost_ret (results_arr rfl rfl (arr_two hp5)) rfl ?_
                    exact read_err2 HB5.out mark' 37 (by decide) HMK.out.1 HMK.out.2 (spec_mark HS.out HTot.out (Int.not_lt.2 HMK.out.1) HA1.out H0.out HPL1.out HO1.out) _ _
                  · have HONE : Hid (¬ (ahead.length = 1 ∧ 1 < l.length)) := Lib.hid (by rw [← HM.out]; exact hone)
                    have HPL := Lib.hid hpl
                    go_upto_region 25 with fail
                    go_cut [101] from 12 (fun v wx => v = .bool false ∧ wx = w5)
                    case first =>
                      by_cases h1 : i = 1
                      · have x1 : ((i : Int) == 1) = true := by simp [h1]
                        have x2 : ¬ (1 : Int) < places ahead := fun h => hone ⟨h1, by omega⟩
                        have X3 : Hid (¬ 1 < l.length) := Lib.hid (fun h => hone ⟨h1, h⟩)
                        clear hpl h1 hone
                        go_wp2_with fail
                        go_meet
                        case rel => exact ⟨by have := X3.out; simp <;> omega, rfl⟩
                      · have x1 : ((i : Int) == 1) = false := by simp; omega
                        clear hpl
                        go_wp2_with fail
                        go_meet
                        case rel => exact ⟨rfl, rfl⟩
                    obtain ⟨rfl, hwc⟩ := hcut
                    subst hwc
                    clear hpl
                    go_wp2_with (refine wp_store_arr _ w.heap.size _ (.tmp 2) (.tmp 115) rfl rfl hp5 rfl rfl _ _ rfl rfl ?_)
                    refine bodyPost_ret (results_arr rfl rfl (setRow_heap _ _ _ _ _ _ hp5)) rfl ?_
                    obtain ⟨f1, f2⟩ := flat_shape HA.out H0.out HPL.out HONE.out
                    exact read_ok HRr.out _ ahead HO'.out H64.out.2 H64.out.1 (by rw [f1, cut_mark HA.out HL.out]) f2 HS.out (spec_ok HS.out HTot.out (Int.not_lt.2 HMK.out.1) HA1.out H0.out HPL.out HONE.out)
                · have xpl : (places ahead != (l.length : Int)) = true := by simpa using hpl
                  have HPN := Lib.hid hpl
                  clear hpl
                  go_wp2_with (refine wp_store_arr _ w.heap.size _ (.tmp 2) (.tmp 98) rfl rfl hp5 rfl rfl _ _ rfl rfl ?_)
                  refine bodyPost_ret (results_arr rfl rfl (setRow_heap _ _ _ _ _ _ hp5)) rfl ?_
                  exact read_err HB5.out _ s.size 11 (by decide) (Int.natCast_nonneg _) (Int.le_refl _) (spec_len HS.out HTot.out (Int.not_lt.2 HMK.out.1) HA1.out H0.out HPN.out)
              · have xe : (shMay ahead != 0) = true := by simpa using h0
                have HN0 := Lib.hid h0
                clear h0
                go_wp2_with (refine wp_store_arr _ w.heap.size _ (.tmp 2) (.tmp 91) rfl rfl hp5 rfl rfl _ _ rfl rfl ?_)
                refine bodyPost_ret (results_arr rfl rfl (setRow_heap _ _ _ _ _ _ hp5)) rfl ?_
                exact read_err HB5.out _ 0 17 (by decide) (by decide) (Int.natCast_nonneg _) (spec_not HS.out HTot.out (Int.not_lt.2 HMK.out.1) HA1.out HN0.out)
    · have HTot := Lib.hid htot
      clear hW HC HB htot
      rcases herr with rfl | rfl
      · go_wp2_with (refine wp_store_arr _ w.heap.size _ (.tmp 2) (.tmp 25) rfl rfl hpW rfl rfl _ _ rfl rfl ?_)
        refine bodyPost_ret (results_arr rfl rfl (setRow_heap _ _ _ _ _ _ hpW)) rfl ?_
        exact read_err HBW.out _ place 37 (by decide) hpl0 hpl1 (spec_bad HS.out HTot.out)
      · go_wp2_with (refine wp_store_arr _ w.heap.size _ (.tmp 2) (.tmp 25) rfl rfl hpW rfl rfl _ _ rfl rfl ?_)
        refine bodyPost_ret (results_arr rfl rfl (setRow_heap _ _ _ _ _ _ hpW)) rfl ?_
        exact read_err HBW.out _ place 30 (by decide) hpl0 hpl1 (spec_bad HS.out HTot.out)
end Go.Proofs.YtpipcpjkfgdpcaaDoor
