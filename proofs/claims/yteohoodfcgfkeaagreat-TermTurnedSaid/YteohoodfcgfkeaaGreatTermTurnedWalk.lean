/- The walk of TermTurned: it returns true. Condition: sizes within reach. -/
import Derived.Test.YteohoodfcgfkeaaGreatTeLe
import Derived.Deep.CutBlock
namespace Go.Proofs.YteohoodfcgfkeaaGreat
open Go.RowKit

theorem may_cases (t : Tm) : (cls t.kind = 0) ∨ (cls t.kind ≠ 0 ∧ mayT t (cls t.kind) ≠ 0) ∨ (cls t.kind ≠ 0 ∧ mayT t (cls t.kind) = 0 ∧ greatT t = false ∧ goodT false t = true) := by
  by_cases h0 : cls t.kind = 0
  · exact .inl h0
  · rw [may_self t h0]
    cases hg : greatT t with
    | true => exact .inr (.inl ⟨h0, by simp⟩)
    | false =>
      cases hd : goodT false t with
      | false => exact .inr (.inl ⟨h0, by simp⟩)
      | true => exact .inr (.inr ⟨h0, rfl, rfl, rfl⟩)
set_option maxRecDepth 100000 in
set_option maxHeartbeats 16000000 in
theorem termTurned_any (t : Tm) (A : Option Addr) (ca : Nat) (B : Option Addr) (cb : Nat) (K : Option Addr) (ck : Nat) (how : Int) (n : Int) (w : World) (hat : TmAt w t A B K) (hwf : WfT t) (hh : 0 ≤ how) (h64 : In64 n) :
    Calls Tryz.prog 4 #[tmVal t A ca B cb K ck, .int .u8 how, .int .i64 n] w fun e w' => e = .returned (.bool true) ∧ Below w.heap.size w w' := by
  obtain ⟨W1, hW1⟩ : ∃ W1, W1 = w.alloc (.cells (tmCells t A ca B cb K ck) TTm) := ⟨_, rfl⟩
  have hb1 : Below w.heap.size w W1 := by rw [hW1]; exact (Below.refl _ _).alloc (Nat.le_refl _) _
  have hc1 : W1.heap[w.heap.size]? = some (.cells (tmCells t A ca B cb K ck) TTm (0, 0)) := by rw [hW1]; exact heap_alloc_new w _
  have HX := Lib.hid (And.intro hb1 (And.intro hc1 (hat.on hb1)))
  have HWF := Lib.hid hwf
  have HW1 := Lib.hid hW1
  have H64 := Lib.hid h64
  have HH := Lib.hid hh
  have HK : Hid (∀ W, Below W1.heap.size W1 W → W.cell? ⟨w.heap.size, 0, none⟩ = some (.int .i64 t.kind) ∧ W.cell? ⟨w.heap.size, 1, none⟩ = some (.string t.text) ∧ W.cell? ⟨w.heap.size, 2, none⟩ = some (.int .i64 t.n) ∧ W.cell? ⟨w.heap.size, 3, none⟩ = some (.slice A t.sh.length ca) ∧ W.cell? ⟨w.heap.size, 4, none⟩ = some (.slice B t.at_.length cb) ∧ W.cell? ⟨w.heap.size, 5, none⟩ = some (.slice K t.kids.length ck)) := Lib.hid fun W h => by
    have hh := (h.block _ (heap_lt HX.out.2.1)).trans HX.out.2.1
    exact ⟨cell_at hh rfl, cell_at hh rfl, cell_at hh rfl, cell_at hh rfl, cell_at hh rfl, cell_at hh rfl⟩
  clear hat hwf hb1 hc1 hW1 h64 hh
  rcases may_cases t with h0 | ⟨h0, hm⟩ | ⟨h0, hm, hg, hd⟩
  · have d0 : (cls t.kind == 0) = true := beq_yes h0
    clear h0
    go_enter Tryz.func4, Tryz.ntmps4
    go_wp2_with fail
    rw [← HW1.out]
    refine (begun_any W1).mono ?_
    rintro e w2 ⟨rfl, hb2⟩
    have HB2 := Lib.hid hb2
    obtain ⟨q0, q1, q2, q3, q4, q5⟩ := HK.out w2 hb2
    clear hb2
    go_wp2_with fail
    refine (class_k t.kind _ _ _ _ _ w2).mono ?_
    rintro e w3 ⟨rfl, hb3⟩
    have HB3 := Lib.hid (HB2.out.then_ hb3)
    clear hb3 q0 q1 q2 q3 q4 q5
    go_wp2_with fail
    go_ret
    exact ⟨rfl, HX.out.1.then_ HB3.out⟩
  · have d0 : (cls t.kind == 0) = false := beq_no h0
    have d1 : (mayT t (cls t.kind) != 0) = true := by simp [hm]
    clear h0 hm
    go_enter Tryz.func4, Tryz.ntmps4
    go_wp2_with fail
    rw [← HW1.out]
    refine (begun_any W1).mono ?_
    rintro e w2 ⟨rfl, hb2⟩
    have HB2 := Lib.hid hb2
    obtain ⟨q0, q1, q2, q3, q4, q5⟩ := HK.out w2 hb2
    clear hb2
    go_wp2_with fail
    refine (class_k t.kind _ _ _ _ _ w2).mono ?_
    rintro e w3 ⟨rfl, hb3⟩
    have HB3 := Lib.hid (HB2.out.then_ hb3)
    clear hb3 q0 q1 q2 q3 q4 q5
    obtain ⟨q0, q1, q2, q3, q4, q5⟩ := HK.out w3 HB3.out
    go_wp2_with fail
    refine (may_any t A ca B cb K ck (cls t.kind) w3 (HX.out.2.2.on HB3.out) HWF.out).mono ?_
    rintro e w4 ⟨rfl, hb4⟩
    have HB4 := Lib.hid (HB3.out.then_ hb4)
    clear hb4 q0 q1 q2 q3 q4 q5
    go_wp2_with fail
    go_ret
    exact ⟨rfl, HX.out.1.then_ HB4.out⟩
  · have d0 : (cls t.kind == 0) = false := beq_no h0
    have d1 : (mayT t (cls t.kind) != 0) = false := by simp [hm]
    have HG := Lib.hid (And.intro hg hd)
    have HS : Hid (sameT t t = true) := Lib.hid (by unfold sameT; rw [hg, (eqT_iff t t).2 rfl]; rfl)
    clear h0 hm hg hd
    go_enter Tryz.func4, Tryz.ntmps4
    go_wp2_with fail
    rw [← HW1.out]
    refine (begun_any W1).mono ?_
    rintro e w2 ⟨rfl, hb2⟩
    have HB2 := Lib.hid hb2
    obtain ⟨q0, q1, q2, q3, q4, q5⟩ := HK.out w2 hb2
    clear hb2
    go_wp2_with fail
    refine (class_k t.kind _ _ _ _ _ w2).mono ?_
    rintro e w3 ⟨rfl, hb3⟩
    have HB3 := Lib.hid (HB2.out.then_ hb3)
    clear hb3 q0 q1 q2 q3 q4 q5
    obtain ⟨q0, q1, q2, q3, q4, q5⟩ := HK.out w3 HB3.out
    go_wp2_with fail
    refine (may_any t A ca B cb K ck (cls t.kind) w3 (HX.out.2.2.on HB3.out) HWF.out).mono ?_
    rintro e w4 ⟨rfl, hb4⟩
    have HB4 := Lib.hid (HB3.out.then_ hb4)
    clear hb4 q0 q1 q2 q3 q4 q5
    obtain ⟨q0, q1, q2, q3, q4, q5⟩ := HK.out w4 HB4.out
    go_wp2_with fail
    refine (copy_ok t A ca B cb K ck w4 (HX.out.2.2.on HB4.out) HWF.out HG.out.1).mono ?_
    rintro e w5 ⟨A', ca', B', cb', K', ck', rfl, hat5, hb5⟩
    obtain ⟨W5, hW5⟩ : ∃ W5, W5 = w5.alloc (.cells (tmCells t A' ca' B' cb' K' ck') TTm) := ⟨_, rfl⟩
    have hb5' : Below w5.heap.size w5 W5 := by rw [hW5]; exact (Below.refl _ _).alloc (Nat.le_refl _) _
    have hx5 : W5.heap[w5.heap.size]? = some (.cells (tmCells t A' ca' B' cb' K' ck') TTm (0, 0)) := by rw [hW5]; exact heap_alloc_new w5 _
    have HB5 := Lib.hid ((HB4.out.then_ hb5).then_ hb5')
    have HD5 : Hid (W1.heap.size ≤ w5.heap.size) := Lib.hid (HB4.out.then_ hb5).size
    have HA5 := Lib.hid (And.intro hx5 (hat5.on hb5'))
    have HW5 := Lib.hid hW5
    have HC : Hid (∀ w' : World, Below W5.heap.size W5 w' → w'.cell? ⟨w5.heap.size, 0, none⟩ = some (.int .i64 t.kind) ∧ w'.cell? ⟨w5.heap.size, 1, none⟩ = some (.string t.text) ∧ w'.cell? ⟨w5.heap.size, 2, none⟩ = some (.int .i64 t.n) ∧ w'.cell? ⟨w5.heap.size, 3, none⟩ = some (.slice A' t.sh.length ca') ∧ w'.cell? ⟨w5.heap.size, 4, none⟩ = some (.slice B' t.at_.length cb') ∧ w'.cell? ⟨w5.heap.size, 5, none⟩ = some (.slice K' t.kids.length ck')) := Lib.hid fun W h => by
      have hh := (h.block _ (heap_lt HA5.out.1)).trans HA5.out.1
      exact ⟨cell_at hh rfl, cell_at hh rfl, cell_at hh rfl, cell_at hh rfl, cell_at hh rfl, cell_at hh rfl⟩
    clear hb5 hb5' hx5 hat5 hW5 q0 q1 q2 q3 q4 q5
    obtain ⟨q0, q1, q2, q3, q4, q5⟩ := HK.out W5 HB5.out
    obtain ⟨r0, r1, r2, r3, r4, r5⟩ := HC.out W5 (Below.refl _ _)
    rw [HW5.out] at q0 q1 q2 q3 q4 q5 r0 r1 r2 r3 r4 r5
    go_wp2_with fail
    rw [← HW5.out]
    refine (sameV_any t t A ca B cb K ck A' ca' B' cb' K' ck' W5 (HX.out.2.2.on HB5.out) HA5.out.2 HWF.out HWF.out).mono ?_
    rintro e w6 ⟨rfl, hb6⟩
    rw [HS.out]
    have HB6 := Lib.hid hb6
    clear hb6 q0 q1 q2 q3 q4 q5 r0 r1 r2 r3 r4 r5
    obtain ⟨q0, q1, q2, q3, q4, q5⟩ := HK.out w6 (HB5.out.then_ HB6.out)
    obtain ⟨r0, r1, r2, r3, r4, r5⟩ := HC.out w6 HB6.out
    go_wp2_with fail
    refine (sameV_any t t A' ca' B' cb' K' ck' A ca B cb K ck w6 (HA5.out.2.on HB6.out) (HX.out.2.2.on (HB5.out.then_ HB6.out)) HWF.out HWF.out).mono ?_
    rintro e w7 ⟨rfl, hb7⟩
    rw [HS.out]
    have HB7 := Lib.hid (HB6.out.then_ hb7)
    clear hb7 q0 q1 q2 q3 q4 q5 r0 r1 r2 r3 r4 r5
    obtain ⟨q0, q1, q2, q3, q4, q5⟩ := HK.out w7 (HB5.out.then_ HB7.out)
    go_wp2_with fail
    refine (own_any (cnt t) t A ca B cb K ck w7 (Nat.le_refl _) (HX.out.2.2.on (HB5.out.then_ HB7.out)) HWF.out).mono ?_
    rintro e w8 ⟨r, rfl, ho, _, hb8, s1, s2, s3, hn⟩
    have hz := ((HB7.out.then_ hb8).block _ (heap_lt HA5.out.1)).trans HA5.out.1
    obtain ⟨r0, r1, r2, r3, r4, r5⟩ := HC.out w8 (HB7.out.then_ hb8)
    have fz := unfrozen hz
    have HO := Lib.hid (And.intro ho (And.intro hn (And.intro hb8 (And.intro s1 (And.intro s2 s3)))))
    have HZ := Lib.hid hz
    clear ho hn hb8 s1 s2 s3 hz q0 q1 q2 q3 q4 q5
    go_upto_block 0 with fail
    obtain ⟨e1, e2, e3⟩ := six (.int .i64 t.kind) (.string t.text) (.int .i64 t.n) (.slice r.s.p r.s.n r.s.c) (.slice r.a.p r.a.n r.a.c) (.slice r.k.p r.k.n r.k.c) HZ.out (HB5.out.then_ (HB7.out.then_ HO.out.2.2.1)) HD5.out
    generalize hW9 : World.setCell _ _ _ = W9 at e1 e2 e3 ⊢
    clear hW9
    have hDB : w5.heap.size < w7.heap.size := Nat.lt_of_lt_of_le (heap_lt HA5.out.1) HB7.out.size
    have hk9 : ∀ g, w7.heap.size ≤ g → W9.heap[g]? = w8.heap[g]? := fun g hg => e2 g (by omega)
    have H9 := Lib.hid (And.intro e1 (And.intro ((HO.out.1.kept fun g hg => hk9 g (HO.out.1.blk g hg).1).mono (B' := w5.heap.size + 1) hDB) (And.intro HO.out.2.1 (And.intro e3 (And.intro (row_low (row_keep HO.out.2.2.2.1 fun g hg => hk9 g (HO.out.2.2.2.1.lt g hg).1) (B' := w5.heap.size + 1) hDB) (And.intro (row_low (row_keep HO.out.2.2.2.2.1 fun g hg => hk9 g (HO.out.2.2.2.2.1.lt g hg).1) (B' := w5.heap.size + 1) hDB) (row_low (row_keep HO.out.2.2.2.2.2 fun g hg => hk9 g (HO.out.2.2.2.2.2.lt g hg).1) (B' := w5.heap.size + 1) hDB)))))))
    have HS4 := Lib.hid (good_small HG.out.2 HG.out.1)
    obtain ⟨m, hm, hm6⟩ : ∃ m : Nat, how.tmod 6 = m ∧ m < 6 := ⟨(how.tmod 6).toNat, by have h1 := HH.out; have h2 := Int.tmod_eq_emod_of_nonneg (b := 6) h1; omega, by have h1 := HH.out; have h2 := Int.tmod_eq_emod_of_nonneg (b := 6) h1; omega⟩
    have hms : (m = 0 ∧ how.tmod 6 = 0) ∨ (m = 1 ∧ how.tmod 6 = 1) ∨ (m = 2 ∧ how.tmod 6 = 2) ∨ (m = 3 ∧ how.tmod 6 = 3) ∨ (m = 4 ∧ how.tmod 6 = 4) ∨ (m = 5 ∧ how.tmod 6 = 5) := by omega
    have HM6 := Lib.hid hm6
    have HMS := Lib.hid hms
    have fz9 := unfrozen e1
    clear hm hm6 hms e1 e2 e3 hk9 r0 r1 r2 r3 r4 r5 fz
    go_cut [10] from 128 (fun v10 wx => v10 = .bool (badB m n t) ∧ Hid (TurnAt W1 wx w5.heap.size (w5.heap.size + 1) (chgT m n t)) ∧ Hid (m = 1 → n ≠ t.n))
    case first =>
      rcases HMS.out with ⟨rfl, hm⟩ | ⟨rfl, hm⟩ | ⟨rfl, hm⟩ | ⟨rfl, hm⟩ | ⟨rfl, hm⟩ | ⟨rfl, hm⟩
      · have g0 : (how.tmod 6 == 0) = true := beq_yes (by omega)
        clear hm
        have r0 := cell_at H9.out.1 (j := 0) rfl
        go_wp2_with fail
        go_meet
        case rel => exact ⟨rfl, Lib.hid (TurnAt.put (u := chgT 0 n t) (r := r) H9.out.1 (chg_own (by decide) H9.out.2.1) H9.out.2.2.2.1 HD5.out (Nat.lt_succ_self _) (by cases t; rfl)), Lib.hid (fun h => by cases h)⟩
      · have g0 : (how.tmod 6 == 0) = false := beq_no (by omega)
        have g1 : (how.tmod 6 == 1) = true := beq_yes (by omega)
        clear hm
        have r2 := cell_at H9.out.1 (j := 2) rfl
        have hp := TurnAt.put (u := chgT 1 n t) (r := r) (j := 2) (v := .int .i64 n) H9.out.1 (chg_own (by decide) H9.out.2.1) H9.out.2.2.2.1 HD5.out (Nat.lt_succ_self _) (by cases t; rfl)
        have HP := Lib.hid hp
        obtain ⟨_, _, _, hbp⟩ := hp
        obtain ⟨q0, q1, q2, q3, q4, q5⟩ := HK.out _ hbp
        have HBP := Lib.hid hbp
        clear hbp q1 q3 q4 q5
        by_cases hn : n = t.n
        · have y0 : (n == t.n) = true := beq_yes hn
          clear hn
          go_wp2_with fail
          go_ret
          exact ⟨rfl, HX.out.1.then_ HBP.out⟩
        · have y0 : (n == t.n) = false := beq_no hn
          have HNE := Lib.hid hn
          clear hn
          have ks : (¬ t.kind = 23) ∨ (t.kind = 23 ∧ n = 1) ∨ (t.kind = 23 ∧ n = 2) ∨ (t.kind = 23 ∧ ¬ n = 1 ∧ ¬ n = 2) := by omega
          rcases ks with h | ⟨h, h1⟩ | ⟨h, h1⟩ | ⟨h, h1, h2⟩
          · have hb : badB 1 n t = true := by simp [badB, h]
            have y1 : (t.kind != 23) = true := by simp [h]
            clear h
            go_wp2_with fail
            go_meet
            case rel => exact ⟨by rw [hb], HP, Lib.hid (fun _ => HNE.out)⟩
          · have hb : badB 1 n t = false := by simp [badB, h, h1]
            have y1 : (t.kind != 23) = false := by simp [h]
            have y2 : (n != 1) = false := by simp [h1]
            clear h h1
            go_wp2_with fail
            go_meet
            case rel => exact ⟨by rw [hb], HP, Lib.hid (fun _ => HNE.out)⟩
          · have hb : badB 1 n t = false := by simp [badB, h, h1]
            have y1 : (t.kind != 23) = false := by simp [h]
            have y2 : (n != 1) = true := by simp [h1]
            have y3 : (n != 2) = false := by simp [h1]
            clear h h1
            go_wp2_with fail
            go_meet
            case rel => exact ⟨by rw [hb], HP, Lib.hid (fun _ => HNE.out)⟩
          · have hb : badB 1 n t = true := by simp [badB, h, h1, h2]
            have y1 : (t.kind != 23) = false := by simp [h]
            have y2 : (n != 1) = true := by simp [h1]
            have y3 : (n != 2) = true := by simp [h2]
            clear h h1 h2
            go_wp2_with fail
            go_meet
            case rel => exact ⟨by rw [hb], HP, Lib.hid (fun _ => HNE.out)⟩
      · have g0 : (how.tmod 6 == 0) = false := beq_no (by omega)
        have g1 : (how.tmod 6 == 1) = false := beq_no (by omega)
        have g2 : (how.tmod 6 == 2) = true := beq_yes (by omega)
        clear hm
        have r1 := cell_at H9.out.1 (j := 1) rfl
        have hadd := run_string_add_sum (P := Tryz.prog) W9 t.text ⟨#[63]⟩ (by have h1 := HS4.out.1; show t.text.size + 1 ≤ _; omega)
        go_wp2_with fail
        go_meet
        case rel => exact ⟨rfl, Lib.hid (TurnAt.put (u := chgT 2 n t) (r := r) H9.out.1 (chg_own (by decide) H9.out.2.1) H9.out.2.2.2.1 HD5.out (Nat.lt_succ_self _) (by cases t; rfl)), Lib.hid (fun h => by cases h)⟩
      · have g0 : (how.tmod 6 == 0) = false := beq_no (by omega)
        have g1 : (how.tmod 6 == 1) = false := beq_no (by omega)
        have g2 : (how.tmod 6 == 2) = false := beq_no (by omega)
        have g3 : (how.tmod 6 == 3) = true := beq_yes (by omega)
        clear hm
        have hz9 := H9.out.1
        have hb9 : Below W9.heap.size W9 (W9.alloc (.cells #[.int .i64 n] TI6)) := (Below.refl _ _).alloc (Nat.le_refl _) _
        obtain ⟨W10, hW10⟩ : ∃ W10, W10 = W9.alloc (.cells #[.int .i64 n] TI6) := ⟨_, rfl⟩
        have hnews : ∀ j u, [(Value.int .i64 n)][j]? = some u → W10.cell? ((⟨W9.heap.size, 0, none⟩ : Addr).add j) = some u := by rw [hW10]; exact World.news_of_block (heap_alloc_new W9 _)
        rw [← hW10] at hb9
        have hrow : W10.ownsRow (w5.heap.size + 1) TI6 1 r.a.val (t.at_.length) (intVals t.at_) := row_on H9.out.2.2.2.2.2.1 hb9
        have HROW := Lib.hid hrow
        have HNEWS := Lib.hid hnews
        have HB10 := Lib.hid (And.intro hb9 ((hb9.block _ (heap_lt hz9)).trans hz9))
        have HBASE : Hid (w5.heap.size + 1 ≤ W10.heap.size) := Lib.hid (by have h1 := heap_lt HB10.out.2; omega)
        have HW10 := Lib.hid hW10
        obtain ⟨N, hN⟩ : ∃ N, N = t.at_.length := ⟨_, rfl⟩
        have hN64 : N ≤ 64 := by rw [hN]; have h1 := HS4.out; omega
        have HNN := Lib.hid hN
        have rn : r.a.n = N := by rw [hN]; exact (row_ours hrow).1
        have rx := cell_at hz9 (j := 4) rfl
        rw [show Value.slice r.a.p r.a.n r.a.c = r.a.val from rfl] at rx
        rw [← hN] at HROW
        obtain ⟨ji, hji, hi0, hi1, hi2⟩ := info_parts info_i6
        clear hz9 hb9 hnews hrow hW10 hN
        go_wp2_with (at_builtin; rw [← HW10.out]; refine wpList_append_own_at _ rfl (.tmp 79) (.tmp 81) 23 rfl (w5.heap.size + 1) TI6 ji (.int .i64 0) 1 8 Tryz.underlying23 hji hi0 hi1 hi2 rfl (by decide) r.a.val N (intVals t.at_) rfl HROW.out ⟨W9.heap.size, 0, none⟩ 1 1 [.int .i64 n] rfl rfl HNEWS.out (by simp [Value.oneCell']) (by unfold maxLen; omega) (by omega) HBASE.out ?_)
        intro v' w11 hown hgr _ _
        obtain ⟨⟨qp, qn, qc⟩, rfl, hqn, _⟩ := own_of_row hown
        obtain rfl : qn = N + 1 := hqn
        have hd11 := (hgr.block _ (heap_lt HB10.out.2) (fun e => by have h1 := (HROW.out.lt _ e.symm).1; omega)).trans HB10.out.2
        have fz11 := unfrozen hd11
        have rz := cell_at hd11 (j := 4) rfl
        have HP := Lib.hid (TurnAt.put (u := chgT 3 n t) (r := .mk r.s ⟨qp, N + 1, qc⟩ r.k r.kids) (j := 4) (v := .slice qp (N + 1) qc) hd11 (by rw [chg3]; exact own_more_at (x := n) (H9.out.2.1.on HB10.out.1) H9.out.2.2.1 hgr (by rw [show intVals (t.at_ ++ [n]) = intVals t.at_ ++ [.int .i64 n] by simp [intVals]]; exact hown)) ((H9.out.2.2.2.1.then_ HB10.out.1).grown hgr (Nat.le_trans HD5.out (by have h1 := heap_lt HB10.out.2; omega)) (fun k hk => by have h1 := (HROW.out.lt _ hk).1; have h2 := HD5.out; omega)) HD5.out (Nat.lt_succ_self _) (by rw [chg3]; rfl))
        clear hown hgr hd11
        go_wp2_with fail
        go_meet
        case rel => exact ⟨rfl, HP, Lib.hid (fun h => by cases h)⟩
      · have g0 : (how.tmod 6 == 0) = false := beq_no (by omega)
        have g1 : (how.tmod 6 == 1) = false := beq_no (by omega)
        have g2 : (how.tmod 6 == 2) = false := beq_no (by omega)
        have g3 : (how.tmod 6 == 3) = false := beq_no (by omega)
        have g4 : (how.tmod 6 == 4) = true := beq_yes (by omega)
        clear hm
        have hz9 := H9.out.1
        have hb9 : Below W9.heap.size W9 (W9.alloc (.cells #[.int .i64 n, .string ⟨#[]⟩, .int .i64 0, .slice none 0 0, .slice none 0 0, .slice none 0 0] TTm)) := (Below.refl _ _).alloc (Nat.le_refl _) _
        obtain ⟨W10, hW10⟩ : ∃ W10, W10 = W9.alloc (.cells #[.int .i64 n, .string ⟨#[]⟩, .int .i64 0, .slice none 0 0, .slice none 0 0, .slice none 0 0] TTm) := ⟨_, rfl⟩
        have hnews : ∀ j u, (rtCells (.mk n ⟨#[]⟩ 0 [] [] []) (.mk nil0 nil0 nil0 []))[j]? = some u → W10.cell? ((⟨W9.heap.size, 0, none⟩ : Addr).add j) = some u := by rw [hW10]; exact World.news_of_block (heap_alloc_new W9 _)
        rw [← hW10] at hb9
        have hrow : W10.ownsRow (w5.heap.size + 1) TTm 6 r.k.val t.kids.length (rtCellsL t.kids r.kids) := row_on H9.out.2.2.2.2.2.2 hb9
        have HROW := Lib.hid hrow
        have HNEWS := Lib.hid hnews
        have HB10 := Lib.hid (And.intro hb9 ((hb9.block _ (heap_lt hz9)).trans hz9))
        have HBASE : Hid (w5.heap.size + 1 ≤ W10.heap.size) := Lib.hid (by have h1 := heap_lt HB10.out.2; omega)
        have HW10 := Lib.hid hW10
        obtain ⟨N, hN⟩ : ∃ N, N = t.kids.length := ⟨_, rfl⟩
        have hN64 : N ≤ 4096 := by rw [hN]; have h1 := HS4.out; omega
        have HNN := Lib.hid hN
        have rx := cell_at hz9 (j := 5) rfl
        rw [show Value.slice r.k.p r.k.n r.k.c = r.k.val from rfl] at rx
        rw [← hN] at HROW
        obtain ⟨ji, hji, hi0, hi1, hi2⟩ := info_parts info_tm
        clear hz9 hb9 hnews hrow hW10 hN
        go_wp2_with (at_builtin; rw [← HW10.out]; refine wpList_append_own_at _ rfl (.tmp 88) (.tmp 91) 26 rfl (w5.heap.size + 1) TTm ji (.agg tm0) 6 104 Tryz.underlying26 hji hi0 hi1 hi2 rfl (by decide) r.k.val N (rtCellsL t.kids r.kids) rfl HROW.out ⟨W9.heap.size, 0, none⟩ 1 1 (rtCells (.mk n ⟨#[]⟩ 0 [] [] []) (.mk nil0 nil0 nil0 [])) rfl rfl HNEWS.out (by intro u hu; simp only [rtCells, List.mem_cons, List.not_mem_nil, or_false] at hu; rcases hu with rfl | rfl | rfl | rfl | rfl | rfl <;> rfl) (by unfold maxLen; omega) (by omega) HBASE.out ?_)
        intro v' w11 hown hgr _ _
        obtain ⟨⟨qp, qn, qc⟩, rfl, hqn, hqo⟩ := own_of_row hown
        obtain rfl : qn = N + 1 := hqn
        have hkl : (rtCellsL t.kids r.kids).length = N * 6 := by rw [rtCellsL_len H9.out.2.1.parts.2.2.2.1, HNN.out]
        obtain ⟨G, hG, hGl, hGc⟩ := hqo.cell (j := N * 6) (u := .int .i64 n) (by rw [List.getElem?_append_right (by omega), hkl, Nat.sub_self]; rfl)
        obtain rfl : qp = some ⟨G, 0, none⟩ := hG
        have hGD : G ≠ w5.heap.size := by
          intro e
          obtain ⟨_, ⟨h1, _⟩ | ⟨g', cur, e1, _, _, _, hge, _⟩⟩ := hqo
          · exact absurd h1 (Nat.succ_ne_zero N)
          · simp only [Option.some.injEq, Addr.mk.injEq, and_true] at e1
            omega
        have hd11 := (hgr.block _ (heap_lt HB10.out.2) (fun e => by have h1 := (HROW.out.lt _ e.symm).1; omega)).trans HB10.out.2
        have fz11 := unfrozen hd11
        have rz := cell_at hd11 (j := 5) rfl
        have hp := TurnAt.put (u := chgT 4 n t) (r := .mk r.s r.a ⟨some ⟨G, 0, none⟩, N + 1, qc⟩ (r.kids ++ [.mk nil0 nil0 nil0 []])) (j := 5) (v := .slice (some ⟨G, 0, none⟩) (N + 1) qc) hd11 (by rw [chg4]; exact own_more_kid (x := n) (H9.out.2.1.on HB10.out.1) H9.out.2.2.1 hgr hown) ((H9.out.2.2.2.1.then_ HB10.out.1).grown hgr (Nat.le_trans HD5.out (by have h1 := heap_lt HB10.out.2; omega)) (fun k hk => by have h1 := (HROW.out.lt _ hk).1; have h2 := HD5.out; omega)) HD5.out (Nat.lt_succ_self _) (by rw [chg4]; rfl)
        have HP := Lib.hid hp
        obtain ⟨_, _, _, hbp⟩ := hp
        have q0 := (HK.out _ hbp).1
        have rG : (w11.setCell ⟨w5.heap.size, 5, none⟩ (.slice (some ⟨G, 0, none⟩) (N + 1) qc)).cell? ⟨G, N * 6, none⟩ = some (.int .i64 n) := (World.cell?_of_block (Below.heap_setCell _ _ _ _ hGD)).trans hGc
        have r5 : (w11.setCell ⟨w5.heap.size, 5, none⟩ (.slice (some ⟨G, 0, none⟩) (N + 1) qc)).cell? ⟨w5.heap.size, 5, none⟩ = some (.slice (some ⟨G, 0, none⟩) (N + 1) qc) := by
          have h1 := Go.heap_setCell_same _ _ 5 _ TTm (.slice (some ⟨G, 0, none⟩) (N + 1) qc) hd11
          exact cell_at h1 rfl
        clear hown hgr hd11 hqo hbp hkl hGl hGc hGD
        have ks : (n < 1) ∨ (¬ n < 1 ∧ ¬ t.kind = 5 ∧ ¬ t.kind = 14 ∧ ¬ t.kind = 43) ∨ (¬ n < 1 ∧ t.kind = 5) ∨ (¬ n < 1 ∧ t.kind = 14) ∨ (¬ n < 1 ∧ t.kind = 43) := by omega
        rcases ks with h0 | ⟨h0, h1, h2, h3⟩ | ⟨h0, h1⟩ | ⟨h0, h1⟩ | ⟨h0, h1⟩
        · have hb : badB 4 n t = true := by simp [badB, h0]
          go_wp2_with fail
          go_meet
          case rel => exact ⟨by rw [hb], HP, Lib.hid (fun h => by cases h)⟩
        · have hb : badB 4 n t = true := by simp [badB, h0, h1, h2, h3]
          have y5 : (t.kind != 5) = true := by simp [h1]
          have y14 : (t.kind != 14) = true := by simp [h2]
          have y43 : (t.kind != 43) = true := by simp [h3]
          clear h1 h2 h3
          go_wp2_with fail
          go_meet
          case rel => exact ⟨by rw [hb], HP, Lib.hid (fun h => by cases h)⟩
        · have hb : badB 4 n t = false := by simp [badB, h0, h1]
          have y5 : (t.kind != 5) = false := by simp [h1]
          clear h1
          go_wp2_with fail
          go_meet
          case rel => exact ⟨by rw [hb], HP, Lib.hid (fun h => by cases h)⟩
        · have hb : badB 4 n t = false := by simp [badB, h0, h1]
          have y5 : (t.kind != 5) = true := by simp [h1]
          have y14 : (t.kind != 14) = false := by simp [h1]
          clear h1
          go_wp2_with fail
          go_meet
          case rel => exact ⟨by rw [hb], HP, Lib.hid (fun h => by cases h)⟩
        · have hb : badB 4 n t = false := by simp [badB, h0, h1]
          have y5 : (t.kind != 5) = true := by simp [h1]
          have y14 : (t.kind != 14) = true := by simp [h1]
          have y43 : (t.kind != 43) = false := by simp [h1]
          clear h1
          go_wp2_with fail
          go_meet
          case rel => exact ⟨by rw [hb], HP, Lib.hid (fun h => by cases h)⟩
      · have g0 : (how.tmod 6 == 0) = false := beq_no (by omega)
        have g1 : (how.tmod 6 == 1) = false := beq_no (by omega)
        have g2 : (how.tmod 6 == 2) = false := beq_no (by omega)
        have g3 : (how.tmod 6 == 3) = false := beq_no (by omega)
        have g4 : (how.tmod 6 == 4) = false := beq_no (by omega)
        have g5 : (how.tmod 6 == 5) = true := beq_yes (by omega)
        clear hm
        have hz9 := H9.out.1
        have hb9 : Below W9.heap.size W9 (W9.alloc (.cells #[.int .i64 1] TIn)) := (Below.refl _ _).alloc (Nat.le_refl _) _
        obtain ⟨W10, hW10⟩ : ∃ W10, W10 = W9.alloc (.cells #[.int .i64 1] TIn) := ⟨_, rfl⟩
        have hnews : ∀ j u, [(Value.int .i64 1)][j]? = some u → W10.cell? ((⟨W9.heap.size, 0, none⟩ : Addr).add j) = some u := by rw [hW10]; exact World.news_of_block (heap_alloc_new W9 _)
        rw [← hW10] at hb9
        have hrow : W10.ownsRow (w5.heap.size + 1) TIn 1 r.s.val (t.sh.length) (intVals t.sh) := row_on H9.out.2.2.2.2.1 hb9
        have HROW := Lib.hid hrow
        have HNEWS := Lib.hid hnews
        have HB10 := Lib.hid (And.intro hb9 ((hb9.block _ (heap_lt hz9)).trans hz9))
        have HBASE : Hid (w5.heap.size + 1 ≤ W10.heap.size) := Lib.hid (by have h1 := heap_lt HB10.out.2; omega)
        have HW10 := Lib.hid hW10
        obtain ⟨N, hN⟩ : ∃ N, N = t.sh.length := ⟨_, rfl⟩
        have hN64 : N ≤ 64 := by rw [hN]; have h1 := HS4.out; omega
        have HNN := Lib.hid hN
        have rn : r.s.n = N := by rw [hN]; exact (row_ours hrow).1
        have rx := cell_at hz9 (j := 3) rfl
        rw [show Value.slice r.s.p r.s.n r.s.c = r.s.val from rfl] at rx
        rw [← hN] at HROW
        obtain ⟨ji, hji, hi0, hi1, hi2⟩ := info_parts info_in
        clear hz9 hb9 hnews hrow hW10 hN
        go_wp2_with (at_builtin; rw [← HW10.out]; refine wpList_append_own_at _ rfl (.tmp 123) (.tmp 124) 22 rfl (w5.heap.size + 1) TIn ji (.int .i64 0) 1 8 Tryz.underlying22 hji hi0 hi1 hi2 rfl (by decide) r.s.val N (intVals t.sh) rfl HROW.out ⟨W9.heap.size, 0, none⟩ 1 1 [.int .i64 1] rfl rfl HNEWS.out (by simp [Value.oneCell']) (by unfold maxLen; omega) (by omega) HBASE.out ?_)
        intro v' w11 hown hgr _ _
        obtain ⟨⟨qp, qn, qc⟩, rfl, hqn, _⟩ := own_of_row hown
        obtain rfl : qn = N + 1 := hqn
        have hd11 := (hgr.block _ (heap_lt HB10.out.2) (fun e => by have h1 := (HROW.out.lt _ e.symm).1; omega)).trans HB10.out.2
        have fz11 := unfrozen hd11
        have rz := cell_at hd11 (j := 3) rfl
        have HP := Lib.hid (TurnAt.put (u := chgT 5 n t) (r := .mk ⟨qp, N + 1, qc⟩ r.a r.k r.kids) (j := 3) (v := .slice qp (N + 1) qc) hd11 (by rw [chg5]; exact own_more_sh (x := 1) (H9.out.2.1.on HB10.out.1) H9.out.2.2.1 hgr (by rw [show intVals (t.sh ++ [1]) = intVals t.sh ++ [.int .i64 1] by simp [intVals]]; exact hown)) ((H9.out.2.2.2.1.then_ HB10.out.1).grown hgr (Nat.le_trans HD5.out (by have h1 := heap_lt HB10.out.2; omega)) (fun k hk => by have h1 := (HROW.out.lt _ hk).1; have h2 := HD5.out; omega)) HD5.out (Nat.lt_succ_self _) (by rw [chg5]; rfl))
        clear hown hgr hd11
        go_wp2_with fail
        go_meet
        case rel => exact ⟨rfl, HP, Lib.hid (fun h => by cases h)⟩
    obtain ⟨hv, HT, HNE⟩ := hcut
    subst hv
    obtain ⟨A2, ca2, B2, cb2, K2, ck2, hd2, hat2, hb2⟩ := HT.out.cells
    obtain ⟨u, hu⟩ : ∃ u, u = chgT m n t := ⟨_, rfl⟩
    have HU := Lib.hid hu
    rw [← hu] at hd2 hat2
    have HWU : Hid (WfT u) := Lib.hid (by rw [hu]; exact chg_wf HWF.out HG.out.2 HG.out.1 m H64.out)
    have HSM := Lib.hid (chg_same HG.out.2 HM6.out HNE.out)
    rw [← hu] at HSM
    have HBC := Lib.hid hb2
    have HAU := Lib.hid hat2
    have HCU : Hid (∀ w' : World, Below wc.heap.size wc w' → w'.cell? ⟨w5.heap.size, 0, none⟩ = some (.int .i64 u.kind) ∧ w'.cell? ⟨w5.heap.size, 1, none⟩ = some (.string u.text) ∧ w'.cell? ⟨w5.heap.size, 2, none⟩ = some (.int .i64 u.n) ∧ w'.cell? ⟨w5.heap.size, 3, none⟩ = some (.slice A2 u.sh.length ca2) ∧ w'.cell? ⟨w5.heap.size, 4, none⟩ = some (.slice B2 u.at_.length cb2) ∧ w'.cell? ⟨w5.heap.size, 5, none⟩ = some (.slice K2 u.kids.length ck2)) := Lib.hid fun W h => by
      have hh := (h.block _ (heap_lt hd2)).trans hd2
      exact ⟨cell_at hh rfl, cell_at hh rfl, cell_at hh rfl, cell_at hh rfl, cell_at hh rfl, cell_at hh rfl⟩
    obtain ⟨q0, q1, q2, q3, q4, q5⟩ := HK.out wc HBC.out
    obtain ⟨r0, r1, r2, r3, r4, r5⟩ := HCU.out wc (Below.refl _ _)
    have bs : (badB m n t = false) ∨ (badB m n t = true ∧ (mayT u (cls t.kind) = 33 ∨ mayT u (cls t.kind) = 2)) := by
      cases hb : badB m n t with
      | false => exact .inl rfl
      | true => exact .inr ⟨rfl, by rw [hu]; exact chg_may HG.out.2 HM6.out HNE.out hb⟩
    clear hd2 hat2 hb2 hu
    go_wp2_with fail
    refine (sameV_any t u A ca B cb K ck A2 ca2 B2 cb2 K2 ck2 wc (HX.out.2.2.on HBC.out) HAU.out HWF.out HWU.out).mono ?_
    rintro e w12 ⟨rfl, hb12⟩
    rw [HSM.out.1]
    have HB12 := Lib.hid hb12
    clear hb12 q0 q1 q2 q3 q4 q5 r0 r1 r2 r3 r4 r5
    obtain ⟨q0, q1, q2, q3, q4, q5⟩ := HK.out w12 (HBC.out.then_ HB12.out)
    obtain ⟨r0, r1, r2, r3, r4, r5⟩ := HCU.out w12 HB12.out
    go_wp2_with fail
    refine (sameV_any u t A2 ca2 B2 cb2 K2 ck2 A ca B cb K ck w12 (HAU.out.on HB12.out) (HX.out.2.2.on (HBC.out.then_ HB12.out)) HWU.out HWF.out).mono ?_
    rintro e w13 ⟨rfl, hb13⟩
    rw [HSM.out.2]
    have HB13 := Lib.hid (HB12.out.then_ hb13)
    clear hb13 q0 q1 q2 q3 q4 q5 r0 r1 r2 r3 r4 r5
    obtain ⟨r0, r1, r2, r3, r4, r5⟩ := HCU.out w13 HB13.out
    go_wp2_with fail
    refine (may_any u A2 ca2 B2 cb2 K2 ck2 (cls t.kind) w13 (HAU.out.on HB13.out) HWU.out).mono ?_
    rintro e w14 ⟨rfl, hb14⟩
    have HB14 := Lib.hid (HX.out.1.then_ (HBC.out.then_ (HB13.out.then_ hb14)))
    clear hb14 r0 r1 r2 r3 r4 r5
    rcases bs with hb | ⟨hb, hf | hf⟩
    · rw [hb]
      clear hb
      go_wp2_with fail
      go_ret
      exact ⟨rfl, HB14.out⟩
    · rw [hb, hf]
      clear hb hf
      go_wp2_with fail
      go_ret
      exact ⟨rfl, HB14.out⟩
    · rw [hb, hf]
      clear hb hf
      go_wp2_with fail
      go_ret
      exact ⟨rfl, HB14.out⟩
end Go.Proofs.YteohoodfcgfkeaaGreat
