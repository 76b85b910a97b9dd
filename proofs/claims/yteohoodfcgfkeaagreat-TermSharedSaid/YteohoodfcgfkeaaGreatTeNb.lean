/- term.Names: the closure's walk. Condition: sizes within reach. -/
import Derived.Test.YteohoodfcgfkeaaGreatTeNa
import Derived.Test.YteohoodfcgfkeaaGreatTermPartsWalk
import Derived.Maps.Range
import Derived.Deep.Cut
import Derived.WalkSpells
namespace Go.Proofs.YteohoodfcgfkeaaGreat
open Go.RowKit Go.Maps Go.WideMaps

theorem has_put_iff {D : DataW Unit} (hD : IsMap D) {k : Lit} (hk : WideAt.IsKeyLit k) (d : DataW Unit) (k' : Lit) : has (D.put k d) k' = true ↔ has D k' = true ∨ k' = k := by
  by_cases e : k' = k
  · subst e
    simp [has_put_same hD hk]
  · rw [has_put_other e]
    simp [e]
theorem nmL_take {l : List Tm} {i : Nat} {k : Tm} (h : l[i]? = some k) : nmL (l.take (i + 1)) = nmL (l.take i) ++ nmT k := by
  rw [List.take_add_one, h]
  have app : ∀ (p : List Tm) (x : Tm), nmL (p ++ [x]) = nmL p ++ nmT x := fun p x => by
    induction p with
    | nil => simp [nmL]
    | cons y r ih => simp only [List.cons_append, nmL, ih, List.append_assoc]
  exact app _ _
theorem nmT_eq (t : Tm) : nmT t = (if isNm t.kind = true then [t.text] else []) ++ nmL t.kids := by cases t; simp only [nmT]; rfl
theorem grown_then {a b c : World} {g : Nat} (h : a.grownBy b (some g)) (k : b.grownBy c (some g)) : a.grownBy c (some g) :=
  ⟨k.os.trans h.os, k.tape.trans h.tape, k.output.trans h.output, Nat.le_trans h.size k.size, fun j hj hne => (k.block j (Nat.lt_of_lt_of_le hj h.size) hne).trans (h.block j hj hne)⟩
theorem isMap_of {w : World} {B n : Nat} {D : DataW Unit} (h : w.ownsMap Tryz.prog TSt (plainElem Tryz.prog TIt) B n D) : IsMap D := by
  obtain ⟨es, rfl, _⟩ := h.entries lawS
  exact ⟨_, rfl⟩
theorem key_lit (s : ByteArray) : WideAt.IsKeyLit (keyL s) := trivial
set_option maxRecDepth 100000 in
set_option maxHeartbeats 8000000 in
theorem look_any (w0 : World) (B Gm Gl : Nat) (N : Nat) : ∀ (t : Tm) (b off n : Nat) (D : DataW Unit) (w : World), cnt t ≤ N → PtrAt w0 b off t → WfT t → LookW w0 w B Gm Gl n D → n + cnt t ≤ 1000000 →
    Calls Tryz.prog 54 #[.pointer (some ⟨b, off, none⟩), .pointer (some ⟨Gm, 0, none⟩), .pointer (some ⟨Gl, 0, none⟩)] w fun e w' => e = .returned (.tuple #[]) ∧ ∃ D', LookW w0 w' B Gm Gl (n + cnt t) D' ∧ (∀ kl, has D' kl = true ↔ has D kl = true ∨ ∃ s ∈ nmT t, kl = keyL s) ∧ w.grownBy w' (some B) := by
  induction N with
  | zero => intro t b off n D w h; cases t; simp [cnt] at h
  | succ N ih =>
    intro t b off n D w hN hp hwf hL hn
    obtain ⟨A, ca, B', cb, K, ck, hlt, r0, r1, r2, r3, r4, r5, hat⟩ := hp.cells
    obtain ⟨nk, hnk⟩ : ∃ nk, nk = t.kids.length := ⟨_, rfl⟩
    have hnk2 : nk ≤ 140737488351232 := by rw [hnk]; exact hwf.node.kids
    have HNK := Lib.hid hnk
    have HK : Hid (∀ W, Below w0.heap.size w0 W → W.cell? ⟨b, off, none⟩ = some (.int .i64 t.kind) ∧ W.cell? ⟨b, off + 1, none⟩ = some (.string t.text) ∧ W.cell? ⟨b, off + 5, none⟩ = some (.slice K nk ck)) := Lib.hid fun W hb => by
      rw [hnk]
      exact ⟨(hb.cell (p := ⟨b, off, none⟩) hlt).trans r0, (hb.cell (p := ⟨b, off + 1, none⟩) hlt).trans r1, (hb.cell (p := ⟨b, off + 5, none⟩) hlt).trans r5⟩
    have HP := Lib.hid (And.intro hp (And.intro hwf (And.intro hL (And.intro hn (And.intro hN hat)))))
    have HCD : Hid (cnt t = cntL t.kids + 1) := Lib.hid (by cases t; simp only [cnt, Tm.kids])
    obtain ⟨k0, k1, k5⟩ := HK.out w hL.be
    have IH := Lib.hid ih
    have HT : Hid (t.text.size ≤ maxLen) := Lib.hid (by have := hwf.node.text; unfold maxLen; omega)
    have cG := cell_at hL.gm (j := 0) rfl
    clear hp hwf hL hn hN ih hat r0 r1 r2 r3 r4 r5 hlt hnk
    go_enter Tryz.func54, Tryz.ntmps54
    have ks : t.kind = 2 ∨ (¬ t.kind = 2 ∧ t.kind = 21) ∨ (¬ t.kind = 2 ∧ ¬ t.kind = 21 ∧ t.kind = 11) ∨ (¬ t.kind = 2 ∧ ¬ t.kind = 21 ∧ ¬ t.kind = 11) := by omega
    obtain ⟨c, hrun, _, hwc⟩ := HP.out.2.2.1.drew.map.lookup_int lawS Tryz.underlying79 Tryz.underlying3 (zeroI _) (key_of t.text HT.out)
    obtain ⟨w1, hupd, hm1, hg1⟩ := HP.out.2.2.1.drew.map.update lawS Tryz.underlying79 (by have := HP.out.2.2.2.1; unfold maxLen; omega) (key_of t.text HT.out) (plainElem_int Tryz.underlying3 (wrap64_wf (c + 1)))
    have H1 := Lib.hid (And.intro hm1 hg1)
    clear hm1 hg1
    rcases ks with h | ⟨h1, h⟩ | ⟨h1, h2, h⟩ | ⟨h1, h2, h3⟩
    · have d1 : (t.kind == 2) = true := beq_yes h
      have hnm : isNm t.kind = true := by simp [isNm, h]
      clear h
      go_upto_region 1 with fail
      go_region
      obtain ⟨D0, hD0⟩ : ∃ D0 : DataW Unit, D0 = D.put (keyL t.text) (.lit (.int .i64 (wrap64 (c + 1)))) := ⟨_, rfl⟩
      have HL0 : Hid (LookW w0 w1 B Gm Gl (n + 1) D0 ∧ (∀ kl, has D0 kl = true ↔ has D kl = true ∨ (isNm t.kind = true ∧ kl = keyL t.text)) ∧ w.grownBy w1 (some B)) := Lib.hid (by
        rw [hD0]
        exact ⟨HP.out.2.2.1.drew.grown H1.out.1 H1.out.2, fun kl => by rw [has_put_iff (isMap_of HP.out.2.2.1.map) (key_lit _)]; simp [hnm], ⟨H1.out.2.os, H1.out.2.tape, H1.out.2.output, H1.out.2.size, H1.out.2.block⟩⟩)
      obtain ⟨k0, k1, k5⟩ := HK.out _ HL0.out.1.be
      clear hD0
      go_wp2_with fail
      go_loopw [36] (fun v36 W => ∃ (i : Nat) (D1 : DataW Unit), i ≤ nk ∧ v36 = .int .i64 i ∧ Hid (LookW w0 W B Gm Gl (n + 1 + cntL (t.kids.take i)) D1 ∧ (∀ kl, has D1 kl = true ↔ has D0 kl = true ∨ ∃ s ∈ nmL (t.kids.take i), kl = keyL s) ∧ w.grownBy W (some B))) (fun v _ => nk - (intOf v).toNat)
      case atStart => exact ⟨0, D0, Nat.zero_le _, rfl, Lib.hid ⟨HL0.out.1, fun kl => by simp [nmL], HL0.out.2.2⟩⟩
      case round =>
        obtain ⟨i, D1, hi, rfl, HI⟩ := hrel
        by_cases hlt : i < nk
        · obtain ⟨k, hk2⟩ : ∃ k, t.kids[i]? = some k := ⟨_, List.getElem?_eq_getElem (by rw [← HNK.out]; exact hlt)⟩
          obtain ⟨b', off', hKe, hpk⟩ := HP.out.2.2.2.2.2.kids.get hk2
          subst hKe
          rw [Nat.zero_add] at hpk
          have HKK := Lib.hid (And.intro hk2 (And.intro hpk (HP.out.2.1.node.each k (List.mem_of_getElem? hk2))))
          obtain ⟨k0, k1, k5⟩ := HK.out _ HI.out.1.be
          have cl := cell_at HI.out.1.gl (j := 0) rfl
          have HCN : Hid (cnt k ≤ N ∧ n + 1 + cntL (t.kids.take i) + cnt k = n + 1 + cntL (t.kids.take (i + 1)) ∧ n + 1 + cntL (t.kids.take (i + 1)) ≤ 1000000) := Lib.hid (by
            have h1 := cnt_kid hk2; have h2 := cntL_take hk2; have h3 := cntL_le (l := t.kids) (i + 1); have h4 := HP.out.2.2.2.1; have h5 := HP.out.2.2.2.2.1; have h6 := HCD.out; omega)
          clear hk2 hpk
          go_upto_region 5 with fail
          go_region_law (go_simp; go_at_call 54; refine (IH.out k b' (off' + i * 6) (n + 1 + cntL (t.kids.take i)) D1 _ HCN.out.1 HKK.out.2.1 HKK.out.2.2 HI.out.1.drew (by have := HCN.out; omega)).mono ?_; rintro e w2 ⟨rfl, D2, hL2, hi2, hg2⟩)
          all_goals
            have HI2 : Hid (LookW w0 w2 B Gm Gl (n + 1 + cntL (t.kids.take (i + 1))) D2 ∧ (∀ kl, has D2 kl = true ↔ has D0 kl = true ∨ ∃ s ∈ nmL (t.kids.take (i + 1)), kl = keyL s) ∧ w.grownBy w2 (some B)) := Lib.hid ⟨by rw [← HCN.out.2.1]; exact hL2, fun kl => by
              rw [hi2 kl, HI.out.2.1 kl, nmL_take HKK.out.1]
              simp only [List.mem_append]
              constructor
              · rintro ((h | ⟨s, h, e⟩) | ⟨s, h, e⟩)
                · exact .inl h
                · exact .inr ⟨s, .inl h, e⟩
                · exact .inr ⟨s, .inr h, e⟩
              · rintro (h | ⟨s, h | h, e⟩)
                · exact .inl (.inl h)
                · exact .inl (.inr ⟨s, h, e⟩)
                · exact .inr ⟨s, h, e⟩, grown_then HI.out.2.2 ⟨hg2.os, hg2.tape, hg2.output, hg2.size, hg2.block⟩⟩
            clear hL2 hi2 hg2
            go_wp2_with fail
            exact ⟨⟨i + 1, D2, by omega, by go_num, HI2⟩, by simp [intOf]; omega⟩
        · obtain rfl : i = nk := by omega
          have ht : t.kids.take i = t.kids := by rw [HNK.out]; exact List.take_length
          have h1 := HI.out
          rw [ht] at h1
          have HF := Lib.hid h1
          clear ht h1 hlt
          go_wp2_with fail
          refine bodyPost_end (v := .tuple #[]) (by simp [results, Tryz.results54, go_sem]) rfl ⟨rfl, D1, ?_, fun kl => ?_, HF.out.2.2⟩
          · have h2 := HF.out.1
            rwa [show n + 1 + cntL t.kids = n + cnt t by have := HCD.out; omega] at h2
          · rw [HF.out.2.1 kl, HL0.out.2.1 kl, nmT_eq]
            simp only [List.mem_append]
            constructor
            · rintro ((h | ⟨h, e⟩) | ⟨s, h, e⟩)
              · exact .inl h
              · exact .inr ⟨t.text, .inl (by rw [h]; simp), e⟩
              · exact .inr ⟨s, .inr h, e⟩
            · rintro (h | ⟨s, h | h, e⟩)
              · exact .inl (.inl h)
              · by_cases hk : isNm t.kind = true
                · rw [if_pos hk] at h
                  exact .inl (.inr ⟨hk, by rw [e, List.mem_singleton.1 h]⟩)
                · rw [if_neg hk] at h
                  exact absurd h List.not_mem_nil
              · exact .inr ⟨s, h, e⟩
    · have d0 : (t.kind == 2) = false := beq_no h1
      have d1 : (t.kind == 21) = true := beq_yes h
      have hnm : isNm t.kind = true := by simp [isNm, h]
      clear h h1
      go_upto_region 1 with fail
      go_region
      obtain ⟨D0, hD0⟩ : ∃ D0 : DataW Unit, D0 = D.put (keyL t.text) (.lit (.int .i64 (wrap64 (c + 1)))) := ⟨_, rfl⟩
      have HL0 : Hid (LookW w0 w1 B Gm Gl (n + 1) D0 ∧ (∀ kl, has D0 kl = true ↔ has D kl = true ∨ (isNm t.kind = true ∧ kl = keyL t.text)) ∧ w.grownBy w1 (some B)) := Lib.hid (by
        rw [hD0]
        exact ⟨HP.out.2.2.1.drew.grown H1.out.1 H1.out.2, fun kl => by rw [has_put_iff (isMap_of HP.out.2.2.1.map) (key_lit _)]; simp [hnm], ⟨H1.out.2.os, H1.out.2.tape, H1.out.2.output, H1.out.2.size, H1.out.2.block⟩⟩)
      obtain ⟨k0, k1, k5⟩ := HK.out _ HL0.out.1.be
      clear hD0
      go_wp2_with fail
      go_loopw [36] (fun v36 W => ∃ (i : Nat) (D1 : DataW Unit), i ≤ nk ∧ v36 = .int .i64 i ∧ Hid (LookW w0 W B Gm Gl (n + 1 + cntL (t.kids.take i)) D1 ∧ (∀ kl, has D1 kl = true ↔ has D0 kl = true ∨ ∃ s ∈ nmL (t.kids.take i), kl = keyL s) ∧ w.grownBy W (some B))) (fun v _ => nk - (intOf v).toNat)
      case atStart => exact ⟨0, D0, Nat.zero_le _, rfl, Lib.hid ⟨HL0.out.1, fun kl => by simp [nmL], HL0.out.2.2⟩⟩
      case round =>
        obtain ⟨i, D1, hi, rfl, HI⟩ := hrel
        by_cases hlt : i < nk
        · obtain ⟨k, hk2⟩ : ∃ k, t.kids[i]? = some k := ⟨_, List.getElem?_eq_getElem (by rw [← HNK.out]; exact hlt)⟩
          obtain ⟨b', off', hKe, hpk⟩ := HP.out.2.2.2.2.2.kids.get hk2
          subst hKe
          rw [Nat.zero_add] at hpk
          have HKK := Lib.hid (And.intro hk2 (And.intro hpk (HP.out.2.1.node.each k (List.mem_of_getElem? hk2))))
          obtain ⟨k0, k1, k5⟩ := HK.out _ HI.out.1.be
          have cl := cell_at HI.out.1.gl (j := 0) rfl
          have HCN : Hid (cnt k ≤ N ∧ n + 1 + cntL (t.kids.take i) + cnt k = n + 1 + cntL (t.kids.take (i + 1)) ∧ n + 1 + cntL (t.kids.take (i + 1)) ≤ 1000000) := Lib.hid (by
            have h1 := cnt_kid hk2; have h2 := cntL_take hk2; have h3 := cntL_le (l := t.kids) (i + 1); have h4 := HP.out.2.2.2.1; have h5 := HP.out.2.2.2.2.1; have h6 := HCD.out; omega)
          clear hk2 hpk
          go_upto_region 5 with fail
          go_region_law (go_simp; go_at_call 54; refine (IH.out k b' (off' + i * 6) (n + 1 + cntL (t.kids.take i)) D1 _ HCN.out.1 HKK.out.2.1 HKK.out.2.2 HI.out.1.drew (by have := HCN.out; omega)).mono ?_; rintro e w2 ⟨rfl, D2, hL2, hi2, hg2⟩)
          all_goals
            have HI2 : Hid (LookW w0 w2 B Gm Gl (n + 1 + cntL (t.kids.take (i + 1))) D2 ∧ (∀ kl, has D2 kl = true ↔ has D0 kl = true ∨ ∃ s ∈ nmL (t.kids.take (i + 1)), kl = keyL s) ∧ w.grownBy w2 (some B)) := Lib.hid ⟨by rw [← HCN.out.2.1]; exact hL2, fun kl => by
              rw [hi2 kl, HI.out.2.1 kl, nmL_take HKK.out.1]
              simp only [List.mem_append]
              constructor
              · rintro ((h | ⟨s, h, e⟩) | ⟨s, h, e⟩)
                · exact .inl h
                · exact .inr ⟨s, .inl h, e⟩
                · exact .inr ⟨s, .inr h, e⟩
              · rintro (h | ⟨s, h | h, e⟩)
                · exact .inl (.inl h)
                · exact .inl (.inr ⟨s, h, e⟩)
                · exact .inr ⟨s, h, e⟩, grown_then HI.out.2.2 ⟨hg2.os, hg2.tape, hg2.output, hg2.size, hg2.block⟩⟩
            clear hL2 hi2 hg2
            go_wp2_with fail
            exact ⟨⟨i + 1, D2, by omega, by go_num, HI2⟩, by simp [intOf]; omega⟩
        · obtain rfl : i = nk := by omega
          have ht : t.kids.take i = t.kids := by rw [HNK.out]; exact List.take_length
          have h1 := HI.out
          rw [ht] at h1
          have HF := Lib.hid h1
          clear ht h1 hlt
          go_wp2_with fail
          refine bodyPost_end (v := .tuple #[]) (by simp [results, Tryz.results54, go_sem]) rfl ⟨rfl, D1, ?_, fun kl => ?_, HF.out.2.2⟩
          · have h2 := HF.out.1
            rwa [show n + 1 + cntL t.kids = n + cnt t by have := HCD.out; omega] at h2
          · rw [HF.out.2.1 kl, HL0.out.2.1 kl, nmT_eq]
            simp only [List.mem_append]
            constructor
            · rintro ((h | ⟨h, e⟩) | ⟨s, h, e⟩)
              · exact .inl h
              · exact .inr ⟨t.text, .inl (by rw [h]; simp), e⟩
              · exact .inr ⟨s, .inr h, e⟩
            · rintro (h | ⟨s, h | h, e⟩)
              · exact .inl (.inl h)
              · by_cases hk : isNm t.kind = true
                · rw [if_pos hk] at h
                  exact .inl (.inr ⟨hk, by rw [e, List.mem_singleton.1 h]⟩)
                · rw [if_neg hk] at h
                  exact absurd h List.not_mem_nil
              · exact .inr ⟨s, h, e⟩
    · have d0 : (t.kind == 2) = false := beq_no h1
      have d2 : (t.kind == 21) = false := beq_no h2
      have d1 : (t.kind == 11) = true := beq_yes h
      have hnm : isNm t.kind = true := by simp [isNm, h]
      clear h h1 h2
      go_upto_region 1 with fail
      go_region
      obtain ⟨D0, hD0⟩ : ∃ D0 : DataW Unit, D0 = D.put (keyL t.text) (.lit (.int .i64 (wrap64 (c + 1)))) := ⟨_, rfl⟩
      have HL0 : Hid (LookW w0 w1 B Gm Gl (n + 1) D0 ∧ (∀ kl, has D0 kl = true ↔ has D kl = true ∨ (isNm t.kind = true ∧ kl = keyL t.text)) ∧ w.grownBy w1 (some B)) := Lib.hid (by
        rw [hD0]
        exact ⟨HP.out.2.2.1.drew.grown H1.out.1 H1.out.2, fun kl => by rw [has_put_iff (isMap_of HP.out.2.2.1.map) (key_lit _)]; simp [hnm], ⟨H1.out.2.os, H1.out.2.tape, H1.out.2.output, H1.out.2.size, H1.out.2.block⟩⟩)
      obtain ⟨k0, k1, k5⟩ := HK.out _ HL0.out.1.be
      clear hD0
      go_wp2_with fail
      go_loopw [36] (fun v36 W => ∃ (i : Nat) (D1 : DataW Unit), i ≤ nk ∧ v36 = .int .i64 i ∧ Hid (LookW w0 W B Gm Gl (n + 1 + cntL (t.kids.take i)) D1 ∧ (∀ kl, has D1 kl = true ↔ has D0 kl = true ∨ ∃ s ∈ nmL (t.kids.take i), kl = keyL s) ∧ w.grownBy W (some B))) (fun v _ => nk - (intOf v).toNat)
      case atStart => exact ⟨0, D0, Nat.zero_le _, rfl, Lib.hid ⟨HL0.out.1, fun kl => by simp [nmL], HL0.out.2.2⟩⟩
      case round =>
        obtain ⟨i, D1, hi, rfl, HI⟩ := hrel
        by_cases hlt : i < nk
        · obtain ⟨k, hk2⟩ : ∃ k, t.kids[i]? = some k := ⟨_, List.getElem?_eq_getElem (by rw [← HNK.out]; exact hlt)⟩
          obtain ⟨b', off', hKe, hpk⟩ := HP.out.2.2.2.2.2.kids.get hk2
          subst hKe
          rw [Nat.zero_add] at hpk
          have HKK := Lib.hid (And.intro hk2 (And.intro hpk (HP.out.2.1.node.each k (List.mem_of_getElem? hk2))))
          obtain ⟨k0, k1, k5⟩ := HK.out _ HI.out.1.be
          have cl := cell_at HI.out.1.gl (j := 0) rfl
          have HCN : Hid (cnt k ≤ N ∧ n + 1 + cntL (t.kids.take i) + cnt k = n + 1 + cntL (t.kids.take (i + 1)) ∧ n + 1 + cntL (t.kids.take (i + 1)) ≤ 1000000) := Lib.hid (by
            have h1 := cnt_kid hk2; have h2 := cntL_take hk2; have h3 := cntL_le (l := t.kids) (i + 1); have h4 := HP.out.2.2.2.1; have h5 := HP.out.2.2.2.2.1; have h6 := HCD.out; omega)
          clear hk2 hpk
          go_upto_region 5 with fail
          go_region_law (go_simp; go_at_call 54; refine (IH.out k b' (off' + i * 6) (n + 1 + cntL (t.kids.take i)) D1 _ HCN.out.1 HKK.out.2.1 HKK.out.2.2 HI.out.1.drew (by have := HCN.out; omega)).mono ?_; rintro e w2 ⟨rfl, D2, hL2, hi2, hg2⟩)
          all_goals
            have HI2 : Hid (LookW w0 w2 B Gm Gl (n + 1 + cntL (t.kids.take (i + 1))) D2 ∧ (∀ kl, has D2 kl = true ↔ has D0 kl = true ∨ ∃ s ∈ nmL (t.kids.take (i + 1)), kl = keyL s) ∧ w.grownBy w2 (some B)) := Lib.hid ⟨by rw [← HCN.out.2.1]; exact hL2, fun kl => by
              rw [hi2 kl, HI.out.2.1 kl, nmL_take HKK.out.1]
              simp only [List.mem_append]
              constructor
              · rintro ((h | ⟨s, h, e⟩) | ⟨s, h, e⟩)
                · exact .inl h
                · exact .inr ⟨s, .inl h, e⟩
                · exact .inr ⟨s, .inr h, e⟩
              · rintro (h | ⟨s, h | h, e⟩)
                · exact .inl (.inl h)
                · exact .inl (.inr ⟨s, h, e⟩)
                · exact .inr ⟨s, h, e⟩, grown_then HI.out.2.2 ⟨hg2.os, hg2.tape, hg2.output, hg2.size, hg2.block⟩⟩
            clear hL2 hi2 hg2
            go_wp2_with fail
            exact ⟨⟨i + 1, D2, by omega, by go_num, HI2⟩, by simp [intOf]; omega⟩
        · obtain rfl : i = nk := by omega
          have ht : t.kids.take i = t.kids := by rw [HNK.out]; exact List.take_length
          have h1 := HI.out
          rw [ht] at h1
          have HF := Lib.hid h1
          clear ht h1 hlt
          go_wp2_with fail
          refine bodyPost_end (v := .tuple #[]) (by simp [results, Tryz.results54, go_sem]) rfl ⟨rfl, D1, ?_, fun kl => ?_, HF.out.2.2⟩
          · have h2 := HF.out.1
            rwa [show n + 1 + cntL t.kids = n + cnt t by have := HCD.out; omega] at h2
          · rw [HF.out.2.1 kl, HL0.out.2.1 kl, nmT_eq]
            simp only [List.mem_append]
            constructor
            · rintro ((h | ⟨h, e⟩) | ⟨s, h, e⟩)
              · exact .inl h
              · exact .inr ⟨t.text, .inl (by rw [h]; simp), e⟩
              · exact .inr ⟨s, .inr h, e⟩
            · rintro (h | ⟨s, h | h, e⟩)
              · exact .inl (.inl h)
              · by_cases hk : isNm t.kind = true
                · rw [if_pos hk] at h
                  exact .inl (.inr ⟨hk, by rw [e, List.mem_singleton.1 h]⟩)
                · rw [if_neg hk] at h
                  exact absurd h List.not_mem_nil
              · exact .inr ⟨s, h, e⟩
    · have d0 : (t.kind == 2) = false := beq_no h1
      have d2 : (t.kind == 21) = false := beq_no h2
      have d1 : (t.kind == 11) = false := beq_no h3
      have hnm : isNm t.kind = false := by simp [isNm, h1, h2, h3]
      clear h1 h2 h3
      obtain ⟨D0, hD0⟩ : ∃ D0 : DataW Unit, D0 = D := ⟨_, rfl⟩
      have HL0 : Hid (LookW w0 w B Gm Gl (n + 1) D0 ∧ (∀ kl, has D0 kl = true ↔ has D kl = true ∨ (isNm t.kind = true ∧ kl = keyL t.text)) ∧ w.grownBy w (some B)) := Lib.hid (by
        rw [hD0]
        exact ⟨⟨HP.out.2.2.1.map.mono (Nat.le_succ _), HP.out.2.2.1.gm, HP.out.2.2.1.gl, HP.out.2.2.1.lo, HP.out.2.2.1.be⟩, fun kl => by simp [hnm], ⟨rfl, rfl, rfl, Nat.le_refl _, fun _ _ _ => rfl⟩⟩)
      obtain ⟨k0, k1, k5⟩ := HK.out _ HL0.out.1.be
      clear hD0
      go_wp2_with fail
      go_loopw [36] (fun v36 W => ∃ (i : Nat) (D1 : DataW Unit), i ≤ nk ∧ v36 = .int .i64 i ∧ Hid (LookW w0 W B Gm Gl (n + 1 + cntL (t.kids.take i)) D1 ∧ (∀ kl, has D1 kl = true ↔ has D0 kl = true ∨ ∃ s ∈ nmL (t.kids.take i), kl = keyL s) ∧ w.grownBy W (some B))) (fun v _ => nk - (intOf v).toNat)
      case atStart => exact ⟨0, D0, Nat.zero_le _, rfl, Lib.hid ⟨HL0.out.1, fun kl => by simp [nmL], HL0.out.2.2⟩⟩
      case round =>
        obtain ⟨i, D1, hi, rfl, HI⟩ := hrel
        by_cases hlt : i < nk
        · obtain ⟨k, hk2⟩ : ∃ k, t.kids[i]? = some k := ⟨_, List.getElem?_eq_getElem (by rw [← HNK.out]; exact hlt)⟩
          obtain ⟨b', off', hKe, hpk⟩ := HP.out.2.2.2.2.2.kids.get hk2
          subst hKe
          rw [Nat.zero_add] at hpk
          have HKK := Lib.hid (And.intro hk2 (And.intro hpk (HP.out.2.1.node.each k (List.mem_of_getElem? hk2))))
          obtain ⟨k0, k1, k5⟩ := HK.out _ HI.out.1.be
          have cl := cell_at HI.out.1.gl (j := 0) rfl
          have HCN : Hid (cnt k ≤ N ∧ n + 1 + cntL (t.kids.take i) + cnt k = n + 1 + cntL (t.kids.take (i + 1)) ∧ n + 1 + cntL (t.kids.take (i + 1)) ≤ 1000000) := Lib.hid (by
            have h1 := cnt_kid hk2; have h2 := cntL_take hk2; have h3 := cntL_le (l := t.kids) (i + 1); have h4 := HP.out.2.2.2.1; have h5 := HP.out.2.2.2.2.1; have h6 := HCD.out; omega)
          clear hk2 hpk
          go_upto_region 5 with fail
          go_region_law (go_simp; go_at_call 54; refine (IH.out k b' (off' + i * 6) (n + 1 + cntL (t.kids.take i)) D1 _ HCN.out.1 HKK.out.2.1 HKK.out.2.2 HI.out.1.drew (by have := HCN.out; omega)).mono ?_; rintro e w2 ⟨rfl, D2, hL2, hi2, hg2⟩)
          all_goals
            have HI2 : Hid (LookW w0 w2 B Gm Gl (n + 1 + cntL (t.kids.take (i + 1))) D2 ∧ (∀ kl, has D2 kl = true ↔ has D0 kl = true ∨ ∃ s ∈ nmL (t.kids.take (i + 1)), kl = keyL s) ∧ w.grownBy w2 (some B)) := Lib.hid ⟨by rw [← HCN.out.2.1]; exact hL2, fun kl => by
              rw [hi2 kl, HI.out.2.1 kl, nmL_take HKK.out.1]
              simp only [List.mem_append]
              constructor
              · rintro ((h | ⟨s, h, e⟩) | ⟨s, h, e⟩)
                · exact .inl h
                · exact .inr ⟨s, .inl h, e⟩
                · exact .inr ⟨s, .inr h, e⟩
              · rintro (h | ⟨s, h | h, e⟩)
                · exact .inl (.inl h)
                · exact .inl (.inr ⟨s, h, e⟩)
                · exact .inr ⟨s, h, e⟩, grown_then HI.out.2.2 ⟨hg2.os, hg2.tape, hg2.output, hg2.size, hg2.block⟩⟩
            clear hL2 hi2 hg2
            go_wp2_with fail
            exact ⟨⟨i + 1, D2, by omega, by go_num, HI2⟩, by simp [intOf]; omega⟩
        · obtain rfl : i = nk := by omega
          have ht : t.kids.take i = t.kids := by rw [HNK.out]; exact List.take_length
          have h1 := HI.out
          rw [ht] at h1
          have HF := Lib.hid h1
          clear ht h1 hlt
          go_wp2_with fail
          refine bodyPost_end (v := .tuple #[]) (by simp [results, Tryz.results54, go_sem]) rfl ⟨rfl, D1, ?_, fun kl => ?_, HF.out.2.2⟩
          · have h2 := HF.out.1
            rwa [show n + 1 + cntL t.kids = n + cnt t by have := HCD.out; omega] at h2
          · rw [HF.out.2.1 kl, HL0.out.2.1 kl, nmT_eq]
            simp only [List.mem_append]
            constructor
            · rintro ((h | ⟨h, e⟩) | ⟨s, h, e⟩)
              · exact .inl h
              · exact .inr ⟨t.text, .inl (by rw [h]; simp), e⟩
              · exact .inr ⟨s, .inr h, e⟩
            · rintro (h | ⟨s, h | h, e⟩)
              · exact .inl (.inl h)
              · by_cases hk : isNm t.kind = true
                · rw [if_pos hk] at h
                  exact .inl (.inr ⟨hk, by rw [e, List.mem_singleton.1 h]⟩)
                · rw [if_neg hk] at h
                  exact absurd h List.not_mem_nil
              · exact .inr ⟨s, h, e⟩
end Go.Proofs.YteohoodfcgfkeaaGreat
