/- Trains: a train may be, and has no nouns. Plain laws. No condition. -/
import Derived.Test.YtebiojmfieoncaaGreatTeQs
import Derived.Test.YtebiojmfieoncaaGreatTeQm
namespace Go.Proofs.YtebiojmfieoncaaGreat
open Go.RowKit

theorem of_good {k : Int} {ks : List Tm} (hk : k = 22 ∨ k = 43 ∨ k = 45 ∨ k = 46) (h : kidsB k ks = true) (hg : ∀ x ∈ ks, goodT false x = true) : goodT false (tOf k ks) = true := by
  refine good_mk ?_ ?_
  · unfold nodeB fieldsB
    show (!decide (cls k = 0) && (textB k [] && nB k 0 && numB k [] []) && kidsB k ks && !(false && (decide (k = 2) || decide (k = 11)) && _)) = true
    rw [h]
    rcases hk with rfl | rfl | rfl | rfl <;> rfl
  · show ∀ x ∈ ks, goodT (lowOf k 0 false) x = true
    rw [low_false (by omega)]
    exact hg
theorem of_plL {k : Int} {ks : List Tm} (hk : k = 22 ∨ k = 43 ∨ k = 45 ∨ k = 46) (hg : ∀ x ∈ ks, plL x = true) : plL (tOf k ks) = true := by
  refine verb_plL ?_ ?_ hg
  · show cls k = 3
    rcases hk with rfl | rfl | rfl | rfl <;> rfl
  · show k ≠ 23
    omega
/-- what a train is -/
def TrOk (u : Tm) : Prop := goodT false u = true ∧ cls u.kind = 3 ∧ plL u = true
theorem tr_ok (N : Nat) : (∀ (t : Tm) (b : Bool), cnt t ≤ N → goodT b t = true → cls t.kind = 1 → TrOk (trn N t)) ∧ ∀ (v : Int) (t : Tm) (b : Bool), v = 1 ∨ v = 2 → cnt t ≤ N → goodT b t = true → cls t.kind = 3 → TrOk (trd N v t) := by
  induction N with
  | zero => exact ⟨fun t _ h => absurd h (by have := cntP_pos t; omega), fun _ t _ _ h => absurd h (by have := cntP_pos t; omega)⟩
  | succ N ih =>
    have one : ∀ (t : Tm) (b : Bool), goodT b t = true → isOperand t = true → TrOk (tOf 22 [t]) := fun t b hg ho => by
      obtain ⟨h1, h2⟩ := op_ok hg ho
      have m : ∀ {p : Tm → Prop}, p t → ∀ x ∈ [t], p x := fun hp x hx => by
        simp only [List.mem_cons, List.not_mem_nil, or_false] at hx
        rw [hx]; exact hp
      refine ⟨of_good (.inl rfl) ?_ (m h1), rfl, of_plL (.inl rfl) (m h2)⟩
      show zipFits [t] [111] = true
      simp only [zipFits, Bool.and_true]
      rw [fits_op]
      exact ho
    refine ⟨fun t b hN hg hc => ?_, fun v t b hv hN hg hc => ?_⟩
    · have h15 : 1 ≤ t.kind ∧ t.kind ≤ 5 := by
        unfold cls at hc
        by_cases h : 1 ≤ t.kind ∧ t.kind ≤ 5
        · exact h
        · rw [if_neg h] at hc
          split at hc
          · omega
          · split at hc <;> omega
      simp only [trn]
      by_cases h2 : t.kind = 2
      · rw [if_pos h2]
        by_cases hs1 : t.text.data.toList = [120]
        · rw [if_pos hs1]
          exact ⟨rfl, rfl, rfl⟩
        · rw [if_neg hs1]
          by_cases hs2 : t.text.data.toList = [121]
          · rw [if_pos hs2]
            exact ⟨rfl, rfl, rfl⟩
          · rw [if_neg hs2]
            exact one t b hg (by unfold isOperand; simp [h2, hs1, hs2])
      · rw [if_neg h2]
        by_cases h3 : t.kind = 3
        · rw [if_pos h3]
          obtain ⟨x, y, hks, hfx, hfy⟩ := two_kids hg (c := 118) (d := 110) (by rw [h3]; decide) (by omega) (by omega) (by omega)
          have c1 := cnt_kid (t := t) (i := 0) (k := x) (by rw [hks]; rfl)
          have c2 := cnt_kid (t := t) (i := 1) (k := y) (by rw [hks]; rfl)
          obtain ⟨a1, a2, a3⟩ := ih.2 1 x _ (.inl rfl) (by omega) (good_kid hg (i := 0) (k := x) (by rw [hks]; rfl)) (fits3.1 hfx)
          obtain ⟨b1, b2, b3⟩ := ih.1 y _ (by omega) (good_kid hg (i := 1) (k := y) (by rw [hks]; rfl)) (fits_noun hfy)
          have e1 : nth t.kids 0 = x := by rw [hks]; rfl
          have e2 : nth t.kids 1 = y := by rw [hks]; rfl
          rw [e1, e2]
          refine ⟨of_good (.inr (.inr (.inr rfl))) ?_ fun z hz => ?_, rfl, of_plL (.inr (.inr (.inr rfl))) fun z hz => ?_⟩
          · show zipFits [_, _] [118, 118] = true
            simp only [zipFits, Bool.and_true]
            rw [fits3.2 a2, fits3.2 b2]
            rfl
          · simp only [List.mem_cons, List.not_mem_nil, or_false] at hz
            rcases hz with rfl | rfl
            · exact a1
            · exact b1
          · simp only [List.mem_cons, List.not_mem_nil, or_false] at hz
            rcases hz with rfl | rfl
            · exact a3
            · exact b3
        · rw [if_neg h3]
          by_cases h4 : t.kind = 4
          · rw [if_pos h4]
            obtain ⟨x, y, z, hks, hfx, hfy, hfz⟩ := three_fits hg (c := 118) (d := 110) (e := 110) (by rw [h4]; decide) (by omega) (by omega) (by omega)
            have c1 := cnt_kid (t := t) (i := 0) (k := x) (by rw [hks]; rfl)
            have c2 := cnt_kid (t := t) (i := 1) (k := y) (by rw [hks]; rfl)
            have c3 := cnt_kid (t := t) (i := 2) (k := z) (by rw [hks]; rfl)
            obtain ⟨a1, a2, a3⟩ := ih.2 2 x _ (.inr rfl) (by omega) (good_kid hg (i := 0) (k := x) (by rw [hks]; rfl)) (fits3.1 hfx)
            obtain ⟨b1, b2, b3⟩ := ih.1 y _ (by omega) (good_kid hg (i := 1) (k := y) (by rw [hks]; rfl)) (fits_noun hfy)
            obtain ⟨d1, d2, d3⟩ := ih.1 z _ (by omega) (good_kid hg (i := 2) (k := z) (by rw [hks]; rfl)) (fits_noun hfz)
            have e1 : nth t.kids 0 = x := by rw [hks]; rfl
            have e2 : nth t.kids 1 = y := by rw [hks]; rfl
            have e3 : nth t.kids 2 = z := by rw [hks]; rfl
            rw [e1, e2, e3]
            refine ⟨of_good (.inr (.inr (.inl rfl))) ?_ fun q hq => ?_, rfl, of_plL (.inr (.inr (.inl rfl))) fun q hq => ?_⟩
            · show zipFits [_, _, _] [118, 118, 118] = true
              simp only [zipFits, Bool.and_true]
              rw [fits3.2 a2, fits3.2 b2, fits3.2 d2]
              rfl
            · simp only [List.mem_cons, List.not_mem_nil, or_false] at hq
              rcases hq with rfl | rfl | rfl
              · exact b1
              · exact a1
              · exact d1
            · simp only [List.mem_cons, List.not_mem_nil, or_false] at hq
              rcases hq with rfl | rfl | rfl
              · exact b3
              · exact a3
              · exact d3
          · rw [if_neg h4]
            by_cases h5 : t.kind = 5
            · rw [if_pos h5]
              obtain ⟨⟨hn2, hn17⟩, hcl⟩ := pick_fits hg h5
              have key : ∀ z ∈ t.kids.map (trn N), TrOk z := fun z hz => by
                obtain ⟨k, hk, rfl⟩ := List.mem_map.1 hz
                obtain ⟨i, hi⟩ := List.getElem?_of_mem hk
                have := cnt_kid hi
                exact ih.1 k _ (by omega) (good_kid hg hi) (hcl k hk)
              refine ⟨of_good (.inr (.inl rfl)) ?_ fun z hz => (key z hz).1, rfl, of_plL (.inr (.inl rfl)) fun z hz => (key z hz).2.2⟩
              show (decide (2 ≤ (t.kids.map (trn N)).length ∧ (t.kids.map (trn N)).length ≤ 17) && (t.kids.map (trn N)).all (fitsB · 118)) = true
              rw [Bool.and_eq_true, List.all_eq_true]
              exact ⟨decide_eq_true (by rw [List.length_map]; exact ⟨hn2, hn17⟩), fun z hz => fits3.2 (key z hz).2.1⟩
            · rw [if_neg h5]
              exact one t b hg (by unfold isOperand; simp [show t.kind = 1 by omega])
    · simp only [trd]
      have hself := verb_ok (cnt t) t b (Nat.le_refl _) hg hc
      by_cases hp : plainT t = true
      · rw [if_pos hp]
        by_cases hn : t.n = v
        · rw [if_pos hn]
          obtain ⟨h1, ⟨c, h2⟩, h3⟩ := noun_parts hg hp
          exact ih.1 _ c (by omega) h2 h1
        · rw [if_neg hn]
          exact ⟨hself.1, hc, hself.2⟩
      · rw [if_neg hp]
        by_cases h23 : t.kind = 23
        · have e : valT t v = [] := by unfold valT; rw [if_neg (by omega), if_neg (by omega), if_neg (by omega), if_neg (by omega), if_neg (by omega), if_neg (by omega), if_neg (by omega), if_neg (by omega), if_neg (by omega), if_neg (by omega), if_neg (by omega), if_neg (by omega), if_neg (by omega), if_neg (by omega), if_neg (by omega), if_neg (by omega)]
          have e2 : withK t (t.kids.mapIdx fun i k => if 0 < (valT t v).getD i 0 then trd N ((valT t v).getD i 0) k else k) = t := by
            rw [e]
            have e3 : (t.kids.mapIdx fun i k => if 0 < ([] : List Int).getD i 0 then trd N (([] : List Int).getD i 0) k else k) = t.kids := List.ext_getElem? fun j => by
              rw [List.getElem?_mapIdx]
              cases t.kids[j]? with
              | none => rfl
              | some k =>
                rw [Option.map_some, if_neg (by simp)]
            rw [e3, with_self]
          rw [e2]
          exact ⟨hself.1, hc, hself.2⟩
        · have key : ∀ (i : Nat) (k u : Tm), t.kids[i]? = some k → (t.kids.mapIdx fun i k => if 0 < (valT t v).getD i 0 then trd N ((valT t v).getD i 0) k else k)[i]? = some u → goodT false u = true ∧ plL u = true ∧ (u = k ∨ cls k.kind = 3 ∧ cls u.kind = 3) := fun i k u hk hu => by
            rw [List.getElem?_mapIdx, hk] at hu
            have e : u = if 0 < (valT t v).getD i 0 then trd N ((valT t v).getD i 0) k else k := (Option.some.inj hu).symm
            have hlt := cnt_kid hk
            by_cases h0 : 0 < (valT t v).getD i 0
            · rw [if_pos h0] at e
              have hck := val_verb hg hc hk h0
              obtain ⟨a1, a2, a3⟩ := ih.2 ((valT t v).getD i 0) k _ (by have := valT_get (t := t) hv i; omega) (by omega) (good_kid hg hk) hck
              rw [e]
              exact ⟨a1, a3, .inr ⟨hck, a2⟩⟩
            · rw [if_neg h0] at e
              rw [e]
              rcases verb_kids hg hc h23 hk with h | h
              · obtain ⟨a1, a2⟩ := verb_ok (cnt k) k _ (Nat.le_refl _) (good_kid hg hk) h
                exact ⟨a1, a2, .inl rfl⟩
              · obtain ⟨a1, a2⟩ := op_ok (good_kid hg hk) h
                exact ⟨a1, a2, .inl rfl⟩
          obtain ⟨us, hus⟩ : ∃ us, us = t.kids.mapIdx fun i k => if 0 < (valT t v).getD i 0 then trd N ((valT t v).getD i 0) k else k := ⟨_, rfl⟩
          rw [← hus] at key ⊢
          have hlen : us.length = t.kids.length := by rw [hus, List.length_mapIdx]
          clear hus
          have each : ∀ u ∈ us, goodT false u = true ∧ plL u = true := fun u hu => by
            obtain ⟨i, hi⟩ := List.getElem?_of_mem hu
            have hil := (List.getElem?_eq_some_iff.1 hi).1
            obtain ⟨k, hk⟩ : ∃ k, t.kids[i]? = some k := ⟨_, List.getElem?_eq_getElem (by omega)⟩
            obtain ⟨a1, a2, _⟩ := key i k u hk hi
            exact ⟨a1, a2⟩
          have hkb := good_kids hg
          have h3 := cls3 hc
          have hkb2 : kidsB t.kind us = true := by
            unfold kidsB at hkb ⊢
            rw [if_neg (by omega), if_neg (by omega)] at hkb ⊢
            by_cases h43 : t.kind = 43
            · rw [if_pos h43] at hkb ⊢
              simp only [Bool.and_eq_true, List.all_eq_true, decide_eq_true_eq] at hkb ⊢
              refine ⟨by rw [hlen]; exact hkb.1, fun u hu => ?_⟩
              obtain ⟨i, hi⟩ := List.getElem?_of_mem hu
              have hil := (List.getElem?_eq_some_iff.1 hi).1
              obtain ⟨k, hk⟩ : ∃ k, t.kids[i]? = some k := ⟨_, List.getElem?_eq_getElem (by omega)⟩
              rcases (key i k u hk hi).2.2 with rfl | h
              · exact hkb.2 u (List.mem_of_getElem? hk)
              · exact fits3.2 h.2
            · rw [if_neg h43] at hkb ⊢
              refine zip_of (by rw [hlen]; exact zipf_len hkb) fun i u c hu hcc => ?_
              have hil := (List.getElem?_eq_some_iff.1 hu).1
              obtain ⟨k, hk⟩ : ∃ k, t.kids[i]? = some k := ⟨_, List.getElem?_eq_getElem (by omega)⟩
              obtain ⟨c', hc1, hc2⟩ := zip_get hkb i k hk
              rw [hcc] at hc1
              obtain rfl := Option.some.inj hc1
              rcases (key i k u hk hu).2.2 with rfl | h
              · exact hc2
              · rcases verb_letters hc h23 h43 c (List.mem_of_getElem? hcc) with rfl | rfl
                · exact fits3.2 h.2
                · exfalso
                  rw [fits_op] at hc2
                  have h1 := op_kind hc2
                  have h4 := cls3 h.1
                  rcases h1 with h1 | ⟨h1, _⟩ <;> omega
          refine ⟨good_mk ?_ ?_, hc, verb_plL hc h23 fun u hu => (each u hu).2⟩
          · have hn := node_false (good_node hg)
            unfold nodeB at hn ⊢
            simp only [Bool.and_eq_true] at hn ⊢
            exact ⟨⟨hn.1.1, hkb2⟩, hn.2⟩
          · show ∀ u ∈ us, goodT (lowOf t.kind t.n false) u = true
            rw [low_false h23]
            exact fun u hu => (each u hu).1
/-- what Of's answer is -/
theorem of_shape {t : Tm} (h : (ofT t).2 = 0) : TrOk (ofT t).1 ∧ greatT t = false ∧ greatT (ofT t).1 = false ∧ cnt (ofT t).1 ≤ 2 * cnt t ∧ dep (ofT t).1 ≤ dep t := by
  unfold ofT at h ⊢
  by_cases hm : mayT t 3 ≠ 0
  · rw [if_pos hm] at h
    exact absurd h hm
  · rw [if_neg hm] at h ⊢
    have hm0 : mayT t 3 = 0 := Decidable.not_not.1 hm
    obtain ⟨hg, hgr, hc⟩ := may_goodT hm0
    by_cases h2 : 2048 < (sizeT t).1
    · rw [if_pos h2] at h
      exact absurd h (by decide)
    · rw [if_neg h2] at h ⊢
      by_cases hp : plainT t = false
      · rw [if_pos hp] at h
        exact absurd h (by decide)
      · rw [if_neg hp]
        have hp1 : plainT t = true := by cases q : plainT t with | true => rfl | false => exact absurd q hp
        obtain ⟨h1, ⟨c, h3⟩, h4⟩ := noun_parts hg hp1
        have hok := (tr_ok (cnt t)).1 _ c (by omega) h3 h1
        have hsz := (tr_size (cnt t)).1 _ c (by omega) h3
        have hd := noun_dep hg hp1
        have es : sizeT t = (cnt t, dep t) := by unfold sizeT; rw [if_neg (by rw [hgr]; decide)]
        rw [es] at h2
        have hng : greatT (trn (cnt t) (nounT t)) = false := by
          unfold greatT at hgr ⊢
          rw [decide_eq_false_iff_not] at hgr ⊢
          have h2' : ¬ 2048 < cnt t := h2
          omega
        show TrOk (if greatT (trn (cnt t) (nounT t)) = true then tNil else trn (cnt t) (nounT t)) ∧ _ ∧ greatT (if greatT (trn (cnt t) (nounT t)) = true then tNil else trn (cnt t) (nounT t)) = false ∧ cnt (if greatT (trn (cnt t) (nounT t)) = true then tNil else trn (cnt t) (nounT t)) ≤ _ ∧ dep (if greatT (trn (cnt t) (nounT t)) = true then tNil else trn (cnt t) (nounT t)) ≤ _
        rw [if_neg (by rw [hng]; decide)]
        exact ⟨hok, hgr, hng, by omega, by omega⟩
theorem of_else {t : Tm} (h : ¬ (ofT t).2 = 0) : (ofT t).1 = tNil := by
  unfold ofT at h ⊢
  by_cases hm : mayT t 3 ≠ 0
  · rw [if_pos hm]
  · rw [if_neg hm] at h ⊢
    by_cases h2 : 2048 < (sizeT t).1
    · rw [if_pos h2]
    · rw [if_neg h2] at h ⊢
      by_cases hp : plainT t = false
      · rw [if_pos hp]
      · rw [if_neg hp] at h
        exact absurd rfl h
end Go.Proofs.YtebiojmfieoncaaGreat
