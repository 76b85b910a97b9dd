/- term: kids. No condition. -/
import Derived.Test.YtkdejffhdhcocaaGreatTeMW
import Derived.Deep.RegionWith
import Derived.Deep.Cut
import Derived.Deep.CutBlock
namespace Go.Proofs.YtkdejffhdhcocaaGreat
open Go.RowKit

def kidsP (p : List UInt8) (ks : List Tm) : Bool := if p = [115] then ks.all (fitsB · 115) else match p with
  | [c, 43] => decide (2 ≤ ks.length ∧ ks.length ≤ 17) && ks.all (fitsB · c)
  | _ => zipFits ks p
theorem kidsP_zip {p : List UInt8} (ks : List Tm) (h1 : p ≠ [115]) (h2 : ∀ c, p ≠ [c, 43]) : kidsP p ks = zipFits ks p := by
  unfold kidsP
  rw [if_neg h1]
  split
  · rename_i c; exact absurd rfl (h2 c)
  · rfl
def okP (p : List UInt8) : Bool := p != [115] && (match p with | [_, 43] => false | _ => true)
theorem okP_ne {p : List UInt8} (h : okP p = true) : p ≠ [115] ∧ ∀ c, p ≠ [c, 43] := by
  unfold okP at h
  rw [Bool.and_eq_true] at h
  refine ⟨fun e => ?_, fun c e => ?_⟩
  · rw [e] at h; exact absurd h.1 (by decide)
  · rw [e] at h; exact absurd h.2 (by simp)
theorem pat_plain (k : Int) (h14 : ¬ k = 14) (h5 : ¬ k = 5) (h43 : ¬ k = 43) : patOf k ≠ [115] ∧ ∀ c, patOf k ≠ [c, 43] := by
  refine okP_ne ?_
  unfold patOf
  simp only [apply_ite okP, if_neg h14, if_neg h5, if_neg h43]
  simp [okP]
theorem pat_len (k : Int) : (patOf k).length ≤ 3 := by
  have : decide ((patOf k).length ≤ 3) = true := by
    unfold patOf
    simp only [apply_ite List.length, apply_ite (fun n : Nat => decide (n ≤ 3))]
    simp
  exact of_decide_eq_true this
theorem kidsP_eq (k : Int) (ks : List Tm) : kidsP (patOf k) ks = kidsB k ks := by
  unfold kidsB
  by_cases h14 : k = 14
  · subst h14; rfl
  by_cases h5 : k = 5
  · subst h5; rfl
  by_cases h43 : k = 43
  · subst h43; rfl
  rw [if_neg h14, if_neg h5, if_neg h43]
  obtain ⟨a, b⟩ := pat_plain k h14 h5 h43
  exact kidsP_zip ks a b
theorem zip_step {ks : List Tm} {p : List UInt8} {i : Nat} {t : Tm} {c : UInt8} (h : ks[i]? = some t) (hc : p[i]? = some c) : zipFits (ks.drop i) (p.drop i) = (fitsB t c && zipFits (ks.drop (i + 1)) (p.drop (i + 1))) := by
  obtain ⟨hl, rfl⟩ := List.getElem?_eq_some_iff.1 h
  obtain ⟨hl', rfl⟩ := List.getElem?_eq_some_iff.1 hc
  rw [List.drop_eq_getElem_cons hl, List.drop_eq_getElem_cons hl', zipFits]
theorem all_step {ks : List Tm} {f : Tm → Bool} {i : Nat} {t : Tm} (h : ks[i]? = some t) : (ks.drop i).all f = (f t && (ks.drop (i + 1)).all f) := by
  obtain ⟨hl, rfl⟩ := List.getElem?_eq_some_iff.1 h
  rw [List.drop_eq_getElem_cons hl, List.all_cons]
theorem len2 {l : List UInt8} (h : l.length = 2) : ∃ a b, l = [a, b] := match l, h with
  | [a, b], _ => ⟨a, b, rfl⟩
theorem zip_len : ∀ (ks : List Tm) (p : List UInt8), ks.length ≠ p.length → zipFits ks p = false
  | [], [], h => absurd rfl h
  | _ :: ks, _ :: p, h => by rw [zipFits, zip_len ks p (by simpa using h), Bool.and_false]
  | [], _ :: _, _ => rfl
  | _ :: _, [], _ => rfl
set_option maxRecDepth 100000 in
set_option maxHeartbeats 8000000 in
theorem kids_any (t : Tm) (b off : Nat) (w : World) (hp : PtrAt w b off t) (hwf : WfT t) :
    Calls Tryz.prog 105 #[.pointer (some ⟨b, off, none⟩)] w fun e w' => e = .returned (.bool (kidsB t.kind t.kids)) ∧ Below w.heap.size w w' := by
  obtain ⟨A, ca, B, cb, K, ck, hlt, k0, _, _, _, _, k5, hat⟩ := hp.cells
  have hk := hwf.node.kids
  have HWF := Lib.hid hwf
  have HK := Lib.hid hat.kids
  obtain ⟨p, hpp⟩ : ∃ p, p = patOf t.kind := ⟨_, rfl⟩
  have HPAT : Hid (∀ W, Calls Tryz.prog 129 #[.int .i64 t.kind] W fun e w' => e = .returned (.string ⟨p.toArray⟩) ∧ w' = W) := Lib.hid (by rw [hpp]; exact fun W => pattern_any _ W)
  have HLEN : Hid (p.length ≤ 3) := Lib.hid (by rw [hpp]; exact pat_len _)
  have HR : Hid (kidsB t.kind t.kids = kidsP p t.kids) := Lib.hid (by rw [hpp, kidsP_eq])
  have HK5 : Hid (∀ W, Below w.heap.size w W → W.cell? ⟨b, off + 5, none⟩ = some (.slice K t.kids.length ck)) := Lib.hid fun W h => (h.cell (p := ⟨b, off + 5, none⟩) hlt).trans k5
  obtain ⟨n, hn⟩ : ∃ n, n = t.kids.length := ⟨_, rfl⟩
  have HN := Lib.hid hn
  rw [← hn] at hk k5 HK5
  clear hp hwf hat hpp hn
  by_cases h1 : p = [115]
  · subst h1
    have HR2 : Hid (kidsB t.kind t.kids = (t.kids.drop 0).all (fitsB · 115)) := Lib.hid (by rw [HR.out]; rfl)
    go_enter Tryz.func105, Tryz.ntmps105
    go_wp2_with fail
    refine (HPAT.out _).mono ?_
    rintro e w' ⟨rfl, rfl⟩
    go_wp2_with fail
    clear k0 k5
    go_loopw [23] (fun v W => ∃ i : Nat, i ≤ n ∧ v = .int .i64 i ∧ Hid (kidsB t.kind t.kids = (t.kids.drop i).all (fitsB · 115) ∧ Below w'.heap.size w' W)) (fun v _ => n - (intOf v).toNat)
    case atStart => exact ⟨0, Nat.zero_le _, rfl, Lib.hid ⟨HR2.out, Below.refl _ _⟩⟩
    case round =>
      obtain ⟨i, hi, rfl, HI⟩ := hrel
      by_cases hlt2 : i < n
      · obtain ⟨u, hu⟩ : ∃ u, t.kids[i]? = some u := ⟨_, List.getElem?_eq_getElem (by rw [← HN.out]; exact hlt2)⟩
        obtain ⟨b', off', rfl, hpk⟩ := HK.out.get hu
        rw [Nat.zero_add] at hpk
        obtain ⟨A', ca', B', cb', K', ck', hlt', q0, q1, q2, q3, q4, q5, hat'⟩ := (hpk.on HI.out.2).cells
        have HS := Lib.hid (all_step (f := (fitsB · 115)) hu)
        clear hu hpk hat'
        go_wp2_with fail
        refine (is_any u A' ca' B' cb' K' ck' 115 _).mono ?_
        rintro e w2 ⟨rfl, hb⟩
        have HB := Lib.hid ((HI.out.2.alloc HI.out.2.size _).then_ hb)
        clear hb q0 q1 q2 q3 q4 q5
        cases hf : fitsB u 115 with
        | false =>
          have HE : Hid (kidsB t.kind t.kids = false) := Lib.hid (by rw [HI.out.1, HS.out, hf]; rfl)
          clear hf
          go_wp2_with fail
          go_ret
          exact ⟨by rw [HE.out]; rfl, HB.out⟩
        | true =>
          have HE : Hid (kidsB t.kind t.kids = (t.kids.drop (i + 1)).all (fitsB · 115)) := Lib.hid (by rw [HI.out.1, HS.out, hf]; rfl)
          clear hf
          go_wp2_with fail
          exact ⟨⟨i + 1, by omega, by go_num, Lib.hid ⟨HE.out, HB.out⟩⟩, by simp [intOf]; omega⟩
      · obtain rfl : i = n := by omega
        have HE : Hid (kidsB t.kind t.kids = true) := Lib.hid (by rw [HI.out.1, HN.out, List.drop_length]; rfl)
        clear hlt2
        go_wp2_with fail
        go_ret
        exact ⟨by rw [HE.out]; rfl, HI.out.2⟩
  by_cases h2 : ∃ c, p = [c, 43]
  · obtain ⟨c, rfl⟩ := h2
    have HRR : Hid (kidsB t.kind t.kids = (decide (2 ≤ n ∧ n ≤ 17) && t.kids.all (fitsB · c))) := Lib.hid (by rw [HR.out, HN.out]; unfold kidsP; rw [if_neg (by simp)]; rfl)
    have hc2 : ((c :: [43]) == [115]) = false := by simp
    have tst : n < 2 ∨ 17 < n ∨ (2 ≤ n ∧ n ≤ 17) := by omega
    rcases tst with h | h | ⟨h, h'⟩
    · have HE : Hid (kidsB t.kind t.kids = false) := Lib.hid (by rw [HRR.out, decide_eq_false (by omega)]; rfl)
      have d1 : (n : Int) < 2 := by omega
      go_enter Tryz.func105, Tryz.ntmps105
      go_wp2_with fail
      refine (HPAT.out _).mono ?_
      rintro e w' ⟨rfl, rfl⟩
      go_wp2_with fail
      go_ret
      exact ⟨by rw [HE.out]; rfl, Below.refl _ _⟩
    · have HE : Hid (kidsB t.kind t.kids = false) := Lib.hid (by rw [HRR.out, decide_eq_false (by omega)]; rfl)
      have d1 : ¬ (n : Int) < 2 := by omega
      have d2 : (17 : Int) < n := by omega
      go_enter Tryz.func105, Tryz.ntmps105
      go_wp2_with fail
      refine (HPAT.out _).mono ?_
      rintro e w' ⟨rfl, rfl⟩
      go_wp2_with fail
      go_ret
      exact ⟨by rw [HE.out]; rfl, Below.refl _ _⟩
    have HR2 : Hid (kidsB t.kind t.kids = (t.kids.drop 0).all (fitsB · c)) := Lib.hid (by rw [HRR.out, decide_eq_true (by omega)]; rfl)
    have d1 : ¬ (n : Int) < 2 := by omega
    have d2 : ¬ (17 : Int) < n := by omega
    go_enter Tryz.func105, Tryz.ntmps105
    go_wp2_with fail
    refine (HPAT.out _).mono ?_
    rintro e w' ⟨rfl, rfl⟩
    go_wp2_with fail
    clear k0 k5 d1 d2 hc2
    go_loopw [59] (fun v W => ∃ i : Nat, i ≤ n ∧ v = .int .i64 i ∧ Hid (kidsB t.kind t.kids = (t.kids.drop i).all (fitsB · c) ∧ Below w'.heap.size w' W)) (fun v _ => n - (intOf v).toNat)
    case atStart => exact ⟨0, Nat.zero_le _, rfl, Lib.hid ⟨HR2.out, Below.refl _ _⟩⟩
    case round =>
      obtain ⟨i, hi, rfl, HI⟩ := hrel
      by_cases hlt2 : i < n
      · obtain ⟨u, hu⟩ : ∃ u, t.kids[i]? = some u := ⟨_, List.getElem?_eq_getElem (by rw [← HN.out]; exact hlt2)⟩
        obtain ⟨b', off', rfl, hpk⟩ := HK.out.get hu
        rw [Nat.zero_add] at hpk
        obtain ⟨A', ca', B', cb', K', ck', hlt', q0, q1, q2, q3, q4, q5, hat'⟩ := (hpk.on HI.out.2).cells
        have HS := Lib.hid (all_step (f := (fitsB · c)) hu)
        clear hu hpk hat'
        go_wp2_with fail
        go_region_with (go_at_call 130; refine (is_any u A' ca' B' cb' K' ck' c _).mono ?_; rintro e w2 ⟨rfl, hb⟩)
        all_goals
          have HB : Hid (Below w'.heap.size w' w2) := Lib.hid (by first | exact (HI.out.2.alloc HI.out.2.size _).drew.then_ hb | exact (HI.out.2.alloc HI.out.2.size _).then_ hb | exact (HI.out.2.alloc HI.out.2.size _).drew.drew.then_ hb)
          clear hb q0 q1 q2 q3 q4 q5
          cases hf : fitsB u c with
          | false =>
            have HE : Hid (kidsB t.kind t.kids = false) := Lib.hid (by rw [HI.out.1, HS.out, hf]; rfl)
            clear hf
            go_wp2_with fail
            go_ret
            exact ⟨by rw [HE.out]; rfl, HB.out⟩
          | true =>
            have HE : Hid (kidsB t.kind t.kids = (t.kids.drop (i + 1)).all (fitsB · c)) := Lib.hid (by rw [HI.out.1, HS.out, hf]; rfl)
            clear hf
            go_wp2_with fail
            exact ⟨⟨i + 1, by omega, by go_num, Lib.hid ⟨HE.out, HB.out⟩⟩, by simp [intOf]; omega⟩
      · obtain rfl : i = n := by omega
        have HE : Hid (kidsB t.kind t.kids = true) := Lib.hid (by rw [HI.out.1, HN.out, List.drop_length]; rfl)
        clear hlt2
        go_wp2_with fail
        go_ret
        exact ⟨by rw [HE.out]; rfl, HI.out.2⟩
  obtain ⟨s, hs⟩ : ∃ s : ByteArray, s = ⟨p.toArray⟩ := ⟨_, rfl⟩
  have hsd : s.data.toList = p := by rw [hs]
  have hss : s.size = p.length := by rw [hs]; simp [ByteArray.size]
  have HSD := Lib.hid hsd
  have HSS := Lib.hid hss
  have HGET : Hid (∀ i (h : i < s.size), p[i]? = some s[i]) := Lib.hid (fun i h => by
    subst hs
    simp only [ByteArray.size, List.size_toArray] at h
    rw [List.getElem?_eq_getElem h]
    rfl)
  have HZ : Hid (kidsB t.kind t.kids = zipFits t.kids p) := Lib.hid (by rw [HR.out]; exact kidsP_zip _ h1 (fun c e => h2 ⟨c, e⟩))
  have d0 : (s.toList == [115]) = false := str_no (by rw [hsd]; exact h1)
  have hp1 : ∀ h : 1 < s.size, s.size = 2 → ((s[1].toNat : Int) == 43) = false := fun h he => by
    refine beq_eq_false_iff_ne.2 fun e => h2 ?_
    have h43 : s[1] = 43 := UInt8.toNat_inj.1 (by have : ((43 : UInt8).toNat : Int) = 43 := rfl; omega)
    have e0 := HGET.out 0 (by omega)
    have e1 := HGET.out 1 h
    rw [hss] at he
    obtain ⟨a, b, hab⟩ := len2 he
    rw [hab] at e1
    simp only [List.getElem?_cons_succ, List.getElem?_cons_zero, Option.some.injEq] at e1
    exact ⟨a, by rw [hab, e1, h43]⟩
  have hs3 : s.size ≤ 3 := by
    rw [hss]
    exact HLEN.out
  rw [← hs] at HPAT
  clear h1 h2 hs hsd hss
  have tst : (∃ h : 1 < s.size, s.size = 2 ∧ ((s[1].toNat : Int) == 43) = false ∧ ((s.size : Int) == 2) = true) ∨ ((s.size : Int) == 2) = false := by
    by_cases h : s.size = 2
    · exact .inl ⟨by omega, h, hp1 (by omega) h, beq_yes (by omega)⟩
    · exact .inr (beq_no (by omega))
  clear hp1
  by_cases hlen : n = s.size
  · have d3 : ((n : Int) != (s.size : Int)) = false := by rw [hlen]; simp
    have HR2 : Hid (kidsB t.kind t.kids = zipFits (t.kids.drop 0) (p.drop 0)) := HZ
    have HLN := Lib.hid hlen
    have hns : n ≤ s.size := by omega
    clear hlen
    rcases tst with ⟨ht1, ht2, ht3, ht4⟩ | ht
    · have HT2 := Lib.hid ht2
      clear ht2
      go_enter Tryz.func105, Tryz.ntmps105
      go_wp2_with fail
      refine (HPAT.out _).mono ?_
      rintro e w' ⟨rfl, rfl⟩
      go_wp2_with fail
      clear k0 k5 d3 d0
      go_loopw [82] (fun v W => ∃ i : Nat, i ≤ n ∧ v = .int .i64 i ∧ Hid (kidsB t.kind t.kids = zipFits (t.kids.drop i) (p.drop i) ∧ Below w'.heap.size w' W)) (fun v _ => n - (intOf v).toNat)
      case atStart => exact ⟨0, Nat.zero_le _, rfl, Lib.hid ⟨HR2.out, Below.refl _ _⟩⟩
      case round =>
        obtain ⟨i, hi, rfl, HI⟩ := hrel
        by_cases hlt2 : i < n
        · obtain ⟨u, hu⟩ : ∃ u, t.kids[i]? = some u := ⟨_, List.getElem?_eq_getElem (by rw [← HN.out]; exact hlt2)⟩
          obtain ⟨b', off', rfl, hpk⟩ := HK.out.get hu
          rw [Nat.zero_add] at hpk
          obtain ⟨A', ca', B', cb', K', ck', hlt', q0, q1, q2, q3, q4, q5, hat'⟩ := (hpk.on HI.out.2).cells
          have his : i < s.size := by omega
          have HS := Lib.hid (zip_step hu (HGET.out i his))
          clear hu hpk hat'
          go_wp2_with fail
          go_region_with (go_at_call 130; refine (is_any u A' ca' B' cb' K' ck' s[i] _).mono ?_; rintro e w2 ⟨rfl, hb⟩)
          all_goals
            have HB : Hid (Below w'.heap.size w' w2) := Lib.hid (by first | exact (HI.out.2.alloc HI.out.2.size _).drew.then_ hb | exact (HI.out.2.alloc HI.out.2.size _).then_ hb | exact (HI.out.2.alloc HI.out.2.size _).drew.drew.then_ hb)
            clear hb q0 q1 q2 q3 q4 q5
            cases hf : fitsB u s[i] with
            | false =>
              have HE : Hid (kidsB t.kind t.kids = false) := Lib.hid (by rw [HI.out.1, HS.out, hf]; rfl)
              clear hf
              go_wp2_with fail
              go_ret
              exact ⟨by rw [HE.out]; rfl, HB.out⟩
            | true =>
              have HE : Hid (kidsB t.kind t.kids = zipFits (t.kids.drop (i + 1)) (p.drop (i + 1))) := Lib.hid (by rw [HI.out.1, HS.out, hf]; rfl)
              clear hf
              go_wp2_with fail
              exact ⟨⟨i + 1, by omega, by go_num, Lib.hid ⟨HE.out, HB.out⟩⟩, by simp [intOf]; omega⟩
        · obtain rfl : i = n := by omega
          have HE : Hid (kidsB t.kind t.kids = true) := Lib.hid (by rw [HI.out.1, HN.out, List.drop_length, ← HN.out, HLN.out, HSS.out, List.drop_length]; rfl)
          clear hlt2
          go_wp2_with fail
          go_ret
          exact ⟨by rw [HE.out]; rfl, HI.out.2⟩
    · go_enter Tryz.func105, Tryz.ntmps105
      go_wp2_with fail
      refine (HPAT.out _).mono ?_
      rintro e w' ⟨rfl, rfl⟩
      go_wp2_with fail
      clear k0 k5 d3 d0
      go_loopw [82] (fun v W => ∃ i : Nat, i ≤ n ∧ v = .int .i64 i ∧ Hid (kidsB t.kind t.kids = zipFits (t.kids.drop i) (p.drop i) ∧ Below w'.heap.size w' W)) (fun v _ => n - (intOf v).toNat)
      case atStart => exact ⟨0, Nat.zero_le _, rfl, Lib.hid ⟨HR2.out, Below.refl _ _⟩⟩
      case round =>
        obtain ⟨i, hi, rfl, HI⟩ := hrel
        by_cases hlt2 : i < n
        · obtain ⟨u, hu⟩ : ∃ u, t.kids[i]? = some u := ⟨_, List.getElem?_eq_getElem (by rw [← HN.out]; exact hlt2)⟩
          obtain ⟨b', off', rfl, hpk⟩ := HK.out.get hu
          rw [Nat.zero_add] at hpk
          obtain ⟨A', ca', B', cb', K', ck', hlt', q0, q1, q2, q3, q4, q5, hat'⟩ := (hpk.on HI.out.2).cells
          have his : i < s.size := by omega
          have HS := Lib.hid (zip_step hu (HGET.out i his))
          clear hu hpk hat'
          go_wp2_with fail
          go_region_with (go_at_call 130; refine (is_any u A' ca' B' cb' K' ck' s[i] _).mono ?_; rintro e w2 ⟨rfl, hb⟩)
          all_goals
            have HB : Hid (Below w'.heap.size w' w2) := Lib.hid (by first | exact (HI.out.2.alloc HI.out.2.size _).drew.then_ hb | exact (HI.out.2.alloc HI.out.2.size _).then_ hb | exact (HI.out.2.alloc HI.out.2.size _).drew.drew.then_ hb)
            clear hb q0 q1 q2 q3 q4 q5
            cases hf : fitsB u s[i] with
            | false =>
              have HE : Hid (kidsB t.kind t.kids = false) := Lib.hid (by rw [HI.out.1, HS.out, hf]; rfl)
              clear hf
              go_wp2_with fail
              go_ret
              exact ⟨by rw [HE.out]; rfl, HB.out⟩
            | true =>
              have HE : Hid (kidsB t.kind t.kids = zipFits (t.kids.drop (i + 1)) (p.drop (i + 1))) := Lib.hid (by rw [HI.out.1, HS.out, hf]; rfl)
              clear hf
              go_wp2_with fail
              exact ⟨⟨i + 1, by omega, by go_num, Lib.hid ⟨HE.out, HB.out⟩⟩, by simp [intOf]; omega⟩
        · obtain rfl : i = n := by omega
          have HE : Hid (kidsB t.kind t.kids = true) := Lib.hid (by rw [HI.out.1, HN.out, List.drop_length, ← HN.out, HLN.out, HSS.out, List.drop_length]; rfl)
          clear hlt2
          go_wp2_with fail
          go_ret
          exact ⟨by rw [HE.out]; rfl, HI.out.2⟩
  · have d3 : ((n : Int) != (s.size : Int)) = true := by simp; omega
    have HE : Hid (kidsB t.kind t.kids = false) := Lib.hid (by rw [HZ.out, zip_len _ _ (by rw [← HN.out, ← HSS.out]; exact hlen)])
    rcases tst with ⟨ht1, ht2, ht3, ht4⟩ | ht
    · have HT2 := Lib.hid ht2
      clear ht2
      go_enter Tryz.func105, Tryz.ntmps105
      go_wp2_with fail
      refine (HPAT.out _).mono ?_
      rintro e w' ⟨rfl, rfl⟩
      go_wp2_with fail
      go_ret
      exact ⟨by rw [HE.out]; rfl, Below.refl _ _⟩
    · go_enter Tryz.func105, Tryz.ntmps105
      go_wp2_with fail
      refine (HPAT.out _).mono ?_
      rintro e w' ⟨rfl, rfl⟩
      go_wp2_with fail
      go_ret
      exact ⟨by rw [HE.out]; rfl, Below.refl _ _⟩
end Go.Proofs.YtkdejffhdhcocaaGreat
