/- The walk of TermNamed: it returns true. Condition: sizes within reach. -/
import Derived.Test.YteohoodfcgfkeaaGreatTeNt
namespace Go.Proofs.YteohoodfcgfkeaaGreat
open Go.RowKit

def tName (s : ByteArray) : Tm := .mk 2 s 0 [] [] []
/-- a noun that speaks of a name more -/
def tMore (t : Tm) (s : ByteArray) : Tm := .mk 3 ⟨#[]⟩ 0 [] [] [t, tName s]
theorem more_names (t : Tm) (s x : ByteArray) : x ∈ nmT (tMore t s) ↔ x ∈ nmT t ∨ x = s := by
  have e1 : isNm 3 = false := by decide
  have e2 : isNm 2 = true := by decide
  simp [tMore, tName, nmT, nmL, e1, e2]
theorem more_great {t : Tm} {s : ByteArray} (h : cnt t ≤ 4000) (hd : dep t < 256) : greatT (tMore t s) = false := by
  unfold greatT
  simp only [tMore, tName, cnt, cntL, dep, depL, decide_eq_false_iff_not]
  omega
theorem more_wf {t : Tm} {s : ByteArray} (h : WfT t) (hs : s.size ≤ 140737488351232) : WfT (tMore t s) := by
  simp only [tMore, tName, WfT, WfL, and_true]
  exact ⟨⟨by decide, by decide⟩, ⟨by decide, by decide⟩, fun x hx => (by cases hx), fun x hx => (by cases hx), by decide, by decide, by decide, (by show 2 * 104 ≤ 140737488351232; decide), h, ⟨by decide, by decide⟩, ⟨by decide, by decide⟩, fun x hx => (by cases hx), fun x hx => (by cases hx), hs, by decide, by decide, by decide⟩
def hasN (l : List ByteArray) (s : ByteArray) : Bool := l.any fun x => decide (x = s)
theorem hasN_iff {l : List ByteArray} {s : ByteArray} : hasN l s = true ↔ s ∈ l := by
  unfold hasN
  rw [List.any_eq_true]
  exact ⟨fun ⟨x, hx, e⟩ => (of_decide_eq_true e) ▸ hx, fun h => ⟨s, h, decide_eq_true rfl⟩⟩
theorem hasN_take {l : List ByteArray} {i : Nat} {x s : ByteArray} (h : l[i]? = some x) : hasN (l.take (i + 1)) s = (hasN (l.take i) s || decide (x = s)) := by
  unfold hasN
  rw [List.take_add_one, h, List.any_append]
  simp
/-- a noun of two kids in a new block -/
theorem two_at {w : World} {g : Nat} {x y : Tm} {A B K A' B' K' : Option Addr} {ca cb ck ca' cb' ck' : Nat} (k : Int) (hx : TmAt w x A B K) (hy : TmAt w y A' B' K')
    (hg : w.heap[g]? = some (.cells (#[.int .i64 x.kind, .string x.text, .int .i64 x.n, .slice A x.sh.length ca, .slice B x.at_.length cb, .slice K x.kids.length ck, .int .i64 y.kind, .string y.text, .int .i64 y.n, .slice A' y.sh.length ca', .slice B' y.at_.length cb', .slice K' y.kids.length ck']) TTm (0, 0))) :
    TmAt w (.mk k ⟨#[]⟩ 0 [] [] [x, y]) none none (some ⟨g, 0, none⟩) := by
  refine ⟨IntsAt.nil _ _, IntsAt.nil _ _, kids_block (rs := [.mk ⟨A, x.sh.length, ca⟩ ⟨B, x.at_.length, cb⟩ ⟨K, x.kids.length, ck⟩ [], .mk ⟨A', y.sh.length, ca'⟩ ⟨B', y.at_.length, cb'⟩ ⟨K', y.kids.length, ck'⟩ []]) hg rfl fun i t r ht hr => ?_⟩
  match i, ht, hr with
  | 0, ht, hr =>
    obtain rfl := Option.some.inj ht
    obtain rfl := Option.some.inj hr
    exact ⟨hx, rfl, rfl, rfl⟩
  | 1, ht, hr =>
    obtain rfl := Option.some.inj ht
    obtain rfl := Option.some.inj hr
    exact ⟨hy, rfl, rfl, rfl⟩
set_option maxRecDepth 100000 in
set_option maxHeartbeats 16000000 in
theorem termNamed_any (t : Tm) (A : Option Addr) (ca : Nat) (B : Option Addr) (cb : Nat) (K : Option Addr) (ck : Nat) (name : ByteArray) (w : World) (hat : TmAt w t A B K) (hwf : WfT t) (hname : name.size ≤ 140737488351232) :
    Calls Tryz.prog 5 #[tmVal t A ca B cb K ck, .string name] w fun e w' => e = .returned (.bool true) ∧ Below w.heap.size w w' := by
  obtain ⟨W1, hW1⟩ : ∃ W1, W1 = w.alloc (.cells (tmCells t A ca B cb K ck) TTm) := ⟨_, rfl⟩
  have hb1 : Below w.heap.size w W1 := by rw [hW1]; exact (Below.refl _ _).alloc (Nat.le_refl _) _
  have hc1 : W1.heap[w.heap.size]? = some (.cells (tmCells t A ca B cb K ck) TTm (0, 0)) := by rw [hW1]; exact heap_alloc_new w _
  have HX := Lib.hid (And.intro hb1 (And.intro hc1 (hat.on hb1)))
  have HWF := Lib.hid (And.intro hwf hname)
  have HW1 := Lib.hid hW1
  have HK : Hid (∀ W, Below W1.heap.size W1 W → W.cell? ⟨w.heap.size, 0, none⟩ = some (.int .i64 t.kind) ∧ W.cell? ⟨w.heap.size, 1, none⟩ = some (.string t.text) ∧ W.cell? ⟨w.heap.size, 2, none⟩ = some (.int .i64 t.n) ∧ W.cell? ⟨w.heap.size, 3, none⟩ = some (.slice A t.sh.length ca) ∧ W.cell? ⟨w.heap.size, 4, none⟩ = some (.slice B t.at_.length cb) ∧ W.cell? ⟨w.heap.size, 5, none⟩ = some (.slice K t.kids.length ck)) := Lib.hid fun W h => by
    have hh := (h.block _ (heap_lt HX.out.2.1)).trans HX.out.2.1
    exact ⟨cell_at hh rfl, cell_at hh rfl, cell_at hh rfl, cell_at hh rfl, cell_at hh rfl, cell_at hh rfl⟩
  clear hat hwf hb1 hc1 hW1 hname
  go_enter Tryz.func5, Tryz.ntmps5
  go_wp2_with fail
  rw [← HW1.out]
  refine (begun_any W1).mono ?_
  rintro e w2 ⟨rfl, hb2⟩
  have HB2 := Lib.hid hb2
  obtain ⟨q0, q1, q2, q3, q4, q5⟩ := HK.out w2 hb2
  clear hb2
  go_wp2_with fail
  refine (names_any t A ca B cb K ck w2 (HX.out.2.2.on HB2.out) HWF.out.1).mono ?_
  rintro e w3 hnm
  have HNM := Lib.hid hnm
  clear hnm q0 q1 q2 q3 q4 q5
  by_cases hg : greatT t = true
  · rcases HNM.out with ⟨_, rfl, hb3⟩ | ⟨h0, _⟩
    · have HB3 := Lib.hid (HB2.out.then_ hb3)
      have HSZ : Hid (sizeT t = (4097, 257)) := Lib.hid (by unfold sizeT; rw [if_pos hg])
      clear hb3 hg HNM
      obtain ⟨q0, q1, q2, q3, q4, q5⟩ := HK.out w3 HB3.out
      go_wp2_with fail
      refine (size_any t A ca B cb K ck w3 (HX.out.2.2.on HB3.out) HWF.out.1).mono ?_
      rintro e w4 ⟨rfl, hb4⟩
      rw [HSZ.out]
      clear q0 q1 q2 q3 q4 q5
      go_wp2_with fail
      go_ret
      exact ⟨rfl, HX.out.1.then_ (HB3.out.then_ hb4)⟩
    · rw [hg] at h0; cases h0
  · have hg : greatT t = false := by simpa using hg
    rcases HNM.out with ⟨h0, _⟩ | ⟨_, g, cap, l, rfl, hrise, hmem, hlen, hrow, hb3⟩
    · rw [hg] at h0; cases h0
    obtain ⟨hsz, hcn, hdp⟩ := size_small hg
    have HSZ := Lib.hid hsz
    have HB3 := Lib.hid (HB2.out.then_ hb3)
    have HL := Lib.hid (And.intro hrise (And.intro hmem (strs_row hrow)))
    obtain ⟨n, hn⟩ : ∃ n, n = l.length := ⟨_, rfl⟩
    have HN := Lib.hid hn
    rw [← hn] at hlen ⊢
    clear hsz hb3 hg hrise hmem hrow hn HNM
    obtain ⟨q0, q1, q2, q3, q4, q5⟩ := HK.out w3 HB3.out
    go_wp2_with fail
    refine (size_any t A ca B cb K ck w3 (HX.out.2.2.on HB3.out) HWF.out.1).mono ?_
    rintro e w4 ⟨rfl, hb4⟩
    rw [HSZ.out]
    have HB4 := Lib.hid (HB3.out.then_ hb4)
    have HL4 := Lib.hid (HL.out.2.2.on hb4)
    clear q0 q1 q2 q3 q4 q5 hb4
    by_cases h4 : (4000 : Int) < cnt t
    · have h5 : (cnt t : Int) ≤ 4096 := by omega
      go_wp2_with fail
      go_ret
      exact ⟨rfl, HX.out.1.then_ HB4.out⟩
    · have h5 : cnt t ≤ 4000 := by omega
      go_wp2_with fail
      go_loopw [8, 9] (fun v8 v9 W => ∃ i : Nat, i ≤ n ∧ v9 = .int .i64 i ∧ (∃ b : Bool, v8 = .bool b ∧ Hid (b = hasN (l.take i) name)) ∧ Hid (∃ q, W = w4.drewN q)) (fun _ v9 _ => n - (intOf v9).toNat)
      case atStart => exact ⟨0, Nat.zero_le _, rfl, ⟨false, rfl, Lib.hid rfl⟩, Lib.hid ⟨0, rfl⟩⟩
      case round =>
        obtain ⟨i, hi, rfl, ⟨inn, rfl, HIN⟩, HI⟩ := hrel
        by_cases hlt : i < n
        · obtain ⟨x, hx⟩ : ∃ x, l[i]? = some x := ⟨_, List.getElem?_eq_getElem (by rw [← HN.out]; exact hlt)⟩
          obtain ⟨b1, o1, hge, l1, c1⟩ := HL4.out.on (drew_below HI.out) i x hx
          obtain ⟨rfl, rfl⟩ : g = b1 ∧ 0 = o1 := by simpa using hge
          rw [Nat.zero_add] at c1
          have q1 : (0 : Int) ≤ (i : Int) := by omega
          have q2 : (i : Int) < (n : Int) := by omega
          have HM2 := Lib.hid (hasN_take (s := name) hx)
          have pv : i = 0 ∨ ∃ y, 0 < i ∧ Hid (l[i - 1]? = some y) := by
            rcases Nat.eq_zero_or_pos i with h | h
            · exact .inl h
            · exact .inr ⟨_, h, Lib.hid (List.getElem?_eq_getElem (by rw [← HN.out]; omega))⟩
          have nm : (∃ b2 : Bool, Hid (b2 = hasN (l.take (i + 1)) name) ∧ (inn = true ∧ b2 = true ∨ (inn = false ∧ b2 = true ∧ (x.toList == name.toList) = true) ∨ (inn = false ∧ b2 = false ∧ (x.toList == name.toList) = false))) := by
            cases inn with
            | true => exact ⟨true, Lib.hid (by rw [HM2.out, ← HIN.out]; rfl), .inl ⟨rfl, rfl⟩⟩
            | false =>
              by_cases hxn : x = name
              · exact ⟨true, Lib.hid (by rw [HM2.out, ← HIN.out, decide_eq_true hxn]; rfl), .inr (.inl ⟨rfl, rfl, str_beq hxn⟩)⟩
              · exact ⟨false, Lib.hid (by rw [HM2.out, ← HIN.out, decide_eq_false hxn]; rfl), .inr (.inr ⟨rfl, rfl, str_bne hxn⟩)⟩
          obtain ⟨b2, HB, nm⟩ := nm
          clear hge
          rcases pv with hz | ⟨y, hz, HY⟩
          · have z1 : decide ((0 : Int) < (i : Int)) = false := by simp; omega
            have z2 : decide (0 < i) = false := by simp; omega
            clear hz hx
            rcases nm with ⟨rfl, rfl⟩ | ⟨rfl, rfl, d1⟩ | ⟨rfl, rfl, d1⟩
            all_goals
              go_wp2_with fail
              go_quiet (fail)
              go_wp2_with fail
              exact ⟨⟨i + 1, by omega, by go_num, ⟨_, rfl, HB⟩, Lib.hid (drew_more HI.out _)⟩, by simp [intOf]; omega⟩
          · have z1 : decide ((0 : Int) < (i : Int)) = true := by simp; omega
            have z2 : decide (0 < i) = true := by simp; omega
            obtain ⟨b1, o1, hge, l2, c2⟩ := HL4.out.on (drew_below HI.out) (i - 1) y HY.out
            obtain ⟨rfl, rfl⟩ : g = b1 ∧ 0 = o1 := by simpa using hge
            rw [Nat.zero_add] at c2
            have q3 : (0 : Int) ≤ (i : Int) - 1 := by omega
            have q4 : (1 : Int) ≤ (i : Int) := by omega
            have q5 : (i : Int) - 1 < (n : Int) := by omega
            have q6 : ((i : Int) - 1).toNat = i - 1 := by omega
            have less := str_less (rise_get HL.out.1 (i := i - 1) (j := i) (by omega) HY.out hx)
            clear hz hx hge
            rcases nm with ⟨rfl, rfl⟩ | ⟨rfl, rfl, d1⟩ | ⟨rfl, rfl, d1⟩
            all_goals
              go_wp2_with fail
              go_quiet (fail)
              go_wp2_with fail
              exact ⟨⟨i + 1, by omega, by go_num, ⟨_, rfl, HB⟩, Lib.hid (drew_more HI.out _)⟩, by simp [intOf]; omega⟩
        · obtain rfl : i = n := by omega
          have HIN2 : Hid (inn = hasN l name) := Lib.hid (by rw [HIN.out, List.take_of_length_le (by rw [← HN.out]; exact Nat.le_refl _)])
          have HBR := Lib.hid (HB4.out.then_ (drew_below HI.out))
          have HLR := Lib.hid (HL4.out.on (drew_below HI.out))
          clear HI HIN hlt hi
          obtain ⟨q0, q1, q2, q3, q4, q5⟩ := HK.out _ HBR.out
          go_wp2_with fail
          refine (size_any t A ca B cb K ck _ (HX.out.2.2.on HBR.out) HWF.out.1).mono ?_
          rintro e w5 ⟨rfl, hb5⟩
          rw [HSZ.out]
          have HB5 := Lib.hid (HBR.out.then_ hb5)
          have HL5 := Lib.hid (HLR.out.on hb5)
          clear hb5 q0 q1 q2 q3 q4 q5
          by_cases h6 : (256 : Int) ≤ dep t
          · go_wp2_with fail
            go_ret
            exact ⟨rfl, HX.out.1.then_ HB5.out⟩
          · have h7 : dep t < 256 := by omega
            have HGM := Lib.hid (And.intro (more_great (s := name) h5 h7) (more_wf HWF.out.1 HWF.out.2))
            obtain ⟨q0, q1, q2, q3, q4, q5⟩ := HK.out w5 HB5.out
            go_wp2_with fail
            obtain ⟨W6, hW6⟩ : ∃ W6, W6 = w5.alloc (.cells #[.int .i64 t.kind, .string t.text, .int .i64 t.n, .slice A t.sh.length ca, .slice B t.at_.length cb, .slice K t.kids.length ck, .int .i64 2, .string name, .int .i64 0, .slice none 0 0, .slice none 0 0, .slice none 0 0] TTm) := ⟨_, rfl⟩
            have hb6 : Below w5.heap.size w5 W6 := by rw [hW6]; exact (Below.refl _ _).alloc (Nat.le_refl _) _
            have hx6 : W6.heap[w5.heap.size]? = some (.cells #[.int .i64 t.kind, .string t.text, .int .i64 t.n, .slice A t.sh.length ca, .slice B t.at_.length cb, .slice K t.kids.length ck, .int .i64 2, .string name, .int .i64 0, .slice none 0 0, .slice none 0 0, .slice none 0 0] TTm (0, 0)) := by rw [hW6]; exact heap_alloc_new w5 _
            have ha6 : TmAt W6 (tMore t name) none none (some ⟨w5.heap.size, 0, none⟩) := two_at (y := tName name) (A' := none) (B' := none) (K' := none) (ca' := 0) (cb' := 0) (ck' := 0) 3 (HX.out.2.2.on (HB5.out.then_ hb6)) ⟨IntsAt.nil _ _, IntsAt.nil _ _, KidsAt.nil _ _⟩ hx6
            have H6 := Lib.hid (And.intro (HB5.out.then_ hb6) ha6)
            have HL6 := Lib.hid (HL5.out.on hb6)
            have HW6 := Lib.hid hW6
            clear hb6 hx6 ha6 hW6 q0 q1 q2 q3 q4 q5
            rw [← HW6.out]
            refine (names_any (tMore t name) none 0 none 0 (some ⟨w5.heap.size, 0, none⟩) 2 W6 H6.out.2 HGM.out.2).mono ?_
            rintro e w7 hnm
            rcases hnm with ⟨h0, _⟩ | ⟨_, g2, cap2, m, rfl, hrise2, hmem2, hlen2, hrow2, hb7⟩
            · rw [HGM.out.1] at h0; cases h0
            have HM := Lib.hid (And.intro hrise2 (And.intro (fun x => (hmem2 x).trans ((more_names t name x).trans (or_congr_left (HL.out.2.1 x).symm))) (strs_row hrow2)))
            have HB7 := Lib.hid (H6.out.1.then_ hb7)
            have HL7 := Lib.hid (HL6.out.on hb7)
            obtain ⟨k, hk⟩ : ∃ k, k = m.length := ⟨_, rfl⟩
            have HKM := Lib.hid hk
            rw [← hk] at hlen2 ⊢
            clear hrise2 hmem2 hrow2 hb7 hk
            cases inn with
            | true =>
              have HE : Hid (l = m) := Lib.hid (rise_has HL.out.1 HM.out.1 HM.out.2.1 (hasN_iff.1 HIN2.out.symm))
              have HT := texts_any l m (some ⟨g, 0, none⟩) cap (some ⟨g2, 0, none⟩) cap2 w7 HL7.out HM.out.2.2 (by rw [← HN.out]; omega) (by rw [← HKM.out]; omega)
              rw [← HN.out, ← HKM.out, decide_eq_true HE.out] at HT
              have HT2 := Lib.hid HT
              clear HT
              go_wp2_with fail
              refine HT2.out.mono ?_
              rintro e w8 ⟨rfl, hw8⟩
              have HW8 := Lib.hid hw8
              clear hw8
              go_wp2_with fail
              go_ret
              exact ⟨rfl, HX.out.1.then_ (HB7.out.then_ (drew_below HW8.out))⟩
            | false =>
              have hnot : name ∉ l := fun h => by have := hasN_iff.2 h; rw [← HIN2.out] at this; cases this
              have HF := Lib.hid (rise_more HL.out.1 HM.out.1 HM.out.2.1 hnot)
              have d0 : ((k : Int) != (i : Int) + 1) = false := by have := HF.out.2; rw [← HN.out, ← HKM.out] at this; simp; omega
              clear hnot
              go_wp2_with fail
              go_loopw [13, 14] (fun v13 v14 W => ∃ j a : Nat, j ≤ k ∧ v14 = .int .i64 j ∧ v13 = .int .i64 a ∧ a ≤ j ∧ Hid (a = ((m.take j).filter fun x => !decide (x = name)).length ∧ ∃ q, W = w7.drewN q)) (fun _ v14 _ => k - (intOf v14).toNat)
              case atStart => exact ⟨0, 0, Nat.zero_le _, rfl, rfl, Nat.le_refl _, Lib.hid ⟨rfl, 0, rfl⟩⟩
              case round =>
                obtain ⟨j, a, hj, rfl, rfl, haj, HI⟩ := hrel
                by_cases hlt : j < k
                · obtain ⟨y, hy⟩ : ∃ y, m[j]? = some y := ⟨_, List.getElem?_eq_getElem (by rw [← HKM.out]; exact hlt)⟩
                  obtain ⟨b1, o1, hge, l1, c1⟩ := HM.out.2.2.on (drew_below HI.out.2) j y hy
                  obtain ⟨rfl, rfl⟩ : g2 = b1 ∧ 0 = o1 := by simpa using hge
                  rw [Nat.zero_add] at c1
                  have q1 : (0 : Int) ≤ (j : Int) := by omega
                  have q2 : (j : Int) < (k : Int) := by omega
                  have HY := Lib.hid hy
                  clear hge hy
                  by_cases hyn : y = name
                  · have d1 := str_beq hyn
                    have HA : Hid (a = ((m.take (j + 1)).filter fun x => !decide (x = name)).length) := Lib.hid (by rw [filter_take HY.out, HI.out.1]; simp [hyn])
                    clear hyn
                    go_wp2_with fail
                    exact ⟨⟨j + 1, a, by omega, by go_num, rfl, by omega, Lib.hid ⟨HA.out, HI.out.2⟩⟩, by simp [intOf]; omega⟩
                  · have d1 := str_bne hyn
                    have hla : l[a]? = some y := by
                      have := filter_at (p := fun x => !decide (x = name)) HY.out (by simp [hyn])
                      rw [HF.out.1, ← HI.out.1] at this
                      exact this
                    have hai := (List.getElem?_eq_some_iff.1 hla).1
                    rw [← HN.out] at hai
                    obtain ⟨b1, o1, hge, l2, c2⟩ := HL7.out.on (drew_below HI.out.2) a y hla
                    obtain ⟨rfl, rfl⟩ : g = b1 ∧ 0 = o1 := by simpa using hge
                    rw [Nat.zero_add] at c2
                    have HA : Hid (a + 1 = ((m.take (j + 1)).filter fun x => !decide (x = name)).length) := Lib.hid (by rw [filter_take HY.out, HI.out.1]; simp [hyn])
                    have z1 : decide ((i : Int) ≤ (a : Int)) = false := by simp; omega
                    have z2 : decide (i ≤ a) = false := by simp; omega
                    have q3 : (0 : Int) ≤ (a : Int) := by omega
                    have q4 : (a : Int) < (i : Int) := by omega
                    have d2 := str_beq (rfl : y = y)
                    have d3 := str_nneq (rfl : y = y)
                    clear hyn hge hla
                    go_wp2_with fail
                    go_quiet (fail)
                    go_wp2_with fail
                    exact ⟨⟨j + 1, a + 1, by omega, by go_num, by go_num, by omega, Lib.hid ⟨HA.out, drew_more HI.out.2 _⟩⟩, by simp [intOf]; omega⟩
                · obtain rfl : j = k := by omega
                  have d1 : ((a : Int) == (i : Int)) = true := by
                    have h1 := HI.out.1
                    rw [List.take_of_length_le (by rw [← HKM.out]; exact Nat.le_refl _), HF.out.1, ← HN.out] at h1
                    exact beq_yes (by omega)
                  have HD := Lib.hid HI.out.2
                  clear hlt
                  go_wp2_with fail
                  go_ret
                  exact ⟨rfl, HX.out.1.then_ (HB7.out.then_ (drew_below HD.out))⟩
end Go.Proofs.YteohoodfcgfkeaaGreat
