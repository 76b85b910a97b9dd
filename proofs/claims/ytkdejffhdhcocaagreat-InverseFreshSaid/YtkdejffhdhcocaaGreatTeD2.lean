/- abacusref9: Spellings, Of. No condition. · abacusref13: text. No condition. · abacusref13: right. No condition. · abacusref13: May. No condition. · abacusref13: Size. No condition. · abacusref3: before, Compare, Same. No condition. · abacusref3: Same. No condition. · abacusref13: Copy. Condition: sizes within reach. -/
import Derived.Test.YtkdejffhdhcocaaGreatTeD1
import Derived.Test.YtkdejffhdhcocaaGreatTeNt
import Derived.Test.YtkdejffhdhcocaaGreatTeLb
namespace Go.Proofs.YtkdejffhdhcocaaGreat
open Go.RowKit

set_option maxRecDepth 100000 in
set_option maxHeartbeats 8000000 in
theorem spellings_any (w : World) : Calls Tryz.prog 148 #[] w fun e w' => e = .returned (.slice (some ⟨w.heap.size, 0, none⟩) 43 43) ∧ Below w.heap.size w w' ∧ w'.heap[w.heap.size]? = some (.cells ⟨spells.map fun c => .string ⟨c.toArray⟩⟩ 9 (0, 0)) := by
  go_enter Tryz.func148, Tryz.ntmps148
  go_wp2_with fail
  go_ret
  refine ⟨rfl, (Below.refl _ _).alloc (Nat.le_refl _) _, ?_⟩
  exact heap_alloc_new _ _
theorem spells_len : spells.length = 43 := rfl
theorem opIn_step {l : List (List UInt8)} {i k : Nat} {c s : List UInt8} (h : l[i]? = some c) : opIn (l.drop i) k s = if c = s then k else opIn (l.drop (i + 1)) (k + 1) s := by
  obtain ⟨hl, rfl⟩ := List.getElem?_eq_some_iff.1 h
  rw [List.drop_eq_getElem_cons hl, opIn]
set_option maxRecDepth 100000 in
set_option maxHeartbeats 8000000 in
theorem of9_any (s : ByteArray) (w : World) : Calls Tryz.prog 133 #[.string s] w fun e w' => e = .returned (.tuple #[.int .i64 (opOf s.data.toList : Nat), .bool (decide (0 < opOf s.data.toList))]) ∧ Below w.heap.size w w' := by
  obtain ⟨m, hm⟩ : ∃ m, m = opOf s.data.toList := ⟨_, rfl⟩
  have HM := Lib.hid hm
  rw [← hm]
  clear hm
  go_enter Tryz.func133, Tryz.ntmps133
  go_wp2_with fail
  refine (spellings_any _).mono ?_
  rintro e w' ⟨rfl, hb, hh⟩
  have HB := Lib.hid hb
  have HC : Hid (∀ i c, spells[i]? = some c → w'.cell? ⟨w.heap.size, i, none⟩ = some (.string ⟨c.toArray⟩)) := Lib.hid (fun i c h => cell_at hh (by simp [h]))
  clear hb hh
  go_wp2_with fail
  go_loop [5] (fun v => ∃ i : Nat, i ≤ 43 ∧ v = .int .i64 i ∧ Hid (m = opIn (spells.drop i) (i + 1) s.data.toList)) (fun v => 43 - (intOf v).toNat)
  case atStart => exact ⟨0, by omega, rfl, HM⟩
  case round =>
    obtain ⟨i, hi, rfl, HI⟩ := hrel
    by_cases hlt : i < 43
    · obtain ⟨c, hc⟩ : ∃ c, spells[i]? = some c := ⟨_, List.getElem?_eq_getElem (by rw [spells_len]; exact hlt)⟩
      have HS := Lib.hid (opIn_step (k := i + 1) (s := s.data.toList) hc)
      obtain ⟨sp, hsp⟩ : ∃ sp : ByteArray, sp = ⟨c.toArray⟩ := ⟨_, rfl⟩
      have hcell : w'.cell? ⟨w.heap.size, i, none⟩ = some (.string sp) := by rw [hsp]; exact HC.out i c hc
      have HSP : Hid (c = sp.data.toList) := Lib.hid (by rw [hsp])
      clear hc hsp
      by_cases he : sp = s
      · have d := str_beq he
        have HE : Hid (m = i + 1) := Lib.hid (by rw [HI.out, HS.out, if_pos (by rw [HSP.out, he])])
        clear he
        go_wp2_with fail
        go_ret2
        exact ⟨by rw [HE.out]; rfl, HB.out⟩
      · have d := str_bne he
        have HE : Hid (m = opIn (spells.drop (i + 1)) (i + 1 + 1) s.data.toList) := Lib.hid (by
          rw [HI.out, HS.out, if_neg]
          rw [HSP.out]
          intro q
          exact he (by cases sp; cases s; simp at q; subst q; rfl))
        clear he
        go_wp2_with fail
        exact ⟨⟨i + 1, by omega, by go_num, HE⟩, by simp [intOf]; omega⟩
    · obtain rfl : i = 43 := by omega
      have HE : Hid (m = 0) := Lib.hid (by rw [HI.out]; rfl)
      go_wp2_with fail
      go_ret2
      exact ⟨by rw [HE.out]; rfl, HB.out⟩
end Go.Proofs.YtkdejffhdhcocaaGreat

namespace Go.Proofs.YtkdejffhdhcocaaGreat
open Go.RowKit

/-- is the Text as it should be? -/
def textD (k : Int) (s : List UInt8) (bare : Bool) : Bool := if k = 2 ∨ k = 11 then isName s 97 122 && !(bare && s == [120]) else if k = 20 then decide (0 < opOf s) else if k = 21 then isName s 65 90 else s.isEmpty
abbrev ndVal (t : Tm) (A : Option Addr) (ca : Nat) (B : Option Addr) (cb : Nat) (K : Option Addr) (ck : Nat) (d : Int) (bare : Bool) : Value := .agg #[.int .i64 t.kind, .string t.text, .int .i64 t.n, .slice A t.sh.length ca, .slice B t.at_.length cb, .slice K t.kids.length ck, .int .i64 d, .bool bare]
set_option maxRecDepth 100000 in
set_option maxHeartbeats 8000000 in
theorem dtext_any (k : Int) (s : ByteArray) (nn : Int) (A : Option Addr) (n ca : Nat) (B : Option Addr) (m cb : Nat) (K : Option Addr) (kl ck : Nat) (d : Int) (bare : Bool) (w : World) (hs : s.size ≤ 140737488351232) :
    Calls Tryz.prog 110 #[.agg #[.int .i64 k, .string s, .int .i64 nn, .slice A n ca, .slice B m cb, .slice K kl ck, .int .i64 d, .bool bare]] w fun e w' => e = .returned (.bool (textD k s.data.toList bare)) ∧ Below w.heap.size w w' := by
  have HBX := Lib.hid (fun o => (Below.refl w.heap.size w).alloc (Nat.le_refl _) o)
  obtain ⟨R, hR⟩ : ∃ R, R = textD k s.data.toList bare := ⟨_, rfl⟩
  rw [← hR]
  by_cases h2 : k = 2
  · have e2 := beq_yes h2
    have HR : Hid (R = (isName s.data.toList 97 122 && !(bare && s.data.toList == [120]))) := Lib.hid (by rw [hR, textD, if_pos (.inl h2)])
    clear hR h2
    go_enter Tryz.func110, Tryz.ntmps110
    go_wp2_with fail
    refine (dname_any s 97 122 _ hs rfl).mono ?_
    rintro e w' ⟨rfl, rfl⟩
    cases hn : isName s.data.toList 97 122 with
    | false =>
      have HE : Hid (R = false) := Lib.hid (by rw [HR.out, hn]; rfl)
      clear hn
      go_wp2_with fail
      go_ret
      exact ⟨by rw [HE.out]; rfl, HBX.out _⟩
    | true =>
      cases bare with
      | false =>
        have HE : Hid (R = true) := Lib.hid (by rw [HR.out, hn]; rfl)
        clear hn
        go_wp2_with fail
        go_ret
        exact ⟨by rw [HE.out]; rfl, HBX.out _⟩
      | true =>
        by_cases hx : s.data.toList = [120]
        · have dx : (s.toList == [120]) = true := str_yes hx
          have HE : Hid (R = false) := Lib.hid (by rw [HR.out, hn, hx]; rfl)
          clear hn hx
          go_wp2_with fail
          go_ret
          exact ⟨by rw [HE.out]; rfl, HBX.out _⟩
        · have dx : (s.toList == [120]) = false := str_no hx
          have HE : Hid (R = true) := Lib.hid (by rw [HR.out, hn, show (s.data.toList == [120]) = false from beq_eq_false_iff_ne.2 hx]; rfl)
          clear hn hx
          go_wp2_with fail
          go_ret
          exact ⟨by rw [HE.out]; rfl, HBX.out _⟩
  have e2 := beq_no h2
  by_cases h11 : k = 11
  · have e11 := beq_yes h11
    have HR : Hid (R = (isName s.data.toList 97 122 && !(bare && s.data.toList == [120]))) := Lib.hid (by rw [hR, textD, if_pos (.inr h11)])
    clear hR h2 h11
    go_enter Tryz.func110, Tryz.ntmps110
    go_wp2_with fail
    refine (dname_any s 97 122 _ hs rfl).mono ?_
    rintro e w' ⟨rfl, rfl⟩
    cases hn : isName s.data.toList 97 122 with
    | false =>
      have HE : Hid (R = false) := Lib.hid (by rw [HR.out, hn]; rfl)
      clear hn
      go_wp2_with fail
      go_ret
      exact ⟨by rw [HE.out]; rfl, HBX.out _⟩
    | true =>
      cases bare with
      | false =>
        have HE : Hid (R = true) := Lib.hid (by rw [HR.out, hn]; rfl)
        clear hn
        go_wp2_with fail
        go_ret
        exact ⟨by rw [HE.out]; rfl, HBX.out _⟩
      | true =>
        by_cases hx : s.data.toList = [120]
        · have dx : (s.toList == [120]) = true := str_yes hx
          have HE : Hid (R = false) := Lib.hid (by rw [HR.out, hn, hx]; rfl)
          clear hn hx
          go_wp2_with fail
          go_ret
          exact ⟨by rw [HE.out]; rfl, HBX.out _⟩
        · have dx : (s.toList == [120]) = false := str_no hx
          have HE : Hid (R = true) := Lib.hid (by rw [HR.out, hn, show (s.data.toList == [120]) = false from beq_eq_false_iff_ne.2 hx]; rfl)
          clear hn hx
          go_wp2_with fail
          go_ret
          exact ⟨by rw [HE.out]; rfl, HBX.out _⟩
  have e11 := beq_no h11
  by_cases h21 : k = 21
  · have e21 := beq_yes h21
    have HR : Hid (R = isName s.data.toList 65 90) := Lib.hid (by rw [hR, textD, if_neg (by omega), if_neg (by omega), if_pos h21])
    clear hR h2 h11 h21
    go_enter Tryz.func110, Tryz.ntmps110
    go_wp2_with fail
    refine (dname_any s 65 90 _ hs rfl).mono ?_
    rintro e w' ⟨rfl, rfl⟩
    go_wp2_with fail
    go_ret
    exact ⟨by rw [HR.out]; rfl, HBX.out _⟩
  have e21 := beq_no h21
  by_cases h20 : k = 20
  · have e20 := beq_yes h20
    have HR : Hid (R = decide (0 < opOf s.data.toList)) := Lib.hid (by rw [hR, textD, if_neg (by omega), if_pos h20])
    clear hR h2 h11 h21 h20
    go_enter Tryz.func110, Tryz.ntmps110
    go_wp2_with fail
    refine (of9_any s _).mono ?_
    rintro e w' ⟨rfl, hb⟩
    have HB := Lib.hid ((HBX.out _).then_ hb)
    clear hb
    go_wp2_with fail
    go_ret
    exact ⟨by rw [HR.out]; rfl, HB.out⟩
  have e20 := beq_no h20
  have HR : Hid (R = s.data.toList.isEmpty) := Lib.hid (by rw [hR, textD, if_neg (by omega), if_neg (by omega), if_neg (by omega)])
  clear hR h2 h11 h21 h20
  have he : s.data.toList = [] ∨ s.data.toList ≠ [] := Classical.em _
  rcases he with he | he
  · have dx : (s.toList == []) = true := str_yes he
    have HE : Hid (R = true) := Lib.hid (by rw [HR.out]; rw [he]; rfl)
    clear he
    go_enter Tryz.func110, Tryz.ntmps110
    go_wp2_with fail
    go_ret
    exact ⟨by rw [HE.out]; rfl, HBX.out _⟩
  · have dx : (s.toList == []) = false := str_no he
    have HE : Hid (R = false) := Lib.hid (by rw [HR.out]; cases hq : s.data.toList with | nil => exact absurd hq he | cons a r => rfl)
    clear he
    go_enter Tryz.func110, Tryz.ntmps110
    go_wp2_with fail
    go_ret
    exact ⟨by rw [HE.out]; rfl, HBX.out _⟩
end Go.Proofs.YtkdejffhdhcocaaGreat

namespace Go.Proofs.YtkdejffhdhcocaaGreat
open Go.RowKit

theorem textD_eq (k : Int) (s : List UInt8) (bare : Bool) : textD k s bare = (textB k s && !(bare && (decide (k = 2) || decide (k = 11)) && s == [120])) := by
  unfold textD textB
  by_cases h2 : k = 2
  · rw [if_pos (.inl h2), if_pos (.inl h2), decide_eq_true h2]; simp
  by_cases h11 : k = 11
  · rw [if_pos (.inr h11), if_pos (.inr h11), decide_eq_true h11]; simp
  have hn : ¬ (k = 2 ∨ k = 11) := by omega
  rw [if_neg hn, if_neg hn, decide_eq_false h2, decide_eq_false h11]
  simp
theorem node_eq (t : Tm) (bare : Bool) : nodeB t bare = (!decide (cls t.kind = 0) && (dkidsP (dpatOf t.kind) t.kids && (textD t.kind t.text.data.toList bare && (numB t.kind t.sh t.at_ && nB t.kind t.n)))) := by
  unfold nodeB fieldsB
  by_cases h : cls t.kind = 0
  · rw [decide_eq_true h]; rfl
  · rw [decide_eq_false h, dkidsP_eq _ _ h, textD_eq]
    cases kidsB t.kind t.kids <;> cases textB t.kind t.text.data.toList <;> cases nB t.kind t.n <;> cases numB t.kind t.sh t.at_ <;> cases (bare && (decide (t.kind = 2) || decide (t.kind = 11)) && t.text.data.toList == [120]) <;> rfl
theorem box_cell {w w2 : World} {cs : Array Value} {ty : TypeId} {j : Nat} {v : Value} (hb : Below (w.alloc (.cells cs ty (0, 0))).heap.size (w.alloc (.cells cs ty (0, 0))) w2) (hv : cs[j]? = some v) : w2.cell? ⟨w.heap.size, j, none⟩ = some v :=
  (hb.cell (p := ⟨w.heap.size, j, none⟩) (by simp)).trans (cell_at (heap_alloc_new _ _) hv)
set_option maxRecDepth 100000 in
set_option maxHeartbeats 8000000 in
theorem right_any (t : Tm) (A : Option Addr) (ca : Nat) (B : Option Addr) (cb : Nat) (K : Option Addr) (ck : Nat) (d : Int) (bare : Bool) (w : World) (hat : TmAt w t A B K) (hwf : WfT t) :
    Calls Tryz.prog 75 #[ndVal t A ca B cb K ck d bare] w fun e w' => e = .returned (.bool (nodeB t bare)) ∧ Below w.heap.size w w' := by
  have HNE := Lib.hid (node_eq t bare)
  obtain ⟨R, hR⟩ : ∃ R, R = nodeB t bare := ⟨_, rfl⟩
  rw [← hR] at HNE ⊢
  clear hR
  obtain ⟨P, hP⟩ : ∃ P : ByteArray, P = ⟨(dpatOf t.kind).toArray⟩ := ⟨_, rfl⟩
  obtain ⟨kb, hkb⟩ : ∃ kb, kb = dkidsP (dpatOf t.kind) t.kids := ⟨_, rfl⟩
  obtain ⟨tb, htb⟩ : ∃ tb, tb = textD t.kind t.text.data.toList bare := ⟨_, rfl⟩
  obtain ⟨nb, hnb⟩ : ∃ nb, nb = numB t.kind t.sh t.at_ := ⟨_, rfl⟩
  have HP : Hid (∀ W, Calls Tryz.prog 108 #[.int .i64 t.kind] W fun e w' => e = .returned (.string P) ∧ w' = W) := Lib.hid (by rw [hP]; exact fun W => dkids_any _ W)
  have HALL : Hid (∀ W, Below w.heap.size w W → Calls Tryz.prog 109 #[.slice K t.kids.length ck, .string P] W fun e w' => e = .returned (.bool kb) ∧ Below W.heap.size W w') := Lib.hid (by
    rw [hP, hkb]
    exact fun W hW => dall_any t.kids _ (dpat_ok _) K ck W (hat.kids.on hW) (by have := hwf.node.kids; omega))
  have HTXT : Hid (∀ W, Calls Tryz.prog 110 #[ndVal t A ca B cb K ck d bare] W fun e w' => e = .returned (.bool tb) ∧ Below W.heap.size W w') := Lib.hid (by
    rw [htb]
    exact fun W => dtext_any _ _ _ _ _ _ _ _ _ _ _ _ _ _ W hwf.node.text)
  have HNUM : Hid (∀ W, Below w.heap.size w W → Calls Tryz.prog 111 #[tmVal t A ca B cb K ck] W fun e w' => e = .returned (.bool nb) ∧ Below W.heap.size W w') := Lib.hid (by
    rw [hnb]
    exact fun W hW => dnum_any t A ca B cb K ck W (hat.sh.on hW) (hat.at_.on hW) (by have := hwf.node.at_; omega))
  have HR : Hid (R = (!decide (cls t.kind = 0) && (kb && (tb && (nb && nB t.kind t.n))))) := Lib.hid (by rw [HNE.out, hkb, htb, hnb])
  have HPD : Hid (P.data.toList = dpatOf t.kind) := Lib.hid (by rw [hP])
  clear hP hkb htb hnb HNE hat hwf
  have HBX := Lib.hid (fun o => (Below.refl w.heap.size w).alloc (Nat.le_refl _) o)
  obtain ⟨k, hk⟩ : ∃ k, k = t.kind := ⟨_, rfl⟩
  unfold ndVal at HTXT ⊢
  unfold tmVal at HNUM
  rw [← hk] at HP HTXT HNUM HR HPD ⊢
  clear hk
  obtain ⟨s, hs⟩ : ∃ s, s = t.text := ⟨_, rfl⟩
  obtain ⟨nn, hn⟩ : ∃ n, n = t.n := ⟨_, rfl⟩
  obtain ⟨ns, hns⟩ : ∃ n, n = t.sh.length := ⟨_, rfl⟩
  obtain ⟨na, hna⟩ : ∃ n, n = t.at_.length := ⟨_, rfl⟩
  obtain ⟨nk, hnk⟩ : ∃ n, n = t.kids.length := ⟨_, rfl⟩
  rw [← hs, ← hn, ← hns, ← hna, ← hnk] at HTXT HNUM ⊢
  rw [← hnk] at HALL
  rw [← hn] at HR
  clear hs hn hns hna hnk
  by_cases h0 : cls k = 0
  · have HE : Hid (R = false) := Lib.hid (by rw [HR.out, decide_eq_true h0]; rfl)
    have d0 : (P.toList == [63]) = true := str_yes (by rw [HPD.out]; exact dpat_none k h0)
    clear h0
    go_enter Tryz.func75, Tryz.ntmps75
    go_wp2_with fail
    refine (HP.out _).mono ?_
    rintro e w' ⟨rfl, rfl⟩
    go_wp2_with fail
    go_ret
    exact ⟨by rw [HE.out]; rfl, HBX.out _⟩
  have d0 : (P.toList == [63]) = false := str_no (by rw [HPD.out]; exact fun e => by have := dpat_some k h0; rw [e] at this; simp at this)
  have HR2 : Hid (R = (kb && (tb && (nb && nB k nn)))) := Lib.hid (by rw [HR.out, decide_eq_false h0]; rfl)
  clear h0
  go_enter Tryz.func75, Tryz.ntmps75
  go_wp2_with fail
  refine (HP.out _).mono ?_
  rintro e w' ⟨rfl, rfl⟩
  go_wp2_with fail
  refine (HALL.out _ (HBX.out _)).mono ?_
  rintro e w2 ⟨rfl, hb⟩
  have HC : Hid (∀ (j : Nat) (v : Value), (#[.int .i64 k, .string s, .int .i64 nn, .slice A ns ca, .slice B na cb, .slice K nk ck, .int .i64 d, .bool bare] : Array Value)[j]? = some v → w2.cell? ⟨w.heap.size, j, none⟩ = some v) := Lib.hid fun j v hv => box_cell hb hv
  have HB := Lib.hid ((HBX.out _).then_ hb)
  have hsz : w.heap.size < w2.heap.size := Nat.lt_of_lt_of_le (by simp) hb.size
  clear hb
  cases kb with
  | false =>
    have HE : Hid (R = false) := Lib.hid (by rw [HR2.out]; rfl)
    go_wp2_with fail
    go_ret
    exact ⟨by rw [HE.out]; rfl, HB.out⟩
  | true =>
    have c0 := HC.out 0 _ rfl
    have c1 := HC.out 1 _ rfl
    have c2 := HC.out 2 _ rfl
    have c3 := HC.out 3 _ rfl
    have c4 := HC.out 4 _ rfl
    have c5 := HC.out 5 _ rfl
    have c6 := HC.out 6 _ rfl
    have c7 := HC.out 7 _ rfl
    go_wp2_with fail
    refine (HTXT.out _).mono ?_
    rintro e w3 ⟨rfl, hb⟩
    have HC3 : Hid (∀ (j : Nat) (v : Value), w2.cell? ⟨w.heap.size, j, none⟩ = some v → w3.cell? ⟨w.heap.size, j, none⟩ = some v) := Lib.hid fun j v hv => (hb.cell (p := ⟨w.heap.size, j, none⟩) hsz).trans hv
    have k0 := HC3.out 0 _ c0
    have k1 := HC3.out 1 _ c1
    have k2 := HC3.out 2 _ c2
    have k3 := HC3.out 3 _ c3
    have k4 := HC3.out 4 _ c4
    have k5 := HC3.out 5 _ c5
    have HB3 := Lib.hid (HB.out.then_ hb)
    have hsz3 : w.heap.size < w3.heap.size := Nat.lt_of_lt_of_le hsz hb.size
    clear hb c0 c1 c2 c3 c4 c5 c6 c7
    cases tb with
    | false =>
      have HE : Hid (R = false) := Lib.hid (by rw [HR2.out]; rfl)
      go_wp2_with fail
      go_ret
      exact ⟨by rw [HE.out]; rfl, HB3.out⟩
    | true =>
      go_wp2_with fail
      refine (HNUM.out _ HB3.out).mono ?_
      rintro e w4 ⟨rfl, hb⟩
      have q0 : w4.cell? ⟨w.heap.size, 0, none⟩ = _ := (hb.cell (p := ⟨w.heap.size, 0, none⟩) hsz3).trans k0
      have q2 : w4.cell? ⟨w.heap.size, 2, none⟩ = _ := (hb.cell (p := ⟨w.heap.size, 2, none⟩) hsz3).trans k2
      have HB4 := Lib.hid (HB3.out.then_ hb)
      clear hb k0 k1 k2 k3 k4 k5
      cases nb with
      | false =>
        have HE : Hid (R = false) := Lib.hid (by rw [HR2.out]; rfl)
        go_wp2_with fail
        go_ret
        exact ⟨by rw [HE.out]; rfl, HB4.out⟩
      | true =>
        have HR3 : Hid (R = nB k nn) := Lib.hid (by rw [HR2.out]; rfl)
        by_cases h23 : k = 23
        · have e23 := beq_yes h23
          by_cases h1 : nn = 1
          · have e1 := beq_yes h1
            have HE : Hid (R = true) := Lib.hid (by rw [HR3.out, nB, if_pos h23, decide_eq_true (by omega)])
            clear h23 h1
            go_wp2_with fail
            go_ret
            exact ⟨by rw [HE.out]; rfl, HB4.out⟩
          · have e1 := beq_no h1
            have HE : Hid (R = (nn == 2)) := Lib.hid (by rw [HR3.out, nB, if_pos h23, beq_dec]; simp [h1])
            clear h23 h1
            go_wp2_with fail
            go_ret
            exact ⟨by rw [HE.out]; rfl, HB4.out⟩
        · have e23 := beq_no h23
          have HE : Hid (R = (nn == 0)) := Lib.hid (by rw [HR3.out, nB, if_neg h23, beq_dec])
          clear h23
          go_wp2_with fail
          go_ret
          exact ⟨by rw [HE.out]; rfl, HB4.out⟩
end Go.Proofs.YtkdejffhdhcocaaGreat

namespace Go.Proofs.YtkdejffhdhcocaaGreat
open Go.RowKit

theorem all_step' {α : Type} {l : List α} {f : α → Bool} {i : Nat} {t : α} (h : l[i]? = some t) : (l.drop i).all f = (f t && (l.drop (i + 1)).all f) := by
  obtain ⟨hl, rfl⟩ := List.getElem?_eq_some_iff.1 h
  rw [List.drop_eq_getElem_cons hl, List.all_cons]
set_option maxRecDepth 100000 in
set_option maxHeartbeats 8000000 in
theorem dmay_any (t : Tm) (A : Option Addr) (ca : Nat) (B : Option Addr) (cb : Nat) (K : Option Addr) (ck : Nat) (c : Int) (w : World) (hat : TmAt w t A B K) (hwf : WfT t) :
    Calls Tryz.prog 37 #[tmVal t A ca B cb K ck, .int .i64 c] w fun e w' => e = .returned (.int .i64 (mayT t c)) ∧ Below w.heap.size w w' := by
  have HBX := Lib.hid (fun o => (Below.refl w.heap.size w).alloc (Nat.le_refl _) o)
  obtain ⟨R, hR⟩ : ∃ R, R = mayT t c := ⟨_, rfl⟩
  have HM := Lib.hid hR
  rw [← hR]
  clear hR
  have HROW : Hid (∀ W, Below w.heap.size w W → Calls Tryz.prog 74 #[tmVal t A ca B cb K ck] W fun e w' => ∃ w0 : World, Below W.heap.size W w0 ∧ RowPost t w0 W e w') := Lib.hid (fun W hW => row_any t A ca B cb K ck W (hat.on hW) hwf)
  have HGOOD := Lib.hid (fun i h => good_row t (i := i) h)
  have HCLS : Hid (∀ W, Calls Tryz.prog 76 #[tmVal t A ca B cb K ck] W fun e w' => e = .returned (.int .i64 (cls t.kind)) ∧ Below W.heap.size W w') := Lib.hid (fun W => dclass_k _ _ _ _ _ _ W)
  clear hat hwf
  unfold tmVal at HROW HCLS ⊢
  by_cases h1 : c < 1
  · have HE : Hid (R = 1) := Lib.hid (by rw [HM.out]; unfold mayT; rw [if_pos (.inl h1)])
    go_enter Tryz.func37, Tryz.ntmps37
    go_wp2_with fail
    go_ret
    exact ⟨by rw [HE.out]; rfl, HBX.out _⟩
  by_cases h3 : 3 < c
  · have HE : Hid (R = 1) := Lib.hid (by rw [HM.out]; unfold mayT; rw [if_pos (.inr h3)])
    go_enter Tryz.func37, Tryz.ntmps37
    go_wp2_with fail
    go_ret
    exact ⟨by rw [HE.out]; rfl, HBX.out _⟩
  have HM2 : Hid (R = if greatT t = true then 2 else if goodT false t = false then 33 else if cls t.kind ≠ c then 5 else 0) := Lib.hid (by rw [HM.out]; unfold mayT; rw [if_neg (by omega)])
  go_enter Tryz.func37, Tryz.ntmps37
  go_wp2_with fail
  refine (HROW.out _ (HBX.out _)).mono ?_
  rintro e w2 ⟨w0, hbw, hpost⟩
  rcases hpost with ⟨hg, rfl, hb⟩ | ⟨hg, N, g, cap, L, rs, rfl, hL, hN, hl, hl1, hrow, hb⟩
  · have HE : Hid (R = 2) := Lib.hid (by rw [HM2.out, if_pos hg])
    have HB := Lib.hid ((HBX.out _).then_ hb)
    clear hb hbw
    go_wp2_with fail
    go_ret
    exact ⟨by rw [HE.out]; rfl, HB.out⟩
  · have HM3 : Hid (R = if (L.drop 0).all (fun x => nodeB x.t x.bare) = false then 33 else if cls t.kind ≠ c then 5 else 0) := Lib.hid (by
      rw [HM2.out, if_neg (by rw [hg]; decide), HGOOD.out N (by rw [← hL, ← hN]), ← hL]; rfl)
    have HB := Lib.hid ((HBX.out _).then_ hb)
    have HROWAT := Lib.hid hrow
    have HC : Hid (∀ (W : World) (j : Nat) (v : Value), Below w2.heap.size w2 W → (#[.int .i64 t.kind, .string t.text, .int .i64 t.n, .slice A t.sh.length ca, .slice B t.at_.length cb, .slice K t.kids.length ck] : Array Value)[j]? = some v → W.cell? ⟨w.heap.size, j, none⟩ = some v) := Lib.hid fun W j v hW hv => (hW.cell (p := ⟨w.heap.size, j, none⟩) (Nat.lt_of_lt_of_le (by simp) hb.size)).trans (box_cell hb hv)
    obtain ⟨n, hn⟩ : ∃ n, n = L.length := ⟨_, rfl⟩
    have HN := Lib.hid hn
    rw [← hn] at hl
    rw [← hn]
    clear hb hbw hg hL hN hl1 hrow hn
    go_wp2_with fail
    go_loopw [7] (fun v W => ∃ i : Nat, i ≤ n ∧ v = .int .i64 i ∧ Hid ((R = if (L.drop i).all (fun x => nodeB x.t x.bare) = false then 33 else if cls t.kind ≠ c then 5 else 0) ∧ Below w2.heap.size w2 W)) (fun v _ => n - (intOf v).toNat)
    case atStart => exact ⟨0, Nat.zero_le _, rfl, Lib.hid ⟨HM3.out, Below.refl _ _⟩⟩
    case round =>
      obtain ⟨i, hi, rfl, HI⟩ := hrel
      by_cases hlt : i < n
      · obtain ⟨y, hy⟩ : ∃ y, L[i]? = some y := ⟨_, List.getElem?_eq_getElem (by rw [← HN.out]; exact hlt)⟩
        have hra := HROWAT.out.on HI.out.2
        obtain ⟨r, hr, hnd, q0, q1, q2, q3, q4, q5, q6, q7⟩ := hra.eight hy
        have hnd2 := hnd.on hra.be
        have HS := Lib.hid (all_step' (f := fun x : Nd => nodeB x.t x.bare) hy)
        have HRT := Lib.hid (right_any y.t r.s.p r.s.c r.a.p r.a.c r.k.p r.k.c y.d y.bare _ hnd2.at_ hnd2.wf)
        unfold ndVal at HRT
        clear hnd hnd2 hr hra hy
        go_wp2_with fail
        refine HRT.out.mono ?_
        rintro e w3 ⟨rfl, hb⟩
        have HB3 := Lib.hid (HI.out.2.then_ hb)
        clear hb q0 q1 q2 q3 q4 q5 q6 q7
        cases hf : nodeB y.t y.bare with
        | false =>
          have HE : Hid (R = 33) := Lib.hid (by rw [HI.out.1, HS.out, hf]; rfl)
          clear hf
          go_wp2_with fail
          go_ret
          exact ⟨by rw [HE.out]; rfl, HB.out.then_ HB3.out⟩
        | true =>
          have HE : Hid (R = if (L.drop (i + 1)).all (fun x => nodeB x.t x.bare) = false then 33 else if cls t.kind ≠ c then 5 else 0) := Lib.hid (by rw [HI.out.1, HS.out, hf]; rfl)
          clear hf
          go_wp2_with fail
          exact ⟨⟨i + 1, by omega, by go_num, Lib.hid ⟨HE.out, HB3.out⟩⟩, by simp [intOf]; omega⟩
      · obtain rfl : i = n := by omega
        have HE : Hid (R = if cls t.kind ≠ c then 5 else 0) := Lib.hid (by rw [HI.out.1, HN.out, List.drop_length]; rfl)
        have c0 := HC.out wr 0 _ HI.out.2 rfl
        have c1 := HC.out wr 1 _ HI.out.2 rfl
        have c2 := HC.out wr 2 _ HI.out.2 rfl
        have c3 := HC.out wr 3 _ HI.out.2 rfl
        have c4 := HC.out wr 4 _ HI.out.2 rfl
        have c5 := HC.out wr 5 _ HI.out.2 rfl
        clear hlt
        go_wp2_with fail
        refine (HCLS.out _).mono ?_
        rintro e w3 ⟨rfl, hb⟩
        have HB3 := Lib.hid (HI.out.2.then_ hb)
        clear hb c0 c1 c2 c3 c4 c5
        by_cases hc : cls t.kind = c
        · have dc : (cls t.kind != c) = false := by simp [hc]
          have HE2 : Hid (R = 0) := Lib.hid (by rw [HE.out, if_neg (fun e => e hc)])
          clear hc
          go_wp2_with fail
          go_ret
          exact ⟨by rw [HE2.out]; rfl, HB.out.then_ HB3.out⟩
        · have dc : (cls t.kind != c) = true := by simp [hc]
          have HE2 : Hid (R = 5) := Lib.hid (by rw [HE.out, if_pos hc])
          clear hc
          go_wp2_with fail
          go_ret
          exact ⟨by rw [HE2.out]; rfl, HB.out.then_ HB3.out⟩
end Go.Proofs.YtkdejffhdhcocaaGreat

namespace Go.Proofs.YtkdejffhdhcocaaGreat
open Go.RowKit

set_option maxRecDepth 100000 in
set_option maxHeartbeats 8000000 in
theorem dsize_any (t : Tm) (A : Option Addr) (ca : Nat) (B : Option Addr) (cb : Nat) (K : Option Addr) (ck : Nat) (w : World) (hat : TmAt w t A B K) (hwf : WfT t) :
    Calls Tryz.prog 52 #[tmVal t A ca B cb K ck] w fun e w' => e = .returned (.tuple #[.int .i64 ((sizeT t).1 : Int), .int .i64 ((sizeT t).2 : Int)]) ∧ Below w.heap.size w w' := by
  have HBX := Lib.hid (fun o => (Below.refl w.heap.size w).alloc (Nat.le_refl _) o)
  obtain ⟨R, hR⟩ : ∃ R, R = sizeT t := ⟨_, rfl⟩
  have HM := Lib.hid hR
  rw [← hR]
  clear hR
  have HROW : Hid (∀ W, Below w.heap.size w W → Calls Tryz.prog 74 #[tmVal t A ca B cb K ck] W fun e w' => ∃ w0 : World, Below W.heap.size W w0 ∧ RowPost t w0 W e w') := Lib.hid (fun W hW => row_any t A ca B cb K ck W (hat.on hW) hwf)
  clear hat hwf
  unfold tmVal at HROW ⊢
  go_enter Tryz.func52, Tryz.ntmps52
  go_wp2_with fail
  refine (HROW.out _ (HBX.out _)).mono ?_
  rintro e w2 ⟨w0, hbw, hpost⟩
  rcases hpost with ⟨hg, rfl, hb⟩ | ⟨hg, N, g, cap, L, rs, rfl, hL, hN, hl, hl1, hrow, hb⟩
  · have HE : Hid (R = (4097, 257)) := Lib.hid (by rw [HM.out]; unfold sizeT; rw [if_pos hg])
    have HB := Lib.hid ((HBX.out _).then_ hb)
    clear hb hbw
    go_wp2_with fail
    go_ret2
    exact ⟨by rw [HE.out]; rfl, HB.out⟩
  · have HB := Lib.hid ((HBX.out _).then_ hb)
    obtain ⟨m, hm⟩ : ∃ m, L.length = m + 1 := ⟨L.length - 1, by omega⟩
    obtain ⟨y, hy⟩ : ∃ y, L[m]? = some y := ⟨_, List.getElem?_eq_getElem (by omega)⟩
    obtain ⟨r, hr, hnd, q0, q1, q2, q3, q4, q5, q6, q7⟩ := hrow.eight hy
    have hLN : N = (rowN ⟨t, 1, false⟩ N).length := by rw [← hL, ← hN]
    have hyd : y.d + 1 = 1 + dep t := rowN_last ⟨t, 1, false⟩ hLN (by rw [← hL, hm]; simpa using hy)
    have hcn : L.length = cnt t := by
      rw [hL, (rowN_end ⟨t, 1, false⟩ hLN).length_eq]
      exact dfs_len t 1 false
    have HE : Hid (R = (m + 1, y.d)) := Lib.hid (by
      rw [HM.out]; unfold sizeT; rw [if_neg (by rw [hg]; decide), ← hcn, hm]
      exact congrArg _ (by omega))
    have hm4 : m ≤ 4096 := by omega
    rw [hm]
    clear hb hbw hL hN hl hl1 hrow hLN hyd hcn hnd hr hy q0 q1 q2 q3 q4 q5 q7 hm
    go_wp2_with fail
    go_quiet (fail)
    go_wp2_with fail
    go_ret2
    exact ⟨by rw [HE.out]; rfl, bdn HB.out _⟩
end Go.Proofs.YtkdejffhdhcocaaGreat

namespace Go.Proofs.YtkdejffhdhcocaaGreat
open Go.RowKit

set_option maxRecDepth 100000 in
set_option maxHeartbeats 8000000 in
theorem dcopy_any (t : Tm) (A : Option Addr) (ca : Nat) (B : Option Addr) (cb : Nat) (K : Option Addr) (ck : Nat) (w : World) (hat : TmAt w t A B K) (hwf : WfT t) : Calls Tryz.prog 39 #[tmVal t A ca B cb K ck] w (CopyPost t w) := by
  obtain ⟨W2, hW2⟩ : ∃ W2, W2 = (w.alloc (.cells (tmCells t A ca B cb K ck) TTm)).alloc (.cells tm0 TTm) := ⟨_, rfl⟩
  have hb1 : Below w.heap.size w (w.alloc (.cells (tmCells t A ca B cb K ck) TTm)) := (Below.refl _ _).alloc (Nat.le_refl _) _
  have hb2 : Below w.heap.size w W2 := by rw [hW2]; exact hb1.alloc hb1.size _
  have hc1 : W2.heap[w.heap.size]? = some (.cells (tmCells t A ca B cb K ck) TTm (0, 0)) := by rw [hW2]; exact (Below.heap_alloc _ _ _ (by simp)).trans (heap_alloc_new w _)
  have hc2 : W2.heap[w.heap.size + 1]? = some (.cells tm0 TTm (0, 0)) := by rw [hW2]; exact heap_new2 _ _ _
  have HX := Lib.hid (And.intro hb2 (And.intro hc1 (And.intro hc2 (hat.on hb2))))
  have HWF := Lib.hid hwf
  have HW2 := Lib.hid hW2
  have HS : Hid (W2.heap.size = w.heap.size + 2) := Lib.hid (by rw [hW2]; simp)
  clear hat hwf hb1 hb2 hc1 hc2 hW2
  cases hg : greatT t with
  | true =>
    have HG := Lib.hid hg
    go_enter Tryz.func39, Tryz.ntmps39
    go_wp2_with fail
    rw [← HW2.out]
    refine (row_any t A ca B cb K ck W2 HX.out.2.2.2 HWF.out).mono ?_
    rintro e w3 ⟨w0, _, hpost⟩
    obtain ⟨rfl, hb3⟩ : e = .returned (.tuple #[.slice none 0 0, .bool false]) ∧ Below W2.heap.size W2 w3 := by
      rcases hpost with ⟨_, h, hb⟩ | ⟨h, _⟩
      · exact ⟨h, hb⟩
      · rw [hg] at h; cases h
    clear hpost
    have hz := (hb3.block _ (heap_lt HX.out.2.2.1)).trans HX.out.2.2.1
    have fz := unfrozen hz
    have z0 := cell_at hz (j := 0) rfl
    have z1 := cell_at hz (j := 1) rfl
    have z2 := cell_at hz (j := 2) rfl
    have z3 := cell_at hz (j := 3) rfl
    have z4 := cell_at hz (j := 4) rfl
    have z5 := cell_at hz (j := 5) rfl
    have HZ := Lib.hid hz
    have HB3 := Lib.hid (HX.out.1.then_ hb3)
    clear hg hb3 hz
    go_wp2_with fail
    obtain ⟨e1, _, e3⟩ := six (.int .i64 0) (.string ⟨#[]⟩) (.int .i64 0) (.slice none 0 0) (.slice none 0 0) (.slice none 0 0) HZ.out HB3.out (Nat.le_succ _)
    exact bodyPost_ret (results_tm2 rfl rfl e1) rfl (.inl ⟨HG.out, rfl, e3⟩)
  | false =>
    have HG := Lib.hid hg
    go_enter Tryz.func39, Tryz.ntmps39
    go_wp2_with fail
    rw [← HW2.out]
    refine (row_any t A ca B cb K ck W2 HX.out.2.2.2 HWF.out).mono ?_
    rintro e w3 ⟨w0, _, hpost⟩
    obtain ⟨g0, n0, c0, rfl, hb3⟩ : ∃ g0 n0 c0, e = .returned (.tuple #[.slice (some ⟨g0, 0, none⟩) n0 c0, .bool true]) ∧ Below W2.heap.size W2 w3 := by
      rcases hpost with ⟨h, _⟩ | ⟨_, N, g, cap, L, rs, h, _, _, _, _, _, hb⟩
      · rw [hg] at h; cases h
      · exact ⟨g, _, cap, h, hb⟩
    clear hpost
    have hd := (hb3.block _ (heap_lt HX.out.2.1)).trans HX.out.2.1
    have y0 := cell_at hd (j := 0) rfl
    have y1 := cell_at hd (j := 1) rfl
    have y2 := cell_at hd (j := 2) rfl
    have y3 := cell_at hd (j := 3) rfl
    have y4 := cell_at hd (j := 4) rfl
    have y5 := cell_at hd (j := 5) rfl
    have HB3 := Lib.hid hb3
    clear hg hb3 hd
    go_wp2_with fail
    refine (owns_any (cnt t) t A ca B cb K ck w3 (Nat.le_refl _) (HX.out.2.2.2.on HB3.out) HWF.out).mono ?_
    rintro e w4 ⟨r, rfl, ho, hn, hb4⟩
    have hb5 : Below w4.heap.size w4 (w4.alloc (.cells #[.int .i64 t.kind, .string t.text, .int .i64 t.n, .slice r.s.p r.s.n r.s.c, .slice r.a.p r.a.n r.a.c, .slice r.k.p r.k.n r.k.c] TTm)) := (Below.refl _ _).alloc (Nat.le_refl _) _
    have hz := (((HB3.out.then_ hb4).then_ hb5).block _ (heap_lt HX.out.2.2.1)).trans HX.out.2.2.1
    have fz := unfrozen hz
    have z0 := cell_at hz (j := 0) rfl
    have z1 := cell_at hz (j := 1) rfl
    have z2 := cell_at hz (j := 2) rfl
    have z3 := cell_at hz (j := 3) rfl
    have z4 := cell_at hz (j := 4) rfl
    have z5 := cell_at hz (j := 5) rfl
    have HZ := Lib.hid hz
    have HO := Lib.hid (And.intro (ho.on hb5) (And.intro hn (HX.out.1.then_ ((HB3.out.then_ hb4).then_ hb5))))
    have HS3 : Hid (w.heap.size + 2 ≤ w3.heap.size) := Lib.hid (by rw [← HS.out]; exact HB3.out.size)
    clear ho hn hb4 hb5 hz y0 y1 y2 y3 y4 y5
    go_wp2_with fail
    obtain ⟨e1, e2, e3⟩ := six (.int .i64 t.kind) (.string t.text) (.int .i64 t.n) (.slice r.s.p r.s.n r.s.c) (.slice r.a.p r.a.n r.a.c) (.slice r.k.p r.k.n r.k.c) HZ.out HO.out.2.2 (Nat.le_succ _)
    refine bodyPost_ret (results_tm2 rfl rfl e1) rfl (.inr ⟨HG.out, r, rfl, ?_, HO.out.2.1, e3⟩)
    refine (HO.out.1.kept fun g hg => e2 g ?_).mono ?_
    · have h1 := (HO.out.1.blk g hg).1
      have h2 := HS3.out
      omega
    · have h2 := HS3.out
      omega
end Go.Proofs.YtkdejffhdhcocaaGreat
