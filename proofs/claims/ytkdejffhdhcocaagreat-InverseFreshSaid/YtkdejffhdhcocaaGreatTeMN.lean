/- Names that rise: a rising list is told by its members; one more, one less. Plain laws. No condition. · term.Names: the closure that looks at each node and counts its name in a map. Condition: sizes within reach. · term.Names: the closure's walk. Condition: sizes within reach. -/
import Derived.Test.YtkdejffhdhcocaaGreatTeM1
import Derived.Test.YtkdejffhdhcocaaGreatTeWa
import Derived.StringKeys
import Derived.Maps.Own
import Derived.Maps.OwnOps
import Derived.Maps.Views
import Derived.Deep.RegionLaw
import Derived.Deep.RegionWith
import Derived.Test.YtkdejffhdhcocaaGreatTePa
import Derived.Maps.Range
import Derived.Deep.Cut
import Derived.WalkSpells
namespace Go.Proofs.YtkdejffhdhcocaaGreat
open Go.RowKit

/-- names that rise, each once -/
def Rise (l : List ByteArray) : Prop := (l.map fun s => s.data.toList).Pairwise (· < ·)
theorem rise_cons {a : ByteArray} {l : List ByteArray} : Rise (a :: l) ↔ (∀ b ∈ l, a.data.toList < b.data.toList) ∧ Rise l := by
  unfold Rise
  rw [List.map_cons, List.pairwise_cons]
  refine and_congr_left fun _ => ⟨fun h b hb => h _ (List.mem_map.2 ⟨b, hb, rfl⟩), fun h b hb => ?_⟩
  obtain ⟨c, hc, rfl⟩ := List.mem_map.1 hb
  exact h c hc
theorem rise_unique : ∀ {l m : List ByteArray}, Rise l → Rise m → (∀ s, s ∈ l ↔ s ∈ m) → l = m
  | [], [], _, _, _ => rfl
  | [], b :: m, _, _, h => absurd ((h b).2 (List.mem_cons_self ..)) List.not_mem_nil
  | a :: l, [], _, _, h => absurd ((h a).1 (List.mem_cons_self ..)) List.not_mem_nil
  | a :: l, b :: m, hl, hm, h => by
    obtain ⟨hl1, hl2⟩ := rise_cons.1 hl
    obtain ⟨hm1, hm2⟩ := rise_cons.1 hm
    have e : a = b := by
      rcases List.mem_cons.1 ((h a).1 (List.mem_cons_self ..)) with e | ha
      · exact e
      · rcases List.mem_cons.1 ((h b).2 (List.mem_cons_self ..)) with e | hb
        · exact e.symm
        · exact absurd (hm1 a ha) (List.lt_asymm (hl1 b hb))
    subst e
    congr 1
    refine rise_unique hl2 hm2 fun s => ⟨fun hs => ?_, fun hs => ?_⟩
    · rcases List.mem_cons.1 ((h s).1 (List.mem_cons_of_mem _ hs)) with e | h'
      · subst e; exact absurd (hl1 s hs) (List.lt_irrefl _)
      · exact h'
    · rcases List.mem_cons.1 ((h s).2 (List.mem_cons_of_mem _ hs)) with e | h'
      · subst e; exact absurd (hm1 s hs) (List.lt_irrefl _)
      · exact h'
theorem rise_filter {l : List ByteArray} (h : Rise l) (p : ByteArray → Bool) : Rise (l.filter p) := by
  unfold Rise at *
  exact h.sublist (List.filter_sublist.map _)
theorem rise_get {l : List ByteArray} (h : Rise l) {i j : Nat} (hij : i < j) {a b : ByteArray} (ha : l[i]? = some a) (hb : l[j]? = some b) : a.data.toList < b.data.toList := by
  obtain ⟨h1, e1⟩ := List.getElem?_eq_some_iff.1 ha
  obtain ⟨h2, e2⟩ := List.getElem?_eq_some_iff.1 hb
  have := List.pairwise_iff_getElem.1 h i j (by simpa using h1) (by simpa using h2) hij
  simpa [e1, e2] using this
/-- a name is not on a rising list: the list with it has one more -/
theorem rise_more {l m : List ByteArray} {s : ByteArray} (hl : Rise l) (hm : Rise m) (h : ∀ x, x ∈ m ↔ x ∈ l ∨ x = s) (hs : s ∉ l) : m.filter (fun x => !decide (x = s)) = l ∧ m.length = l.length + 1 := by
  have e : m.filter (fun x => !decide (x = s)) = l := rise_unique (rise_filter hm _) hl fun x => by
    rw [List.mem_filter, h x]
    constructor
    · rintro ⟨h1 | h1, h2⟩
      · exact h1
      · simp [h1] at h2
    · intro h1
      refine ⟨.inl h1, ?_⟩
      have : ¬ x = s := fun e => hs (by rw [← e]; exact h1)
      simp [this]
  refine ⟨e, ?_⟩
  have hc : m.length = (m.filter fun x => !decide (x = s)).length + (m.filter fun x => decide (x = s)).length := by
    clear e h hl hm
    induction m with
    | nil => rfl
    | cons a r ih =>
      by_cases ha : a = s
      · simp [ha]; omega
      · simp [ha]; omega
  have h1 : m.filter (fun x => decide (x = s)) = [s] := rise_unique (rise_filter hm _) (by simp [Rise]) fun x => by
    rw [List.mem_filter, h x]
    simp only [decide_eq_true_eq, List.mem_singleton]
    exact ⟨fun h2 => h2.2, fun e => ⟨.inr e, e⟩⟩
  rw [hc, e, h1]
  rfl
theorem rise_has {l m : List ByteArray} {s : ByteArray} (hl : Rise l) (hm : Rise m) (h : ∀ x, x ∈ m ↔ x ∈ l ∨ x = s) (hs : s ∈ l) : l = m :=
  rise_unique hl hm fun x => by
    rw [h x]
    exact ⟨.inl, fun h1 => h1.elim id fun e => e ▸ hs⟩
/-- the place of an element among those that a test takes -/
theorem filter_at {α : Type} {p : α → Bool} {m : List α} {i : Nat} {x : α} (hx : m[i]? = some x) (hp : p x = true) : (m.filter p)[((m.take i).filter p).length]? = some x := by
  obtain ⟨h1, e1⟩ := List.getElem?_eq_some_iff.1 hx
  have e : m = m.take i ++ x :: m.drop (i + 1) := by rw [← e1, ← List.drop_eq_getElem_cons h1, List.take_append_drop]
  have e2 : m.filter p = (m.take i).filter p ++ x :: (m.drop (i + 1)).filter p := by
    conv => lhs; rw [e]
    rw [List.filter_append, List.filter_cons, if_pos hp]
  rw [e2, List.getElem?_append_right (Nat.le_refl _)]
  simp
theorem filter_take {α : Type} {p : α → Bool} {m : List α} {i : Nat} {x : α} (hx : m[i]? = some x) : ((m.take (i + 1)).filter p).length = ((m.take i).filter p).length + if p x = true then 1 else 0 := by
  rw [List.take_add_one, hx, List.filter_append, List.length_append]
  by_cases hp : p x = true
  · simp [hp]
  · simp [hp]
end Go.Proofs.YtkdejffhdhcocaaGreat

namespace Go.Proofs.YtkdejffhdhcocaaGreat
open Go.RowKit Go.Maps Go.WideMaps

def isNm (k : Int) : Bool := decide (k = 2 ∨ k = 21 ∨ k = 11)
mutual
/-- the names that a term speaks of -/
def nmT : Tm → List ByteArray
  | .mk k s _ _ _ ks => (if isNm k = true then [s] else []) ++ nmL ks
def nmL : List Tm → List ByteArray
  | [] => []
  | t :: r => nmT t ++ nmL r
end
abbrev TSt : TypeId := 9
abbrev TIt : TypeId := 3
abbrev TMp : TypeId := 91
theorem lawS : Keyed Tryz.prog TSt := string_keyed Tryz.underlying9
theorem zeroI (w : World) : (zeroValue TIt).run Tryz.prog w = .ok (.int .i64 0) w := by kernel_rfl
abbrev keyL (s : ByteArray) : Lit := .string s.data.toList
theorem key_of (s : ByteArray) (h : s.size ≤ maxLen) : keyOf Tryz.prog TSt (.string s) = some (keyL s) := keyOf_string_mk Tryz.underlying9 h
/-- the map and the two captured cells -/
structure LookW (w0 w : World) (B Gm Gl n : Nat) (D : DataW Unit) : Prop where
  map : w.ownsMap Tryz.prog TSt (plainElem Tryz.prog TIt) B n D
  gm : w.heap[Gm]? = some (.cells #[.map (some B)] TMp (0, 0))
  gl : w.heap[Gl]? = some (.cells #[.func (.func 70) #[] #[.pointer (some ⟨Gm, 0, none⟩), .pointer (some ⟨Gl, 0, none⟩)]] 92 (0, 0))
  lo : w0.heap.size ≤ B
  be : Below w0.heap.size w0 w
theorem LookW.grown {w0 w w' : World} {B Gm Gl n n' : Nat} {D D' : DataW Unit} (h : LookW w0 w B Gm Gl n D) (hm : w'.ownsMap Tryz.prog TSt (plainElem Tryz.prog TIt) B n' D') (hg : w.grownBy w' (some B)) : LookW w0 w' B Gm Gl n' D' := by
  have hB : ∃ es c, w.heap[B]? = some (.map es c) := by obtain ⟨es, c, h1, _⟩ := h.map; exact ⟨es, c, h1⟩
  obtain ⟨es, c, hB⟩ := hB
  have ne : ∀ g cs t f, w.heap[g]? = some (.cells cs t f) → some g ≠ some B := fun g cs t f h1 e => by
    injection e with e
    subst e
    rw [hB] at h1
    cases h1
  exact ⟨hm, (hg.block _ (heap_lt h.gm) (ne _ _ _ _ h.gm)).trans h.gm, (hg.block _ (heap_lt h.gl) (ne _ _ _ _ h.gl)).trans h.gl, h.lo, h.be.grown hg h.be.size fun k hk => by injection hk with hk; rw [← hk]; exact h.lo⟩
theorem LookW.drew {w0 w : World} {B Gm Gl n : Nat} {D : DataW Unit} (h : LookW w0 w B Gm Gl n D) : LookW w0 w.drew B Gm Gl n D := ⟨h.map.drew, h.gm, h.gl, h.lo, h.be.drew⟩
end Go.Proofs.YtkdejffhdhcocaaGreat

namespace Go.Proofs.YtkdejffhdhcocaaGreat
open Go.RowKit Go.Maps Go.WideMaps

theorem has_put_iff {D : DataW Unit} (hD : IsMap D) {k : Lit} (hk : WideAt.IsKeyLit k) (d : DataW Unit) (k' : Lit) : has (D.put k d) k' = true ↔ has D k' = true ∨ k' = k := by
  by_cases e : k' = k
  · subst e
    simp [has_put_same hD hk]
  · rw [has_put_other e]
    simp [e]
theorem nmL_take {l : List Tm} {i : Nat} {k : Tm} (h : l[i]? = some k) : nmL (l.take (i + 1)) = nmL (l.take i) ++ nmT k := by
  rw [List.take_add_one, h]
  have app : ∀ (p : List Tm) (x : Tm), nmL (p ++ [x]) = nmL p ++ nmT x := fun p x => by
    induction p with
    | nil => simp [nmL]
    | cons y r ih => simp only [List.cons_append, nmL, ih, List.append_assoc]
  exact app _ _
theorem nmT_eq (t : Tm) : nmT t = (if isNm t.kind = true then [t.text] else []) ++ nmL t.kids := by cases t; simp only [nmT]; rfl
theorem grown_then {a b c : World} {g : Nat} (h : a.grownBy b (some g)) (k : b.grownBy c (some g)) : a.grownBy c (some g) :=
  ⟨k.os.trans h.os, k.tape.trans h.tape, k.output.trans h.output, Nat.le_trans h.size k.size, fun j hj hne => (k.block j (Nat.lt_of_lt_of_le hj h.size) hne).trans (h.block j hj hne)⟩
theorem isMap_of {w : World} {B n : Nat} {D : DataW Unit} (h : w.ownsMap Tryz.prog TSt (plainElem Tryz.prog TIt) B n D) : IsMap D := by
  obtain ⟨es, rfl, _⟩ := h.entries lawS
  exact ⟨_, rfl⟩
theorem key_lit (s : ByteArray) : WideAt.IsKeyLit (keyL s) := trivial
set_option maxRecDepth 100000 in
set_option maxHeartbeats 8000000 in
theorem look_any (w0 : World) (B Gm Gl : Nat) (N : Nat) : ∀ (t : Tm) (b off n : Nat) (D : DataW Unit) (w : World), cnt t ≤ N → PtrAt w0 b off t → WfT t → LookW w0 w B Gm Gl n D → n + cnt t ≤ 1000000 →
    Calls Tryz.prog 70 #[.pointer (some ⟨b, off, none⟩), .pointer (some ⟨Gm, 0, none⟩), .pointer (some ⟨Gl, 0, none⟩)] w fun e w' => e = .returned (.tuple #[]) ∧ ∃ D', LookW w0 w' B Gm Gl (n + cnt t) D' ∧ (∀ kl, has D' kl = true ↔ has D kl = true ∨ ∃ s ∈ nmT t, kl = keyL s) ∧ w.grownBy w' (some B) := by
  induction N with
  | zero => intro t b off n D w h; cases t; simp [cnt] at h
  | succ N ih =>
    intro t b off n D w hN hp hwf hL hn
    obtain ⟨A, ca, B', cb, K, ck, hlt, r0, r1, r2, r3, r4, r5, hat⟩ := hp.cells
    obtain ⟨nk, hnk⟩ : ∃ nk, nk = t.kids.length := ⟨_, rfl⟩
    have hnk2 : nk ≤ 140737488351232 := by rw [hnk]; exact hwf.node.kids
    have HNK := Lib.hid hnk
    have HK : Hid (∀ W, Below w0.heap.size w0 W → W.cell? ⟨b, off, none⟩ = some (.int .i64 t.kind) ∧ W.cell? ⟨b, off + 1, none⟩ = some (.string t.text) ∧ W.cell? ⟨b, off + 5, none⟩ = some (.slice K nk ck)) := Lib.hid fun W hb => by
      rw [hnk]
      exact ⟨(hb.cell (p := ⟨b, off, none⟩) hlt).trans r0, (hb.cell (p := ⟨b, off + 1, none⟩) hlt).trans r1, (hb.cell (p := ⟨b, off + 5, none⟩) hlt).trans r5⟩
    have HP := Lib.hid (And.intro hp (And.intro hwf (And.intro hL (And.intro hn (And.intro hN hat)))))
    have HCD : Hid (cnt t = cntL t.kids + 1) := Lib.hid (by cases t; simp only [cnt, Tm.kids])
    obtain ⟨k0, k1, k5⟩ := HK.out w hL.be
    have IH := Lib.hid ih
    have HT : Hid (t.text.size ≤ maxLen) := Lib.hid (by have := hwf.node.text; unfold maxLen; omega)
    have cG := cell_at hL.gm (j := 0) rfl
    clear hp hwf hL hn hN ih hat r0 r1 r2 r3 r4 r5 hlt hnk
    go_enter Tryz.func70, Tryz.ntmps70
    have ks : t.kind = 2 ∨ (¬ t.kind = 2 ∧ t.kind = 21) ∨ (¬ t.kind = 2 ∧ ¬ t.kind = 21 ∧ t.kind = 11) ∨ (¬ t.kind = 2 ∧ ¬ t.kind = 21 ∧ ¬ t.kind = 11) := by omega
    obtain ⟨c, hrun, _, hwc⟩ := HP.out.2.2.1.drew.map.lookup_int lawS Tryz.underlying91 Tryz.underlying3 (zeroI _) (key_of t.text HT.out)
    obtain ⟨w1, hupd, hm1, hg1⟩ := HP.out.2.2.1.drew.map.update lawS Tryz.underlying91 (by have := HP.out.2.2.2.1; unfold maxLen; omega) (key_of t.text HT.out) (plainElem_int Tryz.underlying3 (wrap64_wf (c + 1)))
    have H1 := Lib.hid (And.intro hm1 hg1)
    clear hm1 hg1
    rcases ks with h | ⟨h1, h⟩ | ⟨h1, h2, h⟩ | ⟨h1, h2, h3⟩
    · have d1 : (t.kind == 2) = true := beq_yes h
      have hnm : isNm t.kind = true := by simp [isNm, h]
      clear h
      go_upto_region 1 with fail
      go_region
      obtain ⟨D0, hD0⟩ : ∃ D0 : DataW Unit, D0 = D.put (keyL t.text) (.lit (.int .i64 (wrap64 (c + 1)))) := ⟨_, rfl⟩
      have HL0 : Hid (LookW w0 w1 B Gm Gl (n + 1) D0 ∧ (∀ kl, has D0 kl = true ↔ has D kl = true ∨ (isNm t.kind = true ∧ kl = keyL t.text)) ∧ w.grownBy w1 (some B)) := Lib.hid (by
        rw [hD0]
        exact ⟨HP.out.2.2.1.drew.grown H1.out.1 H1.out.2, fun kl => by rw [has_put_iff (isMap_of HP.out.2.2.1.map) (key_lit _)]; simp [hnm], ⟨H1.out.2.os, H1.out.2.tape, H1.out.2.output, H1.out.2.size, H1.out.2.block⟩⟩)
      obtain ⟨k0, k1, k5⟩ := HK.out _ HL0.out.1.be
      clear hD0
      go_wp2_with fail
      go_loopw [36] (fun v36 W => ∃ (i : Nat) (D1 : DataW Unit), i ≤ nk ∧ v36 = .int .i64 i ∧ Hid (LookW w0 W B Gm Gl (n + 1 + cntL (t.kids.take i)) D1 ∧ (∀ kl, has D1 kl = true ↔ has D0 kl = true ∨ ∃ s ∈ nmL (t.kids.take i), kl = keyL s) ∧ w.grownBy W (some B))) (fun v _ => nk - (intOf v).toNat)
      case atStart => exact ⟨0, D0, Nat.zero_le _, rfl, Lib.hid ⟨HL0.out.1, fun kl => by simp [nmL], HL0.out.2.2⟩⟩
      case round =>
        obtain ⟨i, D1, hi, rfl, HI⟩ := hrel
        by_cases hlt : i < nk
        · obtain ⟨k, hk2⟩ : ∃ k, t.kids[i]? = some k := ⟨_, List.getElem?_eq_getElem (by rw [← HNK.out]; exact hlt)⟩
          obtain ⟨b', off', hKe, hpk⟩ := HP.out.2.2.2.2.2.kids.get hk2
          subst hKe
          rw [Nat.zero_add] at hpk
          have HKK := Lib.hid (And.intro hk2 (And.intro hpk (HP.out.2.1.node.each k (List.mem_of_getElem? hk2))))
          obtain ⟨k0, k1, k5⟩ := HK.out _ HI.out.1.be
          have cl := cell_at HI.out.1.gl (j := 0) rfl
          have HCN : Hid (cnt k ≤ N ∧ n + 1 + cntL (t.kids.take i) + cnt k = n + 1 + cntL (t.kids.take (i + 1)) ∧ n + 1 + cntL (t.kids.take (i + 1)) ≤ 1000000) := Lib.hid (by
            have h1 := cnt_kid hk2; have h2 := cntL_take hk2; have h3 := cntL_le (l := t.kids) (i + 1); have h4 := HP.out.2.2.2.1; have h5 := HP.out.2.2.2.2.1; have h6 := HCD.out; omega)
          clear hk2 hpk
          go_upto_region 5 with fail
          go_region_law (go_simp; go_at_call 70; refine (IH.out k b' (off' + i * 6) (n + 1 + cntL (t.kids.take i)) D1 _ HCN.out.1 HKK.out.2.1 HKK.out.2.2 HI.out.1.drew (by have := HCN.out; omega)).mono ?_; rintro e w2 ⟨rfl, D2, hL2, hi2, hg2⟩)
          all_goals
            have HI2 : Hid (LookW w0 w2 B Gm Gl (n + 1 + cntL (t.kids.take (i + 1))) D2 ∧ (∀ kl, has D2 kl = true ↔ has D0 kl = true ∨ ∃ s ∈ nmL (t.kids.take (i + 1)), kl = keyL s) ∧ w.grownBy w2 (some B)) := Lib.hid ⟨by rw [← HCN.out.2.1]; exact hL2, fun kl => by
              rw [hi2 kl, HI.out.2.1 kl, nmL_take HKK.out.1]
              simp only [List.mem_append]
              constructor
              · rintro ((h | ⟨s, h, e⟩) | ⟨s, h, e⟩)
                · exact .inl h
                · exact .inr ⟨s, .inl h, e⟩
                · exact .inr ⟨s, .inr h, e⟩
              · rintro (h | ⟨s, h | h, e⟩)
                · exact .inl (.inl h)
                · exact .inl (.inr ⟨s, h, e⟩)
                · exact .inr ⟨s, h, e⟩, grown_then HI.out.2.2 ⟨hg2.os, hg2.tape, hg2.output, hg2.size, hg2.block⟩⟩
            clear hL2 hi2 hg2
            go_wp2_with fail
            exact ⟨⟨i + 1, D2, by omega, by go_num, HI2⟩, by simp [intOf]; omega⟩
        · obtain rfl : i = nk := by omega
          have ht : t.kids.take i = t.kids := by rw [HNK.out]; exact List.take_length
          have h1 := HI.out
          rw [ht] at h1
          have HF := Lib.hid h1
          clear ht h1 hlt
          go_wp2_with fail
          refine bodyPost_end (v := .tuple #[]) (by simp [results, Tryz.results70, go_sem]) rfl ⟨rfl, D1, ?_, fun kl => ?_, HF.out.2.2⟩
          · have h2 := HF.out.1
            rwa [show n + 1 + cntL t.kids = n + cnt t by have := HCD.out; omega] at h2
          · rw [HF.out.2.1 kl, HL0.out.2.1 kl, nmT_eq]
            simp only [List.mem_append]
            constructor
            · rintro ((h | ⟨h, e⟩) | ⟨s, h, e⟩)
              · exact .inl h
              · exact .inr ⟨t.text, .inl (by rw [h]; simp), e⟩
              · exact .inr ⟨s, .inr h, e⟩
            · rintro (h | ⟨s, h | h, e⟩)
              · exact .inl (.inl h)
              · by_cases hk : isNm t.kind = true
                · rw [if_pos hk] at h
                  exact .inl (.inr ⟨hk, by rw [e, List.mem_singleton.1 h]⟩)
                · rw [if_neg hk] at h
                  exact absurd h List.not_mem_nil
              · exact .inr ⟨s, h, e⟩
    · have d0 : (t.kind == 2) = false := beq_no h1
      have d1 : (t.kind == 21) = true := beq_yes h
      have hnm : isNm t.kind = true := by simp [isNm, h]
      clear h h1
      go_upto_region 1 with fail
      go_region
      obtain ⟨D0, hD0⟩ : ∃ D0 : DataW Unit, D0 = D.put (keyL t.text) (.lit (.int .i64 (wrap64 (c + 1)))) := ⟨_, rfl⟩
      have HL0 : Hid (LookW w0 w1 B Gm Gl (n + 1) D0 ∧ (∀ kl, has D0 kl = true ↔ has D kl = true ∨ (isNm t.kind = true ∧ kl = keyL t.text)) ∧ w.grownBy w1 (some B)) := Lib.hid (by
        rw [hD0]
        exact ⟨HP.out.2.2.1.drew.grown H1.out.1 H1.out.2, fun kl => by rw [has_put_iff (isMap_of HP.out.2.2.1.map) (key_lit _)]; simp [hnm], ⟨H1.out.2.os, H1.out.2.tape, H1.out.2.output, H1.out.2.size, H1.out.2.block⟩⟩)
      obtain ⟨k0, k1, k5⟩ := HK.out _ HL0.out.1.be
      clear hD0
      go_wp2_with fail
      go_loopw [36] (fun v36 W => ∃ (i : Nat) (D1 : DataW Unit), i ≤ nk ∧ v36 = .int .i64 i ∧ Hid (LookW w0 W B Gm Gl (n + 1 + cntL (t.kids.take i)) D1 ∧ (∀ kl, has D1 kl = true ↔ has D0 kl = true ∨ ∃ s ∈ nmL (t.kids.take i), kl = keyL s) ∧ w.grownBy W (some B))) (fun v _ => nk - (intOf v).toNat)
      case atStart => exact ⟨0, D0, Nat.zero_le _, rfl, Lib.hid ⟨HL0.out.1, fun kl => by simp [nmL], HL0.out.2.2⟩⟩
      case round =>
        obtain ⟨i, D1, hi, rfl, HI⟩ := hrel
        by_cases hlt : i < nk
        · obtain ⟨k, hk2⟩ : ∃ k, t.kids[i]? = some k := ⟨_, List.getElem?_eq_getElem (by rw [← HNK.out]; exact hlt)⟩
          obtain ⟨b', off', hKe, hpk⟩ := HP.out.2.2.2.2.2.kids.get hk2
          subst hKe
          rw [Nat.zero_add] at hpk
          have HKK := Lib.hid (And.intro hk2 (And.intro hpk (HP.out.2.1.node.each k (List.mem_of_getElem? hk2))))
          obtain ⟨k0, k1, k5⟩ := HK.out _ HI.out.1.be
          have cl := cell_at HI.out.1.gl (j := 0) rfl
          have HCN : Hid (cnt k ≤ N ∧ n + 1 + cntL (t.kids.take i) + cnt k = n + 1 + cntL (t.kids.take (i + 1)) ∧ n + 1 + cntL (t.kids.take (i + 1)) ≤ 1000000) := Lib.hid (by
            have h1 := cnt_kid hk2; have h2 := cntL_take hk2; have h3 := cntL_le (l := t.kids) (i + 1); have h4 := HP.out.2.2.2.1; have h5 := HP.out.2.2.2.2.1; have h6 := HCD.out; omega)
          clear hk2 hpk
          go_upto_region 5 with fail
          go_region_law (go_simp; go_at_call 70; refine (IH.out k b' (off' + i * 6) (n + 1 + cntL (t.kids.take i)) D1 _ HCN.out.1 HKK.out.2.1 HKK.out.2.2 HI.out.1.drew (by have := HCN.out; omega)).mono ?_; rintro e w2 ⟨rfl, D2, hL2, hi2, hg2⟩)
          all_goals
            have HI2 : Hid (LookW w0 w2 B Gm Gl (n + 1 + cntL (t.kids.take (i + 1))) D2 ∧ (∀ kl, has D2 kl = true ↔ has D0 kl = true ∨ ∃ s ∈ nmL (t.kids.take (i + 1)), kl = keyL s) ∧ w.grownBy w2 (some B)) := Lib.hid ⟨by rw [← HCN.out.2.1]; exact hL2, fun kl => by
              rw [hi2 kl, HI.out.2.1 kl, nmL_take HKK.out.1]
              simp only [List.mem_append]
              constructor
              · rintro ((h | ⟨s, h, e⟩) | ⟨s, h, e⟩)
                · exact .inl h
                · exact .inr ⟨s, .inl h, e⟩
                · exact .inr ⟨s, .inr h, e⟩
              · rintro (h | ⟨s, h | h, e⟩)
                · exact .inl (.inl h)
                · exact .inl (.inr ⟨s, h, e⟩)
                · exact .inr ⟨s, h, e⟩, grown_then HI.out.2.2 ⟨hg2.os, hg2.tape, hg2.output, hg2.size, hg2.block⟩⟩
            clear hL2 hi2 hg2
            go_wp2_with fail
            exact ⟨⟨i + 1, D2, by omega, by go_num, HI2⟩, by simp [intOf]; omega⟩
        · obtain rfl : i = nk := by omega
          have ht : t.kids.take i = t.kids := by rw [HNK.out]; exact List.take_length
          have h1 := HI.out
          rw [ht] at h1
          have HF := Lib.hid h1
          clear ht h1 hlt
          go_wp2_with fail
          refine bodyPost_end (v := .tuple #[]) (by simp [results, Tryz.results70, go_sem]) rfl ⟨rfl, D1, ?_, fun kl => ?_, HF.out.2.2⟩
          · have h2 := HF.out.1
            rwa [show n + 1 + cntL t.kids = n + cnt t by have := HCD.out; omega] at h2
          · rw [HF.out.2.1 kl, HL0.out.2.1 kl, nmT_eq]
            simp only [List.mem_append]
            constructor
            · rintro ((h | ⟨h, e⟩) | ⟨s, h, e⟩)
              · exact .inl h
              · exact .inr ⟨t.text, .inl (by rw [h]; simp), e⟩
              · exact .inr ⟨s, .inr h, e⟩
            · rintro (h | ⟨s, h | h, e⟩)
              · exact .inl (.inl h)
              · by_cases hk : isNm t.kind = true
                · rw [if_pos hk] at h
                  exact .inl (.inr ⟨hk, by rw [e, List.mem_singleton.1 h]⟩)
                · rw [if_neg hk] at h
                  exact absurd h List.not_mem_nil
              · exact .inr ⟨s, h, e⟩
    · have d0 : (t.kind == 2) = false := beq_no h1
      have d2 : (t.kind == 21) = false := beq_no h2
      have d1 : (t.kind == 11) = true := beq_yes h
      have hnm : isNm t.kind = true := by simp [isNm, h]
      clear h h1 h2
      go_upto_region 1 with fail
      go_region
      obtain ⟨D0, hD0⟩ : ∃ D0 : DataW Unit, D0 = D.put (keyL t.text) (.lit (.int .i64 (wrap64 (c + 1)))) := ⟨_, rfl⟩
      have HL0 : Hid (LookW w0 w1 B Gm Gl (n + 1) D0 ∧ (∀ kl, has D0 kl = true ↔ has D kl = true ∨ (isNm t.kind = true ∧ kl = keyL t.text)) ∧ w.grownBy w1 (some B)) := Lib.hid (by
        rw [hD0]
        exact ⟨HP.out.2.2.1.drew.grown H1.out.1 H1.out.2, fun kl => by rw [has_put_iff (isMap_of HP.out.2.2.1.map) (key_lit _)]; simp [hnm], ⟨H1.out.2.os, H1.out.2.tape, H1.out.2.output, H1.out.2.size, H1.out.2.block⟩⟩)
      obtain ⟨k0, k1, k5⟩ := HK.out _ HL0.out.1.be
      clear hD0
      go_wp2_with fail
      go_loopw [36] (fun v36 W => ∃ (i : Nat) (D1 : DataW Unit), i ≤ nk ∧ v36 = .int .i64 i ∧ Hid (LookW w0 W B Gm Gl (n + 1 + cntL (t.kids.take i)) D1 ∧ (∀ kl, has D1 kl = true ↔ has D0 kl = true ∨ ∃ s ∈ nmL (t.kids.take i), kl = keyL s) ∧ w.grownBy W (some B))) (fun v _ => nk - (intOf v).toNat)
      case atStart => exact ⟨0, D0, Nat.zero_le _, rfl, Lib.hid ⟨HL0.out.1, fun kl => by simp [nmL], HL0.out.2.2⟩⟩
      case round =>
        obtain ⟨i, D1, hi, rfl, HI⟩ := hrel
        by_cases hlt : i < nk
        · obtain ⟨k, hk2⟩ : ∃ k, t.kids[i]? = some k := ⟨_, List.getElem?_eq_getElem (by rw [← HNK.out]; exact hlt)⟩
          obtain ⟨b', off', hKe, hpk⟩ := HP.out.2.2.2.2.2.kids.get hk2
          subst hKe
          rw [Nat.zero_add] at hpk
          have HKK := Lib.hid (And.intro hk2 (And.intro hpk (HP.out.2.1.node.each k (List.mem_of_getElem? hk2))))
          obtain ⟨k0, k1, k5⟩ := HK.out _ HI.out.1.be
          have cl := cell_at HI.out.1.gl (j := 0) rfl
          have HCN : Hid (cnt k ≤ N ∧ n + 1 + cntL (t.kids.take i) + cnt k = n + 1 + cntL (t.kids.take (i + 1)) ∧ n + 1 + cntL (t.kids.take (i + 1)) ≤ 1000000) := Lib.hid (by
            have h1 := cnt_kid hk2; have h2 := cntL_take hk2; have h3 := cntL_le (l := t.kids) (i + 1); have h4 := HP.out.2.2.2.1; have h5 := HP.out.2.2.2.2.1; have h6 := HCD.out; omega)
          clear hk2 hpk
          go_upto_region 5 with fail
          go_region_law (go_simp; go_at_call 70; refine (IH.out k b' (off' + i * 6) (n + 1 + cntL (t.kids.take i)) D1 _ HCN.out.1 HKK.out.2.1 HKK.out.2.2 HI.out.1.drew (by have := HCN.out; omega)).mono ?_; rintro e w2 ⟨rfl, D2, hL2, hi2, hg2⟩)
          all_goals
            have HI2 : Hid (LookW w0 w2 B Gm Gl (n + 1 + cntL (t.kids.take (i + 1))) D2 ∧ (∀ kl, has D2 kl = true ↔ has D0 kl = true ∨ ∃ s ∈ nmL (t.kids.take (i + 1)), kl = keyL s) ∧ w.grownBy w2 (some B)) := Lib.hid ⟨by rw [← HCN.out.2.1]; exact hL2, fun kl => by
              rw [hi2 kl, HI.out.2.1 kl, nmL_take HKK.out.1]
              simp only [List.mem_append]
              constructor
              · rintro ((h | ⟨s, h, e⟩) | ⟨s, h, e⟩)
                · exact .inl h
                · exact .inr ⟨s, .inl h, e⟩
                · exact .inr ⟨s, .inr h, e⟩
              · rintro (h | ⟨s, h | h, e⟩)
                · exact .inl (.inl h)
                · exact .inl (.inr ⟨s, h, e⟩)
                · exact .inr ⟨s, h, e⟩, grown_then HI.out.2.2 ⟨hg2.os, hg2.tape, hg2.output, hg2.size, hg2.block⟩⟩
            clear hL2 hi2 hg2
            go_wp2_with fail
            exact ⟨⟨i + 1, D2, by omega, by go_num, HI2⟩, by simp [intOf]; omega⟩
        · obtain rfl : i = nk := by omega
          have ht : t.kids.take i = t.kids := by rw [HNK.out]; exact List.take_length
          have h1 := HI.out
          rw [ht] at h1
          have HF := Lib.hid h1
          clear ht h1 hlt
          go_wp2_with fail
          refine bodyPost_end (v := .tuple #[]) (by simp [results, Tryz.results70, go_sem]) rfl ⟨rfl, D1, ?_, fun kl => ?_, HF.out.2.2⟩
          · have h2 := HF.out.1
            rwa [show n + 1 + cntL t.kids = n + cnt t by have := HCD.out; omega] at h2
          · rw [HF.out.2.1 kl, HL0.out.2.1 kl, nmT_eq]
            simp only [List.mem_append]
            constructor
            · rintro ((h | ⟨h, e⟩) | ⟨s, h, e⟩)
              · exact .inl h
              · exact .inr ⟨t.text, .inl (by rw [h]; simp), e⟩
              · exact .inr ⟨s, .inr h, e⟩
            · rintro (h | ⟨s, h | h, e⟩)
              · exact .inl (.inl h)
              · by_cases hk : isNm t.kind = true
                · rw [if_pos hk] at h
                  exact .inl (.inr ⟨hk, by rw [e, List.mem_singleton.1 h]⟩)
                · rw [if_neg hk] at h
                  exact absurd h List.not_mem_nil
              · exact .inr ⟨s, h, e⟩
    · have d0 : (t.kind == 2) = false := beq_no h1
      have d2 : (t.kind == 21) = false := beq_no h2
      have d1 : (t.kind == 11) = false := beq_no h3
      have hnm : isNm t.kind = false := by simp [isNm, h1, h2, h3]
      clear h1 h2 h3
      obtain ⟨D0, hD0⟩ : ∃ D0 : DataW Unit, D0 = D := ⟨_, rfl⟩
      have HL0 : Hid (LookW w0 w B Gm Gl (n + 1) D0 ∧ (∀ kl, has D0 kl = true ↔ has D kl = true ∨ (isNm t.kind = true ∧ kl = keyL t.text)) ∧ w.grownBy w (some B)) := Lib.hid (by
        rw [hD0]
        exact ⟨⟨HP.out.2.2.1.map.mono (Nat.le_succ _), HP.out.2.2.1.gm, HP.out.2.2.1.gl, HP.out.2.2.1.lo, HP.out.2.2.1.be⟩, fun kl => by simp [hnm], ⟨rfl, rfl, rfl, Nat.le_refl _, fun _ _ _ => rfl⟩⟩)
      obtain ⟨k0, k1, k5⟩ := HK.out _ HL0.out.1.be
      clear hD0
      go_wp2_with fail
      go_loopw [36] (fun v36 W => ∃ (i : Nat) (D1 : DataW Unit), i ≤ nk ∧ v36 = .int .i64 i ∧ Hid (LookW w0 W B Gm Gl (n + 1 + cntL (t.kids.take i)) D1 ∧ (∀ kl, has D1 kl = true ↔ has D0 kl = true ∨ ∃ s ∈ nmL (t.kids.take i), kl = keyL s) ∧ w.grownBy W (some B))) (fun v _ => nk - (intOf v).toNat)
      case atStart => exact ⟨0, D0, Nat.zero_le _, rfl, Lib.hid ⟨HL0.out.1, fun kl => by simp [nmL], HL0.out.2.2⟩⟩
      case round =>
        obtain ⟨i, D1, hi, rfl, HI⟩ := hrel
        by_cases hlt : i < nk
        · obtain ⟨k, hk2⟩ : ∃ k, t.kids[i]? = some k := ⟨_, List.getElem?_eq_getElem (by rw [← HNK.out]; exact hlt)⟩
          obtain ⟨b', off', hKe, hpk⟩ := HP.out.2.2.2.2.2.kids.get hk2
          subst hKe
          rw [Nat.zero_add] at hpk
          have HKK := Lib.hid (And.intro hk2 (And.intro hpk (HP.out.2.1.node.each k (List.mem_of_getElem? hk2))))
          obtain ⟨k0, k1, k5⟩ := HK.out _ HI.out.1.be
          have cl := cell_at HI.out.1.gl (j := 0) rfl
          have HCN : Hid (cnt k ≤ N ∧ n + 1 + cntL (t.kids.take i) + cnt k = n + 1 + cntL (t.kids.take (i + 1)) ∧ n + 1 + cntL (t.kids.take (i + 1)) ≤ 1000000) := Lib.hid (by
            have h1 := cnt_kid hk2; have h2 := cntL_take hk2; have h3 := cntL_le (l := t.kids) (i + 1); have h4 := HP.out.2.2.2.1; have h5 := HP.out.2.2.2.2.1; have h6 := HCD.out; omega)
          clear hk2 hpk
          go_upto_region 5 with fail
          go_region_law (go_simp; go_at_call 70; refine (IH.out k b' (off' + i * 6) (n + 1 + cntL (t.kids.take i)) D1 _ HCN.out.1 HKK.out.2.1 HKK.out.2.2 HI.out.1.drew (by have := HCN.out; omega)).mono ?_; rintro e w2 ⟨rfl, D2, hL2, hi2, hg2⟩)
          all_goals
            have HI2 : Hid (LookW w0 w2 B Gm Gl (n + 1 + cntL (t.kids.take (i + 1))) D2 ∧ (∀ kl, has D2 kl = true ↔ has D0 kl = true ∨ ∃ s ∈ nmL (t.kids.take (i + 1)), kl = keyL s) ∧ w.grownBy w2 (some B)) := Lib.hid ⟨by rw [← HCN.out.2.1]; exact hL2, fun kl => by
              rw [hi2 kl, HI.out.2.1 kl, nmL_take HKK.out.1]
              simp only [List.mem_append]
              constructor
              · rintro ((h | ⟨s, h, e⟩) | ⟨s, h, e⟩)
                · exact .inl h
                · exact .inr ⟨s, .inl h, e⟩
                · exact .inr ⟨s, .inr h, e⟩
              · rintro (h | ⟨s, h | h, e⟩)
                · exact .inl (.inl h)
                · exact .inl (.inr ⟨s, h, e⟩)
                · exact .inr ⟨s, h, e⟩, grown_then HI.out.2.2 ⟨hg2.os, hg2.tape, hg2.output, hg2.size, hg2.block⟩⟩
            clear hL2 hi2 hg2
            go_wp2_with fail
            exact ⟨⟨i + 1, D2, by omega, by go_num, HI2⟩, by simp [intOf]; omega⟩
        · obtain rfl : i = nk := by omega
          have ht : t.kids.take i = t.kids := by rw [HNK.out]; exact List.take_length
          have h1 := HI.out
          rw [ht] at h1
          have HF := Lib.hid h1
          clear ht h1 hlt
          go_wp2_with fail
          refine bodyPost_end (v := .tuple #[]) (by simp [results, Tryz.results70, go_sem]) rfl ⟨rfl, D1, ?_, fun kl => ?_, HF.out.2.2⟩
          · have h2 := HF.out.1
            rwa [show n + 1 + cntL t.kids = n + cnt t by have := HCD.out; omega] at h2
          · rw [HF.out.2.1 kl, HL0.out.2.1 kl, nmT_eq]
            simp only [List.mem_append]
            constructor
            · rintro ((h | ⟨h, e⟩) | ⟨s, h, e⟩)
              · exact .inl h
              · exact .inr ⟨t.text, .inl (by rw [h]; simp), e⟩
              · exact .inr ⟨s, .inr h, e⟩
            · rintro (h | ⟨s, h | h, e⟩)
              · exact .inl (.inl h)
              · by_cases hk : isNm t.kind = true
                · rw [if_pos hk] at h
                  exact .inl (.inr ⟨hk, by rw [e, List.mem_singleton.1 h]⟩)
                · rw [if_neg hk] at h
                  exact absurd h List.not_mem_nil
              · exact .inr ⟨s, h, e⟩
end Go.Proofs.YtkdejffhdhcocaaGreat
