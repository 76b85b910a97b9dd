/- inverse.plain: the map of the obverses of primitives. No condition. · slices.Clone, slices.Reverse at two terms. No condition. -/
import Derived.Test.YtkdejffhdhcocaaGreatTeIb
import Derived.Maps.StringElems
import Derived.BigRegion
namespace Go.Proofs.YtkdejffhdhcocaaGreat
open Go.RowKit Go.Maps Go.WideMaps

theorem wpList_insert_own {H : Type} {P : Program} (w : World) {ops : Array Oper} {rest : List Oper} {o : Oper} {a : Act} {Q : Exit → Act → World → Prop}
    (hg : o.guard = none) (m x v : Operand) (t : TypeId) (hop : o.op = Op.insert t m x v)
    (k e : TypeId) (K : Keyed P k) (ht : P.underlying t = some (.map k e)) (R : Value → Option (DataW H × List MemPlace)) (b n : Nat) (D : DataW H)
    (hm : a.eval m = .map (some b)) (hown : w.ownsMap P k R b n D) (hn : n < maxLen) (key val : Value) (kl : Lit) (hx : a.eval x = key) (hv : a.eval v = val) (hkey : keyOf P k key = some kl)
    (d : DataW H) (ps : List MemPlace) (hval : R val = some (d, ps))
    (hK : ∀ w', w'.ownsMap P k R b (n + 1) (D.put kl d) → w.grownBy w' (some b) → wpList P ops Q rest (a.put o.dst undef) w') :
    wpList P ops Q (o :: rest) a w := by
  refine wpList_plain hg fun K' hK' => ?_
  obtain ⟨w', hrun, r1, r2⟩ := hown.update K ht hn hkey hval
  unfold Oper.wp
  simp [execOp, hop, hm, hx, hv, hrun, Result.andThen]
  exact hK' _ _ (hK w' r1 r2)
abbrev TMs : TypeId := 68
/-- a map of texts reads as a list of pairs -/
def AsMap (D : DataW Unit) (l : List (List UInt8 × List UInt8)) : Prop := IsMap D ∧ ∀ s, Maps.has D (.string s) = (l.lookup s).isSome ∧ D.atKey (.string s) (.lit (.string [])) = .lit (.string ((l.lookup s).getD []))
theorem asMap_nil : AsMap (.map []) [] := ⟨isMap_empty, fun _ => ⟨rfl, rfl⟩⟩
theorem asMap_put {D : DataW Unit} {l : List (List UInt8 × List UInt8)} (h : AsMap D l) (k v : List UInt8) : AsMap (D.put (.string k) (.lit (.string v))) ((k, v) :: l) := by
  refine ⟨h.1.put _ _, fun s => ?_⟩
  by_cases e : s = k
  · subst e
    rw [has_put_same h.1 (show WideAt.IsKeyLit (.string s) from trivial), atKey_put_same h.1 (show WideAt.IsKeyLit (.string s) from trivial)]
    simp [List.lookup]
  · have ne : (Lit.string s) ≠ .string k := fun e' => e (by injection e')
    rw [has_put_other ne, atKey_put_other ne, (h.2 s).1, (h.2 s).2]
    have : (s == k) = false := by simpa using e
    simp [List.lookup, this]
def obvL0 : List (List UInt8 × List UInt8) := [([44, 58], [123, 46]), ([45, 58], [43, 58]), ([43, 58], [45, 58]), ([62, 58], [60, 58]), ([60, 58], [62, 58])]
def obvLs : List (List UInt8 × List UInt8) := (selfS.map fun s => (s, s)).reverse ++ obvL0
theorem lookup_none {l : List (List UInt8 × List UInt8)} {s : List UInt8} (h : s ∉ l.map (·.1)) : l.lookup s = none := by
  induction l with
  | nil => rfl
  | cons p r ih =>
    obtain ⟨a, b⟩ := p
    simp only [List.map_cons, List.mem_cons, not_or] at h
    have : (s == a) = false := by simpa using h.1
    simp only [List.lookup, this]
    exact ih h.2
theorem obvLs_eq (s : List UInt8) : obvLs.lookup s = obvS s := by
  by_cases hm : s ∈ obvLs.map (·.1)
  · have main : ∀ s ∈ obvLs.map (·.1), (obvLs.lookup s == obvS s) = true := by decide +kernel
    simpa using main s hm
  · rw [lookup_none hm]
    have hs : s ∉ selfS := fun h => hm (by
      unfold obvLs
      rw [List.map_append, List.mem_append]
      left
      rw [List.mem_map]
      exact ⟨(s, s), by rw [List.mem_reverse, List.mem_map]; exact ⟨s, h, rfl⟩, rfl⟩)
    have hk : ∀ p ∈ obvL0, s ≠ p.1 := fun p hp e => hm (by
      unfold obvLs
      rw [List.map_append, List.mem_append]
      right
      rw [List.mem_map]
      exact ⟨p, hp, e.symm⟩)
    unfold obvS
    rw [if_neg hs, if_neg (hk ([60, 58], [62, 58]) (by simp [obvL0])), if_neg (hk ([62, 58], [60, 58]) (by simp [obvL0])), if_neg (hk ([43, 58], [45, 58]) (by simp [obvL0])), if_neg (hk ([45, 58], [43, 58]) (by simp [obvL0])), if_neg (hk ([44, 58], [123, 46]) (by simp [obvL0]))]
/-- the map of the obverses -/
structure ObvMap (w : World) (B : Nat) : Prop where
  own : ∃ n D, w.ownsMap Tryz.prog TSt (plainElem Tryz.prog TSt) B n D ∧ AsMap D obvLs
theorem ObvMap.on {w w' : World} {B : Nat} (h : ObvMap w B) (hb : Below w.heap.size w w') : ObvMap w' B := by
  obtain ⟨n, D, h1, h2⟩ := h.own
  exact ⟨n, D, h1.kept (grown_below hb none) (by simp), h2⟩
theorem zeroS (w : World) : (zeroValue TSt).run Tryz.prog w = .ok (.string ⟨#[]⟩) w := by kernel_rfl
/-- a look-up -/
theorem ObvMap.look {w : World} {B : Nat} (h : ObvMap w B) (s : ByteArray) (hs : s.size ≤ maxLen) : (Instr.lookup TMs (.map (some B)) (.string s) true).run Tryz.prog w = .ok (.tuple #[.string ⟨((obvS s.data.toList).getD []).toArray⟩, .bool (obvS s.data.toList).isSome]) w := by
  obtain ⟨n, D, h1, h2⟩ := h.own
  obtain ⟨v, ps, hr, hv⟩ := h1.look_ok lawS Tryz.underlying68 (zeroS w) (zd := .lit (.string [])) (zp := []) (plainElem_string Tryz.underlying9 (by unfold maxLen; decide)) (key_of s hs)
  have h3 := h2.2 s.data.toList
  rw [show keyL s = .string s.data.toList from rfl, h3.1, obvLs_eq] at hr
  rw [show keyL s = .string s.data.toList from rfl, h3.2, obvLs_eq] at hv
  rw [hr]
  have : v = .string ⟨((obvS s.data.toList).getD []).toArray⟩ := by
    obtain ⟨x, rfl, e, _⟩ := plainElem_string_inv Tryz.underlying9 hv
    simp only [Prod.mk.injEq, DataW.lit.injEq, Lit.string.injEq] at e
    rw [e.1]
  rw [this]
/-- a pair of texts more, in the map's literal -/
theorem wpList_insert_str {w0 : World} (w : World) {ops : Array Oper} {rest : List Oper} {o : Oper} {a : Act} {Q : Exit → Act → World → Prop}
    (hg : o.guard = none) (m : Operand) (s v : ByteArray) (hop : o.op = Op.insert TMs m (.const (.string s)) (.const (.string v))) (b n : Nat) (D : DataW Unit) (l : List (List UInt8 × List UInt8))
    (hm : a.eval m = .map (some b)) (HM : Hid (w.ownsMap Tryz.prog TSt (plainElem Tryz.prog TSt) b n D ∧ AsMap D l ∧ Below w0.heap.size w0 w)) (hb : w0.heap.size ≤ b) (hn : n ≤ 100) (hs : s.size ≤ 100) (hv : v.size ≤ 100)
    (hK : ∀ w' D', Hid (w'.ownsMap Tryz.prog TSt (plainElem Tryz.prog TSt) b (n + 1) D' ∧ AsMap D' ((s.data.toList, v.data.toList) :: l) ∧ Below w0.heap.size w0 w') → wpList Tryz.prog ops Q rest (a.put o.dst undef) w') :
    wpList Tryz.prog ops Q (o :: rest) a w :=
  wpList_insert_own w hg m _ _ TMs hop TSt TSt lawS Tryz.underlying68 _ b n D hm HM.out.1 (by unfold maxLen; omega) _ _ _ rfl rfl (key_of s (by unfold maxLen; omega)) _ [] (plainElem_string Tryz.underlying9 (s := v) (by unfold maxLen; omega)) fun w' h1 h2 =>
    hK w' _ (Lib.hid ⟨h1, asMap_put HM.out.2.1 _ _, HM.out.2.2.grown h2 HM.out.2.2.size (fun j hj => by cases hj; exact hb)⟩)
theorem wpList_update_str {w0 : World} (w : World) {ops : Array Oper} {rest : List Oper} {o : Oper} {a : Act} {Q : Exit → Act → World → Prop}
    (hg : o.guard = none) (m x y : Operand) (hop : o.op = Op.mapUpdate TMs m x y) (s v : ByteArray) (b n : Nat) (D : DataW Unit) (l : List (List UInt8 × List UInt8))
    (hm : a.eval m = .map (some b)) (hx : a.eval x = .string s) (hy : a.eval y = .string v) (HM : Hid (w.ownsMap Tryz.prog TSt (plainElem Tryz.prog TSt) b n D ∧ AsMap D l ∧ Below w0.heap.size w0 w)) (hb : w0.heap.size ≤ b) (hn : n ≤ 100) (hs : s.size ≤ 100) (hv : v.size ≤ 100)
    (hK : ∀ w' D', Hid (w'.ownsMap Tryz.prog TSt (plainElem Tryz.prog TSt) b (n + 1) D' ∧ AsMap D' ((s.data.toList, v.data.toList) :: l) ∧ Below w0.heap.size w0 w') → w.grownBy w' (some b) → wpList Tryz.prog ops Q rest (a.put o.dst undef) w') :
    wpList Tryz.prog ops Q (o :: rest) a w :=
  wpList_mapUpdate_own w hg m _ _ TMs hop TSt TSt lawS Tryz.underlying68 _ b n D hm HM.out.1 (by unfold maxLen; omega) _ _ _ hx hy (key_of s (by unfold maxLen; omega)) _ [] (plainElem_string Tryz.underlying9 (s := v) (by unfold maxLen; omega)) fun w' h1 h2 =>
    hK w' _ (Lib.hid ⟨h1, asMap_put HM.out.2.1 _ _, HM.out.2.2.grown h2 HM.out.2.2.size (fun j hj => by cases hj; exact hb)⟩) h2
def selfB : List ByteArray := [⟨#[43]⟩, ⟨#[45]⟩, ⟨#[60, 46]⟩, ⟨#[62, 46]⟩, ⟨#[45, 46]⟩, ⟨#[124, 46]⟩, ⟨#[124, 58]⟩, ⟨#[91]⟩, ⟨#[93]⟩]
def obvUp (j : Nat) : List (List UInt8 × List UInt8) := ((selfB.take j).map fun s => (s.data.toList, s.data.toList)).reverse ++ obvL0
theorem obvUp_step {j : Nat} {s : ByteArray} (h : selfB[j]? = some s) : obvUp (j + 1) = (s.data.toList, s.data.toList) :: obvUp j := by
  unfold obvUp
  rw [List.take_add_one, h]
  simp
theorem selfB_small : ∀ s ∈ selfB, s.size ≤ 100 := by decide +kernel
set_option maxRecDepth 100000 in
set_option maxHeartbeats 8000000 in
theorem plain_any (w : World) : Calls Tryz.prog 40 #[] w fun e w' => ∃ B, e = .returned (.map (some B)) ∧ w.heap.size ≤ B ∧ ObvMap w' B ∧ Below w.heap.size w w' := by
  have hmm := @run_makeMap Tryz.prog
  have HM : Hid ((w.alloc (.map #[] 0)).ownsMap Tryz.prog TSt (plainElem Tryz.prog TSt) w.heap.size 0 (.map [] : DataW Unit) ∧ AsMap (.map []) [] ∧ Below w.heap.size w (w.alloc (.map #[] 0))) := Lib.hid ⟨World.ownsMap_made _ _ _ _, asMap_nil, (Below.refl _ _).alloc (Nat.le_refl _) _⟩
  go_enter Tryz.func40, Tryz.ntmps40
  go_wp2_with (refine wpList_insert_str _ rfl _ _ _ rfl w.heap.size _ _ _ rfl HM (Nat.le_refl _) ?_ ?_ ?_ ?_; decide; decide; decide; intro w1 D1 HM1; clear HM; have HM := HM1; clear HM1)
  obtain ⟨cs, hcs⟩ : ∃ cs : Array Value, cs = #[Value.string ⟨#[43]⟩, Value.string ⟨#[45]⟩, Value.string ⟨#[60, 46]⟩, Value.string ⟨#[62, 46]⟩, Value.string ⟨#[45, 46]⟩, Value.string ⟨#[124, 46]⟩, Value.string ⟨#[124, 58]⟩, Value.string ⟨#[91]⟩, Value.string ⟨#[93]⟩] := ⟨_, rfl⟩
  have HCS : Hid (∀ j s, selfB[j]? = some s → cs[j]? = some (Value.string s)) := Lib.hid fun j s h => by
    have e : cs = (selfB.map Value.string).toArray := by rw [hcs]; rfl
    rw [e, List.getElem?_toArray, List.getElem?_map, h]
    rfl
  obtain ⟨W0, hW0⟩ : ∃ W0, W0 = w1.alloc (.cells cs TSt) := ⟨_, rfl⟩
  have hx0 : W0.heap[w1.heap.size]? = some (.cells cs TSt (0, 0)) := by rw [hW0]; exact heap_alloc_new w1 _
  have hb0 : Below w1.heap.size w1 W0 := by rw [hW0]; exact (Below.refl _ _).alloc (Nat.le_refl _) _
  have H0 : Hid (W0.ownsMap Tryz.prog TSt (plainElem Tryz.prog TSt) w.heap.size 5 D1 ∧ AsMap D1 (obvUp 0) ∧ Below w.heap.size w W0) := Lib.hid ⟨HM.out.1.kept (grown_below hb0 none) (by simp), HM.out.2.1, HM.out.2.2.trans (hb0.mono HM.out.2.2.size)⟩
  have HX0 := Lib.hid hx0
  have hlt0 : w.heap.size < w1.heap.size := HM.out.1.lt
  rw [← hcs, ← hW0]
  clear HM hx0 hb0 hW0 hcs
  go_loopw [8] (fun v8 W => ∃ (j : Nat) (D : DataW Unit), j ≤ 9 ∧ v8 = .int .i64 j ∧ Hid (W.ownsMap Tryz.prog TSt (plainElem Tryz.prog TSt) w.heap.size (5 + j) D ∧ AsMap D (obvUp j) ∧ Below w.heap.size w W) ∧ Hid (W.heap[w1.heap.size]? = some (.cells cs TSt (0, 0)))) (fun v8 _ => 9 - (intOf v8).toNat)
  case atStart => exact ⟨0, D1, Nat.zero_le _, rfl, H0, HX0⟩
  case round =>
    obtain ⟨j, D, hj, rfl, HM, HX⟩ := hrel
    by_cases hlt : j < 9
    · obtain ⟨s, hs⟩ : ∃ s, selfB[j]? = some s := ⟨_, List.getElem?_eq_getElem hlt⟩
      have c1 := cell_at HX.out (HCS.out j s hs)
      have q1 : (0 : Int) ≤ (j : Int) := by omega
      have q2 : (j : Int) < 9 := by omega
      have hs100 := selfB_small s (List.mem_of_getElem? hs)
      have HS := Lib.hid hs
      clear hs
      go_wp2_with (refine wpList_update_str _ rfl _ _ _ rfl s s w.heap.size _ _ _ rfl rfl rfl HM (Nat.le_refl _) ?_ hs100 hs100 ?_; omega; intro w2 D2 HM2 hg2)
      refine ⟨⟨j + 1, D2, by omega, by go_num, ?_, Lib.hid ((hg2.block _ (heap_lt HX.out) (by simp; omega)).trans HX.out)⟩, by simp [intOf]; omega⟩
      rw [obvUp_step HS.out, ← Nat.add_assoc]
      exact HM2
    · obtain rfl : j = 9 := by omega
      clear hlt
      go_wp2_with fail
      go_ret
      exact ⟨w.heap.size, rfl, Nat.le_refl _, ⟨_, _, HM.out.1, HM.out.2.1⟩, HM.out.2.2⟩
end Go.Proofs.YtkdejffhdhcocaaGreat

namespace Go.Proofs.YtkdejffhdhcocaaGreat
open Go.RowKit

/-- twelve cells of a block -/
def TwoAt (w : World) (g off : Nat) (vs : List Value) : Prop := ∀ j v, vs[j]? = some v → w.cell? ⟨g, off + j, none⟩ = some v
set_option maxRecDepth 100000 in
set_option maxHeartbeats 4000000 in
theorem clone_two (x y : Tm) (p q : Rt) (bk ok ck : Nat) (w : World) (hlt : bk < w.heap.size) (hA : TwoAt w bk ok (rtCellsL [x, y] [p, q])) :
    Calls Tryz.prog 87 #[.slice (some ⟨bk, ok, none⟩) 2 ck] w fun e w' => ∃ g cap, e = .returned (.slice (some ⟨g, 0, none⟩) 2 cap) ∧ w.heap.size ≤ g ∧ g < w'.heap.size ∧ (∀ j, w'.frozen? ⟨g, j, none⟩ = false) ∧ TwoAt w' g 0 (rtCellsL [x, y] [p, q]) ∧ Below w.heap.size w w' := by
  obtain ⟨W1, hW1⟩ : ∃ W1, W1 = w.alloc (.cells #[] TTm) := ⟨_, rfl⟩
  have hb1 : Below w.heap.size w W1 := by rw [hW1]; exact (Below.refl _ _).alloc (Nat.le_refl _) _
  have HS1 : Hid (W1.heap.size = w.heap.size + 1) := Lib.hid (by rw [hW1]; simp)
  have HOWN : Hid (W1.ownsRow w.heap.size TTm 6 (.slice (some ⟨w.heap.size, 0, none⟩) 0 0) 0 []) := Lib.hid (by rw [hW1]; exact World.ownsRow_made w #[] 0 (Nat.le_refl _) (Nat.zero_le _) rfl)
  have HNEW : Hid (∀ j u, (rtCellsL [x, y] [p, q])[j]? = some u → W1.cell? ((⟨bk, ok, none⟩ : Addr).add j) = some u) := Lib.hid fun j u hu => by
    have e2 : (⟨bk, ok, none⟩ : Addr).add j = ⟨bk, ok + j, none⟩ := by unfold Addr.add; split <;> simp_all
    rw [e2]
    exact (hb1.cell (p := ⟨bk, ok + j, none⟩) hlt).trans (hA j u hu)
  have HONE : Hid (∀ u ∈ rtCellsL [x, y] [p, q], u.oneCell' = true) := Lib.hid fun u hu => by
    simp only [rtCellsL, rtCells, List.append_nil, List.cons_append, List.nil_append, List.mem_cons, List.not_mem_nil, or_false] at hu
    rcases hu with rfl | rfl | rfl | rfl | rfl | rfl | rfl | rfl | rfl | rfl | rfl | rfl <;> rfl
  have HB1 := Lib.hid hb1
  have HW1 := Lib.hid hW1
  obtain ⟨j0, hj, hz0, hz1, hz2⟩ := info_parts info_tm
  have hnil : ∀ W, (binOp .eql 22 (.slice (some ⟨bk, ok, none⟩) 2 ck) (.slice none 0 0)).run Tryz.prog W = .ok (.bool false) W := fun W => Lib.run_eql_slice_nil W _ _ (some ⟨bk, ok, none⟩) 2 ck 0 0 Tryz.underlying22
  clear hA hb1 hW1
  go_enter Tryz.func87, Tryz.ntmps87
  go_wp2_with (at_builtin; rw [← HW1.out]; refine wpList_append_own _ rfl (.tmp 5) (.tmp 6) 22 rfl w.heap.size TTm j0 (.agg tm0) 6 104 Tryz.underlying22 hj hz0 hz1 hz2 rfl (by decide) (.slice (some ⟨w.heap.size, 0, none⟩) 0 0) 0 [] rfl HOWN.out ⟨bk, ok, none⟩ 2 ck (rtCellsL [x, y] [p, q]) rfl rfl HNEW.out HONE.out (by unfold maxLen; omega) (by omega) (by rw [HS1.out]; omega) ?_)
  intro v' w' hown' hgr' _
  have hb' := HB1.out.grown hgr' HB1.out.size (fun k hk => (HOWN.out.lt k hk).1)
  rcases hown'.2 with ⟨_, h0⟩ | ⟨g, cap, cur, rfl, hg, hc, h1, h2, h3, h4⟩
  · omega
  have HR := Lib.hid (And.intro hg (And.intro hc (And.intro h4 hb')))
  clear hown' hgr' hg hc h1 h2 h3 h4 hb'
  go_wp2_with fail
  go_ret
  refine ⟨g, cap, rfl, HR.out.1, heap_lt HR.out.2.1, fun j => unfrozen HR.out.2.1 j, fun j v hv => ?_, HR.out.2.2.2⟩
  rw [Nat.zero_add]
  refine cell_at HR.out.2.1 ?_
  have h5 : (cur.toList.take ((0 + 2) * 6))[j]? = some v := by rw [HR.out.2.2.1]; exact hv
  rw [List.getElem?_take] at h5
  split at h5
  · simpa using h5
  · cases h5
set_option maxRecDepth 100000 in
set_option maxHeartbeats 8000000 in
theorem reverse_two (x y : Tm) (p q : Rt) (g cap : Nat) (w : World) (hf : ∀ j, w.frozen? ⟨g, j, none⟩ = false) (hA : TwoAt w g 0 (rtCellsL [x, y] [p, q])) :
    Calls Tryz.prog 88 #[.slice (some ⟨g, 0, none⟩) 2 cap] w fun e w' => e = .returned (.tuple #[]) ∧ TwoAt w' g 0 (rtCellsL [y, x] [q, p]) ∧ ∀ B, B ≤ g → Below B w w' := by
  have c0 : w.cell? ⟨g, 0, none⟩ = some (.int .i64 x.kind) := hA 0 _ rfl
  have c1 : w.cell? ⟨g, 1, none⟩ = some (.string x.text) := hA 1 _ rfl
  have c2 : w.cell? ⟨g, 2, none⟩ = some (.int .i64 x.n) := hA 2 _ rfl
  have c3 : w.cell? ⟨g, 3, none⟩ = some (.slice p.s.p p.s.n p.s.c) := hA 3 _ rfl
  have c4 : w.cell? ⟨g, 4, none⟩ = some (.slice p.a.p p.a.n p.a.c) := hA 4 _ rfl
  have c5 : w.cell? ⟨g, 5, none⟩ = some (.slice p.k.p p.k.n p.k.c) := hA 5 _ rfl
  have c6 : w.cell? ⟨g, 6, none⟩ = some (.int .i64 y.kind) := hA 6 _ rfl
  have c7 : w.cell? ⟨g, 7, none⟩ = some (.string y.text) := hA 7 _ rfl
  have c8 : w.cell? ⟨g, 8, none⟩ = some (.int .i64 y.n) := hA 8 _ rfl
  have c9 : w.cell? ⟨g, 9, none⟩ = some (.slice q.s.p q.s.n q.s.c) := hA 9 _ rfl
  have c10 : w.cell? ⟨g, 10, none⟩ = some (.slice q.a.p q.a.n q.a.c) := hA 10 _ rfl
  have c11 : w.cell? ⟨g, 11, none⟩ = some (.slice q.k.p q.k.n q.k.c) := hA 11 _ rfl
  have HA := Lib.hid hA
  clear hA
  go_enter Tryz.func88, Tryz.ntmps88
  go_wp2_with fail
  refine wp_loop_rounds 2 ?_
  rw [rounds_succ]
  go_wp2_with fail
  go_region
  go_wp2_with fail
  rw [rounds_succ]
  go_wp2_with fail
  refine bodyPost_end (results_none rfl _ _ _) rfl ⟨rfl, fun j v hv => ?_, fun B hB => ?_⟩
  · rw [Nat.zero_add]
    match j, hv with
    | 0, hv =>
      obtain rfl := Option.some.inj hv
      go_simp
    | 1, hv =>
      obtain rfl := Option.some.inj hv
      go_simp
    | 2, hv =>
      obtain rfl := Option.some.inj hv
      go_simp
    | 3, hv =>
      obtain rfl := Option.some.inj hv
      go_simp
    | 4, hv =>
      obtain rfl := Option.some.inj hv
      go_simp
    | 5, hv =>
      obtain rfl := Option.some.inj hv
      go_simp
    | 6, hv =>
      obtain rfl := Option.some.inj hv
      go_simp
    | 7, hv =>
      obtain rfl := Option.some.inj hv
      go_simp
    | 8, hv =>
      obtain rfl := Option.some.inj hv
      go_simp
    | 9, hv =>
      obtain rfl := Option.some.inj hv
      go_simp
    | 10, hv =>
      obtain rfl := Option.some.inj hv
      go_simp
    | 11, hv =>
      obtain rfl := Option.some.inj hv
      go_simp
  · exact (((((((((((((Below.refl _ _).setCell hB _).setCell hB _).setCell hB _).setCell hB _).setCell hB _).setCell hB _).setCell hB _).setCell hB _).setCell hB _).setCell hB _).setCell hB _).setCell hB _).drew
end Go.Proofs.YtkdejffhdhcocaaGreat
