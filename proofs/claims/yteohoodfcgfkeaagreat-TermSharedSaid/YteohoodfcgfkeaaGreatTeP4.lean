/- prim.Of, by its contract: the number of a spelling. Condition: the text is within reach. -/
import Derived.Test.YteohoodfcgfkeaaGreatTeP3
import Derived.Test.YteohoodfcgfkeaaGreatTeTm
import Derived.Maps.OwnOps
import Derived.Maps.OwnSet
namespace Go.Proofs.YteohoodfcgfkeaaGreat
open Go.RowKit Go.WideMaps Go.Maps

def pairsFrom (k : Nat) : List (List UInt8) → List (List UInt8 × Int)
  | [] => []
  | c :: r => (c, (k : Int)) :: pairsFrom (k + 1) r
def pick (s : List UInt8) (a : Int) (p : List UInt8 × Int) : Int := if p.1 = s then p.2 else a
theorem opIn_none : ∀ (l : List (List UInt8)) (k : Nat) (s : List UInt8), s ∉ l → opIn l k s = 0
  | [], _, _, _ => rfl
  | c :: r, k, s, h => by
    simp only [List.mem_cons, not_or] at h
    rw [opIn, if_neg (fun e => h.1 e.symm)]
    exact opIn_none r (k + 1) s h.2
theorem fold_pairs : ∀ (l : List (List UInt8)) (k : Nat) (s : List UInt8) (acc : Int), l.Nodup → (pairsFrom k l).foldl (pick s) acc = if s ∈ l then (opIn l k s : Int) else acc
  | [], _, _, _, _ => rfl
  | c :: r, k, s, acc, h => by
    obtain ⟨h1, h2⟩ := List.nodup_cons.1 h
    simp only [pairsFrom, List.foldl_cons]
    rw [fold_pairs r (k + 1) s _ h2]
    by_cases hc : c = s
    · subst hc
      rw [if_neg h1, if_pos List.mem_cons_self, opIn, if_pos rfl]
      simp [pick]
    · have e : (s ∈ c :: r) ↔ s ∈ r := by simp [show ¬ s = c from fun e => hc e.symm]
      simp only [e, opIn, if_neg hc, pick]
def Ent.pair (e : Ent) : List UInt8 × Int := (e.s.data.toList, e.op)
theorem rows_pairs : rowsL.map Ent.pair = pairsFrom 1 spells := by kernel_rfl
theorem spells_nodup : spells.Nodup := by decide +kernel
/-- what the map holds after the first rows -/
def mapAt (k : Nat) (s : List UInt8) : Int := ((rowsL.take k).map Ent.pair).foldl (pick s) 0
theorem mapAt_all (s : List UInt8) : mapAt 43 s = (opOf s : Int) := by
  unfold mapAt
  rw [show rowsL.take 43 = rowsL from List.take_of_length_le (by decide +kernel), rows_pairs, fold_pairs _ _ _ _ spells_nodup]
  unfold opOf
  split
  · rfl
  · rename_i h; rw [opIn_none _ _ _ h]; rfl
theorem mapAt_step {k : Nat} {e : Ent} (h : rowsL[k]? = some e) (s : List UInt8) : mapAt (k + 1) s = if e.s.data.toList = s then e.op else mapAt k s := by
  unfold mapAt
  rw [List.take_add_one, h]
  simp [pick, Ent.pair]
theorem row_cells {k q : Nat} {e : Ent} {v : Value} (h : rowsL[k]? = some e) (hv : e.cells[q]? = some v) : (entsCells rowsL)[k * 12 + q]? = some v := by
  have main : ∀ (l : List Ent) (k : Nat), l[k]? = some e → (entsCells l)[k * 12 + q]? = some v := by
    intro l
    induction l with
    | nil => intro k h; simp at h
    | cons u r ih =>
      intro k h
      have hu : u.cells.toList.length = 12 := rfl
      have hq : q < 12 := by
        have := (Array.getElem?_eq_some_iff.1 hv).1
        have : e.cells.size = 12 := rfl
        omega
      simp only [entsCells, List.flatMap_cons]
      cases k with
      | zero =>
        simp only [List.getElem?_cons_zero, Option.some.injEq] at h
        subst h
        rw [Nat.zero_mul, Nat.zero_add, List.getElem?_append_left (by omega), Array.getElem?_toList]
        exact hv
      | succ k =>
        rw [List.getElem?_append_right (by omega), hu, show (k + 1) * 12 + q - 12 = k * 12 + q by omega]
        exact ih k (by simpa using h)
  exact main rowsL k h
theorem rows_wf : (rowsL.all fun e => (Lit.int .i64 e.op).wf && decide (e.s.size ≤ 8)) = true := by decide +kernel
theorem law_str : Keyed Tryz.prog 9 := string_keyed Tryz.underlying9
theorem zero_int (w : World) : (zeroValue 3).run Tryz.prog w = .ok (.int .i64 0) w := by kernel_rfl
def MapIs (D : DataW Unit) (k : Nat) : Prop := ∀ s : List UInt8, D.atKey (.string s) (.lit (.int .i64 0)) = .lit (.int .i64 (mapAt k s))
theorem MapIs.zero : MapIs (.map []) 0 := fun _ => rfl
theorem rows_len : rowsL.length = 43 := by decide +kernel
theorem MapIs.step {D : DataW Unit} {k : Nat} {e : Ent} (h : MapIs D k) (hD : IsMap D) (he : rowsL[k]? = some e) : MapIs (D.put (.string e.s.data.toList) (.lit (.int .i64 e.op))) (k + 1) := fun s => by
  rw [mapAt_step he]
  split
  · rename_i hs
    subst hs
    exact atKey_put_same hD (by simp [WideAt.IsKeyLit]) _ _
  · rename_i hs
    rw [atKey_put_other (fun e => hs (by injection e with e; exact e.symm))]
    exact h s
set_option maxRecDepth 100000 in
set_option maxHeartbeats 8000000 in
theorem of_any (s : ByteArray) (w : World) (hs : s.size ≤ 140737488351232) : Calls Tryz.prog 107 #[.string s] w fun e w' => e = .returned (.tuple #[.int .i64 (opOf s.data.toList : Nat), .bool (decide (0 < opOf s.data.toList))]) ∧ Below w.heap.size w w' := by
  have hmm := @run_makeMap Tryz.prog
  go_enter Tryz.func107, Tryz.ntmps107
  go_wp2_with fail
  refine (rows_any _).mono ?_
  rintro e w1 ⟨g, c, rfl, hr, hge, hb1⟩
  have HM : Hid (w1.ownsMap Tryz.prog 9 (plainElem (H := Unit) Tryz.prog 3) w.heap.size 0 (.map [])) := Lib.hid ((World.ownsMap_made w Tryz.prog 9 _).kept (row := none) (grown_below hb1 none) (by simp))
  have HR := Lib.hid hr
  have HG : Hid (w.heap.size < g) := Lib.hid (by have h := hge; simp at h; omega)
  have HB : Hid (Below w.heap.size w w1) := Lib.hid (((Below.refl w.heap.size w).alloc (Nat.le_refl _) _).trans (hb1.mono (by simp)))
  clear hb1 hr hge
  go_wp2_with fail
  go_loopw [11] (fun v W => ∃ (k : Nat) (D : DataW Unit), k ≤ 43 ∧ v = .int .i64 k ∧ Hid (W.ownsMap Tryz.prog 9 (plainElem (H := Unit) Tryz.prog 3) w.heap.size k D ∧ MapIs D k ∧ RowsLie W g ∧ Below w.heap.size w W)) (fun v _ => 43 - (intOf v).toNat)
  case atStart => exact ⟨0, .map [], Nat.zero_le _, rfl, Lib.hid ⟨HM.out, MapIs.zero, HR.out, HB.out⟩⟩
  case round =>
    obtain ⟨k, D, hk, rfl, HI⟩ := hrel
    have hkey0 : keyOf Tryz.prog 9 (.string s) = some (.string s.data.toList) := keyOf_string_mk Tryz.underlying9 (by unfold maxLen; omega)
    have HK0 := Lib.hid hkey0
    clear hkey0
    by_cases hlt : k < 43
    · obtain ⟨en, he⟩ : ∃ en, rowsL[k]? = some en := ⟨_, List.getElem?_eq_getElem (by rw [rows_len]; exact hlt)⟩
      have hwf := List.all_eq_true.1 rows_wf en (List.mem_of_getElem? he)
      rw [Bool.and_eq_true] at hwf
      have HWF := Lib.hid hwf
      have HE := Lib.hid he
      have HL : Hid (∀ q v, en.cells[q]? = some v → wr.cell? ⟨g, k * 12 + q, none⟩ = some v) := Lib.hid (fun q v hq => HI.out.2.2.1.2 _ _ (row_cells he hq))
      have hgl : g < wr.heap.size := HI.out.2.2.1.1
      clear he hwf
      obtain ⟨es, em, ed, ea, eb, ec, ee, eh, eco, eo⟩ := en
      have q0 : wr.cell? ⟨g, k * 12, none⟩ = some (.string es) := HL.out 0 _ rfl
      have q3 : wr.cell? ⟨g, k * 12 + 3, none⟩ = some (.int .i64 ea) := HL.out 3 _ rfl
      have q4 : wr.cell? ⟨g, k * 12 + 4, none⟩ = some (.int .i64 eb) := HL.out 4 _ rfl
      have q5 : wr.cell? ⟨g, k * 12 + 5, none⟩ = some (.int .i64 ec) := HL.out 5 _ rfl
      have q6 : wr.cell? ⟨g, k * 12 + 6, none⟩ = some (.int .i64 ee) := HL.out 6 _ rfl
      have q7 : wr.cell? ⟨g, k * 12 + 7, none⟩ = some (.bool eh) := HL.out 7 _ rfl
      have q8 : wr.cell? ⟨g, k * 12 + 8, none⟩ = some (.bool eco) := HL.out 8 _ rfl
      have q9 : wr.cell? ⟨g, k * 12 + 9, none⟩ = some (.int .i64 eo) := HL.out 9 _ rfl
      have HKE : Hid (keyOf Tryz.prog 9 (.string es) = some (.string es.data.toList)) := Lib.hid (keyOf_string_mk Tryz.underlying9 (by have := of_decide_eq_true HWF.out.2; unfold maxLen; simp only at this; omega))
      have HRL : Hid (∀ (o : Obj) (w2 : World), (wr.alloc o).grownBy w2 (some w.heap.size) → RowsLie w2 g) := Lib.hid (fun o w2 hg => by
        obtain ⟨h1, h2⟩ := HI.out.2.2.1.on ((Below.refl _ _).alloc (Nat.le_refl _) o)
        exact ⟨Nat.lt_of_lt_of_le h1 hg.size, fun j u hj => (World.cell?_of_block (a := ⟨g, j, none⟩) (hg.block g h1 (fun e => by injection e with e; have := HG.out; omega))).trans (h2 j u hj)⟩)
      have HBL : Hid (∀ (o : Obj) (w2 : World), (wr.alloc o).grownBy w2 (some w.heap.size) → Below w.heap.size w w2) := Lib.hid (fun o w2 hg => by
        have hb := HI.out.2.2.2.alloc HI.out.2.2.2.size o
        exact hb.grown hg hb.size (fun j hj => by cases hj; exact Nat.le_refl _))
      rcases em with _ | em <;> rcases ed with _ | ed
      · have q1 : wr.cell? ⟨g, k * 12 + 1, none⟩ = some (.bool false) := HL.out 1 _ rfl
        have q2 : wr.cell? ⟨g, k * 12 + 2, none⟩ = some (.bool false) := HL.out 2 _ rfl
        have q10 : wr.cell? ⟨g, k * 12 + 10, none⟩ = some (.nilFunc) := HL.out 10 _ rfl
        have q11 : wr.cell? ⟨g, k * 12 + 11, none⟩ = some (.nilFunc) := HL.out 11 _ rfl
        go_wp2_with (at_mapUpdate; refine wpList_mapUpdate_own _ rfl _ _ _ 79 rfl 9 3 law_str Tryz.underlying79 _ w.heap.size k D rfl (HI.out.1.alloc _) (by unfold maxLen; omega) _ _ _ rfl rfl HKE.out _ [] (plainElem_int Tryz.underlying3 HWF.out.1) ?_; intro w2 hown2 hgr2)
        have HN := Lib.hid (And.intro hown2 hgr2)
        clear hown2 hgr2 q1 q2 q10 q11 q0 q3 q4 q5 q6 q7 q8 q9
        go_wp2_with fail
        exact ⟨⟨k + 1, _, by omega, by go_num, Lib.hid ⟨HN.out.1, HI.out.2.1.step HI.out.1.isMap HE.out, HRL.out _ _ HN.out.2, HBL.out _ _ HN.out.2⟩⟩, by simp [intOf]; omega⟩
      · have q1 : wr.cell? ⟨g, k * 12 + 1, none⟩ = some (.bool false) := HL.out 1 _ rfl
        have q2 : wr.cell? ⟨g, k * 12 + 2, none⟩ = some (.bool true) := HL.out 2 _ rfl
        have q10 : wr.cell? ⟨g, k * 12 + 10, none⟩ = some (.nilFunc) := HL.out 10 _ rfl
        have q11 : wr.cell? ⟨g, k * 12 + 11, none⟩ = some (.func (.func ed) #[] #[]) := HL.out 11 _ rfl
        go_wp2_with (at_mapUpdate; refine wpList_mapUpdate_own _ rfl _ _ _ 79 rfl 9 3 law_str Tryz.underlying79 _ w.heap.size k D rfl (HI.out.1.alloc _) (by unfold maxLen; omega) _ _ _ rfl rfl HKE.out _ [] (plainElem_int Tryz.underlying3 HWF.out.1) ?_; intro w2 hown2 hgr2)
        have HN := Lib.hid (And.intro hown2 hgr2)
        clear hown2 hgr2 q1 q2 q10 q11 q0 q3 q4 q5 q6 q7 q8 q9
        go_wp2_with fail
        exact ⟨⟨k + 1, _, by omega, by go_num, Lib.hid ⟨HN.out.1, HI.out.2.1.step HI.out.1.isMap HE.out, HRL.out _ _ HN.out.2, HBL.out _ _ HN.out.2⟩⟩, by simp [intOf]; omega⟩
      · have q1 : wr.cell? ⟨g, k * 12 + 1, none⟩ = some (.bool true) := HL.out 1 _ rfl
        have q2 : wr.cell? ⟨g, k * 12 + 2, none⟩ = some (.bool false) := HL.out 2 _ rfl
        have q10 : wr.cell? ⟨g, k * 12 + 10, none⟩ = some (.func (.func em) #[] #[]) := HL.out 10 _ rfl
        have q11 : wr.cell? ⟨g, k * 12 + 11, none⟩ = some (.nilFunc) := HL.out 11 _ rfl
        go_wp2_with (at_mapUpdate; refine wpList_mapUpdate_own _ rfl _ _ _ 79 rfl 9 3 law_str Tryz.underlying79 _ w.heap.size k D rfl (HI.out.1.alloc _) (by unfold maxLen; omega) _ _ _ rfl rfl HKE.out _ [] (plainElem_int Tryz.underlying3 HWF.out.1) ?_; intro w2 hown2 hgr2)
        have HN := Lib.hid (And.intro hown2 hgr2)
        clear hown2 hgr2 q1 q2 q10 q11 q0 q3 q4 q5 q6 q7 q8 q9
        go_wp2_with fail
        exact ⟨⟨k + 1, _, by omega, by go_num, Lib.hid ⟨HN.out.1, HI.out.2.1.step HI.out.1.isMap HE.out, HRL.out _ _ HN.out.2, HBL.out _ _ HN.out.2⟩⟩, by simp [intOf]; omega⟩
      · have q1 : wr.cell? ⟨g, k * 12 + 1, none⟩ = some (.bool true) := HL.out 1 _ rfl
        have q2 : wr.cell? ⟨g, k * 12 + 2, none⟩ = some (.bool true) := HL.out 2 _ rfl
        have q10 : wr.cell? ⟨g, k * 12 + 10, none⟩ = some (.func (.func em) #[] #[]) := HL.out 10 _ rfl
        have q11 : wr.cell? ⟨g, k * 12 + 11, none⟩ = some (.func (.func ed) #[] #[]) := HL.out 11 _ rfl
        go_wp2_with (at_mapUpdate; refine wpList_mapUpdate_own _ rfl _ _ _ 79 rfl 9 3 law_str Tryz.underlying79 _ w.heap.size k D rfl (HI.out.1.alloc _) (by unfold maxLen; omega) _ _ _ rfl rfl HKE.out _ [] (plainElem_int Tryz.underlying3 HWF.out.1) ?_; intro w2 hown2 hgr2)
        have HN := Lib.hid (And.intro hown2 hgr2)
        clear hown2 hgr2 q1 q2 q10 q11 q0 q3 q4 q5 q6 q7 q8 q9
        go_wp2_with fail
        exact ⟨⟨k + 1, _, by omega, by go_num, Lib.hid ⟨HN.out.1, HI.out.2.1.step HI.out.1.isMap HE.out, HRL.out _ _ HN.out.2, HBL.out _ _ HN.out.2⟩⟩, by simp [intOf]; omega⟩
    · obtain rfl : k = 43 := by omega
      have HAT := Lib.hid (HI.out.2.1 s.data.toList)
      have HMA := Lib.hid (mapAt_all s.data.toList)
      clear hlt
      go_wp2_with (at_lookup; refine wpList_lookup_own_int _ rfl _ _ 79 rfl 9 3 .i64 law_str Tryz.underlying79 Tryz.underlying3 (zero_int _) w.heap.size 43 D rfl HI.out.1 _ _ rfl HK0.out ?_; intro cc hat hwc)
      have hcc : cc = (opOf s.data.toList : Nat) := by
        have h := HAT.out
        rw [hat, HMA.out] at h
        injection h with h
        injection h
      subst hcc
      clear hat hwc
      go_wp2_with fail
      go_ret2
      exact ⟨by simp, HI.out.2.2.2⟩
end Go.Proofs.YteohoodfcgfkeaaGreat
