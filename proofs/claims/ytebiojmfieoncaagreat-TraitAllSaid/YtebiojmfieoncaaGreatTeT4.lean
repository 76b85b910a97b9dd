/- trait.valences: in which valences a primitive is total. No condition. -/
import Derived.Test.YtebiojmfieoncaaGreatTeT0
import Derived.Test.YtebiojmfieoncaaGreatTeMN
namespace Go.Proofs.YtebiojmfieoncaaGreat
open Go.RowKit Go.WideMaps Go.Maps

def tot1 : List ByteArray := [⟨#[43]⟩, ⟨#[42]⟩, ⟨#[60, 46]⟩, ⟨#[62, 46]⟩, ⟨#[35]⟩, ⟨#[36]⟩, ⟨#[44]⟩, ⟨#[44, 46]⟩, ⟨#[123, 46]⟩, ⟨#[123, 58]⟩, ⟨#[125, 46]⟩, ⟨#[125, 58]⟩, ⟨#[124, 46]⟩, ⟨#[124, 58]⟩, ⟨#[126, 46]⟩, ⟨#[126, 58]⟩, ⟨#[47, 58]⟩, ⟨#[92, 58]⟩, ⟨#[91]⟩, ⟨#[93]⟩]
def tot2 : List ByteArray := [⟨#[91]⟩, ⟨#[93]⟩, ⟨#[45, 58]⟩, ⟨#[105, 46]⟩, ⟨#[101, 46]⟩, ⟨#[45, 46]⟩]
def lst1 : List (List UInt8) := tot1.map fun s => s.data.toList
def lst2 : List (List UInt8) := tot2.map fun s => s.data.toList
/-- what the map holds after i names of the first list, and j of the second -/
def valIJ (i j : Nat) (s : List UInt8) : Int := (if s ∈ lst1.take i then 1 else 0) + (if s ∈ lst2.take j then 2 else 0)
def valM (s : List UInt8) : Int := valIJ 20 6 s
def ValIs (D : DataW Unit) (i j : Nat) : Prop := ∀ s : List UInt8, D.atKey (.string s) (.lit (.int .i64 0)) = .lit (.int .i64 (valIJ i j s))
theorem ValIs.zero : ValIs (.map []) 0 0 := fun s => by simp [valIJ, DataW.atKey]
theorem lst1_new : ((List.range 20).all fun i => !((lst1.take i).contains (lst1.getD i []))) = true := by decide +kernel
theorem lst2_new : ((List.range 6).all fun i => !((lst2.take i).contains (lst2.getD i [])) && (lst1.contains (lst2.getD i []) == decide (i < 2))) = true := by decide +kernel
theorem lst1_len : lst1.length = 20 := by decide +kernel
theorem lst2_len : lst2.length = 6 := by decide +kernel
theorem tot1_len : tot1.length = 20 := rfl
theorem tot2_len : tot2.length = 6 := rfl
theorem lst1_at {i : Nat} {b : ByteArray} (h : tot1[i]? = some b) : lst1[i]? = some b.data.toList := by unfold lst1; rw [List.getElem?_map, h]; rfl
theorem lst2_at {i : Nat} {b : ByteArray} (h : tot2[i]? = some b) : lst2[i]? = some b.data.toList := by unfold lst2; rw [List.getElem?_map, h]; rfl
theorem one_new {i : Nat} {b : ByteArray} (h : tot1[i]? = some b) : b.data.toList ∉ lst1.take i := by
  have hl := (List.getElem?_eq_some_iff.1 h).1
  rw [tot1_len] at hl
  have := List.all_eq_true.1 lst1_new i (List.mem_range.2 hl)
  rw [List.getD_eq_getElem?_getD, lst1_at h] at this
  simpa using this
theorem two_new {i : Nat} {b : ByteArray} (h : tot2[i]? = some b) : b.data.toList ∉ lst2.take i ∧ (b.data.toList ∈ lst1 ↔ i < 2) := by
  have hl := (List.getElem?_eq_some_iff.1 h).1
  rw [tot2_len] at hl
  have := List.all_eq_true.1 lst2_new i (List.mem_range.2 hl)
  rw [List.getD_eq_getElem?_getD, lst2_at h] at this
  simp only [Option.getD_some, Bool.and_eq_true, beq_iff_eq] at this
  refine ⟨by simpa using this.1, ?_⟩
  have h2 := this.2
  constructor
  · intro hm
    rw [show lst1.contains b.data.toList = true by simpa using hm] at h2
    exact of_decide_eq_true h2.symm
  · intro hi
    rw [decide_eq_true hi] at h2
    simpa using h2
theorem val_one {i : Nat} {b : ByteArray} (h : tot1[i]? = some b) (s : List UInt8) : valIJ (i + 1) 0 s = if b.data.toList = s then 1 else valIJ i 0 s := by
  unfold valIJ
  rw [show lst1.take (i + 1) = lst1.take i ++ [b.data.toList] by rw [List.take_add_one (l := lst1) (i := i), lst1_at h]; rfl]
  simp only [List.mem_append, List.mem_singleton]
  by_cases e : b.data.toList = s
  · subst e; simp
  · have e' : ¬ s = b.data.toList := fun h => e h.symm
    simp [e, e']
theorem val_two {j : Nat} {b : ByteArray} (h : tot2[j]? = some b) (s : List UInt8) : valIJ 20 (j + 1) s = if b.data.toList = s then valIJ 20 j s + 2 else valIJ 20 j s := by
  unfold valIJ
  rw [show lst2.take (j + 1) = lst2.take j ++ [b.data.toList] by rw [List.take_add_one (l := lst2) (i := j), lst2_at h]; rfl]
  simp only [List.mem_append, List.mem_singleton]
  by_cases e : b.data.toList = s
  · subst e; simp [(two_new h).1]
  · have e' : ¬ s = b.data.toList := fun h => e h.symm
    simp [e, e']
theorem ValIs.one {D : DataW Unit} {i : Nat} {b : ByteArray} (h : ValIs D i 0) (hD : IsMap D) (hb : tot1[i]? = some b) : ValIs (D.put (.string b.data.toList) (.lit (.int .i64 1))) (i + 1) 0 := fun s => by
  rw [val_one hb]
  split
  · rename_i hs
    subst hs
    exact atKey_put_same hD (by simp [WideAt.IsKeyLit]) _ _
  · rename_i hs
    rw [atKey_put_other (fun e => hs (by injection e with e; exact e.symm))]
    exact h s
theorem ValIs.two {D : DataW Unit} {j : Nat} {b : ByteArray} {c : Int} (h : ValIs D 20 j) (hD : IsMap D) (hb : tot2[j]? = some b) (hc : c = valIJ 20 j b.data.toList + 2) : ValIs (D.put (.string b.data.toList) (.lit (.int .i64 c))) 20 (j + 1) := fun s => by
  rw [val_two hb]
  split
  · rename_i hs
    subst hs
    rw [hc]
    exact atKey_put_same hD (by simp [WideAt.IsKeyLit]) _ _
  · rename_i hs
    rw [atKey_put_other (fun e => hs (by injection e with e; exact e.symm))]
    exact h s
theorem lst_size : (tot1.all fun s => decide (s.size ≤ 8)) = true ∧ (tot2.all fun s => decide (s.size ≤ 8)) = true := by constructor <;> decide +kernel
set_option maxRecDepth 100000 in
set_option maxHeartbeats 8000000 in
theorem valences_any (w : World) : Calls Tryz.prog 67 #[] w fun e w' => ∃ (B n : Nat) (D : DataW Unit), e = .returned (.map (some B)) ∧ w'.ownsMap Tryz.prog TSt (plainElem (H := Unit) Tryz.prog TIt) B n D ∧ ValIs D 20 6 ∧ w.heap.size ≤ B ∧ n ≤ 26 ∧ Below w.heap.size w w' := by
  have hmm := @run_makeMap Tryz.prog
  have ho1 : bits BinOp.or IntKind.i64 0 1 = 1 := by decide
  have ho2 : bits BinOp.or IntKind.i64 0 2 = 2 := by decide
  have ho3 : bits BinOp.or IntKind.i64 1 2 = 3 := by decide
  go_enter Tryz.func67, Tryz.ntmps67
  obtain ⟨W2, hW2⟩ : ∃ W2, W2 = (w.alloc (.map #[] 0)).alloc (.cells (tot1.map Value.string).toArray TSt) := ⟨_, rfl⟩
  have hm2 : W2.ownsMap Tryz.prog TSt (plainElem (H := Unit) Tryz.prog TIt) w.heap.size 0 (.map []) := by rw [hW2]; exact (World.ownsMap_made w Tryz.prog TSt _).kept (row := none) (grown_below ((Below.refl _ _).alloc (Nat.le_refl _) _) none) (by simp)
  have hg2 : W2.heap[w.heap.size + 1]? = some (.cells (tot1.map Value.string).toArray TSt (0, 0)) := by rw [hW2]; exact heap_new2 _ _ _
  have hb2 : Below w.heap.size w W2 := by rw [hW2]; exact ((Below.refl _ _).alloc (Nat.le_refl _) _).alloc (by simp) _
  have H2 := Lib.hid (And.intro hm2 (And.intro hg2 hb2))
  have HW2 := Lib.hid hW2
  clear hm2 hg2 hb2 hW2
  go_upto_region 3 with fail
  refine HW2.out ▸ ?_
  go_loopw [9] (fun v W => ∃ (i : Nat) (D : DataW Unit), i ≤ 20 ∧ v = .int .i64 i ∧ Hid (W.ownsMap Tryz.prog TSt (plainElem (H := Unit) Tryz.prog TIt) w.heap.size i D ∧ ValIs D i 0 ∧ W.heap[w.heap.size + 1]? = some (.cells (tot1.map Value.string).toArray TSt (0, 0)) ∧ Below w.heap.size w W)) (fun v _ => 20 - (intOf v).toNat)
  case atStart => exact ⟨0, .map [], Nat.zero_le _, rfl, Lib.hid ⟨H2.out.1, ValIs.zero, H2.out.2.1, H2.out.2.2⟩⟩
  case round =>
    obtain ⟨i, D, hi, rfl, HI⟩ := hrel
    by_cases hlt : i < 20
    · obtain ⟨sb, hs⟩ : ∃ sb, tot1[i]? = some sb := ⟨_, List.getElem?_eq_getElem (by rw [tot1_len]; exact hlt)⟩
      have HS := Lib.hid hs
      have c0 : wr.cell? ⟨w.heap.size + 1, i, none⟩ = some (.string sb) := cell_at HI.out.2.2.1 (by rw [List.getElem?_toArray, List.getElem?_map, hs]; rfl)
      have hgl := heap_lt HI.out.2.2.1
      have HKE : Hid (keyOf Tryz.prog 9 (.string sb) = some (.string sb.data.toList)) := Lib.hid (keyOf_string_mk Tryz.underlying9 (by have := of_decide_eq_true (List.all_eq_true.1 lst_size.1 sb (List.mem_of_getElem? hs)); unfold maxLen; omega))
      have HAT : Hid (D.atKey (.string sb.data.toList) (.lit (.int .i64 0)) = .lit (.int .i64 0)) := Lib.hid (by rw [HI.out.2.1]; unfold valIJ; simp [one_new hs])
      have b1 : (0 : Int) ≤ (i : Int) := by omega
      have b2 : (i : Int) < 20 := by omega
      clear hs
      obtain ⟨cc, hrun, hat, _⟩ := HI.out.1.lookup_int lawS Tryz.underlying91 Tryz.underlying3 (zeroI _) HKE.out
      have hcc : cc = 0 := by
        have h := HAT.out
        rw [hat] at h
        injection h with h
        injection h
      subst hcc
      obtain ⟨w2, hupd, hown2, hgr2⟩ := HI.out.1.update lawS Tryz.underlying91 (by unfold maxLen; omega) HKE.out (plainElem_int Tryz.underlying3 (show (Lit.int .i64 1).wf = true by decide))
      have HN := Lib.hid (And.intro hown2 hgr2)
      clear hat
      clear hown2 hgr2
      go_wp2_with fail
      exact ⟨⟨i + 1, _, by omega, by go_num, Lib.hid ⟨HN.out.1, HI.out.2.1.one HI.out.1.isMap HS.out, (HN.out.2.block _ (heap_lt HI.out.2.2.1) (fun e => by injection e with e; omega)).trans HI.out.2.2.1, HI.out.2.2.2.grown HN.out.2 HI.out.2.2.2.size (fun j hj => by cases hj; exact Nat.le_refl _)⟩⟩, by simp [intOf]; omega⟩
    · obtain rfl : i = 20 := by omega
      obtain ⟨W7, hW7⟩ : ∃ W, W = wr.alloc (.cells (tot2.map Value.string).toArray TSt) := ⟨_, rfl⟩
      obtain ⟨g, hg⟩ : ∃ g, g = wr.heap.size := ⟨_, rfl⟩
      have hg7 : W7.heap[g]? = some (.cells (tot2.map Value.string).toArray TSt (0, 0)) := by rw [hW7, hg]; exact heap_alloc_new wr _
      have hb7 : Below wr.heap.size wr W7 := by rw [hW7]; exact (Below.refl _ _).alloc (Nat.le_refl _) _
      have H7 : Hid (W7.ownsMap Tryz.prog TSt (plainElem (H := Unit) Tryz.prog TIt) w.heap.size 20 D ∧ ValIs D 20 0 ∧ W7.heap[g]? = some (.cells (tot2.map Value.string).toArray TSt (0, 0)) ∧ Below w.heap.size w W7 ∧ w.heap.size < g) := Lib.hid ⟨HI.out.1.kept (row := none) (grown_below hb7 none) (by simp), HI.out.2.1, hg7, HI.out.2.2.2.then_ hb7, by have := heap_lt HI.out.2.2.1; omega⟩
      have HW7 := Lib.hid (And.intro hW7 hg)
      clear hlt hg7 hb7 hW7 hg HI
      go_upto_region 8 with fail
      rw [← HW7.out.2]
      refine HW7.out.1 ▸ ?_
      obtain ⟨W0, rfl⟩ : ∃ W0, W0 = wr := ⟨_, rfl⟩
      go_loopw [20] (fun v W => ∃ (i : Nat) (D : DataW Unit), i ≤ 6 ∧ v = .int .i64 i ∧ Hid (W.ownsMap Tryz.prog TSt (plainElem (H := Unit) Tryz.prog TIt) w.heap.size (20 + i) D ∧ ValIs D 20 i ∧ W.heap[g]? = some (.cells (tot2.map Value.string).toArray TSt (0, 0)) ∧ Below w.heap.size w W ∧ w.heap.size < g)) (fun v _ => 6 - (intOf v).toNat)
      case atStart => exact ⟨0, D, Nat.zero_le _, rfl, H7⟩
      case round =>
        clear H7
        obtain ⟨i, D, hi, rfl, HI⟩ := hrel
        by_cases hlt : i < 6
        · obtain ⟨sb, hs⟩ : ∃ sb, tot2[i]? = some sb := ⟨_, List.getElem?_eq_getElem (by rw [tot2_len]; exact hlt)⟩
          have HS := Lib.hid hs
          have c0 : wr.cell? ⟨g, i, none⟩ = some (.string sb) := cell_at HI.out.2.2.1 (by rw [List.getElem?_toArray, List.getElem?_map, hs]; rfl)
          have hgl := heap_lt HI.out.2.2.1
          have HKE : Hid (keyOf Tryz.prog 9 (.string sb) = some (.string sb.data.toList)) := Lib.hid (keyOf_string_mk Tryz.underlying9 (by have := of_decide_eq_true (List.all_eq_true.1 lst_size.2 sb (List.mem_of_getElem? hs)); unfold maxLen; omega))
          have HV : Hid (valIJ 20 i sb.data.toList = if i < 2 then 1 else 0) := Lib.hid (by
            unfold valIJ
            rw [List.take_of_length_le (by rw [lst1_len]; exact Nat.le_refl _)]
            simp [two_new hs])
          have HAT : Hid (D.atKey (.string sb.data.toList) (.lit (.int .i64 0)) = .lit (.int .i64 (if i < 2 then 1 else 0))) := Lib.hid (by rw [HI.out.2.1, HV.out])
          have b1 : (0 : Int) ≤ (i : Int) := by omega
          have b2 : (i : Int) < 6 := by omega
          clear hs
          by_cases h2 : i < 2
          · rw [if_pos h2] at HAT HV
            obtain ⟨cc, hrun, hat, _⟩ := HI.out.1.lookup_int lawS Tryz.underlying91 Tryz.underlying3 (zeroI _) HKE.out
            have hcc : cc = 1 := by
              have h := HAT.out
              rw [hat] at h
              injection h with h
              injection h
            subst hcc
            obtain ⟨w2, hupd, hown2, hgr2⟩ := HI.out.1.update lawS Tryz.underlying91 (by unfold maxLen; omega) HKE.out (plainElem_int Tryz.underlying3 (show (Lit.int .i64 3).wf = true by decide))
            have HN := Lib.hid (And.intro hown2 hgr2)
            clear hown2 hgr2 hat
            go_wp2_with fail
            exact ⟨⟨i + 1, _, by omega, by go_num, Lib.hid ⟨HN.out.1, HI.out.2.1.two HI.out.1.isMap HS.out (by rw [HV.out]; rfl), (HN.out.2.block _ (heap_lt HI.out.2.2.1) (fun e => by injection e with e; have := HI.out.2.2.2.2; omega)).trans HI.out.2.2.1, HI.out.2.2.2.1.grown HN.out.2 HI.out.2.2.2.1.size (fun j hj => by cases hj; exact Nat.le_refl _), HI.out.2.2.2.2⟩⟩, by simp [intOf]; omega⟩
          · rw [if_neg h2] at HAT HV
            obtain ⟨cc, hrun, hat, _⟩ := HI.out.1.lookup_int lawS Tryz.underlying91 Tryz.underlying3 (zeroI _) HKE.out
            have hcc : cc = 0 := by
              have h := HAT.out
              rw [hat] at h
              injection h with h
              injection h
            subst hcc
            obtain ⟨w2, hupd, hown2, hgr2⟩ := HI.out.1.update lawS Tryz.underlying91 (by unfold maxLen; omega) HKE.out (plainElem_int Tryz.underlying3 (show (Lit.int .i64 2).wf = true by decide))
            have HN := Lib.hid (And.intro hown2 hgr2)
            clear hown2 hgr2 hat
            go_wp2_with fail
            exact ⟨⟨i + 1, _, by omega, by go_num, Lib.hid ⟨HN.out.1, HI.out.2.1.two HI.out.1.isMap HS.out (by rw [HV.out]; rfl), (HN.out.2.block _ (heap_lt HI.out.2.2.1) (fun e => by injection e with e; have := HI.out.2.2.2.2; omega)).trans HI.out.2.2.1, HI.out.2.2.2.1.grown HN.out.2 HI.out.2.2.2.1.size (fun j hj => by cases hj; exact Nat.le_refl _), HI.out.2.2.2.2⟩⟩, by simp [intOf]; omega⟩
        · obtain rfl : i = 6 := by omega
          clear hlt
          go_wp2_with fail
          go_ret
          exact ⟨w.heap.size, 26, D, rfl, HI.out.1, HI.out.2.1, Nat.le_refl _, Nat.le_refl _, HI.out.2.2.2.1⟩
end Go.Proofs.YtebiojmfieoncaaGreat
