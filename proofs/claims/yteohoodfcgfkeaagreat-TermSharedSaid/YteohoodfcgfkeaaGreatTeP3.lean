/- prim.rows: the whole catalogue. No condition. -/
import Derived.Test.YteohoodfcgfkeaaGreatTeP2
import Derived.Deep.AppendLies
import Derived.OwnWalk
namespace Go.Proofs.YteohoodfcgfkeaaGreat
open Go.RowKit

def rowsL : List Ent := sumsL ++ othersL
theorem rows_cells : entsCells rowsL = entsCells sumsL ++ entsCells othersL := by unfold rowsL entsCells; exact List.flatMap_append
theorem ents_one : (entsCells sumsL ++ entsCells othersL).all (·.oneCell') = true := by kernel_rfl
/-- the catalogue lies at block g -/
def RowsLie (w : World) (g : Nat) : Prop := g < w.heap.size ∧ ∀ j u, (entsCells rowsL)[j]? = some u → w.cell? ⟨g, j, none⟩ = some u
theorem RowsLie.on {w w' : World} {g : Nat} (h : RowsLie w g) (hb : Below w.heap.size w w') : RowsLie w' g := ⟨Nat.lt_of_lt_of_le h.1 hb.size, fun j u hj => (hb.cell (p := ⟨g, j, none⟩) h.1).trans (h.2 j u hj)⟩
theorem sums_len : (entsCells sumsL).length = 21 * 12 := by kernel_rfl
theorem others_len : (entsCells othersL).length = 22 * 12 := by kernel_rfl
set_option maxRecDepth 100000 in
set_option maxHeartbeats 4000000 in
theorem rows_any (w : World) : Calls Tryz.prog 134 #[] w fun e w' => ∃ g c, e = .returned (.slice (some ⟨g, 0, none⟩) 43 c) ∧ RowsLie w' g ∧ w.heap.size ≤ g ∧ Below w.heap.size w w' := by
  obtain ⟨i0, hi, hz0, hz1, hz2⟩ := info_parts info_ent
  go_enter Tryz.func134, Tryz.ntmps134
  go_wp2_with fail
  refine (sums_any _).mono ?_
  rintro e w1 ⟨g1, rfl, h1, hg1, hb1⟩
  have HB1 := Lib.hid hb1
  have H1 := Lib.hid h1
  have HG1 := Lib.hid hg1
  clear hb1 h1 hg1
  go_wp2_with fail
  refine (others_any _).mono ?_
  rintro e w2 ⟨g2, rfl, h2, hg2, hb2⟩
  have HB2 := Lib.hid (HB1.out.then_ hb2)
  have H1' := Lib.hid ((hb2.block g1 (heap_lt H1.out)).trans H1.out)
  have H2 := Lib.hid h2
  have HO : Hid (w2.ownsRow w.heap.size TE 12 (.slice (some ⟨g1, 0, none⟩) 21 21) 21 (entsCells sumsL)) := Lib.hid ⟨sums_len, .inr ⟨g1, 21, (entsCells sumsL).toArray, rfl, HG1.out, H1'.out, Nat.le_refl _, by decide, by rw [List.size_toArray, sums_len], by rw [List.take_of_length_le (by rw [List.toList_toArray, sums_len]; exact Nat.le_refl _)]⟩⟩
  have HN : Hid (∀ j u, (entsCells othersL)[j]? = some u → w2.cell? ((⟨g2, 0, none⟩ : Addr).add j) = some u) := Lib.hid (fun j u hj => by
    have e : (⟨g2, 0, none⟩ : Addr).add j = ⟨g2, j, none⟩ := by unfold Addr.add; split <;> simp_all
    rw [e]
    have h := H2.out
    simpa [World.cell?, h] using hj)
  have HS := HB2.out.size
  clear hb2 h2 hg2 HB1 H1
  go_wp2_with (at_builtin; refine wpList_append_lies _ rfl (.tmp 1) (.tmp 2) 149 rfl w.heap.size TE i0 zeroEnt 12 88 Tryz.underlying149 hi hz0 hz1 hz2 rfl (by decide) (.slice (some ⟨g1, 0, none⟩) 21 21) 21 (entsCells sumsL) rfl HO.out ⟨g2, 0, none⟩ 22 22 (entsCells othersL) rfl others_len HN.out (fun u hu => List.all_eq_true.1 ents_one u (List.mem_append_right _ hu)) (by decide) (by decide) (by decide) HS w2.heap.size rfl ?_)
  intro g cap w3 hown hgr hor hlt
  have HOWN := Lib.hid hown
  have HB3 : Hid (Below w.heap.size w w3) := Lib.hid (HB2.out.grown hgr HB2.out.size (fun k hk => by cases hk; exact HG1.out))
  have HGE : Hid (w.heap.size ≤ g) := Lib.hid (by
    rcases hor with h | h
    · simp only [Value.ownBlock, Option.some.injEq] at h; have := HG1.out; omega
    · omega)
  clear hown hgr hor
  go_wp2_with fail
  go_ret
  refine ⟨g, cap, rfl, ⟨hlt, fun j u hj => ?_⟩, HGE.out, HB3.out⟩
  rw [rows_cells] at hj
  rcases HOWN.out.2 with ⟨h, _⟩ | ⟨g', cp, cur, hv, _, hb, _, _, _, ht⟩
  · cases h
  · simp only [Value.slice.injEq, Option.some.injEq, Addr.mk.injEq, and_true] at hv
    obtain ⟨rfl, _, _⟩ := hv
    have h1 : (cur.toList.take ((21 + 22) * 12))[j]? = some u := by rw [ht]; exact hj
    rw [List.getElem?_take] at h1
    split at h1
    · simpa [World.cell?, hb] using h1
    · cases h1
end Go.Proofs.YteohoodfcgfkeaaGreat
