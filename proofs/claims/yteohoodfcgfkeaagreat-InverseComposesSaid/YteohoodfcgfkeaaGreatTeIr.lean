/- slices.Clone, slices.Reverse at two terms. No condition. -/
import Derived.Test.YteohoodfcgfkeaaGreatTeIm
import Derived.BigRegion
namespace Go.Proofs.YteohoodfcgfkeaaGreat
open Go.RowKit

/-- twelve cells of a block -/
def TwoAt (w : World) (g off : Nat) (vs : List Value) : Prop := ∀ j v, vs[j]? = some v → w.cell? ⟨g, off + j, none⟩ = some v
set_option maxRecDepth 100000 in
set_option maxHeartbeats 4000000 in
theorem clone_two (x y : Tm) (p q : Rt) (bk ok ck : Nat) (w : World) (hlt : bk < w.heap.size) (hA : TwoAt w bk ok (rtCellsL [x, y] [p, q])) :
    Calls Tryz.prog 105 #[.slice (some ⟨bk, ok, none⟩) 2 ck] w fun e w' => ∃ g cap, e = .returned (.slice (some ⟨g, 0, none⟩) 2 cap) ∧ w.heap.size ≤ g ∧ g < w'.heap.size ∧ (∀ j, w'.frozen? ⟨g, j, none⟩ = false) ∧ TwoAt w' g 0 (rtCellsL [x, y] [p, q]) ∧ Below w.heap.size w w' := by
  obtain ⟨W1, hW1⟩ : ∃ W1, W1 = w.alloc (.cells #[] TTm) := ⟨_, rfl⟩
  have hb1 : Below w.heap.size w W1 := by rw [hW1]; exact (Below.refl _ _).alloc (Nat.le_refl _) _
  have HS1 : Hid (W1.heap.size = w.heap.size + 1) := Lib.hid (by rw [hW1]; simp)
  have HOWN : Hid (W1.ownsRow w.heap.size TTm 6 (.slice (some ⟨w.heap.size, 0, none⟩) 0 0) 0 []) := Lib.hid (by rw [hW1]; exact World.ownsRow_made w #[] 0 (Nat.le_refl _) (Nat.zero_le _) rfl)
  have HNEW : Hid (∀ j u, (rtCellsL [x, y] [p, q])[j]? = some u → W1.cell? ((⟨bk, ok, none⟩ : Addr).add j) = some u) := Lib.hid fun j u hu => by
    have e2 : (⟨bk, ok, none⟩ : Addr).add j = ⟨bk, ok + j, none⟩ := by unfold Addr.add; split <;> simp_all
    rw [e2]
    exact (hb1.cell (p := ⟨bk, ok + j, none⟩) hlt).trans (hA j u hu)
  have HONE : Hid (∀ u ∈ rtCellsL [x, y] [p, q], u.oneCell' = true) := Lib.hid fun u hu => by
    simp only [rtCellsL, rtCells, List.append_nil, List.cons_append, List.nil_append, List.mem_cons, List.not_mem_nil, or_false] at hu
    rcases hu with rfl | rfl | rfl | rfl | rfl | rfl | rfl | rfl | rfl | rfl | rfl | rfl <;> rfl
  have HB1 := Lib.hid hb1
  have HW1 := Lib.hid hW1
  obtain ⟨j0, hj, hz0, hz1, hz2⟩ := info_parts info_tm
  have hnil : ∀ W, (binOp .eql 26 (.slice (some ⟨bk, ok, none⟩) 2 ck) (.slice none 0 0)).run Tryz.prog W = .ok (.bool false) W := fun W => Lib.run_eql_slice_nil W _ _ (some ⟨bk, ok, none⟩) 2 ck 0 0 Tryz.underlying26
  clear hA hb1 hW1
  go_enter Tryz.func105, Tryz.ntmps105
  go_wp2_with (at_builtin; rw [← HW1.out]; refine wpList_append_own _ rfl (.tmp 5) (.tmp 6) 26 rfl w.heap.size TTm j0 (.agg tm0) 6 104 Tryz.underlying26 hj hz0 hz1 hz2 rfl (by decide) (.slice (some ⟨w.heap.size, 0, none⟩) 0 0) 0 [] rfl HOWN.out ⟨bk, ok, none⟩ 2 ck (rtCellsL [x, y] [p, q]) rfl rfl HNEW.out HONE.out (by unfold maxLen; omega) (by omega) (by rw [HS1.out]; omega) ?_)
  intro v' w' hown' hgr' _
  have hb' := HB1.out.grown hgr' HB1.out.size (fun k hk => (HOWN.out.lt k hk).1)
  rcases hown'.2 with ⟨_, h0⟩ | ⟨g, cap, cur, rfl, hg, hc, h1, h2, h3, h4⟩
  · omega
  have HR := Lib.hid (And.intro hg (And.intro hc (And.intro h4 hb')))
  clear hown' hgr' hg hc h1 h2 h3 h4 hb'
  go_wp2_with fail
  go_ret
  refine ⟨g, cap, rfl, HR.out.1, heap_lt HR.out.2.1, fun j => unfrozen HR.out.2.1 j, fun j v hv => ?_, HR.out.2.2.2⟩
  rw [Nat.zero_add]
  refine cell_at HR.out.2.1 ?_
  have h5 : (cur.toList.take ((0 + 2) * 6))[j]? = some v := by rw [HR.out.2.2.1]; exact hv
  rw [List.getElem?_take] at h5
  split at h5
  · simpa using h5
  · cases h5
set_option maxRecDepth 100000 in
set_option maxHeartbeats 8000000 in
theorem reverse_two (x y : Tm) (p q : Rt) (g cap : Nat) (w : World) (hf : ∀ j, w.frozen? ⟨g, j, none⟩ = false) (hA : TwoAt w g 0 (rtCellsL [x, y] [p, q])) :
    Calls Tryz.prog 106 #[.slice (some ⟨g, 0, none⟩) 2 cap] w fun e w' => e = .returned (.tuple #[]) ∧ TwoAt w' g 0 (rtCellsL [y, x] [q, p]) ∧ ∀ B, B ≤ g → Below B w w' := by
  have c0 : w.cell? ⟨g, 0, none⟩ = some (.int .i64 x.kind) := hA 0 _ rfl
  have c1 : w.cell? ⟨g, 1, none⟩ = some (.string x.text) := hA 1 _ rfl
  have c2 : w.cell? ⟨g, 2, none⟩ = some (.int .i64 x.n) := hA 2 _ rfl
  have c3 : w.cell? ⟨g, 3, none⟩ = some (.slice p.s.p p.s.n p.s.c) := hA 3 _ rfl
  have c4 : w.cell? ⟨g, 4, none⟩ = some (.slice p.a.p p.a.n p.a.c) := hA 4 _ rfl
  have c5 : w.cell? ⟨g, 5, none⟩ = some (.slice p.k.p p.k.n p.k.c) := hA 5 _ rfl
  have c6 : w.cell? ⟨g, 6, none⟩ = some (.int .i64 y.kind) := hA 6 _ rfl
  have c7 : w.cell? ⟨g, 7, none⟩ = some (.string y.text) := hA 7 _ rfl
  have c8 : w.cell? ⟨g, 8, none⟩ = some (.int .i64 y.n) := hA 8 _ rfl
  have c9 : w.cell? ⟨g, 9, none⟩ = some (.slice q.s.p q.s.n q.s.c) := hA 9 _ rfl
  have c10 : w.cell? ⟨g, 10, none⟩ = some (.slice q.a.p q.a.n q.a.c) := hA 10 _ rfl
  have c11 : w.cell? ⟨g, 11, none⟩ = some (.slice q.k.p q.k.n q.k.c) := hA 11 _ rfl
  have HA := Lib.hid hA
  clear hA
  go_enter Tryz.func106, Tryz.ntmps106
  go_wp2_with fail
  refine wp_loop_rounds 2 ?_
  rw [rounds_succ]
  go_wp2_with fail
  go_region
  go_wp2_with fail
  rw [rounds_succ]
  go_wp2_with fail
  refine bodyPost_end (results_none rfl _ _ _) rfl ⟨rfl, fun j v hv => ?_, fun B hB => ?_⟩
  · rw [Nat.zero_add]
    match j, hv with
    | 0, hv =>
      obtain rfl := Option.some.inj hv
      go_simp
    | 1, hv =>
      obtain rfl := Option.some.inj hv
      go_simp
    | 2, hv =>
      obtain rfl := Option.some.inj hv
      go_simp
    | 3, hv =>
      obtain rfl := Option.some.inj hv
      go_simp
    | 4, hv =>
      obtain rfl := Option.some.inj hv
      go_simp
    | 5, hv =>
      obtain rfl := Option.some.inj hv
      go_simp
    | 6, hv =>
      obtain rfl := Option.some.inj hv
      go_simp
    | 7, hv =>
      obtain rfl := Option.some.inj hv
      go_simp
    | 8, hv =>
      obtain rfl := Option.some.inj hv
      go_simp
    | 9, hv =>
      obtain rfl := Option.some.inj hv
      go_simp
    | 10, hv =>
      obtain rfl := Option.some.inj hv
      go_simp
    | 11, hv =>
      obtain rfl := Option.some.inj hv
      go_simp
  · exact (((((((((((((Below.refl _ _).setCell hB _).setCell hB _).setCell hB _).setCell hB _).setCell hB _).setCell hB _).setCell hB _).setCell hB _).setCell hB _).setCell hB _).setCell hB _).setCell hB _).drew
end Go.Proofs.YteohoodfcgfkeaaGreat
