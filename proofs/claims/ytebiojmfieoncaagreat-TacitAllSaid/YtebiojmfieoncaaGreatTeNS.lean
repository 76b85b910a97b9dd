/- abacuslaw14: Nodes, Small. Conditions: sizes within reach. · abacuslaw14.Some: the first of some terms. Conditions: sizes within reach. -/
import Derived.Test.YtebiojmfieoncaaGreatTeD3
namespace Go.Proofs.YtebiojmfieoncaaGreat
open Go.RowKit

set_option maxRecDepth 100000 in
set_option maxHeartbeats 4000000 in
theorem nodes_any (N : Nat) : ∀ (t : Tm) (A : Option Addr) (ca : Nat) (B : Option Addr) (cb : Nat) (K : Option Addr) (ck : Nat) (left : Int) (w : World), cnt t ≤ N → TmAt w t A B K → WfT t → 0 ≤ left → left ≤ 140737488351232 →
    Calls Tryz.prog 64 #[tmVal t A ca B cb K ck, .int .i64 left] w fun e w' => (∃ z : Int, e = .returned (.int .i64 z) ∧ -1000000000000000 ≤ z ∧ z ≤ left) ∧ Below w.heap.size w w' := by
  induction N with
  | zero => intro t A ca B cb K ck left w h; cases t; simp [cnt] at h
  | succ N ih =>
    intro t A ca B cb K ck left w hN hat hwf hl1 hl2
    obtain ⟨W1, hW1⟩ : ∃ W1, W1 = w.alloc (.cells (tmCells t A ca B cb K ck) TTm) := ⟨_, rfl⟩
    have hb1 : Below w.heap.size w W1 := by rw [hW1]; exact (Below.refl _ _).alloc (Nat.le_refl _) _
    have hx1 : W1.heap[w.heap.size]? = some (.cells (tmCells t A ca B cb K ck) TTm (0, 0)) := by rw [hW1]; exact heap_alloc_new w _
    obtain ⟨sz, hsz⟩ : ∃ n, n = t.text.size := ⟨_, rfl⟩
    obtain ⟨ns, hns⟩ : ∃ n, n = t.sh.length := ⟨_, rfl⟩
    obtain ⟨na, hna⟩ : ∃ n, n = t.at_.length := ⟨_, rfl⟩
    obtain ⟨nk, hnk⟩ : ∃ n, n = t.kids.length := ⟨_, rfl⟩
    have hsz2 : t.text.size ≤ 140737488351232 := hwf.node.text
    have hns2 : ns ≤ 140737488351232 := by rw [hns]; exact hwf.node.sh
    have hna2 : na ≤ 140737488351232 := by rw [hna]; exact hwf.node.at_
    have hnk2 : nk ≤ 140737488351232 := by rw [hnk]; exact hwf.node.kids
    have HK : Hid (∀ W, Below W1.heap.size W1 W → W.cell? ⟨w.heap.size, 1, none⟩ = some (.string t.text) ∧ W.cell? ⟨w.heap.size, 3, none⟩ = some (.slice A ns ca) ∧ W.cell? ⟨w.heap.size, 4, none⟩ = some (.slice B na cb) ∧ W.cell? ⟨w.heap.size, 5, none⟩ = some (.slice K nk ck)) := Lib.hid fun W h => by
      have hh := (h.block _ (heap_lt hx1)).trans hx1
      rw [hns, hna, hnk]
      exact ⟨cell_at hh rfl, cell_at hh rfl, cell_at hh rfl, cell_at hh rfl⟩
    have HN := Lib.hid hnk
    have HW1 := Lib.hid hW1
    have HX := Lib.hid (And.intro hb1 (And.intro hat (And.intro hwf hN)))
    have IH := Lib.hid ih
    obtain ⟨k1, k3, k4, k5⟩ := HK.out W1 (Below.refl _ _)
    clear hN hat hwf ih hb1 hx1 hW1 hsz hns hna hnk
    go_enter Tryz.func64, Tryz.ntmps64
    go_upto_region 1 with fail
    rw [← HW1.out]
    go_wp2_with fail
    clear k1 k3 k4 k5
    go_loopw [1, 5] (fun v2 v7 W => ∃ (i : Nat) (z : Int), i ≤ nk ∧ v7 = .int .i64 i ∧ v2 = .int .i64 z ∧ -1000000000000000 ≤ z ∧ z ≤ left ∧ Hid (Below W1.heap.size W1 W)) (fun _ v7 _ => nk - (intOf v7).toNat)
    case atStart => exact ⟨0, _, Nat.zero_le _, rfl, rfl, by omega, by omega, Lib.hid (Below.refl _ _)⟩
    case round =>
      obtain ⟨i, z, hi, rfl, rfl, hz1, hz2, HI⟩ := hrel
      obtain ⟨k1, k3, k4, k5⟩ := HK.out wr HI.out
      clear k1 k3 k4
      by_cases hlt : i < nk
      · by_cases hz : z < 0
        · have hz' : ¬ 0 ≤ z := by omega
          go_wp2_with fail
          go_ret
          exact ⟨⟨z, rfl, hz1, hz2⟩, HX.out.1.then_ HI.out⟩
        · have hz' : 0 ≤ z := by omega
          obtain ⟨k, hk⟩ : ∃ k, t.kids[i]? = some k := ⟨_, List.getElem?_eq_getElem (by rw [← HN.out]; exact hlt)⟩
          obtain ⟨b1, o1, rfl, hp1⟩ := (HX.out.2.1.kids).get hk
          rw [Nat.zero_add] at hp1
          obtain ⟨A1, ca1, B1, cb1, K1, ck1, lt1, r0, r1, r2, r3, r4, r5, hat1⟩ := hp1.cellsOn (HX.out.1.then_ HI.out)
          have HIH : Hid (Calls Tryz.prog 64 #[tmVal k A1 ca1 B1 cb1 K1 ck1, .int .i64 z] wr fun e w' => (∃ z' : Int, e = .returned (.int .i64 z') ∧ -1000000000000000 ≤ z' ∧ z' ≤ z) ∧ Below wr.heap.size wr w') :=
            Lib.hid (IH.out k A1 ca1 B1 cb1 K1 ck1 z wr (by have := cnt_kid hk; have := HX.out.2.2.2; omega) (hat1.on (HX.out.1.then_ HI.out)) (HX.out.2.2.1.node.each k (List.mem_of_getElem? hk)) hz' (by omega))
          have q1 : (0 : Int) ≤ (i : Int) := by omega
          have q2 : (i : Int) < (nk : Int) := by omega
          clear hk hp1 hat1
          unfold tmVal at HIH
          go_wp2_with fail
          refine HIH.out.mono ?_
          rintro e w7 ⟨⟨z', rfl, g1, g2⟩, hb7⟩
          have HB7 := Lib.hid (HI.out.then_ hb7)
          clear hb7 r0 r1 r2 r3 r4 r5 k5
          go_wp2_with fail
          exact ⟨⟨i + 1, z', by omega, by go_num, rfl, g1, by omega, HB7⟩, by simp [intOf]; omega⟩
      · obtain rfl : i = nk := by omega
        clear hlt
        go_wp2_with fail
        go_ret
        exact ⟨⟨z, rfl, hz1, hz2⟩, HX.out.1.then_ HI.out⟩
set_option maxRecDepth 100000 in
set_option maxHeartbeats 4000000 in
theorem small_any (t : Tm) (A : Option Addr) (ca : Nat) (B : Option Addr) (cb : Nat) (K : Option Addr) (ck : Nat) (w : World) (hat : TmAt w t A B K) (hwf : WfT t) :
    Calls Tryz.prog 24 #[tmVal t A ca B cb K ck] w fun e w' => (∃ b : Bool, e = .returned (.bool b)) ∧ Below w.heap.size w w' := by
  obtain ⟨W1, hW1⟩ : ∃ W1, W1 = w.alloc (.cells (tmCells t A ca B cb K ck) TTm) := ⟨_, rfl⟩
  have hb1 : Below w.heap.size w W1 := by rw [hW1]; exact (Below.refl _ _).alloc (Nat.le_refl _) _
  have hx1 : W1.heap[w.heap.size]? = some (.cells (tmCells t A ca B cb K ck) TTm (0, 0)) := by rw [hW1]; exact heap_alloc_new w _
  have HX := Lib.hid (And.intro hb1 (And.intro (hat.on hb1) hwf))
  have HW1 := Lib.hid hW1
  obtain ⟨k0, k1, k2, k3, k4, k5⟩ : W1.cell? ⟨w.heap.size, 0, none⟩ = some (.int .i64 t.kind) ∧ W1.cell? ⟨w.heap.size, 1, none⟩ = some (.string t.text) ∧ W1.cell? ⟨w.heap.size, 2, none⟩ = some (.int .i64 t.n) ∧ W1.cell? ⟨w.heap.size, 3, none⟩ = some (.slice A t.sh.length ca) ∧ W1.cell? ⟨w.heap.size, 4, none⟩ = some (.slice B t.at_.length cb) ∧ W1.cell? ⟨w.heap.size, 5, none⟩ = some (.slice K t.kids.length ck) :=
    ⟨cell_at hx1 rfl, cell_at hx1 rfl, cell_at hx1 rfl, cell_at hx1 rfl, cell_at hx1 rfl, cell_at hx1 rfl⟩
  clear hat hwf hb1 hx1 hW1
  go_enter Tryz.func24, Tryz.ntmps24
  go_upto_region 1 with fail
  rw [← HW1.out]
  go_wp2_with fail
  refine (nodes_any (cnt t) t A ca B cb K ck 5000 W1 (Nat.le_refl _) HX.out.2.1 HX.out.2.2 (by omega) (by omega)).mono ?_
  rintro e w3 ⟨⟨z, rfl, _, _⟩, hb3⟩
  have HB3 := Lib.hid (HX.out.1.then_ hb3)
  clear hb3 k0 k1 k2 k3 k4 k5
  go_wp2_with fail
  go_ret
  exact ⟨⟨_, rfl⟩, HB3.out⟩
end Go.Proofs.YtebiojmfieoncaaGreat

namespace Go.Proofs.YtebiojmfieoncaaGreat
open Go.RowKit

set_option maxRecDepth 100000 in
set_option maxHeartbeats 4000000 in
theorem some_any (ts : List Tm) (K : Option Addr) (ck : Nat) (w : World) (hk : KidsAt w K ts 0) (hwf : ∀ t ∈ ts, WfT t) (hn : ts.length ≤ 140737488351232) (hc : ts.length ≤ ck) :
    Calls Tryz.prog 23 #[.slice K ts.length ck] w fun e w' => (∃ m : Nat, e = .returned (.slice K m ck) ∧ m ≤ ts.length) ∧ Below w.heap.size w w' := by
  obtain ⟨n, hln⟩ : ∃ n, n = ts.length := ⟨_, rfl⟩
  have HN := Lib.hid hln
  have HC := Lib.hid hc
  have HX := Lib.hid (And.intro hk hwf)
  rw [← hln] at hn hc ⊢
  have hc' : (n : Int) ≤ (ck : Int) := by omega
  clear hk hwf hln
  go_enter Tryz.func23, Tryz.ntmps23
  go_wp2_with fail
  go_loopw [3, 4] (fun v3 v4 W => ∃ (i : Nat) (z : Int), i ≤ n ∧ v4 = .int .i64 i ∧ v3 = .int .i64 z ∧ 0 ≤ z ∧ z ≤ 262144 ∧ Hid (Below w.heap.size w W)) (fun _ v _ => n - (intOf v).toNat)
  case atStart => exact ⟨0, _, Nat.zero_le _, rfl, rfl, by omega, by omega, Lib.hid (Below.refl _ _)⟩
  case round =>
    obtain ⟨i, z, hi, rfl, rfl, hz1, hz2, HI⟩ := hrel
    by_cases hlt : i < n
    · obtain ⟨t, ht⟩ : ∃ t, ts[i]? = some t := ⟨_, List.getElem?_eq_getElem (by rw [← HN.out]; exact hlt)⟩
      obtain ⟨b1, o1, rfl, hp1⟩ := HX.out.1.get ht
      rw [Nat.zero_add] at hp1
      obtain ⟨A1, ca1, B1, cb1, K1, ck1, lt1, r0, r1, r2, r3, r4, r5, hat1⟩ := hp1.cellsOn HI.out
      have HIH := Lib.hid (nodes_any (cnt t) t A1 ca1 B1 cb1 K1 ck1 5000 wr (Nat.le_refl _) (hat1.on HI.out) (HX.out.2 t (List.mem_of_getElem? ht)) (by omega) (by omega))
      have q1 : (0 : Int) ≤ (i : Int) := by omega
      have q2 : (i : Int) < (n : Int) := by omega
      clear ht hp1 hat1
      unfold tmVal at HIH
      go_wp2_with fail
      refine HIH.out.mono ?_
      rintro e w7 ⟨⟨y, rfl, g1, g2⟩, hb7⟩
      have HB7 := Lib.hid (HI.out.then_ hb7)
      clear hb7 r0 r1 r2 r3 r4 r5
      have hm : ∃ x : Int, max 0 y = x ∧ 0 ≤ x ∧ x ≤ 5000 := ⟨_, rfl, by omega, by omega⟩
      obtain ⟨x, hx, hx1, hx2⟩ := hm
      by_cases hz : z - 10 - 5000 + x < 0
      · go_wp2_with fail
        go_ret
        exact ⟨⟨i, rfl, hi⟩, HB7.out⟩
      · go_wp2_with fail
        exact ⟨⟨i + 1, z - 10 - 5000 + x, by omega, by go_num, by go_num, by omega, by omega, HB7⟩, by simp [intOf]; omega⟩
    · obtain rfl : i = n := by omega
      go_wp2_with fail
      go_ret
      exact ⟨⟨i, rfl, Nat.le_refl _⟩, HI.out⟩
end Go.Proofs.YtebiojmfieoncaaGreat
