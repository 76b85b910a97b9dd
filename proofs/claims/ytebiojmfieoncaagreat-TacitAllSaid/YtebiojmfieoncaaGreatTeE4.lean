/- abacuslaw14.Eq: a term is the same as itself, wherever it lies. Condition: sizes within reach. -/
import Derived.Test.YtebiojmfieoncaaGreatTeTX
namespace Go.Proofs.YtebiojmfieoncaaGreat
open Go.RowKit

set_option maxHeartbeats 8000000 in
set_option maxRecDepth 100000 in
theorem eqAtoms_same (A B : Option Addr) (ca cb : Nat) (s : List Int) (n : Nat) (w : World) (hA : IntsAt w A s) (hB : IntsAt w B s) (hln : n = s.length) (hn : n ≤ 140737488351232) :
    Calls Tryz.prog 125 #[.slice A n ca, .slice B n cb] w fun e w' => e = .returned (.bool true) ∧ Below w.heap.size w w' := by
  have HA := Lib.hid hA
  have HB := Lib.hid hB
  have HN := Lib.hid hln
  clear hA hB hln
  go_enter Tryz.func125, Tryz.ntmps125
  go_wp2_with fail
  go_loopw [5] (fun v5 wr => ∃ i : Nat, i ≤ n ∧ v5 = .int .i64 i ∧ Hid (Below w.heap.size w wr)) (fun v5 _ => n - (intOf v5).toNat)
  case atStart => exact ⟨0, Nat.zero_le _, rfl, Lib.hid (Below.refl _ _)⟩
  case round =>
    obtain ⟨i, hi, rfl, HBl⟩ := hrel
    by_cases hlt : i < n
    · obtain ⟨x, hx⟩ : ∃ x, s[i]? = some x := ⟨_, List.getElem?_eq_getElem (by rw [← HN.out]; exact hlt)⟩
      obtain ⟨b, off, rfl, _, kc⟩ := (HA.out.on HBl.out) i x hx
      obtain ⟨b', off', rfl, _, kc'⟩ := (HB.out.on HBl.out) i x hx
      have q1 : (0 : Int) ≤ (i : Int) := by omega
      have q2 : (i : Int) < (n : Int) := by omega
      clear hx
      go_wp2_with fail
      go_quiet (fail)
      go_wp2_with fail
      refine ⟨⟨i + 1, by omega, by go_num, Lib.hid (bdn HBl.out _)⟩, by simp [intOf]; omega⟩
    · obtain rfl : i = n := by omega
      clear hlt
      go_wp2_with fail
      go_ret
      exact ⟨rfl, HBl.out⟩


abbrev TAr : TypeId := 27
set_option maxHeartbeats 8000000 in
set_option maxRecDepth 100000 in
theorem eq4_same (A B A' B' : Option Addr) (ca cb ca' cb' : Nat) (s l : List Int) (ns na : Nat) (w : World) (h1 : IntsAt w A s) (h2 : IntsAt w B l) (h3 : IntsAt w A' s) (h4 : IntsAt w B' l) (hs : ns = s.length) (hl : na = l.length) (hn : ns ≤ 140737488351232) (hm : na ≤ 140737488351232) :
    Calls Tryz.prog 84 #[.agg #[.slice A ns ca, .slice B na cb], .agg #[.slice A' ns ca', .slice B' na cb']] w fun e w' => e = .returned (.bool true) ∧ Below w.heap.size w w' := by
  obtain ⟨W2, hW2⟩ : ∃ W2, W2 = (w.alloc (.cells #[.slice A ns ca, .slice B na cb] TAr)).alloc (.cells #[.slice A' ns ca', .slice B' na cb'] TAr) := ⟨_, rfl⟩
  have hb2 : Below w.heap.size w W2 := by rw [hW2]; exact ((Below.refl _ _).alloc (Nat.le_refl _) _).alloc (by simp) _
  have hx1 : W2.heap[w.heap.size]? = some (.cells #[.slice A ns ca, .slice B na cb] TAr (0, 0)) := by rw [hW2]; exact (Below.heap_alloc _ _ _ (by simp)).trans (heap_alloc_new w _)
  have hx2 : W2.heap[w.heap.size + 1]? = some (.cells #[.slice A' ns ca', .slice B' na cb'] TAr (0, 0)) := by rw [hW2]; exact heap_new2 _ _ _
  have HE1 := Lib.hid (eqInts_same A A' ca ca' s ns W2 (h1.on hb2) (h3.on hb2) hs hn)
  have HE2 : Hid (∀ W, Below W2.heap.size W2 W → Calls Tryz.prog 125 #[.slice B na cb, .slice B' na cb'] W fun e w' => e = .returned (.bool true) ∧ Below W.heap.size W w') := Lib.hid fun W h => eqAtoms_same B B' cb cb' l na W (h2.on (hb2.then_ h)) (h4.on (hb2.then_ h)) hl hm
  have HK : Hid (∀ W, Below W2.heap.size W2 W → W.cell? ⟨w.heap.size, 0, none⟩ = some (.slice A ns ca) ∧ W.cell? ⟨w.heap.size, 1, none⟩ = some (.slice B na cb) ∧ W.cell? ⟨w.heap.size + 1, 0, none⟩ = some (.slice A' ns ca') ∧ W.cell? ⟨w.heap.size + 1, 1, none⟩ = some (.slice B' na cb')) := Lib.hid fun W h => by
    have e1 := (h.block _ (heap_lt hx1)).trans hx1
    have e2 := (h.block _ (heap_lt hx2)).trans hx2
    exact ⟨cell_at e1 rfl, cell_at e1 rfl, cell_at e2 rfl, cell_at e2 rfl⟩
  have HB := Lib.hid hb2
  have HW2 := Lib.hid hW2
  obtain ⟨k0, k1, p0, p1⟩ := HK.out W2 (Below.refl _ _)
  clear h1 h2 h3 h4 hs hl hW2 hb2 hx1 hx2
  go_enter Tryz.func84, Tryz.ntmps84
  go_upto_region 1 with fail
  rw [← HW2.out]
  go_wp2_with fail
  refine HE1.out.mono ?_
  rintro e w3 ⟨rfl, hb3⟩
  have HB3 := Lib.hid hb3
  clear hb3 k0 k1 p0 p1
  obtain ⟨_, k1, _, p1⟩ := HK.out w3 HB3.out
  go_wp2_with fail
  refine (HE2.out w3 HB3.out).mono ?_
  rintro e w4 ⟨rfl, hb4⟩
  have HB4 := Lib.hid (HB3.out.then_ hb4)
  clear hb4 k1 p1
  go_wp2_with fail
  go_ret
  exact ⟨rfl, HB.out.then_ HB4.out⟩

set_option maxRecDepth 100000 in
set_option maxHeartbeats 16000000 in
theorem eq14_any (N : Nat) : ∀ (t : Tm) (A : Option Addr) (ca : Nat) (B : Option Addr) (cb : Nat) (K : Option Addr) (ck : Nat) (A' : Option Addr) (ca' : Nat) (B' : Option Addr) (cb' : Nat) (K' : Option Addr) (ck' : Nat) (w : World), cnt t ≤ N → TmAt w t A B K → TmAt w t A' B' K' → WfT t →
    Calls Tryz.prog 37 #[tmVal t A ca B cb K ck, tmVal t A' ca' B' cb' K' ck'] w fun e w' => e = .returned (.bool true) ∧ Below w.heap.size w w' := by
  induction N with
  | zero => intro t A ca B cb K ck A' ca' B' cb' K' ck' w h; cases t; simp [cnt] at h
  | succ N ih =>
    intro t A ca B cb K ck A' ca' B' cb' K' ck' w hN hat hat' hwf
    obtain ⟨ns, hns⟩ : ∃ n, n = t.sh.length := ⟨_, rfl⟩
    obtain ⟨na, hna⟩ : ∃ n, n = t.at_.length := ⟨_, rfl⟩
    obtain ⟨nk, hnk⟩ : ∃ n, n = t.kids.length := ⟨_, rfl⟩
    obtain ⟨W1, hW1⟩ : ∃ W1, W1 = (w.alloc (.cells (tmCells t A ca B cb K ck) TTm)).alloc (.cells (tmCells t A' ca' B' cb' K' ck') TTm) := ⟨_, rfl⟩
    have hb1 : Below w.heap.size w W1 := by rw [hW1]; exact ((Below.refl _ _).alloc (Nat.le_refl _) _).alloc (by simp) _
    have hx1 : W1.heap[w.heap.size]? = some (.cells (tmCells t A ca B cb K ck) TTm (0, 0)) := by rw [hW1]; exact (Below.heap_alloc _ _ _ (by simp)).trans (heap_alloc_new w _)
    have hx2 : W1.heap[w.heap.size + 1]? = some (.cells (tmCells t A' ca' B' cb' K' ck') TTm (0, 0)) := by rw [hW1]; exact heap_new2 _ _ _
    have HX := Lib.hid (And.intro (hat.on hb1) (And.intro (hat'.on hb1) (And.intro hwf hN)))
    have HE := Lib.hid (eq4_same A B A' B' ca cb ca' cb' t.sh t.at_ ns na W1 (hat.on hb1).sh (hat.on hb1).at_ (hat'.on hb1).sh (hat'.on hb1).at_ hns hna (by rw [hns]; exact hwf.node.sh) (by rw [hna]; exact hwf.node.at_))
    have hk2 : nk ≤ 140737488351232 := by rw [hnk]; exact hwf.node.kids
    have HN := Lib.hid hnk
    have HK : Hid (∀ W, Below W1.heap.size W1 W → (W.cell? ⟨w.heap.size, 0, none⟩ = some (.int .i64 t.kind) ∧ W.cell? ⟨w.heap.size, 1, none⟩ = some (.string t.text) ∧ W.cell? ⟨w.heap.size, 2, none⟩ = some (.int .i64 t.n) ∧ W.cell? ⟨w.heap.size, 3, none⟩ = some (.slice A ns ca) ∧ W.cell? ⟨w.heap.size, 4, none⟩ = some (.slice B na cb) ∧ W.cell? ⟨w.heap.size, 5, none⟩ = some (.slice K nk ck)) ∧ (W.cell? ⟨w.heap.size + 1, 0, none⟩ = some (.int .i64 t.kind) ∧ W.cell? ⟨w.heap.size + 1, 1, none⟩ = some (.string t.text) ∧ W.cell? ⟨w.heap.size + 1, 2, none⟩ = some (.int .i64 t.n) ∧ W.cell? ⟨w.heap.size + 1, 3, none⟩ = some (.slice A' ns ca') ∧ W.cell? ⟨w.heap.size + 1, 4, none⟩ = some (.slice B' na cb') ∧ W.cell? ⟨w.heap.size + 1, 5, none⟩ = some (.slice K' nk ck'))) := Lib.hid fun W h => by
      have e1 := (h.block _ (heap_lt hx1)).trans hx1
      have e2 := (h.block _ (heap_lt hx2)).trans hx2
      rw [hns, hna, hnk]
      exact ⟨⟨cell_at e1 rfl, cell_at e1 rfl, cell_at e1 rfl, cell_at e1 rfl, cell_at e1 rfl, cell_at e1 rfl⟩, cell_at e2 rfl, cell_at e2 rfl, cell_at e2 rfl, cell_at e2 rfl, cell_at e2 rfl, cell_at e2 rfl⟩
    have HB := Lib.hid hb1
    have HW1 := Lib.hid hW1
    have IH := Lib.hid ih
    obtain ⟨⟨k0, k1, k2, k3, k4, k5⟩, p0, p1, p2, p3, p4, p5⟩ := HK.out W1 (Below.refl _ _)
    clear hat hat' hwf hN hb1 hx1 hx2 hW1 hns hna hnk ih
    go_enter Tryz.func37, Tryz.ntmps37
    go_upto_region 1 with fail
    rw [← HW1.out]
    go_wp2_with fail
    refine HE.out.mono ?_
    rintro e w2 ⟨rfl, hb2⟩
    have HB2 := Lib.hid hb2
    clear hb2 k0 k1 k2 k3 k4 k5 p0 p1 p2 p3 p4 p5
    obtain ⟨⟨_, _, _, _, _, k5⟩, _, _, _, _, _, p5⟩ := HK.out w2 HB2.out
    go_wp2_with fail
    clear k5 p5
    go_loopw [5] (fun v W => ∃ j : Nat, j ≤ nk ∧ v = .int .i64 j ∧ Hid (Below W1.heap.size W1 W)) (fun v _ => nk - (intOf v).toNat)
    case atStart => exact ⟨0, Nat.zero_le _, rfl, HB2⟩
    case round =>
      obtain ⟨j, hj, rfl, HJ⟩ := hrel
      obtain ⟨⟨_, _, _, _, _, k5⟩, _, _, _, _, _, p5⟩ := HK.out wr HJ.out
      by_cases hlt : j < nk
      · obtain ⟨k, hk⟩ : ∃ k, t.kids[j]? = some k := ⟨_, List.getElem?_eq_getElem (by rw [← HN.out]; exact hlt)⟩
        obtain ⟨b1, o1, rfl, hp1⟩ := HX.out.1.kids.get hk
        rw [Nat.zero_add] at hp1
        obtain ⟨A1, ca1, B1, cb1, K1, ck1, lt1, r0, r1, r2, r3, r4, r5, hat1⟩ := hp1.cellsOn HJ.out
        obtain ⟨b2, o2, rfl, hp2⟩ := HX.out.2.1.kids.get hk
        rw [Nat.zero_add] at hp2
        obtain ⟨A2, ca2, B2, cb2, K2, ck2, lt2, s0, s1, s2, s3, s4, s5, hat2⟩ := hp2.cellsOn HJ.out
        have HS := Lib.hid (IH.out k A1 ca1 B1 cb1 K1 ck1 A2 ca2 B2 cb2 K2 ck2 wr.drew (by have h1 := cnt_kid hk; have h2 := HX.out.2.2.2; omega) ((hat1.on HJ.out).on (Below.refl _ _).drew) ((hat2.on HJ.out).on (Below.refl _ _).drew) (HX.out.2.2.1.node.each k (List.mem_of_getElem? hk)))
        have q1 : (0 : Int) ≤ (j : Int) := by omega
        have q2 : (j : Int) < (nk : Int) := by omega
        clear hk hp1 hat1 hp2 hat2
        unfold tmVal at HS
        go_wp2_with fail
        go_still_tail 10, (by kernel_rfl)
        change wpList _ _ _ _ _ wr.drew
        go_wp2_with fail
        refine HS.out.mono ?_
        rintro e w7 ⟨rfl, hb7⟩
        have HB7 := Lib.hid (HJ.out.drew.then_ hb7)
        clear hb7 r0 r1 r2 r3 r4 r5 s0 s1 s2 s3 s4 s5 k5 p5
        go_wp2_with fail
        exact ⟨⟨j + 1, by omega, by go_num, HB7⟩, by simp [intOf]; omega⟩
      · obtain rfl : j = nk := by omega
        clear hlt
        go_wp2_with fail
        go_ret
        exact ⟨rfl, HB.out.then_ HJ.out⟩
end Go.Proofs.YtebiojmfieoncaaGreat
