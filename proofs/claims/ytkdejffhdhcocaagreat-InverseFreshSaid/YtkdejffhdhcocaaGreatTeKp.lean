/- abacuslaw13.marked: the marks behind all lists of a term that was laid. Condition: sizes within reach. -/
import Derived.Test.YtkdejffhdhcocaaGreatTeSm
import Derived.Test.YtkdejffhdhcocaaGreatTeD3
import Derived.Test.YtkdejffhdhcocaaGreatTeMa
namespace Go.Proofs.YtkdejffhdhcocaaGreat
open Go.RowKit

set_option maxRecDepth 100000 in
set_option maxHeartbeats 16000000 in
theorem marked_any (N : Nat) : ∀ (t : Tm) (r : Rt) (B : Nat) (w : World), cnt t ≤ N → OwnT w B t r → MarkT w t r → WfT t → Calls Tryz.prog 46 #[rtVal t r] w fun e w' => e = .returned (.bool true) ∧ Below w.heap.size w w' := by
  induction N with
  | zero => intro t r B w h; cases t; simp [cnt] at h
  | succ N ih =>
    intro t r B w hN ho hm hwf
    obtain ⟨W1, hW1⟩ : ∃ W1, W1 = w.alloc (.cells #[.int .i64 t.kind, .string t.text, .int .i64 t.n, .slice r.s.p r.s.n r.s.c, .slice r.a.p r.a.n r.a.c, .slice r.k.p r.k.n r.k.c] TTm) := ⟨_, rfl⟩
    have hb1 : Below w.heap.size w W1 := by rw [hW1]; exact (Below.refl _ _).alloc (Nat.le_refl _) _
    have hx1 : W1.heap[w.heap.size]? = some (.cells #[.int .i64 t.kind, .string t.text, .int .i64 t.n, .slice r.s.p r.s.n r.s.c, .slice r.a.p r.a.n r.a.c, .slice r.k.p r.k.n r.k.c] TTm (0, 0)) := by rw [hW1]; exact heap_alloc_new w _
    obtain ⟨_, e1, e2, e3⟩ := ho.read
    obtain ⟨m1, m2, m3, m4⟩ := hm.parts
    rw [← e1] at m1
    rw [← e2] at m2
    rw [← e3] at m3
    obtain ⟨gs, hs1, hs2, hs3, hs4, hs5⟩ := m1.on hb1
    obtain ⟨ga, ha1, ha2, ha3, ha4, ha5⟩ := m2.on hb1
    obtain ⟨gk, hk1, hk2, hk3, hk4, hk5, hk6, hk7⟩ := m3.on hb1
    have hr1 : r.s.n ≤ 140737488351232 := by rw [e1]; exact hwf.node.sh
    have hr2 : r.a.n ≤ 140737488351232 := by rw [e2]; exact hwf.node.at_
    have hr3 : r.k.n ≤ 140737488351232 := by rw [e3]; exact hwf.node.kids
    have HO := Lib.hid (And.intro (ho.on hb1) (And.intro (m4.on hb1) (And.intro hwf hN)))
    have HE := Lib.hid e3
    have HW1 := Lib.hid (And.intro hW1 hb1)
    have IH := Lib.hid ih
    obtain ⟨ns, hns⟩ : ∃ n, n = r.s.n := ⟨_, rfl⟩
    obtain ⟨na, hna⟩ : ∃ n, n = r.a.n := ⟨_, rfl⟩
    obtain ⟨nk, hnk⟩ : ∃ n, n = r.k.n := ⟨_, rfl⟩
    rw [← hns] at hs2 hs4 hs5 hr1
    rw [← hna] at ha2 ha4 ha5 hr2
    rw [← hnk] at hk2 hk4 hk5 hk6 hk7 hr3
    have HN := Lib.hid (And.intro hns (And.intro hna hnk))
    have HK : Hid (∀ W, Below W1.heap.size W1 W → W.cell? ⟨w.heap.size, 3, none⟩ = some (.slice (some ⟨gs, 0, none⟩) ns r.s.c) ∧ W.cell? ⟨w.heap.size, 4, none⟩ = some (.slice (some ⟨ga, 0, none⟩) na r.a.c) ∧ W.cell? ⟨w.heap.size, 5, none⟩ = some (.slice (some ⟨gk, 0, none⟩) nk r.k.c)) := Lib.hid fun W h => by
      have hh := (h.block _ (heap_lt hx1)).trans hx1
      rw [← hs1, ← ha1, ← hk1, hns, hna, hnk]
      exact ⟨cell_at hh rfl, cell_at hh rfl, cell_at hh rfl⟩
    have HGK := Lib.hid hk1
    obtain ⟨k3, k4, k5⟩ := HK.out W1 (Below.refl _ _)
    have i1 : (ns : Int) + 2 ≤ (r.s.c : Int) := by omega
    have i2 : (na : Int) + 2 ≤ (r.a.c : Int) := by omega
    have i3 : (nk : Int) + 2 ≤ (r.k.c : Int) := by omega
    clear ho hm hwf hN hb1 hx1 e1 e2 e3 m1 m2 m3 m4 ih hW1 hs1 ha1 hk1 hns hna hnk
    unfold rtVal
    go_enter Tryz.func46, Tryz.ntmps46
    go_upto_region 1 with fail
    rw [← HW1.out.1]
    go_quiet (fail)
    go_wp2_with fail
    go_quiet (fail)
    go_wp2_with fail
    clear k3 k4 k5
    go_loopw [9] (fun v W => ∃ i : Nat, i ≤ nk ∧ v = .int .i64 i ∧ Hid (Below W1.heap.size W1 W)) (fun v _ => nk - (intOf v).toNat)
    case atStart => exact ⟨0, Nat.zero_le _, rfl, Lib.hid (bdn (Below.refl _ _) _)⟩
    case round =>
      obtain ⟨i, hi, rfl, HI⟩ := hrel
      obtain ⟨k3, k4, k5⟩ := HK.out wr HI.out
      by_cases hlt : i < nk
      · have hhl : i < r.k.n := by rw [← HN.out.2.2]; exact hlt
        obtain ⟨k, hk⟩ : ∃ k, t.kids[i]? = some k := ⟨_, List.getElem?_eq_getElem (by rw [← HE.out]; exact hhl)⟩
        have hon := HO.out.1.on HI.out
        obtain ⟨p1, p2, p3, p4, p5⟩ := hon.parts
        obtain ⟨q, hq, hoq⟩ := p5.get hk
        have hcell : ∀ j v, (rtCells k q)[j]? = some v → wr.cell? ⟨gk, i * 6 + j, none⟩ = some v := fun j v hv => by
          obtain ⟨g, hg, _, hc⟩ := p3.cell (rtCells_get hk hq hv)
          rw [HGK.out] at hg
          simp only [Option.some.injEq, Addr.mk.injEq, and_true] at hg
          rw [hg]
          exact hc
        have c0 : wr.cell? ⟨gk, i * 6, none⟩ = some (.int .i64 k.kind) := hcell 0 _ rfl
        have c1 : wr.cell? ⟨gk, i * 6 + 1, none⟩ = some (.string k.text) := hcell 1 _ rfl
        have c2 : wr.cell? ⟨gk, i * 6 + 2, none⟩ = some (.int .i64 k.n) := hcell 2 _ rfl
        have c3 : wr.cell? ⟨gk, i * 6 + 3, none⟩ = some (.slice q.s.p q.s.n q.s.c) := hcell 3 _ rfl
        have c4 : wr.cell? ⟨gk, i * 6 + 4, none⟩ = some (.slice q.a.p q.a.n q.a.c) := hcell 4 _ rfl
        have c5 : wr.cell? ⟨gk, i * 6 + 5, none⟩ = some (.slice q.k.p q.k.n q.k.c) := hcell 5 _ rfl
        have HS := Lib.hid (IH.out k q B wr (by have h1 := cnt_kid hk; have h2 := HO.out.2.2.2; omega) hoq ((HO.out.2.1.on HI.out).get hk hq) (HO.out.2.2.1.node.each k (List.mem_of_getElem? hk)))
        have b1 : (0 : Int) ≤ (i : Int) := by omega
        have b2 : (i : Int) < (nk : Int) := by omega
        clear hhl hk hon p1 p2 p3 p4 p5 hq hoq hcell
        unfold rtVal at HS
        go_wp2_with fail
        refine HS.out.mono ?_
        rintro e w7 ⟨rfl, hb7⟩
        have HB7 := Lib.hid (HI.out.then_ hb7)
        clear hb7 c0 c1 c2 c3 c4 c5 k3 k4 k5
        go_wp2_with fail
        exact ⟨⟨i + 1, by omega, by go_num, HB7⟩, by simp [intOf]; omega⟩
      · obtain rfl : i = nk := by omega
        clear hlt
        go_wp2_with fail
        go_ret
        exact ⟨rfl, HW1.out.2.then_ HI.out⟩
set_option maxRecDepth 100000 in
set_option maxHeartbeats 8000000 in
/-- Kept: the term is what it was, the marks are there; then its lists are written over -/
theorem kept_any (t : Tm) (r : Rt) (A : Option Addr) (ca : Nat) (B : Option Addr) (cb : Nat) (K : Option Addr) (ck : Nat) (B0 : Nat) (w : World) (ho : OwnT w B0 t r) (hnd : (blksT r).Nodup) (hm : MarkT w t r) (hat : TmAt w t A B K) (hwf : WfT t) (hg : greatT t = false) :
    Calls Tryz.prog 12 #[rtVal t r, tmVal t A ca B cb K ck] w fun e w' => e = .returned (.bool true) ∧ Only w w' (blksT r) := by
  obtain ⟨hrt, f1, f2, f3⟩ := ho.read
  have hval : rtVal t r = tmVal t r.s.p r.s.c r.a.p r.a.c r.k.p r.k.c := by unfold rtVal; rw [f1, f2, f3]
  have HV := Lib.hid hval
  rw [hval]
  obtain ⟨W2, hW2⟩ : ∃ W2, W2 = (w.alloc (.cells (tmCells t r.s.p r.s.c r.a.p r.a.c r.k.p r.k.c) TTm)).alloc (.cells (tmCells t A ca B cb K ck) TTm) := ⟨_, rfl⟩
  have hb1 : Below w.heap.size w (w.alloc (.cells (tmCells t r.s.p r.s.c r.a.p r.a.c r.k.p r.k.c) TTm)) := (Below.refl _ _).alloc (Nat.le_refl _) _
  have hb2 : Below w.heap.size w W2 := by rw [hW2]; exact hb1.alloc hb1.size _
  have hx1 : W2.heap[w.heap.size]? = some (.cells (tmCells t r.s.p r.s.c r.a.p r.a.c r.k.p r.k.c) TTm (0, 0)) := by rw [hW2]; exact (Below.heap_alloc _ _ _ (by simp)).trans (heap_alloc_new w _)
  have hx2 : W2.heap[w.heap.size + 1]? = some (.cells (tmCells t A ca B cb K ck) TTm (0, 0)) := by rw [hW2]; exact heap_new2 _ _ _
  have HK : Hid (∀ W, Below W2.heap.size W2 W → W.cell? ⟨w.heap.size, 0, none⟩ = some (.int .i64 t.kind) ∧ W.cell? ⟨w.heap.size, 1, none⟩ = some (.string t.text) ∧ W.cell? ⟨w.heap.size, 2, none⟩ = some (.int .i64 t.n) ∧ W.cell? ⟨w.heap.size, 3, none⟩ = some (.slice r.s.p t.sh.length r.s.c) ∧ W.cell? ⟨w.heap.size, 4, none⟩ = some (.slice r.a.p t.at_.length r.a.c) ∧ W.cell? ⟨w.heap.size, 5, none⟩ = some (.slice r.k.p t.kids.length r.k.c) ∧
      W.cell? ⟨w.heap.size + 1, 0, none⟩ = some (.int .i64 t.kind) ∧ W.cell? ⟨w.heap.size + 1, 1, none⟩ = some (.string t.text) ∧ W.cell? ⟨w.heap.size + 1, 2, none⟩ = some (.int .i64 t.n) ∧ W.cell? ⟨w.heap.size + 1, 3, none⟩ = some (.slice A t.sh.length ca) ∧ W.cell? ⟨w.heap.size + 1, 4, none⟩ = some (.slice B t.at_.length cb) ∧ W.cell? ⟨w.heap.size + 1, 5, none⟩ = some (.slice K t.kids.length ck)) := Lib.hid fun W h => by
    have e1 := (h.block _ (heap_lt hx1)).trans hx1
    have e2 := (h.block _ (heap_lt hx2)).trans hx2
    exact ⟨cell_at e1 rfl, cell_at e1 rfl, cell_at e1 rfl, cell_at e1 rfl, cell_at e1 rfl, cell_at e1 rfl, cell_at e2 rfl, cell_at e2 rfl, cell_at e2 rfl, cell_at e2 rfl, cell_at e2 rfl, cell_at e2 rfl⟩
  have HX := Lib.hid (And.intro hb2 (And.intro (ho.on hb2) (And.intro (hm.on hb2) (And.intro hnd hwf))))
  have HEQ := Lib.hid (eq_any t r.s.p r.s.c r.a.p r.a.c r.k.p r.k.c A ca B cb K ck W2 (hrt.on hb2) (hat.on hb2) hwf hg)
  have HW2 := Lib.hid hW2
  obtain ⟨k0, k1, k2, k3, k4, k5, m0, m1, m2, m3, m4, m5⟩ := HK.out W2 (Below.refl _ _)
  clear ho hnd hm hat hwf hg hrt f1 f2 f3 hval hb1 hb2 hx1 hx2 hW2
  go_enter Tryz.func12, Tryz.ntmps12
  go_upto_region 1 with fail
  rw [← HW2.out]
  go_wp2_with fail
  refine HEQ.out.mono ?_
  rintro e w3 ⟨rfl, hb3⟩
  have HB3 := Lib.hid hb3
  have HMK : Hid (Calls Tryz.prog 46 #[tmVal t r.s.p r.s.c r.a.p r.a.c r.k.p r.k.c] w3 fun e w' => e = .returned (.bool true) ∧ Below w3.heap.size w3 w') := Lib.hid (by
    rw [← HV.out]
    exact marked_any (cnt t) t r B0 w3 (Nat.le_refl _) (HX.out.2.1.on hb3) (HX.out.2.2.1.on hb3) HX.out.2.2.2.2)
  clear hb3 k0 k1 k2 k3 k4 k5 m0 m1 m2 m3 m4 m5
  obtain ⟨k0, k1, k2, k3, k4, k5, _⟩ := HK.out w3 HB3.out
  unfold tmVal at HMK
  go_wp2_with fail
  refine HMK.out.mono ?_
  rintro e w4 ⟨rfl, hb4⟩
  have HB4 := Lib.hid (HB3.out.then_ hb4)
  have HSM : Hid (Calls Tryz.prog 47 #[tmVal t r.s.p r.s.c r.a.p r.a.c r.k.p r.k.c] w4 fun e w' => e = .returned (.tuple #[]) ∧ Only w4 w' (blksT r)) := Lib.hid (by
    rw [← HV.out]
    exact smear_any (cnt t) t r B0 w4 (Nat.le_refl _) (HX.out.2.1.on HB4.out) HX.out.2.2.2.1 HX.out.2.2.2.2)
  clear hb4 k0 k1 k2 k3 k4 k5
  obtain ⟨k0, k1, k2, k3, k4, k5, _⟩ := HK.out w4 HB4.out
  unfold tmVal at HSM
  go_wp2_with fail
  refine HSM.out.mono ?_
  rintro e w5 ⟨rfl, ho5⟩
  have HO5 := Lib.hid ho5
  clear ho5 k0 k1 k2 k3 k4 k5
  go_wp2_with fail
  go_ret
  exact ⟨rfl, (Only.of_below (HX.out.1.then_ HB4.out) _).trans HO5.out⟩
end Go.Proofs.YtkdejffhdhcocaaGreat
