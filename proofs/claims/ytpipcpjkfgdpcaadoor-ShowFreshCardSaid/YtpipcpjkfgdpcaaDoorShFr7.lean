/- abacuslaw4.(*Quiet).Keep. Condition: sizes within reach. -/
import Derived.Test.YtpipcpjkfgdpcaaDoorShFr6
namespace Go.Proofs.YtpipcpjkfgdpcaaDoor
open Go.RowKit

theorem addr_inj {g g1 : Nat} (h : some (⟨g, 0, none⟩ : Addr) = some ⟨g1, 0, none⟩) : g = g1 := by
  injection h with h
  injection h

set_option maxHeartbeats 16000000 in
set_option maxRecDepth 100000 in
theorem keep_any (B B1 B2 pq : Nat) (gv wv : Value) (mu : Nat) (old its : List Item) (Q P : Option Addr) (cq cp : Nat) (w : World) (h : QuietAt w B pq gv wv mu old) (hq : w.ownsRow B1 TAr 2 (.slice Q its.length cq) its.length (arrVals (its.map Item.got)))
    (hp : w.ownsRow B2 TAr 2 (.slice P its.length cp) its.length (arrVals (its.map Item.want))) (hne : ∀ k, (Value.slice Q its.length cq).ownBlock = some k ∨ (Value.slice P its.length cp).ownBlock = some k → gv.ownBlock ≠ some k ∧ wv.ownBlock ≠ some k)
    (hit : ∀ it ∈ its, ItemAt w B it) (hmu : mu + 100000000 * its.length ≤ 1125899906842624) (hlen : old.length + its.length ≤ 1099511627776) (hB : B ≤ w.heap.size) :
    Calls Tryd.prog 20 #[.pointer (some ⟨pq, 0, none⟩), .slice Q its.length cq, .slice P its.length cp] w fun e w' => e = .returned (.tuple #[]) ∧ ∃ gv' wv' mu' ks, mu' ≤ mu + 100000000 * its.length ∧ K1 w B pq gv wv old its its.length w' gv' wv' mu' ks := by
  obtain ⟨n, hn⟩ : ∃ n, n = its.length := ⟨_, rfl⟩
  have HN := Lib.hid hn
  have HB := Lib.hid hB
  have HS : Hid (K1 w B pq gv wv old its 0 w gv wv mu []) := Lib.hid ⟨by simpa using h, by simp, Only.refl _ _, .inl rfl, .inl rfl⟩
  have HIT := Lib.hid hit
  have HQ : Hid (∀ W, Only (QP pq gv wv) w W → ∀ i it, its[i]? = some it → ∃ g g', Q = some ⟨g, 0, none⟩ ∧ P = some ⟨g', 0, none⟩ ∧ W.cell? ⟨g, i * 2, none⟩ = some it.gs.val ∧ W.cell? ⟨g, i * 2 + 1, none⟩ = some it.ga.val ∧ W.cell? ⟨g', i * 2, none⟩ = some it.ws.val ∧ W.cell? ⟨g', i * 2 + 1, none⟩ = some it.wa.val ∧ g < W.heap.size ∧ g' < W.heap.size) := Lib.hid (fun W hb i it hi => by
    obtain ⟨hil, _⟩ := List.getElem?_eq_some_iff.1 hi
    have e1 : (its.map Item.got)[i]? = some it.got := by rw [List.getElem?_map, hi]; rfl
    have e2 : (its.map Item.want)[i]? = some it.want := by rw [List.getElem?_map, hi]; rfl
    obtain ⟨g, rfl, h1, h2⟩ := own_cell hq (arrVals_get _ e1).1 (by omega)
    obtain ⟨g1, hg1, _, h3⟩ := own_cell hq (arrVals_get _ e1).2 (by omega)
    obtain rfl : g = g1 := by injection hg1 with hg1; injection hg1
    obtain ⟨g', rfl, h4, h5⟩ := own_cell hp (arrVals_get _ e2).1 (by omega)
    obtain ⟨g2, hg2, _, h6⟩ := own_cell hp (arrVals_get _ e2).2 (by omega)
    obtain rfl : g' = g2 := by injection hg2 with hg2; injection hg2
    have k1 := hb.block g h1 (fun hk => by
      rcases hk with hk | hk | hk
      · obtain ⟨c, hc⟩ := own_type hq g rfl
        subst hk
        exact absurd (types_apart hc h.bk) (by decide)
      · exact (hne g (.inl rfl)).1 hk.symm
      · exact (hne g (.inl rfl)).2 hk.symm)
    have k2 := hb.block g' h4 (fun hk => by
      rcases hk with hk | hk | hk
      · obtain ⟨c, hc⟩ := own_type hp g' rfl
        subst hk
        exact absurd (types_apart hc h.bk) (by decide)
      · exact (hne g' (.inr rfl)).1 hk.symm
      · exact (hne g' (.inr rfl)).2 hk.symm)
    exact ⟨g, g', rfl, rfl, (World.cell?_of_block k1).trans h2, (World.cell?_of_block k1).trans h3, (World.cell?_of_block k2).trans h5, (World.cell?_of_block k2).trans h6, Nat.lt_of_lt_of_le h1 hb.size, Nat.lt_of_lt_of_le h4 hb.size⟩)
  obtain ⟨j0, hj, hz0, hz1, hz2⟩ := info_parts info_tar
  rw [← hn] at hmu hlen ⊢
  clear h hq hp hne hit hn hB
  go_enter Tryd.func20, Tryd.ntmps20
  go_wp2_with fail
  go_loopw [6] (fun v6 W => ∃ (i : Nat) (gv' wv' : Value) (mu' : Nat) (ks : List Item), i ≤ n ∧ v6 = .int .i64 i ∧ mu' ≤ mu + 100000000 * i ∧ Hid (K1 w B pq gv wv old its i W gv' wv' mu' ks)) (fun v6 _ => n - (intOf v6).toNat)
  case atStart => exact ⟨0, gv, wv, mu, [], Nat.zero_le _, rfl, by omega, HS⟩
  case round =>
    obtain ⟨i, gv', wv', mu', ks, hi, rfl, hmu', HK⟩ := hrel
    obtain ⟨W1, rfl⟩ : ∃ W1, W1 = wr := ⟨_, rfl⟩
    by_cases hlt : i < n
    · obtain ⟨it, hit⟩ : ∃ it, its[i]? = some it := ⟨_, List.getElem?_eq_getElem (by rw [← HN.out]; exact hlt)⟩
      have HI := Lib.hid hit
      have hia := HIT.out it (List.mem_of_getElem? hit)
      have hl1 : it.ws.n ≤ 1048576 := by rw [hia.wsl]; exact hia.shl
      have hl2 : it.wa.n ≤ 1048576 := by rw [hia.wal]; exact hia.atl
      obtain ⟨g, g', rfl, rfl, k0, k1, k2, k3, _, _⟩ := HQ.out W1 HK.out.on i it hit
      obtain ⟨x0, x1, x2, xf⟩ := heap3 HK.out.q.bk
      have hkl : (old ++ ks).length ≤ old.length + i := by have := HK.out.sub.length_le; rw [List.length_take] at this; rw [List.length_append]; omega
      obtain ⟨M, hM⟩ : ∃ M, M = (old ++ ks).length := ⟨_, rfl⟩
      have HM := Lib.hid hM
      rw [← hM] at hkl
      obtain ⟨mu2, hmu2⟩ : ∃ mu2, mu2 = mu' + 800 + 30 * it.wa.n + 30 * it.ws.n := ⟨_, rfl⟩
      have hw1 : IntKind.i64.wrap ((mu' : Int) + 800) = (mu' : Int) + 800 := by rw [IntKind.wrap_i64]; omega
      have hw2 : IntKind.i64.wrap (30 * (it.wa.n : Int)) = 30 * (it.wa.n : Int) := by rw [IntKind.wrap_i64]; omega
      have hw3 : IntKind.i64.wrap ((mu' : Int) + 800 + 30 * (it.wa.n : Int)) = (mu' : Int) + 800 + 30 * (it.wa.n : Int) := by rw [IntKind.wrap_i64]; omega
      have hw4 : IntKind.i64.wrap (30 * (it.ws.n : Int)) = 30 * (it.ws.n : Int) := by rw [IntKind.wrap_i64]; omega
      have hw5 : IntKind.i64.wrap ((mu' : Int) + 800 + 30 * (it.wa.n : Int) + 30 * (it.ws.n : Int)) = (mu2 : Int) := by rw [IntKind.wrap_i64]; omega
      simp only [Rw.val] at k0 k1 k2 k3
      have HK1 : Hid (K1 w B pq gv wv old its i (W1.setCell ⟨pq, 2, none⟩ (.int .i64 (mu2 : Int))).drew gv' wv' mu2 ks) := Lib.hid ((HK.out.count mu2).below (Below.refl _ _).drew)
      have hmu3 : mu2 ≤ mu + 100000000 * (i + 1) := by omega
      clear hit hia hM hmu2 k0 k1
      go_upto_region 3 with fail
      go_cut [40] from 7 to 73 (fun v wx => v = .int .i64 mu2 ∧ Hid (K1 w B pq gv wv old its i wx gv' wv' mu2 ks))
      case first =>
        go_region
        all_goals
          go_wp2_with fail
          go_meet
          case rel => exact ⟨rfl, HK1⟩
      obtain ⟨rfl, HK2⟩ := hcut
      clear k2 k3 x0 x1 x2 xf hw1 hw2 hw3 hw4 hw5 HK1 HK
      obtain ⟨W2, rfl⟩ : ∃ W2, W2 = wc := ⟨_, rfl⟩
      obtain ⟨x0, x1, x2, xf⟩ := heap3 HK2.out.q.bk
      by_cases hbig : mu2 < 33554432
      · have hd : decide ((mu2 : Int) < 33554432) = true := by simp; omega
        clear hbig
        obtain ⟨g1, g1', e1, e2, k0, k1, k2, k3, hgl, hgl'⟩ := HQ.out W2 HK2.out.on i it HI.out
        obtain rfl := addr_inj e1
        obtain rfl := addr_inj e2
        have hog := HK2.out.q.og
        rw [← HM.out] at hog
        have hpl := heap_lt HK2.out.q.bk
        simp only [Rw.val] at k0 k1 k2 k3
        clear e1 e2
        go_upto_region 5 with fail
        go_cut [58] from 7 to 73 (fun v wx => ∃ (g2 cap2 : Nat), v = .slice (some ⟨g2, 0, none⟩) (M + 1) cap2 ∧ Hid (K2 w B pq gv wv old its i wx (.slice (some ⟨g2, 0, none⟩) (M + 1) cap2) wv' mu2 ks it))
        case first =>
          have kA0 := (World.cell?_of_block (a := ⟨pq, 0, none⟩) (Below.heap_alloc W2 (.cells #[.slice (it.gs.g.map fun b => ⟨b, 0, none⟩) it.gs.n it.gs.c, .slice (it.ga.g.map fun b => ⟨b, 0, none⟩) it.ga.n it.ga.c] TAr) pq hpl)).trans x0
          obtain ⟨W3, hW3⟩ : ∃ W3, W3 = (W2.alloc (.cells #[.slice (it.gs.g.map fun b => ⟨b, 0, none⟩) it.gs.n it.gs.c, .slice (it.ga.g.map fun b => ⟨b, 0, none⟩) it.ga.n it.ga.c] TAr)).drew := ⟨_, rfl⟩
          have HB3 : Hid (Below W2.heap.size W2 W3) := Lib.hid (by rw [hW3]; exact ((Below.refl _ _).alloc (Nat.le_refl _) _).drew)
          have HO3 : Hid (W3.ownsRow B TAr 2 gv' M (arrVals ((old ++ ks).map Item.got))) := Lib.hid (own_on hog HB3.out)
          have HC3 : Hid (∀ (j : Nat) (u : Value), [Value.slice (it.gs.g.map fun b => ⟨b, 0, none⟩) it.gs.n it.gs.c, Value.slice (it.ga.g.map fun b => ⟨b, 0, none⟩) it.ga.n it.ga.c][j]? = some u → W3.cell? ((⟨W2.heap.size, 0, none⟩ : Addr).add j) = some u) := Lib.hid (by rw [hW3]; exact cell_two_at _ _ _ _)
          have HZ3 : Hid (W3.heap.size = W2.heap.size + 1) := Lib.hid (by rw [hW3]; simp)
          have HBB : Hid (B ≤ W3.heap.size) := Lib.hid (Nat.le_trans HB.out (Nat.le_trans HK2.out.on.size HB3.out.size))
          have HW3 := Lib.hid hW3
          have HP3 : Hid (W3.heap[pq]? = some (.cells #[gv', wv', .int .i64 mu2] TQ (0, 0)) ∧ pq < W3.heap.size ∧ gv'.ownBlock ≠ some pq) := Lib.hid ⟨(HB3.out.block pq hpl).trans HK2.out.q.bk, Nat.lt_of_lt_of_le hpl HB3.out.size, fun e => by
            obtain ⟨cur, hc⟩ := own_type HK2.out.q.og pq e
            exact absurd (types_apart hc HK2.out.q.bk) (by decide)⟩
          clear hW3 hog hpl
          go_region_law (go_loud (rw [← HW3.out]; refine step_append_lies _ rfl (.tmp 52) (.tmp 57) 59 rfl B TAr j0 (.agg #[.slice none 0 0, .slice none 0 0]) 2 48 Tryd.underlying59 hj hz0 hz1 hz2 rfl (by decide) gv' M (arrVals ((old ++ ks).map Item.got)) (by simp [Act.eval]) HO3.out ⟨W2.heap.size, 0, none⟩ 1 1 [.slice (it.gs.g.map fun b => ⟨b, 0, none⟩) it.gs.n it.gs.c, .slice (it.ga.g.map fun b => ⟨b, 0, none⟩) it.ga.n it.ga.c] (by simp [Act.eval]) rfl HC3.out (by simp [Value.oneCell']) (by decide) (by unfold maxLen; omega) (by omega) HBB.out (W2.heap.size + 1) HZ3.out ?_; intro g2 cap2 w' hown' hgr' hor' hlt'; have hq' := (hgr'.block pq HP3.out.2.1 (fun e => HP3.out.2.2 e.symm)).trans HP3.out.1; obtain ⟨kq0, _, _, fq⟩ := heap3 hq'; have fq0 := fq 0))
          all_goals
            have HST : Hid (K2 w B pq gv wv old its i (w'.setCell ⟨pq, 0, none⟩ (.slice (some ⟨g2, 0, none⟩) (M + 1) cap2)) (.slice (some ⟨g2, 0, none⟩) (M + 1) cap2) wv' mu2 ks it) := Lib.hid (by
              refine (HK2.out.below HB3.out).half hgr' ?_ ?_
              · rw [← HM.out]; exact hown'
              · rcases hor' with h | h
                · exact .inl h.symm
                · exact .inr (by rw [h, ← HZ3.out]; rfl))
            clear hown' hgr' hor' hlt' hq' kq0 fq0 fq
            go_wp2_with fail
            go_meet
            case rel => exact ⟨g2, cap2, rfl, HST⟩
        obtain ⟨g2, cap2, rfl, HK3⟩ := hcut
        clear k0 k1 k2 k3 x0 x1 x2 xf hog hgl hgl' hpl hd
        obtain ⟨W4, rfl⟩ : ∃ W4, W4 = wc := ⟨_, rfl⟩
        obtain ⟨x0, x1, x2, xf⟩ := heap3 HK3.out.bk
        obtain ⟨g1, g1', e1, e2, k0, k1, k2, k3, hgl, hgl'⟩ := HQ.out W4 HK3.out.on i it HI.out
        obtain rfl := addr_inj e1
        obtain rfl := addr_inj e2
        have how := HK3.out.ow
        rw [← HM.out] at how
        have hpl := heap_lt HK3.out.bk
        simp only [Rw.val] at k0 k1 k2 k3
        clear e1 e2
        go_upto_region 6 with fail
        have kA0 := (World.cell?_of_block (a := ⟨pq, 1, none⟩) (Below.heap_alloc W4 (.cells #[.slice (it.ws.g.map fun b => ⟨b, 0, none⟩) it.ws.n it.ws.c, .slice (it.wa.g.map fun b => ⟨b, 0, none⟩) it.wa.n it.wa.c] TAr) pq hpl)).trans x1
        obtain ⟨W3, hW3⟩ : ∃ W3, W3 = (W4.alloc (.cells #[.slice (it.ws.g.map fun b => ⟨b, 0, none⟩) it.ws.n it.ws.c, .slice (it.wa.g.map fun b => ⟨b, 0, none⟩) it.wa.n it.wa.c] TAr)).drew := ⟨_, rfl⟩
        have HB3 : Hid (Below W4.heap.size W4 W3) := Lib.hid (by rw [hW3]; exact ((Below.refl _ _).alloc (Nat.le_refl _) _).drew)
        have HO3 : Hid (W3.ownsRow B TAr 2 wv' M (arrVals ((old ++ ks).map Item.want))) := Lib.hid (own_on how HB3.out)
        have HC3 : Hid (∀ (j : Nat) (u : Value), [Value.slice (it.ws.g.map fun b => ⟨b, 0, none⟩) it.ws.n it.ws.c, Value.slice (it.wa.g.map fun b => ⟨b, 0, none⟩) it.wa.n it.wa.c][j]? = some u → W3.cell? ((⟨W4.heap.size, 0, none⟩ : Addr).add j) = some u) := Lib.hid (by rw [hW3]; exact cell_two_at _ _ _ _)
        have HZ3 : Hid (W3.heap.size = W4.heap.size + 1) := Lib.hid (by rw [hW3]; simp)
        have HBB : Hid (B ≤ W3.heap.size) := Lib.hid (Nat.le_trans HB.out (Nat.le_trans HK3.out.on.size HB3.out.size))
        have HW3 := Lib.hid hW3
        have HP3 : Hid (W3.heap[pq]? = some (.cells #[.slice (some ⟨g2, 0, none⟩) (M + 1) cap2, wv', .int .i64 mu2] TQ (0, 0)) ∧ pq < W3.heap.size ∧ wv'.ownBlock ≠ some pq) := Lib.hid ⟨(HB3.out.block pq hpl).trans HK3.out.bk, Nat.lt_of_lt_of_le hpl HB3.out.size, fun e => by
          obtain ⟨cur, hc⟩ := own_type HK3.out.ow pq e
          exact absurd (types_apart hc HK3.out.bk) (by decide)⟩
        clear hW3 how hpl
        go_region_law (go_loud (rw [← HW3.out]; refine step_append_lies _ rfl (.tmp 65) (.tmp 70) 59 rfl B TAr j0 (.agg #[.slice none 0 0, .slice none 0 0]) 2 48 Tryd.underlying59 hj hz0 hz1 hz2 rfl (by decide) wv' M (arrVals ((old ++ ks).map Item.want)) (by simp [Act.eval]) HO3.out ⟨W4.heap.size, 0, none⟩ 1 1 [.slice (it.ws.g.map fun b => ⟨b, 0, none⟩) it.ws.n it.ws.c, .slice (it.wa.g.map fun b => ⟨b, 0, none⟩) it.wa.n it.wa.c] (by simp [Act.eval]) rfl HC3.out (by simp [Value.oneCell']) (by decide) (by unfold maxLen; omega) (by omega) HBB.out (W4.heap.size + 1) HZ3.out ?_; intro g3 cap3 w' hown' hgr' hor' hlt'; have hq' := (hgr'.block pq HP3.out.2.1 (fun e => HP3.out.2.2 e.symm)).trans HP3.out.1; obtain ⟨_, kq0, _, fq⟩ := heap3 hq'; have fq0 := fq 1))
        all_goals
          have HST : Hid (K1 w B pq gv wv old its (i + 1) (w'.setCell ⟨pq, 1, none⟩ (.slice (some ⟨g3, 0, none⟩) (M + 1) cap3)) (.slice (some ⟨g2, 0, none⟩) (M + 1) cap2) (.slice (some ⟨g3, 0, none⟩) (M + 1) cap3) mu2 (ks ++ [it])) := Lib.hid (by
            refine (HK3.out.below HB3.out).full HI.out hgr' ?_ ?_
            · rw [← HM.out]; exact hown'
            · rcases hor' with h | h
              · exact .inl h.symm
              · exact .inr (by rw [h, ← HZ3.out]; rfl))
          clear hown' hgr' hor' hlt' hq' kq0 fq0 fq
          go_wp2_with fail
          exact ⟨⟨i + 1, _, _, mu2, ks ++ [it], by omega, by go_num, hmu3, HST⟩, by simp [intOf]; omega⟩
      · have hd : decide ((mu2 : Int) < 33554432) = false := by simp; omega
        clear hbig
        go_wp2_with fail
        exact ⟨⟨i + 1, gv', wv', mu2, ks, by omega, by go_num, hmu3, Lib.hid HK2.out.skip⟩, by simp [intOf]; omega⟩
    · obtain rfl : i = n := by omega
      have hge : ¬ (i : Int) < i := by omega
      clear hlt
      go_wp2_with fail
      refine bodyPost_end (results_none rfl _ _ _) rfl ?_
      first | exact ⟨rfl, _, _, _, hmu', _, HK.out⟩ | exact ⟨rfl, _, _, _, ks, hmu', HK.out⟩
end Go.Proofs.YtpipcpjkfgdpcaaDoor
