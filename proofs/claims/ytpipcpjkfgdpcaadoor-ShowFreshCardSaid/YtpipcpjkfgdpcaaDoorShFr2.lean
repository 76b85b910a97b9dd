/- abacuslaw2.(*Book).Take. Condition: sizes within reach. -/
import Derived.Test.YtpipcpjkfgdpcaaDoorShFr1
import Derived.Deep.AppendLies
import Derived.Deep.Cut
import Derived.Deep.RegionWith
import Derived.Deep.RegionLaw
namespace Go.Proofs.YtpipcpjkfgdpcaaDoor
open Go.RowKit

/-- a book's cells, its list of lengths at hand -/
def csI (av : Value) (v : Value) (m : Nat) : Array Value := #[v, .int .i64 m, av]
theorem csI_count (av v : Value) (m m' : Nat) : (csI av v m).setIfInBounds 1 (.int .i64 ((m' : Nat) : Int)) = csI av v m' := rfl
theorem csI_list (av v v' : Value) (m : Nat) : (csI av v m).setIfInBounds 0 v' = csI av v' m := rfl
theorem info_tsi : (Tryd.prog.info? TI).map (fun i => (i.zero, i.size, i.bytes)) = some (some (.int .i64 0), 1, 8) := by kernel_rfl
theorem info_tsl : (Tryd.prog.info? TSI).map (fun i => (i.zero, i.size, i.bytes)) = some (some (.slice none 0 0), 1, 24) := by kernel_rfl
theorem cell_one_at (w : World) (v : Value) (t : TypeId) : ∀ j u, [v][j]? = some u → (w.alloc (.cells #[v] t)).cell? ((⟨w.heap.size, 0, none⟩ : Addr).add j) = some u := by
  intro j u h
  match j, h with
  | 0, h => simpa [Addr.add, World.cell?_alloc_new] using h
  | j + 1, h => simp at h

def lenV : Value → Nat
  | .slice _ n _ => n
  | _ => 0

set_option maxHeartbeats 16000000 in
set_option maxRecDepth 100000 in
theorem take_any (B B' pb : Nat) (iv av : Value) (mu : Nat) (rs ns : List Rw) (Q : Option Addr) (cq : Nat) (w : World) (hbk : w.heap[pb]? = some (.cells #[iv, .int .i64 mu, av] TBk (0, 0))) (hoi : w.ownsRow B TSI 1 iv rs.length (rs.map Rw.val))
    (hQ : w.ownsRow B' TSI 1 (.slice Q ns.length cq) ns.length (ns.map Rw.val)) (hne : ∀ k, (Value.slice Q ns.length cq).ownBlock = some k → iv.ownBlock ≠ some k) (hra : ∀ r ∈ ns, RowAt TI w B r) (hap : ns.Pairwise fun a b => a.g = none ∨ a.g ≠ b.g) (hn : ∀ r ∈ ns, r.n ≤ 1048576)
    (hmu : mu + 33554432 * ns.length ≤ 1125899906842624) (hlen : rs.length + ns.length ≤ 1099511627776) (hB : B ≤ w.heap.size) :
    Calls Tryd.prog 49 #[.pointer (some ⟨pb, 0, none⟩), .slice Q ns.length cq] w fun e w' => e = .returned (.tuple #[]) ∧ ∃ iv' mu' ks, mu' ≤ mu + 33554432 * ns.length ∧ T2 TI TSI (csI av) w B pb iv rs ns ks ks.length w' iv' mu' := by
  have HS : Hid (T1 TI TSI (csI av) w B pb iv rs ns 0 w iv mu []) := Lib.hid (T1.start hra hbk hoi)
  have HAP := Lib.hid hap
  have HNN := Lib.hid hn
  obtain ⟨n, hnl⟩ : ∃ n, n = ns.length := ⟨_, rfl⟩
  have HN := Lib.hid hnl
  have HQ : Hid (∀ W, Only (BP pb iv ns) w W → ∀ i r, ns[i]? = some r → ∃ g, Q = some ⟨g, 0, none⟩ ∧ g < W.heap.size ∧ W.cell? ⟨g, i, none⟩ = some r.val) := Lib.hid (fun W hO i r hi => by
    obtain ⟨hil, _⟩ := List.getElem?_eq_some_iff.1 hi
    obtain ⟨g, rfl, h1, h2⟩ := own_cell hQ (j := i) (u := r.val) (by rw [List.getElem?_map, hi]; rfl) (by omega)
    refine ⟨g, rfl, Nat.lt_of_lt_of_le h1 hO.size, (World.cell?_of_block (hO.block g h1 (fun hp => ?_))).trans h2⟩
    obtain ⟨cur, hc⟩ := row_type hQ g rfl
    rcases hp with hp | hp | ⟨s, hs, hp⟩
    · subst hp; exact absurd (types_apart hc hbk) (by decide)
    · exact hne g rfl hp.symm
    · exact (hra s hs).ne hc (by decide) hp)
  obtain ⟨A0, c0, rfl, hA1, hA2⟩ := own_form hoi
  obtain ⟨k0, k1, k2⟩ := heap3 hbk
  obtain ⟨R, hR⟩ : ∃ R, R = rs.length := ⟨_, rfl⟩
  have HR := Lib.hid hR
  have HB := Lib.hid hB
  rw [← hnl] at hmu hlen ⊢
  rw [← hR] at hlen k0 HS HQ
  obtain ⟨j0, hj, hz0, hz1, hz2⟩ := info_parts info_tsl
  clear hbk hoi hQ hne hra hap hn hnl hR k1 k2 hB hA1 hA2
  go_enter Tryd.func49, Tryd.ntmps49
  go_wp2_with fail
  clear k0
  go_loopw [5] (fun v5 W => ∃ (i : Nat) (iv' : Value) (mu' : Nat) (ks : List Rw), i ≤ n ∧ v5 = .int .i64 i ∧ mu' ≤ mu + 33554432 * i ∧ Hid (T1 TI TSI (csI av) w B pb (.slice A0 R c0) rs ns i W iv' mu' ks)) (fun v5 _ => n - (intOf v5).toNat)
  case atStart => exact ⟨0, _, mu, [], Nat.zero_le _, rfl, by omega, HS⟩
  case round =>
    obtain ⟨i, iv', mu', ks, hi, rfl, hmu', HT⟩ := hrel
    obtain ⟨A', c', rfl, hA1, hA2⟩ := own_form HT.out.oi
    have hkl : ks.length ≤ i := by have := HT.out.sub.length_le; rw [List.length_take] at this; omega
    obtain ⟨W1, rfl⟩ : ∃ W1, W1 = wr := ⟨_, rfl⟩
    obtain ⟨N, hNN⟩ : ∃ N, N = rs.length + ks.length := ⟨_, rfl⟩
    have HNN' := Lib.hid hNN
    have hNR : N ≤ R + i := by have := HR.out; omega
    rw [← hNN] at HT hA1
    have hbk : W1.heap[pb]? = some (.cells #[.slice A' N c', .int .i64 mu', av] TBk (0, 0)) := HT.out.bk
    clear hNN
    by_cases hlt : i < n
    · obtain ⟨r, hr⟩ : ∃ r, ns[i]? = some r := ⟨_, List.getElem?_eq_getElem (by rw [← HN.out]; exact hlt)⟩
      have hrm := List.mem_of_getElem? hr
      have hrn := HNN.out r hrm
      obtain ⟨q, rfl, hq, kq⟩ := HQ.out W1 HT.out.on i r hr
      have hrl := HT.out.ra r hrm
      have hroom := roomOf_le hrl.le
      have hroom2 : roomOf r.n r.c ≤ r.n + 70000 := by unfold roomOf; split <;> omega
      have hcm : r.c ≤ 9223372036854775807 := hrl.max
      have HRr := Lib.hid hr
      have HFULL := Lib.hid (full_any pb (.slice A' N c') av mu' (16 * roomOf r.n r.c) W1.drew hbk (by omega) (by omega))
      have HROOM := Lib.hid (fun W => room_any r.n r.c W (by omega))
      have hmul : IntKind.i64.wrap (16 * ((roomOf r.n r.c : Nat) : Int)) = ((16 * roomOf r.n r.c : Nat) : Int) := by rw [IntKind.wrap_i64]; omega
      simp only [Rw.val] at kq
      clear hr hrm hrl hbk hA2
      go_upto_region 4 with fail
      go_cut [35] from 16 to 70 (fun v wx => v = .bool (decide (33554432 < mu' + 400 + 16 * roomOf r.n r.c)) ∧ Hid (T1 TI TSI (csI av) w B pb (.slice A0 R c0) rs ns i wx (.slice A' N c') (mu' + 400 + 16 * roomOf r.n r.c) ks))
      case first =>
        go_region_with (first | (go_at_call 48; refine (HROOM.out _).mono ?_; rintro e w5 ⟨rfl, rfl⟩) | (go_at_call 47; refine HFULL.out.mono ?_; rintro e w5 ⟨rfl, rfl⟩))
        all_goals
          go_wp2_with fail
          go_meet
          case rel => exact ⟨rfl, Lib.hid ((HT.out.below (Below.refl _ _).drew).count (csI_count av) (by decide) (by decide) _)⟩
      obtain ⟨rfl, HT1⟩ := hcut
      obtain ⟨mu2, hmu2⟩ : ∃ mu2, mu2 = mu' + 400 + 16 * roomOf r.n r.c := ⟨_, rfl⟩
      rw [← hmu2] at HT1 ⊢
      have hmu3 : mu2 ≤ mu + 33554432 * (i + 1) := by omega
      clear kq HFULL HROOM hmul hmu2
      by_cases hfull : 33554432 < mu2
      · rw [decide_eq_true hfull]
        clear hfull
        go_wp2_with fail
        exact ⟨⟨i + 1, _, mu2, ks, by omega, by go_num, hmu3, Lib.hid HT1.out.skip⟩, by simp [intOf]; omega⟩
      · rw [decide_eq_false hfull]
        have hbk2 : wc.heap[pb]? = some (.cells #[.slice A' N c', .int .i64 mu2, av] TBk (0, 0)) := HT1.out.bk
        obtain ⟨x0, x1, x2⟩ := heap3 hbk2
        clear hbk2 hfull
        go_wp2_with fail
        clear x0 x1 x2
        go_loopw [7] (fun v7 W => ∃ k : Nat, k ≤ r.n ∧ v7 = .int .i64 k ∧ Hid (T1 TI TSI (csI av) w B pb (.slice A0 R c0) rs ns i W (.slice A' N c') mu2 ks ∧ MkAt W r k (mkN N))) (fun v7 _ => r.n - (intOf v7).toNat)
        case atStart => exact ⟨0, Nat.zero_le _, rfl, Lib.hid ⟨HT1.out, MkAt.zero _ _ _⟩⟩
        case round =>
          obtain ⟨k, hk, rfl, HI⟩ := hrel
          obtain ⟨W2, rfl⟩ : ∃ W2, W2 = wr := ⟨_, rfl⟩
          obtain ⟨g2, hg2, hgl, kq⟩ := HQ.out W2 HI.out.1.on i r HRr.out
          obtain rfl : q = g2 := by injection hg2 with hg2; injection hg2
          have hrl := HI.out.1.ra r (List.mem_of_getElem? HRr.out)
          simp only [Rw.val] at kq
          clear hg2
          by_cases hlt2 : k < r.n
          · obtain ⟨b, hb⟩ := hrl.some (Nat.lt_of_lt_of_le hlt2 hrl.le)
            obtain ⟨old, ko, fo⟩ := hrl.free hb (Nat.lt_of_lt_of_le hlt2 hrl.le)
            have HNX := Lib.hid (And.intro (HI.out.1.mark HAP.out HRr.out hb (by decide) (by decide) k (.int .i64 (mkN N))) (HI.out.2.set hrl hb (Nat.lt_of_lt_of_le hlt2 hrl.le)))
            simp only [hb, Option.map_some] at kq
            clear hrl hb
            go_wp2_with fail
            exact ⟨⟨k + 1, by omega, by go_num, HNX⟩, by simp [intOf]; omega⟩
          · obtain rfl : k = r.n := by omega
            have hge : ¬ (r.n : Int) < r.n := by omega
            have hbk3 : W2.heap[pb]? = some (.cells #[.slice A' N c', .int .i64 mu2, av] TBk (0, 0)) := HI.out.1.bk
            obtain ⟨x0, x1, x2⟩ := heap3 hbk3
            have hpl := heap_lt hbk3
            have kA0 := (World.cell?_of_block (a := ⟨pb, 0, none⟩) (Below.heap_alloc W2 (.cells #[.slice (r.g.map fun b => ⟨b, 0, none⟩) r.n r.c] TSI) pb hpl)).trans x0
            clear hlt2 hrl
            go_upto_region 10 with fail
            obtain ⟨W3, hW3⟩ : ∃ W3, W3 = (W2.alloc (.cells #[.slice (r.g.map fun b => ⟨b, 0, none⟩) r.n r.c] TSI)).drew := ⟨_, rfl⟩
            have HB3 : Hid (Below W2.heap.size W2 W3) := Lib.hid (by rw [hW3]; exact ((Below.refl _ _).alloc (Nat.le_refl _) _).drew)
            have HO3 : Hid (W3.ownsRow B TSI 1 (.slice A' N c') N ((rs ++ ks).map Rw.val)) := Lib.hid (by rw [HNN'.out]; have h := (HI.out.1.below HB3.out).oi; rw [← HNN'.out] at h ⊢; exact h)
            have HC3 : Hid (∀ (j : Nat) (u : Value), [Value.slice (r.g.map fun b => ⟨b, 0, none⟩) r.n r.c][j]? = some u → W3.cell? ((⟨W2.heap.size, 0, none⟩ : Addr).add j) = some u) := Lib.hid (by rw [hW3]; exact cell_one_at _ _ _)
            have HZ3 : Hid (W3.heap.size = W2.heap.size + 1) := Lib.hid (by rw [hW3]; simp)
            have HBB : Hid (B ≤ W3.heap.size) := Lib.hid (Nat.le_trans HB.out (Nat.le_trans HI.out.1.on.size HB3.out.size))
            have HW3 := Lib.hid hW3
            have HP3 : Hid (W3.heap[pb]? = some (.cells #[.slice A' N c', .int .i64 mu2, av] TBk (0, 0)) ∧ pb < W3.heap.size ∧ (Value.slice A' N c').ownBlock ≠ some pb) := Lib.hid ⟨(HB3.out.block pb hpl).trans hbk3, Nat.lt_of_lt_of_le hpl HB3.out.size, fun e => by
              obtain ⟨cur, hc⟩ := row_type HI.out.1.oi pb e
              exact absurd (types_apart hc hbk3) (by decide)⟩
            clear hW3 hbk3 hpl
            go_region_law (go_loud (rw [← HW3.out]; refine step_append_lies _ rfl (.tmp 62) (.tmp 67) 52 rfl B TSI j0 (.slice none 0 0) 1 24 Tryd.underlying52 hj hz0 hz1 hz2 rfl (by decide) (.slice A' N c') N ((rs ++ ks).map Rw.val) (by simp [Act.eval]) HO3.out ⟨W2.heap.size, 0, none⟩ 1 1 [.slice (r.g.map fun b => ⟨b, 0, none⟩) r.n r.c] (by simp [Act.eval]) rfl HC3.out (by simp [Value.oneCell']) (by decide) (by unfold maxLen; omega) (by omega) HBB.out (W2.heap.size + 1) HZ3.out ?_; intro g' cap' w' hown' hgr' hor' hlt'; have hq' := (hgr'.block pb HP3.out.2.1 (fun e => HP3.out.2.2 e.symm)).trans HP3.out.1; obtain ⟨kq0, _, _⟩ := heap3 hq'; have fq0 := unfrozen hq' 0))
            all_goals
              have HST : Hid (T1 TI TSI (csI av) w B pb (.slice A0 R c0) rs ns (i + 1) (w'.setCell ⟨pb, 0, none⟩ (.slice (some ⟨g', 0, none⟩) (N + 1) cap')) (.slice (some ⟨g', 0, none⟩) (N + 1) cap') mu2 (ks ++ [r])) := Lib.hid (by
                refine (HI.out.1.below HB3.out).take 0 (csI_list av) (by decide) (by decide) (by decide) HRr.out ?_ hgr' ?_ ?_
                · rw [← HNN'.out]
                  exact HI.out.2.kept fun b hb => HB3.out.block b ((HI.out.1.ra r (List.mem_of_getElem? HRr.out)).lt hb)
                · rw [← HNN'.out]; exact hown'
                · rcases hor' with h | h
                  · exact .inl h.symm
                  · exact .inr (by rw [h, ← HZ3.out]; rfl))
              clear hown' hgr' hor' hlt' hq' kq0 fq0
              go_wp2_with fail
              exact ⟨⟨i + 1, _, mu2, ks ++ [r], by omega, by go_num, hmu3, HST⟩, by simp [intOf]; omega⟩
    · obtain rfl : i = n := by omega
      have hge : ¬ (i : Int) < i := by omega
      have HT2 := Lib.hid HT.out.grow
      obtain ⟨x0, x1, x2⟩ := heap3 hbk
      clear hlt HT HS hbk
      go_wp2_with fail
      clear x0 x1 x2
      go_loopw [8] (fun v8 W => ∃ i2 p : Nat, p ≤ ks.length ∧ v8 = .int .i64 i2 ∧ Hid (i2 = R + p) ∧ Hid (T2 TI TSI (csI av) w B pb (.slice A0 R c0) rs ns ks p W (.slice A' N c') mu')) (fun v8 _ => N - (intOf v8).toNat)
      case atStart => exact ⟨R, 0, Nat.zero_le _, rfl, Lib.hid (by omega), HT2⟩
      case round =>
        obtain ⟨i2, p, hp, rfl, HIP, HT3⟩ := hrel
        obtain ⟨W2, rfl⟩ : ∃ W2, W2 = wr := ⟨_, rfl⟩
        have hbk2 : W2.heap[pb]? = some (.cells #[.slice A' N c', .int .i64 mu', av] TBk (0, 0)) := HT3.out.bk
        obtain ⟨x0, x1, x2⟩ := heap3 hbk2
        clear hbk2
        by_cases hlt : p < ks.length
        · obtain ⟨r, hr⟩ : ∃ r, ks[p]? = some r := ⟨_, List.getElem?_eq_getElem hlt⟩
          have HRr := Lib.hid hr
          have hrm := HT3.out.mem hr
          have hrl := HT3.out.ra r hrm
          have hrn := HNN.out r hrm
          have hroom := roomOf_le hrl.le
          have hcm : r.c ≤ 9223372036854775807 := hrl.max
          have hi2N : (i2 : Int) < N := by have h1 := HIP.out; have h2 := HNN'.out; have h3 := HR.out; omega
          have HCELL : Hid (∀ W, T2 TI TSI (csI av) w B pb (.slice A0 R c0) rs ns ks p W (.slice A' N c') mu' → ∃ g, A' = some ⟨g, 0, none⟩ ∧ g < W.heap.size ∧ W.cell? ⟨g, i2, none⟩ = some r.val) := Lib.hid (fun W h => by
            have h1 := h.oi
            rw [← HNN'.out] at h1
            refine own_cell h1 ?_ (by omega)
            rw [HIP.out, HR.out, List.getElem?_map, List.getElem?_append_right (by omega), Nat.add_sub_cancel_left, upTo_get hr]
            rfl)
          obtain ⟨g, rfl, hgl, kg⟩ := HCELL.out W2 HT3.out
          obtain ⟨P, hP⟩ : ∃ P, P = r.g.map fun b => (⟨b, 0, none⟩ : Addr) := ⟨_, rfl⟩
          simp only [Rw.val] at kg
          rw [← hP] at kg
          have HP := Lib.hid hP
          clear hr hrm hrl hP
          go_wp2_with fail
          refine (room_any r.n r.c _ (by omega)).mono ?_
          rintro e w5 ⟨rfl, rfl⟩
          go_wp2_with fail
          clear kg x0 x1 x2
          go_loopw [9] (fun v9 W => ∃ k : Nat, r.n ≤ k ∧ k ≤ roomOf r.n r.c ∧ v9 = .slice P k r.c ∧ Hid (T2 TI TSI (csI av) w B pb (.slice A0 R c0) rs ns ks p W (.slice (some ⟨g, 0, none⟩) N c') mu' ∧ MkAt W r k (mkN i2))) (fun v9 _ => roomOf r.n r.c - lenV v9)
          case atStart => exact ⟨r.n, Nat.le_refl _, hroom.1, rfl, Lib.hid ⟨HT3.out, by
            have h := HT3.out.km p r HRr.out
            rw [if_neg (Nat.lt_irrefl p), ← HR.out, ← HIP.out] at h
            exact h⟩⟩
          case round =>
            obtain ⟨k, hk1, hk2, rfl, HI⟩ := hrel
            obtain ⟨W4, rfl⟩ : ∃ W4, W4 = wr := ⟨_, rfl⟩
            have hrl := HI.out.1.ra r (HI.out.1.mem HRr.out)
            by_cases hlt2 : k < roomOf r.n r.c
            · have hkc : k < r.c := Nat.lt_of_lt_of_le hlt2 hroom.2
              obtain ⟨b, hb⟩ := hrl.some hkc
              obtain rfl : P = some ⟨b, 0, none⟩ := by rw [HP.out, hb]; rfl
              have hii : (k : Int) < (roomOf r.n r.c : Nat) := by omega
              have hbl := hrl.lt hb
              obtain ⟨W5, hW5⟩ : ∃ W5, W5 = W4.alloc (.cells #[.int .i64 (mkN i2)] TI) := ⟨_, rfl⟩
              have hb5 : Below W4.heap.size W4 W5 := by rw [hW5]; exact (Below.refl _ _).alloc (Nat.le_refl _) _
              have hr5 := hrl.on hb5
              have hk5 := HI.out.2.kept (w' := W5) fun b hb => hb5.block b (hrl.lt hb)
              obtain ⟨old, ko, fo⟩ := hr5.free hb hkc
              have HNX := Lib.hid (And.intro ((HI.out.1.below hb5).mark HAP.out HRr.out hb (by decide) (by decide) hk1 (.int .i64 (mkN i2))) (hk5.set hr5 hb hkc))
              have HSP : Hid (∀ j, j < [Value.int .i64 (mkN i2)].length → (W5.cell? ⟨b, 0 + k + j, none⟩).isSome = true ∧ W5.frozen? ⟨b, 0 + k + j, none⟩ = false) := Lib.hid (fun j hj => by
                obtain rfl : j = 0 := by simpa using hj
                simp [ko, fo])
              rw [hW5] at HNX HSP
              unfold mkN at HSP
              clear hrl hb hbl hW5 hb5 hr5 hk5 ko fo
              go_wp2_with (at_builtin; refine wpList_append_room1 _ rfl (.tmp 97) (.tmp 100) 25 25 rfl TI (.int .i64 0) 8 Tryd.underlying25 info_tsi b 0 k r.c rfl (.slice (some ⟨W4.heap.size, 0, none⟩) 1 1) rfl 1 [.int .i64 (-1 - (i2 : Int))] (Src.ofSlice _ Tryd.underlying25 _ 1 1 _ (by simp) (cell_one_at _ _ _) (by simp [Value.oneCell'])) (by omega) (fun j hj => (HSP.out j hj).1) (fun j hj => (HSP.out j hj).2) ?_)
              rw [show ∀ W : World, W.setCells b k [Value.int .i64 (-1 - (i2 : Int))] = W.setCell ⟨b, k, none⟩ (.int .i64 (-1 - (i2 : Int))) from fun W => by simp [World.setCells]]
              exact ⟨⟨k + 1, by omega, by omega, rfl, HNX⟩, by simp [lenV]; omega⟩
            · obtain rfl : k = roomOf r.n r.c := by omega
              have hge : ¬ ((roomOf r.n r.c : Nat) : Int) < (roomOf r.n r.c : Nat) := by omega
              obtain ⟨g2, hg2, hgl2, kg⟩ := HCELL.out W4 HI.out.1
              obtain rfl : g = g2 := by injection hg2 with hg2; injection hg2
              have fg : W4.frozen? ⟨g, i2, none⟩ = false := by
                obtain ⟨cur, hc⟩ := row_type HI.out.1.oi g rfl
                exact unfrozen hc _
              have hbk4 : W4.heap[pb]? = some (.cells #[.slice (some ⟨g, 0, none⟩) N c', .int .i64 mu', av] TBk (0, 0)) := HI.out.1.bk
              obtain ⟨x0, x1, x2⟩ := heap3 hbk4
              have HNX : Hid (T2 TI TSI (csI av) w B pb (.slice A0 R c0) rs ns ks (p + 1) (W4.setCell ⟨g, i2, none⟩ (.slice P (roomOf r.n r.c) r.c)) (.slice (some ⟨g, 0, none⟩) N c') mu') := Lib.hid (by
                have h := HI.out.1.step (by decide) (by decide) HRr.out (by rw [← HR.out, ← HIP.out]; exact HI.out.2) rfl
                rw [← HR.out, ← HIP.out] at h
                rw [HP.out]
                exact h)
              clear hg2 hbk4 hrl hlt2
              go_wp2_with fail
              exact ⟨⟨i2 + 1, p + 1, by omega, by go_num, Lib.hid (by have := HIP.out; omega), HNX⟩, by simp [intOf]; omega⟩
        · obtain rfl : p = ks.length := by omega
          have hge2 : ¬ (i2 : Int) < N := by have h1 := HIP.out; have h2 := HNN'.out; have h3 := HR.out; omega
          clear hlt
          go_wp2_with fail
          refine bodyPost_end (results_none rfl _ _ _) rfl ?_
          rw [← HR.out]
          first | exact ⟨rfl, _, _, hmu', ks, HT3.out⟩ | exact ⟨rfl, _, _, ks, hmu', HT3.out⟩
end Go.Proofs.YtpipcpjkfgdpcaaDoor
