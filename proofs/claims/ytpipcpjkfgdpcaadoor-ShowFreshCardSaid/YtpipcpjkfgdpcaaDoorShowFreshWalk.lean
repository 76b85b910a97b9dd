/- The walk of ShowFresh: it returns true. Conditions: the listed variables of Go's library are as laid; sizes within reach. -/
import Derived.Test.YtpipcpjkfgdpcaaDoorShFr9
namespace Go.Proofs.YtpipcpjkfgdpcaaDoor
open Go.RowKit

theorem pk_start (w w1 : World) (hb : Below w.heap.size w w1) : FPk w (((w1.alloc (.cells #[.int .i64 0] TW)).alloc (.cells #[.slice none 0 0, .int .i64 0, .slice none 0 0] TBk)).alloc (.cells #[.slice none 0 0, .slice none 0 0, .int .i64 0] TQ)) w1.heap.size (w1.heap.size + 1) (w1.heap.size + 1 + 1) 0
    (.slice none 0 0) (.slice none 0 0) 0 [] [] (.slice none 0 0) (.slice none 0 0) 0 [] := by
  have h0 := hb.size
  have s1 : (w1.alloc (.cells #[.int .i64 0] TW)).heap.size = w1.heap.size + 1 := by simp
  have s2 : ((w1.alloc (.cells #[.int .i64 0] TW)).alloc (.cells #[.slice none 0 0, .int .i64 0, .slice none 0 0] TBk)).heap.size = w1.heap.size + 1 + 1 := by simp
  have b1 : Below w1.heap.size w1 (w1.alloc (.cells #[.int .i64 0] TW)) := (Below.refl _ _).alloc (Nat.le_refl _) _
  have b2 : Below (w1.alloc (.cells #[.int .i64 0] TW)).heap.size (w1.alloc (.cells #[.int .i64 0] TW)) ((w1.alloc (.cells #[.int .i64 0] TW)).alloc (.cells #[.slice none 0 0, .int .i64 0, .slice none 0 0] TBk)) := (Below.refl _ _).alloc (Nat.le_refl _) _
  have b3 : Below ((w1.alloc (.cells #[.int .i64 0] TW)).alloc (.cells #[.slice none 0 0, .int .i64 0, .slice none 0 0] TBk)).heap.size ((w1.alloc (.cells #[.int .i64 0] TW)).alloc (.cells #[.slice none 0 0, .int .i64 0, .slice none 0 0] TBk)) _ := (Below.refl _ _).alloc (Nat.le_refl _) (.cells #[.slice none 0 0, .slice none 0 0, .int .i64 0] TQ)
  refine ⟨((hb.then_ b1).then_ b2).then_ b3, ?_, ?_, ⟨?_, World.ownsRow_nil _ _ _ _, World.ownsRow_nil _ _ _ _, fun k hk => (by cases hk)⟩, fun it hit => (by cases hit), List.Pairwise.nil, List.Pairwise.nil, h0, by omega, by omega⟩
  · exact ((b2.then_ b3).block _ (by rw [s1]; omega)).trans (heap_alloc_new w1 _)
  · have h := book_new (w1.alloc (.cells #[.int .i64 0] TW)) w.heap.size
    rw [s1] at h
    exact h.on b3
  · have h := heap_alloc_new ((w1.alloc (.cells #[.int .i64 0] TW)).alloc (.cells #[.slice none 0 0, .int .i64 0, .slice none 0 0] TBk)) (.cells #[.slice none 0 0, .slice none 0 0, .int .i64 0] TQ)
    rw [s2] at h
    exact h

set_option maxHeartbeats 32000000 in
set_option maxRecDepth 100000 in
theorem showFresh_any (X : Option Addr) (n cp : Nat) (w : World) (hp : Pow10 w) (hs : StrsAt w X n) (hn : n ≤ 1099511627776000) :
    Calls Tryd.prog 6 #[.slice X n cp] w fun e w' => e = .returned (.bool true) ∧ Below w.heap.size w w' := by
  have HP := Lib.hid hp
  have HS := Lib.hid hs
  clear hp hs
  go_enter Tryd.func6, Tryd.ntmps6
  go_wp2_with fail
  refine (begun_any w HP.out).mono ?_
  rintro e w1 ⟨rfl, hb1⟩
  have HB1 := Lib.hid hb1
  clear hb1
  go_wp2_with fail
  go_loopw [6] (fun v6 W => ∃ (i m mu mq : Nat) (iv av gv wv : Value) (ri ra : List Rw) (its : List Item), i ≤ n ∧ v6 = .int .i64 i ∧ 100 * i ≤ m ∧ m ≤ 4194304 ∧ mu ≤ 67108864 * i ∧ mq ≤ 200000000 * i ∧ ri.length ≤ i ∧ ra.length ≤ i ∧ its.length ≤ 2 * i ∧
    Hid (FPk w W w1.heap.size (w1.heap.size + 1) (w1.heap.size + 1 + 1) m iv av mu ri ra gv wv mq its)) (fun v6 _ => n - (intOf v6).toNat)
  case atStart =>
    refine ⟨0, 0, 0, 0, .slice none 0 0, .slice none 0 0, .slice none 0 0, .slice none 0 0, [], [], [], Nat.zero_le _, rfl, by omega, by omega, by omega, by omega, by simp, by simp, by simp, ?_⟩
    exact Lib.hid (pk_start w w1 HB1.out)
  case round =>
    obtain ⟨i, m, mu, mq, iv, av, gv, wv, ri, ra, its, hi, rfl, hm, hm2, hmu, hmq, hri, hra, hits, HF⟩ := hrel
    obtain ⟨W0, rfl⟩ : ∃ W0, W0 = wr := ⟨_, rfl⟩
    by_cases hlt : i < n
    · obtain ⟨b, off, s, rfl, hbl0, ks0, hss⟩ := HS.out i hlt
      have HST : Hid (∀ W, Below w.heap.size w W → W.cell? ⟨b, off + i, none⟩ = some (.string s)) := Lib.hid (fun W hb => (hb.cell (p := ⟨b, off + i, none⟩) hbl0).trans ks0)
      have ks := HST.out W0 HF.out.be
      clear ks0 hbl0
      go_wp2_with fail
      refine (over_any _ m s.size W0 HF.out.hw (by omega) (by omega)).mono ?_
      rintro e w2 ⟨rfl, rfl⟩
      have HF2 := Lib.hid (HF.out.over (m + 100 + s.size))
      obtain ⟨W2, hW2⟩ : ∃ W2, W2 = W0.setCell ⟨w1.heap.size, 0, none⟩ (.int .i64 ((m + 100 + s.size : Nat) : Int)) := ⟨_, rfl⟩
      rw [← hW2] at HF2 ⊢
      obtain ⟨m2, hm2'⟩ : ∃ m2, m2 = m + 100 + s.size := ⟨_, rfl⟩
      rw [← hm2'] at HF2 ⊢
      clear hW2 ks
      by_cases hbig : 4194304 < m2
      · rw [decide_eq_true hbig]
        clear hbig
        go_wp2_with fail
        refine (allWhole_any w.heap.size (w1.heap.size + 1) iv av mu ri ra W2 HF2.out.bk (by omega) (by omega)).mono ?_
        rintro e w3 ⟨rfl, hb3⟩
        have HF3 := Lib.hid (HF2.out.on hb3)
        clear hb3
        go_wp2_with fail
        refine (untouched_any w.heap.size _ gv wv mq its w3 HF3.out.qt HF3.out.it HF3.out.a1 HF3.out.a2 (by omega) HF3.out.be.size).mono ?_
        rintro e w4 ⟨rfl, ho4⟩
        have HO4 := Lib.hid ho4
        clear ho4
        go_wp2_with fail
        go_ret
        exact ⟨rfl, HF3.out.be.trans (HO4.out.base HF3.out.be.size fun k hk => hk)⟩
      · rw [decide_eq_false hbig]
        have ks := HST.out W2 HF2.out.be
        have hm3 : m2 ≤ 4194304 := by omega
        have HLT : Hid (∀ it ∈ its, ∀ b, (it.gs.g = some b ∨ it.ga.g = some b ∨ it.ws.g = some b ∨ it.wa.g = some b) → b < W2.heap.size) := Lib.hid (fun it hm b hb => (HF2.out.it it hm).lt hb)
        clear hbig
        go_wp2_with fail
        refine (rread_any s W2).mono ?_
        intro e w3 h3
        obtain ⟨r1, r2, place, err, sh, at_, rfl, hb3, hr3, ho3⟩ := rowRead h3
        have HR := Lib.hid hr3
        obtain ⟨W3, hW3⟩ : ∃ W3, W3 = w3.alloc (.cells #[.slice (r1.g.map fun b => ⟨b, 0, none⟩) r1.n r1.c, .slice (r2.g.map fun b => ⟨b, 0, none⟩) r2.n r2.c] TAr) := ⟨_, rfl⟩
        have hb3' : Below w3.heap.size w3 W3 := by rw [hW3]; exact (Below.refl _ _).alloc (Nat.le_refl _) _
        have HB23 := Lib.hid (hb3.then_ hb3')
        have HWANT : Hid (W3.heap[w3.heap.size]? = some (.cells #[.slice (r1.g.map fun b => ⟨b, 0, none⟩) r1.n r1.c, .slice (r2.g.map fun b => ⟨b, 0, none⟩) r2.n r2.c] TAr (0, 0)) ∧ RowsOf W3 W2.heap.size r1 r2 sh at_) := Lib.hid ⟨by rw [hW3]; exact heap_alloc_new w3 _, ho3.on hb3'⟩
        have HF3 := Lib.hid (HF2.out.on HB23.out)
        have ks3 := HST.out W3 HF3.out.be
        have HW3 := Lib.hid hW3
        rw [hW3] at ks3
        clear h3 hb3 hr3 ho3 hb3' hW3 ks
        go_wp2_with fail
        rw [← HW3.out]
        refine (sread_any s W3).mono ?_
        intro e w4 h4
        obtain ⟨r3, r4, place4, err4, sh4, at4, rfl, hb4, hr4, ho4⟩ := rowRead h4
        rw [HR.out] at hr4
        simp only [Prod.mk.injEq] at hr4
        obtain ⟨rfl, rfl, rfl, rfl⟩ := hr4
        obtain ⟨W4, hW4⟩ : ∃ W4, W4 = w4.alloc (.cells #[.slice (r3.g.map fun b => ⟨b, 0, none⟩) r3.n r3.c, .slice (r4.g.map fun b => ⟨b, 0, none⟩) r4.n r4.c] TAr) := ⟨_, rfl⟩
        have hb4' : Below w4.heap.size w4 W4 := by rw [hW4]; exact (Below.refl _ _).alloc (Nat.le_refl _) _
        have HB34 := Lib.hid (hb4.then_ hb4')
        have HA : Hid (W4.heap[w4.heap.size]? = some (.cells #[.slice (r3.g.map fun b => ⟨b, 0, none⟩) r3.n r3.c, .slice (r4.g.map fun b => ⟨b, 0, none⟩) r4.n r4.c] TAr (0, 0)) ∧ RowsOf W4 W3.heap.size r3 r4 sh at_) := Lib.hid ⟨by rw [hW4]; exact heap_alloc_new w4 _, ho4.on hb4'⟩
        have HWANT4 : Hid (W4.heap[w3.heap.size]? = some (.cells #[.slice (r1.g.map fun b => ⟨b, 0, none⟩) r1.n r1.c, .slice (r2.g.map fun b => ⟨b, 0, none⟩) r2.n r2.c] TAr (0, 0)) ∧ RowsOf W4 W2.heap.size r1 r2 sh at_) := Lib.hid ⟨(HB34.out.block _ (heap_lt HWANT.out.1)).trans HWANT.out.1, HWANT.out.2.on HB34.out⟩
        have HF4 := Lib.hid (HF3.out.on HB34.out)
        have HC := Lib.hid (eqRows W4 _ _ r3 r4 r1 r2 sh at_ HA.out.2 HWANT4.out.2)
        obtain ⟨y0, y1⟩ := heap2 HA.out.1
        obtain ⟨z0, z1⟩ := heap2 HWANT4.out.1
        have HW4 := Lib.hid hW4
        rw [hW4] at y0 y1 z0 z1
        clear h4 hb4 ho4 hb4' hW4 ks3
        go_wp2_with fail
        rw [← HW4.out]
        refine HC.out.mono ?_
        rintro e w5 ⟨rfl, hb5⟩
        clear y0 y1 z0 z1 HC
        have HF5 := Lib.hid (HF4.out.on hb5)
        have hA5 := (hb5.block _ (heap_lt HA.out.1)).trans HA.out.1
        have hW5n := (hb5.block _ (heap_lt HWANT4.out.1)).trans HWANT4.out.1
        have hRa5 := HA.out.2.on hb5
        have hRw5 := HWANT4.out.2.on hb5
        obtain ⟨W5, hW5⟩ : ∃ W5, W5 = w5.alloc (.cells #[.slice (r3.g.map fun b => ⟨b, 0, none⟩) r3.n r3.c, .slice (r4.g.map fun b => ⟨b, 0, none⟩) r4.n r4.c] TAr) := ⟨_, rfl⟩
        have hb5' : Below w5.heap.size w5 W5 := by rw [hW5]; exact (Below.refl _ _).alloc (Nat.le_refl _) _
        have HB45 := Lib.hid (hb5.then_ hb5')
        have HF5' := Lib.hid (HF5.out.on hb5')
        have hs0 : w.heap.size ≤ W2.heap.size := HF2.out.be.size
        have hs3 : W2.heap.size ≤ W3.heap.size := HB23.out.size
        have hs4 : W3.heap.size ≤ W4.heap.size := HB34.out.size
        have hs5 : W4.heap.size ≤ W5.heap.size := HB45.out.size
        have hRa := hRa5.on hb5'
        have HRW : Hid (W5.heap[w3.heap.size]? = some (.cells #[.slice (r1.g.map fun b => ⟨b, 0, none⟩) r1.n r1.c, .slice (r2.g.map fun b => ⟨b, 0, none⟩) r2.n r2.c] TAr (0, 0)) ∧ RowsOf W5 W2.heap.size r1 r2 sh at_) := Lib.hid ⟨(hb5'.block _ (heap_lt hW5n)).trans hW5n, hRw5.on hb5'⟩
        have hrib : ∀ s ∈ ri, ∀ p ∈ [(r3, r4)], ∀ b, p.1.g = some b → s.g ≠ some b := fun s hs p hp b hb e => by
          rw [List.mem_singleton] at hp
          subst hp
          have h1 := (hRa.lt (.inl hb)).1
          have h2 := (HF2.out.bk.ri hs).lt e
          omega
        have hrab : ∀ s ∈ ra, ∀ p ∈ [(r3, r4)], ∀ b, p.2.g = some b → s.g ≠ some b := fun s hs p hp b hb e => by
          rw [List.mem_singleton] at hp
          subst hp
          have h1 := (hRa.lt (.inr hb)).1
          have h2 := (HF2.out.bk.ra hs).lt e
          omega
        have HTA := takeArrays_any w.heap.size w5.heap.size (w1.heap.size + 1) iv av mu ri ra [(r3, r4)] (some ⟨w5.heap.size, 0, none⟩) 1 W5 HF5'.out.bk (by rw [hW5]; exact World.ownsRow_lit w5 #[.slice (r3.g.map fun b => ⟨b, 0, none⟩) r3.n r3.c, .slice (r4.g.map fun b => ⟨b, 0, none⟩) r4.n r4.c] 1 (Nat.le_refl _) (by decide) rfl)
          (fun p hp => by rw [List.mem_singleton] at hp; subst hp; exact ⟨hRa.s.mono (by omega), hRa.a.mono (by omega), by show r3.n ≤ _; rw [hRa.sl]; exact hRa.shl, by show r4.n ≤ _; rw [hRa.al]; exact hRa.atl⟩)
          (List.pairwise_singleton _ _) (List.pairwise_singleton _ _) hrib hrab (by simp; omega) (by simp; omega) (by omega)
        have HRA3 := Lib.hid hRa
        have HT := Lib.hid HTA
        have HW5 := Lib.hid hW5
        obtain ⟨y0, y1⟩ := heap2 hA5
        clear hb5 hA5 hW5n hRa5 hRw5 hb5' hRa hrib hrab HTA hW5
        go_wp2_with fail
        rw [← HW5.out]
        refine HT.out.mono ?_
        rintro e w6 ⟨rfl, iv', av', mu', ri', ra', hbook, hmu', hon, hl1, hl2⟩
        clear y0 y1
        have HF6 : Hid (FPk w w6 w1.heap.size (w1.heap.size + 1) (w1.heap.size + 1 + 1) m2 iv' av' mu' ri' ra' gv wv mq its) := Lib.hid (HF5'.out.take (S := W2.heap.size) hon hbook (fun b hb => by have := (HRA3.out.lt hb).1; omega) hs0 HLT.out (fun b hb => by obtain ⟨_, c, hc, _⟩ := HRA3.out.s.at_ b hb; exact ⟨c, hc⟩) (fun b hb => by obtain ⟨_, c, hc, _⟩ := HRA3.out.a.at_ b hb; exact ⟨c, hc⟩))
        have HRW6 : Hid (w6.heap[w3.heap.size]? = some (.cells #[.slice (r1.g.map fun b => ⟨b, 0, none⟩) r1.n r1.c, .slice (r2.g.map fun b => ⟨b, 0, none⟩) r2.n r2.c] TAr (0, 0)) ∧ RowsOf w6 W2.heap.size r1 r2 sh at_) := Lib.hid (by
          have hold : ∀ b, (r1.g = some b ∨ r2.g = some b) → r3.g ≠ some b ∧ r4.g ≠ some b := fun b hb => by
            have hlt : b < W3.heap.size := (HWANT.out.2.lt hb).2
            exact ⟨fun e => by have := (HRA3.out.lt (.inl e)).1; omega, fun e => by have := (HRA3.out.lt (.inr e)).1; omega⟩
          refine ⟨(hon.block _ (heap_lt HRW.out.1) (ap_not HF5'.out.bk HRW.out.1 (by decide) (by decide) (by decide) ⟨fun e => ?_, fun e => ?_⟩)).trans HRW.out.1, HRW.out.2.same hon.size fun b hb => ?_⟩
          · obtain ⟨_, c, hc, _⟩ := HRA3.out.s.at_ _ e
            exact absurd (types_apart hc HRW.out.1) (by decide)
          · obtain ⟨_, c, hc, _⟩ := HRA3.out.a.at_ _ e
            exact absurd (types_apart hc HRW.out.1) (by decide)
          · rcases hb with hb | hb
            · obtain ⟨_, c, hc, _⟩ := HRW.out.2.s.at_ b hb
              exact hon.block b (heap_lt hc) (ap_not HF5'.out.bk hc (by decide) (by decide) (by decide) (hold b (.inl hb)))
            · obtain ⟨_, c, hc, _⟩ := HRW.out.2.a.at_ b hb
              exact hon.block b (heap_lt hc) (ap_not HF5'.out.bk hc (by decide) (by decide) (by decide) (hold b (.inr hb))))
        have hs6 : W5.heap.size ≤ w6.heap.size := hon.size
        have hmu6 : mu' ≤ 67108864 * (i + 1) := by simp at hmu'; omega
        have hl1' : ri'.length ≤ i + 1 := by simp at hl1; omega
        have hl2' : ra'.length ≤ i + 1 := by simp at hl2; omega
        have ks6 := HST.out w6 HF6.out.be
        clear hbook hon hmu' hl1 hl2 HF HF2 HF3 HF4 HF5 HF5' HW3 HW4 HW5 HWANT HWANT4 HA HRA3 HRW HT
        go_wp2_with fail
        refine (sread_any s w6).mono ?_
        intro e w7 h7
        obtain ⟨r5, r6, place5, err5, sh5, at5, rfl, hb7, hr7, ho7⟩ := rowRead h7
        rw [HR.out] at hr7
        simp only [Prod.mk.injEq] at hr7
        obtain ⟨rfl, rfl, rfl, rfl⟩ := hr7
        obtain ⟨W7, hW7⟩ : ∃ W7, W7 = w7.alloc (.cells #[.slice (r5.g.map fun b => ⟨b, 0, none⟩) r5.n r5.c, .slice (r6.g.map fun b => ⟨b, 0, none⟩) r6.n r6.c] TAr) := ⟨_, rfl⟩
        have hb7' : Below w7.heap.size w7 W7 := by rw [hW7]; exact (Below.refl _ _).alloc (Nat.le_refl _) _
        have HB67 := Lib.hid (hb7.then_ hb7')
        have HC7 : Hid (W7.heap[w7.heap.size]? = some (.cells #[.slice (r5.g.map fun b => ⟨b, 0, none⟩) r5.n r5.c, .slice (r6.g.map fun b => ⟨b, 0, none⟩) r6.n r6.c] TAr (0, 0)) ∧ RowsOf W7 w6.heap.size r5 r6 sh at_) := Lib.hid ⟨by rw [hW7]; exact heap_alloc_new w7 _, ho7.on hb7'⟩
        have HF7 := Lib.hid (HF6.out.on HB67.out)
        have ks7 := HST.out W7 HF7.out.be
        have hs7 : w6.heap.size ≤ W7.heap.size := HB67.out.size
        have HW7 := Lib.hid hW7
        rw [hW7] at ks7
        clear h7 hb7 ho7 hb7' hW7 ks6
        go_wp2_with fail
        rw [← HW7.out]
        refine (sread_any s W7).mono ?_
        intro e w8 h8
        obtain ⟨r7, r8, place7, err7, sh7, at7, rfl, hb8, hr8, ho8⟩ := rowRead h8
        rw [HR.out] at hr8
        simp only [Prod.mk.injEq] at hr8
        obtain ⟨rfl, rfl, rfl, rfl⟩ := hr8
        obtain ⟨W8, hW8⟩ : ∃ W8, W8 = w8.alloc (.cells #[.slice (r7.g.map fun b => ⟨b, 0, none⟩) r7.n r7.c, .slice (r8.g.map fun b => ⟨b, 0, none⟩) r8.n r8.c] TAr) := ⟨_, rfl⟩
        have hb8' : Below w8.heap.size w8 W8 := by rw [hW8]; exact (Below.refl _ _).alloc (Nat.le_refl _) _
        have HB78 := Lib.hid (hb8.then_ hb8')
        have HALL : Hid (∀ W, Below W8.heap.size W8 W → (W.heap[w3.heap.size]? = some (.cells #[.slice (r1.g.map fun b => ⟨b, 0, none⟩) r1.n r1.c, .slice (r2.g.map fun b => ⟨b, 0, none⟩) r2.n r2.c] TAr (0, 0)) ∧ RowsOf W W2.heap.size r1 r2 sh at_) ∧
            (W.heap[w7.heap.size]? = some (.cells #[.slice (r5.g.map fun b => ⟨b, 0, none⟩) r5.n r5.c, .slice (r6.g.map fun b => ⟨b, 0, none⟩) r6.n r6.c] TAr (0, 0)) ∧ RowsOf W w6.heap.size r5 r6 sh at_) ∧
            (W.heap[w8.heap.size]? = some (.cells #[.slice (r7.g.map fun b => ⟨b, 0, none⟩) r7.n r7.c, .slice (r8.g.map fun b => ⟨b, 0, none⟩) r8.n r8.c] TAr (0, 0)) ∧ RowsOf W W7.heap.size r7 r8 sh at_) ∧ FPk w W w1.heap.size (w1.heap.size + 1) (w1.heap.size + 1 + 1) m2 iv' av' mu' ri' ra' gv wv mq its) := Lib.hid (fun W hb => by
          have h78 := HB78.out
          have hb68 := (HB67.out.then_ h78).then_ hb
          have h8 : W8.heap[w8.heap.size]? = some (.cells #[.slice (r7.g.map fun b => ⟨b, 0, none⟩) r7.n r7.c, .slice (r8.g.map fun b => ⟨b, 0, none⟩) r8.n r8.c] TAr (0, 0)) := by rw [hW8]; exact heap_alloc_new w8 _
          exact ⟨⟨(hb68.block _ (heap_lt HRW6.out.1)).trans HRW6.out.1, HRW6.out.2.on hb68⟩, ⟨((h78.then_ hb).block _ (heap_lt HC7.out.1)).trans HC7.out.1, HC7.out.2.on (h78.then_ hb)⟩, ⟨(hb.block _ (heap_lt h8)).trans h8, (ho8.on hb8').on hb⟩, HF6.out.on hb68⟩)
        have hs8 : W7.heap.size ≤ W8.heap.size := HB78.out.size
        have hW7lt : ∀ b, (r5.g = some b ∨ r6.g = some b) → b < W7.heap.size := fun b hb => (HC7.out.2.lt hb).2
        have H57 := Lib.hid hW7lt
        have HW8 := Lib.hid hW8
        clear h8 hb8 ho8 hb8' hW8 ks7 hW7lt HC7 HRW6 HF6 HF7 HW7
        go_upto_region 16 with fail
        rw [← HW8.out]
        go_cut [111] from 27 to 119 (fun v wx => v = .bool false ∧ Hid (Below W8.heap.size W8 wx))
        case first =>
          obtain ⟨hw8, hc8, hd8, _⟩ := HALL.out W8 (Below.refl _ _)
          obtain ⟨z0, z1⟩ := heap2 hw8.1
          obtain ⟨c0, c1⟩ := heap2 hc8.1
          have HC := Lib.hid (eqRows W8 _ _ r5 r6 r1 r2 sh at_ hc8.2 hw8.2)
          clear hw8 hc8 hd8
          go_wp2_with fail
          refine HC.out.mono ?_
          rintro e w9 ⟨rfl, hb9⟩
          clear z0 z1 c0 c1 HC
          have HB9 := Lib.hid hb9
          obtain ⟨hw9, hc9, hd9, _⟩ := HALL.out w9 hb9
          obtain ⟨z0, z1⟩ := heap2 hw9.1
          obtain ⟨c0, c1⟩ := heap2 hd9.1
          have HC := Lib.hid (eqRows w9 _ _ r7 r8 r1 r2 sh at_ hd9.2 hw9.2)
          clear hb9 hw9 hc9 hd9
          go_wp2_with fail
          refine HC.out.mono ?_
          rintro e w10 ⟨rfl, hb10⟩
          clear z0 z1 c0 c1 HC
          have HB10 := Lib.hid (HB9.out.then_ hb10)
          have HBW := Lib.hid (allWhole_any w.heap.size (w1.heap.size + 1) iv' av' mu' ri' ra' w10 (HALL.out w10 HB10.out).2.2.2.bk (by omega) (by omega))
          clear hb10
          go_wp2_with fail
          · refine HBW.out.mono ?_
            rintro e w11 ⟨rfl, hb11⟩
            have HB11 := Lib.hid (HB10.out.then_ hb11)
            clear hb11
            go_wp2_with fail
            go_meet
            case rel => exact ⟨rfl, HB11⟩
          · go_wp2_with fail
            go_meet
            case rel => exact ⟨rfl, HB10⟩
        obtain ⟨rfl, HB11⟩ := hcut
        obtain ⟨w11, rfl⟩ : ∃ w11, w11 = wc := ⟨_, rfl⟩
        obtain ⟨hw9, hc9, hd9, hf9⟩ := HALL.out w11 HB11.out
        obtain ⟨z0, z1⟩ := heap2 hw9.1
        obtain ⟨c0, c1⟩ := heap2 hc9.1
        obtain ⟨d0, d1⟩ := heap2 hd9.1
        have zz : ∀ o : Obj, (w11.alloc o).cell? ⟨w3.heap.size, 0, none⟩ = w11.cell? ⟨w3.heap.size, 0, none⟩ := fun o => World.cell?_of_block (Below.heap_alloc _ _ _ (heap_lt hw9.1))
        have zz1 : ∀ o : Obj, (w11.alloc o).cell? ⟨w3.heap.size, 1, none⟩ = w11.cell? ⟨w3.heap.size, 1, none⟩ := fun o => World.cell?_of_block (Below.heap_alloc _ _ _ (heap_lt hw9.1))
        have zy0 := (zz (.cells #[.slice (r5.g.map fun b => ⟨b, 0, none⟩) r5.n r5.c, .slice (r6.g.map fun b => ⟨b, 0, none⟩) r6.n r6.c, .slice (r7.g.map fun b => ⟨b, 0, none⟩) r7.n r7.c, .slice (r8.g.map fun b => ⟨b, 0, none⟩) r8.n r8.c] TAr)).trans z0
        have zy1 := (zz1 (.cells #[.slice (r5.g.map fun b => ⟨b, 0, none⟩) r5.n r5.c, .slice (r6.g.map fun b => ⟨b, 0, none⟩) r6.n r6.c, .slice (r7.g.map fun b => ⟨b, 0, none⟩) r7.n r7.c, .slice (r8.g.map fun b => ⟨b, 0, none⟩) r8.n r8.c] TAr)).trans z1
        have HX := Lib.hid (And.intro hw9 (And.intro hc9 (And.intro hd9 hf9)))
        clear zz zz1 hw9 hc9 hd9 hf9
        go_wp2_with fail
        clear z0 z1 c0 c1 d0 d1 zy0 zy1
        obtain ⟨W12, hW12⟩ : ∃ W12, W12 = w11.alloc (.cells #[.slice (r5.g.map fun b => ⟨b, 0, none⟩) r5.n r5.c, .slice (r6.g.map fun b => ⟨b, 0, none⟩) r6.n r6.c, .slice (r7.g.map fun b => ⟨b, 0, none⟩) r7.n r7.c, .slice (r8.g.map fun b => ⟨b, 0, none⟩) r8.n r8.c] TAr) := ⟨_, rfl⟩
        have hb12 : Below w11.heap.size w11 W12 := by rw [hW12]; exact (Below.refl _ _).alloc (Nat.le_refl _) _
        have hz12 : W12.heap.size = w11.heap.size + 1 := by rw [hW12]; simp
        have own1 : W12.ownsRow w11.heap.size TAr 2 (.slice (some ⟨w11.heap.size, 0, none⟩) 2 2) 2 [.slice (r5.g.map fun b => ⟨b, 0, none⟩) r5.n r5.c, .slice (r6.g.map fun b => ⟨b, 0, none⟩) r6.n r6.c, .slice (r7.g.map fun b => ⟨b, 0, none⟩) r7.n r7.c, .slice (r8.g.map fun b => ⟨b, 0, none⟩) r8.n r8.c] := by
          rw [hW12]
          exact World.ownsRow_lit w11 #[.slice (r5.g.map fun b => ⟨b, 0, none⟩) r5.n r5.c, .slice (r6.g.map fun b => ⟨b, 0, none⟩) r6.n r6.c, .slice (r7.g.map fun b => ⟨b, 0, none⟩) r7.n r7.c, .slice (r8.g.map fun b => ⟨b, 0, none⟩) r8.n r8.c] 2 (Nat.le_refl _) (by decide) rfl
        rw [← hW12]
        obtain ⟨W13, hW13⟩ : ∃ W13, W13 = W12.alloc (.cells #[.slice (r1.g.map fun b => ⟨b, 0, none⟩) r1.n r1.c, .slice (r2.g.map fun b => ⟨b, 0, none⟩) r2.n r2.c, .slice (r1.g.map fun b => ⟨b, 0, none⟩) r1.n r1.c, .slice (r2.g.map fun b => ⟨b, 0, none⟩) r2.n r2.c] TAr) := ⟨_, rfl⟩
        have hb13 : Below W12.heap.size W12 W13 := by rw [hW13]; exact (Below.refl _ _).alloc (Nat.le_refl _) _
        have own2 : W13.ownsRow W12.heap.size TAr 2 (.slice (some ⟨w11.heap.size + 1, 0, none⟩) 2 2) 2 [.slice (r1.g.map fun b => ⟨b, 0, none⟩) r1.n r1.c, .slice (r2.g.map fun b => ⟨b, 0, none⟩) r2.n r2.c, .slice (r1.g.map fun b => ⟨b, 0, none⟩) r1.n r1.c, .slice (r2.g.map fun b => ⟨b, 0, none⟩) r2.n r2.c] := by
          rw [hW13, ← hz12]
          exact World.ownsRow_lit W12 #[.slice (r1.g.map fun b => ⟨b, 0, none⟩) r1.n r1.c, .slice (r2.g.map fun b => ⟨b, 0, none⟩) r2.n r2.c, .slice (r1.g.map fun b => ⟨b, 0, none⟩) r1.n r1.c, .slice (r2.g.map fun b => ⟨b, 0, none⟩) r2.n r2.c] 2 (Nat.le_refl _) (by decide) rfl
        rw [← hW13]
        have hb := hb12.then_ hb13
        have hF13 := HX.out.2.2.2.on hb
        have hw13 := HX.out.1.2.on hb
        have hc13 := HX.out.2.1.2.on hb
        have hd13 := HX.out.2.2.1.2.on hb
        have hn1 : ∀ it ∈ [(⟨r5, r6, r1, r2, sh, at_⟩ : Item), ⟨r7, r8, r1, r2, sh, at_⟩], ItemAt W13 w.heap.size it := fun it hit => by
          simp only [List.mem_cons, List.not_mem_nil, or_false] at hit
          rcases hit with rfl | rfl
          · exact itemOf hc13 hw13 (by omega) (by omega)
          · exact itemOf hd13 hw13 (by omega) (by omega)
        have hne : ∀ k, (Value.slice (some ⟨w11.heap.size, 0, none⟩) 2 2).ownBlock = some k ∨ (Value.slice (some ⟨w11.heap.size + 1, 0, none⟩) 2 2).ownBlock = some k → gv.ownBlock ≠ some k ∧ wv.ownBlock ≠ some k := fun k hk => by
          have hkl : w11.heap.size ≤ k := by
            rcases hk with hk | hk <;> (simp only [Value.ownBlock, Option.some.injEq] at hk; omega)
          exact ⟨fun e => by have := (HX.out.2.2.2.qt.og.lt k e).2; omega, fun e => by have := (HX.out.2.2.2.qt.ow.lt k e).2; omega⟩
        refine (keep_any w.heap.size w11.heap.size W12.heap.size _ gv wv mq its [⟨r5, r6, r1, r2, sh, at_⟩, ⟨r7, r8, r1, r2, sh, at_⟩] (some ⟨w11.heap.size, 0, none⟩) (some ⟨w11.heap.size + 1, 0, none⟩) 2 2 W13 hF13.qt (own_on own1 hb13) own2 hne hn1 (by simp; omega) (by simp; omega) hF13.be.size).mono ?_
        rintro e w14 ⟨rfl, gv2, wv2, mq2, kks, hmq2, hk1⟩
        have HF14 : Hid (FPk w w14 w1.heap.size (w1.heap.size + 1) (w1.heap.size + 1 + 1) m2 iv' av' mu' ri' ra' gv2 wv2 mq2 (its ++ kks)) := Lib.hid (by
          have h57 : ∀ b, (r5.g = some b ∨ r6.g = some b) → ¬ (r7.g = some b ∨ r8.g = some b) := fun b h1 h2 => by
            have := H57.out b h1
            have := (hd13.lt h2).1
            omega
          refine hF13.keep (S := W2.heap.size) hk1 hn1 HLT.out (fun it hit b hb => ?_) ?_ ?_
          · simp only [List.mem_cons, List.not_mem_nil, or_false] at hit
            rcases hit with rfl | rfl
            · have := (hc13.lt hb).1; omega
            · have := (hd13.lt hb).1; omega
          · refine List.pairwise_cons.2 ⟨fun x hx => ?_, List.pairwise_singleton _ _⟩
            simp only [List.map_cons, List.map_nil, List.mem_singleton] at hx
            rw [hx]
            show r5.g = none ∨ r5.g ≠ r7.g
            cases hg : r5.g with
            | none => exact .inl rfl
            | some b => exact .inr fun e => h57 b (.inl hg) (.inl e.symm)
          · refine List.pairwise_cons.2 ⟨fun x hx => ?_, List.pairwise_singleton _ _⟩
            simp only [List.map_cons, List.map_nil, List.mem_singleton] at hx
            rw [hx]
            show r6.g = none ∨ r6.g ≠ r8.g
            cases hg : r6.g with
            | none => exact .inl rfl
            | some b => exact .inr fun e => h57 b (.inr hg) (.inr e.symm))
        have hkk : kks.length ≤ 2 := by have := hk1.sub.length_le; simp at this; omega
        have hmq3 : mq2 ≤ 200000000 * (i + 1) := by simp at hmq2; omega
        have hlen : (its ++ kks).length ≤ 2 * (i + 1) := by rw [List.length_append]; omega
        clear hk1 hF13 hw13 hc13 hd13 hn1 hne hb hb12 hb13 hW12 hW13 own1 own2 hmq2
        go_wp2_with fail
        exact ⟨⟨i + 1, m2, mu', mq2, iv', av', gv2, wv2, ri', ra', its ++ kks, by omega, by go_num, by omega, hm3, hmu6, hmq3, hl1', hl2', hlen, HF14⟩, by simp [intOf]; omega⟩
    · have hge : ¬ (i : Int) < n := by omega
      clear hlt
      go_wp2_with fail
      refine (allWhole_any w.heap.size (w1.heap.size + 1) iv av mu ri ra W0 HF.out.bk (by omega) (by omega)).mono ?_
      rintro e w3 ⟨rfl, hb3⟩
      have HF3 := Lib.hid (HF.out.on hb3)
      clear hb3
      go_wp2_with fail
      refine (untouched_any w.heap.size _ gv wv mq its w3 HF3.out.qt HF3.out.it HF3.out.a1 HF3.out.a2 (by omega) HF3.out.be.size).mono ?_
      rintro e w4 ⟨rfl, ho4⟩
      have HO4 := Lib.hid ho4
      clear ho4
      go_wp2_with fail
      go_ret
      exact ⟨rfl, HF3.out.be.trans (HO4.out.base HF3.out.be.size fun k hk => hk)⟩
end Go.Proofs.YtpipcpjkfgdpcaaDoor
