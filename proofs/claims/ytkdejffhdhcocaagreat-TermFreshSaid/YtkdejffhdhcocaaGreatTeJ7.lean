/- abacuslaw13.(*Shelf).Ends: the terms of a shelf are what they were; then all are written full. Condition: sizes within reach. -/
import Derived.Test.YtkdejffhdhcocaaGreatTeJ3
import Derived.Test.YtkdejffhdhcocaaGreatTeBx
import Derived.Test.YtkdejffhdhcocaaGreatTeD3
import Derived.Test.YtkdejffhdhcocaaGreatTeJ5
import Derived.StillTailTactics
namespace Go.Proofs.YtkdejffhdhcocaaGreat
open Go.RowKit

theorem only_then {p q : Nat → Prop} {a b c : World} (h : OnlyP p a b) (k : OnlyP q b c) (hq : ∀ j, j < a.heap.size → q j → p j) : OnlyP p a c :=
  ⟨k.os.trans h.os, k.tape.trans h.tape, k.output.trans h.output, Nat.le_trans h.size k.size, fun j hj hn => (k.block j (Nat.lt_of_lt_of_le hj h.size) fun e => hn (hq j hj e)).trans (h.block j hj hn)⟩
theorem only_below {p : Nat → Prop} {a b : World} (h : Below a.heap.size a b) : OnlyP p a b := (OnlyP.refl _ _).below h
theorem blksL_take {rs : List Rt} {i : Nat} {q : Rt} (h : rs[i]? = some q) : blksL (rs.take (i + 1)) = blksL (rs.take i) ++ blksT q := by
  obtain ⟨hl, rfl⟩ := List.getElem?_eq_some_iff.1 h
  rw [← List.take_append_getElem hl, blksL_app]
  simp only [blksL, List.append_nil]
theorem blksL_mem {rs : List Rt} {i : Nat} {q : Rt} (h : rs[i]? = some q) {x : Nat} (hx : x ∈ blksT q) : x ∈ blksL rs := by
  rw [blksL_split rs i, blksL_drop h]
  exact List.mem_append_right _ (List.mem_append_left _ hx)
/-- a shelf's pair at hand, while some of its terms have been written over -/
def PairF (w : World) (B gA gU i : Nat) (L : List Nat) (kd : Tm) (r u : Rt) : Prop := ∀ W, OnlyP (fun x => x ∈ L) w W →
  (W.cell? ⟨gA, i * 6, none⟩ = some (.int .i64 kd.kind) ∧ W.cell? ⟨gA, i * 6 + 1, none⟩ = some (.string kd.text) ∧ W.cell? ⟨gA, i * 6 + 2, none⟩ = some (.int .i64 kd.n) ∧ W.cell? ⟨gA, i * 6 + 3, none⟩ = some (.slice r.s.p r.s.n r.s.c) ∧ W.cell? ⟨gA, i * 6 + 4, none⟩ = some (.slice r.a.p r.a.n r.a.c) ∧ W.cell? ⟨gA, i * 6 + 5, none⟩ = some (.slice r.k.p r.k.n r.k.c) ∧ gA < W.heap.size) ∧
  (W.cell? ⟨gU, i * 6, none⟩ = some (.int .i64 kd.kind) ∧ W.cell? ⟨gU, i * 6 + 1, none⟩ = some (.string kd.text) ∧ W.cell? ⟨gU, i * 6 + 2, none⟩ = some (.int .i64 kd.n) ∧ W.cell? ⟨gU, i * 6 + 3, none⟩ = some (.slice u.s.p u.s.n u.s.c) ∧ W.cell? ⟨gU, i * 6 + 4, none⟩ = some (.slice u.a.p u.a.n u.a.c) ∧ W.cell? ⟨gU, i * 6 + 5, none⟩ = some (.slice u.k.p u.k.n u.k.c) ∧ gU < W.heap.size) ∧
  OwnT W B kd r ∧ OwnT W B kd u
theorem ShE.pair {w : World} {B ps cA cU : Nat} {Q : Nat → Prop} {ts : List Tm} {rs us : List Rt} {AA AU : Option Addr} {n : Int} (h : ShE w B ps Q ts ts rs us (.slice AA ts.length cA) (.slice AU ts.length cU) n) {i : Nat} {kd : Tm} (hkd : ts[i]? = some kd) :
    ∃ r u gA gU, rs[i]? = some r ∧ us[i]? = some u ∧ AA = some ⟨gA, 0, none⟩ ∧ AU = some ⟨gU, 0, none⟩ ∧ PairF w B gA gU i (blksL (rs.take i)) kd r u ∧ (blksT r).Nodup ∧ (∀ x ∈ blksT r, x < w.heap.size ∧ x ∉ blksL (rs.take i)) := by
  have hlt := (List.getElem?_eq_some_iff.1 hkd).1
  obtain ⟨r, hr, hor⟩ := h.la.get hkd
  obtain ⟨u, hu, hou⟩ := h.lu.get hkd
  obtain ⟨gA, rfl, _, _⟩ := own_cell h.ra (rtCells_get (q := 0) hkd hr rfl) (by omega)
  obtain ⟨gU, rfl, _, _⟩ := own_cell h.ru (rtCells_get (q := 0) hkd hu rfl) (by omega)
  obtain ⟨cu1, hc1⟩ := row_type' h.ra gA rfl
  obtain ⟨cu2, hc2⟩ := row_type' h.ru gU rfl
  have hsub : ∀ x, x ∈ blksL (rs.take i) → x ∈ blksL rs := fun x hx => by rw [blksL_split rs i]; exact List.mem_append_left _ hx
  obtain ⟨n1, _, n3⟩ := List.nodup_append.1 h.nd
  rw [blksL_split rs i, blksL_drop hr] at n1
  obtain ⟨_, n4, n5⟩ := List.nodup_append.1 n1
  have hx : ∀ x ∈ blksT r, x < w.heap.size ∧ x ∉ blksL (rs.take i) := fun x hx => ⟨(hor.blk x hx).2, fun e => n5 x e x (List.mem_append_left _ hx) rfl⟩
  refine ⟨r, u, gA, gU, hr, hu, rfl, rfl, fun W hW => ?_, (List.nodup_append.1 n4).1, hx⟩
  have kA : W.heap[gA]? = w.heap[gA]? := hW.block gA (heap_lt hc1) fun e => (h.aa gA rfl).1 (hsub _ e)
  have kU : W.heap[gU]? = w.heap[gU]? := hW.block gU (heap_lt hc2) fun e => (h.au gU rfl).1 (hsub _ e)
  have cA : ∀ o v, (rtCells kd r)[o]? = some v → W.cell? ⟨gA, i * 6 + o, none⟩ = some v := fun o v hv => by
    obtain ⟨g, e, _, h2⟩ := own_cell h.ra (rtCells_get hkd hr hv) (by omega)
    simp only [Option.some.injEq, Addr.mk.injEq, and_true] at e
    subst e
    exact (World.cell?_of_block (a := ⟨gA, i * 6 + o, none⟩) kA).trans h2
  have cU : ∀ o v, (rtCells kd u)[o]? = some v → W.cell? ⟨gU, i * 6 + o, none⟩ = some v := fun o v hv => by
    obtain ⟨g, e, _, h2⟩ := own_cell h.ru (rtCells_get hkd hu hv) (by omega)
    simp only [Option.some.injEq, Addr.mk.injEq, and_true] at e
    subst e
    exact (World.cell?_of_block (a := ⟨gU, i * 6 + o, none⟩) kU).trans h2
  exact ⟨⟨cA 0 _ rfl, cA 1 _ rfl, cA 2 _ rfl, cA 3 _ rfl, cA 4 _ rfl, cA 5 _ rfl, Nat.lt_of_lt_of_le (heap_lt hc1) hW.size⟩, ⟨cU 0 _ rfl, cU 1 _ rfl, cU 2 _ rfl, cU 3 _ rfl, cU 4 _ rfl, cU 5 _ rfl, Nat.lt_of_lt_of_le (heap_lt hc2) hW.size⟩,
    hor.kept fun g hg => hW.block g (hor.blk g hg).2 (hx g hg).2, hou.kept fun g hg => hW.block g (hou.blk g hg).2 fun e => n3 g (hsub g e) g (blksL_mem hu hg) rfl⟩

set_option maxRecDepth 100000 in
set_option maxHeartbeats 32000000 in
theorem ends13_any (w : World) (B ps : Nat) (Q : Nat → Prop) (hB : B ≤ w.heap.size) (hs : ShX w B ps Q) :
    Calls Tryz.prog 14 #[.pointer (some ⟨ps, 0, none⟩)] w fun e w' => e = .returned (.bool true) ∧ OnlyP Q w w' := by
  obtain ⟨ts, rs, us, va, vu, n, hs, hs1, hs2⟩ := hs
  obtain ⟨m, hm⟩ : ∃ m, m = ts.length := ⟨_, rfl⟩
  have hm2 : m ≤ 36864 := by omega
  obtain ⟨AA, cA, rfl, _, _⟩ := own_form hs.ra
  obtain ⟨AU, cU, rfl, _, _⟩ := own_form hs.ru
  have HPR : Hid (∀ (i : Nat) (kd : Tm), ts[i]? = some kd → ∃ r u gA gU, rs[i]? = some r ∧ us[i]? = some u ∧ AA = some ⟨gA, 0, none⟩ ∧ AU = some ⟨gU, 0, none⟩ ∧ PairF w B gA gU i (blksL (rs.take i)) kd r u ∧ (blksT r).Nodup ∧ (∀ x ∈ blksT r, x < w.heap.size ∧ x ∉ blksL (rs.take i))) := Lib.hid fun i kd hkd => hs.pair hkd
  have HPS : Hid (∀ (i : Nat) W, OnlyP (fun x => x ∈ blksL (rs.take i)) w W → W.cell? ⟨ps, 0, none⟩ = some (.slice AA m cA) ∧ W.cell? ⟨ps, 1, none⟩ = some (.slice AU m cU) ∧ ps < W.heap.size) := Lib.hid fun i W h => by
    have hh := (h.block ps (heap_lt hs.sh) fun e => hs.apart.2.2.1 (by rw [blksL_split rs i]; exact List.mem_append_left _ e)).trans hs.sh
    rw [← hm] at hh
    exact ⟨cell_at hh rfl, cell_at hh rfl, heap_lt hh⟩
  have HQ : Hid (∀ (i : Nat) x, x ∈ blksL (rs.take i) → Q x) := Lib.hid fun i x hx => hs.qra x (by rw [blksL_split rs i]; exact List.mem_append_left _ hx)
  have HFI := Lib.hid hs.fit
  have HM := Lib.hid hm
  have HBB := Lib.hid hB
  clear hs hs1 hs2 hm hB
  go_enter Tryz.func14, Tryz.ntmps14
  go_wp2_with fail
  go_loopw [3] (fun v W => ∃ i : Nat, i ≤ m ∧ v = .int .i64 i ∧ Hid (Below w.heap.size w W)) (fun v _ => m - (intOf v).toNat)
  case atStart => exact ⟨0, Nat.zero_le _, rfl, Lib.hid (Below.refl _ _)⟩
  case round =>
    obtain ⟨i, hi, rfl, HI⟩ := hrel
    obtain ⟨W0, rfl⟩ : ∃ V, V = wr := ⟨_, rfl⟩
    obtain ⟨x0, x1, xl⟩ := HPS.out i W0 (only_below HI.out)
    by_cases hlt : i < m
    · obtain ⟨kd, hkd⟩ : ∃ kd, ts[i]? = some kd := ⟨_, List.getElem?_eq_getElem (by rw [← HM.out]; exact hlt)⟩
      obtain ⟨r, u, gA, gU, _, _, rfl, rfl, hpf, _, _⟩ := HPR.out i kd hkd
      have HF := Lib.hid hpf
      have HFT := Lib.hid (HFI.out kd (List.mem_of_getElem? hkd))
      obtain ⟨⟨c0, c1, c2, c3, c4, c5, cl⟩, ⟨d0, d1, d2, d3, d4, d5, dl⟩, _, _⟩ := HF.out W0 (only_below HI.out)
      have HEQ : Hid (Calls Tryz.prog 13 #[rtVal kd r, rtVal kd u] W0.drew fun e w' => e = .returned (.bool true) ∧ Below W0.drew.heap.size W0.drew w') := Lib.hid (by
        obtain ⟨_, _, h1, h2⟩ := HF.out W0.drew (only_below (HI.out.then_ (Below.refl _ _).drew))
        rw [own_val h1, own_val h2]
        exact eq_any kd _ _ _ _ _ _ _ _ _ _ _ _ _ h1.read.1 h2.read.1 HFT.out.1 HFT.out.2)
      have b1 : (0 : Int) ≤ (i : Int) := by omega
      have b2 : (i : Int) < (m : Int) := by omega
      clear hkd hpf
      unfold rtVal at HEQ
      go_upto_region 4 with fail
      go_still_tail 14, (by kernel_rfl)
      change wpList _ _ _ _ _ W0.drew
      go_wp2_with fail
      refine HEQ.out.mono ?_
      rintro e w2 ⟨rfl, hb2⟩
      have H2 := Lib.hid ((HI.out.then_ (Below.refl _ _).drew).then_ hb2)
      clear hb2 c0 c1 c2 c3 c4 c5 cl d0 d1 d2 d3 d4 d5 dl x0 x1 xl
      go_wp2_with fail
      exact ⟨⟨i + 1, by omega, by go_num, H2⟩, by simp [intOf]; omega⟩
    · obtain rfl : i = m := by omega
      have hge : ¬ (i : Int) < i := by omega
      clear hlt
      go_upto_region 7 with fail
      obtain ⟨W1, hW1⟩ : ∃ V, V = W0.alloc (.cells #[.slice none 0 0, .slice none 0 0, .slice none 0 0, .int .i64 0] TB3) := ⟨_, rfl⟩
      have hb1 : Below W0.heap.size W0 W1 := by rw [hW1]; exact (Below.refl _ _).alloc (Nat.le_refl _) _
      have hs1 : W1.heap.size = W0.heap.size + 1 := by rw [hW1]; simp
      have HB1 : Hid (BkF W1 B W0.heap.size (fun x => x ∈ blksL (rs.take 0) ∨ (w.heap.size ≤ x ∧ x < W1.heap.size))) := Lib.hid (BkF.new (by rw [hW1]; exact heap_alloc_new W0 _) (.inr ⟨HI.out.size, by omega⟩) (Nat.le_trans HBB.out HI.out.size))
      have H1 := Lib.hid (HI.out.then_ hb1)
      rw [← hW1]
      obtain ⟨pb, hpb⟩ : ∃ pb, pb = W0.heap.size := ⟨_, rfl⟩
      rw [← hpb] at HB1 ⊢
      clear hW1 hb1 hs1 hpb HI x0 x1 xl
      go_wp2_with fail
      go_loopw [5] (fun v W => ∃ k : Nat, k ≤ i ∧ v = .int .i64 k ∧ Hid (OnlyP (fun x => x ∈ blksL (rs.take k)) w W) ∧ Hid (BkF W B pb (fun x => x ∈ blksL (rs.take k) ∨ (w.heap.size ≤ x ∧ x < W.heap.size)))) (fun v _ => i - (intOf v).toNat)
      case atStart => exact ⟨0, Nat.zero_le _, rfl, Lib.hid (only_below H1.out), HB1⟩
      case round =>
        obtain ⟨k, hk, rfl, HO, HK⟩ := hrel
        obtain ⟨W2, rfl⟩ : ∃ V, V = wr := ⟨_, rfl⟩
        obtain ⟨x0, x1, xl⟩ := HPS.out k W2 HO.out
        by_cases hlt : k < i
        · obtain ⟨kd, hkd⟩ : ∃ kd, ts[k]? = some kd := ⟨_, List.getElem?_eq_getElem (by rw [← HM.out]; exact hlt)⟩
          obtain ⟨r, u, gA, gU, hr, _, rfl, rfl, hpf, hnd, hx⟩ := HPR.out k kd hkd
          have HF := Lib.hid hpf
          have HFT := Lib.hid (HFI.out kd (List.mem_of_getElem? hkd))
          have HR := Lib.hid (And.intro hr (And.intro hnd hx))
          obtain ⟨⟨c0, c1, c2, c3, c4, c5, cl⟩, ⟨d0, d1, d2, d3, d4, d5, dl⟩, _, _⟩ := HF.out W2 HO.out
          have HEQ : Hid (Calls Tryz.prog 13 #[rtVal kd r, rtVal kd u] W2.drew fun e w' => e = .returned (.bool true) ∧ Below W2.drew.heap.size W2.drew w') := Lib.hid (by
            obtain ⟨_, _, h1, h2⟩ := HF.out W2.drew HO.out.drew
            rw [own_val h1, own_val h2]
            exact eq_any kd _ _ _ _ _ _ _ _ _ _ _ _ _ h1.read.1 h2.read.1 HFT.out.1 HFT.out.2)
          have b1 : (0 : Int) ≤ (k : Int) := by omega
          have b2 : (k : Int) < (i : Int) := by omega
          clear hkd hpf hr hnd hx
          unfold rtVal at HEQ
          go_upto_region 10 with fail
          go_still_tail 14, (by kernel_rfl)
          change wpList _ _ _ _ _ W2.drew
          go_wp2_with fail
          refine HEQ.out.mono ?_
          rintro e w3 ⟨rfl, hb3⟩
          have HB3 := Lib.hid ((Below.refl W2.heap.size W2).drew.then_ hb3)
          clear hb3 c0 c1 c2 c3 c4 c5 cl d0 d1 d2 d3 d4 d5 dl x0 x1 xl
          obtain ⟨x0, x1, xl⟩ := HPS.out k w3 (HO.out.below HB3.out)
          obtain ⟨⟨c0, c1, c2, c3, c4, c5, cl⟩, _, _, _⟩ := HF.out w3 (HO.out.below HB3.out)
          have HTK : Hid (∀ W5, W5 = w3.alloc (.cells #[.int .i64 kd.kind, .string kd.text, .int .i64 kd.n, .slice r.s.p r.s.n r.s.c, .slice r.a.p r.a.n r.a.c, .slice r.k.p r.k.n r.k.c] TTm) → Calls Tryz.prog 11 #[.pointer (some ⟨pb, 0, none⟩), .slice (some ⟨w3.heap.size, 0, none⟩) 1 1] W5 fun e w' => e = .returned (.tuple #[]) ∧ OnlyP (fun x => x ∈ blksL (rs.take (k + 1))) w w' ∧ BkF w' B pb (fun x => x ∈ blksL (rs.take (k + 1)) ∨ (w.heap.size ≤ x ∧ x < w'.heap.size))) := Lib.hid fun W5 hW5 => by
            have hb5 : Below w3.heap.size w3 W5 := by rw [hW5]; exact (Below.refl _ _).alloc (Nat.le_refl _) _
            have ho5 := (HO.out.below HB3.out).below hb5
            have hbw : Below W2.heap.size W2 W5 := HB3.out.then_ hb5
            obtain ⟨hr, hnd, hx⟩ := HR.out
            have hs5 := ho5.size
            refine (take13_any kd r w3.heap.size W5 B pb (fun x => x ∈ blksL (rs.take k) ∨ (w.heap.size ≤ x ∧ x < W2.heap.size)) (by rw [hW5]; exact heap_alloc_new w3 _) (HF.out W5 ho5).2.2.1 hnd HFT.out.1 ?_ (Nat.le_trans HBB.out hs5) (size_small HFT.out.2).2.1 (HK.out.below fun x _ hlt => hbw.block x hlt)).mono ?_
            · intro x hx1 hx2
              rcases hx2 with hx2 | hx2
              · exact (hx x hx1).2 hx2
              · have := (hx x hx1).1; omega
            · rintro e w7 ⟨rfl, h1, h2⟩
              rw [blksL_take hr]
              refine ⟨rfl, only_then (ho5.mono fun x _ hx => List.mem_append_left _ hx) h1 fun x hlt hx => ?_, h2.inP fun x hx hlt => ?_⟩
              · rcases hx with (hx | hx) | hx
                · exact List.mem_append_left _ hx
                · omega
                · exact List.mem_append_right _ hx
              · have := hbw.size
                have := h1.size
                rcases hx with (hx | hx) | hx | hx
                · exact .inl (List.mem_append_left _ hx)
                · exact .inr ⟨hx.1, hlt⟩
                · exact .inl (List.mem_append_right _ hx)
                · exact .inr ⟨by omega, hlt⟩
          go_wp2_with fail
          refine (HTK.out _ rfl).mono ?_
          rintro e w7 ⟨rfl, ho7, hb7⟩
          have H7 := Lib.hid ho7
          have HB7 := Lib.hid hb7
          clear ho7 hb7 c0 c1 c2 c3 c4 c5 cl x0 x1 xl
          go_wp2_with fail
          exact ⟨⟨k + 1, by omega, by go_num, H7, HB7⟩, by simp [intOf]; omega⟩
        · obtain rfl : k = i := by omega
          have hge2 : ¬ (k : Int) < k := by omega
          clear hlt
          go_wp2_with fail
          refine (whole13_any W2 B pb _ HK.out).mono ?_
          rintro e w5 ⟨rfl, hb5⟩
          go_wp2_with fail
          go_ret
          exact ⟨rfl, (HO.out.mono fun x _ hx => HQ.out k x hx).below hb5⟩
end Go.Proofs.YtkdejffhdhcocaaGreat
