/- The walk of TermShared: it returns true. Condition: sizes within reach. -/
import Derived.Test.YteohoodfcgfkeaaGreatTeD4
namespace Go.Proofs.YteohoodfcgfkeaaGreat
open Go.RowKit

/-- a term whose kids are one list, again and again -/
def shT (kind : Int) (leaf : Tm) : Nat → Tm
  | 0 => leaf
  | i + 1 => .mk kind ⟨#[]⟩ 0 [] [] [shT kind leaf i, shT kind leaf i]
theorem shT_wf {kind : Int} {leaf : Tm} (hk : In64 kind) (hl : WfT leaf) : ∀ i, WfT (shT kind leaf i)
  | 0 => hl
  | i + 1 => by
    simp only [shT, WfT, WfL]
    exact ⟨hk, by unfold In64; omega, fun x hx => (by cases hx), fun x hx => (by cases hx), by decide, by decide, by decide, (by show 2 * 104 ≤ 140737488351232; decide), shT_wf hk hl i, shT_wf hk hl i, trivial⟩
/-! ### a term that does not lie in a given block -/
theorem IntsAt.sub {w w' : World} {A : Option Addr} {l : List Int} (hc : ∀ a v, w.cell? a = some v → w'.cell? a = some v) (hs : w.heap.size ≤ w'.heap.size) (h : IntsAt w A l) : IntsAt w' A l := fun i x hx => by
  obtain ⟨b, off, e, hlt, h1⟩ := h i x hx
  exact ⟨b, off, e, Nat.lt_of_lt_of_le hlt hs, hc _ _ h1⟩
mutual
theorem TmIs.sub {w w' : World} (hc : ∀ a v, w.cell? a = some v → w'.cell? a = some v) (hs : w.heap.size ≤ w'.heap.size) : ∀ {t : Tm} {vs : List Value}, TmIs w t vs → TmIs w' t vs
  | .mk _ _ _ _ _ kids, _, h => by
    simp only [TmIs] at h ⊢
    obtain ⟨A, ca, B, cb, K, ck, e, h1, h2, h3⟩ := h
    exact ⟨A, ca, B, cb, K, ck, e, h1.sub hc hs, h2.sub hc hs, KidsAt.sub hc hs h3⟩
theorem KidsAt.sub {w w' : World} (hc : ∀ a v, w.cell? a = some v → w'.cell? a = some v) (hs : w.heap.size ≤ w'.heap.size) {K : Option Addr} : ∀ {ks : List Tm} {i : Nat}, KidsAt w K ks i → KidsAt w' K ks i
  | [], _, _ => by simp only [KidsAt]
  | t :: r, i, h => by
    simp only [KidsAt] at h ⊢
    obtain ⟨⟨b, off, vs, e, hlt, h1, h2⟩, h3⟩ := h
    exact ⟨⟨b, off, vs, e, Nat.lt_of_lt_of_le hlt hs, TmIs.sub hc hs h1, fun q u hq => hc _ _ (h2 q u hq)⟩, KidsAt.sub hc hs h3⟩
end
theorem TmAt.sub {w w' : World} {t : Tm} {A B K : Option Addr} (h : TmAt w t A B K) (hc : ∀ a v, w.cell? a = some v → w'.cell? a = some v) (hs : w.heap.size ≤ w'.heap.size) : TmAt w' t A B K := ⟨h.sh.sub hc hs, h.at_.sub hc hs, h.kids.sub hc hs⟩
def hole (w : World) (p : Nat) : World := { w with heap := w.heap.setIfInBounds p (.map #[] 0) }
theorem hole_size (w : World) (p : Nat) : (hole w p).heap.size = w.heap.size := by simp [hole]
theorem hole_block (w : World) {p k : Nat} (h : k ≠ p) : (hole w p).heap[k]? = w.heap[k]? := by
  simp only [hole, Array.getElem?_setIfInBounds]
  rw [if_neg (Ne.symm h)]
theorem hole_cell {w : World} {p : Nat} {a : Addr} {v : Value} (h : (hole w p).cell? a = some v) : a.block ≠ p ∧ w.cell? a = some v := by
  by_cases e : a.block = p
  · exfalso
    unfold World.cell? at h
    rw [e] at h
    simp only [hole, Array.getElem?_setIfInBounds, if_true] at h
    split at h
    · rename_i h1
      split at h1
      · cases h1
      · cases h1
    · cases h
  · refine ⟨e, ?_⟩
    rw [← World.cell?_of_block (w := w) (hole_block w e)]
    exact h
theorem cell_lt {w : World} {a : Addr} {v : Value} (h : w.cell? a = some v) : a.block < w.heap.size := by
  unfold World.cell? at h
  split at h
  · rename_i hb
    exact (Array.getElem?_eq_some_iff.1 hb).1
  · cases h
theorem hole_out {w : World} {p : Nat} {t : Tm} {A B K : Option Addr} (h : TmAt (hole w p) t A B K) : TmAt w t A B K :=
  h.sub (fun _ _ hv => (hole_cell hv).2) (Nat.le_of_eq (hole_size w p))
theorem hole_to {w w' : World} {p : Nat} (hk : ∀ k, k < w.heap.size → k ≠ p → w'.heap[k]? = w.heap[k]?) (hs : w.heap.size ≤ w'.heap.size) : (∀ a v, (hole w p).cell? a = some v → (hole w' p).cell? a = some v) ∧ (hole w p).heap.size ≤ (hole w' p).heap.size := by
  refine ⟨fun a v hv => ?_, by rw [hole_size, hole_size]; exact hs⟩
  obtain ⟨h1, h2⟩ := hole_cell hv
  have h3 := cell_lt h2
  rw [World.cell?_of_block (w := w') (hole_block w' h1), World.cell?_of_block (w := w) (hk _ h3 h1)]
  exact h2
/-- a term in the block p, the rest of it elsewhere -/
structure BoxT (w W : World) (p : Nat) (t : Tm) (A : Option Addr) (ca : Nat) (B : Option Addr) (cb : Nat) (K : Option Addr) (ck : Nat) : Prop where
  box : W.heap[p]? = some (.cells (tmCells t A ca B cb K ck) TTm (0, 0))
  at_ : TmAt (hole W p) t A B K
  be : Below w.heap.size w W
  lo : w.heap.size ≤ p
theorem BoxT.two {w W : World} {p : Nat} {t : Tm} {A : Option Addr} {ca : Nat} {B : Option Addr} {cb : Nat} {K : Option Addr} {ck : Nat} (h : BoxT w W p t A ca B cb K ck) (kind : Int) {S Wn : World}
    (hS : S = (((((W.setCell ⟨p, 0, none⟩ (.int .i64 kind)).setCell ⟨p, 1, none⟩ (.string ⟨#[]⟩)).setCell ⟨p, 2, none⟩ (.int .i64 0)).setCell ⟨p, 3, none⟩ (.slice none 0 0)).setCell ⟨p, 4, none⟩ (.slice none 0 0)).setCell ⟨p, 5, none⟩ (.slice (some ⟨W.heap.size, 0, none⟩) 2 2))
    (hW : Wn = S.alloc (.cells #[.int .i64 t.kind, .string t.text, .int .i64 t.n, .slice A t.sh.length ca, .slice B t.at_.length cb, .slice K t.kids.length ck, .int .i64 t.kind, .string t.text, .int .i64 t.n, .slice A t.sh.length ca, .slice B t.at_.length cb, .slice K t.kids.length ck] TTm)) :
    BoxT w Wn p (.mk kind ⟨#[]⟩ 0 [] [] [t, t]) none 0 none 0 (some ⟨W.heap.size, 0, none⟩) 2 := by
  obtain ⟨e1, e2, e3⟩ := six (.int .i64 kind) (.string ⟨#[]⟩) (.int .i64 0) (.slice none 0 0) (.slice none 0 0) (.slice (some ⟨W.heap.size, 0, none⟩) 2 2) h.box h.be h.lo
  rw [← hS] at e1 e2 e3
  have hss : S.heap.size = W.heap.size := by rw [hS]; simp [World.setCell]
  have hp := heap_lt h.box
  have hL : Wn.heap[W.heap.size]? = some (.cells #[.int .i64 t.kind, .string t.text, .int .i64 t.n, .slice A t.sh.length ca, .slice B t.at_.length cb, .slice K t.kids.length ck, .int .i64 t.kind, .string t.text, .int .i64 t.n, .slice A t.sh.length ca, .slice B t.at_.length cb, .slice K t.kids.length ck] TTm (0, 0)) := by
    rw [hW, ← hss]
    exact heap_alloc_new S _
  have hsz : Wn.heap.size = W.heap.size + 1 := by rw [hW]; simp [hss]
  have hk : ∀ k, k < W.heap.size → k ≠ p → Wn.heap[k]? = W.heap[k]? := fun k h1 h2 => by
    rw [hW, Below.heap_alloc _ _ _ (by omega)]
    exact e2 k h2
  obtain ⟨s1, s2⟩ := hole_to (p := p) hk (by omega)
  have hat := h.at_.sub s1 s2
  have hne : W.heap.size ≠ p := by omega
  refine ⟨?_, ⟨IntsAt.nil _ _, IntsAt.nil _ _, KidsAt.of fun i u hu => ?_⟩, ?_, h.lo⟩
  · rw [hW, Below.heap_alloc _ _ _ (by omega)]
    exact e1
  · have key : ∀ j v, (#[.int .i64 t.kind, .string t.text, .int .i64 t.n, .slice A t.sh.length ca, .slice B t.at_.length cb, .slice K t.kids.length ck, .int .i64 t.kind, .string t.text, .int .i64 t.n, .slice A t.sh.length ca, .slice B t.at_.length cb, .slice K t.kids.length ck] : Array Value)[j]? = some v → (hole Wn p).cell? ⟨W.heap.size, j, none⟩ = some v := fun j v hv => by
      rw [World.cell?_of_block (w := Wn) (hole_block Wn hne)]
      exact cell_at hL hv
    have hlt : W.heap.size < (hole Wn p).heap.size := by rw [hole_size]; omega
    have hu2 : u = t ∧ (i = 0 ∨ i = 1) := by
      match i, hu with
      | 0, hu => exact ⟨(Option.some.inj hu).symm, .inl rfl⟩
      | 1, hu => exact ⟨(Option.some.inj hu).symm, .inr rfl⟩
    obtain ⟨rfl, hi⟩ := hu2
    refine ⟨_, hat.is ca cb ck, hlt, fun q v hq => ?_⟩
    have hq6 : q < 6 := (List.getElem?_eq_some_iff.1 hq).1
    refine key _ _ ?_
    rcases hi with rfl | rfl
    · match q, hq6, hq with
      | 0, _, hq => exact hq
      | 1, _, hq => exact hq
      | 2, _, hq => exact hq
      | 3, _, hq => exact hq
      | 4, _, hq => exact hq
      | 5, _, hq => exact hq
    · match q, hq6, hq with
      | 0, _, hq => exact hq
      | 1, _, hq => exact hq
      | 2, _, hq => exact hq
      | 3, _, hq => exact hq
      | 4, _, hq => exact hq
      | 5, _, hq => exact hq
  · rw [hW]
    exact e3.alloc e3.size _
set_option maxRecDepth 100000 in
set_option maxHeartbeats 8000000 in
theorem termShared_any (kind : Int) (t : Tm) (A : Option Addr) (ca : Nat) (B : Option Addr) (cb : Nat) (K : Option Addr) (ck : Nat) (z : Int) (w : World) (hk : In64 kind) (hat : TmAt w t A B K) (hwf : WfT t) (hz : 0 ≤ z ∧ z ≤ 255) :
    Calls Tryz.prog 7 #[.int .i64 kind, tmVal t A ca B cb K ck, .int .u8 z] w fun e w' => e = .returned (.bool true) ∧ Below w.heap.size w w' := by
  obtain ⟨n, rfl⟩ : ∃ n : Nat, z = n := ⟨z.toNat, by omega⟩
  have hn : n ≤ 255 := by omega
  obtain ⟨W1, hW1⟩ : ∃ W1, W1 = w.alloc (.cells (tmCells t A ca B cb K ck) TTm) := ⟨_, rfl⟩
  have hb1 : Below w.heap.size w W1 := by rw [hW1]; exact (Below.refl _ _).alloc (Nat.le_refl _) _
  have hx1 : W1.heap[w.heap.size]? = some (.cells (tmCells t A ca B cb K ck) TTm (0, 0)) := by rw [hW1]; exact heap_alloc_new w _
  have HX := Lib.hid (And.intro hb1 (And.intro hx1 hat))
  have HWF := Lib.hid (And.intro hk hwf)
  have HW1 := Lib.hid hW1
  clear hk hat hwf hz hb1 hx1 hW1
  go_enter Tryz.func7, Tryz.ntmps7
  go_upto_region 1 with fail
  rw [← HW1.out]
  go_wp2_with fail
  refine (begun_any W1).mono ?_
  rintro e w2 ⟨rfl, hb2⟩
  have hx2 := (hb2.block _ (heap_lt HX.out.2.1)).trans HX.out.2.1
  have k0 := cell_at hx2 (j := 0) rfl
  have k1 := cell_at hx2 (j := 1) rfl
  have k2 := cell_at hx2 (j := 2) rfl
  have k3 := cell_at hx2 (j := 3) rfl
  have k4 := cell_at hx2 (j := 4) rfl
  have k5 := cell_at hx2 (j := 5) rfl
  have HB2 := Lib.hid (HX.out.1.then_ hb2)
  clear hb2 hx2
  go_upto_region 4 with fail
  obtain ⟨W3, hW3⟩ : ∃ W3, W3 = w2.alloc (.cells (tmCells t A ca B cb K ck) TTm) := ⟨_, rfl⟩
  rw [← hW3]
  have H3 : Hid (BoxT w W3 w2.heap.size t A ca B cb K ck) := Lib.hid (by
    have hb3 : Below w.heap.size w W3 := by rw [hW3]; exact HB2.out.alloc HB2.out.size _
    refine ⟨by rw [hW3]; exact heap_alloc_new w2 _, ?_, hb3, HB2.out.size⟩
    refine HX.out.2.2.sub (fun a v hv => ?_) (by rw [hole_size]; exact hb3.size)
    have h1 := cell_lt hv
    rw [World.cell?_of_block (w := W3) (hole_block W3 (by have := HB2.out.size; omega)), hb3.cell h1]
    exact hv)
  clear hW3 k0 k1 k2 k3 k4 k5
  go_wp2_with fail
  go_loopw [8, 9] (fun v8 _ W => ∃ i : Nat, i ≤ n ∧ v8 = .int .i64 i ∧ Hid (∃ A ca B cb K ck, BoxT w W w2.heap.size (shT kind t i) A ca B cb K ck)) (fun v8 _ _ => n - (intOf v8).toNat)
  case atStart => exact ⟨0, Nat.zero_le _, rfl, Lib.hid ⟨_, _, _, _, _, _, H3.out⟩⟩
  case round =>
    obtain ⟨i, hi, rfl, HI⟩ := hrel
    by_cases hlt : i < n
    · obtain ⟨A', ca', B', cb', K', ck', hbx⟩ := HI.out
      have hx := hbx.box
      have k0 := cell_at hx (j := 0) rfl
      have k1 := cell_at hx (j := 1) rfl
      have k2 := cell_at hx (j := 2) rfl
      have k3 := cell_at hx (j := 3) rfl
      have k4 := cell_at hx (j := 4) rfl
      have k5 := cell_at hx (j := 5) rfl
      have f0 := unfrozen hx 0
      have f1 := unfrozen hx 1
      have f2 := unfrozen hx 2
      have f3 := unfrozen hx 3
      have f4 := unfrozen hx 4
      have f5 := unfrozen hx 5
      have hlb := heap_lt hx
      have HBX := Lib.hid hbx
      clear hx hbx
      have q1 : (i : Int) < (n : Int) := by omega
      go_wp2_with fail
      exact ⟨⟨i + 1, by omega, by go_num, Lib.hid ⟨none, 0, none, 0, some ⟨wr.heap.size, 0, none⟩, 2, HBX.out.two kind rfl rfl⟩⟩, by simp [intOf]; omega⟩
    · obtain rfl : i = n := by omega
      clear hlt
      obtain ⟨u, hu⟩ : ∃ u, u = shT kind t i := ⟨_, rfl⟩
      have HU : Hid (WfT u) := Lib.hid (by rw [hu]; exact shT_wf HWF.out.1 HWF.out.2 i)
      obtain ⟨A', ca', B', cb', K', ck', hbx⟩ := HI.out
      rw [← hu] at hbx
      have HBX := Lib.hid hbx
      clear hu hbx
      go_wp2_with fail
      obtain ⟨W5, rfl⟩ : ∃ W5, W5 = wr := ⟨_, rfl⟩
      go_loopw [10, 11] (fun v10 _ W => ∃ k : Nat, k ≤ 7 ∧ v10 = .int .i64 k ∧ Hid (Below W5.heap.size W5 W)) (fun v10 _ _ => 7 - (intOf v10).toNat)
      case atStart => exact ⟨1, by omega, rfl, Lib.hid (Below.refl _ _)⟩
      case round =>
        obtain ⟨k, hk, rfl, HK⟩ := hrel
        by_cases hlt : k < 7
        · have hx := (HK.out.block _ (heap_lt HBX.out.box)).trans HBX.out.box
          have k0 := cell_at hx (j := 0) rfl
          have k1 := cell_at hx (j := 1) rfl
          have k2 := cell_at hx (j := 2) rfl
          have k3 := cell_at hx (j := 3) rfl
          have k4 := cell_at hx (j := 4) rfl
          have k5 := cell_at hx (j := 5) rfl
          have HPL := Lib.hid (plays_any k u A' ca' B' cb' K' ck' u A' ca' B' cb' K' ck' 3 wr ((hole_out HBX.out.at_).on HK.out) HU.out ((hole_out HBX.out.at_).on HK.out) HU.out)
          have q1 : (k : Int) ≤ 6 := by omega
          clear hx
          unfold opArr at HPL
          go_wp2_with fail
          refine HPL.out.mono ?_
          rintro e w6 ⟨rfl, hb6⟩
          have HB6 := Lib.hid (HK.out.then_ hb6)
          clear hb6 k0 k1 k2 k3 k4 k5
          go_wp2_with fail
          exact ⟨⟨k + 1, by omega, by go_num, HB6⟩, by simp [intOf]; omega⟩
        · have q1 : ¬ (k : Int) ≤ 6 := by omega
          go_wp2_with fail
          go_ret
          exact ⟨rfl, HBX.out.be.then_ HK.out⟩
end Go.Proofs.YteohoodfcgfkeaaGreat
