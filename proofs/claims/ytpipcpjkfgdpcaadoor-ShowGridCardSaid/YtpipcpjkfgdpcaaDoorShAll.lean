/- shape.All: the iterator's value, and what it has captured. Conditions: at least one length, at most 64. -/
import Derived.Test.YtpipcpjkfgdpcaaDoorShIdx
namespace Go.Proofs.YtpipcpjkfgdpcaaDoor
open Go.RowKit

theorem clone_any (A : Option Addr) (cp : Nat) (s : List Int) (w : World) (hA : IntsAt w A s) (hne : s ≠ []) (hn : s.length ≤ 64) :
    Calls Tryd.prog 66 #[.slice A s.length cp] w fun e w' => ∃ A' cp', e = .returned (.slice A' s.length cp') ∧ IntsAt w' A' s ∧ Below w.heap.size w w' ∧ (∀ k off sp, A' = some ⟨k, off, sp⟩ → w.heap.size ≤ k ∧ ∃ cs, w'.heap[k]? = some (.cells cs 3 (0, 0))) := by
  have h0 : 0 < s.length := List.length_pos_iff.2 hne
  obtain ⟨b, off, rfl, _, _⟩ := hA 0 s[0] (List.getElem?_eq_getElem h0)
  refine (Tryd.slices_Clone_int b off s.length cp s w (Nat.le_refl _) (by omega) (fun j hj => ?_)).mono ?_
  · obtain ⟨b', off', h1, _, h3⟩ := hA j s[j] (List.getElem?_eq_getElem hj)
    simp only [Option.some.injEq, Addr.mk.injEq, and_true] at h1
    obtain ⟨rfl, rfl⟩ := h1
    rw [h3]
    simp [List.getD, List.getElem?_eq_getElem hj]
  · rintro e w' ⟨v', rfl, ho, _, hb⟩
    rw [List.take_length] at ho
    have ho' : w'.ownsRow w.heap.size 3 1 v' s.length (s.map fun x => .int .i64 x) := ho
    obtain ⟨A', cp', rfl⟩ := row_form ho'
    exact ⟨A', cp', rfl, row_ints ho', hb, fun k off sp hk => ⟨(ho'.lt k (by rw [hk]; rfl)).1, row_type ho' k (by rw [hk]; rfl)⟩⟩

/-- the blocks that the iterator reads -/
def AllIn (b1 b2 : Nat) (A : Option Addr) (k : Nat) : Prop := k = b1 ∨ k = b2 ∨ ∃ off sp, A = some ⟨k, off, sp⟩
/-- what the iterator has captured: how many places there are, and a copy of the lengths -/
structure AllAt (W : World) (b1 b2 : Nat) (A : Option Addr) (cp : Nat) (s : List Int) : Prop where
  c1 : W.cell? ⟨b1, 0, none⟩ = some (.int .i64 (shSize s))
  c2 : W.cell? ⟨b2, 0, none⟩ = some (.slice A s.length cp)
  c3 : IntsAt W A s
  ty : ∀ k, AllIn b1 b2 A k → ∃ cs t fr, W.heap[k]? = some (.cells cs t fr) ∧ (t = 3 ∨ t = 25)
theorem AllAt.lt {W : World} {b1 b2 cp : Nat} {A : Option Addr} {s : List Int} (h : AllAt W b1 b2 A cp s) {k : Nat} (hk : AllIn b1 b2 A k) : k < W.heap.size := by
  obtain ⟨cs, t, fr, h1, _⟩ := h.ty k hk
  exact (Array.getElem?_eq_some_iff.1 h1).1
theorem AllAt.l1 {W : World} {b1 b2 cp : Nat} {A : Option Addr} {s : List Int} (h : AllAt W b1 b2 A cp s) : b1 < W.heap.size := h.lt (.inl rfl)
theorem AllAt.l2 {W : World} {b1 b2 cp : Nat} {A : Option Addr} {s : List Int} (h : AllAt W b1 b2 A cp s) : b2 < W.heap.size := h.lt (.inr (.inl rfl))
theorem AllAt.l3 {W : World} {b1 b2 cp : Nat} {A : Option Addr} {s : List Int} (h : AllAt W b1 b2 A cp s) : ∀ k off sp, A = some ⟨k, off, sp⟩ → k < W.heap.size := fun _ off sp hk => h.lt (.inr (.inr ⟨off, sp, hk⟩))
theorem AllAt.kept {W W' : World} {b1 b2 cp : Nat} {A : Option Addr} {s : List Int} (h : AllAt W b1 b2 A cp s) (hk : ∀ k, AllIn b1 b2 A k → k < W.heap.size → W'.heap[k]? = W.heap[k]?) (hs : W.heap.size ≤ W'.heap.size) : AllAt W' b1 b2 A cp s :=
  ⟨(World.cell?_of_block (hk b1 (.inl rfl) h.l1)).trans h.c1, (World.cell?_of_block (hk b2 (.inr (.inl rfl)) h.l2)).trans h.c2,
   fun i x hx => by
    obtain ⟨b, off, h1, h2, h3⟩ := h.c3 i x hx
    exact ⟨b, off, h1, Nat.lt_of_lt_of_le h2 hs, (World.cell?_of_block (hk b (.inr (.inr ⟨off, none, h1⟩)) h2)).trans h3⟩,
   fun k hin => by
    obtain ⟨cs, t, fr, h1, h2⟩ := h.ty k hin
    exact ⟨cs, t, fr, (hk k hin (Array.getElem?_eq_some_iff.1 h1).1).trans h1, h2⟩⟩
theorem AllAt.on {W W' : World} {b1 b2 cp : Nat} {A : Option Addr} {s : List Int} (h : AllAt W b1 b2 A cp s) (hb : Below W.heap.size W W') : AllAt W' b1 b2 A cp s := h.kept (fun k _ hk => hb.block k hk) hb.size

set_option maxHeartbeats 4000000 in
set_option maxRecDepth 100000 in
theorem all_any (A : Option Addr) (cp : Nat) (s : List Int) (w : World) (hA : IntsAt w A s) (hl : All64 s) (hne : s ≠ []) (hn : s.length ≤ 64) :
    Calls Tryd.prog 35 #[.slice A s.length cp] w fun e w' => ∃ b1 b2 A' cp', e = .returned (.func (.func 67) #[] #[.pointer (some ⟨b1, 0, none⟩), .pointer (some ⟨b2, 0, none⟩)]) ∧ Below w.heap.size w w' ∧
      w.heap.size ≤ b1 ∧ w.heap.size ≤ b2 ∧ (∀ k off sp, A' = some ⟨k, off, sp⟩ → w.heap.size ≤ k) ∧ AllAt w' b1 b2 A' cp' s := by
  have HA := Lib.hid hA
  have HL := Lib.hid hl
  clear hA hl
  go_enter Tryd.func35, Tryd.ntmps35
  go_wp2_with fail
  refine (size_any A cp s _ HA.out HL.out (by omega)).mono ?_
  rintro e w1 ⟨rfl, rfl⟩
  go_wp2_with fail
  have hb1 : Below w1.heap.size w1 (w1.alloc (.cells #[.int .i64 (shSize s)] 3)) := (Below.refl _ _).alloc (Nat.le_refl _) _
  have hc1 : (w1.alloc (.cells #[.int .i64 (shSize s)] 3)).cell? ⟨w1.heap.size, 0, none⟩ = some (.int .i64 (shSize s)) := by rw [World.cell?_alloc_new]; rfl
  refine (clone_any A cp s _ (HA.out.on hb1) hne hn).mono ?_
  rintro e w2 ⟨A', cp', rfl, hA', hb2, hfr⟩
  have HB2 := Lib.hid hb2
  have HA2 := Lib.hid hA'
  have HFR := Lib.hid hfr
  have HC1 := Lib.hid hc1
  clear hb1 hc1 hb2 hA' hfr
  go_wp2_with fail
  go_ret
  have hz : (w1.alloc (.cells #[.int .i64 (shSize s)] 3)).heap.size = w1.heap.size + 1 := by simp
  have hs2 := HB2.out.size
  rw [hz] at hs2
  have hb3 : Below w2.heap.size w2 (w2.alloc (.cells #[.slice A' s.length cp'] 25)) := (Below.refl _ _).alloc (Nat.le_refl _) _
  have hb0 : Below w1.heap.size w1 w2 := ((Below.refl _ w1).alloc (Nat.le_refl _) (.cells #[.int .i64 (shSize s)] 3)).then_ HB2.out
  have hk1 : (w2.alloc (.cells #[.slice A' s.length cp'] 25)).heap[w1.heap.size]? = some (.cells #[.int .i64 (shSize s)] 3 (0, 0)) :=
    (Below.heap_alloc _ _ _ (by omega)).trans ((HB2.out.block _ (by rw [hz]; omega)).trans (heap_alloc_new w1 _))
  refine ⟨w1.heap.size, w2.heap.size, A', cp', rfl, hb0.then_ hb3, Nat.le_refl _, by omega, fun k off sp hk => by have := (HFR.out k off sp hk).1; rw [hz] at this; omega, ?_, ?_, HA2.out.on hb3, ?_⟩
  · rw [hb3.cell (p := ⟨w1.heap.size, 0, none⟩) (show w1.heap.size < w2.heap.size by omega), HB2.out.cell (p := ⟨w1.heap.size, 0, none⟩) (show w1.heap.size < _ by rw [hz]; omega)]
    exact HC1.out
  · rw [World.cell?_alloc_new]; rfl
  · rintro k (rfl | rfl | ⟨off, sp, hk⟩)
    · exact ⟨_, _, _, hk1, .inl rfl⟩
    · exact ⟨_, _, _, heap_alloc_new w2 _, .inr rfl⟩
    · obtain ⟨_, cs, hc⟩ := HFR.out k off sp hk
      exact ⟨cs, _, _, (hb3.block k (Array.getElem?_eq_some_iff.1 hc).1).trans hc, .inl rfl⟩
end Go.Proofs.YtpipcpjkfgdpcaaDoor
