/- The statement 'for place, at := range shape.All(s)' whose rounds all go on. Conditions: as of the iterator. -/
import Derived.Test.YtpipcpjkfgdpcaaDoorShIter
namespace Go.Proofs.YtpipcpjkfgdpcaaDoor
open Go.RowKit

/-- how a round's body is left: it goes on -/
def RoundQ (I : Nat → World → Prop) (b1 b2 : Nat) (A : Option Addr) (p : Nat) (W : World) : Exit → Act → World → Prop
  | .normal, _, W' => KeepsOthers W W' ∧ I (p + 1) W' ∧ (∀ k, AllIn b1 b2 A k → k < W.heap.size → W'.heap[k]? = W.heap[k]?) ∧ W.heap.size ≤ W'.heap.size
  | _, _, _ => False
theorem Tail.put {w : World} {g k t l : Nat} {done : List Int} {o o' : Obj} (h : Tail w g k t done) (hl : w.heap[l]? = some o) (ho : o.isCells = false) : Tail (w.putObj l o') g k t done := by
  obtain ⟨cur, h1, h2, h3⟩ := h.blk
  have hne : g ≠ l := fun e => by subst e; rw [h1] at hl; injection hl with hl; subst hl; cases ho
  exact ⟨⟨cur, ((grownBy_putObj' w l o').block g (Array.getElem?_eq_some_iff.1 h1).1 (fun e => hne (by injection e))).trans h1, h2, h3⟩⟩
theorem AllAt.put {w : World} {b1 b2 cp l : Nat} {A : Option Addr} {s : List Int} {o o' : Obj} (h : AllAt w b1 b2 A cp s) (hl : w.heap[l]? = some o) (ho : o.isCells = false) : AllAt (w.putObj l o') b1 b2 A cp s := by
  have key : ∀ {a : Addr} {v : Value}, w.cell? a = some v → (w.putObj l o').cell? a = some v := fun {a v} hc => by
    have hne : a.block ≠ l := fun e => by
      unfold World.cell? at hc
      rw [e, hl] at hc
      cases o with
      | cells => cases ho
      | _ => simp at hc
    have hlt : a.block < w.heap.size := by
      unfold World.cell? at hc
      split at hc
      · rename_i hb; exact (Array.getElem?_eq_some_iff.1 hb).1
      · cases hc
    exact (World.cell?_of_block ((grownBy_putObj' w l o').block a.block hlt (fun e => hne (by injection e)))).trans hc
  have hz : (w.putObj l o').heap.size = w.heap.size := by simp
  refine ⟨key h.c1, key h.c2, fun i x hx => by obtain ⟨b, off, h1, h2, h3⟩ := h.c3 i x hx; exact ⟨b, off, h1, by rw [hz]; exact h2, key h3⟩, fun k hk => ?_⟩
  obtain ⟨cs, t, fr, h1, h2⟩ := h.ty k hk
  refine ⟨cs, t, fr, ((grownBy_putObj' w l o').block k (Array.getElem?_eq_some_iff.1 h1).1 (fun e => ?_)).trans h1, h2⟩
  injection e with e
  subst e
  rw [h1] at hl
  injection hl with hl
  subst hl
  cases ho

theorem wpIn_rangeAll {n : Nat} {g : Operand} {ps : Array Tmp} {assign body : Code} {Q : Exit → Act → World → Prop} {a : Act} {w : World} (h1 : 1 ≤ n) (hps : ps.size = 2)
    (b1 b2 cp N : Nat) (A : Option Addr) (s : List Int) (hN : shSize s = N) (hpos : ∀ x ∈ s, 1 ≤ x ∧ x ≤ 9223372036854775807) (hs : s.length ≤ 64) (hNb : N ≤ 4096)
    (hg : a.eval g = .func (.func 67) #[] #[.pointer (some ⟨b1, 0, none⟩), .pointer (some ⟨b2, 0, none⟩)]) (hAll : AllAt w b1 b2 A cp s)
    (I : Nat → World → Prop) (hI : OwnFrom w.heap.size I) (h0 : I 0 w) (a₁ : Nat → Nat → Act)
    (hassign : ∀ (l p q : Nat) (W : World) (K : Act → World → Prop), K (a₁ p q) W →
      assign.wpIn (Fence.wide.inRound l) (n - 1 - 1) Tryd.prog (Exit.then K (fun _ _ _ => False)) { tmps := (ps.zip #[.int .i64 p, .slice (some ⟨q, 0, none⟩) s.length s.length]).foldl (fun t (p, v) => t.setIfInBounds p v) a.tmps, defers := [] } W)
    (hbody : ∀ (l p q : Nat) (W : World), I p W → p < N → Tail W q s.length 0 (idx s p) → AllAt W b1 b2 A cp s → body.wpIn (Fence.wide.inRound l) (n - 1 - 1) Tryd.prog (RoundQ I b1 b2 A p W) (a₁ p q) W)
    (hdone : ∀ W : World, I N W → W.heap[w.heap.size]? = some (.deferred (some [])) → w.heap.size < W.heap.size → Q .normal { a with defers := { target := .collected w.heap.size, args := #[] } :: a.defers } W) :
    (Code.rangeFunc g ps assign body).wpIn Fence.wide n Tryd.prog Q a w := by
  refine wpIn_rangeFunc fun fn hfn => ?_
  obtain ⟨R, hR⟩ : ∃ R : LoopState → Loop, R = fun st => { state := st, pending := none, fn, tmps := a.tmps, params := ps, assign, body, defers := w.heap.size } := ⟨_, rfl⟩
  obtain ⟨V, hV⟩ : ∃ V, V = (w.alloc (.deferred (some []))).alloc (.loop (R .ready)) := ⟨_, rfl⟩
  have hbV : Below w.heap.size w V := by rw [hV]; exact ((Below.refl _ w).alloc (Nat.le_refl _) _).alloc (by simp) _
  have hL : V.heap[w.heap.size + 1]? = some (.loop (R .ready)) := by
    rw [hV]
    have := World.alloc_heap_new (w.alloc (.deferred (some []))) (.loop (R .ready))
    rwa [World.size_alloc] at this
  have hD : V.heap[w.heap.size]? = some (.deferred (some [])) := by rw [hV]; exact (Below.heap_alloc _ _ _ (by simp)).trans (World.alloc_heap_new w _)
  refine ⟨w.heap.size + 1, [{ target := .collected w.heap.size, args := #[] }], V, { target := .fn (.func 67) #[.pointer (some ⟨b1, 0, none⟩), .pointer (some ⟨b2, 0, none⟩)], args := #[.func (.yield (w.heap.size + 1)) #[] #[]] }, V, 67,
    #[.func (.yield (w.heap.size + 1)) #[] #[]] ++ #[.pointer (some ⟨b1, 0, none⟩), .pointer (some ⟨b2, 0, none⟩)], V, ?_, ?_, fun _ _ => trivial, ?_, fun _ => h1, ?_⟩
  · rw [hV, hR]; exact run_enterLoop_outer _ _ _ _ _
  · simp only [resolve, hg]
    simp [go_sem]
  · simp [invoke, go_sem]
  · refine (all1_in (n - 1) (w.heap.size + 1) b1 b2 cp N A s hN hpos hs hNb (fun p W => I p W ∧ W.heap[w.heap.size + 1]? = some (.loop (R .ready)) ∧ W.heap[w.heap.size]? = some (.deferred (some [])) ∧ w.heap.size + 1 < W.heap.size) ?_ ?_ V (hAll.on hbV) ⟨?_, hL, hD, (Array.getElem?_eq_some_iff.1 hL).1⟩).mono ?_
    · rintro p W W' ⟨hi, hl, hd, hlt⟩ hb
      exact ⟨hI p W W' none hi ⟨hb.os, hb.tape, hb.output, hb.size, fun k hk _ => hb.block k hk⟩ (fun r e => by cases e), (hb.block _ hlt).trans hl, (hb.block _ (by omega)).trans hd, Nat.lt_of_lt_of_le hlt hb.size⟩
    · rintro p q W ⟨hi, hl, hd, hlt⟩ hp hT hA
      have hy := run_yield (P := Tryd.prog) (args := #[.int .i64 p, .slice (some ⟨q, 0, none⟩) s.length s.length]) hl (by rw [hR]; exact hps.symm)
      rw [hR] at hy
      refine ⟨fn, _, assign, body, hy, roundIn_of_wpIn hfn (hassign _ p q W _ ⟨_, run_beginRound hl (by rw [hR]), ?_⟩)⟩
      obtain ⟨W2, hW2⟩ : ∃ W2, W2 = W.putObj (w.heap.size + 1) (.loop { R .ready with state := .busy }) := ⟨_, rfl⟩
      have hl2 : W2.heap[w.heap.size + 1]? = some (.loop { R .ready with state := .busy }) := by rw [hW2]; exact World.putObj_heap_same hlt
      have hd2 : W2.heap[w.heap.size]? = some (.deferred (some [])) := by rw [hW2]; exact (World.putObj_heap_other (by omega)).trans hd
      have hi2 : I p W2 := by rw [hW2]; exact hI.putObj _ hi (by omega) hl rfl
      have hz2 : W2.heap.size = W.heap.size := by rw [hW2]; simp
      have hk2 : ∀ k, AllIn b1 b2 A k → k < w.heap.size → W2.heap[k]? = W.heap[k]? := fun k _ hk => by rw [hW2]; exact World.putObj_heap_other (by omega)
      rw [← hW2]
      have hT2 : Tail W2 q s.length 0 (idx s p) := by rw [hW2]; exact hT.put hl rfl
      have hA2 : AllAt W2 b1 b2 A cp s := by rw [hW2]; exact hA.put hl rfl
      refine wpIn_mono (hbody _ p q W2 hi2 hp hT2 hA2) ?_
      rintro e a3 W3 hq
      cases e with
      | normal =>
        obtain ⟨hk3, hi3, hkeep, hsz⟩ := hq
        have hl3 := hk3.same _ _ hl2 rfl
        have hr := run_endRound (P := Tryd.prog) none hl3
        have hin : ∀ k, AllIn b1 b2 A k → k < w.heap.size := fun k hk => by
          rcases hk with rfl | rfl | ⟨off, sp, hA'⟩
          · exact hAll.l1
          · exact hAll.l2
          · exact hAll.l3 k off sp hA'
        refine ⟨_, _, hr, rfl, ⟨hI.putObj _ hi3 (by omega) hl3 rfl, ?_, ?_, ?_⟩, fun k hk hklt => ?_, ?_⟩
        · rw [hR]; exact World.putObj_heap_same (Array.getElem?_eq_some_iff.1 hl3).1
        · exact (World.putObj_heap_other (by omega)).trans (hk3.same _ _ hd2 rfl)
        · simp; omega
        · have hkw := hin k hk
          exact (World.putObj_heap_other (by omega)).trans ((hkeep k hk (by omega)).trans (hk2 k hk hkw))
        · simp; omega
      | _ => exact hq.elim
    · exact hI 0 w V none h0 ⟨hbV.os, hbV.tape, hbV.output, hbV.size, fun k hk _ => hbV.block k hk⟩ (fun r e => by cases e)
    · rintro e W2 ⟨⟨v, rfl⟩, hi, hl, hd, hlt⟩
      refine ⟨none, _, by have := run_endLoop (P := Tryd.prog) hl (by rw [hR]; simp); rw [hR] at this; exact this, hdone _ (hI.putObj _ hi (by omega) hl rfl) ((World.putObj_heap_other (by omega)).trans hd) (by simp; omega)⟩
end Go.Proofs.YtpipcpjkfgdpcaaDoor
