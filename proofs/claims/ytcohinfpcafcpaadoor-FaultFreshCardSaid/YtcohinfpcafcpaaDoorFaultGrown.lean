/- The list of grown rows: a block of slices, row by row as long as it has become. No condition. -/
import Derived.Test.YtcohinfpcafcpaaDoorFaultMarks
import Derived.Deep.RegionLaw
namespace Go.Proofs.YtcohinfpcafcpaaDoor
open Go.RowKit Go.Extern.Stop Go.Stop Go.Extern Go.Sort

def Rw.val' (r : Rw) (n : Nat) : Value := .slice (r.g.map fun b => ⟨b, 0, none⟩) n r.c
/-- block G holds the rows below q, each L j long; these cells bear their marks -/
structure GR (W : World) (G : Nat) (rs : List Rw) (M L : Nat → Nat) (q : Nat) : Prop where
  blk : ∃ cur, W.heap[G]? = some (.cells cur 30 (0, 0)) ∧ cur.size = rs.length ∧ ∀ j r, rs[j]? = some r → j < q → cur[j]? = some (r.val' (L j))
  lens : ∀ j r, rs[j]? = some r → j < q → L j ≤ M j ∧ L j ≤ r.c
theorem GR.keep {W W' : World} {G : Nat} {rs : List Rw} {M M' L : Nat → Nat} {q : Nat} (h : GR W G rs M L q) (hG : W'.heap[G]? = W.heap[G]?) (hM : ∀ j r, rs[j]? = some r → j < q → L j ≤ M' j) : GR W' G rs M' L q := by
  obtain ⟨cur, h1, h2, h3⟩ := h.blk
  exact ⟨⟨cur, hG.trans h1, h2, h3⟩, fun j r hj hq => ⟨hM j r hj hq, (h.lens j r hj hq).2⟩⟩
theorem GR.lt {W : World} {G : Nat} {rs : List Rw} {M L : Nat → Nat} {q : Nat} (h : GR W G rs M L q) : G < W.heap.size := by
  obtain ⟨cur, h1, _⟩ := h.blk
  exact at_lt h1
theorem GR.cell {W : World} {G : Nat} {rs : List Rw} {M L : Nat → Nat} {q j : Nat} {r : Rw} (h : GR W G rs M L q) (hj : rs[j]? = some r) (hq : j < q) : W.cell? ⟨G, j, none⟩ = some (r.val' (L j)) := by
  obtain ⟨cur, h1, _, h3⟩ := h.blk
  simpa [World.cell?, h1] using h3 j r hj hq
/-- the cell of a row may be stored -/
theorem GR.free {W : World} {G : Nat} {rs : List Rw} {M L : Nat → Nat} {q j : Nat} (h : GR W G rs M L q) (hj : j < rs.length) : ∃ old, ∀ W' : World, W'.heap[G]? = W.heap[G]? → W'.cell? ⟨G, j, none⟩ = some old ∧ W'.frozen? ⟨G, j, none⟩ = false := by
  obtain ⟨cur, h1, h2, _⟩ := h.blk
  have hlt : j < cur.size := by omega
  exact ⟨cur[j], fun W' hW => ⟨by simp [World.cell?, hW.trans h1, hlt], by simp [World.frozen?, hW.trans h1]⟩⟩
theorem GR.set {W : World} {G : Nat} {rs : List Rw} {M L : Nat → Nat} {p p' q n : Nat} {r : Rw} (h : GR W G rs M L p) (hq : rs[q]? = some r) (hp : ∀ j, j < p' → j < p ∨ j = q) (hM : n ≤ M q) (hc : n ≤ r.c) :
    GR (W.setCell ⟨G, q, none⟩ (r.val' n)) G rs M (fun j => if j = q then n else L j) p' := by
  obtain ⟨cur, h1, h2, h3⟩ := h.blk
  have hql : q < rs.length := (List.getElem?_eq_some_iff.1 hq).1
  have hat : (W.setCell ⟨G, q, none⟩ (r.val' n)).heap[G]? = some (.cells (cur.set! q (r.val' n)) 30 (0, 0)) := by simp [World.setCell, Array.getElem?_modify, h1]
  refine ⟨⟨_, hat, by simp [h2], fun j s hj hlt => ?_⟩, fun j s hj hlt => ?_⟩
  · by_cases hjq : j = q
    · subst hjq
      obtain rfl : r = s := Option.some.inj (hq.symm.trans hj)
      have : j < cur.size := by omega
      simp [this]
    · rw [if_neg hjq]
      rcases hp j hlt with h0 | h0
      · rw [Array.set!_eq_setIfInBounds, Array.getElem?_setIfInBounds_ne (Ne.symm hjq)]
        exact h3 j s hj h0
      · exact absurd h0 hjq
  · by_cases hjq : j = q
    · subst hjq
      obtain rfl : r = s := Option.some.inj (hq.symm.trans hj)
      rw [if_pos rfl]
      exact ⟨hM, hc⟩
    · rw [if_neg hjq]
      rcases hp j hlt with h0 | h0
      · exact h.lens j s hj h0
      · exact absurd h0 hjq
/-- a block that is no row and lies behind W0 is written -/
theorem FR.off {B : Nat} {W0 W W' : World} {rs : List Rw} {M : Nat → Nat} {G : Nat} (h : FR B W0 W rs M) (hg : W.grownBy W' (some G)) (hG : W0.heap.size ≤ G) : FR B W0 W' rs M := by
  have keep : ∀ s ∈ rs, ∀ c, s.g = some c → W'.heap[c]? = W.heap[c]? := fun s hs c hc => hg.block c ((h.row s hs).lt hc) (fun e => by have := h.old s hs c hc; injection e with e; omega)
  exact ⟨hg.os.trans h.os, hg.tape.trans h.tape, hg.output.trans h.output, Nat.le_trans h.size hg.size,
    fun k hk hr => (hg.block k (Nat.lt_of_lt_of_le hk h.size) (fun e => by injection e with e; omega)).trans (h.other k hk hr), fun s hs => (h.row s hs).kept fun b hb => keep s hs b hb, h.old, h.apart,
    fun j r hj k hk b hb => (World.cell?_of_block (keep r (List.mem_of_getElem? hj) b hb)).trans (h.marks j r hj k hk b hb)⟩
theorem grown_set (W : World) (G q : Nat) (v : Value) : W.grownBy (W.setCell ⟨G, q, none⟩ v) (some G) := by
  have hb0 : Below 0 W (W.setCell ⟨G, q, none⟩ v) := (Below.refl _ _).setCell (Nat.zero_le _) _
  exact ⟨hb0.os, hb0.tape, hb0.output, hb0.size, fun k _ hne => Below.heap_setCell _ _ _ _ (fun e => hne (by rw [e]))⟩
theorem GR.start {W : World} {G : Nat} {rs : List Rw} {M : Nat → Nat} {m : Nat} {B : Nat} {xs : List Value} (h : W.ownsRow B 30 1 (.slice (some ⟨G, 0, none⟩) m m) m xs) (hm : m = rs.length) : GR W G rs M (fun _ => 0) 0 := by
  rcases h.2 with ⟨h0, _⟩ | ⟨g, cap, cur, hv, _, hb, _, _, hs, _⟩
  · cases h0
  · simp only [Value.slice.injEq, Option.some.injEq, Addr.mk.injEq, and_true, true_and] at hv
    obtain ⟨rfl, rfl⟩ := hv
    exact ⟨⟨cur, hb, by omega, fun j r _ hj => absurd hj (Nat.not_lt_zero j)⟩, fun j r _ hj => absurd hj (Nat.not_lt_zero j)⟩

theorem room1 {W5 w' : World} {b k : Nat} {old : Value} (h : ∀ W', Below W5.heap.size W5 W' → W'.cell? ⟨b, k, none⟩ = some old ∧ W'.frozen? ⟨b, k, none⟩ = false) (hb : Below W5.heap.size W5 w') (v : Value) :
    ∀ j, j < [v].length → ((w'.alloc (.cells #[v] 9)).cell? ⟨b, 0 + k * 1 + j, none⟩).isSome = true ∧ (w'.alloc (.cells #[v] 9)).frozen? ⟨b, 0 + k * 1 + j, none⟩ = false := by
  intro j hj
  have hj0 : j = 0 := by simpa using hj
  subst hj0
  have h1 := h (w'.alloc (.cells #[v] 9)) (hb.alloc hb.size _)
  simp [h1]
theorem setCells_one (W : World) (b k : Nat) (v : Value) : W.setCells b (0 + k * 1) [v] = W.setCell ⟨b, k, none⟩ v := by simp [World.setCells]
theorem after1 {w' : World} {G p : Nat} {v0 : Value} (b k : Nat) (v : Value) (hne : G ≠ b) (hlt : G < w'.heap.size) (hc : w'.cell? ⟨G, p, none⟩ = some v0) (hf : w'.frozen? ⟨G, p, none⟩ = false) :
    ((w'.alloc (.cells #[v] 9)).setCell ⟨b, k, none⟩ v).cell? ⟨G, p, none⟩ = some v0 ∧ ((w'.alloc (.cells #[v] 9)).setCell ⟨b, k, none⟩ v).frozen? ⟨G, p, none⟩ = false := by
  have hk : ((w'.alloc (.cells #[v] 9)).setCell ⟨b, k, none⟩ v).heap[G]? = w'.heap[G]? := (Below.heap_setCell _ _ _ _ hne).trans (Below.heap_alloc _ _ _ hlt)
  refine ⟨(World.cell?_of_block hk).trans hc, ?_⟩
  simpa [World.frozen?, hk] using hf
end Go.Proofs.YtcohinfpcafcpaaDoor
