/- Rows that are written full of marks: what stays, what is known. No condition. -/
import Derived.Test.YtcohinfpcafcpaaDoorFaultRows
namespace Go.Proofs.YtcohinfpcafcpaaDoor
open Go.RowKit Go.Extern.Stop Go.Stop Go.Extern Go.Sort

def tMark : List UInt8 := [109, 97, 114, 107, 32]
/-- the text that marks row j -/
def mark (j : Nat) : ByteArray := ⟨(tMark ++ Lib.itoa j).toArray⟩
def nOf (rs : List Rw) (j : Nat) : Nat := (rs[j]?.map Rw.n).getD 0
theorem nOf_some {rs : List Rw} {j : Nat} {r : Rw} (h : rs[j]? = some r) : nOf rs j = r.n := by simp [nOf, h]

/-- from W0 on, nothing old is turned but the rows; they lie as they lay; row j bears its mark in its first M j cells -/
structure FR (B : Nat) (W0 W : World) (rs : List Rw) (M : Nat → Nat) : Prop where
  os : W.os = W0.os
  tape : W.tape = W0.tape
  output : W.output = W0.output
  size : W0.heap.size ≤ W.heap.size
  other : ∀ k, k < W0.heap.size → (∀ r ∈ rs, r.g ≠ some k) → W.heap[k]? = W0.heap[k]?
  row : ∀ r ∈ rs, RowAt W B r
  old : ∀ r ∈ rs, ∀ c : Nat, r.g = some c → c < W0.heap.size
  apart : rs.Pairwise fun a b => a.g = none ∨ a.g ≠ b.g
  marks : ∀ j r, rs[j]? = some r → ∀ k, k < M j → ∀ b, r.g = some b → W.cell? ⟨b, k, none⟩ = some (.string (mark j))

theorem FR.start {B : Nat} {W0 : World} {lv nv : Value} {rs : List Rw} (h : Lists W0 B lv nv rs) : FR B W0 W0 rs fun _ => 0 :=
  ⟨rfl, rfl, rfl, Nat.le_refl _, fun _ _ _ => rfl, h.row, fun r hr _ hb => (h.row r hr).lt hb, h.apart, fun _ _ _ k hk => absurd hk (Nat.not_lt_zero k)⟩
theorem FR.on {B : Nat} {W0 W W' : World} {rs : List Rw} {M : Nat → Nat} (h : FR B W0 W rs M) (hb : Below W.heap.size W W') : FR B W0 W' rs M :=
  ⟨hb.os.trans h.os, hb.tape.trans h.tape, hb.output.trans h.output, Nat.le_trans h.size hb.size, fun k hk hr => (hb.block k (Nat.lt_of_lt_of_le hk h.size)).trans (h.other k hk hr), fun r hr => (h.row r hr).on hb, h.old, h.apart,
   fun j r hj k hk b hg => (hb.cell (p := ⟨b, k, none⟩) ((h.row r (List.mem_of_getElem? hj)).lt hg)).trans (h.marks j r hj k hk b hg)⟩
theorem FR.below {B : Nat} {w W0 W : World} {rs : List Rw} {M : Nat → Nat} (h : FR B W0 W rs M) (hw : Below w.heap.size w W0) (hB : w.heap.size ≤ B) : Below w.heap.size w W :=
  ⟨h.os.trans hw.os, h.tape.trans hw.tape, h.output.trans hw.output, Nat.le_trans hw.size h.size, fun k hk => (h.other k (Nat.lt_of_lt_of_le hk hw.size) (fun r hr e => by have := ((h.row r hr).at_ k e).1; omega)).trans (hw.block k hk)⟩
/-- two rows at two indices lie in two blocks -/
theorem FR.ne {B : Nat} {W0 W : World} {rs : List Rw} {M : Nat → Nat} (h : FR B W0 W rs M) {i j : Nat} {r s : Rw} (hi : rs[i]? = some r) (hj : rs[j]? = some s) (hne : i ≠ j) {b : Nat} (hr : r.g = some b) : s.g ≠ some b := by
  have key : ∀ {i j : Nat} {r s : Rw}, rs[i]? = some r → rs[j]? = some s → i < j → r.g = none ∨ r.g ≠ s.g := fun {i j r s} hi hj hlt => by
    obtain ⟨h1, rfl⟩ := List.getElem?_eq_some_iff.1 hi
    obtain ⟨h2, rfl⟩ := List.getElem?_eq_some_iff.1 hj
    exact List.pairwise_iff_getElem.1 h.apart i j h1 h2 hlt
  intro e
  rcases Nat.lt_or_gt_of_ne hne with hlt | hlt
  · rcases key hi hj hlt with h0 | h0
    · rw [hr] at h0; cases h0
    · exact h0 (hr.trans e.symm)
  · rcases key hj hi hlt with h0 | h0
    · rw [e] at h0; cases h0
    · exact h0 (e.trans hr.symm)
/-- one block that is a row is written (new blocks beside): its first cells are as before, and the next one is the mark -/
theorem FR.write {B : Nat} {W0 W W' : World} {rs : List Rw} {M : Nat → Nat} (h : FR B W0 W rs M) {i : Nat} {r : Rw} {b k : Nat} (hi : rs[i]? = some r) (hb : r.g = some b) (hg : W.grownBy W' (some b)) (hM : k ≤ M i)
    (hrow : ∃ cur, W'.heap[b]? = some (.cells cur 9 (0, 0)) ∧ cur.size = r.c) (hold : ∀ q, q < k → W'.cell? ⟨b, q, none⟩ = W.cell? ⟨b, q, none⟩) (hnew : W'.cell? ⟨b, k, none⟩ = some (.string (mark i))) :
    FR B W0 W' rs fun j => if j = i then k + 1 else M j := by
  have hm := List.mem_of_getElem? hi
  have keep : ∀ s ∈ rs, ∀ c, s.g = some c → c ≠ b → W'.heap[c]? = W.heap[c]? := fun s hs c hc hne => hg.block c ((h.row s hs).lt hc) (fun e => hne (by injection e))
  refine ⟨hg.os.trans h.os, hg.tape.trans h.tape, hg.output.trans h.output, Nat.le_trans h.size hg.size, fun q hq hr => ?_, fun s hs => ?_, h.old, h.apart, fun j s hj q hq c hc => ?_⟩
  · exact (hg.block q (Nat.lt_of_lt_of_le hq h.size) (fun e => hr r hm (by rw [hb, e]))).trans (h.other q hq hr)
  · refine ⟨(h.row s hs).le, (h.row s hs).max, (h.row s hs).nil, fun c hc => ?_⟩
    by_cases hcb : c = b
    · subst hcb
      obtain ⟨j, hj⟩ := List.getElem?_of_mem hs
      have hij : i = j := Classical.byContradiction fun hne => h.ne hi hj hne hb hc
      subst hij
      obtain rfl : r = s := Option.some.inj (hi.symm.trans hj)
      exact ⟨((h.row r hs).at_ c hc).1, hrow⟩
    · obtain ⟨h1, cur, h2, h3⟩ := (h.row s hs).at_ c hc
      exact ⟨h1, cur, (keep s hs c hc hcb).trans h2, h3⟩
  · by_cases hij : j = i
    · subst hij
      obtain rfl : r = s := Option.some.inj (hi.symm.trans hj)
      obtain rfl : b = c := Option.some.inj (hb.symm.trans hc)
      simp only [if_pos] at hq
      rcases Nat.lt_or_ge q k with hlt | hge
      · rw [hold q hlt]; exact h.marks j r hj q (Nat.lt_of_lt_of_le hlt hM) b hb
      · obtain rfl : q = k := by omega
        exact hnew
    · rw [if_neg hij] at hq
      have hcb : c ≠ b := fun e => h.ne hi hj (Ne.symm hij) hb (by rw [hc, e])
      exact (World.cell?_of_block (keep s (List.mem_of_getElem? hj) c hc hcb)).trans (h.marks j s hj q hq c hc)
/-- a cell of a row is stored -/
theorem FR.store {B : Nat} {W0 W : World} {rs : List Rw} {M : Nat → Nat} (h : FR B W0 W rs M) {i : Nat} {r : Rw} {b k : Nat} (hi : rs[i]? = some r) (hb : r.g = some b) (hk : k < r.c) (hM : k ≤ M i) :
    FR B W0 (W.setCell ⟨b, k, none⟩ (.string (mark i))) rs fun j => if j = i then k + 1 else M j := by
  have hm := List.mem_of_getElem? hi
  obtain ⟨_, cur, h2, h3⟩ := (h.row r hm).at_ b hb
  have hb0 : Below 0 W (W.setCell ⟨b, k, none⟩ (.string (mark i))) := (Below.refl _ _).setCell (Nat.zero_le _) _
  have hat : (W.setCell ⟨b, k, none⟩ (.string (mark i))).heap[b]? = some (.cells (cur.set! k (.string (mark i))) 9 (0, 0)) := by simp [World.setCell, Array.getElem?_modify, h2]
  refine h.write hi hb ⟨hb0.os, hb0.tape, hb0.output, hb0.size, fun q _ hne => Below.heap_setCell _ _ _ _ (fun e => hne (by rw [e]))⟩ hM ⟨_, hat, by simp [h3]⟩ (fun q hq => ?_) ?_
  · simp [World.cell?, hat, h2]
    rw [Array.getElem?_setIfInBounds_ne (by omega)]
  · simp only [World.cell?, hat]
    have hlt : k < cur.size := by omega
    simp [hlt]

theorem Lists.len {w : World} {B : Nat} {lv nv : Value} {rs : List Rw} (h : Lists w B lv nv rs) : ∃ A cp, lv = .slice A rs.length cp := by
  rcases h.own.2 with ⟨rfl, h0⟩ | ⟨g, cap, cur, rfl, _⟩
  · exact ⟨none, 0, by rw [h0]⟩
  · exact ⟨_, _, rfl⟩
/-- the list's cells: they lie in a block that is no row -/
theorem Lists.cell {w : World} {B : Nat} {A : Option Addr} {n cp : Nat} {nv : Value} {rs : List Rw} (h : Lists w B (.slice A n cp) nv rs) {i : Nat} {r : Rw} (hi : rs[i]? = some r) :
    ∃ g, A = some ⟨g, 0, none⟩ ∧ g < w.heap.size ∧ w.cell? ⟨g, i, none⟩ = some r.val ∧ (∀ s ∈ rs, s.g ≠ some g) := by
  obtain ⟨hil, hir⟩ := List.getElem?_eq_some_iff.1 hi
  rcases h.own.2 with ⟨_, h0⟩ | ⟨g, cap, cur, hv, _, hb, hl, _, hs, ht⟩
  · omega
  · simp only [Value.slice.injEq] at hv
    obtain ⟨rfl, -, -⟩ := hv
    refine ⟨g, rfl, at_lt hb, ?_, fun s hs' e => ?_⟩
    · have h1 : (cur.toList.take (rs.length * 1))[i]? = (rs.map Rw.val)[i]? := by rw [ht]
      rw [List.getElem?_take, if_pos (by omega), List.getElem?_map, hi] at h1
      simp only [Array.getElem?_toList] at h1
      simpa [World.cell?, hb] using h1
    · obtain ⟨_, c, h2, _⟩ := (h.row s hs').at_ g e
      rw [hb] at h2; injection h2 with h2; injection h2 with _ ht; cases ht
theorem FR.cell {B : Nat} {W0 W : World} {rs : List Rw} {M : Nat → Nat} (h : FR B W0 W rs M) {g k : Nat} {v : Value} (hc : W0.cell? ⟨g, k, none⟩ = some v) (hg : g < W0.heap.size) (hr : ∀ s ∈ rs, s.g ≠ some g) : W.cell? ⟨g, k, none⟩ = some v :=
  (World.cell?_of_block (h.other g hg hr)).trans hc
/-- a cell of a row: it may be stored, now and behind a call that leaves what is old -/
theorem FR.cell_row {B : Nat} {W0 W : World} {rs : List Rw} {M : Nat → Nat} (h : FR B W0 W rs M) {q k b : Nat} {r : Rw} (hq : rs[q]? = some r) (hb : r.g = some b) (hk : k < r.c) :
    ∃ old, ∀ W', Below W.heap.size W W' → W'.cell? ⟨b, k, none⟩ = some old ∧ W'.frozen? ⟨b, k, none⟩ = false := by
  obtain ⟨_, cur, h2, h3⟩ := (h.row r (List.mem_of_getElem? hq)).at_ b hb
  have hlt : k < cur.size := by omega
  refine ⟨cur[k], fun W' hW => ?_⟩
  have h4 := (hW.block b (at_lt h2)).trans h2
  exact ⟨by simp [World.cell?, h4, hlt], by simp [World.frozen?, h4]⟩
theorem Rw.val_some {r : Rw} {b : Nat} (h : r.g = some b) : r.val = .slice (some ⟨b, 0, none⟩) r.n r.c := by simp [Rw.val, h]
theorem RowAt.some {w : World} {B k : Nat} {r : Rw} (h : RowAt w B r) (hk : k < r.c) : ∃ b, r.g = .some b := by
  cases hg : r.g with
  | none => have := h.nil hg; omega
  | some b => exact ⟨b, rfl⟩
theorem mark_text (j : Nat) : (⟨#[109, 97, 114, 107, 32]⟩ ++ ⟨(Lib.itoa j).toArray⟩ : ByteArray) = mark j := by
  rw [ByteArray.mk_append_mk]
  rfl
end Go.Proofs.YtcohinfpcafcpaaDoor
