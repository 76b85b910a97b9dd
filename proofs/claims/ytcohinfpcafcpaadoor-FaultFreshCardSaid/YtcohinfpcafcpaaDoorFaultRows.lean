/- Rows of texts that a law keeps in a list of lists: each in a block of its own. No condition. -/
import Derived.Test.YtcohinfpcafcpaaDoorFaultTold0
import Derived.OwnWalk
namespace Go.Proofs.YtcohinfpcafcpaaDoor
open Go.RowKit Go.Extern.Stop Go.Stop Go.Extern Go.Sort

/-- a row of texts: its block (none: nil), length, capacity -/
structure Rw where
  g : Option Nat
  n : Nat
  c : Nat
def Rw.val (r : Rw) : Value := .slice (r.g.map fun b => ⟨b, 0, none⟩) r.n r.c
structure RowAt (w : World) (B : Nat) (r : Rw) : Prop where
  le : r.n ≤ r.c
  max : r.c ≤ maxLen
  nil : r.g = none → r.c = 0
  at_ : ∀ b, r.g = some b → B ≤ b ∧ ∃ cur, w.heap[b]? = some (.cells cur 9 (0, 0)) ∧ cur.size = r.c
theorem RowAt.lt {w : World} {B : Nat} {r : Rw} (h : RowAt w B r) {b : Nat} (hb : r.g = some b) : b < w.heap.size := by
  obtain ⟨_, cur, hc, _⟩ := h.at_ b hb
  exact at_lt hc
theorem RowAt.kept {w w' : World} {B : Nat} {r : Rw} (h : RowAt w B r) (hk : ∀ b, r.g = some b → w'.heap[b]? = w.heap[b]?) : RowAt w' B r :=
  ⟨h.le, h.max, h.nil, fun b hb => by obtain ⟨h1, cur, h2, h3⟩ := h.at_ b hb; exact ⟨h1, cur, (hk b hb).trans h2, h3⟩⟩
theorem RowAt.on {w w' : World} {B : Nat} {r : Rw} (h : RowAt w B r) (hb : Below w.heap.size w w') : RowAt w' B r := h.kept fun b hg => hb.block b (h.lt hg)

/-- what Trail gives is a row -/
theorem rowOf {w : World} {B : Nat} {v : Value} {l : List (List UInt8)} (h : OwnsTexts w B v l) : ∃ r : Rw, v = r.val ∧ RowAt w B r ∧ v.ownBlock = r.g ∧ r.n = l.length := by
  rcases h.2 with ⟨rfl, h0⟩ | ⟨g, cap, cur, rfl, hb, hk, hl, hm, hs, _⟩
  · exact ⟨⟨none, 0, 0⟩, rfl, ⟨Nat.le_refl _, Nat.zero_le _, fun _ => rfl, fun b hb => by cases hb⟩, rfl, h0.symm⟩
  · exact ⟨⟨some g, l.length, cap⟩, rfl, ⟨hl, hm, fun h => (by cases h), fun b hb' => (by cases hb'; exact ⟨hb, cur, hk, by simpa using hs⟩)⟩, rfl, rfl⟩

/-- a list of such rows: itself in a row of its own -/
structure Lists (w : World) (B : Nat) (lv nv : Value) (rs : List Rw) : Prop where
  own : w.ownsRow B 30 1 lv rs.length (rs.map Rw.val)
  row : ∀ r ∈ rs, RowAt w B r
  apart : rs.Pairwise fun a b => a.g = none ∨ a.g ≠ b.g
  names : ∀ r ∈ rs, r.g = none ∨ r.g ≠ nv.ownBlock

theorem lists_nil (w : World) (B : Nat) (nv : Value) : Lists w B (.slice none 0 0) nv [] := ⟨World.ownsRow_nil _ _ _ _, fun r h => (by cases h), List.Pairwise.nil, fun r h => (by cases h)⟩
theorem Lists.block {w : World} {B : Nat} {lv nv : Value} {rs : List Rw} (h : Lists w B lv nv rs) : ∀ k, lv.ownBlock = some k → ∃ cur, w.heap[k]? = some (.cells cur 30 (0, 0)) := by
  intro k hk
  rcases h.own.2 with ⟨rfl, _⟩ | ⟨g, cap, cur, rfl, _, hb, _⟩
  · simp [Value.ownBlock] at hk
  · simp only [Value.ownBlock, Option.some.injEq] at hk
    subst hk
    exact ⟨cur, hb⟩
theorem Lists.on {w w' : World} {B : Nat} {lv nv : Value} {rs : List Rw} (h : Lists w B lv nv rs) (hb : Below w.heap.size w w') : Lists w' B lv nv rs :=
  ⟨World.ownsRow.kept h.own (grown_of_below hb none) (by cases lv.ownBlock <;> simp), fun r hr => (h.row r hr).on hb, h.apart, h.names⟩
/-- where a block of neither kind, or the names' row, is written -/
theorem Lists.grown {w w' : World} {B : Nat} {lv nv nv' : Value} {rs : List Rw} {row : Option Nat} (h : Lists w B lv nv rs) (hg : w.grownBy w' row) (hl : ∀ k, row = some k → lv.ownBlock ≠ some k) (hr : ∀ r ∈ rs, r.g = none ∨ r.g ≠ row)
    (hn : nv'.ownBlock = nv.ownBlock ∨ ∃ k, nv'.ownBlock = some k ∧ w.heap.size ≤ k) : Lists w' B lv nv' rs := by
  refine ⟨World.ownsRow.kept h.own hg ?_, fun r hm => (h.row r hm).kept fun b hb => hg.block b ((h.row r hm).lt hb) (fun e => ?_), h.apart, fun r hm => ?_⟩
  · cases hlv : lv.ownBlock with
    | none => exact .inl rfl
    | some k => exact .inr fun e => hl k e.symm hlv
  · rcases hr r hm with h0 | h0
    · rw [hb] at h0; cases h0
    · exact h0 (hb.trans e)
  · rcases hn with e | ⟨k, e, hk⟩
    · rw [e]; exact h.names r hm
    · rw [e]
      cases hgr : r.g with
      | none => exact .inl rfl
      | some b => exact .inr fun e' => by have := (h.row r hm).lt hgr; injection e' with e'; omega
theorem Lists.more {w w' : World} {B : Nat} {lv nv nv' : Value} {rs : List Rw} {l : List (List UInt8)} (h : Lists w B lv nv rs) (hg : w.grownBy w' nv.ownBlock) (hnv : OwnsTexts w B nv l)
    (hn : nv'.ownBlock = nv.ownBlock ∨ ∃ k, nv'.ownBlock = some k ∧ w.heap.size ≤ k) : Lists w' B lv nv' rs :=
  h.grown hg (fun k hk hl => by
    obtain ⟨c1, h1⟩ := hnv.row k hk
    obtain ⟨c2, h2⟩ := h.block k hl
    rw [h1] at h2; injection h2 with h2; injection h2 with _ ht; cases ht) h.names hn
theorem Lists.book {w w' : World} {B g : Nat} {lv nv : Value} {rs : List Rw} {cs : Array Value} (h : Lists w B lv nv rs) (hg : w.grownBy w' (some g)) (hb : w.heap[g]? = some (.cells cs 32 (0, 0))) : Lists w' B lv nv rs :=
  h.grown hg (fun k hk hl => by
    cases hk
    obtain ⟨c2, h2⟩ := h.block g hl
    rw [hb] at h2; injection h2 with h2; injection h2 with _ ht; cases ht) (fun r hm => .inr fun e => by
    obtain ⟨_, cur, h2, _⟩ := (h.row r hm).at_ g e
    rw [hb] at h2; injection h2 with h2; injection h2 with _ ht; cases ht) (.inl rfl)
/-- two new rows are appended -/
theorem Lists.add {w a w' : World} {B : Nat} {lv lv' nv : Value} {rs : List Rw} {r1 r2 : Rw} (h : Lists w B lv nv rs) (hnv : ∀ k, nv.ownBlock = some k → k < w.heap.size) (h1 : RowAt a B r1) (h2 : RowAt a B r2) (hab : Below w.heap.size w a)
    (n1 : ∀ b, r1.g = some b → w.heap.size ≤ b) (n2 : ∀ b, r2.g = some b → w.heap.size ≤ b) (n12 : r1.g = none ∨ r1.g ≠ r2.g)
    (hg : a.grownBy w' lv.ownBlock) (hown : w'.ownsRow B 30 1 lv' (rs.length + 2) (rs.map Rw.val ++ [r1.val, r2.val])) : Lists w' B lv' nv (rs ++ [r1, r2]) := by
  have hne : ∀ (r : Rw), RowAt a B r → ∀ b, r.g = some b → some b ≠ lv.ownBlock := fun r hr b hb e => by
    obtain ⟨c2, k2⟩ := (h.on hab).block b e.symm
    obtain ⟨_, cur, k1, _⟩ := hr.at_ b hb
    rw [k1] at k2; injection k2 with k2; injection k2 with _ ht; cases ht
  have keep : ∀ r, RowAt a B r → RowAt w' B r := fun r hr => hr.kept fun b hb => hg.block b (hr.lt hb) (hne r hr b hb)
  refine ⟨by simpa using hown, fun r hr => ?_, ?_, fun r hr => ?_⟩
  · rcases List.mem_append.1 hr with hr | hr
    · exact keep r ((h.row r hr).on hab)
    · simp only [List.mem_cons, List.not_mem_nil, or_false] at hr
      rcases hr with rfl | rfl
      · exact keep _ h1
      · exact keep _ h2
  · refine List.pairwise_append.2 ⟨h.apart, by simpa using n12, fun x hx y hy => ?_⟩
    cases hxg : x.g with
    | none => exact .inl rfl
    | some b =>
      refine .inr fun e => ?_
      have hb := (h.row x hx).lt hxg
      simp only [List.mem_cons, List.not_mem_nil, or_false] at hy
      rcases hy with rfl | rfl
      · have := n1 b e.symm; omega
      · have := n2 b e.symm; omega
  · rcases List.mem_append.1 hr with hr | hr
    · exact h.names r hr
    · simp only [List.mem_cons, List.not_mem_nil, or_false] at hr
      have hfr : ∀ b, r.g = some b → w.heap.size ≤ b := by rcases hr with rfl | rfl <;> assumption
      cases hgr : r.g with
      | none => exact .inl rfl
      | some b => exact .inr fun e => by have := hnv b e.symm; have := hfr b hgr; omega

/-- what more leaves, with all that a caller keeps beside it: books, errors, lists -/
def MoreAt3 (k : Int) (s : ByteArray) (e : Err) (lv : Value) (rs : List Rw) (B : Nat) (w0 w : World) (r : Ending) (w' : World) : Prop :=
  ∃ (e' : Err) (A : Option Addr) (n cp : Nat), r = .returned (.tuple #[.iface e'.ty e'.dat, .agg #[.bool true, .int .i64 e'.code, .int .i64 e'.place, .slice A n cp, .string ⟨e'.text.toArray⟩]]) ∧ StAt B w' (some e') e'.book (.slice A n cp) ∧
    StepRel k s (some e) (some e') ∧ Below B w0 w' ∧ (∀ (g : Nat) (old : Array Value), w.heap[g]? = some (.cells old 32 (0, 0)) → w'.heap[g]? = w.heap[g]?) ∧ Lists w' B lv (.slice A n cp) rs ∧ w.heap.size ≤ w'.heap.size
theorem more_at3 (k : Int) (s : ByteArray) (e : Err) (A : Option Addr) (n cp : Nat) (lv : Value) (rs : List Rw) (B : Nat) (w0 w : World) (hS : StAt B w (some e) e.book (.slice A n cp)) (hB : B ≤ w.heap.size) (hb : Below B w0 w) (hL : Lists w B lv (.slice A n cp) rs)
    (hl : s.size + 9 + e.text.length ≤ 9223372036854775807) (hn : e.names.length ≤ 65536) :
    Calls Tryd.prog 13 #[.iface e.ty e.dat, .agg #[.bool true, .int .i64 e.code, .int .i64 e.place, .slice A n cp, .string ⟨e.text.toArray⟩], .agg #[.int .i64 k, .string s]] w (MoreAt3 k s e lv rs B w0 w) :=
  (more_any k s (some e) e.book (.slice A n cp) B w hS hB hl hn).mono fun r w' ⟨o', bk', nv', he, hS', hgr, hr, _, hfr⟩ => by
    obtain ⟨A', n', cp', rfl⟩ := hS'.names.form
    cases o' with
    | none => rcases hr with ⟨_, b, h⟩ | ⟨_, b, h⟩ | ⟨_, _, h⟩ <;> cases h
    | some e' =>
      obtain rfl := (hS'.some_ e' rfl).2.2
      refine ⟨e', A', n', cp', he, hS', hr, hb.grown hgr hB (fun k hk => (hS.names.lt k hk).1), fun g old hg => ?_, hL.more hgr hS.names hfr, hgr.size⟩
      refine hgr.block g (at_lt hg) (fun h => ?_)
      obtain ⟨cur, hc⟩ := OwnsTexts.row hS.names g h.symm
      rw [hg] at hc
      injection hc with hc
      injection hc with _ ht
      cases ht
theorem Inv.more {sz sz' : Nat} {bk : Bk} (h : Inv sz bk) (h1 : sz ≤ sz') (h2 : sz' ≤ 4611686018427387904) : Inv sz' bk := by
  obtain ⟨Tp, a, b, c, d, _⟩ := h
  exact ⟨Tp, by omega, b, c, d, h2⟩
theorem step_big {k : Int} {s : ByteArray} {e e' : Err} (h : StepRel k s (some e) (some e')) (hb : 6 ≤ e.text.length) : 6 ≤ e'.text.length := by
  rcases h with ⟨_, b, h⟩ | ⟨_, b, h⟩ | ⟨_, _, h⟩ <;> injection h with h <;> subst h
  · simp only [Err.text, List.length_append]; omega
  · simp only [Err.text, List.length_append]; omega
  · exact hb

/-! ### where a list's own row is written -/
theorem ErrAt.listGrown {w w' : World} {row : Option Nat} (hg : w.grownBy w' row) (hrow : ∀ k, row = some k → ∃ cur, w.heap[k]? = some (.cells cur 30 (0, 0))) : ∀ {e : Err}, ErrAt w e → ErrAt w' e
  | .met b _ _, h => (hg.block b (at_lt h) (fun hk => by obtain ⟨cur, hc⟩ := hrow b hk.symm; have h' : w.heap[b]? = _ := h; rw [h'] at hc; injection hc with hc; injection hc with _ ht; cases ht)).trans h
  | .within b _ _, ⟨h, h3⟩ => ⟨(hg.block b (at_lt h) (fun hk => by obtain ⟨cur, hc⟩ := hrow b hk.symm; rw [h] at hc; injection hc with hc; injection hc with _ ht; cases ht)).trans h, ErrAt.listGrown hg hrow h3⟩
  | .outer b _, ⟨h, h3⟩ => ⟨(hg.block b (at_lt h) (fun hk => by obtain ⟨cur, hc⟩ := hrow b hk.symm; rw [h] at hc; injection hc with hc; injection hc with _ ht; cases ht)).trans h, ErrAt.listGrown hg hrow h3⟩
  | .other b _, h => (hg.block b (at_lt h) (fun hk => by obtain ⟨cur, hc⟩ := hrow b hk.symm; have h' : w.heap[b]? = _ := h; rw [h'] at hc; injection hc with hc; injection hc with _ ht; cases ht)).trans h
  | .errno _, _ => trivial
theorem StAt.listGrown {w w' : World} {B : Nat} {row : Option Nat} {o : Option Err} {bk : Bk} {nv : Value} (h : StAt B w o bk nv) (hg : w.grownBy w' row) (hrow : ∀ k, row = some k → ∃ cur, w.heap[k]? = some (.cells cur 30 (0, 0))) : StAt B w' o bk nv := by
  refine ⟨fun e he => ⟨(h.some_ e he).1.listGrown hg hrow, (h.some_ e he).2⟩, h.none_, World.ownsRow.kept h.names hg ?_⟩
  cases hn : nv.ownBlock with
  | none => exact .inl rfl
  | some k =>
    refine .inr fun e => ?_
    obtain ⟨c1, h1⟩ := h.names.row k hn
    obtain ⟨c2, h2⟩ := hrow k e.symm
    rw [h1] at h2; injection h2 with h2; injection h2 with _ ht; cases ht
theorem book_listGrown {w w' : World} {row : Option Nat} {g : Nat} {cs : Array Value} (hg : w.grownBy w' row) (hrow : ∀ k, row = some k → ∃ cur, w.heap[k]? = some (.cells cur 30 (0, 0))) (hb : w.heap[g]? = some (.cells cs 32 (0, 0))) : w'.heap[g]? = some (.cells cs 32 (0, 0)) :=
  (hg.block g (at_lt hb) (fun hk => by obtain ⟨cur, hc⟩ := hrow g hk.symm; rw [hb] at hc; injection hc with hc; injection hc with _ ht; cases ht)).trans hb
theorem RowAt.mono {w : World} {B B' : Nat} {r : Rw} (h : RowAt w B r) (hB : B' ≤ B) : RowAt w B' r := ⟨h.le, h.max, h.nil, fun b hb => ⟨Nat.le_trans hB (h.at_ b hb).1, (h.at_ b hb).2⟩⟩
end Go.Proofs.YtcohinfpcafcpaaDoor
