/- Rows of numbers that a law writes full of marks, and the books that hold them. No condition. -/
import Derived.Test.YtpipcpjkfgdpcaaDoorShPlay
import Derived.OneCell
namespace Go.Proofs.YtpipcpjkfgdpcaaDoor
open Go.RowKit

abbrev TBk : TypeId := 57
abbrev TQ : TypeId := 61
abbrev TSI : TypeId := 25
abbrev TSA : TypeId := 28
abbrev TAr : TypeId := 36

theorem heap_lt {w : World} {k : Nat} {o : Obj} (h : w.heap[k]? = some o) : k < w.heap.size := (Array.getElem?_eq_some_iff.1 h).1
theorem types_apart {w : World} {k : Nat} {c1 c2 : Array Value} {t1 t2 : TypeId} {f1 f2 : Nat × Nat} (h1 : w.heap[k]? = some (.cells c1 t1 f1)) (h2 : w.heap[k]? = some (.cells c2 t2 f2)) : t1 = t2 := by
  rw [h1] at h2
  injection h2 with h2
  injection h2

/-- a row of numbers: its block (none: nil), length, capacity -/
structure Rw where
  g : Option Nat
  n : Nat
  c : Nat
def Rw.val (r : Rw) : Value := .slice (r.g.map fun b => ⟨b, 0, none⟩) r.n r.c
def roomOf (n c : Nat) : Nat := if n + 70000 < c then n + 70000 else c
/-- the row, grown -/
def Rw.up (r : Rw) : Rw := ⟨r.g, roomOf r.n r.c, r.c⟩
theorem Rw.own (r : Rw) : r.val.ownBlock = r.g := by
  cases h : r.g <;> simp [Rw.val, Value.ownBlock, h]
theorem roomOf_le {n c : Nat} (h : n ≤ c) : n ≤ roomOf n c ∧ roomOf n c ≤ c := by
  unfold roomOf
  split <;> omega
structure RowAt (t : TypeId) (w : World) (B : Nat) (r : Rw) : Prop where
  le : r.n ≤ r.c
  max : r.c ≤ maxLen
  nil : r.g = none → r.c = 0
  at_ : ∀ b, r.g = some b → B ≤ b ∧ ∃ cur, w.heap[b]? = some (.cells cur t (0, 0)) ∧ cur.size = r.c
section
variable {t : TypeId} {w w' : World} {B : Nat} {r : Rw}
theorem RowAt.lt (h : RowAt t w B r) {b : Nat} (hb : r.g = some b) : b < w.heap.size := by
  obtain ⟨_, cur, hc, _⟩ := h.at_ b hb
  exact heap_lt hc
theorem RowAt.kept (h : RowAt t w B r) (hk : ∀ b, r.g = some b → w'.heap[b]? = w.heap[b]?) : RowAt t w' B r :=
  ⟨h.le, h.max, h.nil, fun b hb => by obtain ⟨h1, cur, h2, h3⟩ := h.at_ b hb; exact ⟨h1, cur, (hk b hb).trans h2, h3⟩⟩
theorem RowAt.on (h : RowAt t w B r) (hb : Below w.heap.size w w') : RowAt t w' B r := h.kept fun b hg => hb.block b (h.lt hg)
theorem RowAt.mono {B' : Nat} (h : RowAt t w B r) (hB : B' ≤ B) : RowAt t w B' r := ⟨h.le, h.max, h.nil, fun b hb => ⟨Nat.le_trans hB (h.at_ b hb).1, (h.at_ b hb).2⟩⟩
theorem RowAt.up (h : RowAt t w B r) : RowAt t w B r.up := ⟨(roomOf_le h.le).2, h.max, h.nil, h.at_⟩
theorem RowAt.some (h : RowAt t w B r) {k : Nat} (hk : k < r.c) : ∃ b, r.g = some b := by
  cases hg : r.g with
  | none => have := h.nil hg; omega
  | some b => exact ⟨b, rfl⟩
theorem RowAt.set (h : RowAt t w B r) (x i : Nat) (v : Value) : RowAt t (w.setCell ⟨x, i, none⟩ v) B r := by
  refine ⟨h.le, h.max, h.nil, fun b hb => ?_⟩
  obtain ⟨h1, cur, h2, h3⟩ := h.at_ b hb
  by_cases hx : b = x
  · subst hx
    exact ⟨h1, _, Go.heap_setCell_same w b i cur t v h2, by simpa using h3⟩
  · exact ⟨h1, cur, (Below.heap_setCell _ _ _ _ hx).trans h2, h3⟩
theorem RowAt.free (h : RowAt t w B r) {b k : Nat} (hb : r.g = Option.some b) (hk : k < r.c) : ∃ old, w.cell? ⟨b, k, none⟩ = Option.some old ∧ w.frozen? ⟨b, k, none⟩ = false := by
  obtain ⟨_, cur, h2, h3⟩ := h.at_ b hb
  have hlt : k < cur.size := by omega
  exact ⟨cur[k], by simp [World.cell?, h2, hlt], by simp [World.frozen?, h2]⟩
/-- what is known of a block of another type, beside a row -/
theorem RowAt.ne (h : RowAt t w B r) {k : Nat} {cs : Array Value} {t' : TypeId} (hk : w.heap[k]? = Option.some (.cells cs t' (0, 0))) (ht : t ≠ t') : r.g ≠ Option.some k := fun e => by
  obtain ⟨_, cur, h2, _⟩ := h.at_ k e
  exact ht (types_apart h2 hk)
end

/-- the first k cells of a row hold m -/
def MkAt (w : World) (r : Rw) (k : Nat) (m : Int) : Prop := ∀ b, r.g = some b → ∀ q, q < k → w.cell? ⟨b, q, none⟩ = some (.int .i64 m)
theorem MkAt.zero (w : World) (r : Rw) (m : Int) : MkAt w r 0 m := fun _ _ q h => absurd h (Nat.not_lt_zero q)
theorem MkAt.kept {w w' : World} {r : Rw} {k : Nat} {m : Int} (h : MkAt w r k m) (hk : ∀ b, r.g = some b → w'.heap[b]? = w.heap[b]?) : MkAt w' r k m := fun b hb q hq =>
  (World.cell?_of_block (hk b hb)).trans (h b hb q hq)
theorem MkAt.less {w : World} {r : Rw} {k k' : Nat} {m : Int} (h : MkAt w r k m) (hk : k' ≤ k) : MkAt w r k' m := fun b hb q hq => h b hb q (Nat.lt_of_lt_of_le hq hk)
theorem MkAt.up {w : World} {r : Rw} {k : Nat} {m : Int} (h : MkAt w r k m) : MkAt w r.up k m := h
theorem MkAt.set {t : TypeId} {w : World} {B : Nat} {r : Rw} {b k : Nat} {m : Int} (hr : RowAt t w B r) (h : MkAt w r k m) (hb : r.g = some b) (hk : k < r.c) : MkAt (w.setCell ⟨b, k, none⟩ (.int .i64 m)) r (k + 1) m := fun b' hb' q hq => by
  obtain rfl : b = b' := Option.some.inj (hb.symm.trans hb')
  obtain ⟨_, cur, h2, h3⟩ := hr.at_ b hb
  have h4 := Go.heap_setCell_same w b k cur t (.int .i64 m) h2
  by_cases hqk : q = k
  · subst hqk
    have : q < cur.size := by omega
    simp [World.cell?, h4, this]
  · have h5 := h b hb q (by omega)
    simp only [World.cell?, h2] at h5
    simp only [World.cell?, h4]
    rw [Array.getElem?_setIfInBounds_ne (Ne.symm hqk)]
    exact h5

def mkN (j : Nat) : Int := -1 - (j : Int)
/-- the blocks that a book writes: itself, its list, the rows that it takes -/
def BP (pb : Nat) (v : Value) (ns : List Rw) (k : Nat) : Prop := k = pb ∨ some k = v.ownBlock ∨ ∃ r ∈ ns, r.g = some k

theorem Only.at {p : Nat → Prop} {w w' : World} (h : Only p w w') {k : Nat} {o : Obj} (hk : w.heap[k]? = some o) (hp : ¬ p k) : w'.heap[k]? = some o := (h.block k (heap_lt hk) hp).trans hk

/-- some rows of ns are taken, those of the first i: each is marked -/
structure T1 (t ts : TypeId) (cs : Value → Nat → Array Value) (W0 : World) (B pb : Nat) (iv : Value) (rs ns : List Rw) (i : Nat) (W : World) (iv' : Value) (mu : Nat) (ks : List Rw) : Prop where
  ra : ∀ r ∈ ns, RowAt t W B r
  km : ∀ j r, ks[j]? = some r → MkAt W r r.n (mkN (rs.length + j))
  sub : ks.Sublist (ns.take i)
  bk : W.heap[pb]? = some (.cells (cs iv' mu) TBk (0, 0))
  oi : W.ownsRow B ts 1 iv' (rs.length + ks.length) ((rs ++ ks).map Rw.val)
  on : Only (BP pb iv ns) W0 W
  at_ : iv'.ownBlock = iv.ownBlock ∨ ∃ k, iv'.ownBlock = some k ∧ W0.heap.size ≤ k
section
variable {t ts : TypeId} {cs : Value → Nat → Array Value} {W0 W W' : World} {B pb : Nat} {iv iv' iv2 : Value} {rs ns ks : List Rw} {i mu : Nat}

theorem T1.start (hr : ∀ r ∈ ns, RowAt t W0 B r) (hb : W0.heap[pb]? = some (.cells (cs iv mu) TBk (0, 0))) (ho : W0.ownsRow B ts 1 iv rs.length (rs.map Rw.val)) : T1 t ts cs W0 B pb iv rs ns 0 W0 iv mu [] :=
  ⟨hr, fun j r h => by simp at h, by simp, hb, by simpa using ho, Only.refl _ _, .inl rfl⟩
theorem T1.below (h : T1 t ts cs W0 B pb iv rs ns i W iv' mu ks) (hb : Below W.heap.size W W') : T1 t ts cs W0 B pb iv rs ns i W' iv' mu ks :=
  ⟨fun r hr => (h.ra r hr).on hb, fun j r hj => (h.km j r hj).kept fun b hg => hb.block b ((h.ra r ((h.sub.trans (List.take_sublist _ _)).subset (List.mem_of_getElem? hj))).lt hg), h.sub, (hb.block _ (heap_lt h.bk)).trans h.bk,
    World.ownsRow.kept h.oi (grown_below hb none) (by cases iv'.ownBlock <;> simp), h.on.below hb, h.at_⟩
theorem T1.skip (h : T1 t ts cs W0 B pb iv rs ns i W iv' mu ks) : T1 t ts cs W0 B pb iv rs ns (i + 1) W iv' mu ks :=
  ⟨h.ra, h.km, h.sub.trans (List.take_sublist_take_left (Nat.le_succ i)), h.bk, h.oi, h.on, h.at_⟩
/-- two rows at two places lie in two blocks -/
theorem rows_ne (hap : ns.Pairwise fun a b => a.g = none ∨ a.g ≠ b.g) {i j : Nat} {r s : Rw} (hi : ns[i]? = some r) (hj : ns[j]? = some s) (hne : i ≠ j) {b : Nat} (hr : r.g = some b) : s.g ≠ some b := by
  obtain ⟨h1, e1⟩ := List.getElem?_eq_some_iff.1 hi
  obtain ⟨h2, e2⟩ := List.getElem?_eq_some_iff.1 hj
  rcases Nat.lt_or_gt_of_ne hne with h | h
  · have := List.pairwise_iff_getElem.1 hap i j h1 h2 h
    rw [e1, e2] at this
    rcases this with h0 | h0
    · rw [h0] at hr; cases hr
    · exact fun e => h0 (hr.trans e.symm)
  · have := List.pairwise_iff_getElem.1 hap j i h2 h1 h
    rw [e1, e2] at this
    rcases this with h0 | h0
    · exact fun e => by rw [h0] at e; cases e
    · exact fun e => h0 (e.trans hr.symm)
/-- a row that is not yet taken lies apart from those that are -/
theorem T1.apart (h : T1 t ts cs W0 B pb iv rs ns i W iv' mu ks) (hap : ns.Pairwise fun a b => a.g = none ∨ a.g ≠ b.g) {r : Rw} (hi : ns[i]? = some r) {b : Nat} (hb : r.g = some b) : ∀ s ∈ ks, s.g ≠ some b := fun s hs => by
  obtain ⟨j, hj⟩ := List.getElem?_of_mem (h.sub.subset hs)
  rw [List.getElem?_take] at hj
  split at hj
  · exact rows_ne hap hi hj (by omega) hb
  · cases hj
/-- a cell of the row at hand is written -/
theorem T1.mark (h : T1 t ts cs W0 B pb iv rs ns i W iv' mu ks) (hap : ns.Pairwise fun a b => a.g = none ∨ a.g ≠ b.g) {r : Rw} (hi : ns[i]? = some r) {b : Nat} (hb : r.g = some b) (ht : t ≠ TBk) (hts : t ≠ ts) (k : Nat) (v : Value) :
    T1 t ts cs W0 B pb iv rs ns i (W.setCell ⟨b, k, none⟩ v) iv' mu ks := by
  have hm := List.mem_of_getElem? hi
  refine ⟨fun s hs => (h.ra s hs).set _ _ _, fun j s hj => (h.km j s hj).kept fun c hc => Below.heap_setCell _ _ _ _ (fun e => ?_), h.sub, (Below.heap_setCell _ _ _ _ (fun e => ?_)).trans h.bk, ownsRow_setCell_other h.oi (fun e => ?_) v, h.on.set _ _ (fun _ => .inr (.inr ⟨r, hm, hb⟩)), h.at_⟩
  · have hcb : c = b := e
    subst hcb
    exact h.apart hap hi hb s (List.mem_of_getElem? hj) hc
  · exact (h.ra r hm).ne h.bk ht (hb.trans (congrArg some (show b = pb from e.symm)))
  · obtain ⟨cur, hc⟩ := row_type h.oi b e
    exact (h.ra r hm).ne hc hts hb
/-- the book's count is written -/
theorem T1.count (h : T1 t ts cs W0 B pb iv rs ns i W iv' mu ks) (hcs : ∀ v m m', (cs v m).setIfInBounds 1 (.int .i64 ((m' : Nat) : Int)) = cs v m') (ht : t ≠ TBk) (hts : ts ≠ TBk) (mu' : Nat) :
    T1 t ts cs W0 B pb iv rs ns i (W.setCell ⟨pb, 1, none⟩ (.int .i64 (mu' : Int))) iv' mu' ks := by
  refine ⟨fun s hs => (h.ra s hs).set _ _ _, fun j s hj => (h.km j s hj).kept fun c hc => Below.heap_setCell _ _ _ _ (fun e => ?_), h.sub, ?_, ownsRow_setCell_other h.oi (fun e => ?_) _, h.on.set _ _ (fun _ => .inl rfl), h.at_⟩
  · have hcb : c = pb := e
    subst hcb
    exact (h.ra s ((h.sub.trans (List.take_sublist _ _)).subset (List.mem_of_getElem? hj))).ne h.bk ht hc
  · rw [Go.heap_setCell_same W pb 1 _ TBk _ h.bk, hcs]
  · obtain ⟨cur, hc⟩ := row_type h.oi pb e
    exact hts (types_apart hc h.bk)
/-- the row at hand is full of its mark, and is put into the book -/
theorem T1.take (h : T1 t ts cs W0 B pb iv rs ns i W iv' mu ks) (pos : Nat) (hcs : ∀ v v' m, (cs v m).setIfInBounds pos v' = cs v' m) (ht : t ≠ TBk) (hts : ts ≠ TBk) (htt : t ≠ ts) {r : Rw} (hi : ns[i]? = some r) (hmk : MkAt W r r.n (mkN (rs.length + ks.length)))
    (hg : W.grownBy W' iv'.ownBlock) (ho : W'.ownsRow B ts 1 iv2 (rs.length + ks.length + 1) ((rs ++ ks).map Rw.val ++ [r.val])) (hv : iv2.ownBlock = iv'.ownBlock ∨ iv2.ownBlock = some W.heap.size) :
    T1 t ts cs W0 B pb iv rs ns (i + 1) (W'.setCell ⟨pb, pos, none⟩ iv2) iv2 mu (ks ++ [r]) := by
  have hB : W'.heap[pb]? = some (.cells (cs iv' mu) TBk (0, 0)) := (hg.block _ (heap_lt h.bk) (fun e => by
    obtain ⟨cur, hc⟩ := row_type h.oi pb e.symm
    exact hts (types_apart hc h.bk))).trans h.bk
  have keep : ∀ s ∈ ns, ∀ b, s.g = some b → (W'.setCell ⟨pb, pos, none⟩ iv2).heap[b]? = W.heap[b]? := fun s hs b hb =>
    (Below.heap_setCell _ _ _ _ (fun e => (h.ra s hs).ne h.bk ht (hb.trans (congrArg some (show b = pb from e))))).trans (hg.block _ ((h.ra s hs).lt hb) (fun e => by
      obtain ⟨cur, hc⟩ := row_type h.oi b e.symm
      exact (h.ra s hs).ne hc htt hb))
  have hms : ∀ s ∈ ks, s ∈ ns := fun s hs => (h.sub.trans (List.take_sublist _ _)).subset hs
  have hrow : ∀ k, iv'.ownBlock = some k → k < W0.heap.size → BP pb iv ns k := fun k hk hlt => by
    rcases h.at_ with h0 | ⟨k', h1, h2⟩
    · exact .inr (.inl (hk.symm.trans h0))
    · rw [hk] at h1; injection h1 with h1; omega
  refine ⟨fun s hs => (h.ra s hs).kept (keep s hs), fun j s hj => ?_, ?_, ?_, ?_, (h.on.grown hg hrow).set _ _ (fun _ => .inl rfl), ?_⟩
  · rcases Nat.lt_or_ge j ks.length with hlt | hge
    · rw [List.getElem?_append_left hlt] at hj
      exact (h.km j s hj).kept (keep s (hms s (List.mem_of_getElem? hj)))
    · rw [List.getElem?_append_right hge] at hj
      obtain ⟨hj0, rfl⟩ : j - ks.length = 0 ∧ r = s := by
        rcases Nat.eq_zero_or_pos (j - ks.length) with h0 | h0
        · rw [h0] at hj; exact ⟨h0, by simpa using hj⟩
        · rw [List.getElem?_eq_none (by simp; omega)] at hj; cases hj
      obtain rfl : j = ks.length := by omega
      exact hmk.kept (keep r (List.mem_of_getElem? hi))
  · obtain ⟨hl, rfl⟩ := List.getElem?_eq_some_iff.1 hi
    rw [← List.take_append_getElem hl]
    exact h.sub.append (List.Sublist.refl _)
  · rw [Go.heap_setCell_same W' pb pos _ TBk _ hB, hcs]
  · refine ownsRow_setCell_other ?_ (fun e => ?_) _
    · simpa [Nat.add_assoc] using ho
    · obtain ⟨cur, hc⟩ := row_type ho pb e
      exact hts (types_apart hc hB)
  · rcases hv with hv | hv
    · rcases h.at_ with h0 | ⟨k', h1, h2⟩
      · exact .inl (hv.trans h0)
      · exact .inr ⟨k', hv.trans h1, h2⟩
    · exact .inr ⟨_, hv, h.on.size⟩
end
end Go.Proofs.YtpipcpjkfgdpcaaDoor
