/- Rows of numbers that a law writes full of marks, and the books that hold them. No condition. -/
import Derived.Test.YtkdejffhdhcocaaGreatTeMC
import Derived.OneCell
namespace Go.Proofs.YtkdejffhdhcocaaGreat
open Go.RowKit

variable {kv : Value}

/-- what has turned lies in these blocks, or is new -/
structure OnlyP (p : Nat → Prop) (w w' : World) : Prop where
  os : w'.os = w.os
  tape : w'.tape = w.tape
  output : w'.output = w.output
  size : w.heap.size ≤ w'.heap.size
  block : ∀ k, k < w.heap.size → ¬ p k → w'.heap[k]? = w.heap[k]?
theorem OnlyP.refl (p : Nat → Prop) (w : World) : OnlyP p w w := ⟨rfl, rfl, rfl, Nat.le_refl _, fun _ _ _ => rfl⟩
theorem OnlyP.trans {p : Nat → Prop} {a b c : World} (h : OnlyP p a b) (k : OnlyP p b c) : OnlyP p a c :=
  ⟨k.os.trans h.os, k.tape.trans h.tape, k.output.trans h.output, Nat.le_trans h.size k.size, fun j hj hp => (k.block j (Nat.lt_of_lt_of_le hj h.size) hp).trans (h.block j hj hp)⟩
theorem OnlyP.below {p : Nat → Prop} {a b c : World} (h : OnlyP p a b) (k : Below b.heap.size b c) : OnlyP p a c :=
  ⟨k.os.trans h.os, k.tape.trans h.tape, k.output.trans h.output, Nat.le_trans h.size k.size, fun j hj hp => (k.block j (Nat.lt_of_lt_of_le hj h.size)).trans (h.block j hj hp)⟩
theorem OnlyP.drew {p : Nat → Prop} {a b : World} (h : OnlyP p a b) : OnlyP p a b.drew := ⟨h.os, h.tape, h.output, h.size, h.block⟩
theorem OnlyP.alloc {p : Nat → Prop} {a b : World} (h : OnlyP p a b) (o : Obj) : OnlyP p a (b.alloc o) := h.below ((Below.refl _ _).alloc (Nat.le_refl _) _)
theorem OnlyP.grown {p : Nat → Prop} {a b c : World} {row : Option Nat} (h : OnlyP p a b) (hg : b.grownBy c row) (hr : ∀ k, row = some k → k < a.heap.size → p k) : OnlyP p a c :=
  ⟨hg.os.trans h.os, hg.tape.trans h.tape, hg.output.trans h.output, Nat.le_trans h.size hg.size, fun j hj hp => (hg.block j (Nat.lt_of_lt_of_le hj h.size) fun e => hp (hr j e.symm hj)).trans (h.block j hj hp)⟩
theorem OnlyP.set {p : Nat → Prop} {a b : World} (h : OnlyP p a b) (x : Addr) (v : Value) (hr : x.block < a.heap.size → p x.block) : OnlyP p a (b.setCell x v) := by
  refine ⟨h.os, h.tape, h.output, by rw [show (b.setCell x v).heap.size = b.heap.size by simp [World.setCell]]; exact h.size, fun j hj hp => ?_⟩
  by_cases hj2 : j = x.block
  · subst hj2; exact absurd (hr hj) hp
  · exact (Below.heap_setCell _ _ _ _ hj2).trans (h.block j hj hp)
theorem OnlyP.base {p : Nat → Prop} {a b : World} {B : Nat} (h : OnlyP p a b) (hB : B ≤ a.heap.size) (hr : ∀ k, p k → B ≤ k) : Below B a b :=
  ⟨h.os, h.tape, h.output, h.size, fun j hj => h.block j (by omega) fun hp => by have := hr j hp; omega⟩
theorem OnlyP.mono {p q : Nat → Prop} {a b : World} (h : OnlyP p a b) (hr : ∀ k, k < a.heap.size → p k → q k) : OnlyP q a b :=
  ⟨h.os, h.tape, h.output, h.size, fun j hj hp => h.block j hj fun hq => hp (hr j hj hq)⟩
theorem row_type {w : World} {B : Nat} {e : TypeId} {v : Value} {n : Nat} {xs : List Value} (h : w.ownsRow B e 1 v n xs) : ∀ k, v.ownBlock = some k → ∃ cur, w.heap[k]? = some (.cells cur e (0, 0)) := by
  intro k hk
  rcases h.2 with ⟨rfl, _⟩ | ⟨g, cap, cur, rfl, _, hb, _⟩
  · simp [Value.ownBlock] at hk
  · simp only [Value.ownBlock, Option.some.injEq] at hk
    subst hk
    exact ⟨cur, hb⟩
theorem heap3 {w : World} {g : Nat} {a b c d : Value} {t : TypeId} (h : w.heap[g]? = some (.cells #[a, b, c, d] t (0, 0))) :
    w.cell? ⟨g, 0, none⟩ = some a ∧ w.cell? ⟨g, 1, none⟩ = some b ∧ w.cell? ⟨g, 2, none⟩ = some c ∧ ∀ j, w.frozen? ⟨g, j, none⟩ = false := by
  refine ⟨?_, ?_, ?_, fun j => ?_⟩
  · simp [World.cell?, h]
  · simp [World.cell?, h]
  · simp [World.cell?, h]
  · simp [World.frozen?, h]
abbrev TBk : TypeId := 52
abbrev TSI : TypeId := 33
abbrev TSA : TypeId := 34
abbrev TAr : TypeId := 36

/-- a row of numbers: its block (none: nil), length, capacity -/
structure Bw where
  g : Option Nat
  n : Nat
  c : Nat
  p : Option Addr
/-- where it begins; p: of a row without room -/
def Bw.adr (r : Bw) : Option Addr := match r.g with
  | some b => some ⟨b, 0, none⟩
  | none => r.p
theorem Bw.adr_some {r : Bw} {b : Nat} (h : r.g = some b) : r.adr = some ⟨b, 0, none⟩ := by unfold Bw.adr; rw [h]
def Bw.val (r : Bw) : Value := .slice r.adr r.n r.c
def roomOf (n c : Nat) : Nat := if n + 70000 < c then n + 70000 else c
/-- the row, grown -/
def Bw.up (r : Bw) : Bw := ⟨r.g, roomOf r.n r.c, r.c, r.p⟩
theorem roomOf_le {n c : Nat} (h : n ≤ c) : n ≤ roomOf n c ∧ roomOf n c ≤ c := by
  unfold roomOf
  split <;> omega
structure BwAt (t : TypeId) (w : World) (B : Nat) (r : Bw) : Prop where
  le : r.n ≤ r.c
  max : r.c ≤ maxLen
  nil : r.g = none → r.c = 0
  at_ : ∀ b, r.g = some b → B ≤ b ∧ ∃ cur, w.heap[b]? = some (.cells cur t (0, 0)) ∧ r.c ≤ cur.size
section
variable {t : TypeId} {w w' : World} {B : Nat} {r : Bw}
theorem BwAt.lt (h : BwAt t w B r) {b : Nat} (hb : r.g = some b) : b < w.heap.size := by
  obtain ⟨_, cur, hc, _⟩ := h.at_ b hb
  exact heap_lt hc
theorem BwAt.kept (h : BwAt t w B r) (hk : ∀ b, r.g = some b → w'.heap[b]? = w.heap[b]?) : BwAt t w' B r :=
  ⟨h.le, h.max, h.nil, fun b hb => by obtain ⟨h1, cur, h2, h3⟩ := h.at_ b hb; exact ⟨h1, cur, (hk b hb).trans h2, h3⟩⟩
theorem BwAt.on (h : BwAt t w B r) (hb : Below w.heap.size w w') : BwAt t w' B r := h.kept fun b hg => hb.block b (h.lt hg)
theorem BwAt.mono {B' : Nat} (h : BwAt t w B r) (hB : B' ≤ B) : BwAt t w B' r := ⟨h.le, h.max, h.nil, fun b hb => ⟨Nat.le_trans hB (h.at_ b hb).1, (h.at_ b hb).2⟩⟩
theorem BwAt.up (h : BwAt t w B r) : BwAt t w B r.up := ⟨(roomOf_le h.le).2, h.max, h.nil, h.at_⟩
theorem BwAt.some (h : BwAt t w B r) {k : Nat} (hk : k < r.c) : ∃ b, r.g = some b := by
  cases hg : r.g with
  | none => have := h.nil hg; omega
  | some b => exact ⟨b, rfl⟩
theorem BwAt.set (h : BwAt t w B r) (x i : Nat) (v : Value) : BwAt t (w.setCell ⟨x, i, none⟩ v) B r := by
  refine ⟨h.le, h.max, h.nil, fun b hb => ?_⟩
  obtain ⟨h1, cur, h2, h3⟩ := h.at_ b hb
  by_cases hx : b = x
  · subst hx
    exact ⟨h1, _, Go.heap_setCell_same w b i cur t v h2, by simpa using h3⟩
  · exact ⟨h1, cur, (Below.heap_setCell _ _ _ _ hx).trans h2, h3⟩
theorem BwAt.free (h : BwAt t w B r) {b k : Nat} (hb : r.g = Option.some b) (hk : k < r.c) : ∃ old, w.cell? ⟨b, k, none⟩ = Option.some old ∧ w.frozen? ⟨b, k, none⟩ = false := by
  obtain ⟨_, cur, h2, h3⟩ := h.at_ b hb
  have hlt : k < cur.size := by omega
  exact ⟨cur[k], by simp [World.cell?, h2, hlt], by simp [World.frozen?, h2]⟩
/-- what is known of a block of another type, beside a row -/
theorem BwAt.ne (h : BwAt t w B r) {k : Nat} {cs : Array Value} {t' : TypeId} (hk : w.heap[k]? = Option.some (.cells cs t' (0, 0))) (ht : t ≠ t') : r.g ≠ Option.some k := fun e => by
  obtain ⟨_, cur, h2, _⟩ := h.at_ k e
  exact ht (types_apart h2 hk)
end

/-- the first k cells of a row hold m -/
def MkAt (w : World) (r : Bw) (k : Nat) (m : Int) : Prop := ∀ b, r.g = some b → ∀ q, q < k → w.cell? ⟨b, q, none⟩ = some (.int .i64 m)
theorem MkAt.zero (w : World) (r : Bw) (m : Int) : MkAt w r 0 m := fun _ _ q h => absurd h (Nat.not_lt_zero q)
theorem MkAt.kept {w w' : World} {r : Bw} {k : Nat} {m : Int} (h : MkAt w r k m) (hk : ∀ b, r.g = some b → w'.heap[b]? = w.heap[b]?) : MkAt w' r k m := fun b hb q hq =>
  (World.cell?_of_block (hk b hb)).trans (h b hb q hq)
theorem MkAt.less {w : World} {r : Bw} {k k' : Nat} {m : Int} (h : MkAt w r k m) (hk : k' ≤ k) : MkAt w r k' m := fun b hb q hq => h b hb q (Nat.lt_of_lt_of_le hq hk)
theorem MkAt.up {w : World} {r : Bw} {k : Nat} {m : Int} (h : MkAt w r k m) : MkAt w r.up k m := h
theorem MkAt.set {t : TypeId} {w : World} {B : Nat} {r : Bw} {b k : Nat} {m : Int} (hr : BwAt t w B r) (h : MkAt w r k m) (hb : r.g = some b) (hk : k < r.c) : MkAt (w.setCell ⟨b, k, none⟩ (.int .i64 m)) r (k + 1) m := fun b' hb' q hq => by
  obtain rfl : b = b' := Option.some.inj (hb.symm.trans hb')
  obtain ⟨_, cur, h2, h3⟩ := hr.at_ b hb
  have h4 := Go.heap_setCell_same w b k cur t (.int .i64 m) h2
  by_cases hqk : q = k
  · subst hqk
    have : q < cur.size := by omega
    simp [World.cell?, h4, this]
  · have h5 := h b hb q (by omega)
    simp only [World.cell?, h2] at h5
    simp only [World.cell?, h4]
    rw [Array.getElem?_setIfInBounds_ne (Ne.symm hqk)]
    exact h5

def mkN (j : Nat) : Int := -1 - (j : Int)
/-- the blocks that a book writes: itself, its list, the rows that it takes -/
def BP (pb : Nat) (v : Value) (ns : List Bw) (k : Nat) : Prop := k = pb ∨ some k = v.ownBlock ∨ ∃ r ∈ ns, r.g = some k

theorem OnlyP.at {p : Nat → Prop} {w w' : World} (h : OnlyP p w w') {k : Nat} {o : Obj} (hk : w.heap[k]? = some o) (hp : ¬ p k) : w'.heap[k]? = some o := (h.block k (heap_lt hk) hp).trans hk

/-- some rows of ns are taken, those of the first i: each is marked -/
structure T1 (t ts : TypeId) (cs : Value → Nat → Array Value) (W0 : World) (B pb : Nat) (iv : Value) (rs ns : List Bw) (i : Nat) (W : World) (iv' : Value) (mu : Nat) (ks : List Bw) : Prop where
  ra : ∀ r ∈ ns, BwAt t W B r
  km : ∀ j r, ks[j]? = some r → MkAt W r r.n (mkN (rs.length + j))
  sub : ks.Sublist (ns.take i)
  bk : W.heap[pb]? = some (.cells (cs iv' mu) TBk (0, 0))
  oi : W.ownsRow B ts 1 iv' (rs.length + ks.length) ((rs ++ ks).map Bw.val)
  on : OnlyP (BP pb iv ns) W0 W
  at_ : iv'.ownBlock = iv.ownBlock ∨ ∃ k, iv'.ownBlock = some k ∧ W0.heap.size ≤ k
section
variable {t ts : TypeId} {cs : Value → Nat → Array Value} {W0 W W' : World} {B pb : Nat} {iv iv' iv2 : Value} {rs ns ks : List Bw} {i mu : Nat}

theorem T1.start (hr : ∀ r ∈ ns, BwAt t W0 B r) (hb : W0.heap[pb]? = some (.cells (cs iv mu) TBk (0, 0))) (ho : W0.ownsRow B ts 1 iv rs.length (rs.map Bw.val)) : T1 t ts cs W0 B pb iv rs ns 0 W0 iv mu [] :=
  ⟨hr, fun j r h => by simp at h, by simp, hb, by simpa using ho, OnlyP.refl _ _, .inl rfl⟩
theorem T1.below (h : T1 t ts cs W0 B pb iv rs ns i W iv' mu ks) (hb : Below W.heap.size W W') : T1 t ts cs W0 B pb iv rs ns i W' iv' mu ks :=
  ⟨fun r hr => (h.ra r hr).on hb, fun j r hj => (h.km j r hj).kept fun b hg => hb.block b ((h.ra r ((h.sub.trans (List.take_sublist _ _)).subset (List.mem_of_getElem? hj))).lt hg), h.sub, (hb.block _ (heap_lt h.bk)).trans h.bk,
    World.ownsRow.kept h.oi (grown_below hb none) (by cases iv'.ownBlock <;> simp), h.on.below hb, h.at_⟩
theorem T1.skip (h : T1 t ts cs W0 B pb iv rs ns i W iv' mu ks) : T1 t ts cs W0 B pb iv rs ns (i + 1) W iv' mu ks :=
  ⟨h.ra, h.km, h.sub.trans (List.take_sublist_take_left (Nat.le_succ i)), h.bk, h.oi, h.on, h.at_⟩
/-- two rows at two places lie in two blocks -/
theorem rows_ne (hap : ns.Pairwise fun a b => a.g = none ∨ a.g ≠ b.g) {i j : Nat} {r s : Bw} (hi : ns[i]? = some r) (hj : ns[j]? = some s) (hne : i ≠ j) {b : Nat} (hr : r.g = some b) : s.g ≠ some b := by
  obtain ⟨h1, e1⟩ := List.getElem?_eq_some_iff.1 hi
  obtain ⟨h2, e2⟩ := List.getElem?_eq_some_iff.1 hj
  rcases Nat.lt_or_gt_of_ne hne with h | h
  · have := List.pairwise_iff_getElem.1 hap i j h1 h2 h
    rw [e1, e2] at this
    rcases this with h0 | h0
    · rw [h0] at hr; cases hr
    · exact fun e => h0 (hr.trans e.symm)
  · have := List.pairwise_iff_getElem.1 hap j i h2 h1 h
    rw [e1, e2] at this
    rcases this with h0 | h0
    · exact fun e => by rw [h0] at e; cases e
    · exact fun e => h0 (e.trans hr.symm)
/-- a row that is not yet taken lies apart from those that are -/
theorem T1.apart (h : T1 t ts cs W0 B pb iv rs ns i W iv' mu ks) (hap : ns.Pairwise fun a b => a.g = none ∨ a.g ≠ b.g) {r : Bw} (hi : ns[i]? = some r) {b : Nat} (hb : r.g = some b) : ∀ s ∈ ks, s.g ≠ some b := fun s hs => by
  obtain ⟨j, hj⟩ := List.getElem?_of_mem (h.sub.subset hs)
  rw [List.getElem?_take] at hj
  split at hj
  · exact rows_ne hap hi hj (by omega) hb
  · cases hj
/-- a cell of the row at hand is written -/
theorem T1.mark (h : T1 t ts cs W0 B pb iv rs ns i W iv' mu ks) (hap : ns.Pairwise fun a b => a.g = none ∨ a.g ≠ b.g) {r : Bw} (hi : ns[i]? = some r) {b : Nat} (hb : r.g = some b) (ht : t ≠ TBk) (hts : t ≠ ts) (k : Nat) (v : Value) :
    T1 t ts cs W0 B pb iv rs ns i (W.setCell ⟨b, k, none⟩ v) iv' mu ks := by
  have hm := List.mem_of_getElem? hi
  refine ⟨fun s hs => (h.ra s hs).set _ _ _, fun j s hj => (h.km j s hj).kept fun c hc => Below.heap_setCell _ _ _ _ (fun e => ?_), h.sub, (Below.heap_setCell _ _ _ _ (fun e => ?_)).trans h.bk, ownsRow_setCell_other h.oi (fun e => ?_) v, h.on.set _ _ (fun _ => .inr (.inr ⟨r, hm, hb⟩)), h.at_⟩
  · have hcb : c = b := e
    subst hcb
    exact h.apart hap hi hb s (List.mem_of_getElem? hj) hc
  · exact (h.ra r hm).ne h.bk ht (hb.trans (congrArg some (show b = pb from e.symm)))
  · obtain ⟨cur, hc⟩ := row_type h.oi b e
    exact (h.ra r hm).ne hc hts hb
/-- the book's count is written -/
theorem T1.count (h : T1 t ts cs W0 B pb iv rs ns i W iv' mu ks) (hcs : ∀ v m m', (cs v m).setIfInBounds 1 (.int .i64 ((m' : Nat) : Int)) = cs v m') (ht : t ≠ TBk) (hts : ts ≠ TBk) (mu' : Nat) :
    T1 t ts cs W0 B pb iv rs ns i (W.setCell ⟨pb, 1, none⟩ (.int .i64 (mu' : Int))) iv' mu' ks := by
  refine ⟨fun s hs => (h.ra s hs).set _ _ _, fun j s hj => (h.km j s hj).kept fun c hc => Below.heap_setCell _ _ _ _ (fun e => ?_), h.sub, ?_, ownsRow_setCell_other h.oi (fun e => ?_) _, h.on.set _ _ (fun _ => .inl rfl), h.at_⟩
  · have hcb : c = pb := e
    subst hcb
    exact (h.ra s ((h.sub.trans (List.take_sublist _ _)).subset (List.mem_of_getElem? hj))).ne h.bk ht hc
  · rw [Go.heap_setCell_same W pb 1 _ TBk _ h.bk, hcs]
  · obtain ⟨cur, hc⟩ := row_type h.oi pb e
    exact hts (types_apart hc h.bk)
/-- the row at hand is full of its mark, and is put into the book -/
theorem T1.take (h : T1 t ts cs W0 B pb iv rs ns i W iv' mu ks) (pos : Nat) (hcs : ∀ v v' m, (cs v m).setIfInBounds pos v' = cs v' m) (ht : t ≠ TBk) (hts : ts ≠ TBk) (htt : t ≠ ts) {r : Bw} (hi : ns[i]? = some r) (hmk : MkAt W r r.n (mkN (rs.length + ks.length)))
    (hg : W.grownBy W' iv'.ownBlock) (ho : W'.ownsRow B ts 1 iv2 (rs.length + ks.length + 1) ((rs ++ ks).map Bw.val ++ [r.val])) (hv : iv2.ownBlock = iv'.ownBlock ∨ iv2.ownBlock = some W.heap.size) :
    T1 t ts cs W0 B pb iv rs ns (i + 1) (W'.setCell ⟨pb, pos, none⟩ iv2) iv2 mu (ks ++ [r]) := by
  have hB : W'.heap[pb]? = some (.cells (cs iv' mu) TBk (0, 0)) := (hg.block _ (heap_lt h.bk) (fun e => by
    obtain ⟨cur, hc⟩ := row_type h.oi pb e.symm
    exact hts (types_apart hc h.bk))).trans h.bk
  have keep : ∀ s ∈ ns, ∀ b, s.g = some b → (W'.setCell ⟨pb, pos, none⟩ iv2).heap[b]? = W.heap[b]? := fun s hs b hb =>
    (Below.heap_setCell _ _ _ _ (fun e => (h.ra s hs).ne h.bk ht (hb.trans (congrArg some (show b = pb from e))))).trans (hg.block _ ((h.ra s hs).lt hb) (fun e => by
      obtain ⟨cur, hc⟩ := row_type h.oi b e.symm
      exact (h.ra s hs).ne hc htt hb))
  have hms : ∀ s ∈ ks, s ∈ ns := fun s hs => (h.sub.trans (List.take_sublist _ _)).subset hs
  have hrow : ∀ k, iv'.ownBlock = some k → k < W0.heap.size → BP pb iv ns k := fun k hk hlt => by
    rcases h.at_ with h0 | ⟨k', h1, h2⟩
    · exact .inr (.inl (hk.symm.trans h0))
    · rw [hk] at h1; injection h1 with h1; omega
  refine ⟨fun s hs => (h.ra s hs).kept (keep s hs), fun j s hj => ?_, ?_, ?_, ?_, (h.on.grown hg hrow).set _ _ (fun _ => .inl rfl), ?_⟩
  · rcases Nat.lt_or_ge j ks.length with hlt | hge
    · rw [List.getElem?_append_left hlt] at hj
      exact (h.km j s hj).kept (keep s (hms s (List.mem_of_getElem? hj)))
    · rw [List.getElem?_append_right hge] at hj
      obtain ⟨hj0, rfl⟩ : j - ks.length = 0 ∧ r = s := by
        rcases Nat.eq_zero_or_pos (j - ks.length) with h0 | h0
        · rw [h0] at hj; exact ⟨h0, by simpa using hj⟩
        · rw [List.getElem?_eq_none (by simp; omega)] at hj; cases hj
      obtain rfl : j = ks.length := by omega
      exact hmk.kept (keep r (List.mem_of_getElem? hi))
  · obtain ⟨hl, rfl⟩ := List.getElem?_eq_some_iff.1 hi
    rw [← List.take_append_getElem hl]
    exact h.sub.append (List.Sublist.refl _)
  · rw [Go.heap_setCell_same W' pb pos _ TBk _ hB, hcs]
  · refine ownsRow_setCell_other ?_ (fun e => ?_) _
    · simpa [Nat.add_assoc] using ho
    · obtain ⟨cur, hc⟩ := row_type ho pb e
      exact hts (types_apart hc hB)
  · rcases hv with hv | hv
    · rcases h.at_ with h0 | ⟨k', h1, h2⟩
      · exact .inl (hv.trans h0)
      · exact .inr ⟨k', hv.trans h1, h2⟩
    · exact .inr ⟨_, hv, h.on.size⟩
end
end Go.Proofs.YtkdejffhdhcocaaGreat
