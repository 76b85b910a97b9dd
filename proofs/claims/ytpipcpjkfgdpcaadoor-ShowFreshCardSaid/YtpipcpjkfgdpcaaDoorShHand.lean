/- Memory into which arrays are handed in: a row of one's own, all of its room written. No condition. · abacuslaw2: mark, (*Hand).Ints, (*Hand).IntsKept. Condition: at most 2^40 numbers. · abacuslaw4: (*Hand).Array, (*Hand).Kept. Condition: at most 2^40 lengths and numbers. · abacuslaw4: (*Hand).Kept. Condition: at most 2^40 lengths and numbers. -/
import Derived.Test.YtpipcpjkfgdpcaaDoorShDocText
import Derived.Deep.AppendLies
import Derived.Deep.Upon
import Derived.Outline
import Derived.Deep.RegionWith
namespace Go.Proofs.YtpipcpjkfgdpcaaDoor
open Go.RowKit

/-- what has turned lies in these blocks, or is new -/
structure Only (p : Nat → Prop) (w w' : World) : Prop where
  os : w'.os = w.os
  tape : w'.tape = w.tape
  output : w'.output = w.output
  size : w.heap.size ≤ w'.heap.size
  block : ∀ k, k < w.heap.size → ¬ p k → w'.heap[k]? = w.heap[k]?
theorem Only.refl (p : Nat → Prop) (w : World) : Only p w w := ⟨rfl, rfl, rfl, Nat.le_refl _, fun _ _ _ => rfl⟩
theorem Only.trans {p : Nat → Prop} {a b c : World} (h : Only p a b) (k : Only p b c) : Only p a c :=
  ⟨k.os.trans h.os, k.tape.trans h.tape, k.output.trans h.output, Nat.le_trans h.size k.size, fun j hj hp => (k.block j (Nat.lt_of_lt_of_le hj h.size) hp).trans (h.block j hj hp)⟩
theorem Only.below {p : Nat → Prop} {a b c : World} (h : Only p a b) (k : Below b.heap.size b c) : Only p a c :=
  ⟨k.os.trans h.os, k.tape.trans h.tape, k.output.trans h.output, Nat.le_trans h.size k.size, fun j hj hp => (k.block j (Nat.lt_of_lt_of_le hj h.size)).trans (h.block j hj hp)⟩
theorem Only.drew {p : Nat → Prop} {a b : World} (h : Only p a b) : Only p a b.drew := ⟨h.os, h.tape, h.output, h.size, h.block⟩
theorem Only.alloc {p : Nat → Prop} {a b : World} (h : Only p a b) (o : Obj) : Only p a (b.alloc o) := h.below ((Below.refl _ _).alloc (Nat.le_refl _) _)
theorem Only.grown {p : Nat → Prop} {a b c : World} {row : Option Nat} (h : Only p a b) (hg : b.grownBy c row) (hr : ∀ k, row = some k → k < a.heap.size → p k) : Only p a c :=
  ⟨hg.os.trans h.os, hg.tape.trans h.tape, hg.output.trans h.output, Nat.le_trans h.size hg.size, fun j hj hp => (hg.block j (Nat.lt_of_lt_of_le hj h.size) fun e => hp (hr j e.symm hj)).trans (h.block j hj hp)⟩
theorem Only.set {p : Nat → Prop} {a b : World} (h : Only p a b) (x : Addr) (v : Value) (hr : x.block < a.heap.size → p x.block) : Only p a (b.setCell x v) := by
  refine ⟨h.os, h.tape, h.output, by rw [show (b.setCell x v).heap.size = b.heap.size by simp [World.setCell]]; exact h.size, fun j hj hp => ?_⟩
  by_cases hj2 : j = x.block
  · subst hj2; exact absurd (hr hj) hp
  · exact (Below.heap_setCell _ _ _ _ hj2).trans (h.block j hj hp)
theorem Only.base {p : Nat → Prop} {a b : World} {B : Nat} (h : Only p a b) (hB : B ≤ a.heap.size) (hr : ∀ k, p k → B ≤ k) : Below B a b :=
  ⟨h.os, h.tape, h.output, h.size, fun j hj => h.block j (by omega) fun hp => by have := hr j hp; omega⟩
theorem Only.mono {p q : Nat → Prop} {a b : World} (h : Only p a b) (hr : ∀ k, k < a.heap.size → p k → q k) : Only q a b :=
  ⟨h.os, h.tape, h.output, h.size, fun j hj hp => h.block j hj fun hq => hp (hr j hj hq)⟩

/-- nil, or a slice over all of its block -/
def FullRow (w : World) (B : Nat) (e : TypeId) (v : Value) : Prop := v = .slice none 0 0 ∨ ∃ k cur, v = .slice (some ⟨k, 0, none⟩) cur.size cur.size ∧ B ≤ k ∧ w.heap[k]? = some (.cells cur e (0, 0)) ∧ cur.size ≤ maxLen
theorem FullRow.nil (w : World) (B : Nat) (e : TypeId) : FullRow w B e (.slice none 0 0) := .inl rfl
theorem FullRow.kept {w w' : World} {B : Nat} {e : TypeId} {v : Value} (h : FullRow w B e v) (hk : ∀ k, v.ownBlock = some k → w'.heap[k]? = w.heap[k]?) : FullRow w' B e v := by
  rcases h with rfl | ⟨k, cur, rfl, h1, h2, h3⟩
  · exact .inl rfl
  · exact .inr ⟨k, cur, rfl, h1, (hk k rfl).trans h2, h3⟩
theorem FullRow.ty {w : World} {B : Nat} {e : TypeId} {v : Value} (h : FullRow w B e v) : ∀ k, v.ownBlock = some k → B ≤ k ∧ ∃ cur, w.heap[k]? = some (.cells cur e (0, 0)) := by
  rcases h with rfl | ⟨k, cur, rfl, h1, h2, h3⟩
  · intro k hk; cases hk
  · intro j hj
    simp only [Value.ownBlock, Option.some.injEq] at hj
    subst hj
    exact ⟨h1, cur, h2⟩
theorem FullRow.on {w w' : World} {B : Nat} {e : TypeId} {v : Value} (h : FullRow w B e v) (hb : Below w.heap.size w w') : FullRow w' B e v :=
  h.kept fun k hk => by obtain ⟨_, cur, hc⟩ := h.ty k hk; exact hb.block k (Array.getElem?_eq_some_iff.1 hc).1
/-- the same row, nothing of it -/
theorem FullRow.none_ {w : World} {B : Nat} {e : TypeId} {v : Value} (h : FullRow w B e v) : ∃ A c, v = .slice A c c ∧ c ≤ maxLen ∧ w.ownsRow B e 1 (.slice A 0 c) 0 [] := by
  rcases h with rfl | ⟨k, cur, rfl, h1, h2, h3⟩
  · exact ⟨none, 0, rfl, Nat.zero_le _, World.ownsRow_nil _ _ _ _⟩
  · exact ⟨_, _, rfl, h3, by simp, .inr ⟨k, cur.size, cur, rfl, h1, h2, Nat.zero_le _, h3, by simp, by simp⟩⟩

/-- the first i places of a row hold l, then marks -/
structure Marks (w : World) (B : Nat) (e : TypeId) (k c : Nat) (l : List Int) (mk : Nat → Int) (i : Nat) : Prop where
  base : B ≤ k
  fit : l.length ≤ c
  cap : c ≤ maxLen
  row : ∃ cur, w.heap[k]? = some (.cells cur e (0, 0)) ∧ cur.size = c ∧ ∀ j, j < i → cur[j]? = some (.int .i64 ((l[j]?).getD (mk j)))
theorem Marks.on {w w' : World} {B : Nat} {e : TypeId} {k c i : Nat} {l : List Int} {mk : Nat → Int} (h : Marks w B e k c l mk i) (hk : w'.heap[k]? = w.heap[k]?) : Marks w' B e k c l mk i := by
  obtain ⟨cur, h1, h2, h3⟩ := h.row
  exact ⟨h.base, h.fit, h.cap, cur, hk.trans h1, h2, h3⟩
theorem Marks.lt {w : World} {B : Nat} {e : TypeId} {k c i : Nat} {l : List Int} {mk : Nat → Int} (h : Marks w B e k c l mk i) : k < w.heap.size := by
  obtain ⟨cur, h1, _⟩ := h.row
  exact (Array.getElem?_eq_some_iff.1 h1).1
theorem Marks.free {w : World} {B : Nat} {e : TypeId} {k c i j : Nat} {l : List Int} {mk : Nat → Int} (h : Marks w B e k c l mk i) (hj : j < c) : ∃ old, w.cell? ⟨k, j, none⟩ = some old ∧ w.frozen? ⟨k, j, none⟩ = false := by
  obtain ⟨cur, h1, h2, _⟩ := h.row
  exact ⟨cur[j], by simp [World.cell?, h1, h2, hj], by simp [World.frozen?, h1]⟩
theorem Marks.set {w : World} {B : Nat} {e : TypeId} {k c i : Nat} {l : List Int} {mk : Nat → Int} (h : Marks w B e k c l mk i) (hi : l.length ≤ i) (hc : i < c) : Marks (w.setCell ⟨k, i, none⟩ (.int .i64 (mk i))) B e k c l mk (i + 1) := by
  obtain ⟨cur, h1, h2, h3⟩ := h.row
  refine ⟨h.base, h.fit, h.cap, cur.set! i (.int .i64 (mk i)), by simp [World.setCell, Array.getElem?_modify, h1], by simp [h2], fun j hj => ?_⟩
  by_cases hji : j = i
  · subst hji
    have : j < cur.size := by omega
    simp [this, List.getElem?_eq_none hi]
  · rw [Array.set!_eq_setIfInBounds, Array.getElem?_setIfInBounds_ne (Ne.symm hji)]
    exact h3 j (by omega)
theorem Marks.start {w : World} {B : Nat} {e : TypeId} {k c n m : Nat} {l : List Int} {xs : List Value} (mk : Nat → Int) (h : w.ownsRow B e 1 (.slice (some ⟨k, 0, none⟩) m c) n (l.map (fun x => Value.int .i64 x) ++ xs)) : Marks w B e k c l mk l.length := by
  have hn := h.1
  rw [List.length_append, List.length_map] at hn
  rcases h.2 with ⟨h0, _⟩ | ⟨g', cap, cur, hv, hb, hg, hle, hcm, hsz, ht⟩
  · cases h0
  · simp only [Value.slice.injEq, Option.some.injEq, Addr.mk.injEq, and_true] at hv
    obtain ⟨rfl, hm, rfl⟩ := hv
    refine ⟨hb, by omega, hcm, cur, hg, by omega, fun j hj => ?_⟩
    have h1 : (cur.toList.take (n * 1))[j]? = (l.map (fun x => Value.int .i64 x) ++ xs)[j]? := by rw [ht]
    rw [List.getElem?_take, if_pos (by omega), Array.getElem?_toList, List.getElem?_append_left (by simpa using hj), List.getElem?_map] at h1
    rw [h1, List.getElem?_eq_getElem hj]
    rfl
theorem Marks.full {w : World} {B : Nat} {e : TypeId} {k c i : Nat} {l : List Int} {mk : Nat → Int} (h : Marks w B e k c l mk i) : FullRow w B e (.slice (some ⟨k, 0, none⟩) c c) := by
  obtain ⟨cur, h1, h2, _⟩ := h.row
  exact .inr ⟨k, cur, by rw [h2], h.base, h1, by rw [h2]; exact h.cap⟩
theorem Marks.cell {w : World} {B : Nat} {e : TypeId} {k c i j : Nat} {l : List Int} {mk : Nat → Int} (h : Marks w B e k c l mk i) (hj : j < i) : w.cell? ⟨k, j, none⟩ = some (.int .i64 ((l[j]?).getD (mk j))) := by
  obtain ⟨cur, h1, h2, h3⟩ := h.row
  simpa [World.cell?, h1] using h3 j hj
theorem Marks.ints {w : World} {B : Nat} {e : TypeId} {k c : Nat} {l : List Int} {mk : Nat → Int} (h : Marks w B e k c l mk c) : IntsAt w (some ⟨k, 0, none⟩) l := fun i x hx => by
  have hi := (List.getElem?_eq_some_iff.1 hx).1
  refine ⟨k, 0, rfl, h.lt, ?_⟩
  rw [Nat.zero_add, h.cell (Nat.lt_of_lt_of_le hi h.fit), hx]
  rfl

/-- what stands from place i on is as it was when it was filled; ahead of it whatever -/
structure Left (w : World) (B : Nat) (e : TypeId) (k c : Nat) (l : List Int) (mk : Nat → Int) (i : Nat) : Prop where
  base : B ≤ k
  cap : c ≤ maxLen
  row : ∃ cur, w.heap[k]? = some (.cells cur e (0, 0)) ∧ cur.size = c ∧ ∀ j, i ≤ j → j < c → cur[j]? = some (.int .i64 ((l[j]?).getD (mk j)))
theorem Marks.left {w : World} {B : Nat} {e : TypeId} {k c : Nat} {l : List Int} {mk : Nat → Int} (h : Marks w B e k c l mk c) : Left w B e k c l mk 0 := by
  obtain ⟨cur, h1, h2, h3⟩ := h.row
  exact ⟨h.base, h.cap, cur, h1, h2, fun j _ hj => h3 j hj⟩
theorem Left.cell {w : World} {B : Nat} {e : TypeId} {k c i : Nat} {l : List Int} {mk : Nat → Int} (h : Left w B e k c l mk i) (hi : i < c) : w.cell? ⟨k, i, none⟩ = some (.int .i64 ((l[i]?).getD (mk i))) ∧ w.frozen? ⟨k, i, none⟩ = false := by
  obtain ⟨cur, h1, h2, h3⟩ := h.row
  exact ⟨by simpa [World.cell?, h1] using h3 i (Nat.le_refl _) hi, by simp [World.frozen?, h1]⟩
theorem Left.set {w : World} {B : Nat} {e : TypeId} {k c i : Nat} {l : List Int} {mk : Nat → Int} (h : Left w B e k c l mk i) (v : Value) : Left (w.setCell ⟨k, i, none⟩ v) B e k c l mk (i + 1) := by
  obtain ⟨cur, h1, h2, h3⟩ := h.row
  refine ⟨h.base, h.cap, cur.set! i v, by simp [World.setCell, Array.getElem?_modify, h1], by simp [h2], fun j hj hc => ?_⟩
  rw [Array.set!_eq_setIfInBounds, Array.getElem?_setIfInBounds_ne (by omega)]
  exact h3 j (by omega) hc
theorem Left.lt {w : World} {B : Nat} {e : TypeId} {k c i : Nat} {l : List Int} {mk : Nat → Int} (h : Left w B e k c l mk i) : k < w.heap.size := by
  obtain ⟨cur, h1, _⟩ := h.row
  exact (Array.getElem?_eq_some_iff.1 h1).1
theorem Left.full {w : World} {B : Nat} {e : TypeId} {k c i : Nat} {l : List Int} {mk : Nat → Int} (h : Left w B e k c l mk i) : FullRow w B e (.slice (some ⟨k, 0, none⟩) c c) := by
  obtain ⟨cur, h1, h2, _⟩ := h.row
  exact .inr ⟨k, cur, by rw [h2], h.base, h1, by rw [h2]; exact h.cap⟩
theorem Left.on {w w' : World} {B : Nat} {e : TypeId} {k c i : Nat} {l : List Int} {mk : Nat → Int} (h : Left w B e k c l mk i) (hk : w'.heap[k]? = w.heap[k]?) : Left w' B e k c l mk i := by
  obtain ⟨cur, h1, h2, h3⟩ := h.row
  exact ⟨h.base, h.cap, cur, hk.trans h1, h2, h3⟩

section
variable {P : Program}
/-- numbers are appended, none or some -/
theorem run_append_ints (w : World) (t ty : TypeId) (base : Nat) (e : TypeId) (i : TypeInfo) (ht : P.underlying t = some (.slice e)) (hi : P.info? e = some i) (hz : i.zero = some (.int .i64 0)) (hsize : i.size = 1) (hby : i.bytes = 8)
    (v : Value) (n : Nat) (xs : List Value) (hown : w.ownsRow base e 1 v n xs) (Q : Option Addr) (cq : Nat) (l : List Int) (hl : IntsAt w Q l) (hbytes : (n + l.length) * 8 ≤ 140737488355328) (hbase : base ≤ w.heap.size) :
    ∃ v' w', (Builtin.append_ #[t, t] ty #[v, .slice Q l.length cq]).run P w = .ok v' w' ∧ w'.ownsRow base e 1 v' (n + l.length) (xs ++ l.map fun x => .int .i64 x) ∧ w.grownBy w' v.ownBlock ∧ (v'.ownBlock = v.ownBlock ∨ v'.ownBlock = some w.heap.size) := by
  cases l with
  | nil =>
    have hs : Src P i.size t (.slice Q 0 cq) 0 [] w := by
      cases Q with
      | none => exact Src.ofNil w ht cq
      | some a => exact Src.ofSlice w ht a 0 cq [] (by simp) (fun j u hu => by simp at hu) (fun u hu => by simp at hu)
    have key : ∀ A c, v = .slice A n c → n ≤ c → (Builtin.append_ #[t, t] ty #[v, .slice Q 0 cq]).run P w = .ok v w := by
      rintro A c rfl hc
      exact run_append_nothing (P := P) w t t ty e i ht hi A n c hc _ hs
    refine ⟨v, w, ?_, by simpa using hown, ⟨rfl, rfl, rfl, Nat.le_refl _, fun _ _ _ => rfl⟩, .inl rfl⟩
    rcases hown.2 with ⟨rfl, rfl⟩ | ⟨g, cap, cur, rfl, _, _, hc, _⟩
    · exact key none 0 rfl (Nat.le_refl _)
    · exact key _ cap rfl hc
  | cons x r =>
    obtain ⟨b, off, rfl, hb, _⟩ := hl 0 x rfl
    obtain ⟨v', w', h1, h2, h3, _, h5⟩ := run_append_own_at (P := P) w base t ty e i (.int .i64 0) 1 8 ht hi hz hsize hby rfl (by decide) v n xs hown ⟨b, off, none⟩ (x :: r).length cq ((x :: r).map fun x => Value.int .i64 x) (by simp) (fun j u hu => by
      rw [List.getElem?_map] at hu
      obtain ⟨y, hy, rfl⟩ := Option.map_eq_some_iff.1 hu
      obtain ⟨b', off', e, _, hc⟩ := hl j y hy
      simp only [Option.some.injEq, Addr.mk.injEq, and_true] at e
      obtain ⟨rfl, rfl⟩ := e
      rw [Addr.add_lit]
      exact hc) (fun u hu => by
      obtain ⟨y, _, rfl⟩ := List.mem_map.1 hu
      rfl) (by unfold maxLen; omega) hbytes hbase
    exact ⟨v', w', h1, h2, h3, h5⟩
theorem wp_append_ints {o : Oper} {a : Act} {K : Act → World → Prop} {Q' : Exit → Act → World → Prop} (w : World) (s x : Operand) (t : TypeId)
    (ho : o.op = .call { callee := .builtin .append, args := #[s, x], argTypes := #[t, t] })
    (base : Nat) (e : TypeId) (i : TypeInfo) (ht : P.underlying t = some (.slice e)) (hi : P.info? e = some i) (hz : i.zero = some (.int .i64 0)) (hsize : i.size = 1) (hby : i.bytes = 8)
    (v : Value) (n : Nat) (xs : List Value) (hs : a.eval s = v) (hown : w.ownsRow base e 1 v n xs) (Q : Option Addr) (cq : Nat) (l : List Int) (m : Nat) (hm : m = l.length) (hx : a.eval x = .slice Q m cq) (hl : IntsAt w Q l) (hbytes : (n + m) * 8 ≤ 140737488355328) (hbase : base ≤ w.heap.size)
    (h : ∀ v' w', w'.ownsRow base e 1 v' (n + m) (xs ++ l.map fun x => .int .i64 x) → w.grownBy w' v.ownBlock → (v'.ownBlock = v.ownBlock ∨ v'.ownBlock = some w.heap.size) → K (a.put o.dst v') w') : o.wp P a w K Q' := by
  subst hm
  obtain ⟨v', w', hr, h2, h3, h4⟩ := run_append_ints (P := P) w t o.type base e i ht hi hz hsize hby v n xs hown Q cq l hl hbytes hbase
  unfold Oper.wp execOp
  simp only [ho, resolve, invoke, builtin, Sem.run_bind, Sem.run_pure, Result.andThen_ok, List.map_toArray, List.map_cons, List.map_nil, hs, hx, hr]
  exact h v' w' h2 h3 h4
theorem wpList_append_ints {ops : Array Oper} {rest : List Oper} {o : Oper} {a : Act} {Q' : Exit → Act → World → Prop} (w : World) (hgd : o.guard = none) (s x : Operand) (t : TypeId)
    (ho : o.op = .call { callee := .builtin .append, args := #[s, x], argTypes := #[t, t] })
    (base : Nat) (e : TypeId) (i : TypeInfo) (ht : P.underlying t = some (.slice e)) (hi : P.info? e = some i) (hz : i.zero = some (.int .i64 0)) (hsize : i.size = 1) (hby : i.bytes = 8)
    (v : Value) (n : Nat) (xs : List Value) (hs : a.eval s = v) (hown : w.ownsRow base e 1 v n xs) (Q : Option Addr) (cq : Nat) (l : List Int) (m : Nat) (hm : m = l.length) (hx : a.eval x = .slice Q m cq) (hl : IntsAt w Q l) (hbytes : (n + m) * 8 ≤ 140737488355328) (hbase : base ≤ w.heap.size)
    (h : ∀ v' w', w'.ownsRow base e 1 v' (n + m) (xs ++ l.map fun x => .int .i64 x) → w.grownBy w' v.ownBlock → (v'.ownBlock = v.ownBlock ∨ v'.ownBlock = some w.heap.size) → wpList P ops Q' rest (a.put o.dst v') w') : wpList P ops Q' (o :: rest) a w :=
  wpList_plain hgd fun _ hK => wp_append_ints w s x t ho base e i ht hi hz hsize hby v n xs hs hown Q cq l m hm hx hl hbytes hbase fun v' w' h2 h3 h4 => hK _ _ (h v' w' h2 h3 h4)
theorem step_append_ints {ops : Array Oper} {o : Oper} {a : Act} {K : Act → World → Prop} {Q' : Exit → Act → World → Prop} {E : Prop} (w : World) (hgd : o.guard = none) (s x : Operand) (t : TypeId)
    (ho : o.op = .call { callee := .builtin .append, args := #[s, x], argTypes := #[t, t] })
    (base : Nat) (e : TypeId) (i : TypeInfo) (ht : P.underlying t = some (.slice e)) (hi : P.info? e = some i) (hz : i.zero = some (.int .i64 0)) (hsize : i.size = 1) (hby : i.bytes = 8)
    (v : Value) (n : Nat) (xs : List Value) (hs : a.eval s = v) (hown : w.ownsRow base e 1 v n xs) (Q : Option Addr) (cq : Nat) (l : List Int) (m : Nat) (hm : m = l.length) (hx : a.eval x = .slice Q m cq) (hl : IntsAt w Q l) (hbytes : (n + m) * 8 ≤ 140737488355328) (hbase : base ≤ w.heap.size)
    (h : ∀ v' w', w'.ownsRow base e 1 v' (n + m) (xs ++ l.map fun x => .int .i64 x) → w.grownBy w' v.ownBlock → (v'.ownBlock = v.ownBlock ∨ v'.ownBlock = some w.heap.size) → K (a.put o.dst v') w') :
    if Region.wanted o (yielded ops a.tmps) = true then Oper.wp P o a w K Q' else E := by
  have hw : Region.wanted o (yielded ops a.tmps) = true := by simp [Region.wanted, hgd]
  rw [if_pos hw]
  exact wp_append_ints w s x t ho base e i ht hi hz hsize hby v n xs hs hown Q cq l m hm hx hl hbytes hbase h
end
end Go.Proofs.YtpipcpjkfgdpcaaDoor

namespace Go.Proofs.YtpipcpjkfgdpcaaDoor
open Go.RowKit

def markI (i : Int) : Int := wrap64 (-70000 - i)
def markA (i : Int) : Int := wrap64 (-770000 - i)
theorem mark2_any (i : Nat) (w : World) : Calls Tryd.prog 83 #[.int .i64 i] w fun e w' => e = .returned (.int .i64 (markI i)) ∧ w' = w := by
  go_enter Tryd.func83, Tryd.ntmps83
  go_wp2_with fail
  go_ret
  exact ⟨rfl, rfl⟩
theorem mark4_any (i : Nat) (w : World) : Calls Tryd.prog 58 #[.int .i64 i] w fun e w' => e = .returned (.int .i64 (markA i)) ∧ w' = w := by
  go_enter Tryd.func58, Tryd.ntmps58
  go_wp2_with fail
  go_ret
  exact ⟨rfl, rfl⟩

abbrev TI : TypeId := 3
abbrev TA : TypeId := 2
abbrev TH : TypeId := 30
/-- the blocks that a hand writes -/
def HandP (g : Nat) (v : Value) (k : Nat) : Prop := k = g ∨ some k = v.ownBlock

set_option maxHeartbeats 4000000 in
set_option maxRecDepth 100000 in
theorem ints_any (w0 w : World) (g : Nat) (sv av : Value) (Q : Option Addr) (cq : Nat) (l : List Int) (hb : Below w0.heap.size w0 w) (hg : w.heap[g]? = some (.cells #[sv, av] TH (0, 0))) (hgB : w0.heap.size ≤ g) (hf : FullRow w w0.heap.size TI sv)
    (hl : IntsAt w0 Q l) (hn : l.length ≤ 1099511627776) :
    Calls Tryd.prog 59 #[.pointer (some ⟨g, 0, none⟩), .slice Q l.length cq] w fun e w' => ∃ k c, e = .returned (.slice (some ⟨k, 0, none⟩) l.length c) ∧
      w'.heap[g]? = some (.cells #[.slice (some ⟨k, 0, none⟩) c c, av] TH (0, 0)) ∧ Marks w' w0.heap.size TI k c l (fun i => markI i) c ∧ Only (HandP g sv) w w' := by
  have HB := Lib.hid hb
  have HL := Lib.hid hl
  have HF := Lib.hid hf
  have HG := Lib.hid hg
  obtain ⟨n, hln⟩ : ∃ n, n = l.length := ⟨_, rfl⟩
  have HN := Lib.hid hln
  rw [← hln] at hn ⊢
  obtain ⟨A, c0, rfl, hc0, hown⟩ := hf.none_
  have HOWN := Lib.hid hown
  obtain ⟨kc, kc1⟩ := heap2 hg
  have pf : w.frozen? ⟨g, 0, none⟩ = false := by simp [World.frozen?, hg]
  obtain ⟨j0, hj, hz0, hz1, hz2⟩ := info_parts info_int
  clear hb hl hf hg hown hln
  go_enter Tryd.func59, Tryd.ntmps59
  go_upto_if 17 with fail
  go_cut [17] from 10 (fun v wx => ∃ sv', Hid (wx.heap[g]? = some (.cells #[sv', av] TH (0, 0)) ∧ FullRow wx w0.heap.size TI sv' ∧ Only (HandP g (.slice A c0 c0)) w wx ∧ (sv' = .slice none 0 0 ∨ sv' = .slice A c0 c0)))
  case first =>
    by_cases hbig : n + 70000 < c0
    · have x1 : (n : Int) + 70000 < c0 := by omega
      have hset : Hid ((w.setCell ⟨g, 0, none⟩ (.slice none 0 0)).heap[g]? = some (.cells #[.slice none 0 0, av] TH (0, 0))) := Lib.hid (by simp [World.setCell, Array.getElem?_modify, HG.out])
      go_wp2_with fail
      go_meet
      case rel => exact ⟨_, Lib.hid ⟨hset.out, .inl rfl, (Only.refl _ _).set _ _ (fun _ => .inl rfl), .inl rfl⟩⟩
    · have x1 : ¬ (n : Int) + 70000 < c0 := by omega
      go_wp2_with fail
      go_meet
      case rel => exact ⟨_, Lib.hid ⟨HG.out, HF.out, Only.refl _ _, .inr rfl⟩⟩
  obtain ⟨sv', HS⟩ := hcut
  obtain ⟨A', c', rfl, hc', hown'⟩ := HS.out.2.1.none_
  have HO' := Lib.hid hown'
  obtain ⟨kd, kd1⟩ := heap2 HS.out.1
  have HBx : Hid (Below w0.heap.size w0 wc) := Lib.hid (HB.out.trans (HS.out.2.2.1.base HB.out.size (fun k hk => by
    rcases hk with rfl | hk
    · exact hgB
    · exact (HF.out.ty k hk.symm).1)))
  have HLC := Lib.hid (HL.out.on HBx.out)
  have hs0 : w0.heap.size ≤ wc.heap.size := HBx.out.size
  clear kc kc1 pf hown' hc0
  go_wp2_with (at_builtin; refine wpList_append_ints _ rfl _ _ 25 rfl w0.heap.size TI j0 Tryd.underlying25 hj hz0 hz1 hz2 (.slice A' 0 c') 0 [] rfl HO'.out Q cq l n HN.out rfl HLC.out (by omega) hs0 ?_)
  intro v6 w6 hown6 hgr6 hv6
  have hRow : ∀ k, (Value.slice A' 0 c').ownBlock = some k → HandP g (.slice A c0 c0) k := fun k hk => by
    rcases HS.out.2.2.2 with h | h
    · injection h with h1 h2 h3
      subst h1
      cases hk
    · injection h with h1 h2 h3
      subst h1
      cases A' with
      | none => cases hk
      | some b => exact .inr hk.symm
  have hgne : ∀ k (cur : Array Value) (w' : World), w'.heap[k]? = some (.cells cur TI (0, 0)) → w'.heap[g]? = some (.cells #[.slice A' c' c', av] TH (0, 0)) → g ≠ k := fun k cur w' h1 h2 e => by
    subst e
    rw [h1] at h2
    injection h2 with h2; injection h2 with _ h2; cases h2
  have HNE := Lib.hid hgne
  have HG6 : Hid (w6.heap[g]? = some (.cells #[.slice A' c' c', av] TH (0, 0))) := Lib.hid ((hgr6.block g (Array.getElem?_eq_some_iff.1 HS.out.1).1 (fun e => by
    obtain ⟨cur, hc⟩ := row_type HO'.out g e.symm
    exact hgne _ _ _ hc HS.out.1 rfl)).trans HS.out.1)
  have HOn6 : Hid (Only (HandP g (.slice A c0 c0)) w w6) := Lib.hid (HS.out.2.2.1.grown hgr6 (fun k hk _ => hRow k hk))
  have HB6 : Hid (Below w0.heap.size w0 w6) := Lib.hid (HBx.out.grown hgr6 HBx.out.size (fun k hk => (HO'.out.lt k hk).1))
  have HV6 : Hid (∀ k, v6.ownBlock = some k → k < w.heap.size → HandP g (.slice A c0 c0) k) := Lib.hid (fun k hk hlt => by
    rcases hv6 with h | h
    · exact hRow k (h.symm.trans hk)
    · rw [h] at hk
      injection hk with hk
      have := HS.out.2.2.1.size
      omega)
  have HO6 := Lib.hid hown6
  have hs6 : w0.heap.size ≤ w6.heap.size := HB6.out.size
  clear hown6 hgr6 hv6 hRow hgne kd kd1
  go_wp2_with (at_builtin; refine wpList_append_lies _ rfl _ _ 25 rfl w0.heap.size TI j0 (.int .i64 0) 1 8 Tryd.underlying25 hj hz0 hz1 hz2 rfl (by decide) v6 n (l.map fun x => .int .i64 x) rfl (World.ownsRow.alloc HO6.out _) ⟨w6.heap.size, 0, none⟩ 2 2 [.int .i64 0, .int .i64 0] rfl rfl (World.news_of_block (heap_alloc_new w6 _)) (by simp [Value.oneCell']) (by decide) ?_ ?_ ?_ _ rfl ?_)
  · unfold maxLen; omega
  · omega
  · simp; omega
  intro k c w7 hown7 hgr7 hat7 hlt7
  have HM7 : Hid (Marks w7 w0.heap.size TI k c l (fun i => markI i) l.length) := Lib.hid (Marks.start (xs := [.int .i64 0, .int .i64 0]) _ hown7)
  have HG7 : Hid (w7.heap[g]? = some (.cells #[.slice A' c' c', av] TH (0, 0))) := Lib.hid ((hgr7.block g (by have := (Array.getElem?_eq_some_iff.1 HG6.out).1; simp; omega) (fun e => by
    obtain ⟨cur, hc⟩ := row_type HO6.out g e.symm
    exact HNE.out _ _ _ hc HG6.out rfl)).trans ((Below.heap_alloc _ _ _ (Array.getElem?_eq_some_iff.1 HG6.out).1).trans HG6.out))
  have HOn7 : Hid (Only (HandP g (.slice A c0 c0)) w w7) := Lib.hid ((HOn6.out.alloc _).grown hgr7 (fun k hk hlt => HV6.out k hk hlt))
  have HK : Hid (k < w.heap.size → HandP g (.slice A c0 c0) k) := Lib.hid (fun hlt => by
    rcases hat7 with h | h
    · exact HV6.out k h hlt
    · have := HOn6.out.size
      first | omega | (simp at h; omega))
  have hcm : c ≤ maxLen := HM7.out.cap
  have hnc : n ≤ c := by rw [HN.out]; exact HM7.out.fit
  have hcm' : c ≤ 9223372036854775807 := by unfold maxLen at hcm; omega
  clear hown7 hgr7 hat7 hlt7 hcm
  rw [← HN.out] at HM7
  go_wp2_with fail
  go_loopw [7] (fun v7 wr => ∃ i : Nat, n ≤ i ∧ i ≤ c ∧ v7 = .int .i64 i ∧ Hid (Marks wr w0.heap.size TI k c l (fun i => markI i) i ∧ wr.heap[g]? = some (.cells #[.slice A' c' c', av] TH (0, 0)) ∧ Only (HandP g (.slice A c0 c0)) w wr)) (fun v7 _ => c - (intOf v7).toNat)
  case atStart => exact ⟨n, Nat.le_refl _, hnc, rfl, Lib.hid ⟨HM7.out, HG7.out, HOn7.out⟩⟩
  case round =>
    obtain ⟨i, hni, hic, rfl, HI⟩ := hrel
    by_cases hlt : i < c
    · obtain ⟨old, ko, fo⟩ := HI.out.1.free hlt
      have hii : (i : Int) < c := by omega
      have HSET : Hid (Marks (wr.setCell ⟨k, i, none⟩ (.int .i64 (markI i))) w0.heap.size TI k c l (fun i => markI i) (i + 1) ∧ (wr.setCell ⟨k, i, none⟩ (.int .i64 (markI i))).heap[g]? = some (.cells #[.slice A' c' c', av] TH (0, 0)) ∧ Only (HandP g (.slice A c0 c0)) w (wr.setCell ⟨k, i, none⟩ (.int .i64 (markI i)))) := Lib.hid (by
        refine ⟨HI.out.1.set (by rw [← HN.out]; exact hni) hlt, (Below.heap_setCell _ _ _ _ ?_).trans HI.out.2.1, HI.out.2.2.set _ _ HK.out⟩
        obtain ⟨cur, h1, _⟩ := HI.out.1.row
        exact HNE.out k cur _ h1 HI.out.2.1)
      go_wp2_with fail
      refine (mark2_any i _).mono ?_
      rintro e w8 ⟨rfl, rfl⟩
      go_wp2_with fail
      exact ⟨⟨i + 1, by omega, by omega, by go_num, HSET⟩, by simp [intOf]; omega⟩
    · obtain rfl : i = c := by omega
      have hge : ¬ (i : Int) < i := by omega
      obtain ⟨ke, ke1⟩ := heap2 HI.out.2.1
      have pf : wr.frozen? ⟨g, 0, none⟩ = false := by simp [World.frozen?, HI.out.2.1]
      have hnc' : (n : Int) ≤ i := by omega
      go_wp2_with fail
      go_ret
      refine ⟨k, i, rfl, ?_, HI.out.1.on (Below.heap_setCell _ _ _ _ (fun e => ?_)), HI.out.2.2.set _ _ (fun _ => .inl rfl)⟩
      · simp [World.setCell, Array.getElem?_modify, HI.out.2.1]
      · obtain ⟨cur, h1, _⟩ := HI.out.1.row
        exact HNE.out k cur _ h1 HI.out.2.1 e.symm

set_option maxHeartbeats 4000000 in
set_option maxRecDepth 100000 in
theorem intsKept_any (w0 w : World) (g k c : Nat) (av : Value) (Q : Option Addr) (cq : Nat) (l : List Int) (hb : Below w0.heap.size w0 w) (hg : w.heap[g]? = some (.cells #[.slice (some ⟨k, 0, none⟩) c c, av] TH (0, 0))) (hm : Marks w w0.heap.size TI k c l (fun i => markI i) c)
    (hl : IntsAt w0 Q l) (hn : l.length ≤ 1099511627776) :
    Calls Tryd.prog 63 #[.pointer (some ⟨g, 0, none⟩), .slice Q l.length cq] w fun e w' => e = .returned (.bool true) ∧
      w'.heap[g]? = some (.cells #[.slice (some ⟨k, 0, none⟩) c c, av] TH (0, 0)) ∧ FullRow w' w0.heap.size TI (.slice (some ⟨k, 0, none⟩) c c) ∧ Only (fun j => j = k) w w' := by
  have HB := Lib.hid hb
  have HL := Lib.hid hl
  have HG := Lib.hid hg
  have HM := Lib.hid hm
  obtain ⟨n, hln⟩ : ∃ n, n = l.length := ⟨_, rfl⟩
  have HN := Lib.hid hln
  have hcm : c ≤ 9223372036854775807 := by have := hm.cap; unfold maxLen at this; omega
  have hgk : g ≠ k := fun e => by
    subst e
    obtain ⟨cur, h1, _⟩ := hm.row
    rw [h1] at hg; injection hg with hg; injection hg with _ hg; cases hg
  rw [← hln] at hn ⊢
  clear hb hl hg hm hln
  go_enter Tryd.func63, Tryd.ntmps63
  go_wp2_with fail
  go_loopw [5, 6] (fun v5 v6 wr => ∃ i : Nat, i ≤ c ∧ v5 = .bool true ∧ v6 = .int .i64 i ∧ Hid (Left wr w0.heap.size TI k c l (fun i => markI i) i ∧ wr.heap[g]? = some (.cells #[.slice (some ⟨k, 0, none⟩) c c, av] TH (0, 0)) ∧ Only (fun j => j = k) w wr)) (fun _ v6 _ => c - (intOf v6).toNat)
  case atStart => exact ⟨0, Nat.zero_le _, rfl, rfl, Lib.hid ⟨HM.out.left, HG.out, Only.refl _ _⟩⟩
  case round =>
    obtain ⟨i, hic, rfl, rfl, HI⟩ := hrel
    obtain ⟨ke, ke1⟩ := heap2 HI.out.2.1
    by_cases hlt : i < c
    · obtain ⟨kc, fc⟩ := HI.out.1.cell hlt
      have hii : (i : Int) < c := by omega
      have HSET : Hid (Left (wr.setCell ⟨k, i, none⟩ (.int .i64 (-99))) w0.heap.size TI k c l (fun i => markI i) (i + 1) ∧ (wr.setCell ⟨k, i, none⟩ (.int .i64 (-99))).heap[g]? = some (.cells #[.slice (some ⟨k, 0, none⟩) c c, av] TH (0, 0)) ∧ Only (fun j => j = k) w (wr.setCell ⟨k, i, none⟩ (.int .i64 (-99)))) := Lib.hid
        ⟨HI.out.1.set _, (Below.heap_setCell _ _ _ _ hgk).trans HI.out.2.1, HI.out.2.2.set _ _ (fun _ => rfl)⟩
      by_cases hin : i < n
      · obtain ⟨x, hx⟩ : ∃ x, l[i]? = some x := ⟨_, List.getElem?_eq_getElem (by rw [← HN.out]; exact hin)⟩
        have hini : (i : Int) < n := by omega
        obtain ⟨b, off, rfl, hbl, kq0⟩ := HL.out i x hx
        have kq : wr.cell? ⟨b, off + i, none⟩ = some (.int .i64 x) := by
          have h1 := (HB.out.cell (p := ⟨b, off + i, none⟩) hbl).trans kq0
          refine (World.cell?_of_block (HI.out.2.2.block b ?_ ?_)).trans h1
          · have := HB.out.size; omega
          · have := HM.out.base; omega
        rw [hx, Option.getD_some] at kc
        clear hx kq0 hbl
        go_wp2_with fail
        refine (mark2_any i _).mono ?_
        rintro e w8 ⟨rfl, rfl⟩
        go_wp2_with fail
        exact ⟨⟨i + 1, by omega, by first | rfl | simp, by go_num, HSET⟩, by simp [intOf]; omega⟩
      · have hini : ¬ (i : Int) < n := by omega
        have hx : l[i]? = none := List.getElem?_eq_none (by rw [← HN.out]; omega)
        rw [hx, Option.getD_none] at kc
        clear hx
        go_wp2_with fail
        refine (mark2_any i _).mono ?_
        rintro e w8 ⟨rfl, rfl⟩
        go_wp2_with fail
        exact ⟨⟨i + 1, by omega, by first | rfl | simp, by go_num, HSET⟩, by simp [intOf]; omega⟩
    · obtain rfl : i = c := by omega
      have hge : ¬ (i : Int) < i := by omega
      go_wp2_with fail
      go_ret
      exact ⟨rfl, HI.out.2.1, HI.out.1.full, HI.out.2.2⟩
end Go.Proofs.YtpipcpjkfgdpcaaDoor

namespace Go.Proofs.YtpipcpjkfgdpcaaDoor
open Go.RowKit

theorem results_one_arr {fn : Func} {p : Tmp} (h : fn.results = #[.cell p 36]) {tmps : Array Value} {w : World} {g : Nat} (hp : tmps.getD p undef = .pointer (some ⟨g, 0, none⟩)) {c0 c1 : Value}
    (hg : w.heap[g]? = some (.cells #[c0, c1] 36 (0, 0))) : (results fn tmps).run Tryd.prog w = .ok (.agg #[c0, c1]) w := by
  obtain ⟨k0, k1⟩ := heap2 hg
  rw [Array.getD_eq_getD_getElem?] at hp
  simp only [results, h]
  simp [go_sem, hp, k0, k1]
/-- the blocks that a hand writes, of lengths and of numbers -/
def HandP2 (g : Nat) (v u : Value) (k : Nat) : Prop := k = g ∨ some k = v.ownBlock ∨ some k = u.ownBlock

set_option maxHeartbeats 8000000 in
set_option maxRecDepth 100000 in
theorem array_any (w0 w : World) (g : Nat) (sv av : Value) (A B : Option Addr) (ca cb : Nat) (s a : List Int) (hb : Below w0.heap.size w0 w) (hg : w.heap[g]? = some (.cells #[sv, av] TH (0, 0))) (hgB : w0.heap.size ≤ g) (hfs : FullRow w w0.heap.size TI sv) (hfa : FullRow w w0.heap.size TA av)
    (hs : IntsAt w0 A s) (hl : IntsAt w0 B a) (hns : s.length ≤ 1099511627776) (hn : a.length ≤ 1099511627776) :
    Calls Tryd.prog 28 #[.pointer (some ⟨g, 0, none⟩), .agg #[.slice A s.length ca, .slice B a.length cb]] w fun e w' => ∃ k c k2 c2, e = .returned (.agg #[.slice (some ⟨k, 0, none⟩) s.length c, .slice (some ⟨k2, 0, none⟩) a.length c2]) ∧
      w'.heap[g]? = some (.cells #[.slice (some ⟨k, 0, none⟩) c c, .slice (some ⟨k2, 0, none⟩) c2 c2] TH (0, 0)) ∧ Marks w' w0.heap.size TI k c s (fun i => markI i) c ∧ Marks w' w0.heap.size TA k2 c2 a (fun i => markA i) c2 ∧ Only (HandP2 g sv av) w w' := by
  have HB := Lib.hid hb
  have HS := Lib.hid hs
  have HL := Lib.hid hl
  have HFS := Lib.hid hfs
  have HF := Lib.hid hfa
  have HG := Lib.hid hg
  have HNS := Lib.hid hns
  obtain ⟨n, hln⟩ : ∃ n, n = a.length := ⟨_, rfl⟩
  have HN := Lib.hid hln
  rw [← hln] at hn ⊢
  obtain ⟨A0, c0, rfl, hc0, hown⟩ := hfa.none_
  have HOWN := Lib.hid hown
  obtain ⟨W, hW⟩ : ∃ W, W = (w.alloc (.cells #[.slice A s.length ca, .slice B n cb] 36)).alloc (.cells #[.slice none 0 0, .slice none 0 0] 36) := ⟨_, rfl⟩
  have hWb : Below w.heap.size w W := by rw [hW]; exact ((Below.refl _ _).alloc (Nat.le_refl _) _).alloc (by simp) _
  have hlg : g < w.heap.size := (Array.getElem?_eq_some_iff.1 hg).1
  have hWx : W.heap[w.heap.size]? = some (.cells #[.slice A s.length ca, .slice B n cb] 36 (0, 0)) := by rw [hW]; exact (Below.heap_alloc _ _ _ (by simp)).trans (heap_alloc_new w _)
  have hWr : W.heap[w.heap.size + 1]? = some (.cells #[.slice none 0 0, .slice none 0 0] 36 (0, 0)) := by
    rw [hW]
    have h := heap_alloc_new (w.alloc (.cells #[.slice A s.length ca, .slice B n cb] 36)) (.cells #[.slice none 0 0, .slice none 0 0] 36)
    rw [World.size_alloc] at h
    exact h
  have HWW := Lib.hid (And.intro hWb (And.intro hWx (And.intro hWr (And.intro hlg hW))))
  have hgW := (hWb.block g hlg).trans hg
  obtain ⟨kc0, kc⟩ := heap2 hgW
  obtain ⟨xc0, xc⟩ := heap2 hWx
  have pf : W.frozen? ⟨g, 1, none⟩ = false := by simp [World.frozen?, hgW]
  obtain ⟨j0, hj, hz0, hz1, hz2⟩ := info_parts info_int64
  clear hb hs hl hfs hfa hg hown hln hns hWb hWx hWr hlg
  go_enter Tryd.func28, Tryd.ntmps28
  have xr := xc
  have kr := kc
  rw [hW] at xr kr
  have hsW : w0.heap.size ≤ W.heap.size := Nat.le_trans HB.out.size HWW.out.1.size
  go_upto_if 18 with fail
  rw [← HWW.out.2.2.2.2]
  clear xr kr hW
  go_cut [18] from 11 (fun v wx => ∃ av', Hid (wx.heap[g]? = some (.cells #[sv, av'] TH (0, 0)) ∧ FullRow wx w0.heap.size TA av' ∧ Only (HandP g (.slice A0 c0 c0)) W wx ∧ (av' = .slice none 0 0 ∨ av' = .slice A0 c0 c0)))
  case first =>
    by_cases hbig : n + 70000 < c0
    · have x1 : (n : Int) + 70000 < c0 := by omega
      have hset : Hid ((W.setCell ⟨g, 1, none⟩ (.slice none 0 0)).heap[g]? = some (.cells #[sv, .slice none 0 0] TH (0, 0))) := Lib.hid (by simp [World.setCell, Array.getElem?_modify, (HWW.out.1.block g HWW.out.2.2.2.1).trans HG.out])
      go_wp2_with fail
      go_meet
      case rel => exact ⟨_, Lib.hid ⟨hset.out, .inl rfl, (Only.refl _ _).set _ _ (fun _ => .inl rfl), .inl rfl⟩⟩
    · have x1 : ¬ (n : Int) + 70000 < c0 := by omega
      go_wp2_with fail
      go_meet
      case rel => exact ⟨_, Lib.hid ⟨(HWW.out.1.block g HWW.out.2.2.2.1).trans HG.out, HF.out.on HWW.out.1, Only.refl _ _, .inr rfl⟩⟩
  obtain ⟨av', HSt⟩ := hcut
  obtain ⟨A', c', rfl, hc', hown'⟩ := HSt.out.2.1.none_
  have HO' := Lib.hid hown'
  obtain ⟨kd0, kd⟩ := heap2 HSt.out.1
  have HTY : Hid (∀ k, (Value.slice A0 c0 c0).ownBlock = some k → w0.heap.size ≤ k ∧ ∃ cur, w.heap[k]? = some (.cells cur TA (0, 0))) := Lib.hid HF.out.ty
  have HPB : Hid (∀ k, HandP g (.slice A0 c0 c0) k → w0.heap.size ≤ k ∧ k < w.heap.size) := Lib.hid (fun k hk => by
    rcases hk with rfl | hk
    · exact ⟨hgB, HWW.out.2.2.2.1⟩
    · obtain ⟨h1, cur, h2⟩ := HTY.out k hk.symm
      exact ⟨h1, (Array.getElem?_eq_some_iff.1 h2).1⟩)
  have HBW : Hid (Below w0.heap.size w0 W) := Lib.hid (HB.out.then_ HWW.out.1)
  have HBx : Hid (Below w0.heap.size w0 wc) := Lib.hid (HBW.out.trans (HSt.out.2.2.1.base hsW (fun k hk => (HPB.out k hk).1)))
  have HX : Hid (∀ w', Only (HandP g (.slice A0 c0 c0)) W w' → w'.heap[w.heap.size]? = some (.cells #[.slice A s.length ca, .slice B n cb] 36 (0, 0)) ∧ w'.heap[w.heap.size + 1]? = some (.cells #[.slice none 0 0, .slice none 0 0] 36 (0, 0))) := Lib.hid (fun w' h =>
    ⟨(h.block _ (Array.getElem?_eq_some_iff.1 HWW.out.2.1).1 (fun hk => by have := (HPB.out _ hk).2; omega)).trans HWW.out.2.1, (h.block _ (Array.getElem?_eq_some_iff.1 HWW.out.2.2.1).1 (fun hk => by have := (HPB.out _ hk).2; omega)).trans HWW.out.2.2.1⟩)
  have HLC := Lib.hid (HL.out.on HBx.out)
  have hs0 : w0.heap.size ≤ wc.heap.size := HBx.out.size
  obtain ⟨hx1, hx2⟩ := HX.out wc HSt.out.2.2.1
  obtain ⟨yc0, yc⟩ := heap2 hx1
  have hca : (0 : Int) ≤ c' := by omega
  clear kc kc0 xc xc0 pf hown' hc0 hx1 hx2
  go_upto_region 4 with fail
  go_cut [6] from 22 (fun v6 wx => Hid (wx.ownsRow w0.heap.size TA 1 v6 n (a.map fun x => .int .i64 x)) ∧ Hid (wx.heap[g]? = some (.cells #[sv, .slice A' c' c'] TH (0, 0))) ∧ Hid (Only (HandP g (.slice A0 c0 c0)) W wx) ∧ Hid (∀ k, v6.ownBlock = some k → k < W.heap.size → HandP g (.slice A0 c0 c0) k))
  case first =>
    have HOd := Lib.hid (HO'.out.drew)
    have HLd : Hid (IntsAt wc.drew B a) := Lib.hid (HL.out.on HBx.out.drew)
    have hs0d : w0.heap.size ≤ wc.drew.heap.size := hs0
    go_region_law (refine step_append_ints _ rfl (.tmp 26) (.tmp 28) 28 rfl w0.heap.size TA j0 Tryd.underlying28 hj hz0 hz1 hz2 (.slice A' 0 c') 0 [] (by simp [Act.eval, Act.put]) HOd.out B cb a n HN.out (by simp [Act.eval, Act.put]) HLd.out (by omega) hs0d ?_; intro v6 w6 hown6 hgr6 hv6)
    all_goals
      have HR6 : Hid (w6.ownsRow w0.heap.size TA 1 v6 n (a.map fun x => .int .i64 x) ∧ w6.heap[g]? = some (.cells #[sv, .slice A' c' c'] TH (0, 0)) ∧ Only (HandP g (.slice A0 c0 c0)) W w6 ∧ (∀ k, v6.ownBlock = some k → k < W.heap.size → HandP g (.slice A0 c0 c0) k)) := Lib.hid (by
        have hRow : ∀ k, (Value.slice A' 0 c').ownBlock = some k → HandP g (.slice A0 c0 c0) k := fun k hk => by
          rcases HSt.out.2.2.2 with h | h
          · injection h with h1 h2 h3
            subst h1
            cases hk
          · injection h with h1 h2 h3
            subst h1
            cases A' with
            | none => cases hk
            | some b => exact .inr hk.symm
        refine ⟨by simpa using hown6, (hgr6.block g (Array.getElem?_eq_some_iff.1 HSt.out.1).1 (fun e => ?_)).trans HSt.out.1, HSt.out.2.2.1.drew.grown hgr6 (fun k hk _ => hRow k hk), fun k hk hlt => ?_⟩
        · obtain ⟨cur, hc⟩ := row_type HO'.out g e.symm
          have h := HSt.out.1
          rw [hc] at h; injection h with h; injection h with _ h; cases h
        · rcases hv6 with h | h
          · exact hRow k (h.symm.trans hk)
          · rw [h] at hk
            injection hk with hk
            have h1 := HSt.out.2.2.1.size
            have h2 : wc.drew.heap.size = wc.heap.size := rfl
            omega)
      clear hown6 hgr6 hv6
      go_wp2_with fail
      go_meet
      case rel => exact ⟨Lib.hid HR6.out.1, Lib.hid HR6.out.2.1, Lib.hid HR6.out.2.2.1, Lib.hid HR6.out.2.2.2⟩
  obtain ⟨HO6, HG6, HOn6, HV6⟩ := hcut
  obtain ⟨w6, rfl⟩ : ∃ w6, w6 = wc := ⟨_, rfl⟩
  obtain ⟨v6, rfl⟩ : ∃ v6, v6 = u6 := ⟨_, rfl⟩
  have HB6 : Hid (Below w0.heap.size w0 w6) := Lib.hid (HBW.out.trans (HOn6.out.base hsW (fun k hk => (HPB.out k hk).1)))
  have hs6 : w0.heap.size ≤ w6.heap.size := HB6.out.size
  have HNE : Hid (∀ k (cur : Array Value) (u : Value) (w' : World), w'.heap[k]? = some (.cells cur TA (0, 0)) → w'.heap[g]? = some (.cells #[sv, u] TH (0, 0)) → g ≠ k) := Lib.hid (fun k cur u w' h1 h2 e => by
    subst e
    rw [h1] at h2
    injection h2 with h2; injection h2 with _ h2; cases h2)
  clear kd kd0 yc yc0
  go_wp2_with (at_builtin; refine wpList_append_lies _ rfl _ _ 28 rfl w0.heap.size TA j0 (.int .i64 0) 1 8 Tryd.underlying28 hj hz0 hz1 hz2 rfl (by decide) v6 n (a.map fun x => .int .i64 x) rfl (World.ownsRow.alloc HO6.out _) ⟨w6.heap.size, 0, none⟩ 2 2 [.int .i64 0, .int .i64 0] rfl rfl (World.news_of_block (heap_alloc_new w6 _)) (by simp [Value.oneCell']) (by decide) ?_ ?_ ?_ _ rfl ?_)
  · unfold maxLen; omega
  · omega
  · simp; omega
  intro k c w7 hown7 hgr7 hat7 hlt7
  have HM7 : Hid (Marks w7 w0.heap.size TA k c a (fun i => markA i) a.length) := Lib.hid (Marks.start (xs := [.int .i64 0, .int .i64 0]) _ hown7)
  have HG7 : Hid (w7.heap[g]? = some (.cells #[sv, .slice A' c' c'] TH (0, 0))) := Lib.hid ((hgr7.block g (by have := (Array.getElem?_eq_some_iff.1 HG6.out).1; simp; omega) (fun e => by
    obtain ⟨cur, hc⟩ := row_type HO6.out g e.symm
    exact HNE.out _ _ _ _ hc HG6.out rfl)).trans ((Below.heap_alloc _ _ _ (Array.getElem?_eq_some_iff.1 HG6.out).1).trans HG6.out))
  have HOn7 : Hid (Only (HandP g (.slice A0 c0 c0)) W w7) := Lib.hid ((HOn6.out.alloc _).grown hgr7 (fun k hk hlt => HV6.out k hk hlt))
  have HK : Hid (k < W.heap.size → HandP g (.slice A0 c0 c0) k) := Lib.hid (fun hlt => by
    rcases hat7 with h | h
    · exact HV6.out k h hlt
    · have := HOn6.out.size
      first | omega | (simp at h; omega))
  have hcm : c ≤ maxLen := HM7.out.cap
  have hnc : n ≤ c := by rw [HN.out]; exact HM7.out.fit
  have hcm' : c ≤ 9223372036854775807 := by unfold maxLen at hcm; omega
  clear hown7 hgr7 hat7 hlt7 hcm
  rw [← HN.out] at HM7
  go_wp2_with fail
  go_loopw [7] (fun v7 wr => ∃ i : Nat, n ≤ i ∧ i ≤ c ∧ v7 = .int .i64 i ∧ Hid (Marks wr w0.heap.size TA k c a (fun i => markA i) i ∧ wr.heap[g]? = some (.cells #[sv, .slice A' c' c'] TH (0, 0)) ∧ Only (HandP g (.slice A0 c0 c0)) W wr)) (fun v7 _ => c - (intOf v7).toNat)
  case atStart => exact ⟨n, Nat.le_refl _, hnc, rfl, Lib.hid ⟨HM7.out, HG7.out, HOn7.out⟩⟩
  case round =>
    obtain ⟨i, hni, hic, rfl, HI⟩ := hrel
    by_cases hlt : i < c
    · obtain ⟨old, ko, fo⟩ := HI.out.1.free hlt
      have hii : (i : Int) < c := by omega
      have HSET : Hid (Marks (wr.setCell ⟨k, i, none⟩ (.int .i64 (markA i))) w0.heap.size TA k c a (fun i => markA i) (i + 1) ∧ (wr.setCell ⟨k, i, none⟩ (.int .i64 (markA i))).heap[g]? = some (.cells #[sv, .slice A' c' c'] TH (0, 0)) ∧ Only (HandP g (.slice A0 c0 c0)) W (wr.setCell ⟨k, i, none⟩ (.int .i64 (markA i)))) := Lib.hid (by
        refine ⟨HI.out.1.set (by rw [← HN.out]; exact hni) hlt, (Below.heap_setCell _ _ _ _ ?_).trans HI.out.2.1, HI.out.2.2.set _ _ HK.out⟩
        obtain ⟨cur, h1, _⟩ := HI.out.1.row
        exact HNE.out k cur _ _ h1 HI.out.2.1)
      go_wp2_with fail
      refine (mark4_any i _).mono ?_
      rintro e w8 ⟨rfl, rfl⟩
      go_wp2_with fail
      exact ⟨⟨i + 1, by omega, by omega, by go_num, HSET⟩, by simp [intOf]; omega⟩
    · obtain rfl : i = c := by omega
      have hge : ¬ (i : Int) < i := by omega
      obtain ⟨ke0, ke⟩ := heap2 HI.out.2.1
      have pf : wr.frozen? ⟨g, 1, none⟩ = false := by simp [World.frozen?, HI.out.2.1]
      have hnc' : (n : Int) ≤ i := by omega
      go_upto_region 12 with fail
      obtain ⟨W9, hW9⟩ : ∃ W9, W9 = wr.setCell ⟨g, 1, none⟩ (.slice (some ⟨k, 0, none⟩) i i) := ⟨_, rfl⟩
      rw [← hW9]
      have hOn9 : Only (HandP g (.slice A0 c0 c0)) W W9 := by rw [hW9]; exact HI.out.2.2.set _ _ (fun _ => .inl rfl)
      have hG9 : W9.heap[g]? = some (.cells #[sv, .slice (some ⟨k, 0, none⟩) i i] TH (0, 0)) := by rw [hW9]; simp [World.setCell, Array.getElem?_modify, HI.out.2.1]
      have hM9 : Marks W9 w0.heap.size TA k i a (fun i => markA i) i := by
        rw [hW9]
        refine HI.out.1.on (Below.heap_setCell _ _ _ _ (fun e => ?_))
        obtain ⟨cur, h1, _⟩ := HI.out.1.row
        exact HNE.out k cur _ _ h1 HI.out.2.1 e.symm
      have hF9 : FullRow W9 w0.heap.size TI sv := HFS.out.kept (fun b hb => by
        obtain ⟨_, cur, hc⟩ := HFS.out.ty b hb
        have hlb := (Array.getElem?_eq_some_iff.1 hc).1
        have hW1 := HWW.out.1.block b hlb
        refine (hOn9.block b (by have := HWW.out.1.size; omega) (fun hp => ?_)).trans hW1
        rcases hp with rfl | hp
        · rw [HG.out] at hc; injection hc with hc; injection hc with _ hc; cases hc
        · obtain ⟨_, cur2, h2⟩ := HTY.out b hp.symm
          rw [hc] at h2; injection h2 with h2; injection h2 with _ h2; cases h2)
      have hB9 : Below w0.heap.size w0 W9 := HBW.out.trans (hOn9.base hsW (fun k hk => (HPB.out k hk).1))
      obtain ⟨x9, r9⟩ := HX.out W9 hOn9
      obtain ⟨q0, q1⟩ := heap2 x9
      have HCALL := Lib.hid (ints_any w0 W9.drew g sv (.slice (some ⟨k, 0, none⟩) i i) A ca s hB9.drew hG9 hgB hF9 HS.out HNS.out)
      have HK9 := Lib.hid (And.intro hOn9 (And.intro hG9 (And.intro hM9 (And.intro hF9 (And.intro hB9 r9)))))
      clear hW9 hOn9 hG9 hM9 hF9 hB9 x9 r9 ke ke0 pf
      have HR10 : Hid (∀ w', Only (HandP g sv) W9.drew w' → w'.heap[w.heap.size + 1]? = some (.cells #[.slice none 0 0, .slice none 0 0] 36 (0, 0))) := Lib.hid (fun w' h => by
        have hl : w.heap.size + 1 < W9.heap.size := (Array.getElem?_eq_some_iff.1 HK9.out.2.2.2.2.2).1
        refine (h.block _ hl (fun hp => ?_)).trans HK9.out.2.2.2.2.2
        rcases hp with hp | hp
        · have := HWW.out.2.2.2.1; omega
        · obtain ⟨_, cur, hc⟩ := HFS.out.ty _ hp.symm
          have := (Array.getElem?_eq_some_iff.1 hc).1
          omega)
      go_region_with (go_at_call 59; refine HCALL.out.mono ?_; rintro r w10 ⟨k1, c1, rfl, hX10⟩; have hr10 := HR10.out w10 hX10.2.2; obtain ⟨r0, r1⟩ := heap2 hr10; have rf0 : w10.frozen? ⟨w.heap.size + 1, 0, none⟩ = false := by { simp [World.frozen?, hr10] }; have rf1 : w10.frozen? ⟨w.heap.size + 1, 1, none⟩ = false := by { simp [World.frozen?, hr10] }; have HX10 := Lib.hid hX10; clear hX10)
      all_goals
        have HBL : Hid (∀ (v0 v1 : Value) (j : Nat), j ≠ w.heap.size + 1 → ((w10.setCell ⟨w.heap.size + 1, 0, none⟩ v0).setCell ⟨w.heap.size + 1, 1, none⟩ v1).heap[j]? = w10.heap[j]?) := Lib.hid fun v0 v1 j hj => (Below.heap_setCell _ _ _ _ hj).trans (Below.heap_setCell _ _ _ _ hj)
        have HRW : Hid (∀ (v0 v1 : Value), ((w10.setCell ⟨w.heap.size + 1, 0, none⟩ v0).setCell ⟨w.heap.size + 1, 1, none⟩ v1).heap[w.heap.size + 1]? = some (.cells #[v0, v1] 36 (0, 0))) := Lib.hid fun v0 v1 => by simp [World.setCell, Array.getElem?_modify, hr10]
        have HR0 := Lib.hid hr10
        clear r0 r1 rf0 rf1 hr10 q0 q1
        go_wp2_with fail
        refine bodyPost_ret (results_one_arr rfl rfl (HRW.out _ _)) rfl ?_
        have h10 := HX10.out
        have hne : ∀ (j : Nat) (e : TypeId) (cur : Array Value), e ≠ 36 → w10.heap[j]? = some (.cells cur e (0, 0)) → j ≠ w.heap.size + 1 := fun j e cur he hj hh => by
          subst hh
          rw [HR0.out] at hj; injection hj with hj; injection hj with _ hj; exact he hj.symm
        have hk10 : w10.heap[k]? = W9.heap[k]? := by
          obtain ⟨cur, h1, _⟩ := HK9.out.2.2.1.row
          refine h10.2.2.block k (Array.getElem?_eq_some_iff.1 h1).1 (fun hp => ?_)
          rcases hp with rfl | hp
          · have h := HK9.out.2.1; rw [h1] at h; injection h with h; injection h with _ h; cases h
          · obtain ⟨_, cur2, h2⟩ := HK9.out.2.2.2.1.ty _ hp.symm
            rw [h1] at h2; injection h2 with h2; injection h2 with _ h2; cases h2
        have hM := HK9.out.2.2.1.on hk10
        obtain ⟨curA, hA, _⟩ := hM.row
        obtain ⟨curI, hI, _⟩ := h10.2.1.row
        refine ⟨k1, c1, k, i, rfl, (HBL.out _ _ _ (hne g TH _ (by decide) h10.1)).trans h10.1, h10.2.1.on (HBL.out _ _ _ (hne k1 TI _ (by decide) hI)), hM.on (HBL.out _ _ _ (hne k TA _ (by decide) hA)), ?_⟩
        have h9 := HK9.out.1
        have hW := HWW.out.1
        refine ⟨h10.2.2.os.trans (h9.os.trans hW.os), h10.2.2.tape.trans (h9.tape.trans hW.tape), h10.2.2.output.trans (h9.output.trans hW.output), ?_, fun j hj hp => ?_⟩
        · have e1 : ∀ v0 v1 : Value, ((w10.setCell ⟨w.heap.size + 1, 0, none⟩ v0).setCell ⟨w.heap.size + 1, 1, none⟩ v1).heap.size = w10.heap.size := fun v0 v1 => by simp [World.setCell]
          rw [e1]
          have e2 := h10.2.2.size
          have e3 : W9.drew.heap.size = W9.heap.size := rfl
          have e4 := h9.size
          have e5 := hW.size
          omega
        · have e5 := hW.size
          have e4 := h9.size
          refine (HBL.out _ _ j (by omega)).trans ((h10.2.2.block j (by show j < W9.heap.size; omega) (fun hq => hp ?_)).trans ((h9.block j (by omega) (fun hq => hp ?_)).trans (hW.block j hj)))
          · rcases hq with h | h
            · exact .inl h
            · exact .inr (.inl h)
          · rcases hq with h | h
            · exact .inl h
            · exact .inr (.inr h)
end Go.Proofs.YtpipcpjkfgdpcaaDoor

namespace Go.Proofs.YtpipcpjkfgdpcaaDoor
open Go.RowKit

set_option maxHeartbeats 8000000 in
set_option maxRecDepth 100000 in
theorem kept_any (w0 w : World) (g k c k2 c2 : Nat) (A B : Option Addr) (ca cb : Nat) (s a : List Int) (hb : Below w0.heap.size w0 w) (hg : w.heap[g]? = some (.cells #[.slice (some ⟨k, 0, none⟩) c c, .slice (some ⟨k2, 0, none⟩) c2 c2] TH (0, 0)))
    (hms : Marks w w0.heap.size TI k c s (fun i => markI i) c) (hma : Marks w w0.heap.size TA k2 c2 a (fun i => markA i) c2) (hs : IntsAt w0 A s) (hl : IntsAt w0 B a) (hns : s.length ≤ 1099511627776) (hn : a.length ≤ 1099511627776) :
    Calls Tryd.prog 30 #[.pointer (some ⟨g, 0, none⟩), .agg #[.slice A s.length ca, .slice B a.length cb]] w fun e w' => e = .returned (.bool true) ∧
      w'.heap[g]? = some (.cells #[.slice (some ⟨k, 0, none⟩) c c, .slice (some ⟨k2, 0, none⟩) c2 c2] TH (0, 0)) ∧ FullRow w' w0.heap.size TI (.slice (some ⟨k, 0, none⟩) c c) ∧ FullRow w' w0.heap.size TA (.slice (some ⟨k2, 0, none⟩) c2 c2) ∧ Only (fun j => j = k ∨ j = k2) w w' := by
  have HB := Lib.hid hb
  have HS := Lib.hid hs
  have HL := Lib.hid hl
  have HG := Lib.hid hg
  have HMS := Lib.hid hms
  have HMA := Lib.hid hma
  have HNS := Lib.hid hns
  obtain ⟨n, hln⟩ : ∃ n, n = a.length := ⟨_, rfl⟩
  have HN := Lib.hid hln
  rw [← hln] at hn ⊢
  have hcm : c2 ≤ 9223372036854775807 := by have := hma.cap; unfold maxLen at this; omega
  have hgk : g ≠ k := fun e => by
    subst e
    obtain ⟨cur, h1, _⟩ := hms.row
    rw [h1] at hg; injection hg with hg; injection hg with _ hg; cases hg
  have hgk2 : g ≠ k2 := fun e => by
    subst e
    obtain ⟨cur, h1, _⟩ := hma.row
    rw [h1] at hg; injection hg with hg; injection hg with _ hg; cases hg
  have hkk : k ≠ k2 := fun e => by
    subst e
    obtain ⟨cur, h1, _⟩ := hma.row
    obtain ⟨cur2, h2, _⟩ := hms.row
    rw [h1] at h2; injection h2 with h2; injection h2 with _ h2; cases h2
  have HKK := Lib.hid (And.intro hgk (And.intro hgk2 hkk))
  have hlg : g < w.heap.size := (Array.getElem?_eq_some_iff.1 hg).1
  have hWb : Below w.heap.size w (w.alloc (.cells #[.slice A s.length ca, .slice B n cb] 36)) := (Below.refl _ _).alloc (Nat.le_refl _) _
  have hWx := heap_alloc_new w (.cells #[.slice A s.length ca, .slice B n cb] 36)
  have HWX := Lib.hid (And.intro hWb (And.intro hWx hlg))
  obtain ⟨x0, x1⟩ := heap2 hWx
  have HCALL := Lib.hid (intsKept_any w0 (w.alloc (.cells #[.slice A s.length ca, .slice B n cb] 36)).drew g k c (.slice (some ⟨k2, 0, none⟩) c2 c2) A ca s ((hb.then_ hWb).drew) ((hWb.block g hlg).trans hg) (hms.on (hWb.block k hms.lt)) hs hns)
  clear hb hs hl hg hms hma hns hln hgk hgk2 hkk hWx hWb hlg
  go_enter Tryd.func30, Tryd.ntmps30
  go_upto_region 1 with fail
  go_cut [5] from 8 (fun v wx => v = .bool true ∧ Hid (wx.heap[g]? = some (.cells #[.slice (some ⟨k, 0, none⟩) c c, .slice (some ⟨k2, 0, none⟩) c2 c2] TH (0, 0)) ∧ FullRow wx w0.heap.size TI (.slice (some ⟨k, 0, none⟩) c c) ∧ Only (fun j => j = k) (w.alloc (.cells #[.slice A s.length ca, .slice B n cb] 36)) wx))
  case first =>
    go_region_with (go_at_call 63; refine HCALL.out.mono ?_; rintro r w10 ⟨rfl, hX10⟩; have HX10 := Lib.hid hX10; clear hX10)
    all_goals
      go_wp2_with fail
      go_meet
      case rel => exact ⟨rfl, Lib.hid ⟨HX10.out.1, HX10.out.2.1, ⟨HX10.out.2.2.os, HX10.out.2.2.tape, HX10.out.2.2.output, HX10.out.2.2.size, HX10.out.2.2.block⟩⟩⟩
  obtain ⟨rfl, HX⟩ := hcut
  obtain ⟨W, hW⟩ : ∃ W, W = w.alloc (.cells #[.slice A s.length ca, .slice B n cb] 36) := ⟨_, rfl⟩
  rw [← hW] at HX HWX
  clear x0 x1 HCALL hW
  have HM2 : Hid (Left wc w0.heap.size TA k2 c2 a (fun i => markA i) 0) := Lib.hid (by
    refine (HMA.out.left.on (HWX.out.1.block k2 HMA.out.lt)).on (HX.out.2.2.block k2 (Nat.lt_of_lt_of_le HMA.out.lt HWX.out.1.size) (fun e => HKK.out.2.2 e.symm))
    )
  have HXB : Hid (∀ w', Only (fun j => j = k ∨ j = k2) W w' → w'.cell? ⟨w.heap.size, 1, none⟩ = some (.slice B n cb)) := Lib.hid (fun w' h => by
    refine (World.cell?_of_block (h.block w.heap.size (Array.getElem?_eq_some_iff.1 HWX.out.2.1).1 (fun e => ?_))).trans (heap2 HWX.out.2.1).2
    have h1 := HMA.out.lt
    have h2 := HMS.out.lt
    rcases e with e | e <;> omega)
  go_wp2_with fail
  go_loopw [5, 6] (fun v5 v6 wr => ∃ i : Nat, i ≤ c2 ∧ v5 = .bool true ∧ v6 = .int .i64 i ∧ Hid (Left wr w0.heap.size TA k2 c2 a (fun i => markA i) i ∧ wr.heap[g]? = some (.cells #[.slice (some ⟨k, 0, none⟩) c c, .slice (some ⟨k2, 0, none⟩) c2 c2] TH (0, 0)) ∧ FullRow wr w0.heap.size TI (.slice (some ⟨k, 0, none⟩) c c) ∧ Only (fun j => j = k ∨ j = k2) W wr)) (fun _ v6 _ => c2 - (intOf v6).toNat)
  case atStart => exact ⟨0, Nat.zero_le _, rfl, rfl, Lib.hid ⟨HM2.out, HX.out.1, HX.out.2.1, HX.out.2.2.mono (fun _ _ h => .inl h)⟩⟩
  case round =>
    obtain ⟨i, hic, rfl, rfl, HI⟩ := hrel
    obtain ⟨ke0, ke⟩ := heap2 HI.out.2.1
    have kx := HXB.out wr HI.out.2.2.2
    by_cases hlt : i < c2
    · obtain ⟨kc, fc⟩ := HI.out.1.cell hlt
      have hii : (i : Int) < c2 := by omega
      have HSET : Hid (Left (wr.setCell ⟨k2, i, none⟩ (.int .i64 (-99))) w0.heap.size TA k2 c2 a (fun i => markA i) (i + 1) ∧ (wr.setCell ⟨k2, i, none⟩ (.int .i64 (-99))).heap[g]? = some (.cells #[.slice (some ⟨k, 0, none⟩) c c, .slice (some ⟨k2, 0, none⟩) c2 c2] TH (0, 0)) ∧ FullRow (wr.setCell ⟨k2, i, none⟩ (.int .i64 (-99))) w0.heap.size TI (.slice (some ⟨k, 0, none⟩) c c) ∧ Only (fun j => j = k ∨ j = k2) W (wr.setCell ⟨k2, i, none⟩ (.int .i64 (-99)))) := Lib.hid
        ⟨HI.out.1.set _, (Below.heap_setCell _ _ _ _ HKK.out.2.1).trans HI.out.2.1, HI.out.2.2.1.kept (fun j hj => Below.heap_setCell _ _ _ _ (fun e => by injection hj with hj; exact HKK.out.2.2 (hj.trans e))), HI.out.2.2.2.set _ _ (fun _ => .inr rfl)⟩
      by_cases hin : i < n
      · obtain ⟨x, hx⟩ : ∃ x, a[i]? = some x := ⟨_, List.getElem?_eq_getElem (by rw [← HN.out]; exact hin)⟩
        have hini : (i : Int) < n := by omega
        obtain ⟨b, off, rfl, hbl, kq0⟩ := HL.out i x hx
        have kq : wr.cell? ⟨b, off + i, none⟩ = some (.int .i64 x) := by
          have h1 := ((HB.out.then_ HWX.out.1).cell (p := ⟨b, off + i, none⟩) hbl).trans kq0
          refine (World.cell?_of_block (HI.out.2.2.2.block b ?_ ?_)).trans h1
          · have := HB.out.size; have := HWX.out.1.size; omega
          · have h2 := HMS.out.base; have h3 := HMA.out.base; omega
        rw [hx, Option.getD_some] at kc
        clear hx kq0 hbl
        go_wp2_with fail
        refine (mark4_any i _).mono ?_
        rintro e w8 ⟨rfl, rfl⟩
        go_wp2_with fail
        exact ⟨⟨i + 1, by omega, by first | rfl | simp, by go_num, HSET⟩, by simp [intOf]; omega⟩
      · have hini : ¬ (i : Int) < n := by omega
        have hx : a[i]? = none := List.getElem?_eq_none (by rw [← HN.out]; omega)
        rw [hx, Option.getD_none] at kc
        clear hx
        go_wp2_with fail
        refine (mark4_any i _).mono ?_
        rintro e w8 ⟨rfl, rfl⟩
        go_wp2_with fail
        exact ⟨⟨i + 1, by omega, by first | rfl | simp, by go_num, HSET⟩, by simp [intOf]; omega⟩
    · obtain rfl : i = c2 := by omega
      have hge : ¬ (i : Int) < i := by omega
      go_wp2_with fail
      go_ret
      refine ⟨rfl, HI.out.2.1, HI.out.2.2.1, HI.out.1.full, ?_⟩
      have h := HI.out.2.2.2
      have hW := HWX.out.1
      exact ⟨h.os.trans hW.os, h.tape.trans hW.tape, h.output.trans hW.output, Nat.le_trans hW.size h.size, fun j hj hp => (h.block j (Nat.lt_of_lt_of_le hj hW.size) hp).trans (hW.block j hj)⟩
end Go.Proofs.YtpipcpjkfgdpcaaDoor
