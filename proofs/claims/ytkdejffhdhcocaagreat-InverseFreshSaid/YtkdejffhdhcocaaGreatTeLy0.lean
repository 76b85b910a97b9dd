/- append into room; rows with marks behind them. Plain laws. No condition. -/
import Derived.Test.YtkdejffhdhcocaaGreatTeMC
import Derived.Laws.OwnMore
namespace Go.Proofs.YtkdejffhdhcocaaGreat
open Go.RowKit

section
variable {P : Program}
/-- numbers are appended into room, none or some -/
theorem run_append_into (w : World) (t ty : TypeId) (base : Nat) (e : TypeId) (i : TypeInfo) (ht : P.underlying t = some (.slice e)) (hi : P.info? e = some i) (hsize : i.size = 1)
    (g n cap : Nat) (xs : List Value) (hown : w.ownsRow base e 1 (.slice (some ⟨g, 0, none⟩) n cap) n xs) (Q : Option Addr) (cq : Nat) (l : List Int) (hl : IntsAt w Q l) (hroom : n + l.length ≤ cap) :
    ∃ w', (Builtin.append_ #[t, t] ty #[.slice (some ⟨g, 0, none⟩) n cap, .slice Q l.length cq]).run P w = .ok (.slice (some ⟨g, 0, none⟩) (n + l.length) cap) w' ∧ w'.ownsRow base e 1 (.slice (some ⟨g, 0, none⟩) (n + l.length) cap) (n + l.length) (xs ++ l.map fun x => .int .i64 x) ∧ w.grownBy w' (some g) := by
  cases l with
  | nil =>
    have hs : Src P i.size t (.slice Q 0 cq) 0 [] w := by
      cases Q with
      | none => exact Src.ofNil w ht cq
      | some a => exact Src.ofSlice w ht a 0 cq [] (by simp) (fun j u hu => by simp at hu) (fun u hu => by simp at hu)
    have h := run_append_nothing (P := P) w t t ty e i ht hi (some ⟨g, 0, none⟩) n cap (by simpa using hroom) _ hs
    exact ⟨w, by simpa using h, by simpa using hown, ⟨rfl, rfl, rfl, Nat.le_refl _, fun _ _ _ => rfl⟩⟩
  | cons x r =>
    obtain ⟨b, off, rfl, hb, _⟩ := hl 0 x rfl
    obtain ⟨w', h1, h2, h3⟩ := run_append_fits (P := P) (w := w) base t ty e i 1 ht hi hsize g n cap xs hown ⟨b, off, none⟩ (x :: r).length cq ((x :: r).map fun x => Value.int .i64 x) (by simp) (fun j u hu => by
      rw [List.getElem?_map] at hu
      obtain ⟨y, hy, rfl⟩ := Option.map_eq_some_iff.1 hu
      obtain ⟨b', off', e, _, hc⟩ := hl j y hy
      simp only [Option.some.injEq, Addr.mk.injEq, and_true] at e
      obtain ⟨rfl, rfl⟩ := e
      have e2 : (⟨b, off, none⟩ : Addr).add j = ⟨b, off + j, none⟩ := by unfold Addr.add; split <;> simp_all
      rw [e2]
      exact hc) (fun u hu => by
      obtain ⟨y, _, rfl⟩ := List.mem_map.1 hu
      rfl) hroom
    exact ⟨w', h1, h2, h3⟩
theorem wp_append_into {o : Oper} {a : Act} {K : Act → World → Prop} {Q' : Exit → Act → World → Prop} (w : World) (s x : Operand) (t : TypeId)
    (ho : o.op = .call { callee := .builtin .append, args := #[s, x], argTypes := #[t, t] })
    (base : Nat) (e : TypeId) (i : TypeInfo) (ht : P.underlying t = some (.slice e)) (hi : P.info? e = some i) (hsize : i.size = 1)
    (g n cap : Nat) (xs : List Value) (hs : a.eval s = .slice (some ⟨g, 0, none⟩) n cap) (hown : w.ownsRow base e 1 (.slice (some ⟨g, 0, none⟩) n cap) n xs) (Q : Option Addr) (cq : Nat) (l : List Int) (m : Nat) (hm : m = l.length) (hx : a.eval x = .slice Q m cq) (hl : IntsAt w Q l) (hroom : n + m ≤ cap)
    (h : ∀ w', w'.ownsRow base e 1 (.slice (some ⟨g, 0, none⟩) (n + m) cap) (n + m) (xs ++ l.map fun x => .int .i64 x) → w.grownBy w' (some g) → K (a.put o.dst (.slice (some ⟨g, 0, none⟩) (n + m) cap)) w') : o.wp P a w K Q' := by
  subst hm
  obtain ⟨w', hr, h2, h3⟩ := run_append_into (P := P) w t o.type base e i ht hi hsize g n cap xs hown Q cq l hl hroom
  unfold Oper.wp execOp
  simp only [ho, resolve, invoke, builtin, Sem.run_bind, Sem.run_pure, Result.andThen_ok, List.map_toArray, List.map_cons, List.map_nil, hs, hx, hr]
  exact h w' h2 h3
theorem step_append_into {ops : Array Oper} {o : Oper} {a : Act} {K : Act → World → Prop} {Q' : Exit → Act → World → Prop} {E : Prop} (w : World) (hgd : o.guard = none) (s x : Operand) (t : TypeId)
    (ho : o.op = .call { callee := .builtin .append, args := #[s, x], argTypes := #[t, t] })
    (base : Nat) (e : TypeId) (i : TypeInfo) (ht : P.underlying t = some (.slice e)) (hi : P.info? e = some i) (hsize : i.size = 1)
    (g n cap : Nat) (xs : List Value) (hs : a.eval s = .slice (some ⟨g, 0, none⟩) n cap) (hown : w.ownsRow base e 1 (.slice (some ⟨g, 0, none⟩) n cap) n xs) (Q : Option Addr) (cq : Nat) (l : List Int) (m : Nat) (hm : m = l.length) (hx : a.eval x = .slice Q m cq) (hl : IntsAt w Q l) (hroom : n + m ≤ cap)
    (h : ∀ w', w'.ownsRow base e 1 (.slice (some ⟨g, 0, none⟩) (n + m) cap) (n + m) (xs ++ l.map fun x => .int .i64 x) → w.grownBy w' (some g) → K (a.put o.dst (.slice (some ⟨g, 0, none⟩) (n + m) cap)) w') :
    if Region.wanted o (yielded ops a.tmps) = true then Oper.wp P o a w K Q' else E := by
  have hw : Region.wanted o (yielded ops a.tmps) = true := by simp [Region.wanted, hgd]
  rw [if_pos hw]
  exact wp_append_into w s x t ho base e i ht hi hsize g n cap xs hs hown Q cq l m hm hx hl hroom h
/-- elements are appended into room -/
theorem wp_append_fits {o : Oper} {a : Act} {K : Act → World → Prop} {Q' : Exit → Act → World → Prop} (w : World) (s x : Operand) (t : TypeId)
    (ho : o.op = .call { callee := .builtin .append, args := #[s, x], argTypes := #[t, t] })
    (base : Nat) (e : TypeId) (i : TypeInfo) (size : Nat) (ht : P.underlying t = some (.slice e)) (hi : P.info? e = some i) (hsize : i.size = size)
    (g n cap : Nat) (xs : List Value) (hs : a.eval s = .slice (some ⟨g, 0, none⟩) n cap) (hown : w.ownsRow base e size (.slice (some ⟨g, 0, none⟩) n cap) n xs) (ad : Addr) (m c : Nat) (news : List Value) (hx : a.eval x = .slice (some ad) m c)
    (hl : news.length = m * size) (hnews : ∀ j u, news[j]? = some u → w.cell? (ad.add j) = some u) (h1 : ∀ u ∈ news, u.oneCell' = true) (hroom : n + m ≤ cap)
    (h : ∀ w', w'.ownsRow base e size (.slice (some ⟨g, 0, none⟩) (n + m) cap) (n + m) (xs ++ news) → w.grownBy w' (some g) → K (a.put o.dst (.slice (some ⟨g, 0, none⟩) (n + m) cap)) w') : o.wp P a w K Q' := by
  obtain ⟨w', hr, h2, h3⟩ := run_append_fits (P := P) (w := w) base t o.type e i size ht hi hsize g n cap xs hown ad m c news hl hnews h1 hroom
  unfold Oper.wp execOp
  simp only [ho, resolve, invoke, builtin, Sem.run_bind, Sem.run_pure, Result.andThen_ok, List.map_toArray, List.map_cons, List.map_nil, hs, hx, hr]
  exact h w' h2 h3
theorem wpList_append_fits {ops : Array Oper} {rest : List Oper} {o : Oper} {a : Act} {Q' : Exit → Act → World → Prop} (w : World) (hgd : o.guard = none) (s x : Operand) (t : TypeId)
    (ho : o.op = .call { callee := .builtin .append, args := #[s, x], argTypes := #[t, t] })
    (base : Nat) (e : TypeId) (i : TypeInfo) (size : Nat) (ht : P.underlying t = some (.slice e)) (hi : P.info? e = some i) (hsize : i.size = size)
    (g n cap : Nat) (xs : List Value) (hs : a.eval s = .slice (some ⟨g, 0, none⟩) n cap) (hown : w.ownsRow base e size (.slice (some ⟨g, 0, none⟩) n cap) n xs) (ad : Addr) (m c : Nat) (news : List Value) (hx : a.eval x = .slice (some ad) m c)
    (hl : news.length = m * size) (hnews : ∀ j u, news[j]? = some u → w.cell? (ad.add j) = some u) (h1 : ∀ u ∈ news, u.oneCell' = true) (hroom : n + m ≤ cap)
    (h : ∀ w', w'.ownsRow base e size (.slice (some ⟨g, 0, none⟩) (n + m) cap) (n + m) (xs ++ news) → w.grownBy w' (some g) → wpList P ops Q' rest (a.put o.dst (.slice (some ⟨g, 0, none⟩) (n + m) cap)) w') : wpList P ops Q' (o :: rest) a w :=
  wpList_plain hgd fun _ hK => wp_append_fits w s x t ho base e i size ht hi hsize g n cap xs hs hown ad m c news hx hl hnews h1 hroom fun w' h2 h3 => hK _ _ (h w' h2 h3)
end
/-- a row with some elements behind it: the row alone, and what lies behind it -/
theorem row_marked {w : World} {B z : Nat} {t : TypeId} {vs ms : List Value} {g n m c : Nat} (h : w.ownsRow B t z (.slice (some ⟨g, 0, none⟩) (n + m) c) (n + m) (vs ++ ms)) (hl : vs.length = n * z) (h0 : 0 < n + m) :
    RowOwn w B t z ⟨some ⟨g, 0, none⟩, n, c⟩ vs ∧ n + m ≤ c ∧ g < w.heap.size ∧ B ≤ g ∧ ∀ j u, ms[j]? = some u → w.cell? ⟨g, n * z + j, none⟩ = some u := by
  obtain ⟨e, hr⟩ := h
  rcases hr with ⟨hr, _⟩ | ⟨g', cap, cur, hr, hg, hc, hn, hm, hs, ht⟩
  · simp at hr
  · simp only [Value.slice.injEq, Option.some.injEq, Addr.mk.injEq, and_true, true_and] at hr
    obtain ⟨rfl, rfl⟩ := hr
    have hsz : (n + m) * z ≤ cur.size := by rw [hs]; exact Nat.mul_le_mul_right _ hn
    refine ⟨⟨hl, .inr ⟨g, cur, rfl, by show n ≤ c; omega, by show 0 < c; omega, hm, hg, hc, Nat.le_of_eq hs.symm, ?_⟩⟩, hn, heap_lt hc, hg, fun j u hj => ?_⟩
    · have h1 := congrArg (List.take (n * z)) ht
      rw [List.take_take, List.take_left' hl, Nat.min_eq_left (Nat.mul_le_mul_right _ (Nat.le_add_right n m))] at h1
      exact h1
    · have hjl := (List.getElem?_eq_some_iff.1 hj).1
      have h1 : (vs ++ ms)[n * z + j]? = some u := by rw [← hl, List.getElem?_append_right (Nat.le_add_right _ _), Nat.add_sub_cancel_left]; exact hj
      rw [← ht, List.getElem?_take] at h1
      split at h1
      · exact cell_at hc (by simpa using h1)
      · cases h1
/-- a new row without elements -/
theorem row_new (W : World) (z : Value) (n k : Nat) (t : TypeId) {B : Nat} (hB : B ≤ W.heap.size) (hn : n ≤ maxLen) : (W.alloc (.cells (madeCells z.cells (n * k)) t)).ownsRow B t k (.slice (some ⟨W.heap.size, 0, none⟩) 0 n) 0 [] :=
  World.ownsRow_made W _ n hB hn (size_madeCells _ _)
/-- the numbers of a new pair -/
theorem pair_at (W : World) (x y : Int) (t : TypeId) : IntsAt (W.alloc (.cells #[.int .i64 x, .int .i64 y] t)) (some ⟨W.heap.size, 0, none⟩) [x, y] := fun i u hu => by
  refine ⟨W.heap.size, 0, rfl, by simp, ?_⟩
  have hh := heap_alloc_new W (.cells #[.int .i64 x, .int .i64 y] t)
  match i, hu with
  | 0, hu => simp at hu; subst hu; exact cell_at hh rfl
  | 1, hu => simp at hu; subst hu; exact cell_at hh rfl
end Go.Proofs.YtkdejffhdhcocaaGreat
