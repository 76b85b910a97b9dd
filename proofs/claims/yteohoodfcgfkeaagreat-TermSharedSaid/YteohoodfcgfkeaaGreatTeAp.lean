/- append of numbers, none or some, onto nothing or a row of one's own. No condition. -/
import Derived.Test.YteohoodfcgfkeaaGreatTeWd
import Derived.Deep.AppendLies
import Derived.Deep.RegionLaw
import Derived.Deep.RegionWith
import Derived.Deep.Upon
import Derived.Deep.Cut
namespace Go.Proofs.YteohoodfcgfkeaaGreat
open Go.RowKit

section
variable {P : Program}
/-- numbers are appended, none or some -/
theorem run_append_ints (w : World) (t ty : TypeId) (base : Nat) (e : TypeId) (i : TypeInfo) (ht : P.underlying t = some (.slice e)) (hi : P.info? e = some i) (hz : i.zero = some (.int .i64 0)) (hsize : i.size = 1) (hby : i.bytes = 8)
    (v : Value) (n : Nat) (xs : List Value) (hown : w.ownsRow base e 1 v n xs) (Q : Option Addr) (cq : Nat) (l : List Int) (hl : IntsAt w Q l) (hbytes : (n + l.length) * 8 ≤ 140737488355328) (hbase : base ≤ w.heap.size) :
    ∃ v' w', (Builtin.append_ #[t, t] ty #[v, .slice Q l.length cq]).run P w = .ok v' w' ∧ w'.ownsRow base e 1 v' (n + l.length) (xs ++ l.map fun x => .int .i64 x) ∧ w.grownBy w' v.ownBlock ∧ (v'.ownBlock = v.ownBlock ∨ v'.ownBlock = some w.heap.size) := by
  cases l with
  | nil =>
    have hs : Src P i.size t (.slice Q 0 cq) 0 [] w := by
      cases Q with
      | none => exact Src.ofNil w ht cq
      | some a => exact Src.ofSlice w ht a 0 cq [] (by simp) (fun j u hu => by simp at hu) (fun u hu => by simp at hu)
    have key : ∀ A c, v = .slice A n c → n ≤ c → (Builtin.append_ #[t, t] ty #[v, .slice Q 0 cq]).run P w = .ok v w := by
      rintro A c rfl hc
      exact run_append_nothing (P := P) w t t ty e i ht hi A n c hc _ hs
    refine ⟨v, w, ?_, by simpa using hown, ⟨rfl, rfl, rfl, Nat.le_refl _, fun _ _ _ => rfl⟩, .inl rfl⟩
    rcases hown.2 with ⟨rfl, rfl⟩ | ⟨g, cap, cur, rfl, _, _, hc, _⟩
    · exact key none 0 rfl (Nat.le_refl _)
    · exact key _ cap rfl hc
  | cons x r =>
    obtain ⟨b, off, rfl, hb, _⟩ := hl 0 x rfl
    obtain ⟨v', w', h1, h2, h3, _, h5⟩ := run_append_own_at (P := P) w base t ty e i (.int .i64 0) 1 8 ht hi hz hsize hby rfl (by decide) v n xs hown ⟨b, off, none⟩ (x :: r).length cq ((x :: r).map fun x => Value.int .i64 x) (by simp) (fun j u hu => by
      rw [List.getElem?_map] at hu
      obtain ⟨y, hy, rfl⟩ := Option.map_eq_some_iff.1 hu
      obtain ⟨b', off', e, _, hc⟩ := hl j y hy
      simp only [Option.some.injEq, Addr.mk.injEq, and_true] at e
      obtain ⟨rfl, rfl⟩ := e
      have e2 : (⟨b, off, none⟩ : Addr).add j = ⟨b, off + j, none⟩ := by unfold Addr.add; split <;> simp_all
      rw [e2]
      exact hc) (fun u hu => by
      obtain ⟨y, _, rfl⟩ := List.mem_map.1 hu
      rfl) (by unfold maxLen; omega) hbytes hbase
    exact ⟨v', w', h1, h2, h3, h5⟩
theorem wp_append_ints {o : Oper} {a : Act} {K : Act → World → Prop} {Q' : Exit → Act → World → Prop} (w : World) (s x : Operand) (t : TypeId)
    (ho : o.op = .call { callee := .builtin .append, args := #[s, x], argTypes := #[t, t] })
    (base : Nat) (e : TypeId) (i : TypeInfo) (ht : P.underlying t = some (.slice e)) (hi : P.info? e = some i) (hz : i.zero = some (.int .i64 0)) (hsize : i.size = 1) (hby : i.bytes = 8)
    (v : Value) (n : Nat) (xs : List Value) (hs : a.eval s = v) (hown : w.ownsRow base e 1 v n xs) (Q : Option Addr) (cq : Nat) (l : List Int) (m : Nat) (hm : m = l.length) (hx : a.eval x = .slice Q m cq) (hl : IntsAt w Q l) (hbytes : (n + m) * 8 ≤ 140737488355328) (hbase : base ≤ w.heap.size)
    (h : ∀ v' w', w'.ownsRow base e 1 v' (n + m) (xs ++ l.map fun x => .int .i64 x) → w.grownBy w' v.ownBlock → (v'.ownBlock = v.ownBlock ∨ v'.ownBlock = some w.heap.size) → K (a.put o.dst v') w') : o.wp P a w K Q' := by
  subst hm
  obtain ⟨v', w', hr, h2, h3, h4⟩ := run_append_ints (P := P) w t o.type base e i ht hi hz hsize hby v n xs hown Q cq l hl hbytes hbase
  unfold Oper.wp execOp
  simp only [ho, resolve, invoke, builtin, Sem.run_bind, Sem.run_pure, Result.andThen_ok, List.map_toArray, List.map_cons, List.map_nil, hs, hx, hr]
  exact h v' w' h2 h3 h4
theorem wpList_append_ints {ops : Array Oper} {rest : List Oper} {o : Oper} {a : Act} {Q' : Exit → Act → World → Prop} (w : World) (hgd : o.guard = none) (s x : Operand) (t : TypeId)
    (ho : o.op = .call { callee := .builtin .append, args := #[s, x], argTypes := #[t, t] })
    (base : Nat) (e : TypeId) (i : TypeInfo) (ht : P.underlying t = some (.slice e)) (hi : P.info? e = some i) (hz : i.zero = some (.int .i64 0)) (hsize : i.size = 1) (hby : i.bytes = 8)
    (v : Value) (n : Nat) (xs : List Value) (hs : a.eval s = v) (hown : w.ownsRow base e 1 v n xs) (Q : Option Addr) (cq : Nat) (l : List Int) (m : Nat) (hm : m = l.length) (hx : a.eval x = .slice Q m cq) (hl : IntsAt w Q l) (hbytes : (n + m) * 8 ≤ 140737488355328) (hbase : base ≤ w.heap.size)
    (h : ∀ v' w', w'.ownsRow base e 1 v' (n + m) (xs ++ l.map fun x => .int .i64 x) → w.grownBy w' v.ownBlock → (v'.ownBlock = v.ownBlock ∨ v'.ownBlock = some w.heap.size) → wpList P ops Q' rest (a.put o.dst v') w') : wpList P ops Q' (o :: rest) a w :=
  wpList_plain hgd fun _ hK => wp_append_ints w s x t ho base e i ht hi hz hsize hby v n xs hs hown Q cq l m hm hx hl hbytes hbase fun v' w' h2 h3 h4 => hK _ _ (h v' w' h2 h3 h4)
theorem step_append_ints {ops : Array Oper} {o : Oper} {a : Act} {K : Act → World → Prop} {Q' : Exit → Act → World → Prop} {E : Prop} (w : World) (hgd : o.guard = none) (s x : Operand) (t : TypeId)
    (ho : o.op = .call { callee := .builtin .append, args := #[s, x], argTypes := #[t, t] })
    (base : Nat) (e : TypeId) (i : TypeInfo) (ht : P.underlying t = some (.slice e)) (hi : P.info? e = some i) (hz : i.zero = some (.int .i64 0)) (hsize : i.size = 1) (hby : i.bytes = 8)
    (v : Value) (n : Nat) (xs : List Value) (hs : a.eval s = v) (hown : w.ownsRow base e 1 v n xs) (Q : Option Addr) (cq : Nat) (l : List Int) (m : Nat) (hm : m = l.length) (hx : a.eval x = .slice Q m cq) (hl : IntsAt w Q l) (hbytes : (n + m) * 8 ≤ 140737488355328) (hbase : base ≤ w.heap.size)
    (h : ∀ v' w', w'.ownsRow base e 1 v' (n + m) (xs ++ l.map fun x => .int .i64 x) → w.grownBy w' v.ownBlock → (v'.ownBlock = v.ownBlock ∨ v'.ownBlock = some w.heap.size) → K (a.put o.dst v') w') :
    if Region.wanted o (yielded ops a.tmps) = true then Oper.wp P o a w K Q' else E := by
  have hw : Region.wanted o (yielded ops a.tmps) = true := by simp [Region.wanted, hgd]
  rw [if_pos hw]
  exact wp_append_ints w s x t ho base e i ht hi hz hsize hby v n xs hs hown Q cq l m hm hx hl hbytes hbase h
end
end Go.Proofs.YteohoodfcgfkeaaGreat
