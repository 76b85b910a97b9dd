/- errors.as and errors.As along a chain of errors: the first one of the target's type is found, and set. Condition: errors.errorType holds the handle of the type error. -/
import Derived.Test.YtcohinfpcafcpaaDoorFaultAs
namespace Go.Proofs.YtcohinfpcafcpaaDoor
open Go.RowKit Go.Extern.Stop Go.Stop Go.Extern

/-- what an error wraps -/
def Err.next : Err → Option Err
  | .met _ c _ => some (.errno c)
  | .within _ e _ => some e
  | .outer _ e => some e
  | .other .. => none
  | .errno _ => none
def Err.depth : Err → Nat
  | .met .. => 2
  | .within _ e _ => e.depth + 1
  | .outer _ e => e.depth + 1
  | .other .. => 1
  | .errno _ => 1
/-- the first one along the chain that is of type G: what it is -/
def Err.find (G : TypeId) : Err → Option Value
  | .met b c _ => if 77 = G then some (.pointer (some ⟨b, 0, none⟩)) else if 24 = G then some (.int .i64 c) else none
  | .within b e _ => if 69 = G then some (.pointer (some ⟨b, 0, none⟩)) else e.find G
  | .outer b e => if 53 = G then some (.pointer (some ⟨b, 0, none⟩)) else e.find G
  | .other b _ => if 80 = G then some (.pointer (some ⟨b, 0, none⟩)) else none
  | .errno c => if 24 = G then some (.int .i64 c) else none
theorem find_here {G : TypeId} : ∀ {e : Err}, e.ty = G → e.find G = some e.dat
  | .met .., h => by simp [Err.find, Err.ty, Err.dat] at *; simp [h]
  | .within .., h => by simp [Err.find, Err.ty, Err.dat] at *; simp [h]
  | .outer .., h => by simp [Err.find, Err.ty, Err.dat] at *; simp [h]
  | .other .., h => by simp [Err.find, Err.ty, Err.dat] at *; simp [h]
  | .errno _, h => by simp [Err.find, Err.ty, Err.dat] at *; simp [h]
theorem find_next {G : TypeId} : ∀ {e e' : Err}, ¬ e.ty = G → e.next = some e' → e.find G = e'.find G
  | .met .., _, h, hn => by simp only [Err.next, Option.some.injEq] at hn; subst hn; simp [Err.find, Err.ty] at *; intro h'; exact absurd h' h
  | .within .., _, h, hn => by simp only [Err.next, Option.some.injEq] at hn; subst hn; simp [Err.find, Err.ty] at *; intro h'; exact absurd h' h
  | .outer .., _, h, hn => by simp only [Err.next, Option.some.injEq] at hn; subst hn; simp [Err.find, Err.ty] at *; intro h'; exact absurd h' h
  | .other .., _, _, hn => by cases hn
  | .errno _, _, _, hn => by cases hn
theorem find_end {G : TypeId} : ∀ {e : Err}, ¬ e.ty = G → e.next = none → e.find G = none
  | .met .., _, hn => by cases hn
  | .within .., _, hn => by cases hn
  | .outer .., _, hn => by cases hn
  | .other .., h, _ => by simp [Err.find, Err.ty] at *; exact h
  | .errno _, h, _ => by simp [Err.find, Err.ty] at *; exact h
theorem next_depth : ∀ {e e' : Err}, e.next = some e' → e'.depth < e.depth
  | .met .., _, hn => by simp only [Err.next, Option.some.injEq] at hn; subst hn; simp [Err.depth]
  | .within .., _, hn => by simp only [Err.next, Option.some.injEq] at hn; subst hn; simp [Err.depth]
  | .outer .., _, hn => by simp only [Err.next, Option.some.injEq] at hn; subst hn; simp [Err.depth]
  | .other .., _, hn => by cases hn
  | .errno _, _, hn => by cases hn
theorem depth_pos : ∀ (e : Err), 0 < e.depth
  | .met .. => by simp [Err.depth]
  | .within .. => by simp [Err.depth]
  | .outer .. => by simp [Err.depth]
  | .other .. => by simp [Err.depth]
  | .errno _ => by simp [Err.depth]
theorem next_at {w : World} : ∀ {e e' : Err}, e.next = some e' → ErrAt w e → ErrAt w e'
  | .met .., _, hn, _ => by simp only [Err.next, Option.some.injEq] at hn; subst hn; trivial
  | .within .., _, hn, h => by simp only [Err.next, Option.some.injEq] at hn; subst hn; exact h.2
  | .outer .., _, hn, h => by simp only [Err.next, Option.some.injEq] at hn; subst hn; exact h.2
  | .other .., _, hn, _ => by cases hn
  | .errno _, _, hn, _ => by cases hn
theorem dat_one : ∀ (e : Err), e.dat.oneCell' = true
  | .met .. => rfl
  | .within .. => rfl
  | .outer .. => rfl
  | .other .. => rfl
  | .errno _ => rfl

/-! ### closed facts on an error's dynamic type -/
theorem dyn_typeOf (e : Err) (w : World) : (ReflectliteType.typeOf #[.iface e.ty e.dat]).run Tryd.prog w = .ok (rty e.ty) w := by cases e <;> kernel_rfl
theorem dyn_noAs (e : Err) (xT : TypeId) (w : World) : (Instr.typeAssert (.iface e.ty e.dat) xT 88 true).run Tryd.prog w = .ok (.tuple #[.nilIface, .bool false]) w := by
  cases e <;> exact run_typeAssert_lacksB Tryd.underlying88 (by kernel_rfl) (by kernel_rfl) _ xT w
theorem dyn_noIs (e : Err) (xT : TypeId) (w : World) : (Instr.typeAssert (.iface e.ty e.dat) xT 99 true).run Tryd.prog w = .ok (.tuple #[.nilIface, .bool false]) w := by
  cases e <;> exact run_typeAssert_lacksB Tryd.underlying99 (by kernel_rfl) (by kernel_rfl) _ xT w
theorem dyn_hasU {e e' : Err} (h : e.next = some e') (xT : TypeId) (w : World) : (Instr.typeAssert (.iface e.ty e.dat) xT 91 true).run Tryd.prog w = .ok (.tuple #[.iface e.ty e.dat, .bool true]) w := by
  cases e with
  | other => cases h
  | errno => cases h
  | met => exact run_typeAssert_hasB Tryd.underlying91 (by kernel_rfl) _ xT w
  | within => exact run_typeAssert_hasB Tryd.underlying91 (by kernel_rfl) _ xT w
  | outer => exact run_typeAssert_hasB Tryd.underlying91 (by kernel_rfl) _ xT w
theorem dyn_noU {e : Err} (h : e.next = none) (xT : TypeId) (w : World) : (Instr.typeAssert (.iface e.ty e.dat) xT 91 true).run Tryd.prog w = .ok (.tuple #[.nilIface, .bool false]) w := by
  cases e with
  | met => cases h
  | within => cases h
  | outer => cases h
  | other => exact run_typeAssert_lacksB Tryd.underlying91 (by kernel_rfl) (by kernel_rfl) _ xT w
  | errno => exact run_typeAssert_lacksB Tryd.underlying91 (by kernel_rfl) (by kernel_rfl) _ xT w
theorem dyn_noUs {e : Err} (h : e.next = none) (xT : TypeId) (w : World) : (Instr.typeAssert (.iface e.ty e.dat) xT 93 true).run Tryd.prog w = .ok (.tuple #[.nilIface, .bool false]) w := by
  cases e with
  | met => cases h
  | within => cases h
  | outer => cases h
  | other => exact run_typeAssert_lacksB Tryd.underlying93 (by kernel_rfl) (by kernel_rfl) _ xT w
  | errno => exact run_typeAssert_lacksB Tryd.underlying93 (by kernel_rfl) (by kernel_rfl) _ xT w

/-! ### Unwrap() -/
theorem met_unwrap (b : Nat) (c a : Int) (w : World) (h : ErrAt w (.met b c a)) : Calls Tryd.prog 72 #[.pointer (some ⟨b, 0, none⟩)] w fun e w' => e = .returned (.iface 24 (.int .i64 c)) ∧ w = w' := by
  have h' : w.heap[b]? = some (.cells #[.int .i64 c, .int .i64 a] 79 (0, 0)) := h
  have k0 : w.cell? ⟨b, 0, none⟩ = some (.int .i64 c) := by simp [World.cell?, h']
  clear h h'
  go_enter Tryd.func72, Tryd.ntmps72
  go_wp2
  go_ret
  exact ⟨rfl, rfl⟩
theorem within_unwrap (b : Nat) (e0 : Err) (s : ByteArray) (w : World) (h : ErrAt w (.within b e0 s)) : Calls Tryd.prog 70 #[.pointer (some ⟨b, 0, none⟩)] w fun e w' => e = .returned (.iface e0.ty e0.dat) ∧ w = w' := by
  have h' : w.heap[b]? = some (.cells #[.iface e0.ty e0.dat, .string s] 72 (0, 0)) := h.1
  have k0 : w.cell? ⟨b, 0, none⟩ = some (.iface e0.ty e0.dat) := by simp [World.cell?, h']
  clear h h'
  go_enter Tryd.func70, Tryd.ntmps70
  go_wp2
  go_ret
  exact ⟨rfl, rfl⟩
theorem outer_unwrap (b : Nat) (e0 : Err) (w : World) (h : ErrAt w (.outer b e0)) : Calls Tryd.prog 65 #[.pointer (some ⟨b, 0, none⟩)] w fun e w' => e = .returned (.iface e0.ty e0.dat) ∧ w = w' := by
  have h' : w.heap[b]? = some (.cells #[.iface e0.ty e0.dat] 55 (0, 0)) := h.1
  have k0 : w.cell? ⟨b, 0, none⟩ = some (.iface e0.ty e0.dat) := by simp [World.cell?, h']
  clear h h'
  go_enter Tryd.func65, Tryd.ntmps65
  go_wp2
  go_ret
  exact ⟨rfl, rfl⟩
theorem unwrap_met (a : Addr) : Meth "Unwrap" 77 (.pointer (some a)) 72 := ⟨fun _ => by kernel_rfl, fun _ => by kernel_rfl, enters_of Tryd.func72 (by kernel_rfl) rfl⟩
theorem unwrap_within (a : Addr) : Meth "Unwrap" 69 (.pointer (some a)) 70 := ⟨fun _ => by kernel_rfl, fun _ => by kernel_rfl, enters_of Tryd.func70 (by kernel_rfl) rfl⟩
theorem unwrap_outer (a : Addr) : Meth "Unwrap" 53 (.pointer (some a)) 65 := ⟨fun _ => by kernel_rfl, fun _ => by kernel_rfl, enters_of Tryd.func65 (by kernel_rfl) rfl⟩
theorem dyn_unwrap {e e' : Err} (h : e.next = some e') : ∃ f, Meth "Unwrap" e.ty e.dat f ∧ ∀ W, ErrAt W e → Calls Tryd.prog f #[e.dat] W fun r W' => r = .returned (.iface e'.ty e'.dat) ∧ W = W' := by
  cases e with
  | other => cases h
  | errno => cases h
  | met b c a => simp only [Err.next, Option.some.injEq] at h; subst h; exact ⟨_, unwrap_met _, fun W hW => met_unwrap b c a W hW⟩
  | within b e0 s => simp only [Err.next, Option.some.injEq] at h; subst h; exact ⟨_, unwrap_within _, fun W hW => within_unwrap b e0 s W hW⟩
  | outer b e0 => simp only [Err.next, Option.some.injEq] at h; subst h; exact ⟨_, unwrap_outer _, fun W hW => outer_unwrap b e0 W hW⟩

/-- what errors.As leaves: found, the target's variable set; or not -/
def AsPost (G : TypeId) (tb : Nat) (r : Option Value) (w : World) (e : Ending) (w' : World) : Prop :=
  match r with
  | some x => e = .returned (.bool true) ∧ w'.heap[tb]? = some (.cells #[x] G (0, 0)) ∧ w.grownBy w' (some tb)
  | none => e = .returned (.bool false) ∧ Below w.heap.size w w'

/-- which of the errors fit: one closed fact a target -/
abbrev Fits (G : TypeId) : Prop := ∀ (e : Err) (w : World), (ReflectliteType.relation "AssignableTo" ReflectliteType.assignableTo #[.agg #[hnd e.ty], rty G]).run Tryd.prog w = .ok (.bool (e.ty == G)) w
theorem fits_errno : Fits 24 := fun e w => by cases e <;> kernel_rfl
theorem fits_met : Fits 77 := fun e w => by cases e <;> kernel_rfl
theorem fits_within : Fits 69 := fun e w => by cases e <;> kernel_rfl

theorem rt_kind (h : Value) (w : World) : (Go.method 248 84 (.agg #[h]) "Kind").run Tryd.prog w = .ok (61, h) w := by kernel_rfl
theorem rt_elem (h : Value) (w : World) : (Go.method 248 84 (.agg #[h]) "Elem").run Tryd.prog w = .ok (77, .agg #[h]) w := by kernel_rfl
theorem rt_implements (h : Value) (w : World) : (Go.method 248 84 (.agg #[h]) "Implements").run Tryd.prog w = .ok (78, .agg #[h]) w := by kernel_rfl
theorem rt_assignable (h : Value) (w : World) : (Go.method 248 84 (.agg #[h]) "AssignableTo").run Tryd.prog w = .ok (75, .agg #[h]) w := by kernel_rfl

theorem set_at {w1 : World} {tb : Nat} {old x : Value} {G : TypeId} (h : w1.heap[tb]? = some (.cells #[old] G (0, 0))) :
    ((w1.setCell ⟨tb, 0, none⟩ x).alloc (.cells #[x] G)).heap[tb]? = some (.cells #[x] G (0, 0)) := by
  refine (Below.heap_alloc _ _ tb (by simpa [World.setCell] using at_lt h)).trans ?_
  simp [World.setCell, Array.getElem?_modify, h]
theorem set_grown {w w1 : World} {tb : Nat} {x : Value} {G : TypeId} (hb : Below w.heap.size w w1) :
    w.grownBy ((w1.setCell ⟨tb, 0, none⟩ x).alloc (.cells #[x] G)) (some tb) := by
  have hz := hb.size
  refine ⟨hb.os, hb.tape, hb.output, by simp [World.setCell]; omega, fun i hi hne => ?_⟩
  refine (Below.heap_alloc _ _ i (by simp [World.setCell]; omega)).trans ?_
  exact (Below.heap_setCell _ ⟨tb, 0, none⟩ x i (fun h => hne (by rw [h]))).trans (hb.block i hi)
theorem cell_lt {w : World} {p : Addr} {v : Value} (h : w.cell? p = some v) : p.block < w.heap.size := by
  rcases Nat.lt_or_ge p.block w.heap.size with hlt | hge
  · exact hlt
  · simp [World.cell?, Array.getElem?_eq_none hge] at h
set_option maxRecDepth 100000 in
set_option maxHeartbeats 4000000 in
theorem as_loop {G G' : TypeId} {k fl1 fl2 : Int} (hT : Tgt G G' k fl1 fl2) (hF : Fits G) (e : Err) (tb q : Nat) (old tv : Value) (w : World) (hE : ErrAt w e)
    (hq : w.cell? ⟨q, 0, none⟩ = some (.pointer (some ⟨tb, 0, none⟩))) (ht : w.heap[tb]? = some (.cells #[old] G (0, 0))) :
    Calls Tryd.prog 26 #[.iface e.ty e.dat, tv, .agg #[hnd G', .pointer (some ⟨q, 0, none⟩), .int .u64 150], rty G] w (AsPost G tb (e.find G) w) := by
  have h23 := @run_callFunc_extern Tryd.prog 23 _ (fun args => ReflectliteValue.unpack (args.getD 0 (.tuple #[]))) Tryd.func23 (by kernel_rfl) (by kernel_rfl) (by kernel_rfl) (by kernel_rfl)
  have h31 := @run_callFunc_extern Tryd.prog 31 _ ReflectliteType.typeOf Tryd.func31 (by kernel_rfl) (by kernel_rfl) (by kernel_rfl) (by kernel_rfl)
  have h75 := @run_callFunc_extern Tryd.prog 75 _ (ReflectliteType.relation "AssignableTo" ReflectliteType.assignableTo) Tryd.func75 (by kernel_rfl) (by kernel_rfl) (by kernel_rfl) (by kernel_rfl)
  have h33 := @run_callFunc_extern Tryd.prog 33 _ (ReflectliteValue.method (ReflectliteValue.valueError "reflectlite.Value.Elem" 0) ReflectliteValue.elem) Tryd.func33 (by kernel_rfl) (by kernel_rfl) (by kernel_rfl) (by kernel_rfl)
  have h34 := @run_callFunc_extern Tryd.prog 34 _ ReflectliteValue.set Tryd.func34 (by kernel_rfl) (by kernel_rfl) (by kernel_rfl) (by kernel_rfl)
  have mA := rt_assignable
  go_enter Tryd.func26, Tryd.ntmps26
  go_wp2_with fail
  obtain ⟨w1, hw1⟩ : ∃ w1, w1 = w.alloc (.cells #[hnd G', .pointer (some ⟨q, 0, none⟩), .int .u64 150] 59) := ⟨_, rfl⟩
  have z1 : w1.heap.size = w.heap.size + 1 := by rw [hw1]; simp
  have B1 : Below w.heap.size w w1 := by rw [hw1]; exact (Below.refl _ _).alloc (Nat.le_refl _) _
  have c0 : w1.cell? ⟨w.heap.size, 0, none⟩ = some (hnd G') := by rw [hw1, World.cell?_alloc_new]; rfl
  have c1 : w1.cell? ⟨w.heap.size, 1, none⟩ = some (.pointer (some ⟨q, 0, none⟩)) := by rw [hw1, World.cell?_alloc_new]; rfl
  have c2 : w1.cell? ⟨w.heap.size, 2, none⟩ = some (.int .u64 150) := by rw [hw1, World.cell?_alloc_new]; rfl
  rw [← hw1]
  have ht1 : w1.heap[tb]? = some (.cells #[old] G (0, 0)) := (B1.block tb (at_lt ht)).trans ht
  have hq1 : w1.cell? ⟨q, 0, none⟩ = some (.pointer (some ⟨tb, 0, none⟩)) := (B1.cell (cell_lt hq)).trans hq
  have hE1 : ErrAt w1 e := hE.on B1
  have HT1 := Lib.hid ht1
  have HE1 := Lib.hid hE1
  have HW1 := Lib.hid hw1
  have Z1 := Lib.hid z1
  clear ht1 hE1 hw1 z1 hE ht hq
  go_loopg [0] e.depth (fun n v wr => ∃ e' : Err, v = .iface e'.ty e'.dat ∧ ErrAt w1 e' ∧ e'.find G = e.find G ∧ e'.depth ≤ n ∧ w1 = wr)
  case atStart => exact ⟨e, rfl, HE1.out, rfl, Nat.le_refl _, rfl⟩
  case round =>
    obtain ⟨e1, rfl, hA, hfind, hd, rfl⟩ := hrel
    have HF := Lib.hid hfind
    have HA := Lib.hid hA
    clear hfind hA
    have tO := dyn_typeOf e1
    have aF := hF e1
    have nA := dyn_noAs e1
    by_cases hG : e1.ty = G
    · have hGb : (e1.ty == G) = true := by simp [hG]
      have HG := Lib.hid hG
      clear hG
      have eV := hT.elemV ⟨q, 0, none⟩ ⟨tb, 0, none⟩ w1 hq1
      have vV : ∀ W, (ReflectliteValue.unpack (.iface e1.ty e1.dat)).run Tryd.prog W = .ok (.agg #[hnd G, .pointer (some ⟨W.heap.size, 0, none⟩), .int .u64 fl1]) (W.alloc (.cells #[e1.dat] G)) := fun W => by rw [HG.out]; exact hT.valueOf _ W (dat_one _)
      have hlt1 : tb < w1.heap.size := at_lt HT1.out
      have st := hT.set tb w1.heap.size e1.dat old (w1.alloc (.cells #[e1.dat] G)) (by rw [World.cell?_alloc_new]; rfl)
        (by rw [World.cell?_alloc_lt _ _ ⟨tb, 0, none⟩ hlt1]; simp [World.cell?, HT1.out])
        (by rw [World.frozen?_alloc_old _ _ ⟨tb, 0, none⟩ (Nat.ne_of_lt hlt1)]; simp [World.frozen?, HT1.out]) (dat_one _)
      go_wp2_with fail
      go_ret
      rw [← HF.out, find_here HG.out]
      exact ⟨rfl, set_at HT1.out, set_grown B1⟩
    · have hGb : (e1.ty == G) = false := by simp [hG]
      have HG := Lib.hid hG
      clear hG
      cases hn : e1.next with
      | none =>
        have nU := dyn_noU hn
        have nUs := dyn_noUs hn
        have HN := Lib.hid hn
        clear hn
        go_wp2_with fail
        go_ret
        rw [← HF.out, find_end HG.out HN.out]
        exact ⟨rfl, B1⟩
      | some e2 =>
        have hU := dyn_hasU hn
        obtain ⟨f, ⟨un, um, uf⟩, hc⟩ := dyn_unwrap hn
        have HN := Lib.hid hn
        have HC := Lib.hid hc
        clear hn hc
        go_wp2_with fail
        refine (HC.out _ HA.out).mono ?_
        rintro r w' ⟨rfl, rfl⟩
        go_wp2_with fail
        go_roundg e2.depth
        case rel => exact ⟨e2, rfl, next_at HN.out HA.out, by rw [← find_next HG.out HN.out]; exact HF.out, Nat.le_refl _, rfl⟩
        case measure => have := next_depth HN.out; omega
end Go.Proofs.YtcohinfpcafcpaaDoor
