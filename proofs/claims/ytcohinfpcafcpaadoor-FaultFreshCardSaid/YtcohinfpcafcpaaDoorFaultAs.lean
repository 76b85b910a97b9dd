/- errors.As at a concrete target, by its contract: along the chain of an error the first one of the target's type is found. Condition: errors.errorType holds the handle of the type error. -/
import Derived.Test.YtcohinfpcafcpaaDoorFaultErr
import Derived.LaidEql
import Derived.Stop.Asserts
import Derived.RowKitTokens
import Derived.Deep.LoopGhost
namespace Go.Proofs.YtcohinfpcafcpaaDoor
open Go.RowKit Go.Extern.Stop Go.Stop Go.Extern

/-- the handle of a type, as package reflectlite keeps it -/
abbrev hnd (T : TypeId) : Value := .pointer (some ⟨4, T, none⟩)
abbrev rty (T : TypeId) : Value := .iface 84 (.agg #[hnd T])
theorem rlm (z : Sem Value) (f : TypeId → Addr → Nat → Nat → Sem Value) (v : Value) :
    ReflectliteValue.method z f #[v] = (do match ← ReflectliteValue.parts v with | none => z | some (t, a, fl) => f t a fl (fl % 32)) := rfl
theorem rls (v x : Value) : ReflectliteValue.set #[v, x] = (do
    let (some (dst, a, fl), some (src, b, _)) := (← ReflectliteValue.parts v, ← ReflectliteValue.parts x)
      | unsupported (.noEntry "extern/(internal/reflectlite.Value).Set.zeroValue")
    if fl / ReflectliteValue.flagAddr % 2 == 0 then unsupported (.noEntry "extern/(internal/reflectlite.Value).Set.unaddressable")
    let val ← loadVar src b
    if ← Rtype.directlyAssignable dst src then storeVar dst a val
    else if ← Rtype.implements dst src then
      if (← Rtype.kind src) == 20 then
        match val with
        | .nilIface => unsupported (.noEntry "extern/reflectlite: a nil value of one interface type handed on as a value of another")
        | _ => storeVar dst a val
      else storeVar dst a (.iface src val)
    else panicString ("reflectlite.Set: value of type " ++ (← Rtype.spelt src) ++ " is not assignable to type " ++ (← Rtype.spelt dst))
    pure (.tuple #[])) := rfl

/-- what the model's entries for package reflectlite give at a target of type G' that points to a G (an Errno, a pointer): k: the kind of G -/
structure Tgt (G G' : TypeId) (k fl1 fl2 : Int) : Prop where
  valueOf' : ∀ (t : Addr) (w : World), (ReflectliteValue.unpack (.iface G' (.pointer (some t)))).run Tryd.prog w = .ok (.agg #[hnd G', .pointer (some ⟨w.heap.size, 0, none⟩), .int .u64 150]) (w.alloc (.cells #[.pointer (some t)] G'))
  typeV : ∀ (a : Addr) (w : World), (ReflectliteValue.methodAny (ReflectliteValue.valueError "reflectlite.Value.Type" 0) (fun t _ _ _ => ReflectliteType.toType t) #[.agg #[hnd G', .pointer (some a), .int .u64 150]]).run Tryd.prog w = .ok (rty G') w
  kind' : ∀ w : World, ((ReflectliteType.abiMethod fun t => (fun a : Nat => Value.int IntKind.u8 (a : Int)) <$> Rtype.kind t) #[hnd G']).run Tryd.prog w = .ok (.int .u8 22) w
  kind : ∀ w : World, ((ReflectliteType.abiMethod fun t => (fun a : Nat => Value.int IntKind.u8 (a : Int)) <$> Rtype.kind t) #[hnd G]).run Tryd.prog w = .ok (.int .u8 k) w
  hk : (k != 20) = true
  isNil : ∀ (a p : Addr) (W : World), W.cell? a = some (.pointer (some p)) →
    (ReflectliteValue.method (ReflectliteValue.valueError "reflectlite.Value.IsNil" 0) ReflectliteValue.isNil #[.agg #[hnd G', .pointer (some a), .int .u64 150]]).run Tryd.prog W = .ok (.bool false) W
  elemT : ∀ w : World, (ReflectliteType.method ReflectliteType.elem #[.agg #[hnd G']]).run Tryd.prog w = .ok (rty G) w
  impl : ∀ w : World, (ReflectliteType.relation "Implements" ReflectliteType.implements_ #[.agg #[hnd G], rty 29]).run Tryd.prog w = .ok (.bool true) w
  valueOf : ∀ (x : Value) (w : World), x.oneCell' = true → (ReflectliteValue.unpack (.iface G x)).run Tryd.prog w = .ok (.agg #[hnd G, .pointer (some ⟨w.heap.size, 0, none⟩), .int .u64 fl1]) (w.alloc (.cells #[x] G))
  elemV : ∀ (a p : Addr) (W : World), W.cell? a = some (.pointer (some p)) →
    (ReflectliteValue.method (ReflectliteValue.valueError "reflectlite.Value.Elem" 0) ReflectliteValue.elem #[.agg #[hnd G', .pointer (some a), .int .u64 150]]).run Tryd.prog W = .ok (.agg #[hnd G, .pointer (some p), .int .u64 fl2]) W
  set : ∀ (tb b : Nat) (x old : Value) (W : World), W.cell? ⟨b, 0, none⟩ = some x → W.cell? ⟨tb, 0, none⟩ = some old → W.frozen? ⟨tb, 0, none⟩ = false → x.oneCell' = true →
    (ReflectliteValue.set #[.agg #[hnd G, .pointer (some ⟨tb, 0, none⟩), .int .u64 fl2], .agg #[hnd G, .pointer (some ⟨b, 0, none⟩), .int .u64 fl1]]).run Tryd.prog W = .ok (.tuple #[]) (W.setCell ⟨tb, 0, none⟩ x)


/-! ### the target errno -/
theorem errno_parts' (a : Addr) (w : World) : (ReflectliteValue.parts (.agg #[hnd 39, .pointer (some a), .int .u64 150])).run Tryd.prog w = .ok (some (39, a, 150)) w := by kernel_rfl
theorem errno_elemOf (w : World) : (Rtype.elem? 39).run Tryd.prog w = .ok (some 24) w := by kernel_rfl
theorem errno_mk (p : Addr) (w : World) : (ReflectliteValue.mk 24 p ReflectliteValue.flagAddr).run Tryd.prog w = .ok (.agg #[hnd 24, .pointer (some p), .int .u64 386]) w := by kernel_rfl
theorem errno_partsA (a : Addr) (w : World) : (ReflectliteValue.parts (.agg #[hnd 24, .pointer (some a), .int .u64 386])).run Tryd.prog w = .ok (some (24, a, 386)) w := by kernel_rfl
theorem errno_parts (a : Addr) (w : World) : (ReflectliteValue.parts (.agg #[hnd 24, .pointer (some a), .int .u64 130])).run Tryd.prog w = .ok (some (24, a, 130)) w := by kernel_rfl
theorem errno_direct (w : World) : (Rtype.directlyAssignable 24 24).run Tryd.prog w = .ok true w := by kernel_rfl
theorem errno_isAgg (w : World) : (isAgg 24).run Tryd.prog w = .ok false w := by kernel_rfl
theorem errno_isAgg' (w : World) : (isAgg 39).run Tryd.prog w = .ok false w := by kernel_rfl
theorem errno_tgt : Tgt 24 39 2 130 386 where
  valueOf' := fun _ _ => by kernel_rfl
  typeV := fun _ _ => by kernel_rfl
  kind' := fun _ => by kernel_rfl
  kind := fun _ => by kernel_rfl
  hk := by decide
  isNil := fun a p W ha => by
    rw [rlm]
    simp only [Sem.run_bind, errno_parts', Result.andThen]
    simp [ReflectliteValue.isNil, loadVar, isAgg, underlying, Tryd.underlying39, ha, Result.andThen]
  elemT := fun _ => by kernel_rfl
  impl := fun _ => by kernel_rfl
  valueOf := fun x w hx => by
    cases x <;> first | (simp [Value.oneCell'] at hx; done) | kernel_rfl
  elemV := fun a p W ha => by
    rw [rlm]
    simp only [Sem.run_bind, errno_parts', Result.andThen]
    simp [ReflectliteValue.elem, loadVar, isAgg, underlying, Tryd.underlying39, ha, Result.andThen, errno_elemOf, errno_mk]
  set := fun tb b x old W hb ht hf hx => by
    rw [rls]
    simp only [Sem.run_bind, errno_partsA, errno_parts, Result.andThen]
    have hc : x.cells = #[x] := by cases x <;> first | rfl | cases hx
    have hs : ∀ m, (store ⟨tb, 0, none⟩ x m).run Tryd.prog W = stored Tryd.prog W ⟨tb, 0, none⟩ x m := fun m => run_store Tryd.prog W _ _ m hx
    simp [ReflectliteValue.flagAddr, loadVar, hb, Result.andThen, errno_direct, storeVar, hc, storeCells, Addr.add, stored, hs, ht, hf]

/-! ### the target met -/
theorem met_parts' (a : Addr) (w : World) : (ReflectliteValue.parts (.agg #[hnd 96, .pointer (some a), .int .u64 150])).run Tryd.prog w = .ok (some (96, a, 150)) w := by kernel_rfl
theorem met_elemOf (w : World) : (Rtype.elem? 96).run Tryd.prog w = .ok (some 77) w := by kernel_rfl
theorem met_mk (p : Addr) (w : World) : (ReflectliteValue.mk 77 p ReflectliteValue.flagAddr).run Tryd.prog w = .ok (.agg #[hnd 77, .pointer (some p), .int .u64 406]) w := by kernel_rfl
theorem met_partsA (a : Addr) (w : World) : (ReflectliteValue.parts (.agg #[hnd 77, .pointer (some a), .int .u64 406])).run Tryd.prog w = .ok (some (77, a, 406)) w := by kernel_rfl
theorem met_parts (a : Addr) (w : World) : (ReflectliteValue.parts (.agg #[hnd 77, .pointer (some a), .int .u64 150])).run Tryd.prog w = .ok (some (77, a, 150)) w := by kernel_rfl
theorem met_direct (w : World) : (Rtype.directlyAssignable 77 77).run Tryd.prog w = .ok true w := by kernel_rfl
theorem met_isAgg (w : World) : (isAgg 77).run Tryd.prog w = .ok false w := by kernel_rfl
theorem met_isAgg' (w : World) : (isAgg 96).run Tryd.prog w = .ok false w := by kernel_rfl
theorem met_tgt : Tgt 77 96 22 150 406 where
  valueOf' := fun _ _ => by kernel_rfl
  typeV := fun _ _ => by kernel_rfl
  kind' := fun _ => by kernel_rfl
  kind := fun _ => by kernel_rfl
  hk := by decide
  isNil := fun a p W ha => by
    rw [rlm]
    simp only [Sem.run_bind, met_parts', Result.andThen]
    simp [ReflectliteValue.isNil, loadVar, isAgg, underlying, Tryd.underlying96, ha, Result.andThen]
  elemT := fun _ => by kernel_rfl
  impl := fun _ => by kernel_rfl
  valueOf := fun x w hx => by
    cases x <;> first | (simp [Value.oneCell'] at hx; done) | kernel_rfl
  elemV := fun a p W ha => by
    rw [rlm]
    simp only [Sem.run_bind, met_parts', Result.andThen]
    simp [ReflectliteValue.elem, loadVar, isAgg, underlying, Tryd.underlying96, ha, Result.andThen, met_elemOf, met_mk]
  set := fun tb b x old W hb ht hf hx => by
    rw [rls]
    simp only [Sem.run_bind, met_partsA, met_parts, Result.andThen]
    have hc : x.cells = #[x] := by cases x <;> first | rfl | cases hx
    have hs : ∀ m, (store ⟨tb, 0, none⟩ x m).run Tryd.prog W = stored Tryd.prog W ⟨tb, 0, none⟩ x m := fun m => run_store Tryd.prog W _ _ m hx
    simp [ReflectliteValue.flagAddr, loadVar, hb, Result.andThen, met_direct, storeVar, hc, storeCells, Addr.add, stored, hs, ht, hf]

/-! ### the target within -/
theorem within_parts' (a : Addr) (w : World) : (ReflectliteValue.parts (.agg #[hnd 70, .pointer (some a), .int .u64 150])).run Tryd.prog w = .ok (some (70, a, 150)) w := by kernel_rfl
theorem within_elemOf (w : World) : (Rtype.elem? 70).run Tryd.prog w = .ok (some 69) w := by kernel_rfl
theorem within_mk (p : Addr) (w : World) : (ReflectliteValue.mk 69 p ReflectliteValue.flagAddr).run Tryd.prog w = .ok (.agg #[hnd 69, .pointer (some p), .int .u64 406]) w := by kernel_rfl
theorem within_partsA (a : Addr) (w : World) : (ReflectliteValue.parts (.agg #[hnd 69, .pointer (some a), .int .u64 406])).run Tryd.prog w = .ok (some (69, a, 406)) w := by kernel_rfl
theorem within_parts (a : Addr) (w : World) : (ReflectliteValue.parts (.agg #[hnd 69, .pointer (some a), .int .u64 150])).run Tryd.prog w = .ok (some (69, a, 150)) w := by kernel_rfl
theorem within_direct (w : World) : (Rtype.directlyAssignable 69 69).run Tryd.prog w = .ok true w := by kernel_rfl
theorem within_isAgg (w : World) : (isAgg 69).run Tryd.prog w = .ok false w := by kernel_rfl
theorem within_isAgg' (w : World) : (isAgg 70).run Tryd.prog w = .ok false w := by kernel_rfl
theorem within_tgt : Tgt 69 70 22 150 406 where
  valueOf' := fun _ _ => by kernel_rfl
  typeV := fun _ _ => by kernel_rfl
  kind' := fun _ => by kernel_rfl
  kind := fun _ => by kernel_rfl
  hk := by decide
  isNil := fun a p W ha => by
    rw [rlm]
    simp only [Sem.run_bind, within_parts', Result.andThen]
    simp [ReflectliteValue.isNil, loadVar, isAgg, underlying, Tryd.underlying70, ha, Result.andThen]
  elemT := fun _ => by kernel_rfl
  impl := fun _ => by kernel_rfl
  valueOf := fun x w hx => by
    cases x <;> first | (simp [Value.oneCell'] at hx; done) | kernel_rfl
  elemV := fun a p W ha => by
    rw [rlm]
    simp only [Sem.run_bind, within_parts', Result.andThen]
    simp [ReflectliteValue.elem, loadVar, isAgg, underlying, Tryd.underlying70, ha, Result.andThen, within_elemOf, within_mk]
  set := fun tb b x old W hb ht hf hx => by
    rw [rls]
    simp only [Sem.run_bind, within_partsA, within_parts, Result.andThen]
    have hc : x.cells = #[x] := by cases x <;> first | rfl | cases hx
    have hs : ∀ m, (store ⟨tb, 0, none⟩ x m).run Tryd.prog W = stored Tryd.prog W ⟨tb, 0, none⟩ x m := fun m => run_store Tryd.prog W _ _ m hx
    simp [ReflectliteValue.flagAddr, loadVar, hb, Result.andThen, within_direct, storeVar, hc, storeCells, Addr.add, stored, hs, ht, hf]
end Go.Proofs.YtcohinfpcafcpaaDoor
