/- errors.is and errors.Is along a chain of errors: true just if the target is met on the way. No condition. -/
import Derived.Test.YtcohinfpcafcpaaDoorFaultStep
import Derived.LaidEql
import Derived.Lib.IfaceEq
import Derived.Stop.Asserts
namespace Go.Proofs.YtcohinfpcafcpaaDoor
open Go.RowKit Go.Extern.Stop Go.Stop Go.Extern

/-- the same error: one type, one block; for a number the same number -/
def Err.same : Err → Err → Bool
  | .met b _ _, .met b' _ _ => b == b'
  | .within b _ _, .within b' _ _ => b == b'
  | .outer b _, .outer b' _ => b == b'
  | .other b _, .other b' _ => b == b'
  | .errno c, .errno c' => c == c'
  | _, _ => false
/-- is the target met along the chain? -/
def Err.has : Err → Err → Bool
  | .met b c a, t => (Err.met b c a).same t || (Err.errno c).same t
  | .within b e s, t => (Err.within b e s).same t || e.has t
  | .outer b e, t => (Err.outer b e).same t || e.has t
  | .other b s, t => (Err.other b s).same t
  | .errno c, t => (Err.errno c).same t
theorem has_here {t : Err} : ∀ {e : Err}, e.same t = true → e.has t = true
  | .met .., h => by simp [Err.has, h]
  | .within .., h => by simp [Err.has, h]
  | .outer .., h => by simp [Err.has, h]
  | .other .., h => by simp [Err.has, h]
  | .errno _, h => by simp [Err.has, h]
theorem has_next {t : Err} : ∀ {e e' : Err}, e.same t = false → e.next = some e' → e.has t = e'.has t
  | .met .., _, h, hn => by simp only [Err.next, Option.some.injEq] at hn; subst hn; simp [Err.has, h]
  | .within .., _, h, hn => by simp only [Err.next, Option.some.injEq] at hn; subst hn; simp [Err.has, h]
  | .outer .., _, h, hn => by simp only [Err.next, Option.some.injEq] at hn; subst hn; simp [Err.has, h]
  | .other .., _, _, hn => by cases hn
  | .errno _, _, _, hn => by cases hn
theorem has_end {t : Err} : ∀ {e : Err}, e.same t = false → e.next = none → e.has t = false
  | .met .., _, hn => by cases hn
  | .within .., _, hn => by cases hn
  | .outer .., _, hn => by cases hn
  | .other .., h, _ => by simp [Err.has, h]
  | .errno _, h, _ => by simp [Err.has, h]
theorem same_self : ∀ (e : Err), e.same e = true
  | .met .. => by simp [Err.same]
  | .within .. => by simp [Err.same]
  | .outer .. => by simp [Err.same]
  | .other .. => by simp [Err.same]
  | .errno _ => by simp [Err.same]
theorem has_root {b : Nat} {c a x : Int} : ∀ {e : Err}, e.root = .met b c a → e.has (.errno x) = (c == x)
  | .met .., h => by simp only [Err.root, Err.met.injEq] at h; obtain ⟨rfl, rfl, rfl⟩ := h; simp [Err.has, Err.same]
  | .within _ e _, h => by rw [Err.has, has_root (e := e) h]; simp [Err.same]
  | .outer _ e, h => by rw [Err.has, has_root (e := e) h]; simp [Err.same]
  | .other .., h => by cases h
  | .errno _, h => by cases h

theorem eql_ptr (T G : TypeId) (b b' : Nat) (ca cb : Array Value) (ta tb : TypeId) (w : World) (hp : Tryd.prog.underlying T = some (.pointer G)) (hc : (Tryd.prog.info? T).map (·.comparable) = some true) (hs : ((Tryd.prog.info? G).map fun i => decide (i.size ≠ 0)) = some true)
    (ha : w.heap[b]? = some (.cells ca ta (0, 0))) (hb : w.heap[b']? = some (.cells cb tb (0, 0))) :
    (binOp .eql 29 (.iface T (.pointer (some ⟨b, 0, none⟩))) (.iface T (.pointer (some ⟨b', 0, none⟩)))).run Tryd.prog w = .ok (.bool (b == b')) w := by
  obtain ⟨i, hi, hcmp⟩ := Option.map_eq_some_iff.1 hc
  obtain ⟨j, hj, hjs⟩ := Option.map_eq_some_iff.1 hs
  by_cases h : b = b'
  · subst h
    rw [beq_self_eq_true]
    exact run_eql_iface_ptr_same (P := Tryd.prog) w ⟨b, 0, none⟩ Tryd.underlying29 hp hi hcmp hj
  · rw [show (b == b') = false by simp [h]]
    exact run_eql_iface_ptr_other (P := Tryd.prog) w Tryd.underlying29 hp hi hcmp hj (of_decide_eq_true hjs) (fun k => h (by injection k)) ha hb

theorem eql_types {w : World} (e t : Err) (h : (e.ty == t.ty) = false) (hs : e.same t = false) : (binOp .eql 29 (.iface e.ty e.dat) (.iface t.ty t.dat)).run Tryd.prog w = .ok (.bool (e.same t)) w := by
  rw [hs]
  exact run_eql_iface_types _ _ _ _ Tryd.underlying29 (by simpa using h) w
set_option maxRecDepth 100000 in
set_option maxHeartbeats 4000000 in
theorem dyn_eql {w : World} : ∀ (e t : Err), ErrAt w e → ErrAt w t → (binOp .eql 29 (.iface e.ty e.dat) (.iface t.ty t.dat)).run Tryd.prog w = .ok (.bool (e.same t)) w := by
  intro e t he ht
  cases e <;> cases t <;> first
    | exact eql_types _ _ rfl rfl
    | exact Lib.run_eql_iface_int w _ _ Tryd.underlying29 (by kernel_rfl) Tryd.underlying24
    | exact eql_ptr _ _ _ _ _ _ _ _ w Tryd.underlying77 (by kernel_rfl) (by kernel_rfl) he ht
    | exact eql_ptr _ _ _ _ _ _ _ _ w Tryd.underlying80 (by kernel_rfl) (by kernel_rfl) he ht
    | exact eql_ptr _ _ _ _ _ _ _ _ w Tryd.underlying69 (by kernel_rfl) (by kernel_rfl) he.1 ht.1
    | exact eql_ptr _ _ _ _ _ _ _ _ w Tryd.underlying53 (by kernel_rfl) (by kernel_rfl) he.1 ht.1

def compFn : Array Value → Sem Value := ReflectliteType.method fun t => do Rtype.noPackHeld "Comparable" t; pure (.bool (← typeInfo t).comparable)
theorem dyn_comparable (e : Err) (w : World) : (compFn #[.agg #[hnd e.ty]]).run Tryd.prog w = .ok (.bool true) w := by cases e <;> kernel_rfl
theorem rt_comparable (h : Value) (w : World) : (Go.method 248 84 (.agg #[h]) "Comparable").run Tryd.prog w = .ok (76, .agg #[h]) w := by kernel_rfl

set_option maxRecDepth 100000 in
set_option maxHeartbeats 4000000 in
theorem is_loop (e t : Err) (w : World) (hE : ErrAt w e) (hT : ErrAt w t) :
    Calls Tryd.prog 32 #[.iface e.ty e.dat, .iface t.ty t.dat, .bool true] w fun r w' => r = .returned (.bool (e.has t)) ∧ w = w' := by
  have HE := Lib.hid hE
  have HT := Lib.hid hT
  clear hE hT
  go_enter Tryd.func32, Tryd.ntmps32
  go_wp2_with fail
  go_loopg [0] e.depth (fun n v wr => ∃ e' : Err, v = .iface e'.ty e'.dat ∧ ErrAt w e' ∧ e'.has t = e.has t ∧ e'.depth ≤ n ∧ w = wr)
  case atStart => exact ⟨e, rfl, HE.out, rfl, Nat.le_refl _, rfl⟩
  case round =>
    obtain ⟨e1, rfl, hA, hfind, hd, rfl⟩ := hrel
    have HF := Lib.hid hfind
    have HA := Lib.hid hA
    have eq := dyn_eql e1 t hA HT.out
    clear hfind hA
    have nI := dyn_noIs e1
    cases hS : e1.same t with
    | true =>
      rw [hS] at eq
      have HS := Lib.hid hS
      clear hS
      go_wp2_with fail
      go_ret
      rw [← HF.out, has_here HS.out]
      exact ⟨rfl, rfl⟩
    | false =>
      rw [hS] at eq
      have HS := Lib.hid hS
      clear hS
      cases hn : e1.next with
      | none =>
        have nU := dyn_noU hn
        have nUs := dyn_noUs hn
        have HN := Lib.hid hn
        clear hn
        go_wp2_with fail
        go_ret
        rw [← HF.out, has_end HS.out HN.out]
        exact ⟨rfl, rfl⟩
      | some e2 =>
        have hU := dyn_hasU hn
        obtain ⟨f, ⟨un, um, uf⟩, hc⟩ := dyn_unwrap hn
        have HN := Lib.hid hn
        have HC := Lib.hid hc
        clear hn hc
        go_wp2_with fail
        refine (HC.out _ HA.out).mono ?_
        rintro r w' ⟨rfl, rfl⟩
        go_wp2_with fail
        go_roundg e2.depth
        case rel => exact ⟨e2, rfl, next_at HN.out HA.out, by rw [← has_next HS.out HN.out]; exact HF.out, Nat.le_refl _, rfl⟩
        case measure => have := next_depth HN.out; omega

set_option maxRecDepth 100000 in
set_option maxHeartbeats 4000000 in
/-- errors.Is(e, t) -/
theorem is_any (e t : Err) (w : World) (hE : ErrAt w e) (hT : ErrAt w t) :
    Calls Tryd.prog 18 #[.iface e.ty e.dat, .iface t.ty t.dat] w fun r w' => r = .returned (.bool (e.has t)) ∧ w = w' := by
  have HL := Lib.hid (is_loop e t w hE hT)
  have h31 := @run_callFunc_extern Tryd.prog 31 _ ReflectliteType.typeOf Tryd.func31 (by kernel_rfl) (by kernel_rfl) (by kernel_rfl) (by kernel_rfl)
  have h76 := @run_callFunc_extern Tryd.prog 76 _ compFn Tryd.func76 (by kernel_rfl) (by kernel_rfl) (by kernel_rfl) (by kernel_rfl)
  have tT := dyn_typeOf t
  have cT := dyn_comparable t
  have mR := rt_comparable
  clear hE hT
  go_enter Tryd.func18, Tryd.ntmps18
  go_wp2_with fail
  refine HL.out.mono ?_
  rintro r w' ⟨rfl, rfl⟩
  go_wp2_with fail
  go_ret
  exact ⟨rfl, rfl⟩
end Go.Proofs.YtcohinfpcafcpaaDoor
