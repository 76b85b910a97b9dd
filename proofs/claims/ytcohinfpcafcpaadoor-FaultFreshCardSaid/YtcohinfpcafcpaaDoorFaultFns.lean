/- The functions of package fault, errors.New, errors.Unwrap and errors.As at a chain of errors, each by its contract. Conditions: the two listed variables of Go's library are as laid. -/
import Derived.Test.YtcohinfpcafcpaaDoorFaultAsLoop
namespace Go.Proofs.YtcohinfpcafcpaaDoor
open Go.RowKit Go.Extern.Stop Go.Stop Go.Extern

/-- errors.errorType holds the handle of the type error -/
def ErrTy (w : World) : Prop := w.cell? ⟨0, 0, none⟩ = some (rty 29) ∧ 0 < w.heap.size
theorem ErrTy.on {w w' : World} (h : ErrTy w) (hb : Below w.heap.size w w') : ErrTy w' := ⟨(hb.cell h.2).trans h.1, Nat.lt_of_lt_of_le h.2 hb.size⟩

theorem grown_of_below {w w' : World} (h : Below w.heap.size w w') (row : Option Nat) : w.grownBy w' row := ⟨h.os, h.tape, h.output, h.size, fun i hi _ => h.block i hi⟩
theorem AsPost.of {G : TypeId} {tb : Nat} {r : Option Value} {w w1 w' : World} {e : Ending} (hb : Below w.heap.size w w1) (h : AsPost G tb r w1 e w') : AsPost G tb r w e w' := by
  cases r with
  | none => exact ⟨h.1, hb.then_ h.2⟩
  | some x =>
    refine ⟨h.1, h.2.1, ?_⟩
    obtain ⟨_, _, g⟩ := h
    exact ⟨g.os.trans hb.os, g.tape.trans hb.tape, g.output.trans hb.output, Nat.le_trans hb.size g.size, fun i hi hne => (g.block i (Nat.lt_of_lt_of_le hi hb.size) hne).trans (hb.block i hi)⟩

theorem as_nil (t : Value) (w : World) : Calls Tryd.prog 14 #[.nilIface, t] w fun e w' => e = .returned (.bool false) ∧ w = w' := by
  go_enter Tryd.func14, Tryd.ntmps14
  go_wp2
  go_ret
  exact ⟨rfl, rfl⟩

set_option maxRecDepth 100000 in
set_option maxHeartbeats 4000000 in
theorem as_any {G G' : TypeId} {k fl1 fl2 : Int} (hT : Tgt G G' k fl1 fl2) (hF : Fits G) (e : Err) (tb : Nat) (old : Value) (w : World) (hE : ErrAt w e) (hg : ErrTy w)
    (ht : w.heap[tb]? = some (.cells #[old] G (0, 0))) :
    Calls Tryd.prog 14 #[.iface e.ty e.dat, .iface G' (.pointer (some ⟨tb, 0, none⟩))] w (AsPost G tb (e.find G) w) := by
  have h23 := @run_callFunc_extern Tryd.prog 23 _ (fun args => ReflectliteValue.unpack (args.getD 0 (.tuple #[]))) Tryd.func23 (by kernel_rfl) (by kernel_rfl) (by kernel_rfl) (by kernel_rfl)
  have h24 := @run_callFunc_extern Tryd.prog 24 _ (ReflectliteValue.methodAny (ReflectliteValue.valueError "reflectlite.Value.Type" 0) (fun t _ _ _ => ReflectliteType.toType t)) Tryd.func24 (by kernel_rfl) (by kernel_rfl) (by kernel_rfl) (by kernel_rfl)
  have h25 := @run_callFunc_extern Tryd.prog 25 _ (ReflectliteValue.method (ReflectliteValue.valueError "reflectlite.Value.IsNil" 0) ReflectliteValue.isNil) Tryd.func25 (by kernel_rfl) (by kernel_rfl) (by kernel_rfl) (by kernel_rfl)
  have h61 := @run_callFunc_extern Tryd.prog 61 _ (ReflectliteType.abiMethod fun t => do pure (.int .u8 (← Rtype.kind t))) Tryd.func61 (by kernel_rfl) (by kernel_rfl) (by kernel_rfl) (by kernel_rfl)
  have h77 := @run_callFunc_extern Tryd.prog 77 _ (ReflectliteType.method ReflectliteType.elem) Tryd.func77 (by kernel_rfl) (by kernel_rfl) (by kernel_rfl) (by kernel_rfl)
  have h78 := @run_callFunc_extern Tryd.prog 78 _ (ReflectliteType.relation "Implements" ReflectliteType.implements_) Tryd.func78 (by kernel_rfl) (by kernel_rfl) (by kernel_rfl) (by kernel_rfl)
  have mK := rt_kind
  have mE := rt_elem
  have mI := rt_implements
  have f6 := hT.valueOf'
  have f7 := hT.typeV
  have k' := hT.kind'
  have kk := hT.kind
  have hk := hT.hk
  have eT := hT.elemT
  have iT := hT.impl
  have hg0 := hg.1
  have hlt := hg.2
  have n8 := hT.isNil ⟨w.heap.size, 0, none⟩ ⟨tb, 0, none⟩ ((w.alloc (.cells #[.pointer (some ⟨tb, 0, none⟩)] G')).alloc (.cells #[hnd G', .pointer (some ⟨w.heap.size, 0, none⟩), .int .u64 150] 59)) (by simp)
  have hg2 : ((w.alloc (.cells #[.pointer (some ⟨tb, 0, none⟩)] G')).alloc (.cells #[hnd G', .pointer (some ⟨w.heap.size, 0, none⟩), .int .u64 150] 59)).cell? ⟨0, 0, none⟩ = some (rty 29) := by
    rw [World.cell?_alloc_lt _ _ ⟨0, 0, none⟩ (by simp), World.cell?_alloc_lt _ _ ⟨0, 0, none⟩ hlt]; exact hg0
  have HE := Lib.hid hE
  have HT := Lib.hid ht
  clear hE ht hg
  go_enter Tryd.func14, Tryd.ntmps14
  go_wp2_with fail
  have hb1 : Below w.heap.size w ((w.alloc (.cells #[.pointer (some ⟨tb, 0, none⟩)] G')).alloc (.cells #[hnd G', .pointer (some ⟨w.heap.size, 0, none⟩), .int .u64 150] 59)) := ((Below.refl _ _).alloc (Nat.le_refl _) _).alloc (by simp) _
  refine (as_loop hT hF e tb w.heap.size old _ _ (HE.out.on hb1) ?_ ((hb1.block tb (at_lt HT.out)).trans HT.out)).mono ?_
  · simp
  rintro r w' hr
  have HR := Lib.hid (AsPost.of hb1 hr)
  clear hr hb1 n8 hg2
  cases hfd : e.find G with
  | none =>
    have hr := HR.out
    rw [hfd] at hr
    obtain ⟨rfl, hb⟩ := hr
    have H := Lib.hid hfd
    clear HR hfd
    go_wp2_with fail
    go_ret
    rw [H.out]
    exact ⟨rfl, hb⟩
  | some x =>
    have hr := HR.out
    rw [hfd] at hr
    obtain ⟨rfl, h1, hb⟩ := hr
    have H := Lib.hid hfd
    have H1 := Lib.hid h1
    clear HR hfd h1
    go_wp2_with fail
    go_ret
    rw [H.out]
    exact ⟨rfl, H1.out, hb⟩

/-! ### New, In, errors.New: the new error -/
theorem new_none (at_ : Int) (w : World) : Calls Tryd.prog 20 #[.int .i64 0, .int .i64 at_] w fun e w' => e = .returned .nilIface ∧ w = w' := by
  go_enter Tryd.func20, Tryd.ntmps20
  go_wp2
  go_ret
  exact ⟨rfl, rfl⟩
theorem new_some (c at_ : Int) (w : World) (hc : (c == 0) = false) : Calls Tryd.prog 20 #[.int .i64 c, .int .i64 at_] w fun e w' =>
    e = .returned (.iface (Err.met w.heap.size c at_).ty (Err.met w.heap.size c at_).dat) ∧ w' = w.alloc (.cells #[.int .i64 c, .int .i64 at_] 79) := by
  go_enter Tryd.func20, Tryd.ntmps20
  go_wp2
  go_ret
  exact ⟨rfl, rfl⟩
theorem in_nil (s : ByteArray) (w : World) : Calls Tryd.prog 19 #[.nilIface, .string s] w fun e w' => e = .returned .nilIface ∧ w = w' := by
  go_enter Tryd.func19, Tryd.ntmps19
  go_wp2
  go_ret
  exact ⟨rfl, rfl⟩
theorem in_some (e0 : Err) (s : ByteArray) (w : World) : Calls Tryd.prog 19 #[.iface e0.ty e0.dat, .string s] w fun e w' =>
    e = .returned (.iface (Err.within w.heap.size e0 s).ty (Err.within w.heap.size e0 s).dat) ∧ w' = w.alloc (.cells #[.iface e0.ty e0.dat, .string s] 72) := by
  go_enter Tryd.func19, Tryd.ntmps19
  go_wp2
  go_ret
  exact ⟨rfl, rfl⟩
theorem errors_new (s : ByteArray) (w : World) : Calls Tryd.prog 22 #[.string s] w fun e w' =>
    e = .returned (.iface (Err.other w.heap.size s).ty (Err.other w.heap.size s).dat) ∧ w' = w.alloc (.cells #[.string s] 82) := by
  go_enter Tryd.func22, Tryd.ntmps22
  go_wp2
  go_ret
  exact ⟨rfl, rfl⟩

/-! ### Code and Place -/
def Err.code (e : Err) : Int := match e.find 24 with | some (.int _ c) => c | _ => 39
theorem code_nil (w : World) : Calls Tryd.prog 21 #[.nilIface] w fun e w' => e = .returned (.int .i64 0) ∧ Below w.heap.size w w' := by
  go_enter Tryd.func21, Tryd.ntmps21
  go_wp2
  go_ret
  exact ⟨rfl, (Below.refl _ _).alloc (Nat.le_refl _) _⟩
theorem find_errno : ∀ (e : Err), (∃ c, e.find 24 = some (.int .i64 c)) ∨ e.find 24 = none
  | .met _ c _ => .inl ⟨c, rfl⟩
  | .within _ e _ => find_errno e
  | .outer _ e => find_errno e
  | .other .. => .inr rfl
  | .errno c => .inl ⟨c, rfl⟩
set_option maxRecDepth 100000 in
theorem code_any (e : Err) (w : World) (hE : ErrAt w e) (hg : ErrTy w) : Calls Tryd.prog 21 #[.iface e.ty e.dat] w fun r w' => r = .returned (.int .i64 e.code) ∧ Below w.heap.size w w' := by
  have hb0 : Below w.heap.size w (w.alloc (.cells #[.int .i64 0] 24)) := (Below.refl _ _).alloc (Nat.le_refl _) _
  have HA := Lib.hid (as_any errno_tgt fits_errno e w.heap.size (.int .i64 0) (w.alloc (.cells #[.int .i64 0] 24)) (hE.on hb0) (hg.on hb0) (heap_alloc_new w _))
  clear hb0 hE hg
  go_enter Tryd.func21, Tryd.ntmps21
  go_wp2_with fail
  refine HA.out.mono ?_
  rintro r w1 hr
  rcases find_errno e with ⟨c, hc⟩ | hc
  · rw [hc] at hr
    obtain ⟨rfl, h1, hg⟩ := hr
    have k0 : w1.cell? ⟨w.heap.size, 0, none⟩ = some (.int .i64 c) := by simp [World.cell?, h1]
    have H := Lib.hid hc
    clear hc h1
    go_wp2_with fail
    go_ret
    refine ⟨?_, ?_⟩
    · unfold Err.code; rw [H.out]; rfl
    · exact ((Below.refl _ _).alloc (Nat.le_refl _) _).grown hg (by simp) (fun k hk => by cases hk; exact Nat.le_refl _)
  · rw [hc] at hr
    obtain ⟨rfl, hb⟩ := hr
    have H := Lib.hid hc
    clear hc
    go_wp2_with fail
    go_ret
    refine ⟨?_, ?_⟩
    · unfold Err.code; rw [H.out]; rfl
    · exact ((Below.refl _ _).alloc (Nat.le_refl _) _).then_ hb

def Err.place : Err → Int
  | .met _ _ a => a
  | .within _ e _ => e.place
  | .outer _ e => e.place
  | .other .. => -1
  | .errno _ => -1
theorem find_met : ∀ (e : Err) (w : World), ErrAt w e → (∃ b c, e.find 77 = some (.pointer (some ⟨b, 0, none⟩)) ∧ w.heap[b]? = some (.cells #[.int .i64 c, .int .i64 e.place] 79 (0, 0))) ∨ (e.find 77 = none ∧ e.place = -1)
  | .met b c _, _, h => .inl ⟨b, c, rfl, h⟩
  | .within _ e _, w, h => find_met e w h.2
  | .outer _ e, w, h => find_met e w h.2
  | .other .., _, _ => .inr ⟨rfl, rfl⟩
  | .errno _, _, _ => .inr ⟨rfl, rfl⟩
theorem place_nil (w : World) : Calls Tryd.prog 27 #[.nilIface] w fun e w' => e = .returned (.int .i64 (-1)) ∧ Below w.heap.size w w' := by
  go_enter Tryd.func27, Tryd.ntmps27
  go_wp2_with (go_at_call 14; refine (as_nil _ _).mono ?_; rintro e w' ⟨rfl, rfl⟩)
  go_ret
  exact ⟨rfl, (Below.refl _ _).alloc (Nat.le_refl _) _⟩
set_option maxRecDepth 100000 in
theorem place_any (e : Err) (w : World) (hE : ErrAt w e) (hg : ErrTy w) : Calls Tryd.prog 27 #[.iface e.ty e.dat] w fun r w' => r = .returned (.int .i64 e.place) ∧ Below w.heap.size w w' := by
  have hb0 : Below w.heap.size w (w.alloc (.cells #[.pointer none] 77)) := (Below.refl _ _).alloc (Nat.le_refl _) _
  have HA := Lib.hid (as_any met_tgt fits_met e w.heap.size (.pointer none) (w.alloc (.cells #[.pointer none] 77)) (hE.on hb0) (hg.on hb0) (heap_alloc_new w _))
  have hfm := find_met e w hE
  clear hb0 hE hg
  go_enter Tryd.func27, Tryd.ntmps27
  go_wp2_with fail
  refine HA.out.mono ?_
  rintro r w1 hr
  rcases hfm with ⟨b, c, hc, hm⟩ | ⟨hc, hm⟩
  · rw [hc] at hr
    obtain ⟨rfl, h1, hg⟩ := hr
    have hb1 : Below w.heap.size w w1 := ((Below.refl _ _).alloc (Nat.le_refl _) _).grown hg (by simp) (fun k hk => by cases hk; exact Nat.le_refl _)
    have hm1 := (hb1.block b (at_lt hm)).trans hm
    have k0 : w1.cell? ⟨w.heap.size, 0, none⟩ = some (.pointer (some ⟨b, 0, none⟩)) := by simp [World.cell?, h1]
    have k1 : w1.cell? ⟨b, 1, none⟩ = some (.int .i64 e.place) := by simp [World.cell?, hm1]
    clear hc h1 hm hm1
    go_wp2_with fail
    go_ret
    exact ⟨rfl, hb1⟩
  · rw [hc] at hr
    obtain ⟨rfl, hb⟩ := hr
    have H := Lib.hid hm
    clear hc hm
    go_wp2_with fail
    go_ret
    refine ⟨?_, ((Below.refl _ _).alloc (Nat.le_refl _) _).then_ hb⟩
    rw [H.out]; rfl

/-! ### errors.Unwrap -/
set_option maxRecDepth 100000 in
theorem unwrap_some {e e' : Err} (h : e.next = some e') (w : World) (hE : ErrAt w e) : Calls Tryd.prog 28 #[.iface e.ty e.dat] w fun r w' => r = .returned (.iface e'.ty e'.dat) ∧ w = w' := by
  have hU := dyn_hasU h
  obtain ⟨f, ⟨un, um, uf⟩, hc⟩ := dyn_unwrap h
  have HC := Lib.hid (hc w hE)
  have HN := Lib.hid h
  clear hc h hE
  go_enter Tryd.func28, Tryd.ntmps28
  go_wp2_with fail
  refine HC.out.mono ?_
  rintro r w' ⟨rfl, rfl⟩
  go_wp2_with fail
  go_ret
  exact ⟨rfl, rfl⟩

/-! ### Trail -/
def Err.names : Err → List (List UInt8)
  | .met .. => []
  | .within _ e s => e.names ++ [s.data.toList]
  | .outer _ e => e.names
  | .other .. => []
  | .errno _ => []
theorem find_within : ∀ (e : Err) (w : World), ErrAt w e → (∃ b e' s, e.find 69 = some (.pointer (some ⟨b, 0, none⟩)) ∧ ErrAt w (.within b e' s) ∧ e.names = e'.names ++ [s.data.toList] ∧ e'.depth < e.depth) ∨ (e.find 69 = none ∧ e.names = [])
  | .met .., _, _ => .inr ⟨rfl, rfl⟩
  | .within b e s, w, h => .inl ⟨b, e, s, rfl, h, rfl, by simp [Err.depth]⟩
  | .outer _ e, w, h => by
    rcases find_within e w h.2 with ⟨b, e', s, h1, h2, h3, h4⟩ | ⟨h1, h2⟩
    · exact .inl ⟨b, e', s, h1, h2, h3, by simp [Err.depth]; omega⟩
    · exact .inr ⟨h1, h2⟩
  | .other .., _, _ => .inr ⟨rfl, rfl⟩
  | .errno _, _, _ => .inr ⟨rfl, rfl⟩
end Go.Proofs.YtcohinfpcafcpaaDoor
