/- What the laws of package fault speak of: an error in memory reads as a chain; each method of an error by its contract. Condition: the table of powers of ten is as its initialiser lays it. -/
import Derived.Test.YtcohinfpcafcpaaDoorBase
import Derived.Test.YtcohinfpcafcpaaDoorShelf
import Derived.Handy
import Derived.Shelf.Abstract
import Derived.Deep.DeepCutAuto
import Derived.Deep.QuietTactic
import Derived.BigQuiet
import Derived.Deep.RegionHeld3
namespace Go.Proofs.YtcohinfpcafcpaaDoor
open Go.RowKit

/-- an error that is not nil: met, within, wrapped by another package, of errors.New's make (each with the block in which it lies), an Errno as it is -/
inductive Err where
  | met (b : Nat) (c a : Int)
  | within (b : Nat) (e : Err) (s : ByteArray)
  | outer (b : Nat) (e : Err)
  | other (b : Nat) (s : ByteArray)
  | errno (c : Int)

def Err.ty : Err → TypeId
  | .met .. => 77
  | .within .. => 69
  | .outer .. => 53
  | .other .. => 80
  | .errno _ => 24
def Err.dat : Err → Value
  | .met b .. => .pointer (some ⟨b, 0, none⟩)
  | .within b .. => .pointer (some ⟨b, 0, none⟩)
  | .outer b .. => .pointer (some ⟨b, 0, none⟩)
  | .other b .. => .pointer (some ⟨b, 0, none⟩)
  | .errno c => .int .i64 c
/-- the interface value -/
def Err.val (e : Err) : Value := .iface e.ty e.dat

/-- the error lies so in w -/
def ErrAt (w : World) : Err → Prop
  | .met b c a => w.heap[b]? = some (.cells #[.int .i64 c, .int .i64 a] 79 (0, 0))
  | .within b e s => w.heap[b]? = some (.cells #[e.val, .string s] 72 (0, 0)) ∧ ErrAt w e
  | .outer b e => w.heap[b]? = some (.cells #[e.val] 55 (0, 0)) ∧ ErrAt w e
  | .other b s => w.heap[b]? = some (.cells #[.string s] 82 (0, 0))
  | .errno _ => True

theorem at_lt {w : World} {b : Nat} {o : Obj} (h : w.heap[b]? = some o) : b < w.heap.size := by
  rcases Nat.lt_or_ge b w.heap.size with hlt | hge
  · exact hlt
  · rw [Array.getElem?_eq_none hge] at h; cases h
theorem ErrAt.on {w w' : World} (hb : Below w.heap.size w w') : ∀ {e : Err}, ErrAt w e → ErrAt w' e
  | .met .., h => (hb.block _ (at_lt h)).trans h
  | .within .., ⟨h, h3⟩ => ⟨(hb.block _ (at_lt h)).trans h, ErrAt.on hb h3⟩
  | .outer .., ⟨h, h3⟩ => ⟨(hb.block _ (at_lt h)).trans h, ErrAt.on hb h3⟩
  | .other .., h => (hb.block _ (at_lt h)).trans h
  | .errno _, h => h

def tErr : List UInt8 := [101, 114, 114, 111, 114, 32]
def tAt : List UInt8 := [32, 97, 116, 32]
def tColon : List UInt8 := [58, 32]
def tOuter : List UInt8 := [111, 117, 116, 101, 114, 32, 111, 102, 32]
/-- the text -/
def Err.text : Err → List UInt8
  | .met _ c a => tErr ++ Lib.itoa c ++ tAt ++ Lib.itoa a
  | .within _ e s => s.data.toList ++ tColon ++ e.text
  | .outer _ e => tOuter ++ e.text
  | .other _ s => s.data.toList
  | .errno c => tErr ++ Lib.itoa c

theorem digits_len (u : Nat) (h : u < 18446744073709551616) : (Lib.decDigits u).length ≤ 20 := by
  rw [Lib.decDigits_length]
  rcases Nat.eq_zero_or_pos u with rfl | h1
  · have : Lib.nDigits 0 = 1 := by decide +kernel
    omega
  · have := Lib.numDigits_eq u h1 h
    split at this <;> omega
theorem itoa_len (n : Int) (h0 : -9223372036854775808 ≤ n) (h1 : n ≤ 9223372036854775807) : (Lib.itoa n).length ≤ 21 := by
  unfold Lib.itoa
  split
  · have := digits_len n.natAbs (by omega); simp; omega
  · have := digits_len n.toNat (by omega); omega
theorem itoa_any (n : Int) (h0 : -9223372036854775808 ≤ n) (h1 : n ≤ 9223372036854775807) (w : World) (hp : Pow10 w) :
    Calls Tryd.prog 17 #[.int .i64 n] w fun e w' => e = .returned (.string ⟨(Lib.itoa n).toArray⟩) ∧ Below w.heap.size w w' :=
  (Tryd.strconv_Itoa n h0 h1 w hp.here).mono fun _ _ ⟨he, k, os, hw⟩ => ⟨he, by subst hw; exact below_grow (bdn (Below.refl _ _) _) (Nat.le_refl _) os⟩

/-- what a region over calls keeps: below the heap's size at its beginning nothing has turned -/
theorem keep_start (w : World) : Hid (Below w.heap.size w w.drew) := (Below.refl _ _).drew
theorem keep_call {w wp wn : World} (h : Hid (Below w.heap.size w wp)) (k : Below wp.heap.size wp wn) : Hid (Below w.heap.size w wn) := Below.then_ h k
theorem keep_cell {w wn : World} {p : Addr} {v : Value} (hp : w.cell? p = some v) (h : Hid (Below w.heap.size w wn)) (hlt : p.block < w.heap.size) : wn.cell? p = some v := (h.out.cell hlt).trans hp

theorem keep_two {w wp wn : World} {p q : Addr} {u v : Value} (k : Below wp.heap.size wp wn) (h : wp.cell? p = some u ∧ wp.cell? q = some v ∧ Hid (Below w.heap.size w wp))
    (kp : w.cell? p = some u) (kq : w.cell? q = some v) (hp : p.block < w.heap.size) (hq : q.block < w.heap.size) : wn.cell? p = some u ∧ wn.cell? q = some v ∧ Hid (Below w.heap.size w wn) :=
  have hb := keep_call h.2.2 k
  ⟨keep_cell kp hb hp, keep_cell kq hb hq, hb⟩
theorem pow_two {w wp : World} {A B : Prop} (hp : Pow10 w) (h : A ∧ B ∧ Hid (Below w.heap.size w wp)) : Pow10 wp := hp.on h.2.2.out

theorem met_text (b : Nat) (c a : Int) : (⟨#[101, 114, 114, 111, 114, 32]⟩ ++ ⟨(Lib.itoa c).toArray⟩ ++ ⟨#[32, 97, 116, 32]⟩ ++ ⟨(Lib.itoa a).toArray⟩ : ByteArray) = ⟨(Err.met b c a).text.toArray⟩ := by
  show (⟨tErr.toArray⟩ ++ ⟨(Lib.itoa c).toArray⟩ ++ ⟨tAt.toArray⟩ ++ ⟨(Lib.itoa a).toArray⟩ : ByteArray) = _
  rw [ByteArray.mk_append_mk, ByteArray.mk_append_mk, ByteArray.mk_append_mk]
  rfl
theorem met_error (b : Nat) (c a : Int) (w : World) (hp : Pow10 w) (h : w.heap[b]? = some (.cells #[.int .i64 c, .int .i64 a] 79 (0, 0)))
    (c0 : -9223372036854775808 ≤ c) (c1 : c ≤ 9223372036854775807) (a0 : -9223372036854775808 ≤ a) (a1 : a ≤ 9223372036854775807) :
    Calls Tryd.prog 71 #[.pointer (some ⟨b, 0, none⟩)] w fun e w' => e = .returned (.string ⟨(Err.met b c a).text.toArray⟩) ∧ Below w.heap.size w w' := by
  have k0 : w.cell? ⟨b, 0, none⟩ = some (.int .i64 c) := by simp [World.cell?, h]
  have k1 : w.cell? ⟨b, 1, none⟩ = some (.int .i64 a) := by simp [World.cell?, h]
  have hb := at_lt h
  have l0 := itoa_len c c0 c1
  have l1 := itoa_len a a0 a1
  have q1 : ¬ 9223372036854775807 < 6 + (Lib.itoa c).length := by omega
  have q2 : ¬ 9223372036854775807 < 6 + (Lib.itoa c).length + 4 := by omega
  have q3 : ¬ 9223372036854775807 < 6 + (Lib.itoa c).length + 4 + (Lib.itoa a).length := by omega
  go_enter Tryd.func71, Tryd.ntmps71
  go_wp2
  go_region_held3 (fun w' => w'.cell? ⟨b, 0, none⟩ = some (.int .i64 c) ∧ w'.cell? ⟨b, 1, none⟩ = some (.int .i64 a) ∧ Hid (Below w.heap.size w w'))
    (first | exact ⟨k0, k1, keep_start _⟩ | exact keep_two hb' hH k0 k1 hb hb)
    (first | (go_at_call_of 17 (Value.int IntKind.i64 c); rename_i hH _ _; refine (itoa_any c c0 c1 _ (pow_two hp hH)).mono ?_; rintro e w' ⟨rfl, hb'⟩) | (go_at_call_of 17 (Value.int IntKind.i64 a); rename_i hH _ _; refine (itoa_any a a0 a1 _ (pow_two hp hH)).mono ?_; rintro e w' ⟨rfl, hb'⟩))
  all_goals
    rename_i hH
    go_wp2
    go_ret
    refine ⟨?_, hH.2.2.out⟩
    rw [← met_text b]
    rfl

/-- a method that is called through an interface: not a nil receiver; which function it is -/
structure Meth (nm : String) (T : TypeId) (x : Value) (f : FuncId) : Prop where
  hn : ∀ w, (nilAhead 248 T x nm).run Tryd.prog w = .ok (some false) w
  hm : ∀ w, (Go.method 248 T x nm).run Tryd.prog w = .ok (f, x) w
  hf : ∀ args w, (callFunc f args).run Tryd.prog w = .ok (.enter f args) w

theorem meth_met (a : Addr) : Meth "Error" 77 (.pointer (some a)) 71 := ⟨fun _ => by kernel_rfl, fun _ => by kernel_rfl, enters_of Tryd.func71 (by kernel_rfl) rfl⟩
theorem meth_within (a : Addr) : Meth "Error" 69 (.pointer (some a)) 69 := ⟨fun _ => by kernel_rfl, fun _ => by kernel_rfl, enters_of Tryd.func69 (by kernel_rfl) rfl⟩
theorem meth_outer (a : Addr) : Meth "Error" 53 (.pointer (some a)) 64 := ⟨fun _ => by kernel_rfl, fun _ => by kernel_rfl, enters_of Tryd.func64 (by kernel_rfl) rfl⟩
theorem meth_other (a : Addr) : Meth "Error" 80 (.pointer (some a)) 73 := ⟨fun _ => by kernel_rfl, fun _ => by kernel_rfl, enters_of Tryd.func73 (by kernel_rfl) rfl⟩
theorem meth_errno (n : Int) : Meth "Error" 24 (.int .i64 n) 10 := ⟨fun _ => by kernel_rfl, fun _ => by kernel_rfl, enters_of Tryd.func10 (by kernel_rfl) rfl⟩

/-- numbers of 64 bits, a text that an int can measure -/
def Err.fits : Err → Prop
  | .met _ c a => (-9223372036854775808 ≤ c ∧ c ≤ 9223372036854775807) ∧ -9223372036854775808 ≤ a ∧ a ≤ 9223372036854775807
  | .within _ e s => e.fits ∧ s.size + 2 + e.text.length ≤ 9223372036854775807
  | .outer _ e => e.fits ∧ 9 + e.text.length ≤ 9223372036854775807
  | .other .. => True
  | .errno c => -9223372036854775808 ≤ c ∧ c ≤ 9223372036854775807

/-- what Error() gives -/
abbrev Tells (l : List UInt8) (W : World) : Ending → World → Prop := fun e w' => e = .returned (.string ⟨l.toArray⟩) ∧ Below W.heap.size W w'

theorem errno_error (c : Int) (w : World) (hp : Pow10 w) (c0 : -9223372036854775808 ≤ c) (c1 : c ≤ 9223372036854775807) :
    Calls Tryd.prog 10 #[.int .i64 c] w (Tells (Err.errno c).text w) := by
  have l0 := itoa_len c c0 c1
  have q1 : ¬ 9223372036854775807 < 6 + (Lib.itoa c).length := by omega
  go_enter Tryd.func10, Tryd.ntmps10
  go_wp2_with fail
  refine (itoa_any c c0 c1 _ hp).mono ?_
  rintro e w1 ⟨rfl, hb1⟩
  go_wp2_with fail
  go_ret
  refine ⟨?_, hb1⟩
  show Ending.returned (.string (⟨tErr.toArray⟩ ++ ⟨(Lib.itoa c).toArray⟩)) = _
  rw [ByteArray.mk_append_mk]
  rfl

theorem other_error (b : Nat) (s : ByteArray) (w : World) (h : w.heap[b]? = some (.cells #[.string s] 82 (0, 0))) :
    Calls Tryd.prog 73 #[.pointer (some ⟨b, 0, none⟩)] w (Tells (Err.other b s).text w) := by
  have k0 : w.cell? ⟨b, 0, none⟩ = some (.string s) := by simp [World.cell?, h]
  clear h
  go_enter Tryd.func73, Tryd.ntmps73
  go_wp2
  go_ret
  exact ⟨by simp [Err.text], Below.refl _ _⟩

set_option maxRecDepth 100000 in
theorem outer_error (b : Nat) (T : TypeId) (x : Value) (f : FuncId) (e0 : Err) (w : World) (hp : Pow10 w) (h : w.heap[b]? = some (.cells #[.iface T x] 55 (0, 0)))
    (hM : Meth "Error" T x f) (hl : 9 + e0.text.length ≤ 9223372036854775807)
    (hc : ∀ W, Below w.heap.size w W → Pow10 W → Calls Tryd.prog f #[x] W (Tells e0.text W)) :
    Calls Tryd.prog 64 #[.pointer (some ⟨b, 0, none⟩)] w (Tells (Err.outer b e0).text w) := by
  have k0 : w.cell? ⟨b, 0, none⟩ = some (.iface T x) := by simp [World.cell?, h]
  have hb := at_lt h
  have hl' : ¬ 9223372036854775807 < 9 + e0.text.length := by omega
  obtain ⟨hn, hm, hf⟩ := hM
  have HC := Lib.hid hc
  clear h hc hl
  go_enter Tryd.func64, Tryd.ntmps64
  go_wp2_with fail
  refine (HC.out _ (Below.refl _ _) hp).mono ?_
  rintro e w1 ⟨rfl, hb1⟩
  go_wp2_with fail
  go_ret
  refine ⟨?_, hb1⟩
  show Ending.returned (.string (⟨tOuter.toArray⟩ ++ ⟨e0.text.toArray⟩)) = _
  rw [ByteArray.mk_append_mk]
  rfl

theorem within_text (b : Nat) (s : ByteArray) (e : Err) : (s ++ ⟨#[58, 32]⟩ ++ ⟨e.text.toArray⟩ : ByteArray) = ⟨(Err.within b e s).text.toArray⟩ := by
  show (⟨s.data.toList.toArray⟩ ++ ⟨tColon.toArray⟩ ++ ⟨e.text.toArray⟩ : ByteArray) = _
  rw [ByteArray.mk_append_mk, ByteArray.mk_append_mk]
  rfl
set_option maxRecDepth 100000 in
theorem within_error (b : Nat) (T : TypeId) (x : Value) (s : ByteArray) (f : FuncId) (e0 : Err) (w : World) (hp : Pow10 w) (h : w.heap[b]? = some (.cells #[.iface T x, .string s] 72 (0, 0)))
    (hM : Meth "Error" T x f) (hl : s.size + 2 + e0.text.length ≤ 9223372036854775807)
    (hc : ∀ W, Below w.heap.size w W → Pow10 W → Calls Tryd.prog f #[x] W (Tells e0.text W)) :
    Calls Tryd.prog 69 #[.pointer (some ⟨b, 0, none⟩)] w (Tells (Err.within b e0 s).text w) := by
  have k0 : w.cell? ⟨b, 0, none⟩ = some (.iface T x) := by simp [World.cell?, h]
  have k1 : w.cell? ⟨b, 1, none⟩ = some (.string s) := by simp [World.cell?, h]
  have hb := at_lt h
  have hl1 : ¬ 9223372036854775807 < s.size + 2 := by omega
  have hl2 : ¬ 9223372036854775807 < s.size + 2 + e0.text.length := by omega
  obtain ⟨hn, hm, hf⟩ := hM
  have HC := Lib.hid hc
  clear h hc hl
  go_enter Tryd.func69, Tryd.ntmps69
  go_wp2_with fail
  go_region_held3 (fun w' => w'.cell? ⟨b, 0, none⟩ = some (.iface T x) ∧ w'.cell? ⟨b, 1, none⟩ = some (.string s) ∧ Hid (Below w.heap.size w w'))
    (first | exact ⟨k0, k1, keep_start _⟩ | exact keep_two hb' hH k0 k1 hb hb)
    (first | (rename_i hH _ _; refine (HC.out _ hH.2.2.out (pow_two hp hH)).mono ?_; rintro e w' ⟨rfl, hb'⟩))
  all_goals
    rename_i hH
    go_wp2_with fail
    go_ret
    refine ⟨?_, hH.2.2.out⟩
    rw [← within_text b]
    rfl

/-- Error() of any error, through the interface -/
theorem err_error : ∀ (e : Err) (w : World), ErrAt w e → e.fits → ∃ f, Meth "Error" e.ty e.dat f ∧ ∀ W, Below w.heap.size w W → Pow10 W → Calls Tryd.prog f #[e.dat] W (Tells e.text W)
  | .met b c a, w, h, hf => ⟨_, meth_met _, fun W hb hp => met_error b c a W hp ((hb.block b (at_lt h)).trans h) hf.1.1 hf.1.2 hf.2.1 hf.2.2⟩
  | .other b s, w, h, _ => ⟨_, meth_other _, fun W hb hp => other_error b s W ((hb.block b (at_lt h)).trans h)⟩
  | .errno c, w, _, hf => ⟨_, meth_errno c, fun W _ hp => errno_error c W hp hf.1 hf.2⟩
  | .outer b e, w, ⟨h, hu⟩, hf => by
    obtain ⟨f, hM, hc⟩ := err_error e w hu hf.1
    exact ⟨_, meth_outer _, fun W hb hp => outer_error b e.ty e.dat f e W hp ((hb.block b (at_lt h)).trans h) hM hf.2 fun W' hb' hp' => hc W' (hb.then_ hb') hp'⟩
  | .within b e s, w, ⟨h, hu⟩, hf => by
    obtain ⟨f, hM, hc⟩ := err_error e w hu hf.1
    exact ⟨_, meth_within _, fun W hb hp => within_error b e.ty e.dat s f e W hp ((hb.block b (at_lt h)).trans h) hM hf.2 fun W' hb' hp' => hc W' (hb.then_ hb') hp'⟩
end Go.Proofs.YtcohinfpcafcpaaDoor
