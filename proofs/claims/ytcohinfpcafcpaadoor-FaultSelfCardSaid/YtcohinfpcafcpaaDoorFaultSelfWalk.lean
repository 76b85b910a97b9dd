/- The walk of FaultSelf: it returns true. Conditions: the listed variables of Go's library are as laid. -/
import Derived.Test.YtcohinfpcafcpaaDoorFaultIs
import Derived.Deep.RegionWith
namespace Go.Proofs.YtcohinfpcafcpaaDoor
open Go.RowKit Go.Extern.Stop Go.Stop Go.Extern Go.Sort

set_option maxRecDepth 100000 in
set_option maxHeartbeats 4000000 in
theorem faultSelf_any (k c z a : Int) (t n : ByteArray) (w : World) (hp : Pow10 w) (hg : ErrTy w) (hc : In64 c) (_hz : In64 z) (ha : In64 a) :
    Calls Tryd.prog 8 #[.int .i64 k, .int .i64 c, .int .i64 z, .int .i64 a, .string t, .string n] w fun e w' => e = .returned (.bool true) ∧ Below w.heap.size w w' := by
  have HP := Lib.hid hp
  have HG := Lib.hid hg
  clear hp hg
  go_enter Tryd.func8, Tryd.ntmps8
  go_wp2_with fail
  refine (awake_any w HP.out HG.out).mono ?_
  rintro r w1 ⟨rfl, hb1⟩
  have HB1 := Lib.hid hb1
  clear hb1
  go_wp2_with fail
  refine (begun_any k c a t w.heap.size w1 (HP.out.on HB1.out) hc ha).mono ?_
  rintro r w2 ⟨o, bk, rfl, hS, hb2, hrel⟩
  have HB2 := Lib.hid (HB1.out.then_ hb2)
  have HS := Lib.hid hS
  clear hb2 hrel hS
  obtain ⟨th, bc, bp, bn, bt⟩ := bk
  simp only [Bk.val]
  cases o with
  | none =>
    have hth : th = false := HS.out.none_ rfl
    subst hth
    simp only [oval_none]
    go_wp2_with fail
    go_ret
    exact ⟨rfl, HB2.out.alloc HB2.out.size _⟩
  | some e =>
    have hth : th = true := book_there HS.out
    subst hth
    have hE := (HS.out.some_ e rfl).1
    simp only [oval_some]
    go_wp2_with fail
    obtain ⟨v, hv⟩ : ∃ v, v = w2.alloc (.cells #[.bool true, .int .i64 bc, .int .i64 bp, .slice none 0 0, .string ⟨bt.toArray⟩] 32) := ⟨_, rfl⟩
    have hv2 : Below w2.heap.size w2 v := by rw [hv]; exact (Below.refl _ _).alloc (Nat.le_refl _) _
    rw [← hv]
    refine (in_some e n v).mono ?_
    rintro r w3 ⟨rfl, hw3⟩
    have hf3 : Below v.heap.size v w3 := by rw [hw3]; exact (Below.refl _ _).alloc (Nat.le_refl _) _
    have hEF : ErrAt w3 (.within v.heap.size e n) := ⟨by rw [hw3]; exact heap_alloc_new v _, (hE.on hv2).on hf3⟩
    have hE3 : ErrAt w3 e := (hE.on hv2).on hf3
    have hB3 : Below w.heap.size w w3 := (HB2.out.then_ hv2).then_ hf3
    obtain ⟨f, hfe⟩ : ∃ f, f = Err.within v.heap.size e n := ⟨_, rfl⟩
    rw [← hfe] at hEF ⊢
    have x1 : f.has e = true := by rw [hfe]; simp [Err.has, has_here (same_self e)]
    have x2 : f.has (.errno z) = e.has (.errno z) := by rw [hfe]; simp [Err.has, Err.same]
    have x3 : f.has f = true := has_here (same_self f)
    have A1 : Hid (∀ W, Below w3.heap.size w3 W → Calls Tryd.prog 18 #[.iface f.ty f.dat, .iface e.ty e.dat] W fun r W' => r = .returned (.bool true) ∧ W = W') := Lib.hid (fun W h => by rw [← x1]; exact is_any f e W (hEF.on h) (hE3.on h))
    have A2 : Hid (∀ W, Below w3.heap.size w3 W → Calls Tryd.prog 18 #[.iface f.ty f.dat, .iface 24 (.int .i64 z)] W fun r W' => r = .returned (.bool (e.has (.errno z))) ∧ W = W') := Lib.hid (fun W h => by rw [← x2]; exact is_any f (.errno z) W (hEF.on h) trivial)
    have A3 : Hid (∀ W, Below w3.heap.size w3 W → Calls Tryd.prog 18 #[.iface e.ty e.dat, .iface 24 (.int .i64 z)] W fun r W' => r = .returned (.bool (e.has (.errno z))) ∧ W = W') := Lib.hid (fun W h => is_any e (.errno z) W (hE3.on h) trivial)
    have A4 : Hid (∀ W, Below w3.heap.size w3 W → Calls Tryd.prog 18 #[.iface f.ty f.dat, .iface f.ty f.dat] W fun r W' => r = .returned (.bool true) ∧ W = W') := Lib.hid (fun W h => by have := is_any f f W (hEF.on h) (hEF.on h); rw [x3] at this; exact this)
    have HB3 := Lib.hid hB3
    generalize e.has (.errno z) = q at *
    clear hE hv hv2 hw3 hf3 hEF hE3 hB3 hfe x1 x2 x3
    go_wp2_with fail
    refine (A1.out _ (Below.refl _ _)).mono ?_
    rintro r w' ⟨rfl, rfl⟩
    go_wp2_with fail
    refine (A2.out _ (Below.refl _ _)).mono ?_
    rintro r w' ⟨rfl, rfl⟩
    go_wp2_with fail
    refine (A3.out _ (Below.refl _ _)).mono ?_
    rintro r w' ⟨rfl, rfl⟩
    go_wp2_with fail
    refine (A4.out _ (Below.refl _ _)).mono ?_
    rintro r w' ⟨rfl, rfl⟩
    go_wp2_with fail
    go_ret
    exact ⟨by simp, HB3.out⟩
end Go.Proofs.YtcohinfpcafcpaaDoor
