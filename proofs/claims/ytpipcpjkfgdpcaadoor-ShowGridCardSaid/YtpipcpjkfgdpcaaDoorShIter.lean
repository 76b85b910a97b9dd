/- shape.All's iterator: it hands each place and its indices to the loop's body. Conditions: no length is 0; the shape may be. -/
import Derived.Test.YtpipcpjkfgdpcaaDoorShAll
import Derived.RangeFuncNested
import Derived.RangeFuncBound
import Derived.RangeFuncCalls
import Derived.RangeFuncLeaves
import Derived.Shelf.RegionOpen
import Derived.OwnWalkIn
import Derived.TacticsInMore
import Derived.LoopNIn
import Derived.LoopIn
namespace Go.Proofs.YtpipcpjkfgdpcaaDoor
open Go.RowKit
attribute [local go_sem] Oper.semAt_some

/-- what a round leaves, seen from the iterator -/
def RoundLeaves (J : Nat → World → Prop) (b1 b2 : Nat) (A : Option Addr) (p : Nat) (W1 : World) (e : Ending) (W' : World) : Prop :=
  e = .returned (.bool true) ∧ J (p + 1) W' ∧ (∀ k, AllIn b1 b2 A k → k < W1.heap.size → W'.heap[k]? = W1.heap[k]?) ∧ W1.heap.size ≤ W'.heap.size

set_option maxHeartbeats 4000000 in
set_option maxRecDepth 100000 in
theorem all1_in (n l b1 b2 cp N : Nat) (A : Option Addr) (s : List Int) (hN : shSize s = N) (hpos : ∀ x ∈ s, 1 ≤ x ∧ x ≤ 9223372036854775807) (hs : s.length ≤ 64) (hNb : N ≤ 4096) (J : Nat → World → Prop) (hJ : ∀ p W W', J p W → Below W.heap.size W W' → J p W')
    (hY : ∀ p g W1, J p W1 → p < N → Tail W1 g s.length 0 (idx s p) → AllAt W1 b1 b2 A cp s → YieldAt Fence.wide (n - 1) Tryd.prog l #[.int .i64 p, .slice (some ⟨g, 0, none⟩) s.length s.length] W1 (RoundLeaves J b1 b2 A p W1))
    (W : World) (hW : AllAt W b1 b2 A cp s) (h0 : J 0 W) :
    CallsIn Fence.wide n Tryd.prog 67 #[.func (.yield l) #[] #[], .pointer (some ⟨b1, 0, none⟩), .pointer (some ⟨b2, 0, none⟩)] W fun e W' => (∃ v, e = .returned v) ∧ J N W' := by
  have HY := Lib.hid hY
  have HJ := Lib.hid hJ
  have c1 := hW.c1
  rw [hN] at c1
  have HW := Lib.hid hW
  have H0 := Lib.hid h0
  have HPos := Lib.hid hpos
  clear hY hJ hW h0 hpos
  refine callsIn_of_wp Tryd.func67 rfl trivial ?_ rfl
  simp only [Tryd.ntmps67, List.size_toArray, List.length_cons, List.length_nil, Nat.reduceAdd, Nat.reduceSub, Array.replicate_succ, Array.replicate_zero, List.push_toArray, List.append_toArray, List.nil_append, List.cons_append]
  gi_wp2
  gi_loopw [6] (fun v6 wr => ∃ p : Nat, p ≤ N ∧ v6 = .int .i64 p ∧ Hid (J p wr) ∧ Hid (AllAt wr b1 b2 A cp s)) (fun v6 _ => N - (intOf v6).toNat)
  case atStart => exact ⟨0, Nat.zero_le _, rfl, H0, HW⟩
  case round =>
    obtain ⟨p, hp, rfl, HJp, HWr⟩ := hrel
    by_cases hlt : p < N
    · have c2 := HWr.out.c2
      have hcall := callsIn_wide (n := n - 1) |>.2 (indices_any A cp s p wr HWr.out.c3 HPos.out hs (by omega))
      gi_wp2
      refine ⟨trivial, fun h => (by cases h), hcall.mono ?_⟩
      rintro e w2 ⟨g, rfl, hb, hg, hT⟩
      have hJ2 := HJ.out p wr w2 HJp.out hb
      have hA2 := HWr.out.on hb
      obtain ⟨fn, tmps, assign, body, hy, hR⟩ := HY.out p g w2 hJ2 hlt hT hA2
      have HA2 := Lib.hid hA2
      have HR := Lib.hid hR
      clear hb hg hT hJ2 hA2 hcall hR c2
      gi_wp2
      refine ⟨fun h => (by cases h), HR.out.mono ?_⟩
      rintro e W3 ⟨rfl, hJ3, hk3, hs3⟩
      have HJ3 := Lib.hid hJ3
      have HA3 := Lib.hid (HA2.out.kept hk3 hs3)
      clear hJ3 hk3 hs3
      gi_wp2
      go_roundw
      case rel => exact ⟨p + 1, by omega, by go_num, HJ3, HA3⟩
      case measure => simp [intOf]; omega
    · have hge : ¬ (p : Int) < N := by omega
      obtain rfl : p = N := by omega
      gi_wp2
      go_end0
      exact ⟨⟨_, rfl⟩, HJp.out⟩
end Go.Proofs.YtpipcpjkfgdpcaaDoor
