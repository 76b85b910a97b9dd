/- A list of texts among a law's arguments. Condition: sizes within reach. -/
import Derived.Test.YtpipcpjkfgdpcaaDoorArgs
import Derived.Test.YtpipcpjkfgdpcaaDoorShFr9
import Derived.Deep.Strs
import Derived.Deep.Slices
namespace Go.Proofs.YtpipcpjkfgdpcaaDoor
open Go.ChangeShapes Go.WideShapes Go.Deep Go.RowKit

section
variable {H : Type} {enc : TypeId × Value → H} {w : World} {base : Nat} {spare : Nat → Bool} {held : Bool}
set_option maxRecDepth 100000 in
theorem open_texts {b0 : Nat} {v : Value} {d : DataW H} {p : List MemPlace} {tys : List TypeId} {ds : List (DataW H)} {j : Nat} (hval : Value.okWide Tryd.prog w .any b0 50 v) (hd : DataW.Trod enc Tryd.prog w base spare held 50 v d p)
    (hsz : (DataW.weightsEach Tryd.prog tys ds).all (· ≤ reachBytes) = true) (htj : tys[j]? = some 50) (hdj : ds[j]? = some d) :
    ∃ (X : Option Addr) (n cp : Nat), v = .slice X n cp ∧ n ≤ reachBytes ∧ StrsAt w X n := by
  obtain ⟨ptr, len, cap, rfl, hok⟩ := okWide_slice Tryd.underlying50 hval
  obtain ⟨fuel, hf⟩ := hd
  have hC : Tryd.prog.cellsOf 9 = 1 := by kernel_rfl
  have hb : 0 < Tryd.prog.bytesOf 9 := of_decide_eq_true (by kernel_rfl)
  rcases open_strs Tryd.underlying50 Tryd.underlying9 hC hf with ⟨hcs, hx⟩ | ⟨a, len', cap', m, Sx, hcs, _, hl, hm, hmm, hx, hat⟩
  · simp [Value.cells] at hcs
    obtain ⟨rfl, rfl, rfl⟩ := hcs
    exact ⟨none, 0, 0, rfl, Nat.zero_le _, fun i hi => by omega⟩
  · simp [Value.cells] at hcs
    obtain ⟨rfl, rfl, rfl⟩ := hcs
    simp only [Prod.mk.injEq] at hx
    have hlm : len ≤ m := by rw [hmm]; split <;> omega
    have hw := sized_slice hsz htj (hdj.trans (congrArg some hx.1)) Tryd.underlying50
    have hn : len ≤ reachBytes := by
      refine Nat.le_trans ?_ hw
      simp only [List.length_map, List.length_range]
      exact Nat.le_trans (by omega) (Nat.le_mul_of_pos_right _ hb)
    refine ⟨some a, len, cap, rfl, hn, fun i hi => ?_⟩
    obtain ⟨hc, _⟩ := hat i (by omega)
    have hs : (Sx i).size ≤ reachBytes := by
      have h1 : (Sx i).data.toList.length ∈ d.weights Tryd.prog 50 := by
        rw [hx.1]
        simp only [DataW.weights, Tryd.underlying50, List.mem_cons, List.mem_append]
        exact .inr (.inl (weightsAll_mem (List.mem_map.2 ⟨i, List.mem_range.2 hi, rfl⟩) _ (by simp [DataW.weights])))
      have := List.all_eq_true.1 hsz _ (DataW.weights_mem_each htj hdj _ h1)
      simpa using this
    have hsp : a.spot = none := by
      obtain ⟨h, _⟩ := hat 0 (by omega)
      simp only [Addr.add_zero'] at h
      exact (lt_of_cell h).2
    obtain ⟨b, off, sp⟩ := a
    have hsp' : sp = none := hsp
    subst hsp'
    rw [Addr.add_lit] at hc
    have hbl : b < w.heap.size := (lt_of_cell hc).1
    exact ⟨b, off, Sx i, rfl, hbl, hc, Nat.le_trans hs (by decide)⟩
end
end Go.Proofs.YtpipcpjkfgdpcaaDoor
