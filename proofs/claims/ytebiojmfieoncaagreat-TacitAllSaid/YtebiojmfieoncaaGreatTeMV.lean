/- A row of numbers among the arguments; a row's capacity. Conditions: those of the given row alone. -/
import Derived.Test.YtebiojmfieoncaaGreatTeMO
namespace Go.Proofs.YtebiojmfieoncaaGreat
open Go.ChangeShapes Go.WideShapes Go.Deep Go.RowKit

section
variable {H : Type} {enc : TypeId × Value → H} {w : World} {base : Nat} {spare : Nat → Bool} {held : Bool}
set_option maxRecDepth 100000 in
/-- a row of numbers among the arguments -/
theorem open_vals {b0 : Nat} {v : Value} {d : DataW H} {p : List MemPlace} {tys : List TypeId} {ds : List (DataW H)} {j : Nat} (hval : Value.okWide Tryz.prog w .any b0 24 v) (hd : DataW.Trod enc Tryz.prog w base spare held 24 v d p)
    (hsz : (DataW.weightsEach Tryz.prog tys ds).all (· ≤ reachBytes) = true) (htj : tys[j]? = some 24) (hdj : ds[j]? = some d) :
    ∃ (V : Option Addr) (vs : List Int) (cv : Nat), v = .slice V vs.length cv ∧ IntsAt w V vs ∧ vs.length ≤ 140737488351232 := by
  obtain ⟨ptr, len0, cap0, rfl⟩ := okWide_slice Tryz.underlying24 hval
  obtain ⟨fuel, hf⟩ := hd
  have hw : ∀ n ∈ d.weights Tryz.prog 24, n ≤ reachBytes := fun n hn => by
    have := List.all_eq_true.1 hsz n (DataW.weights_mem_each htj hdj n hn)
    simpa using this
  have hf' : DataW.trod enc Tryz.prog w base spare held fuel 24 [.slice ptr len0 cap0] = some (d, p) := hf
  obtain ⟨V, cv, vs, e, h1, _, _, _, h5⟩ := ints_arg Tryz.underlying24 Tryz.underlying3 (by kernel_rfl) hf'
  have h6 := ints_weight Tryz.underlying24 (by kernel_rfl) h5 hw
  have h7 : reachBytes ≤ 140737488351232 := by decide
  exact ⟨V, vs, cv, e, h1, by omega⟩
set_option maxRecDepth 100000 in
/-- a row's capacity is no less than its length -/
theorem terms_cap {X : Option Addr} {n c : Nat} {d : DataW H} {p : List MemPlace} (hd : DataW.Trod enc Tryz.prog w base spare held 22 (.slice X n c) d p) : n ≤ c := by
  obtain ⟨fuel, hf⟩ := hd
  rcases DataW.trod_slice Tryz.underlying22 hf with ⟨hcs, _⟩ | ⟨ad, len, cap, elems, rest, n', rfl, hcs, _, _, hle, _⟩
  · simp only [Value.cells, List.cons.injEq, and_true] at hcs
    simp at hcs
    omega
  · simp [Value.cells] at hcs
    omega
end
end Go.Proofs.YtebiojmfieoncaaGreat
