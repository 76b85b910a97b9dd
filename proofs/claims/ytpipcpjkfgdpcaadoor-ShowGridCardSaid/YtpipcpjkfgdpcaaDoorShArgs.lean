/- An array among a law's arguments. Condition: sizes within reach. -/
import Derived.Test.YtpipcpjkfgdpcaaDoorShLaid
import Derived.Test.YtpipcpjkfgdpcaaDoorShEq
import Derived.ChangeSlices
namespace Go.Proofs.YtpipcpjkfgdpcaaDoor
open Go.ChangeShapes Go.WideShapes Go.Deep Go.RowKit

section
variable {H : Type} {enc : TypeId × Value → H} {w : World} {base : Nat} {spare : Nat → Bool} {held : Bool}
theorem ints_arg {t e : TypeId} {fuel : Nat} {v : Value} {x : DataW H × List MemPlace} (ht : Tryd.prog.underlying t = some (.slice e)) (he : Tryd.prog.underlying e = some (.int .i64)) (hc : Tryd.prog.cellsOf e = 1)
    (h : DataW.trod enc Tryd.prog w base spare held fuel t [v] = some x) :
    ∃ (A : Option Addr) (ca : Nat) (s : List Int), v = .slice A s.length ca ∧ IntsAt w A s ∧ All64 s ∧ (x.1 = .nil ∧ s = [] ∨ ∃ sp, x.1 = .slice (lits .i64 s) sp) := by
  rcases open_ints ht he hc h with ⟨hcs, hx⟩ | ⟨a, len, cap, zs, hcs, _, hl, _, hz, hx, hat, hwf⟩
  · simp only [List.cons.injEq, and_true] at hcs
    exact ⟨none, 0, [], hcs, fun i x hx => (by simp at hx), fun x hx => (by cases hx), .inl ⟨by rw [hx], rfl⟩⟩
  · simp only [List.cons.injEq, and_true] at hcs
    have hlz : len ≤ zs.length := by rw [hz]; split <;> omega
    have hlen : (zs.take len).length = len := by rw [List.length_take]; omega
    refine ⟨some a, cap, zs.take len, by rw [hlen]; exact hcs, fun i x hi => ?_, fun x hxm => int_in64 (hwf x (List.mem_of_mem_take hxm)), .inr ⟨_, by rw [hx]⟩⟩
    rw [List.getElem?_take] at hi
    split at hi
    · rename_i hil
      have hzi := (List.getElem?_eq_some_iff.1 hi).1
      have h1 := hat i hzi
      rw [List.getD_eq_getElem?_getD, hi, Option.getD_some] at h1
      have h2 := hat 0 (by omega)
      have hl0 := lt_of_cell h2
      obtain ⟨b, off, sp⟩ := a
      have hsp : sp = none := by have := hl0.2; simpa [Addr.add] using this
      subst hsp
      exact ⟨b, off, rfl, by simpa [Addr.add] using hl0.1, by
        have e : (⟨b, off, none⟩ : Addr).add i = ⟨b, off + i, none⟩ := by unfold Addr.add; split <;> simp_all
        rw [← e]; exact h1⟩
    · cases hi
set_option maxRecDepth 100000 in
theorem open_arr {b0 : Nat} {v : Value} {d : DataW H} {p : List MemPlace} {tys : List TypeId} {ds : List (DataW H)} {j : Nat} (hval : Value.okWide Tryd.prog w .any b0 36 v) (hd : DataW.Trod enc Tryd.prog w base spare held 36 v d p)
    (hsz : (DataW.weightsEach Tryd.prog tys ds).all (· ≤ reachBytes) = true) (htj : tys[j]? = some 36) (hdj : ds[j]? = some d) :
    ∃ (A B : Option Addr) (ca cb : Nat) (s a : List Int), v = .agg #[.slice A s.length ca, .slice B a.length cb] ∧ ArrAt w A B s a ∧ All64 s ∧ All64 a ∧ s.length ≤ reachBytes ∧ a.length ≤ reachBytes := by
  obtain ⟨cs, rfl, hcs⟩ := okWide_struct Tryd.underlying36 hval
  have h2 : cs.size = 2 := by rw [hcs]; kernel_rfl
  obtain ⟨v0, v1, rfl⟩ : ∃ v0 v1, cs = #[v0, v1] := by
    match cs, h2 with
    | ⟨[v0, v1]⟩, _ => exact ⟨v0, v1, rfl⟩
  obtain ⟨fuel, hf⟩ := hd
  obtain ⟨y0, y1, n, hx, _, t0, t1⟩ := trod_struct2 Tryd.underlying36 hf
  have c1 : Tryd.prog.cellsOf 25 = 1 := by kernel_rfl
  have c2 : Tryd.prog.cellsOf 28 = 1 := by kernel_rfl
  have t0' : DataW.trod enc Tryd.prog w base spare held n 25 [v0] = some y0 := by
    have h := t0
    simp only [Value.cells, List.drop_zero] at h
    rw [c1] at h
    exact h
  have t1' : DataW.trod enc Tryd.prog w base spare held n 28 [v1] = some y1 := by
    have h := t1
    simp only [Value.cells] at h
    rw [c2] at h
    exact h
  obtain ⟨A, ca, s, rfl, hA, hs64, hs⟩ := ints_arg Tryd.underlying25 Tryd.underlying3 (by kernel_rfl) t0'
  obtain ⟨B, cb, a, rfl, hB, ha64, ha⟩ := ints_arg Tryd.underlying28 Tryd.underlying2 (by kernel_rfl) t1'
  simp only [Prod.mk.injEq] at hx
  have hw : ∀ n ∈ (DataW.agg [y0.1, y1.1] : DataW H).weights Tryd.prog 36, n ≤ reachBytes := fun n hn => by
    have := List.all_eq_true.1 hsz n (DataW.weights_mem_each htj (hdj.trans (congrArg some hx.1)) n hn)
    simpa using this
  have b1 : 0 < Tryd.prog.bytesOf 3 := of_decide_eq_true (by kernel_rfl)
  have b2 : 0 < Tryd.prog.bytesOf 2 := of_decide_eq_true (by kernel_rfl)
  refine ⟨A, B, ca, cb, s, a, rfl, ⟨hA, hB⟩, hs64, ha64, ?_, ?_⟩
  · rcases hs with ⟨_, h0⟩ | ⟨sp, h0⟩
    · rw [h0]; exact Nat.zero_le _
    · rw [h0] at hw
      have := hw _ (by simp only [DataW.weights, Tryd.underlying36, List.map_cons, List.map_nil, DataW.weightsEach, Tryd.underlying25, List.mem_append, List.mem_cons]; exact .inl (.inl rfl))
      refine Nat.le_trans (Nat.le_trans ?_ (Nat.le_mul_of_pos_right _ b1)) this
      simp [lits]
  · rcases ha with ⟨_, h0⟩ | ⟨sp, h0⟩
    · rw [h0]; exact Nat.zero_le _
    · rw [h0] at hw
      have := hw _ (by simp only [DataW.weights, Tryd.underlying36, List.map_cons, List.map_nil, DataW.weightsEach, Tryd.underlying28, List.mem_append, List.mem_cons]; exact .inr (.inl (.inl rfl)))
      refine Nat.le_trans (Nat.le_trans ?_ (Nat.le_mul_of_pos_right _ b2)) this
      simp [lits]
end
end Go.Proofs.YtpipcpjkfgdpcaaDoor
