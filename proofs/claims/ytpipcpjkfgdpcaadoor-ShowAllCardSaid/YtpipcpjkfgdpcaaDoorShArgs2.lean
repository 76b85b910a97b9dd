/- A list of calls among a law's arguments. Condition: sizes within reach. -/
import Derived.Test.YtpipcpjkfgdpcaaDoorShArgs
import Derived.Test.YtpipcpjkfgdpcaaDoorShPlay
import Derived.Deep.Strs
import Derived.Deep.Slices
namespace Go.Proofs.YtpipcpjkfgdpcaaDoor
open Go.ChangeShapes Go.WideShapes Go.Deep Go.RowKit

section
variable {H : Type} {enc : TypeId × Value → H} {w : World} {base : Nat} {spare : Nat → Bool} {held : Bool}
theorem ints_weight {t e : TypeId} {d : DataW H} {s : List Int} (ht : Tryd.prog.underlying t = some (.slice e)) (hb : 0 < Tryd.prog.bytesOf e) (h : d = .nil ∧ s = [] ∨ ∃ sp, d = .slice (lits .i64 s) sp)
    (hw : ∀ n ∈ d.weights Tryd.prog t, n ≤ reachBytes) : s.length ≤ reachBytes := by
  rcases h with ⟨_, rfl⟩ | ⟨sp, rfl⟩
  · exact Nat.zero_le _
  · have := hw _ (by simp only [DataW.weights, ht, List.mem_cons]; exact .inl rfl)
    refine Nat.le_trans (Nat.le_trans ?_ (Nat.le_mul_of_pos_right _ hb)) this
    simp [lits]
set_option maxRecDepth 100000 in
/-- an array's cells, opened -/
theorem arr_cells {fuel : Nat} {v0 v1 : Value} {y : DataW H × List MemPlace} (h : DataW.trod enc Tryd.prog w base spare held fuel 36 [v0, v1] = some y) (hw : ∀ n ∈ y.1.weights Tryd.prog 36, n ≤ reachBytes) :
    ∃ (A B : Option Addr) (ca cb : Nat) (s a : List Int), v0 = .slice A s.length ca ∧ v1 = .slice B a.length cb ∧ ArrAt w A B s a ∧ All64 s ∧ All64 a ∧ s.length ≤ reachBytes ∧ a.length ≤ reachBytes := by
  obtain ⟨y0, y1, n, hx, _, t0, t1⟩ := trod_struct2 Tryd.underlying36 h
  have c1 : Tryd.prog.cellsOf 25 = 1 := by kernel_rfl
  have c2 : Tryd.prog.cellsOf 28 = 1 := by kernel_rfl
  have t0' : DataW.trod enc Tryd.prog w base spare held n 25 [v0] = some y0 := by
    have h := t0
    simp only [List.drop_zero] at h
    rw [c1] at h
    exact h
  have t1' : DataW.trod enc Tryd.prog w base spare held n 28 [v1] = some y1 := by
    have h := t1
    rw [c2] at h
    exact h
  obtain ⟨A, ca, s, rfl, hA, hs64, hs⟩ := ints_arg Tryd.underlying25 Tryd.underlying3 (by kernel_rfl) t0'
  obtain ⟨B, cb, a, rfl, hB, ha64, ha⟩ := ints_arg Tryd.underlying28 Tryd.underlying2 (by kernel_rfl) t1'
  have b1 : 0 < Tryd.prog.bytesOf 3 := of_decide_eq_true (by kernel_rfl)
  have b2 : 0 < Tryd.prog.bytesOf 2 := of_decide_eq_true (by kernel_rfl)
  rw [hx] at hw
  have e : (DataW.agg [y0.1, y1.1] : DataW H).weights Tryd.prog 36 = y0.1.weights Tryd.prog 25 ++ (y1.1.weights Tryd.prog 28 ++ []) := by
    simp only [DataW.weights, Tryd.underlying36, List.map_cons, List.map_nil, DataW.weightsEach]
  simp only [e, List.append_nil, List.mem_append] at hw
  exact ⟨A, B, ca, cb, s, a, rfl, rfl, ⟨hA, hB⟩, hs64, ha64, ints_weight Tryd.underlying25 b1 hs (fun n hn => hw n (.inl hn)), ints_weight Tryd.underlying28 b2 ha (fun n hn => hw n (.inr hn))⟩

set_option maxRecDepth 100000 in
theorem op_cells {fuel : Nat} {cs : List Value} {y : DataW H × List MemPlace} (h : DataW.trod enc Tryd.prog w base spare held fuel TO cs = some y) (hw : ∀ n ∈ y.1.weights Tryd.prog TO, n ≤ reachBytes) :
    ∃ (k : Int) (A B : Option Addr) (ca cb : Nat) (s a : List Int) (str : ByteArray), cs = [.int .i64 k, .slice A s.length ca, .slice B a.length cb, .string str] ∧ ArrAt w A B s a ∧ All64 s ∧ All64 a ∧ s.length ≤ reachBytes ∧ a.length ≤ reachBytes ∧ str.size ≤ reachBytes := by
  obtain ⟨y0, y1, y2, n, hx, hl, t0, t1, t2⟩ := trod_struct3 Tryd.underlying38 h
  have hl4 : cs.length = 4 := by rw [hl]; kernel_rfl
  obtain ⟨v0, v1, v2, v3, rfl⟩ : ∃ v0 v1 v2 v3, cs = [v0, v1, v2, v3] := by
    match cs, hl4 with
    | [v0, v1, v2, v3], _ => exact ⟨v0, v1, v2, v3, rfl⟩
  have c0 : Tryd.prog.cellsOf 3 = 1 := by kernel_rfl
  have c1 : Tryd.prog.cellsOf 36 = 2 := by kernel_rfl
  have c2 : Tryd.prog.cellsOf 9 = 1 := by kernel_rfl
  have t0' : DataW.trod enc Tryd.prog w base spare held n 3 [v0] = some y0 := by
    have h := t0
    rw [c0] at h
    exact h
  have t1' : DataW.trod enc Tryd.prog w base spare held n 36 [v1, v2] = some y1 := by
    have h := t1
    rw [c1] at h
    exact h
  have t2' : DataW.trod enc Tryd.prog w base spare held n 9 [v3] = some y2 := by
    have h := t2
    rw [c2] at h
    exact h
  obtain ⟨z, hz, _, _⟩ := DataW.trod_int Tryd.underlying3 t0'
  obtain ⟨str, hs', hys, _⟩ := DataW.trod_string Tryd.underlying9 t2'
  simp only [List.cons.injEq, and_true] at hz hs'
  subst hz hs'
  rw [hx] at hw
  have e : (DataW.agg [y0.1, y1.1, y2.1] : DataW H).weights Tryd.prog TO = y0.1.weights Tryd.prog 3 ++ (y1.1.weights Tryd.prog 36 ++ (y2.1.weights Tryd.prog 9 ++ [])) := by
    simp only [DataW.weights, Tryd.underlying38, List.map_cons, List.map_nil, DataW.weightsEach]
  simp only [e, List.append_nil, List.mem_append] at hw
  obtain ⟨A, B, ca, cb, s, a, rfl, rfl, hA, h1, h2, h3, h4⟩ := arr_cells t1' (fun n hn => hw n (.inr (.inl hn)))
  refine ⟨z, A, B, ca, cb, s, a, str, rfl, hA, h1, h2, h3, h4, ?_⟩
  have := hw str.data.toList.length (.inr (.inr (by rw [hys]; simp [DataW.weights])))
  simpa using this

set_option maxRecDepth 100000 in
theorem open_ops {b0 : Nat} {v : Value} {d : DataW H} {p : List MemPlace} {tys : List TypeId} {ds : List (DataW H)} {j : Nat} (hval : Value.okWide Tryd.prog w .any b0 22 v) (hd : DataW.Trod enc Tryd.prog w base spare held 22 v d p)
    (hsz : (DataW.weightsEach Tryd.prog tys ds).all (· ≤ reachBytes) = true) (htj : tys[j]? = some 22) (hdj : ds[j]? = some d) :
    ∃ (X : Option Addr) (n cp : Nat), v = .slice X n cp ∧ n ≤ reachBytes ∧ OpsAt w X n := by
  obtain ⟨ptr, len, cap, rfl, hok⟩ := okWide_slice Tryd.underlying22 hval
  obtain ⟨fuel, hf⟩ := hd
  have hC : Tryd.prog.cellsOf TO = 4 := by kernel_rfl
  have hb : 0 < Tryd.prog.bytesOf TO := of_decide_eq_true (by kernel_rfl)
  rcases open_slice Tryd.underlying22 hf with ⟨hcs, hx⟩ | ⟨a, len', cap', m, n, D, Pl, hcs, _, hl, hm, hmm, hx, hat⟩
  · simp [Value.cells] at hcs
    obtain ⟨rfl, rfl, rfl⟩ := hcs
    exact ⟨none, 0, 0, rfl, Nat.zero_le _, fun i hi => by omega⟩
  · simp [Value.cells] at hcs
    obtain ⟨rfl, rfl, rfl⟩ := hcs
    simp only [Prod.mk.injEq] at hx
    have hlm : len ≤ m := by rw [hmm]; split <;> omega
    have hw := sized_slice hsz htj (hdj.trans (congrArg some hx.1)) Tryd.underlying22
    have hn : len ≤ reachBytes := by
      refine Nat.le_trans ?_ hw
      simp only [List.length_map, List.length_range]
      exact Nat.le_trans (by omega) (Nat.le_mul_of_pos_right _ hb)
    refine ⟨some a, len, cap, rfl, hn, fun i hi => ?_⟩
    obtain ⟨cs, hc, ht⟩ := hat i (by omega)
    rw [hC] at hc
    obtain ⟨_, hcl, hcat⟩ := World.cells?_some hc
    have hwi : ∀ k ∈ (D i).weights Tryd.prog TO, k ≤ reachBytes := fun k hk => by
      have h1 : k ∈ d.weights Tryd.prog 22 := by
        rw [hx.1]
        simp only [DataW.weights, Tryd.underlying22, List.mem_cons, List.mem_append]
        exact .inr (.inl (weightsAll_mem (List.mem_map.2 ⟨i, List.mem_range.2 hi, rfl⟩) k hk))
      have := List.all_eq_true.1 hsz k (DataW.weights_mem_each htj hdj k h1)
      simpa using this
    obtain ⟨k, A, B, ca, cb, s, at_, str, rfl, hA, h1, h2, h3, h4, h5⟩ := op_cells ht hwi
    have k0 := hcat 0 (by decide)
    have k1 := hcat 1 (by decide)
    have k2 := hcat 2 (by decide)
    have k3 := hcat 3 (by decide)
    have hsp0 : a.spot = none := by
      obtain ⟨cs0, hc0, ht0⟩ := hat 0 (by omega)
      rw [hC] at hc0
      have hw0 : ∀ k ∈ (D 0).weights Tryd.prog TO, k ≤ reachBytes := fun k hk => by
        have h1 : k ∈ d.weights Tryd.prog 22 := by
          rw [hx.1]
          simp only [DataW.weights, Tryd.underlying22, List.mem_cons, List.mem_append]
          exact .inr (.inl (weightsAll_mem (List.mem_map.2 ⟨0, List.mem_range.2 (by omega), rfl⟩) k hk))
        have := List.all_eq_true.1 hsz k (DataW.weights_mem_each htj hdj k h1)
        simpa using this
      obtain ⟨k', A', B', ca', cb', s', at', str', rfl, _⟩ := op_cells ht0 hw0
      have h := (World.cells?_some hc0).2.2 0 (by decide)
      simp only [Nat.zero_mul, Addr.add_zero'] at h
      exact (lt_of_cell h).2
    obtain ⟨b, off, sp⟩ := a
    have hsp : sp = none := hsp0
    subst hsp
    have ea : ∀ q, ((⟨b, off, none⟩ : Addr).add (i * 4)).add q = ⟨b, off + i * 4 + q, none⟩ := fun q => by rw [Addr.add_lit, Addr.add_lit]
    rw [ea] at k0 k1 k2 k3
    have hbl : b < w.heap.size := (lt_of_cell k0).1
    refine ⟨b, off, k, A, B, ca, cb, s, at_, str, rfl, hbl, ⟨by simpa using k0, by simpa using k1, by simpa using k2, by simpa using k3, hA, h1, h2, Nat.le_trans h3 (by decide), Nat.le_trans h4 (by decide), Nat.le_trans h5 (by decide)⟩⟩
end
end Go.Proofs.YtpipcpjkfgdpcaaDoor
