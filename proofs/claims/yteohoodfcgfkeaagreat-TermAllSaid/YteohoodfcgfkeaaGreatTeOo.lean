/- A row of calls (Op), and a row of terms, among a law's arguments. No condition. -/
import Derived.Test.YteohoodfcgfkeaaGreatTeOpen
namespace Go.Proofs.YteohoodfcgfkeaaGreat
open Go.ChangeShapes Go.WideShapes Go.Deep Go.RowKit

abbrev TOp : TypeId := 48
abbrev TOps : TypeId := 45
/-- the cells of a call -/
def opCells (k : Int) (t : Tm) (A : Option Addr) (ca : Nat) (B : Option Addr) (cb : Nat) (K : Option Addr) (ck : Nat) (u : Tm) (A' : Option Addr) (ca' : Nat) (B' : Option Addr) (cb' : Nat) (K' : Option Addr) (ck' : Nat) (n : Int) : List Value :=
  [.int .i64 k, .int .i64 t.kind, .string t.text, .int .i64 t.n, .slice A t.sh.length ca, .slice B t.at_.length cb, .slice K t.kids.length ck, .int .i64 u.kind, .string u.text, .int .i64 u.n, .slice A' u.sh.length ca', .slice B' u.at_.length cb', .slice K' u.kids.length ck', .int .i64 n]
/-- what is known of the cells of a call -/
def OpIs (w : World) (cs : List Value) : Prop := ∃ (k : Int) (t : Tm) (A : Option Addr) (ca : Nat) (B : Option Addr) (cb : Nat) (K : Option Addr) (ck : Nat) (u : Tm) (A' : Option Addr) (ca' : Nat) (B' : Option Addr) (cb' : Nat) (K' : Option Addr) (ck' : Nat) (n : Int),
  cs = opCells k t A ca B cb K ck u A' ca' B' cb' K' ck' n ∧ TmAt w t A B K ∧ WfT t ∧ TmAt w u A' B' K' ∧ WfT u
section
variable {H : Type} {enc : TypeId × Value → H} {w : World} {base : Nat} {spare : Nat → Bool} {held : Bool}
set_option maxRecDepth 100000 in
theorem op_cells (fuel : Nat) {cs : List Value} {y : DataW H × List MemPlace} (h : DataW.trod enc Tryz.prog w base spare held fuel TOp cs = some y) (hw : ∀ n ∈ y.1.weights Tryz.prog TOp, n ≤ reachBytes) : OpIs w cs := by
  obtain ⟨xs, n, rfl, rfl, hl, hlen, hf⟩ := DataW.trod_struct Tryz.underlying48 h
  have hl14 : cs.length = 14 := by rw [hl]; kernel_rfl
  obtain ⟨v0, v1, v2, v3, v4, v5, v6, v7, v8, v9, v10, v11, v12, v13, rfl⟩ : ∃ v0 v1 v2 v3 v4 v5 v6 v7 v8 v9 v10 v11 v12 v13, cs = [v0, v1, v2, v3, v4, v5, v6, v7, v8, v9, v10, v11, v12, v13] := by
    match cs, hl14 with
    | [v0, v1, v2, v3, v4, v5, v6, v7, v8, v9, v10, v11, v12, v13], _ => exact ⟨v0, v1, v2, v3, v4, v5, v6, v7, v8, v9, v10, v11, v12, v13, rfl⟩
  obtain ⟨y0, y1, y2, y3, rfl⟩ : ∃ y0 y1 y2 y3, xs = [y0, y1, y2, y3] := by
    match xs, hlen with
    | [y0, y1, y2, y3], _ => exact ⟨y0, y1, y2, y3, rfl⟩
  have c0 : Tryz.prog.cellsOf 3 = 1 := by kernel_rfl
  have c1 : Tryz.prog.cellsOf TT = 6 := by kernel_rfl
  have t0 : DataW.trod enc Tryz.prog w base spare held n 3 [v0] = some y0 := by
    have h : DataW.trod enc Tryz.prog w base spare held n 3 (([v0, v1, v2, v3, v4, v5, v6, v7, v8, v9, v10, v11, v12, v13].drop 0).take (Tryz.prog.cellsOf 3)) = some y0 := hf 0 _ rfl
    rw [c0] at h
    exact h
  have t1 : DataW.trod enc Tryz.prog w base spare held n TT [v1, v2, v3, v4, v5, v6] = some y1 := by
    have h : DataW.trod enc Tryz.prog w base spare held n TT (([v0, v1, v2, v3, v4, v5, v6, v7, v8, v9, v10, v11, v12, v13].drop 1).take (Tryz.prog.cellsOf TT)) = some y1 := hf 1 _ rfl
    rw [c1] at h
    exact h
  have t2 : DataW.trod enc Tryz.prog w base spare held n TT [v7, v8, v9, v10, v11, v12] = some y2 := by
    have h : DataW.trod enc Tryz.prog w base spare held n TT (([v0, v1, v2, v3, v4, v5, v6, v7, v8, v9, v10, v11, v12, v13].drop 7).take (Tryz.prog.cellsOf TT)) = some y2 := hf 2 _ rfl
    rw [c1] at h
    exact h
  have t3 : DataW.trod enc Tryz.prog w base spare held n 3 [v13] = some y3 := by
    have h : DataW.trod enc Tryz.prog w base spare held n 3 (([v0, v1, v2, v3, v4, v5, v6, v7, v8, v9, v10, v11, v12, v13].drop 13).take (Tryz.prog.cellsOf 3)) = some y3 := hf 3 _ rfl
    rw [c0] at h
    exact h
  have e : (DataW.agg [y0.1, y1.1, y2.1, y3.1] : DataW H).weights Tryz.prog TOp = y0.1.weights Tryz.prog 3 ++ (y1.1.weights Tryz.prog TT ++ (y2.1.weights Tryz.prog TT ++ (y3.1.weights Tryz.prog 3 ++ []))) := by
    simp only [DataW.weights, Tryz.underlying48, List.map_cons, List.map_nil, DataW.weightsEach]
  simp only [List.map_cons, List.map_nil] at hw
  simp only [e, List.append_nil, List.mem_append] at hw
  obtain ⟨z0, hz0, _, _⟩ := DataW.trod_int Tryz.underlying3 t0
  obtain ⟨z3, hz3, _, _⟩ := DataW.trod_int Tryz.underlying3 t3
  simp only [List.cons.injEq, and_true] at hz0 hz3
  subst hz0 hz3
  obtain ⟨t, A, ca, B, cb, K, ck, e1, h1, h2⟩ := term_cells n t1 fun k hk => hw k (.inr (.inl hk))
  obtain ⟨u, A', ca', B', cb', K', ck', e2, h3, h4⟩ := term_cells n t2 fun k hk => hw k (.inr (.inr (.inl hk)))
  simp only [List.cons.injEq, and_true] at e1 e2
  obtain ⟨rfl, rfl, rfl, rfl, rfl, rfl⟩ := e1
  obtain ⟨rfl, rfl, rfl, rfl, rfl, rfl⟩ := e2
  exact ⟨z0, t, A, ca, B, cb, K, ck, u, A', ca', B', cb', K', ck', z3, rfl, h1, h2, h3, h4⟩
set_option maxRecDepth 100000 in
theorem open_ops {b0 : Nat} {v : Value} {d : DataW H} {p : List MemPlace} {tys : List TypeId} {ds : List (DataW H)} {j : Nat} (hval : Value.okWide Tryz.prog w .any b0 TOps v) (hd : DataW.Trod enc Tryz.prog w base spare held TOps v d p)
    (hsz : (DataW.weightsEach Tryz.prog tys ds).all (· ≤ reachBytes) = true) (htj : tys[j]? = some TOps) (hdj : ds[j]? = some d) :
    ∃ (X : Option Addr) (n c : Nat), v = .slice X n c ∧ n ≤ 140737488351232 ∧ ∀ i, i < n → ∃ b off cs, X = some ⟨b, off, none⟩ ∧ b < w.heap.size ∧ OpIs w cs ∧ ∀ q u, cs[q]? = some u → w.cell? ⟨b, off + i * 14 + q, none⟩ = some u := by
  obtain ⟨ptr, len0, cap0, rfl, _⟩ := okWide_slice Tryz.underlying45 hval
  obtain ⟨fuel, hf⟩ := hd
  have hw : ∀ n ∈ d.weights Tryz.prog TOps, n ≤ reachBytes := fun n hn => by
    have := List.all_eq_true.1 hsz n (DataW.weights_mem_each htj hdj n hn)
    simpa using this
  rcases DataW.trod_slice Tryz.underlying45 hf with ⟨hcs, hx⟩ | ⟨ad, len, cap, elems, rest, n', rfl, hcs, hx, _, hle, hmx, hel, hat, _, _⟩
  · simp only [Value.cells, List.cons.injEq, and_true] at hcs
    simp at hcs
    obtain ⟨rfl, rfl, rfl⟩ := hcs
    exact ⟨none, 0, 0, rfl, Nat.zero_le _, fun i hi => absurd hi (Nat.not_lt_zero i)⟩
  · simp [Value.cells] at hcs
    obtain ⟨rfl, rfl, rfl⟩ := hcs
    have c14 : Tryz.prog.cellsOf TOp = 14 := by kernel_rfl
    have b224 : Tryz.prog.bytesOf TOp = 224 := by kernel_rfl
    simp only [Prod.mk.injEq] at hx
    rw [hx.1] at hw
    have hlen : len0 * 224 ≤ reachBytes := by
      have := hw _ (by simp only [DataW.weights, Tryz.underlying45, List.mem_cons]; exact .inl rfl)
      rw [b224] at this
      refine Nat.le_trans (Nat.mul_le_mul_right _ ?_) this
      simp only [List.length_map]
      omega
    have each : ∀ i, i < len0 → ∃ cs', w.cells? base (ad.add (i * 14)) 14 = some cs' ∧ OpIs w cs' := fun i hi => by
      have h1 := hat i hi
      rw [c14] at h1
      obtain ⟨u, hu⟩ : ∃ u, elems[i]? = some u := ⟨_, List.getElem?_eq_getElem (by omega)⟩
      rw [hu] at h1
      obtain ⟨cs', hc, ht⟩ := Option.bind_eq_some_iff.1 h1
      refine ⟨cs', hc, op_cells n' ht fun k hk => hw k ?_⟩
      simp only [DataW.weights, Tryz.underlying45, List.mem_cons, List.mem_append]
      exact .inr (.inl (weightsAll_mem (List.mem_map.2 ⟨u, List.mem_of_getElem? hu, rfl⟩) k hk))
    refine ⟨some ad, len0, cap0, rfl, by have : reachBytes ≤ 140737488351232 := by decide
                                         omega, fun i hi => ?_⟩
    obtain ⟨cs0, hc0, k0, t0, A0, ca0, B0, cb0, K0, ck0, u0, A1, ca1, B1, cb1, K1, ck1, n0, rfl, _⟩ := each 0 (by omega)
    have hsp : ad.spot = none ∧ ad.block < w.heap.size := by
      have h := (World.cells?_some hc0).2.2 0 (by decide)
      simp only [Nat.zero_mul, Addr.add_zero'] at h
      exact ⟨(lt_of_cell h).2, (lt_of_cell h).1⟩
    obtain ⟨b, off, sp⟩ := ad
    obtain ⟨hsp, hbl⟩ := hsp
    simp only at hsp hbl
    subst hsp
    obtain ⟨cs', hc, hop⟩ := each i hi
    refine ⟨b, off, cs', rfl, hbl, hop, fun q u hq => ?_⟩
    have hql : q < 14 := by
      have h1 := (List.getElem?_eq_some_iff.1 hq).1
      obtain ⟨_, _, _, _, _, _, _, _, _, _, _, _, _, _, _, _, rfl, _⟩ := hop
      exact h1
    have h := (World.cells?_some hc).2.2 q hql
    rw [add_lit, add_lit] at h
    rw [h]
    exact hq
set_option maxRecDepth 100000 in
/-- a row of terms among the arguments -/
theorem open_terms {b0 : Nat} {v : Value} {d : DataW H} {p : List MemPlace} {tys : List TypeId} {ds : List (DataW H)} {j : Nat} (hval : Value.okWide Tryz.prog w .any b0 26 v) (hd : DataW.Trod enc Tryz.prog w base spare held 26 v d p)
    (hsz : (DataW.weightsEach Tryz.prog tys ds).all (· ≤ reachBytes) = true) (htj : tys[j]? = some 26) (hdj : ds[j]? = some d) :
    ∃ (X : Option Addr) (l : List Tm) (c : Nat), v = .slice X l.length c ∧ KidsAt w X l 0 ∧ (∀ t ∈ l, WfT t) ∧ l.length * 104 ≤ 140737488351232 := by
  obtain ⟨ptr, len0, cap0, rfl, _⟩ := okWide_slice Tryz.underlying26 hval
  obtain ⟨fuel, hf⟩ := hd
  have hw : ∀ n ∈ d.weights Tryz.prog 26, n ≤ reachBytes := fun n hn => by
    have := List.all_eq_true.1 hsz n (DataW.weights_mem_each htj hdj n hn)
    simpa using this
  rcases DataW.trod_slice Tryz.underlying26 hf with ⟨hcs, hx⟩ | ⟨ad, len, cap, elems, rest, n', rfl, hcs, hx, _, hle, hmx, hel, hat, _, _⟩
  · simp only [Value.cells, List.cons.injEq, and_true] at hcs
    simp at hcs
    obtain ⟨rfl, rfl, rfl⟩ := hcs
    exact ⟨none, [], 0, rfl, KidsAt.nil _ _, fun t ht => absurd ht List.not_mem_nil, Nat.zero_le _⟩
  · simp [Value.cells] at hcs
    obtain ⟨rfl, rfl, rfl⟩ := hcs
    have c6 : Tryz.prog.cellsOf TT = 6 := by kernel_rfl
    have b6 : Tryz.prog.bytesOf TT = 104 := by kernel_rfl
    simp only [Prod.mk.injEq] at hx
    rw [hx.1] at hw
    have hlen : len0 * 104 ≤ reachBytes := by
      have := hw _ (by simp only [DataW.weights, Tryz.underlying26, List.mem_cons]; exact .inl rfl)
      rw [b6] at this
      refine Nat.le_trans (Nat.mul_le_mul_right _ ?_) this
      simp only [List.length_map]
      omega
    have each : ∀ i, i < len0 → ∃ cs', w.cells? base (ad.add (i * 6)) 6 = some cs' ∧ TermIs w cs' := fun i hi => by
      have h1 := hat i hi
      rw [c6] at h1
      obtain ⟨u, hu⟩ : ∃ u, elems[i]? = some u := ⟨_, List.getElem?_eq_getElem (by omega)⟩
      rw [hu] at h1
      obtain ⟨cs', hc, ht⟩ := Option.bind_eq_some_iff.1 h1
      refine ⟨cs', hc, term_cells n' ht fun k hk => hw k ?_⟩
      simp only [DataW.weights, Tryz.underlying26, List.mem_cons, List.mem_append]
      exact .inr (.inl (weightsAll_mem (List.mem_map.2 ⟨u, List.mem_of_getElem? hu, rfl⟩) k hk))
    by_cases h0 : len0 = 0
    · subst h0
      exact ⟨some ad, [], cap0, rfl, KidsAt.nil _ _, fun t ht => absurd ht List.not_mem_nil, Nat.zero_le _⟩
    · obtain ⟨cs0, hc0, t0', A0, ca0, B0, cb0, K0, ck0, rfl, _⟩ := each 0 (by omega)
      have hsp : ad.spot = none ∧ ad.block < w.heap.size := by
        have h := (World.cells?_some hc0).2.2 0 (by decide)
        simp only [Nat.zero_mul, Addr.add_zero'] at h
        exact ⟨(lt_of_cell h).2, (lt_of_cell h).1⟩
      obtain ⟨b, off, sp⟩ := ad
      obtain ⟨hsp, hbl⟩ := hsp
      simp only at hsp hbl
      subst hsp
      have each2 : ∀ i, ∃ t : Tm, i < len0 → PtrAt w b (off + (0 + i) * 6) t ∧ WfT t := fun i => by
        by_cases hi : i < len0
        · obtain ⟨cs', hc, t', A', ca', B', cb', K', ck', rfl, hta, hwf⟩ := each i hi
          refine ⟨t', fun _ => ⟨⟨_, hta.is ca' cb' ck', hbl, fun q u hq => ?_⟩, hwf⟩⟩
          have hql : q < 6 := (List.getElem?_eq_some_iff.1 hq).1
          have h := (World.cells?_some hc).2.2 q hql
          rw [add_lit, add_lit] at h
          rw [Nat.zero_add, h]
          exact hq
        · exact ⟨.mk 0 ⟨#[]⟩ 0 [] [] [], fun h => absurd h hi⟩
      have hkl : ((List.range len0).map fun i => Classical.choose (each2 i)).length = len0 := by simp
      refine ⟨some ⟨b, off, none⟩, (List.range len0).map fun i => Classical.choose (each2 i), cap0, by rw [hkl], KidsAt.of fun i t' ht => ?_, fun t' ht => ?_, ?_⟩
      · simp only [List.getElem?_map] at ht
        obtain ⟨i', hi', rfl⟩ := Option.map_eq_some_iff.1 ht
        obtain ⟨hlt, rfl⟩ := List.getElem?_eq_some_iff.1 hi'
        simp only [List.length_range] at hlt
        simp only [List.getElem_range]
        exact (Classical.choose_spec (each2 i) hlt).1
      · obtain ⟨i, hi, rfl⟩ := List.mem_map.1 ht
        exact (Classical.choose_spec (each2 i) (List.mem_range.1 hi)).2
      · rw [hkl]
        exact Nat.le_trans hlen (by decide)
end
end Go.Proofs.YteohoodfcgfkeaaGreat
