/- A term among a law's arguments. Condition: sizes within reach. -/
import Derived.Test.YteohoodfcgfkeaaGreatTeArgs
import Derived.Test.YteohoodfcgfkeaaGreatTeMem
import Derived.ChangeSlices
namespace Go.Proofs.YteohoodfcgfkeaaGreat
open Go.ChangeShapes Go.WideShapes Go.Deep Go.RowKit

abbrev TT : TypeId := 28
section
variable {H : Type} {enc : TypeId × Value → H} {w : World} {base : Nat} {spare : Nat → Bool} {held : Bool}
theorem add_lit (b off i : Nat) : (⟨b, off, none⟩ : Addr).add i = ⟨b, off + i, none⟩ := by unfold Addr.add; split <;> simp_all
theorem int_in64 {z : Int} (h : (Lit.int .i64 z).wf = true) : In64 z := by
  have e1 : IntKind.i64.min = -9223372036854775808 := by decide
  have e2 : IntKind.i64.max = 9223372036854775807 := by decide
  simp only [Lit.wf, e1, e2, Bool.and_eq_true, decide_eq_true_eq] at h
  exact h
theorem ints_arg {t e : TypeId} {fuel : Nat} {v : Value} {x : DataW H × List MemPlace} (ht : Tryz.prog.underlying t = some (.slice e)) (he : Tryz.prog.underlying e = some (.int .i64)) (hc : Tryz.prog.cellsOf e = 1)
    (h : DataW.trod enc Tryz.prog w base spare held fuel t [v] = some x) :
    ∃ (A : Option Addr) (ca : Nat) (s : List Int), v = .slice A s.length ca ∧ IntsAt w A s ∧ All64 s ∧ s.length ≤ ca ∧ ca ≤ maxLen ∧ (x.1 = .nil ∧ s = [] ∨ ∃ sp, x.1 = .slice (lits .i64 s) sp) := by
  rcases open_ints ht he hc h with ⟨hcs, hx⟩ | ⟨a, len, cap, zs, hcs, _, hl, hm, hz, hx, hat, hwf⟩
  · simp only [List.cons.injEq, and_true] at hcs
    exact ⟨none, 0, [], hcs, fun i x hx => (by simp at hx), fun x hx => (by cases hx), Nat.le_refl _, Nat.zero_le _, .inl ⟨by rw [hx], rfl⟩⟩
  · simp only [List.cons.injEq, and_true] at hcs
    have hlz : len ≤ zs.length := by rw [hz]; split <;> omega
    have hlen : (zs.take len).length = len := by rw [List.length_take]; omega
    refine ⟨some a, cap, zs.take len, by rw [hlen]; exact hcs, fun i x hi => ?_, fun x hxm => int_in64 (hwf x (List.mem_of_mem_take hxm)), by rw [hlen]; exact hl, hm, .inr ⟨_, by rw [hx]⟩⟩
    rw [List.getElem?_take] at hi
    split at hi
    · rename_i hil
      have hzi := (List.getElem?_eq_some_iff.1 hi).1
      have h1 := hat i hzi
      rw [List.getD_eq_getElem?_getD, hi, Option.getD_some] at h1
      have h2 := hat 0 (by omega)
      have hl0 := lt_of_cell h2
      obtain ⟨b, off, sp⟩ := a
      have hsp : sp = none := by have := hl0.2; simpa [Addr.add] using this
      subst hsp
      exact ⟨b, off, rfl, by simpa [Addr.add] using hl0.1, by
        have e : (⟨b, off, none⟩ : Addr).add i = ⟨b, off + i, none⟩ := by unfold Addr.add; split <;> simp_all
        rw [← e]; exact h1⟩
    · cases hi
theorem ints_weight {t e : TypeId} {d : DataW H} {s : List Int} (ht : Tryz.prog.underlying t = some (.slice e)) (hb : Tryz.prog.bytesOf e = 8) (h : d = .nil ∧ s = [] ∨ ∃ sp, d = .slice (lits .i64 s) sp)
    (hw : ∀ n ∈ d.weights Tryz.prog t, n ≤ reachBytes) : s.length * 8 ≤ reachBytes := by
  rcases h with ⟨_, rfl⟩ | ⟨sp, rfl⟩
  · exact Nat.zero_le _
  · have := hw _ (by simp only [DataW.weights, ht, List.mem_cons]; exact .inl rfl)
    rw [hb] at this
    refine Nat.le_trans (Nat.mul_le_mul_right _ ?_) this
    simp [lits]
set_option maxRecDepth 100000 in
/-- an array's cells, opened -/
theorem arr_cells {fuel : Nat} {v0 v1 : Value} {y : DataW H × List MemPlace} (h : DataW.trod enc Tryz.prog w base spare held fuel 25 [v0, v1] = some y) (hw : ∀ n ∈ y.1.weights Tryz.prog 25, n ≤ reachBytes) :
    ∃ (A B : Option Addr) (ca cb : Nat) (s a : List Int), v0 = .slice A s.length ca ∧ v1 = .slice B a.length cb ∧ IntsAt w A s ∧ IntsAt w B a ∧ All64 s ∧ All64 a ∧ s.length * 8 ≤ reachBytes ∧ a.length * 8 ≤ reachBytes ∧ s.length ≤ ca ∧ a.length ≤ cb ∧ ca ≤ maxLen ∧ cb ≤ maxLen := by
  obtain ⟨y0, y1, n, hx, _, t0, t1⟩ := trod_struct2 Tryz.underlying25 h
  have c1 : Tryz.prog.cellsOf 22 = 1 := by kernel_rfl
  have c2 : Tryz.prog.cellsOf 23 = 1 := by kernel_rfl
  have t0' : DataW.trod enc Tryz.prog w base spare held n 22 [v0] = some y0 := by
    have h := t0
    simp only [List.drop_zero] at h
    rw [c1] at h
    exact h
  have t1' : DataW.trod enc Tryz.prog w base spare held n 23 [v1] = some y1 := by
    have h := t1
    rw [c2] at h
    exact h
  obtain ⟨A, ca, s, rfl, hA, hs64, l1, l2, hs⟩ := ints_arg Tryz.underlying22 Tryz.underlying3 (by kernel_rfl) t0'
  obtain ⟨B, cb, a, rfl, hB, ha64, m1, m2, ha⟩ := ints_arg Tryz.underlying23 Tryz.underlying2 (by kernel_rfl) t1'
  have b1 : Tryz.prog.bytesOf 3 = 8 := by kernel_rfl
  have b2 : Tryz.prog.bytesOf 2 = 8 := by kernel_rfl
  rw [hx] at hw
  have e : (DataW.agg [y0.1, y1.1] : DataW H).weights Tryz.prog 25 = y0.1.weights Tryz.prog 22 ++ (y1.1.weights Tryz.prog 23 ++ []) := by
    simp only [DataW.weights, Tryz.underlying25, List.map_cons, List.map_nil, DataW.weightsEach]
  simp only [e, List.append_nil, List.mem_append] at hw
  exact ⟨A, B, ca, cb, s, a, rfl, rfl, hA, hB, hs64, ha64, ints_weight Tryz.underlying22 b1 hs (fun n hn => hw n (.inl hn)), ints_weight Tryz.underlying23 b2 ha (fun n hn => hw n (.inr hn)), l1, m1, l2, m2⟩

/-- what is known of the cells of a term -/
def TermIs (w : World) (cs : List Value) : Prop := ∃ (t : Tm) (A : Option Addr) (ca : Nat) (B : Option Addr) (cb : Nat) (K : Option Addr) (ck : Nat), cs = (tmCells t A ca B cb K ck).toList ∧ TmAt w t A B K ∧ WfT t
set_option maxRecDepth 100000 in
theorem term_cells : ∀ (fuel : Nat) {cs : List Value} {y : DataW H × List MemPlace}, DataW.trod enc Tryz.prog w base spare held fuel TT cs = some y → (∀ n ∈ y.1.weights Tryz.prog TT, n ≤ reachBytes) → TermIs w cs := by
  intro fuel
  induction fuel using Nat.strongRecOn with
  | ind fuel ih =>
    intro cs y h hw
    obtain ⟨xs, n, rfl, rfl, hl, hlen, hf⟩ := DataW.trod_struct Tryz.underlying28 h
    have hl6 : cs.length = 6 := by rw [hl]; kernel_rfl
    obtain ⟨v0, v1, v2, v3, v4, v5, rfl⟩ : ∃ v0 v1 v2 v3 v4 v5, cs = [v0, v1, v2, v3, v4, v5] := by
      match cs, hl6 with
      | [v0, v1, v2, v3, v4, v5], _ => exact ⟨v0, v1, v2, v3, v4, v5, rfl⟩
    obtain ⟨y0, y1, y2, y3, y4, rfl⟩ : ∃ y0 y1 y2 y3 y4, xs = [y0, y1, y2, y3, y4] := by
      match xs, hlen with
      | [y0, y1, y2, y3, y4], _ => exact ⟨y0, y1, y2, y3, y4, rfl⟩
    have c0 : Tryz.prog.cellsOf 3 = 1 := by kernel_rfl
    have c1 : Tryz.prog.cellsOf 9 = 1 := by kernel_rfl
    have c3 : Tryz.prog.cellsOf 25 = 2 := by kernel_rfl
    have c4 : Tryz.prog.cellsOf 26 = 1 := by kernel_rfl
    have t0 : DataW.trod enc Tryz.prog w base spare held n 3 [v0] = some y0 := by
      have h : DataW.trod enc Tryz.prog w base spare held n 3 (([v0, v1, v2, v3, v4, v5].drop 0).take (Tryz.prog.cellsOf 3)) = some y0 := hf 0 _ rfl
      rw [c0] at h
      exact h
    have t1 : DataW.trod enc Tryz.prog w base spare held n 9 [v1] = some y1 := by
      have h : DataW.trod enc Tryz.prog w base spare held n 9 (([v0, v1, v2, v3, v4, v5].drop 1).take (Tryz.prog.cellsOf 9)) = some y1 := hf 1 _ rfl
      rw [c1] at h
      exact h
    have t2 : DataW.trod enc Tryz.prog w base spare held n 3 [v2] = some y2 := by
      have h : DataW.trod enc Tryz.prog w base spare held n 3 (([v0, v1, v2, v3, v4, v5].drop 2).take (Tryz.prog.cellsOf 3)) = some y2 := hf 2 _ rfl
      rw [c0] at h
      exact h
    have t3 : DataW.trod enc Tryz.prog w base spare held n 25 [v3, v4] = some y3 := by
      have h : DataW.trod enc Tryz.prog w base spare held n 25 (([v0, v1, v2, v3, v4, v5].drop 3).take (Tryz.prog.cellsOf 25)) = some y3 := hf 3 _ rfl
      rw [c3] at h
      exact h
    have t4 : DataW.trod enc Tryz.prog w base spare held n 26 [v5] = some y4 := by
      have h : DataW.trod enc Tryz.prog w base spare held n 26 (([v0, v1, v2, v3, v4, v5].drop 5).take (Tryz.prog.cellsOf 26)) = some y4 := hf 4 _ rfl
      rw [c4] at h
      exact h
    have e : (DataW.agg [y0.1, y1.1, y2.1, y3.1, y4.1] : DataW H).weights Tryz.prog TT = y0.1.weights Tryz.prog 3 ++ (y1.1.weights Tryz.prog 9 ++ (y2.1.weights Tryz.prog 3 ++ (y3.1.weights Tryz.prog 25 ++ (y4.1.weights Tryz.prog 26 ++ [])))) := by
      simp only [DataW.weights, Tryz.underlying28, List.map_cons, List.map_nil, DataW.weightsEach]
    simp only [List.map_cons, List.map_nil] at hw
    simp only [e, List.append_nil, List.mem_append] at hw
    obtain ⟨z0, hz0, _, hf0⟩ := DataW.trod_int Tryz.underlying3 t0
    obtain ⟨s1, hs1, hys, _⟩ := DataW.trod_string Tryz.underlying9 t1
    obtain ⟨z2, hz2, _, hf2⟩ := DataW.trod_int Tryz.underlying3 t2
    simp only [List.cons.injEq, and_true] at hz0 hs1 hz2
    subst hz0 hs1 hz2
    obtain ⟨A, B, ca, cb, s, a, rfl, rfl, hA, hB, hs64, ha64, hsl, hal, _⟩ := arr_cells t3 (fun n hn => hw n (.inr (.inr (.inr (.inl hn)))))
    have hsz : s1.size ≤ reachBytes := by
      have := hw s1.data.toList.length (.inr (.inl (by rw [hys]; simp [DataW.weights])))
      simpa using this
    rcases DataW.trod_slice Tryz.underlying26 t4 with ⟨hcs, hx⟩ | ⟨ad, len, cap, elems, rest, n', rfl, hcs, hx, _, hle, hmx, hel, hat, _, _⟩
    · simp only [List.cons.injEq, and_true] at hcs
      subst hcs
      refine ⟨.mk z0 s1 z2 s a [], A, ca, B, cb, none, 0, rfl, ⟨hA, hB, KidsAt.nil _ _⟩, ?_⟩
      simp only [WfT, WfL]
      exact ⟨int_in64 hf0, int_in64 hf2, hs64, ha64, Nat.le_trans hsz (by decide), Nat.le_trans hsl (by decide), Nat.le_trans hal (by decide), Nat.zero_le _, trivial⟩
    · simp only [List.cons.injEq, and_true] at hcs
      subst hcs
      have c6 : Tryz.prog.cellsOf TT = 6 := by kernel_rfl
      have b6 : Tryz.prog.bytesOf TT = 104 := by kernel_rfl
      rw [hx] at hw
      have hlen : len * 104 ≤ reachBytes := by
        have := hw _ (.inr (.inr (.inr (.inr (by simp only [DataW.weights, Tryz.underlying26, List.mem_cons]; exact .inl rfl)))))
        rw [b6] at this
        refine Nat.le_trans (Nat.mul_le_mul_right _ ?_) this
        simp only [List.length_map]
        omega
      have each : ∀ i, i < len → ∃ cs', w.cells? base (ad.add (i * 6)) 6 = some cs' ∧ TermIs w cs' := fun i hi => by
        have h1 := hat i hi
        rw [c6] at h1
        obtain ⟨u, hu⟩ : ∃ u, elems[i]? = some u := ⟨_, List.getElem?_eq_getElem (by omega)⟩
        rw [hu] at h1
        obtain ⟨cs', hc, ht⟩ := Option.bind_eq_some_iff.1 h1
        refine ⟨cs', hc, ih n' (by omega) ht fun k hk => hw k (.inr (.inr (.inr (.inr ?_))))⟩
        simp only [DataW.weights, Tryz.underlying26, List.mem_cons, List.mem_append]
        exact .inr (.inl (weightsAll_mem (List.mem_map.2 ⟨u, List.mem_of_getElem? hu, rfl⟩) k hk))
      by_cases h0 : len = 0
      · subst h0
        refine ⟨.mk z0 s1 z2 s a [], A, ca, B, cb, some ad, cap, rfl, ⟨hA, hB, KidsAt.nil _ _⟩, ?_⟩
        simp only [WfT, WfL]
        exact ⟨int_in64 hf0, int_in64 hf2, hs64, ha64, Nat.le_trans hsz (by decide), Nat.le_trans hsl (by decide), Nat.le_trans hal (by decide), Nat.zero_le _, trivial⟩
      · obtain ⟨cs0, hc0, t0', A0, ca0, B0, cb0, K0, ck0, rfl, _⟩ := each 0 (by omega)
        have hsp : ad.spot = none ∧ ad.block < w.heap.size := by
          have h := (World.cells?_some hc0).2.2 0 (by decide)
          simp only [Nat.zero_mul, Addr.add_zero'] at h
          exact ⟨(lt_of_cell h).2, (lt_of_cell h).1⟩
        obtain ⟨b, off, sp⟩ := ad
        obtain ⟨hsp, hbl⟩ := hsp
        simp only at hsp hbl
        subst hsp
        have each2 : ∀ i, ∃ t : Tm, i < len → PtrAt w b (off + (0 + i) * 6) t ∧ WfT t := fun i => by
          by_cases hi : i < len
          · obtain ⟨cs', hc, t', A', ca', B', cb', K', ck', rfl, hta, hwf⟩ := each i hi
            refine ⟨t', fun _ => ⟨⟨_, hta.is ca' cb' ck', hbl, fun q u hq => ?_⟩, hwf⟩⟩
            have hql : q < 6 := (List.getElem?_eq_some_iff.1 hq).1
            have h := (World.cells?_some hc).2.2 q hql
            rw [add_lit, add_lit] at h
            rw [Nat.zero_add, h]
            exact hq
          · exact ⟨.mk 0 ⟨#[]⟩ 0 [] [] [], fun h => absurd h hi⟩
        have hkl : ((List.range len).map fun i => Classical.choose (each2 i)).length = len := by simp
        refine ⟨.mk z0 s1 z2 s a ((List.range len).map fun i => Classical.choose (each2 i)), A, ca, B, cb, some ⟨b, off, none⟩, cap, ?_, ⟨hA, hB, KidsAt.of fun i t' ht => ?_⟩, ?_⟩
        · show _ = [Value.int .i64 z0, .string s1, .int .i64 z2, .slice A s.length ca, .slice B a.length cb, .slice (some ⟨b, off, none⟩) ((List.range len).map fun i => Classical.choose (each2 i)).length cap]
          rw [hkl]
        · simp only [Tm.kids, List.getElem?_map] at ht
          obtain ⟨i', hi', rfl⟩ := Option.map_eq_some_iff.1 ht
          obtain ⟨hlt, rfl⟩ := List.getElem?_eq_some_iff.1 hi'
          simp only [List.length_range] at hlt
          simp only [List.getElem_range]
          exact (Classical.choose_spec (each2 i) hlt).1
        · simp only [WfT]
          refine ⟨int_in64 hf0, int_in64 hf2, hs64, ha64, Nat.le_trans hsz (by decide), Nat.le_trans hsl (by decide), Nat.le_trans hal (by decide), ?_, WfL.of fun t' ht => ?_⟩
          · rw [hkl]; exact Nat.le_trans hlen (by decide)
          · obtain ⟨i, hi, rfl⟩ := List.mem_map.1 ht
            exact (Classical.choose_spec (each2 i) (List.mem_range.1 hi)).2
set_option maxRecDepth 100000 in
theorem open_term {b0 : Nat} {v : Value} {d : DataW H} {p : List MemPlace} {tys : List TypeId} {ds : List (DataW H)} {j : Nat} (hval : Value.okWide Tryz.prog w .any b0 TT v) (hd : DataW.Trod enc Tryz.prog w base spare held TT v d p)
    (hsz : (DataW.weightsEach Tryz.prog tys ds).all (· ≤ reachBytes) = true) (htj : tys[j]? = some TT) (hdj : ds[j]? = some d) :
    ∃ (t : Tm) (A : Option Addr) (ca : Nat) (B : Option Addr) (cb : Nat) (K : Option Addr) (ck : Nat), v = tmVal t A ca B cb K ck ∧ TmAt w t A B K ∧ WfT t := by
  obtain ⟨cs, rfl, hcs⟩ := okWide_struct Tryz.underlying28 hval
  obtain ⟨fuel, hf⟩ := hd
  obtain ⟨t, A, ca, B, cb, K, ck, e, h1, h2⟩ := term_cells fuel hf fun n hn => by
    have := List.all_eq_true.1 hsz n (DataW.weights_mem_each htj hdj n hn)
    simpa using this
  refine ⟨t, A, ca, B, cb, K, ck, ?_, h1, h2⟩
  congr 1
  exact Array.toList_inj.1 e
end
end Go.Proofs.YteohoodfcgfkeaaGreat
