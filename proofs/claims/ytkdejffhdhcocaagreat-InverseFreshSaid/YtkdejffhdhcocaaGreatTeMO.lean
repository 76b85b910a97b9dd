/- A law's arguments: what they are at the call, and that they read behind it as they did ahead, where nothing old has turned. No condition. · A term among a law's arguments. Condition: sizes within reach. · A row of calls (Op), and a row of terms, among a law's arguments. No condition. -/
import Derived.Test.YtkdejffhdhcocaaGreatTeM1
import Derived.Deep.Slices
import Derived.Deep.Fields
import Derived.SizedLaws
import Derived.Carry
import Derived.OpenShut
import Derived.ChangeMaps5
import Derived.ChangeSlices
namespace Go.Proofs.YtkdejffhdhcocaaGreat
open Go.ChangeShapes Go.WideShapes Go.Deep Go.RowKit

section
variable {H : Type} {enc : TypeId × Value → H} {P : Program} {w : World} {base : Nat} {spare : Nat → Bool} {held : Bool}
theorem open_slice_fields {t e : TypeId} {fs : Array Field} {fuel : Nat} {cs : List Value} {x : DataW H × List MemPlace} (ht : P.underlying t = some (.slice e)) (he : P.underlying e = some (.struct fs))
    (hone : oneCellFields P fs = true) (hC : P.cellsOf e = fs.size) (h : DataW.trod enc P w base spare held fuel t cs = some x) :
    (cs = [.slice none 0 0] ∧ x = (.nil, [])) ∨
    ∃ (a : Addr) (len cap m : Nat) (D : Nat → DataW H) (Pl : Nat → List MemPlace), cs = [.slice (some a) len cap] ∧ base ≤ a.block ∧ len ≤ cap ∧ cap ≤ maxLen ∧ m = (if spare a.block then cap else len) ∧
      x = (.slice ((List.range len).map D) ((List.range (m - len)).map fun j => D (len + j)), MemPlace.row a (m * fs.size) ++ (List.range m).flatMap Pl) ∧
      ∀ i, i < m → ∃ (ys : List (DataW H × List MemPlace)) (n : Nat), D i = .agg (ys.map (·.1)) ∧ Pl i = ys.flatMap (·.2) ∧ ys.length = fs.size ∧
        ∀ (j : Nat) (f : Field), fs[j]? = some f → ∃ (v : Value) (y : DataW H × List MemPlace), w.cell? (a.add (i * fs.size + j)) = some v ∧ ys[j]? = some y ∧ DataW.trod enc P w base spare held n f.type [v] = some y := by
  rcases open_slice ht h with h0 | ⟨a, len, cap, m, n, D, Pl, hcs, hb, hl, hm, hmm, hx, hi⟩
  · exact .inl h0
  · refine .inr ⟨a, len, cap, m, D, Pl, hcs, hb, hl, hm, hmm, by rw [hC] at hx; exact hx, fun i him => ?_⟩
    obtain ⟨cs', hc, ht'⟩ := hi i him
    rw [hC] at hc
    obtain ⟨ys, n', hn', hy, hlen, hyl, hf⟩ := DataW.trod_struct he ht'
    obtain ⟨_, hcl, hat⟩ := World.cells?_some hc
    simp only [Prod.mk.injEq] at hy
    refine ⟨ys, n', hy.1, hy.2, hyl, fun j f hj => ?_⟩
    obtain ⟨ho, hk⟩ := hone_of hone j f hj
    have hjl : j < fs.size := (Array.getElem?_eq_some_iff.1 hj).1
    have hcell := hat j hjl
    have hv : cs'[j]? = some (cs'[j]'(by omega)) := List.getElem?_eq_getElem (by omega)
    have h1 := hf j f hj
    rw [ho, hk] at h1
    have hone' : (cs'.drop j).take 1 = [cs'[j]'(by omega)] := by
      rw [List.drop_eq_getElem_cons (by omega)]
      rfl
    rw [hone'] at h1
    have hys : ys[j]? = some (ys[j]'(by omega)) := List.getElem?_eq_getElem (by omega)
    refine ⟨_, _, ?_, hys, h1.trans hys⟩
    rw [← Go.Deep.add_add, hcell, hv]

theorem lt_of_cell {w : World} {a : Addr} {v : Value} (h : w.cell? a = some v) : a.block < w.heap.size ∧ a.spot = none := by
  unfold World.cell? at h
  split at h
  · rename_i hb
    refine ⟨(Array.getElem?_eq_some_iff.1 hb).1, ?_⟩
    split at h
    · cases h
    · rename_i hs
      simpa using hs
  · cases h

theorem weightsAll_mem {e : TypeId} : ∀ {l : List (DataW H)} {d : DataW H}, d ∈ l → ∀ n ∈ d.weights P e, n ∈ DataW.weightsAll P e l
  | d' :: r, d, hd, n, hn => by
    simp only [DataW.weightsAll, List.mem_append]
    rcases List.mem_cons.1 hd with rfl | h
    · exact Or.inl hn
    · exact Or.inr (weightsAll_mem h n hn)
theorem sized_pair {ts : List TypeId} {ds : List (DataW H)} (h : (DataW.weightsEach P ts ds).all (· ≤ reachBytes) = true) {j : Nat} {t e : TypeId} {f0 f1 : Field} {elems spare : List (DataW H)} {d0 : DataW H} {bytes : List UInt8}
    (ht : ts[j]? = some t) (hd : ds[j]? = some (.slice elems spare)) (hu : P.underlying t = some (.slice e)) (hu2 : P.underlying e = some (.struct #[f0, f1])) (hx : DataW.agg [d0, .lit (.string bytes)] ∈ elems) : bytes.length ≤ reachBytes := by
  refine of_decide_eq_true (List.all_eq_true.1 h _ (DataW.weights_mem_each ht hd _ ?_))
  simp only [DataW.weights, hu, List.mem_cons, List.mem_append]
  exact Or.inr (Or.inl (weightsAll_mem hx _ (by simp [DataW.weights, DataW.weightsEach, hu2])))

/-- A slice of structs of a number and a text, among the arguments: the cells at every index, every text within reach. -/
theorem open_pairs {b0 : Nat} {t e ti ts : TypeId} {k : IntKind} {n0 n1 : Field} {v : Value} {d : DataW H} {p : List MemPlace} {tys : List TypeId} {ds : List (DataW H)} {j : Nat}
    (ht : P.underlying t = some (.slice e)) (he : P.underlying e = some (.struct #[n0, n1])) (h0 : n0.type = ti) (h1 : n1.type = ts) (hi : P.underlying ti = some (.int k)) (hs : P.underlying ts = some .string) (hone : oneCellFields P #[n0, n1] = true) (hC : P.cellsOf e = 2)
    (hb : 0 < P.bytesOf e) (hval : Value.okWide P w .any b0 t v) (hd : DataW.Trod enc P w base spare held t v d p) (hsz : (DataW.weightsEach P tys ds).all (· ≤ reachBytes) = true) (htj : tys[j]? = some t) (hdj : ds[j]? = some d) :
    ∃ (A : Option Addr) (n cp : Nat) (ks : Nat → Int) (ss : Nat → ByteArray), v = .slice A n cp ∧ n ≤ reachBytes ∧
      ∀ i, i < n → ∃ b off, A = some ⟨b, off, none⟩ ∧ b < w.heap.size ∧ w.cell? ⟨b, off + i * 2, none⟩ = some (.int k (ks i)) ∧ w.cell? ⟨b, off + i * 2 + 1, none⟩ = some (.string (ss i)) ∧ (ss i).size ≤ reachBytes ∧ (Lit.int k (ks i)).wf = true := by
  obtain ⟨ptr, len, cap, rfl, hok⟩ := okWide_slice ht hval
  obtain ⟨fuel, hf⟩ := hd
  rcases open_slice_fields ht he hone hC hf with ⟨hcs, hx⟩ | ⟨a, len', cap', m, D, Pl, hcs, _, hl, hm, hmm, hx, hat⟩
  · simp [Value.cells] at hcs
    obtain ⟨rfl, rfl, rfl⟩ := hcs
    exact ⟨none, 0, 0, fun _ => 0, fun _ => ⟨#[]⟩, rfl, Nat.zero_le _, fun i hi => by omega⟩
  · simp [Value.cells] at hcs
    obtain ⟨rfl, rfl, rfl⟩ := hcs
    simp only [Prod.mk.injEq] at hx
    have hlm : len ≤ m := by rw [hmm]; split <;> omega
    have hw := sized_slice hsz htj (hdj.trans (congrArg some hx.1)) ht
    have hn : len ≤ reachBytes := by
      refine Nat.le_trans ?_ hw
      simp only [List.length_map, List.length_range]
      exact Nat.le_trans (by omega) (Nat.le_mul_of_pos_right _ hb)
    have each : ∀ i, ∃ (z : Int) (s : ByteArray), i < len → ∃ b off, a = ⟨b, off, none⟩ ∧ b < w.heap.size ∧ w.cell? ⟨b, off + i * 2, none⟩ = some (.int k z) ∧ w.cell? ⟨b, off + i * 2 + 1, none⟩ = some (.string s) ∧ s.size ≤ reachBytes ∧ (Lit.int k z).wf = true := by
      intro i
      by_cases hil : i < len
      · obtain ⟨ys, n', hD, hP, hyl, hfs⟩ := hat i (by omega)
        obtain ⟨v0, y0, c0, hy0, r0⟩ := hfs 0 n0 rfl
        obtain ⟨v1, y1, c1, hy1, r1⟩ := hfs 1 n1 rfl
        rw [h0] at r0
        rw [h1] at r1
        obtain ⟨z, hz, hyz, hwf⟩ := DataW.trod_int hi r0
        obtain ⟨s, hs', hys, hsl⟩ := DataW.trod_string hs r1
        simp only [List.cons.injEq, and_true] at hz hs'
        subst hz hs'
        refine ⟨z, s, fun _ => ?_⟩
        have hl0 := lt_of_cell c1
        have hsp : a.spot = none ∧ a.block < w.heap.size := by
          have hz0 := hat 0 (by omega)
          obtain ⟨_, _, _, _, _, hfs0⟩ := hz0
          obtain ⟨v0', _, c0', _, _⟩ := hfs0 0 n0 rfl
          simp only [Nat.zero_mul, Nat.add_zero, Addr.add] at c0'
          exact ⟨(lt_of_cell c0').2, (lt_of_cell c0').1⟩
        obtain ⟨b, off, sp⟩ := a
        simp only at hsp
        obtain ⟨rfl, hblt⟩ := hsp
        have e0 : (⟨b, off, none⟩ : Addr).add (i * #[n0, n1].size + 0) = ⟨b, off + i * 2, none⟩ := by
          unfold Addr.add
          split <;> simp_all
        have e1 : (⟨b, off, none⟩ : Addr).add (i * #[n0, n1].size + 1) = ⟨b, off + i * 2 + 1, none⟩ := by
          unfold Addr.add
          split <;> simp_all <;> omega
        rw [e0] at c0
        rw [e1] at c1
        refine ⟨b, off, rfl, hblt, c0, c1, ?_, hwf⟩
        have hDi : D i = .agg [y0.1, .lit (.string s.data.toList)] := by
          rw [hD]
          match ys, hyl, hy0, hy1 with
          | [u0, u1], _, hy0, hy1 =>
            simp at hy0 hy1
            subst hy0 hy1
            simp [hys]
        have := sized_pair (bytes := s.data.toList) (d0 := y0.1) hsz htj (hdj.trans (congrArg some hx.1)) ht he (List.mem_map.2 ⟨i, List.mem_range.2 hil, hDi⟩)
        simpa using this
      · exact ⟨0, ⟨#[]⟩, fun h => absurd h hil⟩
    refine ⟨some a, len, cap, fun i => Classical.choose (each i), fun i => Classical.choose (Classical.choose_spec (each i)), rfl, hn, fun i hil => ?_⟩
    obtain ⟨b, off, rfl, h⟩ := Classical.choose_spec (Classical.choose_spec (each i)) hil
    exact ⟨b, off, rfl, h⟩

theorem trodAll_on (hl : laidOutB P = true) {W W' : World} (hb : Below W.heap.size W W') {sp : Nat → Bool} : ∀ {ts : List TypeId} {vs : List Value} {ds : List (DataW H)} {ps : List MemPlace},
    (∀ t ∈ ts, P.readableRec t = true ∧ t < P.types.size) → (∀ p ∈ ps, p.block < W.heap.size) → (∀ p ∈ ps, sp p.block = true) → DataW.TrodAll enc P W 0 (fun _ => true) true ts vs ds ps → DataW.TrodAll enc P W' 0 sp true ts vs ds ps
  | [], vs, ds, ps, _, _, _, h => by
    obtain ⟨rfl, rfl, rfl⟩ := trodAll_nil h
    exact trodAll_mk0
  | t :: ts, vs, ds, ps, ht, hlt, hs, h => by
    obtain ⟨v, vs', d, ds', p, q, rfl, rfl, rfl, h0, h1⟩ := trodAll_cons h
    refine trodAll_cons_mk ?_ ?_
    · exact WideElems.Trod_stays hl (ht t (by simp)).1 (ht t (by simp)).2 h0 (fun x hx => hb.same (hlt x (by simp [hx]))) (fun x hx => hs x (by simp [hx]))
    · exact trodAll_on hl hb (fun u hu => ht u (by simp [hu])) (fun x hx => hlt x (by simp [hx])) (fun x hx => hs x (by simp [hx])) h1

/-- A law that gives true and leaves all that is old as it was. -/
theorem law_post (hl : laidOutB P = true) {f : Func} {s : ChangeSpec} {apart fresh handsOn again : Bool} {W W' : World} {args : Array Value} {ds gs : List (DataW H)} {before : List MemPlace} {tb : TypeId}
    (hts : (f.params.toList.all fun t => P.readableRec t && decide (t < P.types.size)) = true) (hv : s.vars = []) (hr : f.resultTypes = #[tb]) (hrt : P.underlying tb = some .bool)
    (hfn : s.fn H (ds ++ gs) = { results := [.lit (.bool true)], args := ds }) (hW : DataW.Whole enc P f.params.toList s.vars apart W args.toList ds gs before) (hb : Below W.heap.size W W') :
    s.post enc P f apart fresh handsOn again W args (.bool true) W' := by
  have hW' := hW
  have hlt := hW.lt
  obtain ⟨p, q, hA, hV, rfl, hfz, hnd⟩ := hW
  have hV' := hV
  rw [hv] at hV'
  obtain ⟨rfl, rfl⟩ := trodVars_none hV'
  refine post_of_below (pa := p) (pv := []) hW' (fun b sp hd => ?_) (fun sp hsp => ?_) (fun sp _ => ?_) rfl hb (ok_one hr rfl (okWide_bool_mk hrt _))
  · rw [hfn, hr]
    exact trodAll_cons_mk (shut_bool hrt _) trodAll_mk0
  · rw [hfn]
    exact trodAll_on hl hb (fun t ht => by simpa using List.all_eq_true.1 hts t ht) (fun x hx => hlt x (by simp [hx])) (fun x hx => hsp x (by simp [hx])) hA
  · rw [hfn, hv]
    rfl
end
end Go.Proofs.YtkdejffhdhcocaaGreat

namespace Go.Proofs.YtkdejffhdhcocaaGreat
open Go.ChangeShapes Go.WideShapes Go.Deep Go.RowKit

abbrev TT : TypeId := 38
section
variable {H : Type} {enc : TypeId × Value → H} {w : World} {base : Nat} {spare : Nat → Bool} {held : Bool}
theorem add_lit (b off i : Nat) : (⟨b, off, none⟩ : Addr).add i = ⟨b, off + i, none⟩ := by unfold Addr.add; split <;> simp_all
theorem int_in64 {z : Int} (h : (Lit.int .i64 z).wf = true) : In64 z := by
  have e1 : IntKind.i64.min = -9223372036854775808 := by decide
  have e2 : IntKind.i64.max = 9223372036854775807 := by decide
  simp only [Lit.wf, e1, e2, Bool.and_eq_true, decide_eq_true_eq] at h
  exact h
theorem ints_arg {t e : TypeId} {fuel : Nat} {v : Value} {x : DataW H × List MemPlace} (ht : Tryz.prog.underlying t = some (.slice e)) (he : Tryz.prog.underlying e = some (.int .i64)) (hc : Tryz.prog.cellsOf e = 1)
    (h : DataW.trod enc Tryz.prog w base spare held fuel t [v] = some x) :
    ∃ (A : Option Addr) (ca : Nat) (s : List Int), v = .slice A s.length ca ∧ IntsAt w A s ∧ All64 s ∧ s.length ≤ ca ∧ ca ≤ maxLen ∧ (x.1 = .nil ∧ s = [] ∨ ∃ sp, x.1 = .slice (lits .i64 s) sp) := by
  rcases open_ints ht he hc h with ⟨hcs, hx⟩ | ⟨a, len, cap, zs, hcs, _, hl, hm, hz, hx, hat, hwf⟩
  · simp only [List.cons.injEq, and_true] at hcs
    exact ⟨none, 0, [], hcs, fun i x hx => (by simp at hx), fun x hx => (by cases hx), Nat.le_refl _, Nat.zero_le _, .inl ⟨by rw [hx], rfl⟩⟩
  · simp only [List.cons.injEq, and_true] at hcs
    have hlz : len ≤ zs.length := by rw [hz]; split <;> omega
    have hlen : (zs.take len).length = len := by rw [List.length_take]; omega
    refine ⟨some a, cap, zs.take len, by rw [hlen]; exact hcs, fun i x hi => ?_, fun x hxm => int_in64 (hwf x (List.mem_of_mem_take hxm)), by rw [hlen]; exact hl, hm, .inr ⟨_, by rw [hx]⟩⟩
    rw [List.getElem?_take] at hi
    split at hi
    · rename_i hil
      have hzi := (List.getElem?_eq_some_iff.1 hi).1
      have h1 := hat i hzi
      rw [List.getD_eq_getElem?_getD, hi, Option.getD_some] at h1
      have h2 := hat 0 (by omega)
      have hl0 := lt_of_cell h2
      obtain ⟨b, off, sp⟩ := a
      have hsp : sp = none := by have := hl0.2; simpa [Addr.add] using this
      subst hsp
      exact ⟨b, off, rfl, by simpa [Addr.add] using hl0.1, by
        have e : (⟨b, off, none⟩ : Addr).add i = ⟨b, off + i, none⟩ := by unfold Addr.add; split <;> simp_all
        rw [← e]; exact h1⟩
    · cases hi
theorem ints_weight {t e : TypeId} {d : DataW H} {s : List Int} (ht : Tryz.prog.underlying t = some (.slice e)) (hb : Tryz.prog.bytesOf e = 8) (h : d = .nil ∧ s = [] ∨ ∃ sp, d = .slice (lits .i64 s) sp)
    (hw : ∀ n ∈ d.weights Tryz.prog t, n ≤ reachBytes) : s.length * 8 ≤ reachBytes := by
  rcases h with ⟨_, rfl⟩ | ⟨sp, rfl⟩
  · exact Nat.zero_le _
  · have := hw _ (by simp only [DataW.weights, ht, List.mem_cons]; exact .inl rfl)
    rw [hb] at this
    refine Nat.le_trans (Nat.mul_le_mul_right _ ?_) this
    simp [lits]
set_option maxRecDepth 100000 in
/-- an array's cells, opened -/
theorem arr_cells {fuel : Nat} {v0 v1 : Value} {y : DataW H × List MemPlace} (h : DataW.trod enc Tryz.prog w base spare held fuel 36 [v0, v1] = some y) (hw : ∀ n ∈ y.1.weights Tryz.prog 36, n ≤ reachBytes) :
    ∃ (A B : Option Addr) (ca cb : Nat) (s a : List Int), v0 = .slice A s.length ca ∧ v1 = .slice B a.length cb ∧ IntsAt w A s ∧ IntsAt w B a ∧ All64 s ∧ All64 a ∧ s.length * 8 ≤ reachBytes ∧ a.length * 8 ≤ reachBytes ∧ s.length ≤ ca ∧ a.length ≤ cb ∧ ca ≤ maxLen ∧ cb ≤ maxLen := by
  obtain ⟨y0, y1, n, hx, _, t0, t1⟩ := trod_struct2 Tryz.underlying36 h
  have c1 : Tryz.prog.cellsOf 33 = 1 := by kernel_rfl
  have c2 : Tryz.prog.cellsOf 34 = 1 := by kernel_rfl
  have t0' : DataW.trod enc Tryz.prog w base spare held n 33 [v0] = some y0 := by
    have h := t0
    simp only [List.drop_zero] at h
    rw [c1] at h
    exact h
  have t1' : DataW.trod enc Tryz.prog w base spare held n 34 [v1] = some y1 := by
    have h := t1
    rw [c2] at h
    exact h
  obtain ⟨A, ca, s, rfl, hA, hs64, l1, l2, hs⟩ := ints_arg Tryz.underlying33 Tryz.underlying3 (by kernel_rfl) t0'
  obtain ⟨B, cb, a, rfl, hB, ha64, m1, m2, ha⟩ := ints_arg Tryz.underlying34 Tryz.underlying2 (by kernel_rfl) t1'
  have b1 : Tryz.prog.bytesOf 3 = 8 := by kernel_rfl
  have b2 : Tryz.prog.bytesOf 2 = 8 := by kernel_rfl
  rw [hx] at hw
  have e : (DataW.agg [y0.1, y1.1] : DataW H).weights Tryz.prog 36 = y0.1.weights Tryz.prog 33 ++ (y1.1.weights Tryz.prog 34 ++ []) := by
    simp only [DataW.weights, Tryz.underlying36, List.map_cons, List.map_nil, DataW.weightsEach]
  simp only [e, List.append_nil, List.mem_append] at hw
  exact ⟨A, B, ca, cb, s, a, rfl, rfl, hA, hB, hs64, ha64, ints_weight Tryz.underlying33 b1 hs (fun n hn => hw n (.inl hn)), ints_weight Tryz.underlying34 b2 ha (fun n hn => hw n (.inr hn)), l1, m1, l2, m2⟩

/-- what is known of the cells of a term -/
def TermIs (w : World) (cs : List Value) : Prop := ∃ (t : Tm) (A : Option Addr) (ca : Nat) (B : Option Addr) (cb : Nat) (K : Option Addr) (ck : Nat), cs = (tmCells t A ca B cb K ck).toList ∧ TmAt w t A B K ∧ WfT t
set_option maxRecDepth 100000 in
theorem term_cells : ∀ (fuel : Nat) {cs : List Value} {y : DataW H × List MemPlace}, DataW.trod enc Tryz.prog w base spare held fuel TT cs = some y → (∀ n ∈ y.1.weights Tryz.prog TT, n ≤ reachBytes) → TermIs w cs := by
  intro fuel
  induction fuel using Nat.strongRecOn with
  | ind fuel ih =>
    intro cs y h hw
    obtain ⟨xs, n, rfl, rfl, hl, hlen, hf⟩ := DataW.trod_struct Tryz.underlying38 h
    have hl6 : cs.length = 6 := by rw [hl]; kernel_rfl
    obtain ⟨v0, v1, v2, v3, v4, v5, rfl⟩ : ∃ v0 v1 v2 v3 v4 v5, cs = [v0, v1, v2, v3, v4, v5] := by
      match cs, hl6 with
      | [v0, v1, v2, v3, v4, v5], _ => exact ⟨v0, v1, v2, v3, v4, v5, rfl⟩
    obtain ⟨y0, y1, y2, y3, y4, rfl⟩ : ∃ y0 y1 y2 y3 y4, xs = [y0, y1, y2, y3, y4] := by
      match xs, hlen with
      | [y0, y1, y2, y3, y4], _ => exact ⟨y0, y1, y2, y3, y4, rfl⟩
    have c0 : Tryz.prog.cellsOf 3 = 1 := by kernel_rfl
    have c1 : Tryz.prog.cellsOf 9 = 1 := by kernel_rfl
    have c3 : Tryz.prog.cellsOf 36 = 2 := by kernel_rfl
    have c4 : Tryz.prog.cellsOf 22 = 1 := by kernel_rfl
    have t0 : DataW.trod enc Tryz.prog w base spare held n 3 [v0] = some y0 := by
      have h : DataW.trod enc Tryz.prog w base spare held n 3 (([v0, v1, v2, v3, v4, v5].drop 0).take (Tryz.prog.cellsOf 3)) = some y0 := hf 0 _ rfl
      rw [c0] at h
      exact h
    have t1 : DataW.trod enc Tryz.prog w base spare held n 9 [v1] = some y1 := by
      have h : DataW.trod enc Tryz.prog w base spare held n 9 (([v0, v1, v2, v3, v4, v5].drop 1).take (Tryz.prog.cellsOf 9)) = some y1 := hf 1 _ rfl
      rw [c1] at h
      exact h
    have t2 : DataW.trod enc Tryz.prog w base spare held n 3 [v2] = some y2 := by
      have h : DataW.trod enc Tryz.prog w base spare held n 3 (([v0, v1, v2, v3, v4, v5].drop 2).take (Tryz.prog.cellsOf 3)) = some y2 := hf 2 _ rfl
      rw [c0] at h
      exact h
    have t3 : DataW.trod enc Tryz.prog w base spare held n 36 [v3, v4] = some y3 := by
      have h : DataW.trod enc Tryz.prog w base spare held n 36 (([v0, v1, v2, v3, v4, v5].drop 3).take (Tryz.prog.cellsOf 36)) = some y3 := hf 3 _ rfl
      rw [c3] at h
      exact h
    have t4 : DataW.trod enc Tryz.prog w base spare held n 22 [v5] = some y4 := by
      have h : DataW.trod enc Tryz.prog w base spare held n 22 (([v0, v1, v2, v3, v4, v5].drop 5).take (Tryz.prog.cellsOf 22)) = some y4 := hf 4 _ rfl
      rw [c4] at h
      exact h
    have e : (DataW.agg [y0.1, y1.1, y2.1, y3.1, y4.1] : DataW H).weights Tryz.prog TT = y0.1.weights Tryz.prog 3 ++ (y1.1.weights Tryz.prog 9 ++ (y2.1.weights Tryz.prog 3 ++ (y3.1.weights Tryz.prog 36 ++ (y4.1.weights Tryz.prog 22 ++ [])))) := by
      simp only [DataW.weights, Tryz.underlying38, List.map_cons, List.map_nil, DataW.weightsEach]
    simp only [List.map_cons, List.map_nil] at hw
    simp only [e, List.append_nil, List.mem_append] at hw
    obtain ⟨z0, hz0, _, hf0⟩ := DataW.trod_int Tryz.underlying3 t0
    obtain ⟨s1, hs1, hys, _⟩ := DataW.trod_string Tryz.underlying9 t1
    obtain ⟨z2, hz2, _, hf2⟩ := DataW.trod_int Tryz.underlying3 t2
    simp only [List.cons.injEq, and_true] at hz0 hs1 hz2
    subst hz0 hs1 hz2
    obtain ⟨A, B, ca, cb, s, a, rfl, rfl, hA, hB, hs64, ha64, hsl, hal, _⟩ := arr_cells t3 (fun n hn => hw n (.inr (.inr (.inr (.inl hn)))))
    have hsz : s1.size ≤ reachBytes := by
      have := hw s1.data.toList.length (.inr (.inl (by rw [hys]; simp [DataW.weights])))
      simpa using this
    rcases DataW.trod_slice Tryz.underlying22 t4 with ⟨hcs, hx⟩ | ⟨ad, len, cap, elems, rest, n', rfl, hcs, hx, _, hle, hmx, hel, hat, _, _⟩
    · simp only [List.cons.injEq, and_true] at hcs
      subst hcs
      refine ⟨.mk z0 s1 z2 s a [], A, ca, B, cb, none, 0, rfl, ⟨hA, hB, KidsAt.nil _ _⟩, ?_⟩
      simp only [WfT, WfL]
      exact ⟨int_in64 hf0, int_in64 hf2, hs64, ha64, Nat.le_trans hsz (by decide), Nat.le_trans hsl (by decide), Nat.le_trans hal (by decide), Nat.zero_le _, trivial⟩
    · simp only [List.cons.injEq, and_true] at hcs
      subst hcs
      have c6 : Tryz.prog.cellsOf TT = 6 := by kernel_rfl
      have b6 : Tryz.prog.bytesOf TT = 104 := by kernel_rfl
      rw [hx] at hw
      have hlen : len * 104 ≤ reachBytes := by
        have := hw _ (.inr (.inr (.inr (.inr (by simp only [DataW.weights, Tryz.underlying22, List.mem_cons]; exact .inl rfl)))))
        rw [b6] at this
        refine Nat.le_trans (Nat.mul_le_mul_right _ ?_) this
        simp only [List.length_map]
        omega
      have each : ∀ i, i < len → ∃ cs', w.cells? base (ad.add (i * 6)) 6 = some cs' ∧ TermIs w cs' := fun i hi => by
        have h1 := hat i hi
        rw [c6] at h1
        obtain ⟨u, hu⟩ : ∃ u, elems[i]? = some u := ⟨_, List.getElem?_eq_getElem (by omega)⟩
        rw [hu] at h1
        obtain ⟨cs', hc, ht⟩ := Option.bind_eq_some_iff.1 h1
        refine ⟨cs', hc, ih n' (by omega) ht fun k hk => hw k (.inr (.inr (.inr (.inr ?_))))⟩
        simp only [DataW.weights, Tryz.underlying22, List.mem_cons, List.mem_append]
        exact .inr (.inl (weightsAll_mem (List.mem_map.2 ⟨u, List.mem_of_getElem? hu, rfl⟩) k hk))
      by_cases h0 : len = 0
      · subst h0
        refine ⟨.mk z0 s1 z2 s a [], A, ca, B, cb, some ad, cap, rfl, ⟨hA, hB, KidsAt.nil _ _⟩, ?_⟩
        simp only [WfT, WfL]
        exact ⟨int_in64 hf0, int_in64 hf2, hs64, ha64, Nat.le_trans hsz (by decide), Nat.le_trans hsl (by decide), Nat.le_trans hal (by decide), Nat.zero_le _, trivial⟩
      · obtain ⟨cs0, hc0, t0', A0, ca0, B0, cb0, K0, ck0, rfl, _⟩ := each 0 (by omega)
        have hsp : ad.spot = none ∧ ad.block < w.heap.size := by
          have h := (World.cells?_some hc0).2.2 0 (by decide)
          simp only [Nat.zero_mul, Addr.add_zero'] at h
          exact ⟨(lt_of_cell h).2, (lt_of_cell h).1⟩
        obtain ⟨b, off, sp⟩ := ad
        obtain ⟨hsp, hbl⟩ := hsp
        simp only at hsp hbl
        subst hsp
        have each2 : ∀ i, ∃ t : Tm, i < len → PtrAt w b (off + (0 + i) * 6) t ∧ WfT t := fun i => by
          by_cases hi : i < len
          · obtain ⟨cs', hc, t', A', ca', B', cb', K', ck', rfl, hta, hwf⟩ := each i hi
            refine ⟨t', fun _ => ⟨⟨_, hta.is ca' cb' ck', hbl, fun q u hq => ?_⟩, hwf⟩⟩
            have hql : q < 6 := (List.getElem?_eq_some_iff.1 hq).1
            have h := (World.cells?_some hc).2.2 q hql
            rw [add_lit, add_lit] at h
            rw [Nat.zero_add, h]
            exact hq
          · exact ⟨.mk 0 ⟨#[]⟩ 0 [] [] [], fun h => absurd h hi⟩
        have hkl : ((List.range len).map fun i => Classical.choose (each2 i)).length = len := by simp
        refine ⟨.mk z0 s1 z2 s a ((List.range len).map fun i => Classical.choose (each2 i)), A, ca, B, cb, some ⟨b, off, none⟩, cap, ?_, ⟨hA, hB, KidsAt.of fun i t' ht => ?_⟩, ?_⟩
        · show _ = [Value.int .i64 z0, .string s1, .int .i64 z2, .slice A s.length ca, .slice B a.length cb, .slice (some ⟨b, off, none⟩) ((List.range len).map fun i => Classical.choose (each2 i)).length cap]
          rw [hkl]
        · simp only [Tm.kids, List.getElem?_map] at ht
          obtain ⟨i', hi', rfl⟩ := Option.map_eq_some_iff.1 ht
          obtain ⟨hlt, rfl⟩ := List.getElem?_eq_some_iff.1 hi'
          simp only [List.length_range] at hlt
          simp only [List.getElem_range]
          exact (Classical.choose_spec (each2 i) hlt).1
        · simp only [WfT]
          refine ⟨int_in64 hf0, int_in64 hf2, hs64, ha64, Nat.le_trans hsz (by decide), Nat.le_trans hsl (by decide), Nat.le_trans hal (by decide), ?_, WfL.of fun t' ht => ?_⟩
          · rw [hkl]; exact Nat.le_trans hlen (by decide)
          · obtain ⟨i, hi, rfl⟩ := List.mem_map.1 ht
            exact (Classical.choose_spec (each2 i) (List.mem_range.1 hi)).2
set_option maxRecDepth 100000 in
theorem open_term {b0 : Nat} {v : Value} {d : DataW H} {p : List MemPlace} {tys : List TypeId} {ds : List (DataW H)} {j : Nat} (hval : Value.okWide Tryz.prog w .any b0 TT v) (hd : DataW.Trod enc Tryz.prog w base spare held TT v d p)
    (hsz : (DataW.weightsEach Tryz.prog tys ds).all (· ≤ reachBytes) = true) (htj : tys[j]? = some TT) (hdj : ds[j]? = some d) :
    ∃ (t : Tm) (A : Option Addr) (ca : Nat) (B : Option Addr) (cb : Nat) (K : Option Addr) (ck : Nat), v = tmVal t A ca B cb K ck ∧ TmAt w t A B K ∧ WfT t := by
  obtain ⟨cs, rfl, hcs⟩ := okWide_struct Tryz.underlying38 hval
  obtain ⟨fuel, hf⟩ := hd
  obtain ⟨t, A, ca, B, cb, K, ck, e, h1, h2⟩ := term_cells fuel hf fun n hn => by
    have := List.all_eq_true.1 hsz n (DataW.weights_mem_each htj hdj n hn)
    simpa using this
  refine ⟨t, A, ca, B, cb, K, ck, ?_, h1, h2⟩
  congr 1
  exact Array.toList_inj.1 e
end
end Go.Proofs.YtkdejffhdhcocaaGreat

namespace Go.Proofs.YtkdejffhdhcocaaGreat
open Go.ChangeShapes Go.WideShapes Go.Deep Go.RowKit

section
variable {H : Type} {enc : TypeId × Value → H} {w : World} {base : Nat} {spare : Nat → Bool} {held : Bool}

set_option maxRecDepth 100000 in
/-- a row of terms among the arguments -/
theorem open_terms {b0 : Nat} {v : Value} {d : DataW H} {p : List MemPlace} {tys : List TypeId} {ds : List (DataW H)} {j : Nat} (hval : Value.okWide Tryz.prog w .any b0 22 v) (hd : DataW.Trod enc Tryz.prog w base spare held 22 v d p)
    (hsz : (DataW.weightsEach Tryz.prog tys ds).all (· ≤ reachBytes) = true) (htj : tys[j]? = some 22) (hdj : ds[j]? = some d) :
    ∃ (X : Option Addr) (l : List Tm) (c : Nat), v = .slice X l.length c ∧ KidsAt w X l 0 ∧ (∀ t ∈ l, WfT t) ∧ l.length * 104 ≤ 140737488351232 := by
  obtain ⟨ptr, len0, cap0, rfl, _⟩ := okWide_slice Tryz.underlying22 hval
  obtain ⟨fuel, hf⟩ := hd
  have hw : ∀ n ∈ d.weights Tryz.prog 22, n ≤ reachBytes := fun n hn => by
    have := List.all_eq_true.1 hsz n (DataW.weights_mem_each htj hdj n hn)
    simpa using this
  rcases DataW.trod_slice Tryz.underlying22 hf with ⟨hcs, hx⟩ | ⟨ad, len, cap, elems, rest, n', rfl, hcs, hx, _, hle, hmx, hel, hat, _, _⟩
  · simp only [Value.cells, List.cons.injEq, and_true] at hcs
    simp at hcs
    obtain ⟨rfl, rfl, rfl⟩ := hcs
    exact ⟨none, [], 0, rfl, KidsAt.nil _ _, fun t ht => absurd ht List.not_mem_nil, Nat.zero_le _⟩
  · simp [Value.cells] at hcs
    obtain ⟨rfl, rfl, rfl⟩ := hcs
    have c6 : Tryz.prog.cellsOf TT = 6 := by kernel_rfl
    have b6 : Tryz.prog.bytesOf TT = 104 := by kernel_rfl
    simp only [Prod.mk.injEq] at hx
    rw [hx.1] at hw
    have hlen : len0 * 104 ≤ reachBytes := by
      have := hw _ (by simp only [DataW.weights, Tryz.underlying22, List.mem_cons]; exact .inl rfl)
      rw [b6] at this
      refine Nat.le_trans (Nat.mul_le_mul_right _ ?_) this
      simp only [List.length_map]
      omega
    have each : ∀ i, i < len0 → ∃ cs', w.cells? base (ad.add (i * 6)) 6 = some cs' ∧ TermIs w cs' := fun i hi => by
      have h1 := hat i hi
      rw [c6] at h1
      obtain ⟨u, hu⟩ : ∃ u, elems[i]? = some u := ⟨_, List.getElem?_eq_getElem (by omega)⟩
      rw [hu] at h1
      obtain ⟨cs', hc, ht⟩ := Option.bind_eq_some_iff.1 h1
      refine ⟨cs', hc, term_cells n' ht fun k hk => hw k ?_⟩
      simp only [DataW.weights, Tryz.underlying22, List.mem_cons, List.mem_append]
      exact .inr (.inl (weightsAll_mem (List.mem_map.2 ⟨u, List.mem_of_getElem? hu, rfl⟩) k hk))
    by_cases h0 : len0 = 0
    · subst h0
      exact ⟨some ad, [], cap0, rfl, KidsAt.nil _ _, fun t ht => absurd ht List.not_mem_nil, Nat.zero_le _⟩
    · obtain ⟨cs0, hc0, t0', A0, ca0, B0, cb0, K0, ck0, rfl, _⟩ := each 0 (by omega)
      have hsp : ad.spot = none ∧ ad.block < w.heap.size := by
        have h := (World.cells?_some hc0).2.2 0 (by decide)
        simp only [Nat.zero_mul, Addr.add_zero'] at h
        exact ⟨(lt_of_cell h).2, (lt_of_cell h).1⟩
      obtain ⟨b, off, sp⟩ := ad
      obtain ⟨hsp, hbl⟩ := hsp
      simp only at hsp hbl
      subst hsp
      have each2 : ∀ i, ∃ t : Tm, i < len0 → PtrAt w b (off + (0 + i) * 6) t ∧ WfT t := fun i => by
        by_cases hi : i < len0
        · obtain ⟨cs', hc, t', A', ca', B', cb', K', ck', rfl, hta, hwf⟩ := each i hi
          refine ⟨t', fun _ => ⟨⟨_, hta.is ca' cb' ck', hbl, fun q u hq => ?_⟩, hwf⟩⟩
          have hql : q < 6 := (List.getElem?_eq_some_iff.1 hq).1
          have h := (World.cells?_some hc).2.2 q hql
          rw [add_lit, add_lit] at h
          rw [Nat.zero_add, h]
          exact hq
        · exact ⟨.mk 0 ⟨#[]⟩ 0 [] [] [], fun h => absurd h hi⟩
      have hkl : ((List.range len0).map fun i => Classical.choose (each2 i)).length = len0 := by simp
      refine ⟨some ⟨b, off, none⟩, (List.range len0).map fun i => Classical.choose (each2 i), cap0, by rw [hkl], KidsAt.of fun i t' ht => ?_, fun t' ht => ?_, ?_⟩
      · simp only [List.getElem?_map] at ht
        obtain ⟨i', hi', rfl⟩ := Option.map_eq_some_iff.1 ht
        obtain ⟨hlt, rfl⟩ := List.getElem?_eq_some_iff.1 hi'
        simp only [List.length_range] at hlt
        simp only [List.getElem_range]
        exact (Classical.choose_spec (each2 i) hlt).1
      · obtain ⟨i, hi, rfl⟩ := List.mem_map.1 ht
        exact (Classical.choose_spec (each2 i) (List.mem_range.1 hi)).2
      · rw [hkl]
        exact Nat.le_trans hlen (by decide)
end
end Go.Proofs.YtkdejffhdhcocaaGreat
