/- A law's arguments: what they are at the call, and that they read behind it as they did ahead, where nothing old has turned. No condition. -/
import Derived.Test.YteohoodfcgfkeaaGreatTeBase
import Derived.Deep.Slices
import Derived.Deep.Fields
import Derived.SizedLaws
import Derived.Carry
import Derived.OpenShut
import Derived.ChangeMaps5
namespace Go.Proofs.YteohoodfcgfkeaaGreat
open Go.ChangeShapes Go.WideShapes Go.Deep Go.RowKit

section
variable {H : Type} {enc : TypeId × Value → H} {P : Program} {w : World} {base : Nat} {spare : Nat → Bool} {held : Bool}
theorem open_slice_fields {t e : TypeId} {fs : Array Field} {fuel : Nat} {cs : List Value} {x : DataW H × List MemPlace} (ht : P.underlying t = some (.slice e)) (he : P.underlying e = some (.struct fs))
    (hone : oneCellFields P fs = true) (hC : P.cellsOf e = fs.size) (h : DataW.trod enc P w base spare held fuel t cs = some x) :
    (cs = [.slice none 0 0] ∧ x = (.nil, [])) ∨
    ∃ (a : Addr) (len cap m : Nat) (D : Nat → DataW H) (Pl : Nat → List MemPlace), cs = [.slice (some a) len cap] ∧ base ≤ a.block ∧ len ≤ cap ∧ cap ≤ maxLen ∧ m = (if spare a.block then cap else len) ∧
      x = (.slice ((List.range len).map D) ((List.range (m - len)).map fun j => D (len + j)), MemPlace.row a (m * fs.size) ++ (List.range m).flatMap Pl) ∧
      ∀ i, i < m → ∃ (ys : List (DataW H × List MemPlace)) (n : Nat), D i = .agg (ys.map (·.1)) ∧ Pl i = ys.flatMap (·.2) ∧ ys.length = fs.size ∧
        ∀ (j : Nat) (f : Field), fs[j]? = some f → ∃ (v : Value) (y : DataW H × List MemPlace), w.cell? (a.add (i * fs.size + j)) = some v ∧ ys[j]? = some y ∧ DataW.trod enc P w base spare held n f.type [v] = some y := by
  rcases open_slice ht h with h0 | ⟨a, len, cap, m, n, D, Pl, hcs, hb, hl, hm, hmm, hx, hi⟩
  · exact .inl h0
  · refine .inr ⟨a, len, cap, m, D, Pl, hcs, hb, hl, hm, hmm, by rw [hC] at hx; exact hx, fun i him => ?_⟩
    obtain ⟨cs', hc, ht'⟩ := hi i him
    rw [hC] at hc
    obtain ⟨ys, n', hn', hy, hlen, hyl, hf⟩ := DataW.trod_struct he ht'
    obtain ⟨_, hcl, hat⟩ := World.cells?_some hc
    simp only [Prod.mk.injEq] at hy
    refine ⟨ys, n', hy.1, hy.2, hyl, fun j f hj => ?_⟩
    obtain ⟨ho, hk⟩ := hone_of hone j f hj
    have hjl : j < fs.size := (Array.getElem?_eq_some_iff.1 hj).1
    have hcell := hat j hjl
    have hv : cs'[j]? = some (cs'[j]'(by omega)) := List.getElem?_eq_getElem (by omega)
    have h1 := hf j f hj
    rw [ho, hk] at h1
    have hone' : (cs'.drop j).take 1 = [cs'[j]'(by omega)] := by
      rw [List.drop_eq_getElem_cons (by omega)]
      rfl
    rw [hone'] at h1
    have hys : ys[j]? = some (ys[j]'(by omega)) := List.getElem?_eq_getElem (by omega)
    refine ⟨_, _, ?_, hys, h1.trans hys⟩
    rw [← Go.Deep.add_add, hcell, hv]

theorem lt_of_cell {w : World} {a : Addr} {v : Value} (h : w.cell? a = some v) : a.block < w.heap.size ∧ a.spot = none := by
  unfold World.cell? at h
  split at h
  · rename_i hb
    refine ⟨(Array.getElem?_eq_some_iff.1 hb).1, ?_⟩
    split at h
    · cases h
    · rename_i hs
      simpa using hs
  · cases h

theorem weightsAll_mem {e : TypeId} : ∀ {l : List (DataW H)} {d : DataW H}, d ∈ l → ∀ n ∈ d.weights P e, n ∈ DataW.weightsAll P e l
  | d' :: r, d, hd, n, hn => by
    simp only [DataW.weightsAll, List.mem_append]
    rcases List.mem_cons.1 hd with rfl | h
    · exact Or.inl hn
    · exact Or.inr (weightsAll_mem h n hn)
theorem sized_pair {ts : List TypeId} {ds : List (DataW H)} (h : (DataW.weightsEach P ts ds).all (· ≤ reachBytes) = true) {j : Nat} {t e : TypeId} {f0 f1 : Field} {elems spare : List (DataW H)} {d0 : DataW H} {bytes : List UInt8}
    (ht : ts[j]? = some t) (hd : ds[j]? = some (.slice elems spare)) (hu : P.underlying t = some (.slice e)) (hu2 : P.underlying e = some (.struct #[f0, f1])) (hx : DataW.agg [d0, .lit (.string bytes)] ∈ elems) : bytes.length ≤ reachBytes := by
  refine of_decide_eq_true (List.all_eq_true.1 h _ (DataW.weights_mem_each ht hd _ ?_))
  simp only [DataW.weights, hu, List.mem_cons, List.mem_append]
  exact Or.inr (Or.inl (weightsAll_mem hx _ (by simp [DataW.weights, DataW.weightsEach, hu2])))

/-- A slice of structs of a number and a text, among the arguments: the cells at every index, every text within reach. -/
theorem open_pairs {b0 : Nat} {t e ti ts : TypeId} {k : IntKind} {n0 n1 : Field} {v : Value} {d : DataW H} {p : List MemPlace} {tys : List TypeId} {ds : List (DataW H)} {j : Nat}
    (ht : P.underlying t = some (.slice e)) (he : P.underlying e = some (.struct #[n0, n1])) (h0 : n0.type = ti) (h1 : n1.type = ts) (hi : P.underlying ti = some (.int k)) (hs : P.underlying ts = some .string) (hone : oneCellFields P #[n0, n1] = true) (hC : P.cellsOf e = 2)
    (hb : 0 < P.bytesOf e) (hval : Value.okWide P w .any b0 t v) (hd : DataW.Trod enc P w base spare held t v d p) (hsz : (DataW.weightsEach P tys ds).all (· ≤ reachBytes) = true) (htj : tys[j]? = some t) (hdj : ds[j]? = some d) :
    ∃ (A : Option Addr) (n cp : Nat) (ks : Nat → Int) (ss : Nat → ByteArray), v = .slice A n cp ∧ n ≤ reachBytes ∧
      ∀ i, i < n → ∃ b off, A = some ⟨b, off, none⟩ ∧ b < w.heap.size ∧ w.cell? ⟨b, off + i * 2, none⟩ = some (.int k (ks i)) ∧ w.cell? ⟨b, off + i * 2 + 1, none⟩ = some (.string (ss i)) ∧ (ss i).size ≤ reachBytes ∧ (Lit.int k (ks i)).wf = true := by
  obtain ⟨ptr, len, cap, rfl, hok⟩ := okWide_slice ht hval
  obtain ⟨fuel, hf⟩ := hd
  rcases open_slice_fields ht he hone hC hf with ⟨hcs, hx⟩ | ⟨a, len', cap', m, D, Pl, hcs, _, hl, hm, hmm, hx, hat⟩
  · simp [Value.cells] at hcs
    obtain ⟨rfl, rfl, rfl⟩ := hcs
    exact ⟨none, 0, 0, fun _ => 0, fun _ => ⟨#[]⟩, rfl, Nat.zero_le _, fun i hi => by omega⟩
  · simp [Value.cells] at hcs
    obtain ⟨rfl, rfl, rfl⟩ := hcs
    simp only [Prod.mk.injEq] at hx
    have hlm : len ≤ m := by rw [hmm]; split <;> omega
    have hw := sized_slice hsz htj (hdj.trans (congrArg some hx.1)) ht
    have hn : len ≤ reachBytes := by
      refine Nat.le_trans ?_ hw
      simp only [List.length_map, List.length_range]
      exact Nat.le_trans (by omega) (Nat.le_mul_of_pos_right _ hb)
    have each : ∀ i, ∃ (z : Int) (s : ByteArray), i < len → ∃ b off, a = ⟨b, off, none⟩ ∧ b < w.heap.size ∧ w.cell? ⟨b, off + i * 2, none⟩ = some (.int k z) ∧ w.cell? ⟨b, off + i * 2 + 1, none⟩ = some (.string s) ∧ s.size ≤ reachBytes ∧ (Lit.int k z).wf = true := by
      intro i
      by_cases hil : i < len
      · obtain ⟨ys, n', hD, hP, hyl, hfs⟩ := hat i (by omega)
        obtain ⟨v0, y0, c0, hy0, r0⟩ := hfs 0 n0 rfl
        obtain ⟨v1, y1, c1, hy1, r1⟩ := hfs 1 n1 rfl
        rw [h0] at r0
        rw [h1] at r1
        obtain ⟨z, hz, hyz, hwf⟩ := DataW.trod_int hi r0
        obtain ⟨s, hs', hys, hsl⟩ := DataW.trod_string hs r1
        simp only [List.cons.injEq, and_true] at hz hs'
        subst hz hs'
        refine ⟨z, s, fun _ => ?_⟩
        have hl0 := lt_of_cell c1
        have hsp : a.spot = none ∧ a.block < w.heap.size := by
          have hz0 := hat 0 (by omega)
          obtain ⟨_, _, _, _, _, hfs0⟩ := hz0
          obtain ⟨v0', _, c0', _, _⟩ := hfs0 0 n0 rfl
          simp only [Nat.zero_mul, Nat.add_zero, Addr.add] at c0'
          exact ⟨(lt_of_cell c0').2, (lt_of_cell c0').1⟩
        obtain ⟨b, off, sp⟩ := a
        simp only at hsp
        obtain ⟨rfl, hblt⟩ := hsp
        have e0 : (⟨b, off, none⟩ : Addr).add (i * #[n0, n1].size + 0) = ⟨b, off + i * 2, none⟩ := by
          unfold Addr.add
          split <;> simp_all
        have e1 : (⟨b, off, none⟩ : Addr).add (i * #[n0, n1].size + 1) = ⟨b, off + i * 2 + 1, none⟩ := by
          unfold Addr.add
          split <;> simp_all <;> omega
        rw [e0] at c0
        rw [e1] at c1
        refine ⟨b, off, rfl, hblt, c0, c1, ?_, hwf⟩
        have hDi : D i = .agg [y0.1, .lit (.string s.data.toList)] := by
          rw [hD]
          match ys, hyl, hy0, hy1 with
          | [u0, u1], _, hy0, hy1 =>
            simp at hy0 hy1
            subst hy0 hy1
            simp [hys]
        have := sized_pair (bytes := s.data.toList) (d0 := y0.1) hsz htj (hdj.trans (congrArg some hx.1)) ht he (List.mem_map.2 ⟨i, List.mem_range.2 hil, hDi⟩)
        simpa using this
      · exact ⟨0, ⟨#[]⟩, fun h => absurd h hil⟩
    refine ⟨some a, len, cap, fun i => Classical.choose (each i), fun i => Classical.choose (Classical.choose_spec (each i)), rfl, hn, fun i hil => ?_⟩
    obtain ⟨b, off, rfl, h⟩ := Classical.choose_spec (Classical.choose_spec (each i)) hil
    exact ⟨b, off, rfl, h⟩

theorem trodAll_on (hl : laidOutB P = true) {W W' : World} (hb : Below W.heap.size W W') {sp : Nat → Bool} : ∀ {ts : List TypeId} {vs : List Value} {ds : List (DataW H)} {ps : List MemPlace},
    (∀ t ∈ ts, P.readableRec t = true ∧ t < P.types.size) → (∀ p ∈ ps, p.block < W.heap.size) → (∀ p ∈ ps, sp p.block = true) → DataW.TrodAll enc P W 0 (fun _ => true) true ts vs ds ps → DataW.TrodAll enc P W' 0 sp true ts vs ds ps
  | [], vs, ds, ps, _, _, _, h => by
    obtain ⟨rfl, rfl, rfl⟩ := trodAll_nil h
    exact trodAll_mk0
  | t :: ts, vs, ds, ps, ht, hlt, hs, h => by
    obtain ⟨v, vs', d, ds', p, q, rfl, rfl, rfl, h0, h1⟩ := trodAll_cons h
    refine trodAll_cons_mk ?_ ?_
    · exact WideElems.Trod_stays hl (ht t (by simp)).1 (ht t (by simp)).2 h0 (fun x hx => hb.same (hlt x (by simp [hx]))) (fun x hx => hs x (by simp [hx]))
    · exact trodAll_on hl hb (fun u hu => ht u (by simp [hu])) (fun x hx => hlt x (by simp [hx])) (fun x hx => hs x (by simp [hx])) h1

/-- A law that gives true and leaves all that is old as it was. -/
theorem law_post (hl : laidOutB P = true) {f : Func} {s : ChangeSpec} {apart fresh handsOn again : Bool} {W W' : World} {args : Array Value} {ds gs : List (DataW H)} {before : List MemPlace} {tb : TypeId}
    (hts : (f.params.toList.all fun t => P.readableRec t && decide (t < P.types.size)) = true) (hv : s.vars = []) (hr : f.resultTypes = #[tb]) (hrt : P.underlying tb = some .bool)
    (hfn : s.fn H (ds ++ gs) = { results := [.lit (.bool true)], args := ds }) (hW : DataW.Whole enc P f.params.toList s.vars apart W args.toList ds gs before) (hb : Below W.heap.size W W') :
    s.post enc P f apart fresh handsOn again W args (.bool true) W' := by
  have hW' := hW
  have hlt := hW.lt
  obtain ⟨p, q, hA, hV, rfl, hfz, hnd⟩ := hW
  have hV' := hV
  rw [hv] at hV'
  obtain ⟨rfl, rfl⟩ := trodVars_none hV'
  refine post_of_below (pa := p) (pv := []) hW' (fun b sp hd => ?_) (fun sp hsp => ?_) (fun sp _ => ?_) rfl hb (ok_one hr rfl (okWide_bool_mk hrt _))
  · rw [hfn, hr]
    exact trodAll_cons_mk (shut_bool hrt _) trodAll_mk0
  · rw [hfn]
    exact trodAll_on hl hb (fun t ht => by simpa using List.all_eq_true.1 hts t ht) (fun x hx => hlt x (by simp [hx])) (fun x hx => hsp x (by simp [hx])) hA
  · rw [hfn, hv]
    rfl
end
end Go.Proofs.YteohoodfcgfkeaaGreat
