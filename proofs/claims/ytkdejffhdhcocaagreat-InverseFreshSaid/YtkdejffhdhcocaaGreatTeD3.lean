/- Rows of nodes: two terms are the same just if their rows are alike; which names a row speaks of; a name more in a rising list. Plain laws. No condition. · abacusref13.Put: a text more in a rising list. Condition: the list is short. · abacuslaw13.deep: a term is the same as itself, wherever it lies. Condition: not too great. · abacuslaw13.Eq: a term is the same as itself; weigh, Light. Conditions: not too great; sizes within reach. -/
import Derived.Test.YtkdejffhdhcocaaGreatTeNt
import Derived.Maps.AppendAt
import Derived.StillTailTactics
namespace Go.Proofs.YtkdejffhdhcocaaGreat
open Go.RowKit

theorem rows_cnt (t : Tm) {N : Nat} (h : N = (rowN ⟨t, 1, false⟩ N).length) : (rowN ⟨t, 1, false⟩ N).length = cnt t := by
  rw [(rowN_end ⟨t, 1, false⟩ h).length_eq]
  exact dfs_len t 1 false
theorem same_no {a b : Tm} (h : a ≠ b) : sameT a b = false := by
  unfold sameT
  have e : eqT a b = false := by
    cases e : eqT a b with
    | false => rfl
    | true => exact absurd ((eqT_iff a b).1 e) h
  rw [e]
  simp
theorem same_great {a b : Tm} (h : greatT a = true ∨ greatT b = true) : sameT a b = false := by
  unfold sameT
  rcases h with h | h <;> rw [h] <;> simp
theorem same_yes {a b : Tm} (ha : greatT a = false) (hb : greatT b = false) (h : a = b) : sameT a b = true := by
  unfold sameT
  rw [ha, hb, (eqT_iff a b).2 h]
  rfl
theorem rows_alike {a b : Tm} (e : a = b) {N M : Nat} (ha : N = (rowN ⟨a, 1, false⟩ N).length) (hb : M = (rowN ⟨b, 1, false⟩ M).length) : rowN ⟨a, 1, false⟩ N = rowN ⟨b, 1, false⟩ M := by
  subst e
  have h1 := rows_cnt a ha
  have h2 := rows_cnt a hb
  obtain rfl : N = M := by omega
  rfl
theorem rows_unlike {a b : Tm} {N M : Nat} (ha : N = (rowN ⟨a, 1, false⟩ N).length) (hb : M = (rowN ⟨b, 1, false⟩ M).length) {i : Nat} {x y : Nd} (hx : (rowN ⟨a, 1, false⟩ N)[i]? = some x) (hy : (rowN ⟨b, 1, false⟩ M)[i]? = some y) (h : ¬ likeNd x.t y.t) : sameT a b = false :=
  same_no fun e => h (by
    rw [rows_alike e ha hb, hy] at hx
    obtain rfl := Option.some.inj hx
    exact ⟨rfl, rfl, rfl, rfl, rfl, rfl⟩)
theorem rows_unlen {a b : Tm} {N M : Nat} (ha : N = (rowN ⟨a, 1, false⟩ N).length) (hb : M = (rowN ⟨b, 1, false⟩ M).length) (h : N ≠ M) : sameT a b = false :=
  same_no fun e => h (by rw [ha, hb, rows_alike e ha hb])

/-! ### a name more in a rising list -/
theorem ins_set {α : Type} {l : List α} {i : Nat} (h : i ≤ l.length) (j u : α) : (l.take i ++ j :: l.drop i).set i u = l.take i ++ u :: l.drop i := by
  have e : (l.take i).length = i := by rw [List.length_take]; omega
  rw [List.set_append_right _ _ (by omega), e, Nat.sub_self]
  rfl
theorem ins_down {α : Type} {l : List α} {i : Nat} {u : α} (h : l[i]? = some u) : l.take (i + 1) ++ u :: l.drop (i + 1) = l.take i ++ u :: l.drop i := by
  have e1 : l.take (i + 1) = l.take i ++ [u] := by rw [List.take_add_one, h]; rfl
  obtain ⟨hl, rfl⟩ := List.getElem?_eq_some_iff.1 h
  rw [e1, List.drop_eq_getElem_cons hl, List.append_assoc]
  rfl
theorem ins_get {α : Type} {l : List α} {i k : Nat} (hk : k < i) (hi : i ≤ l.length) (j : α) : (l.take i ++ j :: l.drop i)[k]? = l[k]? := by
  rw [List.getElem?_append_left (by rw [List.length_take]; omega), List.getElem?_take, if_pos hk]
theorem rise_ins {l : List ByteArray} (hl : Rise l) {p : Nat} (s : ByteArray) (h1 : ∀ j x, j < p → l[j]? = some x → x.data.toList < s.data.toList) (h2 : ∀ j x, p ≤ j → l[j]? = some x → s.data.toList < x.data.toList) : Rise (l.take p ++ s :: l.drop p) := by
  unfold Rise at *
  have e : (l.map fun s => s.data.toList) = ((l.take p).map fun s => s.data.toList) ++ ((l.drop p).map fun s => s.data.toList) := by rw [← List.map_append, List.take_append_drop]
  rw [e, List.pairwise_append] at hl
  obtain ⟨a, b, c⟩ := hl
  rw [List.map_append, List.map_cons, List.pairwise_append, List.pairwise_cons]
  refine ⟨a, ⟨fun x hx => ?_, b⟩, fun x hx y hy => ?_⟩
  · obtain ⟨z, hz, rfl⟩ := List.mem_map.1 hx
    obtain ⟨j, hj⟩ := List.getElem?_of_mem hz
    rw [List.getElem?_drop] at hj
    exact h2 _ z (Nat.le_add_right ..) hj
  · rcases List.mem_cons.1 hy with rfl | hy
    · obtain ⟨z, hz, rfl⟩ := List.mem_map.1 hx
      obtain ⟨j, hj⟩ := List.getElem?_of_mem hz
      rw [List.getElem?_take] at hj
      split at hj
      · exact h1 _ z (by assumption) hj
      · cases hj
    · exact c x hx y hy
theorem mem_ins {α : Type} {l : List α} {p : Nat} (s x : α) : x ∈ l.take p ++ s :: l.drop p ↔ x ∈ l ∨ x = s := by
  have e : x ∈ l ↔ x ∈ l.take p ∨ x ∈ l.drop p := by rw [← List.mem_append, List.take_append_drop]
  rw [List.mem_append, List.mem_cons, e]
  constructor
  · rintro (h | h | h)
    · exact .inl (.inl h)
    · exact .inr h
    · exact .inl (.inr h)
  · rintro ((h | h) | h)
    · exact .inl h
    · exact .inr (.inr h)
    · exact .inr (.inl h)

/-! ### the names of a row -/
mutual
theorem nm_dfs : ∀ (t : Tm) (d : Nat) (b : Bool) (s : ByteArray), s ∈ nmT t ↔ ∃ x ∈ dfs t d b, isNm x.t.kind = true ∧ x.t.text = s
  | .mk k s0 n sh a ks, d, b, s => by
    simp only [nmT, dfs, List.mem_append, List.mem_cons, nmL_dfs ks (d + 1) (lowOf k n b) s]
    constructor
    · rintro (h | ⟨x, hx, h⟩)
      · by_cases hk : isNm k = true
        · rw [if_pos hk, List.mem_singleton] at h
          exact ⟨_, .inl rfl, hk, h.symm⟩
        · rw [if_neg hk] at h
          exact absurd h List.not_mem_nil
      · exact ⟨x, .inr hx, h⟩
    · rintro ⟨x, hx, h1, h2⟩
      rcases hx with hx | hx
      · left
        subst hx
        simp only [Tm.kind, Tm.text] at h1 h2
        rw [if_pos h1, List.mem_singleton]
        exact h2.symm
      · exact .inr ⟨x, hx, h1, h2⟩
theorem nmL_dfs : ∀ (l : List Tm) (d : Nat) (b : Bool) (s : ByteArray), s ∈ nmL l ↔ ∃ x ∈ dfsL l d b, isNm x.t.kind = true ∧ x.t.text = s
  | [], _, _, s => by simp [nmL, dfsL]
  | t :: r, d, b, s => by
    simp only [nmL, dfsL, List.mem_append, nm_dfs t d b s, nmL_dfs r d b s]
    constructor
    · rintro (⟨x, hx, h⟩ | ⟨x, hx, h⟩)
      · exact ⟨x, .inl hx, h⟩
      · exact ⟨x, .inr hx, h⟩
    · rintro ⟨x, hx | hx, h⟩
      · exact .inl ⟨x, hx, h⟩
      · exact .inr ⟨x, hx, h⟩
end
theorem nm_row (t : Tm) {N : Nat} (h : N = (rowN ⟨t, 1, false⟩ N).length) (s : ByteArray) : s ∈ nmT t ↔ ∃ x ∈ rowN ⟨t, 1, false⟩ N, isNm x.t.kind = true ∧ x.t.text = s := by
  rw [nm_dfs t 1 false s]
  have hp := rowN_end ⟨t, 1, false⟩ h
  exact ⟨fun ⟨x, hx, q⟩ => ⟨x, hp.mem_iff.2 hx, q⟩, fun ⟨x, hx, q⟩ => ⟨x, hp.mem_iff.1 hx, q⟩⟩
/-- the names of the first nodes of a row -/
def nmTake (L : List Nd) (i : Nat) (s : ByteArray) : Prop := ∃ x ∈ L.take i, isNm x.t.kind = true ∧ x.t.text = s
theorem nmTake_no {L : List Nd} {i : Nat} {y : Nd} (hy : L[i]? = some y) (h : isNm y.t.kind = false) (s : ByteArray) : nmTake L (i + 1) s ↔ nmTake L i s := by
  unfold nmTake
  rw [List.take_add_one, hy]
  simp only [Option.toList, List.mem_append, List.mem_singleton]
  constructor
  · rintro ⟨x, hx | rfl, q⟩
    · exact ⟨x, hx, q⟩
    · rw [h] at q; exact absurd q.1 (by decide)
  · rintro ⟨x, hx, q⟩
    exact ⟨x, .inl hx, q⟩
theorem nmTake_yes {L : List Nd} {i : Nat} {y : Nd} (hy : L[i]? = some y) (h : isNm y.t.kind = true) (s : ByteArray) : nmTake L (i + 1) s ↔ nmTake L i s ∨ s = y.t.text := by
  unfold nmTake
  rw [List.take_add_one, hy]
  simp only [Option.toList, List.mem_append, List.mem_singleton]
  constructor
  · rintro ⟨x, hx | rfl, q⟩
    · exact .inl ⟨x, hx, q⟩
    · exact .inr q.2.symm
  · rintro (⟨x, hx, q⟩ | rfl)
    · exact ⟨x, .inl hx, q⟩
    · exact ⟨y, .inr rfl, h, rfl⟩
end Go.Proofs.YtkdejffhdhcocaaGreat

namespace Go.Proofs.YtkdejffhdhcocaaGreat
open Go.RowKit

theorem grown_drewN (w : World) (r : Option Nat) (n : Nat) : w.grownBy (w.drewN n) r := ⟨rfl, rfl, rfl, Nat.le_refl _, fun _ _ _ => rfl⟩
theorem grown_drew {w W : World} {r : Option Nat} (h : w.grownBy W r) : w.grownBy W.drew r := ⟨h.os, h.tape, h.output, h.size, h.block⟩
theorem cntL_app (p q : List Tm) : cntL (p ++ q) = cntL p + cntL q := by
  induction p with
  | nil => simp [cntL]
  | cons y r ih => simp only [List.cons_append, cntL, ih]; omega
theorem PtrAt.cellsOn {w W : World} {b off : Nat} {t : Tm} (h : PtrAt w b off t) (hb : Below w.heap.size w W) : ∃ A ca B cb K ck, b < W.heap.size ∧ W.cell? ⟨b, off, none⟩ = some (.int .i64 t.kind) ∧ W.cell? ⟨b, off + 1, none⟩ = some (.string t.text) ∧ W.cell? ⟨b, off + 2, none⟩ = some (.int .i64 t.n) ∧
    W.cell? ⟨b, off + 3, none⟩ = some (.slice A t.sh.length ca) ∧ W.cell? ⟨b, off + 4, none⟩ = some (.slice B t.at_.length cb) ∧ W.cell? ⟨b, off + 5, none⟩ = some (.slice K t.kids.length ck) ∧ TmAt w t A B K := by
  obtain ⟨A, ca, B, cb, K, ck, lt, r0, r1, r2, r3, r4, r5, hat⟩ := h.cells
  have key : ∀ j v, w.cell? ⟨b, j, none⟩ = some v → W.cell? ⟨b, j, none⟩ = some v := fun j v hv => (hb.cell (p := ⟨b, j, none⟩) lt).trans hv
  exact ⟨A, ca, B, cb, K, ck, Nat.lt_of_lt_of_le lt hb.size, key _ _ r0, key _ _ r1, key _ _ r2, key _ _ r3, key _ _ r4, key _ _ r5, hat⟩
theorem cnt_kids (t : Tm) : cnt t = cntL t.kids + 1 := by cases t; simp only [cnt, Tm.kids]
set_option maxRecDepth 100000 in
set_option maxHeartbeats 16000000 in
theorem deep_any (N : Nat) : ∀ (t : Tm) (A : Option Addr) (ca : Nat) (B : Option Addr) (cb : Nat) (K : Option Addr) (ck : Nat) (A' : Option Addr) (ca' : Nat) (B' : Option Addr) (cb' : Nat) (K' : Option Addr) (ck' : Nat) (down left : Int) (p : Nat) (w0 w : World), cnt t ≤ N → TmAt w0 t A B K → TmAt w0 t A' B' K' → WfT t → Below w0.heap.size w0 w → w0.heap.size ≤ p → w.heap[p]? = some (.cells #[.int .i64 left] TIn (0, 0)) → (dep t : Int) ≤ down + 1 → (cnt t : Int) ≤ left → left ≤ 4096 → down ≤ 255 →
    Calls Tryz.prog 48 #[tmVal t A ca B cb K ck, tmVal t A' ca' B' cb' K' ck', .int .i64 down, .pointer (some ⟨p, 0, none⟩)] w fun e w' => e = .returned (.bool true) ∧ w'.heap[p]? = some (.cells #[.int .i64 (left - (cnt t : Int))] TIn (0, 0)) ∧ w.grownBy w' (some p) := by
  induction N with
  | zero => intro t A ca B cb K ck A' ca' B' cb' K' ck' down left p w0 w h; cases t; simp [cnt] at h
  | succ N ih =>
    intro t A ca B cb K ck A' ca' B' cb' K' ck' down left p w0 w hN h1 h2 hwf hb hp0 hc hd hl hl2 hd2
    obtain ⟨W2, hW2⟩ : ∃ W2, W2 = (w.alloc (.cells (tmCells t A ca B cb K ck) TTm)).alloc (.cells (tmCells t A' ca' B' cb' K' ck') TTm) := ⟨_, rfl⟩
    obtain ⟨W3, hW3⟩ : ∃ W3, W3 = W2.setCell ⟨p, 0, none⟩ (.int .i64 (left - 1)) := ⟨_, rfl⟩
    have hb1 : Below w.heap.size w (w.alloc (.cells (tmCells t A ca B cb K ck) TTm)) := (Below.refl _ _).alloc (Nat.le_refl _) _
    have hb2 : Below w.heap.size w W2 := by rw [hW2]; exact hb1.alloc hb1.size _
    have hx1 : W2.heap[w.heap.size]? = some (.cells (tmCells t A ca B cb K ck) TTm (0, 0)) := by rw [hW2]; exact (Below.heap_alloc _ _ _ (by simp)).trans (heap_alloc_new w _)
    have hx2 : W2.heap[w.heap.size + 1]? = some (.cells (tmCells t A' ca' B' cb' K' ck') TTm (0, 0)) := by rw [hW2]; exact heap_new2 _ _ _
    have hpl : p < w.heap.size := heap_lt hc
    have hcp : W2.heap[p]? = some (.cells #[.int .i64 left] TIn (0, 0)) := (hb2.block p hpl).trans hc
    have hl1 : 1 ≤ left := by have := cnt_kids t; omega
    have hd0 : 0 ≤ down := by have : 1 ≤ dep t := by { cases t; simp [dep] }
                              omega
    have hcp3 : W3.heap[p]? = some (.cells #[.int .i64 (left - 1)] TIn (0, 0)) := by
      rw [hW3, Go.heap_setCell_same W2 p 0 _ TIn _ hcp]
      rfl
    have ho3 : ∀ g, g ≠ p → W3.heap[g]? = W2.heap[g]? := fun g hg => by rw [hW3]; exact Below.heap_setCell _ _ _ _ hg
    have hg3 : w.grownBy W3 (some p) := grown_then (grown_below hb2 (some p)) (by
      rw [hW3]
      exact ⟨rfl, rfl, rfl, by simp [World.setCell], fun k _ hk => Below.heap_setCell _ _ _ _ (fun e => hk (by rw [e]))⟩)
    have hs3 : W3.heap.size = w.heap.size + 2 := by rw [hW3, hW2]; simp [World.setCell]
    have HB3 : Hid (∀ W, W3.grownBy W (some p) → Below w0.heap.size w0 W) := Lib.hid fun W h => hb.grown (grown_then hg3 h) hb.size (fun k hk => by cases hk; exact hp0)
    obtain ⟨ns, hns⟩ : ∃ n, n = t.sh.length := ⟨_, rfl⟩
    obtain ⟨na, hna⟩ : ∃ n, n = t.at_.length := ⟨_, rfl⟩
    obtain ⟨nk, hnk⟩ : ∃ n, n = t.kids.length := ⟨_, rfl⟩
    have hns2 : ns ≤ 140737488351232 := by rw [hns]; exact hwf.node.sh
    have hna2 : na ≤ 140737488351232 := by rw [hna]; exact hwf.node.at_
    have hnk2 : nk ≤ 140737488351232 := by rw [hnk]; exact hwf.node.kids
    have HK : Hid (∀ W, W3.grownBy W (some p) → (W.cell? ⟨w.heap.size, 0, none⟩ = some (.int .i64 t.kind) ∧ W.cell? ⟨w.heap.size, 1, none⟩ = some (.string t.text) ∧ W.cell? ⟨w.heap.size, 2, none⟩ = some (.int .i64 t.n) ∧ W.cell? ⟨w.heap.size, 3, none⟩ = some (.slice A ns ca) ∧ W.cell? ⟨w.heap.size, 4, none⟩ = some (.slice B na cb) ∧ W.cell? ⟨w.heap.size, 5, none⟩ = some (.slice K nk ck)) ∧
        (W.cell? ⟨w.heap.size + 1, 0, none⟩ = some (.int .i64 t.kind) ∧ W.cell? ⟨w.heap.size + 1, 1, none⟩ = some (.string t.text) ∧ W.cell? ⟨w.heap.size + 1, 2, none⟩ = some (.int .i64 t.n) ∧ W.cell? ⟨w.heap.size + 1, 3, none⟩ = some (.slice A' ns ca') ∧ W.cell? ⟨w.heap.size + 1, 4, none⟩ = some (.slice B' na cb') ∧ W.cell? ⟨w.heap.size + 1, 5, none⟩ = some (.slice K' nk ck'))) := Lib.hid fun W h => by
      have e1 := (h.block w.heap.size (by omega) (fun e => by injection e with e; omega)).trans ((ho3 _ (by omega)).trans hx1)
      have e2 := (h.block (w.heap.size + 1) (by omega) (fun e => by injection e with e; omega)).trans ((ho3 _ (by omega)).trans hx2)
      rw [hns, hna, hnk]
      exact ⟨⟨cell_at e1 rfl, cell_at e1 rfl, cell_at e1 rfl, cell_at e1 rfl, cell_at e1 rfl, cell_at e1 rfl⟩, cell_at e2 rfl, cell_at e2 rfl, cell_at e2 rfl, cell_at e2 rfl, cell_at e2 rfl, cell_at e2 rfl⟩
    have HN := Lib.hid (And.intro hns (And.intro hna hnk))
    have HW2 := Lib.hid hW2
    have HW3 := Lib.hid (And.intro hW3 (And.intro hcp3 hg3))
    have HAT := Lib.hid (And.intro h1 (And.intro h2 hwf))
    have HD := Lib.hid (And.intro hd (And.intro hl hN))
    have IH := Lib.hid ih
    have x0 := cell_at hcp (j := 0) rfl
    have f0 := unfrozen hcp 0
    clear h1 h2 hwf hb hc hd hl hN ih hb1 hb2 hx1 hx2 hcp hcp3 ho3 hg3 hns hna hnk hW2 hW3
    go_enter Tryz.func48, Tryz.ntmps48
    go_upto_region 1 with fail
    rw [← HW2.out]
    go_upto_region 2 with fail
    rw [← HW3.out.1]
    clear x0 f0
    have y0 : W3.cell? ⟨p, 0, none⟩ = some (.int .i64 (left - 1)) := cell_at HW3.out.2.1 rfl
    obtain ⟨⟨k0, k1, k2, k3, k4, k5⟩, m0, m1, m2, m3, m4, m5⟩ := HK.out W3 ⟨rfl, rfl, rfl, Nat.le_refl _, fun _ _ _ => rfl⟩
    have d1 : ¬ left - 1 < 0 := by omega
    have d2 : ¬ down < 0 := by omega
    go_wp2_with fail
    clear y0 k0 k1 k2 k3 k4 k5 m0 m1 m2 m3 m4 m5 d1 d2
    go_loopw [9] (fun v W => ∃ i : Nat, i ≤ ns ∧ v = .int .i64 i ∧ Hid (∃ q, W = W3.drewN q)) (fun v _ => ns - (intOf v).toNat)
    case atStart => exact ⟨0, Nat.zero_le _, rfl, Lib.hid ⟨0, rfl⟩⟩
    case round =>
      obtain ⟨i, hi, rfl, HI⟩ := hrel
      have hgw : W3.grownBy wr (some p) := by obtain ⟨q, rfl⟩ := HI.out; exact grown_drewN _ _ _
      have HG := Lib.hid hgw
      obtain ⟨⟨k0, k1, k2, k3, k4, k5⟩, m0, m1, m2, m3, m4, m5⟩ := HK.out wr hgw
      clear hgw
      by_cases hlt : i < ns
      · obtain ⟨x, hx⟩ : ∃ x, t.sh[i]? = some x := ⟨_, List.getElem?_eq_getElem (by rw [← HN.out.1]; exact hlt)⟩
        obtain ⟨b1, o1, rfl, l1, c1⟩ := HAT.out.1.sh.on (HB3.out wr HG.out) i x hx
        obtain ⟨b2, o2, rfl, l2, c2⟩ := HAT.out.2.1.sh.on (HB3.out wr HG.out) i x hx
        have q1 : (0 : Int) ≤ (i : Int) := by omega
        have q2 : (i : Int) < (ns : Int) := by omega
        clear hx
        go_wp2_with fail
        go_quiet (fail)
        go_wp2_with fail
        exact ⟨⟨i + 1, by omega, by go_num, Lib.hid (drew_more HI.out _)⟩, by simp [intOf]; omega⟩
      · obtain rfl : i = ns := by omega
        clear hlt
        go_wp2_with fail
        clear k0 k1 k2 k3 k4 k5 m0 m1 m2 m3 m4 m5
        obtain ⟨W0, rfl⟩ : ∃ W0, W0 = wr := ⟨_, rfl⟩
        go_loopw [10] (fun v W => ∃ i : Nat, i ≤ na ∧ v = .int .i64 i ∧ Hid (∃ q, W = W3.drewN q)) (fun v _ => na - (intOf v).toNat)
        case atStart => exact ⟨0, Nat.zero_le _, rfl, HI⟩
        case round =>
          obtain ⟨j, hj, rfl, HJ⟩ := hrel
          have hgw : W3.grownBy wr (some p) := by obtain ⟨q, rfl⟩ := HJ.out; exact grown_drewN _ _ _
          have HG2 := Lib.hid hgw
          obtain ⟨⟨k0, k1, k2, k3, k4, k5⟩, m0, m1, m2, m3, m4, m5⟩ := HK.out wr hgw
          clear hgw
          by_cases hlt : j < na
          · obtain ⟨x, hx⟩ : ∃ x, t.at_[j]? = some x := ⟨_, List.getElem?_eq_getElem (by rw [← HN.out.2.1]; exact hlt)⟩
            obtain ⟨b1, o1, rfl, l1, c1⟩ := HAT.out.1.at_.on (HB3.out wr HG2.out) j x hx
            obtain ⟨b2, o2, rfl, l2, c2⟩ := HAT.out.2.1.at_.on (HB3.out wr HG2.out) j x hx
            have q1 : (0 : Int) ≤ (j : Int) := by omega
            have q2 : (j : Int) < (na : Int) := by omega
            clear hx
            go_wp2_with fail
            go_quiet (fail)
            go_wp2_with fail
            exact ⟨⟨j + 1, by omega, by go_num, Lib.hid (drew_more HJ.out _)⟩, by simp [intOf]; omega⟩
          · obtain rfl : j = na := by omega
            clear hlt
            go_wp2_with fail
            clear k0 k1 k2 k3 k4 k5 m0 m1 m2 m3 m4 m5
            obtain ⟨W1, rfl⟩ : ∃ W1, W1 = wr := ⟨_, rfl⟩
            go_loopw [11] (fun v W => ∃ q : Nat, q ≤ nk ∧ v = .int .i64 q ∧ Hid (W3.grownBy W (some p) ∧ W.heap[p]? = some (.cells #[.int .i64 (left - 1 - (cntL (t.kids.take q) : Int))] TIn (0, 0)))) (fun v _ => nk - (intOf v).toNat)
            case atStart => exact ⟨0, Nat.zero_le _, rfl, Lib.hid ⟨HG2.out, by
              obtain ⟨q, rfl⟩ := HJ.out
              refine Eq.trans HW3.out.2.1 ?_
              simp [cntL]⟩⟩
            case round =>
              obtain ⟨q, hq, rfl, HQ⟩ := hrel
              obtain ⟨⟨k0, k1, k2, k3, k4, k5⟩, m0, m1, m2, m3, m4, m5⟩ := HK.out wr HQ.out.1
              clear k0 k1 k2 k3 k4 m0 m1 m2 m3 m4
              by_cases hlt : q < nk
              · obtain ⟨k, hk⟩ : ∃ k, t.kids[q]? = some k := ⟨_, List.getElem?_eq_getElem (by rw [← HN.out.2.2]; exact hlt)⟩
                obtain ⟨b1, o1, rfl, hp1⟩ := (HAT.out.1.kids).get hk
                obtain ⟨b2, o2, rfl, hp2⟩ := (HAT.out.2.1.kids).get hk
                rw [Nat.zero_add] at hp1 hp2
                obtain ⟨A1, ca1, B1, cb1, K1, ck1, lt1, r0, r1, r2, r3, r4, r5, hat1⟩ := hp1.cellsOn (HB3.out wr HQ.out.1)
                obtain ⟨A2, ca2, B2, cb2, K2, ck2, lt2, s0, s1, s2, s3, s4, s5, hat2⟩ := hp2.cellsOn (HB3.out wr HQ.out.1)
                have hct := cntL_take hk
                have hcl := cntL_le (l := t.kids) (q + 1)
                have hck := cnt_kids t
                have hdk := dep_kid hk
                have hd1 : 1 ≤ dep k := by cases k; simp [dep]
                have h5 := HD.out
                have HIH : Hid (Calls Tryz.prog 48 #[tmVal k A1 ca1 B1 cb1 K1 ck1, tmVal k A2 ca2 B2 cb2 K2 ck2, .int .i64 (down - 1), .pointer (some ⟨p, 0, none⟩)] wr.drew fun e w' => e = .returned (.bool true) ∧ w'.heap[p]? = some (.cells #[.int .i64 (left - 1 - (cntL (t.kids.take q) : Int) - (cnt k : Int))] TIn (0, 0)) ∧ wr.drew.grownBy w' (some p)) :=
                  Lib.hid (IH.out k A1 ca1 B1 cb1 K1 ck1 A2 ca2 B2 cb2 K2 ck2 (down - 1) (left - 1 - (cntL (t.kids.take q) : Int)) p w0 wr.drew (by have := cnt_kid hk; omega) hat1 hat2 (HAT.out.2.2.node.each k (List.mem_of_getElem? hk)) (HB3.out wr HQ.out.1).drew hp0 HQ.out.2 (by omega) (by omega) (by omega) (by omega))
                have HKT : Hid ((cntL (t.kids.take (q + 1)) : Int) = (cntL (t.kids.take q) : Int) + (cnt k : Int)) := Lib.hid (by omega)
                have q1 : (0 : Int) ≤ (q : Int) := by omega
                have q2 : (q : Int) < (nk : Int) := by omega
                clear hk hp1 hp2 hat1 hat2 hct hcl hck hdk hd1 h5
                go_upto_region 17 with fail
                unfold tmVal at HIH
                go_still_tail 13, (by kernel_rfl)
                change wpList _ _ _ _ _ wr.drew
                go_wp2_with fail
                refine HIH.out.mono ?_
                rintro e w7 ⟨rfl, hh7, hg7⟩
                have H7 := Lib.hid (And.intro hh7 hg7)
                clear hh7 hg7 r0 r1 r2 r3 r4 r5 s0 s1 s2 s3 s4 s5 k5 m5
                go_wp2_with fail
                refine ⟨⟨q + 1, by omega, by go_num, Lib.hid ⟨grown_then (grown_drew HQ.out.1) H7.out.2, ?_⟩⟩, by simp [intOf]; omega⟩
                rw [HKT.out, H7.out.1]
                exact congrArg (fun z => some (Obj.cells #[Value.int .i64 z] TIn (0, 0))) (by omega)
              · obtain rfl : q = nk := by omega
                clear hlt
                go_wp2_with fail
                go_ret
                refine ⟨rfl, ?_, grown_then HW3.out.2.2 HQ.out.1⟩
                rw [HQ.out.2, HN.out.2.2, List.take_length]
                exact congrArg (fun z => some (Obj.cells #[Value.int .i64 z] TIn (0, 0))) (by have := cnt_kids t; omega)
end Go.Proofs.YtkdejffhdhcocaaGreat

namespace Go.Proofs.YtkdejffhdhcocaaGreat
open Go.RowKit

set_option maxHeartbeats 4000000 in
theorem eq_any (t : Tm) (A : Option Addr) (ca : Nat) (B : Option Addr) (cb : Nat) (K : Option Addr) (ck : Nat) (A' : Option Addr) (ca' : Nat) (B' : Option Addr) (cb' : Nat) (K' : Option Addr) (ck' : Nat) (w : World) (h1 : TmAt w t A B K) (h2 : TmAt w t A' B' K') (hwf : WfT t) (hg : greatT t = false) :
    Calls Tryz.prog 13 #[tmVal t A ca B cb K ck, tmVal t A' ca' B' cb' K' ck'] w fun e w' => e = .returned (.bool true) ∧ Below w.heap.size w w' := by
  obtain ⟨W2, hW2⟩ : ∃ W2, W2 = (w.alloc (.cells (tmCells t A ca B cb K ck) TTm)).alloc (.cells (tmCells t A' ca' B' cb' K' ck') TTm) := ⟨_, rfl⟩
  have hb1 : Below w.heap.size w (w.alloc (.cells (tmCells t A ca B cb K ck) TTm)) := (Below.refl _ _).alloc (Nat.le_refl _) _
  have hb2 : Below w.heap.size w W2 := by rw [hW2]; exact hb1.alloc hb1.size _
  have hx1 : W2.heap[w.heap.size]? = some (.cells (tmCells t A ca B cb K ck) TTm (0, 0)) := by rw [hW2]; exact (Below.heap_alloc _ _ _ (by simp)).trans (heap_alloc_new w _)
  have hx2 : W2.heap[w.heap.size + 1]? = some (.cells (tmCells t A' ca' B' cb' K' ck') TTm (0, 0)) := by rw [hW2]; exact heap_new2 _ _ _
  obtain ⟨_, hn1, hd1⟩ := size_small hg
  obtain ⟨W3, hW3⟩ : ∃ W3, W3 = W2.alloc (.cells #[.int .i64 4096] TIn) := ⟨_, rfl⟩
  have hs2 : W2.heap.size = w.heap.size + 2 := by rw [hW2]; simp
  have hb3 : Below w.heap.size w W3 := by rw [hW3]; exact hb2.alloc hb2.size _
  have hp3 : W3.heap[W2.heap.size]? = some (.cells #[.int .i64 4096] TIn (0, 0)) := by
    rw [hW3]
    exact heap_alloc_new W2 _
  have z1 : W3.heap[w.heap.size]? = some (.cells (tmCells t A ca B cb K ck) TTm (0, 0)) := by
    rw [hW3]
    exact (Below.heap_alloc _ _ _ (by omega)).trans hx1
  have z2 : W3.heap[w.heap.size + 1]? = some (.cells (tmCells t A' ca' B' cb' K' ck') TTm (0, 0)) := by
    rw [hW3]
    exact (Below.heap_alloc _ _ _ (by omega)).trans hx2
  have k0 := cell_at z1 (j := 0) rfl
  have k1 := cell_at z1 (j := 1) rfl
  have k2 := cell_at z1 (j := 2) rfl
  have k3 := cell_at z1 (j := 3) rfl
  have k4 := cell_at z1 (j := 4) rfl
  have k5 := cell_at z1 (j := 5) rfl
  have m0 := cell_at z2 (j := 0) rfl
  have m1 := cell_at z2 (j := 1) rfl
  have m2 := cell_at z2 (j := 2) rfl
  have m3 := cell_at z2 (j := 3) rfl
  have m4 := cell_at z2 (j := 4) rfl
  have m5 := cell_at z2 (j := 5) rfl
  have DEEP := Lib.hid (deep_any (cnt t) t A ca B cb K ck A' ca' B' cb' K' ck' 255 4096 W2.heap.size w W3 (Nat.le_refl _) h1 h2 hwf hb3 (by omega) hp3 (by omega) (by omega) (by omega) (by omega))
  have HW2 := Lib.hid hW2
  have HW3 := Lib.hid hW3
  have HB3 := Lib.hid (And.intro hb3 hs2)
  clear h1 h2 hwf hg hb1 hb2 hx1 hx2 hn1 hd1 hs2 hb3 hp3 z1 z2 hW2 hW3
  go_enter Tryz.func13, Tryz.ntmps13
  go_upto_region 1 with fail
  rw [← HW2.out]
  go_upto_region 2 with fail
  rw [← HW3.out]
  go_wp2_with fail
  refine DEEP.out.mono ?_
  rintro e w4 ⟨rfl, _, hg4⟩
  have HB4 : Hid (Below w.heap.size w w4) := Lib.hid (HB3.out.1.grown hg4 HB3.out.1.size (fun k hk => by cases hk; have := HB3.out.2; omega))
  clear hg4 k0 k1 k2 k3 k4 k5 m0 m1 m2 m3 m4 m5
  go_wp2_with fail
  go_ret
  exact ⟨rfl, HB4.out⟩
set_option maxRecDepth 100000 in
set_option maxHeartbeats 4000000 in
theorem weigh_any (N : Nat) : ∀ (t : Tm) (A : Option Addr) (ca : Nat) (B : Option Addr) (cb : Nat) (K : Option Addr) (ck : Nat) (down left : Int) (w : World), cnt t ≤ N → TmAt w t A B K → WfT t → -1 ≤ down → down ≤ 255 → 0 ≤ left → left ≤ 140737488351232 →
    Calls Tryz.prog 67 #[tmVal t A ca B cb K ck, .int .i64 down, .int .i64 left] w fun e w' => (∃ z : Int, e = .returned (.int .i64 z) ∧ -1000000000000000 ≤ z ∧ z ≤ 140737488351232) ∧ Below w.heap.size w w' := by
  induction N with
  | zero => intro t A ca B cb K ck down left w h; cases t; simp [cnt] at h
  | succ N ih =>
    intro t A ca B cb K ck down left w hN hat hwf hd1 hd2 hl1 hl2
    obtain ⟨W1, hW1⟩ : ∃ W1, W1 = w.alloc (.cells (tmCells t A ca B cb K ck) TTm) := ⟨_, rfl⟩
    have hb1 : Below w.heap.size w W1 := by rw [hW1]; exact (Below.refl _ _).alloc (Nat.le_refl _) _
    have hx1 : W1.heap[w.heap.size]? = some (.cells (tmCells t A ca B cb K ck) TTm (0, 0)) := by rw [hW1]; exact heap_alloc_new w _
    obtain ⟨sz, hsz⟩ : ∃ n, n = t.text.size := ⟨_, rfl⟩
    obtain ⟨ns, hns⟩ : ∃ n, n = t.sh.length := ⟨_, rfl⟩
    obtain ⟨na, hna⟩ : ∃ n, n = t.at_.length := ⟨_, rfl⟩
    obtain ⟨nk, hnk⟩ : ∃ n, n = t.kids.length := ⟨_, rfl⟩
    have hsz2 : t.text.size ≤ 140737488351232 := hwf.node.text
    have hns2 : ns ≤ 140737488351232 := by rw [hns]; exact hwf.node.sh
    have hna2 : na ≤ 140737488351232 := by rw [hna]; exact hwf.node.at_
    have hnk2 : nk ≤ 140737488351232 := by rw [hnk]; exact hwf.node.kids
    have HK : Hid (∀ W, Below W1.heap.size W1 W → W.cell? ⟨w.heap.size, 1, none⟩ = some (.string t.text) ∧ W.cell? ⟨w.heap.size, 3, none⟩ = some (.slice A ns ca) ∧ W.cell? ⟨w.heap.size, 4, none⟩ = some (.slice B na cb) ∧ W.cell? ⟨w.heap.size, 5, none⟩ = some (.slice K nk ck)) := Lib.hid fun W h => by
      have hh := (h.block _ (heap_lt hx1)).trans hx1
      rw [hns, hna, hnk]
      exact ⟨cell_at hh rfl, cell_at hh rfl, cell_at hh rfl, cell_at hh rfl⟩
    have HN := Lib.hid hnk
    have HW1 := Lib.hid hW1
    have HX := Lib.hid (And.intro hb1 (And.intro hat (And.intro hwf hN)))
    have IH := Lib.hid ih
    obtain ⟨k1, k3, k4, k5⟩ := HK.out W1 (Below.refl _ _)
    clear hN hat hwf ih hb1 hx1 hW1 hsz hns hna hnk
    by_cases hdn : down < 0
    · go_enter Tryz.func67, Tryz.ntmps67
      go_upto_region 1 with fail
      rw [← HW1.out]
      go_wp2_with fail
      go_ret
      exact ⟨⟨-1, rfl, by omega, by omega⟩, HX.out.1⟩
    · go_enter Tryz.func67, Tryz.ntmps67
      go_upto_region 1 with fail
      rw [← HW1.out]
      go_wp2_with fail
      clear k1 k3 k4 k5
      go_loopw [2, 7] (fun v2 v7 W => ∃ (i : Nat) (z : Int), i ≤ nk ∧ v7 = .int .i64 i ∧ v2 = .int .i64 z ∧ -1000000000000000 ≤ z ∧ z ≤ 140737488351232 ∧ Hid (Below W1.heap.size W1 W)) (fun _ v7 _ => nk - (intOf v7).toNat)
      case atStart => exact ⟨0, _, Nat.zero_le _, rfl, rfl, by omega, by omega, Lib.hid (Below.refl _ _)⟩
      case round =>
        obtain ⟨i, z, hi, rfl, rfl, hz1, hz2, HI⟩ := hrel
        obtain ⟨k1, k3, k4, k5⟩ := HK.out wr HI.out
        clear k1 k3 k4
        by_cases hlt : i < nk
        · by_cases hz : z < 0
          · have hz' : ¬ 0 ≤ z := by omega
            go_wp2_with fail
            go_ret
            exact ⟨⟨z, rfl, hz1, hz2⟩, HX.out.1.then_ HI.out⟩
          · have hz' : 0 ≤ z := by omega
            obtain ⟨k, hk⟩ : ∃ k, t.kids[i]? = some k := ⟨_, List.getElem?_eq_getElem (by rw [← HN.out]; exact hlt)⟩
            obtain ⟨b1, o1, rfl, hp1⟩ := (HX.out.2.1.kids).get hk
            rw [Nat.zero_add] at hp1
            obtain ⟨A1, ca1, B1, cb1, K1, ck1, lt1, r0, r1, r2, r3, r4, r5, hat1⟩ := hp1.cellsOn (HX.out.1.then_ HI.out)
            have HIH : Hid (Calls Tryz.prog 67 #[tmVal k A1 ca1 B1 cb1 K1 ck1, .int .i64 (down - 1), .int .i64 z] wr fun e w' => (∃ z : Int, e = .returned (.int .i64 z) ∧ -1000000000000000 ≤ z ∧ z ≤ 140737488351232) ∧ Below wr.heap.size wr w') :=
              Lib.hid (IH.out k A1 ca1 B1 cb1 K1 ck1 (down - 1) z wr (by have := cnt_kid hk; have := HX.out.2.2.2; omega) (hat1.on (HX.out.1.then_ HI.out)) (HX.out.2.2.1.node.each k (List.mem_of_getElem? hk)) (by omega) (by omega) hz' hz2)
            have q1 : (0 : Int) ≤ (i : Int) := by omega
            have q2 : (i : Int) < (nk : Int) := by omega
            clear hk hp1 hat1
            unfold tmVal at HIH
            go_wp2_with fail
            refine HIH.out.mono ?_
            rintro e w7 ⟨⟨z', rfl, g1, g2⟩, hb7⟩
            have HB7 := Lib.hid (HI.out.then_ hb7)
            clear hb7 r0 r1 r2 r3 r4 r5 k5
            go_wp2_with fail
            exact ⟨⟨i + 1, z', by omega, by go_num, rfl, g1, g2, HB7⟩, by simp [intOf]; omega⟩
        · obtain rfl : i = nk := by omega
          clear hlt
          go_wp2_with fail
          go_ret
          exact ⟨⟨z, rfl, hz1, hz2⟩, HX.out.1.then_ HI.out⟩
set_option maxRecDepth 100000 in
set_option maxHeartbeats 4000000 in
theorem light_any (t : Tm) (A : Option Addr) (ca : Nat) (B : Option Addr) (cb : Nat) (K : Option Addr) (ck : Nat) (w : World) (hat : TmAt w t A B K) (hwf : WfT t) :
    Calls Tryz.prog 29 #[tmVal t A ca B cb K ck] w fun e w' => (∃ b : Bool, e = .returned (.bool b) ∧ (b = true → greatT t = false)) ∧ Below w.heap.size w w' := by
  obtain ⟨W1, hW1⟩ : ∃ W1, W1 = w.alloc (.cells (tmCells t A ca B cb K ck) TTm) := ⟨_, rfl⟩
  have hb1 : Below w.heap.size w W1 := by rw [hW1]; exact (Below.refl _ _).alloc (Nat.le_refl _) _
  have hx1 : W1.heap[w.heap.size]? = some (.cells (tmCells t A ca B cb K ck) TTm (0, 0)) := by rw [hW1]; exact heap_alloc_new w _
  have HK : Hid (∀ W, Below W1.heap.size W1 W → W.cell? ⟨w.heap.size, 0, none⟩ = some (.int .i64 t.kind) ∧ W.cell? ⟨w.heap.size, 1, none⟩ = some (.string t.text) ∧ W.cell? ⟨w.heap.size, 2, none⟩ = some (.int .i64 t.n) ∧ W.cell? ⟨w.heap.size, 3, none⟩ = some (.slice A t.sh.length ca) ∧ W.cell? ⟨w.heap.size, 4, none⟩ = some (.slice B t.at_.length cb) ∧ W.cell? ⟨w.heap.size, 5, none⟩ = some (.slice K t.kids.length ck)) := Lib.hid fun W h => by
    have hh := (h.block _ (heap_lt hx1)).trans hx1
    exact ⟨cell_at hh rfl, cell_at hh rfl, cell_at hh rfl, cell_at hh rfl, cell_at hh rfl, cell_at hh rfl⟩
  have HX := Lib.hid (And.intro hb1 (And.intro (hat.on hb1) hwf))
  have HW1 := Lib.hid hW1
  obtain ⟨k0, k1, k2, k3, k4, k5⟩ := HK.out W1 (Below.refl _ _)
  clear hat hwf hb1 hx1 hW1
  go_enter Tryz.func29, Tryz.ntmps29
  go_upto_region 1 with fail
  rw [← HW1.out]
  go_wp2_with fail
  refine (size_any t A ca B cb K ck W1 HX.out.2.1 HX.out.2.2).mono ?_
  rintro e w2 ⟨rfl, hb2⟩
  have HB2 := Lib.hid hb2
  clear hb2 k0 k1 k2 k3 k4 k5
  obtain ⟨k0, k1, k2, k3, k4, k5⟩ := HK.out w2 HB2.out
  cases hg : greatT t with
  | true =>
    have hs : sizeT t = (4097, 257) := by unfold sizeT; rw [if_pos hg]
    rw [hs]
    clear hg hs
    go_wp2_with fail
    go_ret
    exact ⟨⟨false, rfl, fun h => by cases h⟩, HX.out.1.then_ HB2.out⟩
  | false =>
    obtain ⟨hs, hn1, hd1⟩ := size_small hg
    have HG := Lib.hid hg
    rw [hs]
    have e1 : ((cnt t : Nat) : Int) ≤ 4096 := by omega
    clear hg hs hd1
    go_wp2_with fail
    refine (weigh_any (cnt t) t A ca B cb K ck 255 524288 w2 (Nat.le_refl _) (HX.out.2.1.on HB2.out) HX.out.2.2 (by omega) (by omega) (by omega) (by omega)).mono ?_
    rintro e w3 ⟨⟨z, rfl, _, _⟩, hb3⟩
    have HB3 := Lib.hid ((HX.out.1.then_ HB2.out).then_ hb3)
    clear hb3 k0 k1 k2 k3 k4 k5
    go_wp2_with fail
    go_ret
    exact ⟨⟨_, rfl, fun _ => HG.out⟩, HB3.out⟩
end Go.Proofs.YtkdejffhdhcocaaGreat
