/- abacusref13.Row: the nodes of a term in a row. Condition: sizes within reach. · abacusref13.Row: the walk. Condition: sizes within reach. · abacusref13: Class, Operand, fits, Name. No condition. · abacusref13: kids, all. No condition. · abacusref13: num. No condition. -/
import Derived.Test.YtkdejffhdhcocaaGreatTeNt
import Derived.StillTailTactics
namespace Go.Proofs.YtkdejffhdhcocaaGreat
open Go.RowKit

abbrev TNd : TypeId := 101
abbrev TNs : TypeId := 96
theorem info_nd : (Tryz.prog.info? TNd).map (fun i => (i.zero, i.size, i.bytes)) = some (some (.agg #[.int .i64 0, .string ⟨#[]⟩, .int .i64 0, .slice none 0 0, .slice none 0 0, .slice none 0 0, .int .i64 0, .bool false]), 8, 120) := by kernel_rfl
def ndCells (x : Nd) (r : Rt) : List Value := rtCells x.t r ++ [.int .i64 x.d, .bool x.bare]
def ndCellsL : List Nd → List Rt → List Value
  | x :: xs, r :: rs => ndCells x r ++ ndCellsL xs rs
  | _, _ => []
theorem ndCells_len (x : Nd) (r : Rt) : (ndCells x r).length = 8 := rfl
theorem ndCellsL_app : ∀ {xs ys : List Nd} {rs qs : List Rt}, xs.length = rs.length → ndCellsL (xs ++ ys) (rs ++ qs) = ndCellsL xs rs ++ ndCellsL ys qs
  | [], _, [], _, _ => rfl
  | _ :: xs, ys, _ :: rs, qs, h => by
    simp only [List.cons_append, ndCellsL, List.append_assoc]
    rw [ndCellsL_app (by simpa using h)]
  | [], _, _ :: _, _, h => by simp at h
  | _ :: _, _, [], _, h => by simp at h
theorem ndCellsL_get : ∀ {xs : List Nd} {rs : List Rt} {i q : Nat} {x : Nd} {r : Rt} {u : Value}, xs[i]? = some x → rs[i]? = some r → (ndCells x r)[q]? = some u → (ndCellsL xs rs)[i * 8 + q]? = some u
  | [], _, _, _, _, _, _, h, _, _ => by simp at h
  | _ :: _, [], _, _, _, _, _, _, h, _ => by simp at h
  | x' :: xs, r' :: rs, 0, q, x, r, u, h1, h2, h3 => by
    simp only [List.getElem?_cons_zero, Option.some.injEq] at h1 h2
    subst h1 h2
    have hq := (List.getElem?_eq_some_iff.1 h3).1
    simp only [ndCellsL, Nat.zero_mul, Nat.zero_add]
    rw [List.getElem?_append_left hq]
    exact h3
  | x' :: xs, r' :: rs, i + 1, q, x, r, u, h1, h2, h3 => by
    simp only [ndCellsL]
    have hl := ndCells_len x' r'
    rw [List.getElem?_append_right (by omega), hl, show (i + 1) * 8 + q - 8 = i * 8 + q by omega]
    exact ndCellsL_get (by simpa using h1) (by simpa using h2) h3
/-- a node's term, by its rows -/
structure NdAt (w : World) (t : Tm) (r : Rt) : Prop where
  at_ : TmAt w t r.s.p r.a.p r.k.p
  s : r.s.n = t.sh.length
  a : r.a.n = t.at_.length
  k : r.k.n = t.kids.length
  wf : WfT t
theorem NdAt.on {w w' : World} {t : Tm} {r : Rt} (h : NdAt w t r) (hb : Below w.heap.size w w') : NdAt w' t r := ⟨h.at_.on hb, h.s, h.a, h.k, h.wf⟩
/-- nodes in a row of the call's own; their terms lie in an older world -/
structure RowAt (w0 W : World) (B : Nat) (L : List Nd) (rs : List Rt) (g cap : Nat) : Prop where
  row : W.ownsRow B TNd 8 (.slice (some ⟨g, 0, none⟩) L.length cap) L.length (ndCellsL L rs)
  len : L.length = rs.length
  nds : ∀ (i : Nat) (y : Nd), L[i]? = some y → ∃ r, rs[i]? = some r ∧ NdAt w0 y.t r
  lo : w0.heap.size ≤ B
  be : Below w0.heap.size w0 W
theorem RowAt.on {w0 W W' : World} {B : Nat} {L : List Nd} {rs : List Rt} {g cap : Nat} (h : RowAt w0 W B L rs g cap) (hb : Below W.heap.size W W') : RowAt w0 W' B L rs g cap := ⟨row_on h.row hb, h.len, h.nds, h.lo, h.be.then_ hb⟩
theorem RowAt.cell {w0 W : World} {B : Nat} {L : List Nd} {rs : List Rt} {g cap i q : Nat} {y : Nd} {r : Rt} {u : Value} (h : RowAt w0 W B L rs g cap) (hy : L[i]? = some y) (hr : rs[i]? = some r) (hu : (ndCells y r)[q]? = some u) : W.cell? ⟨g, i * 8 + q, none⟩ = some u := by
  have h1 := ndCellsL_get hy hr hu
  rcases h.row.2 with ⟨h0, _⟩ | ⟨g', cap', cur, hv, _, hc, _, _, _, h7⟩
  · cases h0
  · simp only [Value.slice.injEq, Option.some.injEq, Addr.mk.injEq, and_true, true_and] at hv
    obtain ⟨rfl, _⟩ := hv
    refine cell_at hc ?_
    rw [← h7, List.getElem?_take] at h1
    split at h1
    · simpa using h1
    · cases h1
theorem RowAt.lt {w0 W : World} {B : Nat} {L : List Nd} {rs : List Rt} {g cap : Nat} (h : RowAt w0 W B L rs g cap) : B ≤ g ∧ g < W.heap.size := h.row.lt g rfl
/-- the eight cells of a node -/
theorem RowAt.eight {w0 W : World} {B : Nat} {L : List Nd} {rs : List Rt} {g cap i : Nat} {y : Nd} (h : RowAt w0 W B L rs g cap) (hy : L[i]? = some y) : ∃ r, rs[i]? = some r ∧ NdAt w0 y.t r ∧ W.cell? ⟨g, i * 8, none⟩ = some (.int .i64 y.t.kind) ∧ W.cell? ⟨g, i * 8 + 1, none⟩ = some (.string y.t.text) ∧ W.cell? ⟨g, i * 8 + 2, none⟩ = some (.int .i64 y.t.n) ∧
    W.cell? ⟨g, i * 8 + 3, none⟩ = some (.slice r.s.p y.t.sh.length r.s.c) ∧ W.cell? ⟨g, i * 8 + 4, none⟩ = some (.slice r.a.p y.t.at_.length r.a.c) ∧ W.cell? ⟨g, i * 8 + 5, none⟩ = some (.slice r.k.p y.t.kids.length r.k.c) ∧ W.cell? ⟨g, i * 8 + 6, none⟩ = some (.int .i64 y.d) ∧ W.cell? ⟨g, i * 8 + 7, none⟩ = some (.bool y.bare) := by
  obtain ⟨r, hr, hn⟩ := h.nds i y hy
  refine ⟨r, hr, hn, h.cell hy hr (q := 0) rfl, h.cell hy hr (q := 1) rfl, h.cell hy hr (q := 2) rfl, ?_, ?_, ?_, h.cell hy hr (q := 6) rfl, h.cell hy hr (q := 7) rfl⟩
  · rw [← hn.s]; exact h.cell hy hr (q := 3) rfl
  · rw [← hn.a]; exact h.cell hy hr (q := 4) rfl
  · rw [← hn.k]; exact h.cell hy hr (q := 5) rfl
/-- what Row leaves: the row, or none where the term is too great -/
def RowPost (t : Tm) (w0 w : World) (e : Ending) (w' : World) : Prop :=
  (greatT t = true ∧ e = .returned (.tuple #[.slice none 0 0, .bool false]) ∧ Below w.heap.size w w') ∨
  (greatT t = false ∧ ∃ (N g cap : Nat) (L : List Nd) (rs : List Rt), e = .returned (.tuple #[.slice (some ⟨g, 0, none⟩) L.length cap, .bool true]) ∧ L = rowN ⟨t, 1, false⟩ N ∧ N = L.length ∧ L.length ≤ 4096 ∧ 1 ≤ L.length ∧ RowAt w0 w' w0.heap.size L rs g cap ∧ Below w.heap.size w w')
/-- a node more -/
theorem RowAt.more {w0 W W' W'' : World} {B : Nat} {L : List Nd} {rs : List Rt} {g cap g' cap' : Nat} (h : RowAt w0 W B L rs g cap) (hb : Below W.heap.size W W') {z : Nd} {rz : Rt} (hz : NdAt w0 z.t rz)
    (hown : W''.ownsRow B TNd 8 (.slice (some ⟨g', 0, none⟩) (L.length + 1) cap') (L.length + 1) (ndCellsL L rs ++ ndCells z rz)) (hgr : W'.grownBy W'' (some g)) : RowAt w0 W'' B (L ++ [z]) (rs ++ [rz]) g' cap' := by
  refine ⟨?_, by simp [h.len], fun i y hy => ?_, h.lo, (h.be.then_ hb).grown hgr (h.be.then_ hb).size fun k hk => ?_⟩
  · rw [List.length_append, List.length_singleton, ndCellsL_app h.len]
    simpa [ndCellsL] using hown
  · by_cases hi : i < L.length
    · rw [List.getElem?_append_left hi] at hy
      obtain ⟨r, hr, hn⟩ := h.nds i y hy
      exact ⟨r, by rw [List.getElem?_append_left (by rw [← h.len]; exact hi)]; exact hr, hn⟩
    · rw [List.getElem?_append_right (by omega)] at hy
      have e : i - L.length = 0 := by
        have := (List.getElem?_eq_some_iff.1 hy).1
        simp at this
        omega
      rw [e] at hy
      obtain rfl := Option.some.inj hy
      refine ⟨rz, ?_, hz⟩
      rw [List.getElem?_append_right (by rw [← h.len]; omega), ← h.len, e]
      rfl
  · injection hk with hk
    rw [← hk]
    exact Nat.le_trans h.lo h.lt.1
theorem rowN_step {x : Nd} {i : Nat} {y : Nd} (h : (rowN x i)[i]? = some y) : rowN x (i + 1) = rowN x i ++ y.kids := by simp only [rowN, h]
theorem kids_take {y : Nd} {k : Nat} {z : Tm} (h : y.t.kids[k]? = some z) : y.kids.take (k + 1) = y.kids.take k ++ [⟨z, y.d + 1, y.low⟩] := by
  have : y.kids[k]? = some ⟨z, y.d + 1, y.low⟩ := by unfold Nd.kids; rw [List.getElem?_map, h]; rfl
  rw [List.take_add_one, this]; rfl
theorem kids_len (y : Nd) : y.kids.length = y.t.kids.length := by simp [Nd.kids]
end Go.Proofs.YtkdejffhdhcocaaGreat

namespace Go.Proofs.YtkdejffhdhcocaaGreat
open Go.RowKit

set_option maxRecDepth 100000 in
set_option maxHeartbeats 32000000 in
theorem row_any (t : Tm) (A : Option Addr) (ca : Nat) (B : Option Addr) (cb : Nat) (K : Option Addr) (ck : Nat) (w : World) (hat : TmAt w t A B K) (hwf : WfT t) :
    Calls Tryz.prog 74 #[tmVal t A ca B cb K ck] w fun e w' => ∃ w0 : World, Below w.heap.size w w0 ∧ RowPost t w0 w e w' := by
  obtain ⟨W1, hW1⟩ : ∃ W1, W1 = w.alloc (.cells (tmCells t A ca B cb K ck) TTm) := ⟨_, rfl⟩
  have hb1 : Below w.heap.size w W1 := by rw [hW1]; exact (Below.refl _ _).alloc (Nat.le_refl _) _
  obtain ⟨W2, hW2⟩ : ∃ W2, W2 = W1.alloc (.cells #[.int .i64 t.kind, .string t.text, .int .i64 t.n, .slice A t.sh.length ca, .slice B t.at_.length cb, .slice K t.kids.length ck, .int .i64 1, .bool false] TNd) := ⟨_, rfl⟩
  have hb2 : Below W1.heap.size W1 W2 := by rw [hW2]; exact (Below.refl _ _).alloc (Nat.le_refl _) _
  have hx2 : W2.heap[W1.heap.size]? = some (.cells #[.int .i64 t.kind, .string t.text, .int .i64 t.n, .slice A t.sh.length ca, .slice B t.at_.length cb, .slice K t.kids.length ck, .int .i64 1, .bool false] TNd (0, 0)) := by rw [hW2]; exact heap_alloc_new W1 _
  have hs1 : W1.heap.size = w.heap.size + 1 := by rw [hW1]; simp
  obtain ⟨j0, hj, hz0, hz1, hz2⟩ := info_parts info_nd
  have HB1 := Lib.hid hb1
  have HWF := Lib.hid hwf
  have HR0 : Hid (RowAt W1 W2 W1.heap.size [⟨t, 1, false⟩] [.mk ⟨A, t.sh.length, ca⟩ ⟨B, t.at_.length, cb⟩ ⟨K, t.kids.length, ck⟩ []] W1.heap.size 1) := Lib.hid (by
    refine ⟨⟨rfl, .inr ⟨W1.heap.size, 1, _, rfl, Nat.le_refl _, hx2, Nat.le_refl _, by unfold maxLen; omega, rfl, rfl⟩⟩, rfl, fun i y hy => ?_, Nat.le_refl _, hb2⟩
    match i, hy with
    | 0, hy =>
      obtain rfl := Option.some.inj hy
      exact ⟨_, rfl, hat.on hb1, rfl, rfl, rfl, hwf⟩)
  have HW := Lib.hid (And.intro hW1 (And.intro hW2 hs1))
  clear hat hwf hb1 hb2 hx2 hW1 hW2 hs1
  go_enter Tryz.func74, Tryz.ntmps74
  go_wp2_with fail
  rw [← HW.out.1, show w.heap.size + 1 = W1.heap.size from HW.out.2.2.symm, ← HW.out.2.1]
  go_loopw [4, 5] (fun v4 v5 W => ∃ (i m g cap : Nat) (L : List Nd) (rs : List Rt), i ≤ m ∧ m ≤ 4096 ∧ 1 ≤ m ∧ v5 = .int .i64 i ∧ v4 = .slice (some ⟨g, 0, none⟩) m cap ∧ Hid (m = L.length ∧ L = rowN ⟨t, 1, false⟩ i ∧ RowAt W1 W W1.heap.size L rs g cap ∧ ∀ (j : Nat) (z : Nd), j < i → L[j]? = some z → z.d ≤ 256)) (fun _ v5 _ => 4097 - (intOf v5).toNat)
  case atStart => exact ⟨0, 1, W1.heap.size, 1, _, _, Nat.zero_le _, by omega, Nat.le_refl _, rfl, rfl, Lib.hid ⟨rfl, rfl, HR0.out, fun j _ hj => absurd hj (Nat.not_lt_zero j)⟩⟩
  case round =>
    obtain ⟨i, m, g, cap, L, rs, hi, hm, hm1, rfl, rfl, HI⟩ := hrel
    obtain ⟨wo, rfl⟩ : ∃ wo : World, wo = wr := ⟨_, rfl⟩
    by_cases hlt : i < m
    · obtain ⟨y, hy⟩ : ∃ y, L[i]? = some y := ⟨_, List.getElem?_eq_getElem (by rw [← HI.out.1]; exact hlt)⟩
      obtain ⟨r, hr, hnd, c0, _, c2, _, _, c5, c6, c7⟩ := HI.out.2.2.1.eight hy
      have HY := Lib.hid (And.intro hy (And.intro hr hnd))
      obtain ⟨nk, hnk⟩ : ∃ nk, nk = y.t.kids.length := ⟨_, rfl⟩
      have HNK := Lib.hid hnk
      rw [← hnk] at c5
      have hnk2 : nk ≤ 140737488351232 := by rw [hnk]; exact hnd.wf.node.kids
      have q1 : (0 : Int) ≤ (i : Int) := by omega
      have q2 : (i : Int) < (m : Int) := by omega
      clear hy hr hnd hnk
      have cs : (256 < y.d) ∨ (¬ 256 < y.d ∧ 4096 < m + nk) ∨ (¬ 256 < y.d ∧ ¬ 4096 < m + nk) := by omega
      rcases cs with h1 | ⟨h1, h2⟩ | ⟨h1, h2⟩
      · have d1 : decide ((256 : Int) < (y.d : Int)) = true := by simp; omega
        have HG : Hid (greatT t = true) := Lib.hid (rowN_big t (i := i) (y := y) (by rw [← HI.out.2.1, ← HI.out.1]; exact hi) (by rw [← HI.out.2.1]; exact HY.out.1) (.inl h1))
        have HBF := Lib.hid (HB1.out.then_ HI.out.2.2.1.be)
        clear h1
        go_wp2_with fail
        go_ret2
        exact ⟨W1, HB1.out, .inl ⟨HG.out, rfl, HBF.out⟩⟩
      · have d1 : decide ((256 : Int) < (y.d : Int)) = false := by simp; omega
        have d2 : decide ((4096 : Int) < (m : Int) + (nk : Int)) = true := by simp; omega
        have HG : Hid (greatT t = true) := Lib.hid (rowN_big t (i := i) (y := y) (by rw [← HI.out.2.1, ← HI.out.1]; exact hi) (by rw [← HI.out.2.1]; exact HY.out.1) (.inr (by rw [← HI.out.2.1, ← HI.out.1, ← HNK.out]; exact h2)))
        have HBF := Lib.hid (HB1.out.then_ HI.out.2.2.1.be)
        have b1 : ¬ (256 : Int) < (y.d : Int) := by omega
        have b2 : (4096 : Int) < (m : Int) + (nk : Int) := by omega
        clear h1 h2
        go_wp2_with fail
        go_ret2
        exact ⟨W1, HB1.out, .inl ⟨HG.out, rfl, HBF.out⟩⟩
      · have d1 : decide ((256 : Int) < (y.d : Int)) = false := by simp; omega
        have d2 : decide ((4096 : Int) < (m : Int) + (nk : Int)) = false := by simp; omega
        have b1 : ¬ (256 : Int) < (y.d : Int) := by omega
        have b2 : ¬ (4096 : Int) < (m : Int) + (nk : Int) := by omega
        have hmk : m + nk ≤ 4096 := by omega
        have hyd : y.d ≤ 256 := by omega
        have ls : ∃ low : Bool, Hid (y.low = low) ∧ ((y.t.kind == 23) = true ∧ (y.t.n == 1) = low ∧ wo.cell? ⟨g, i * 8 + 7, none⟩ = some (.bool y.bare) ∨ (y.t.kind == 23) = false ∧ wo.cell? ⟨g, i * 8 + 7, none⟩ = some (.bool low)) := by
          by_cases hk : y.t.kind = 23
          · exact ⟨_, Lib.hid rfl, .inl ⟨beq_yes hk, by unfold Nd.low lowOf; rw [if_pos hk]; by_cases hn : y.t.n = 1 <;> simp [hn], c7⟩⟩
          · exact ⟨_, Lib.hid rfl, .inr ⟨beq_no hk, by rw [c7]; unfold Nd.low lowOf; rw [if_neg hk]⟩⟩
        obtain ⟨low, HLOW, ls⟩ := ls
        have HI2 := Lib.hid HI.out
        clear h1 h2
        clear c7
        rcases ls with ⟨k1, k2, c7⟩ | ⟨k1, c7⟩
        all_goals
          go_wp2_with fail
          go_loopw [4, 7] (fun v4 v7 W => ∃ (k g' cap' : Nat) (rs' : List Rt), k ≤ nk ∧ v7 = .int .i64 k ∧ v4 = .slice (some ⟨g', 0, none⟩) (m + k) cap' ∧ Hid (RowAt W1 W W1.heap.size (L ++ y.kids.take k) rs' g' cap')) (fun _ v7 _ => nk - (intOf v7).toNat)
          case atStart => exact ⟨0, g, cap, rs, Nat.zero_le _, rfl, rfl, Lib.hid (by rw [List.take_zero, List.append_nil]; exact HI.out.2.2.1)⟩
          case round =>
            obtain ⟨k, g', cap', rs', hk, rfl, rfl, HR⟩ := hrel
            have hy2 : (L ++ y.kids.take k)[i]? = some y := by rw [List.getElem?_append_left (by rw [← HI.out.1]; exact hlt)]; exact HY.out.1
            obtain ⟨r', hr', hnd', e0, _, e2, _, _, e5, e6, e7⟩ := HR.out.eight hy2
            rw [← HNK.out] at e5
            have q3 : (i : Int) < ((m + k : Nat) : Int) := by omega
            have q4 : (i : Int) < (m : Int) + (k : Int) := by omega
            have q5 : i < m + k := by omega
            have HN' := Lib.hid hnd'
            clear hy2 hr' hnd'
            by_cases hlk : k < nk
            · obtain ⟨z, hz⟩ : ∃ z, y.t.kids[k]? = some z := ⟨_, List.getElem?_eq_getElem (by rw [← HNK.out]; exact hlk)⟩
              obtain ⟨bz, oz, hKe, hpz⟩ := HN'.out.at_.kids.get hz
              rw [Nat.zero_add] at hpz
              obtain ⟨Az, caz, Bz, cbz, Kz, ckz, hltz, z0, z1, z2, z3, z4, z5, hatz⟩ := hpz.cells
              have HATZ := Lib.hid hatz
              replace z0 := (HR.out.be.cell (p := ⟨bz, oz + k * 6, none⟩) hltz).trans z0
              replace z1 := (HR.out.be.cell (p := ⟨bz, oz + k * 6 + 1, none⟩) hltz).trans z1
              replace z2 := (HR.out.be.cell (p := ⟨bz, oz + k * 6 + 2, none⟩) hltz).trans z2
              replace z3 := (HR.out.be.cell (p := ⟨bz, oz + k * 6 + 3, none⟩) hltz).trans z3
              replace z4 := (HR.out.be.cell (p := ⟨bz, oz + k * 6 + 4, none⟩) hltz).trans z4
              replace z5 := (HR.out.be.cell (p := ⟨bz, oz + k * 6 + 5, none⟩) hltz).trans z5
              replace hltz := Nat.lt_of_lt_of_le hltz HR.out.be.size
              have HZ := Lib.hid (And.intro hz (And.intro hpz (HN'.out.wf.node.each z (List.mem_of_getElem? hz))))
              rw [hKe] at e5
              have q6 : (0 : Int) ≤ (k : Int) := by omega
              have q7 : (k : Int) < (nk : Int) := by omega
              clear hz hpz hKe hatz
              go_upto_region 13 with fail
              have hdd : IntKind.i64.wrap ((y.d : Int) + 1) = (y.d : Int) + 1 := IntWalk.i64_in _ (by omega)
              have HRC : Hid (∀ W, Below wr.heap.size wr W → RowAt W1 W W1.heap.size (L ++ y.kids.take k) rs' g' cap') := Lib.hid fun W h => HR.out.on h
              have HLN : Hid (m + k = (L ++ y.kids.take k).length) := Lib.hid (by rw [List.length_append, List.length_take, kids_len, ← HNK.out, ← HI.out.1]; omega)
              have hbase : W1.heap.size ≤ wr.heap.size := HR.out.be.size
              obtain ⟨rz, hrz⟩ : ∃ rz : Rt, rz = .mk ⟨Az, z.sh.length, caz⟩ ⟨Bz, z.at_.length, cbz⟩ ⟨Kz, z.kids.length, ckz⟩ [] := ⟨_, rfl⟩
              have HZN : Hid (∀ W, W = (wr.alloc (.cells #[.int .i64 z.kind, .string z.text, .int .i64 z.n, .slice Az z.sh.length caz, .slice Bz z.at_.length cbz, .slice Kz z.kids.length ckz, .int .i64 ((y.d : Int) + 1), .bool low] TNd)).drew → ∀ j u, (ndCells ⟨z, y.d + 1, low⟩ rz)[j]? = some u → W.cell? ((⟨wr.heap.size, 0, none⟩ : Addr).add j) = some u) := Lib.hid fun W hW => by
                rw [hW, hrz]
                exact World.news_of_block (heap_alloc_new wr _)
              have HZ1 : Hid (∀ u ∈ ndCells ⟨z, y.d + 1, low⟩ rz, u.oneCell' = true) := Lib.hid (by
                rw [hrz]
                intro u hu
                simp only [ndCells, rtCells, List.cons_append, List.nil_append, List.mem_cons, List.not_mem_nil, or_false] at hu
                rcases hu with rfl | rfl | rfl | rfl | rfl | rfl | rfl | rfl <;> rfl)
              have HRZ := Lib.hid hrz
              clear hrz
              go_region_law (refine step_append_lies _ rfl (.tmp 66) (.tmp 84) TNs rfl W1.heap.size TNd j0 (.agg #[.int .i64 0, .string ⟨#[]⟩, .int .i64 0, .slice none 0 0, .slice none 0 0, .slice none 0 0, .int .i64 0, .bool false]) 8 120 Tryz.underlying96 hj hz0 hz1 hz2 rfl (by decide) (.slice (some ⟨g', 0, none⟩) (m + k) cap') (m + k) (ndCellsL (L ++ y.kids.take k) rs') (by simp [Act.eval]) (by rw [HLN.out]; exact (HRC.out _ (((Below.refl _ _).alloc (Nat.le_refl _) _).drew)).row) ⟨wr.heap.size, 0, none⟩ 1 1 (ndCells ⟨z, y.d + 1, low⟩ rz) (by simp [Act.eval]) rfl (HZN.out _ rfl) HZ1.out (by decide) (by unfold maxLen; omega) (by omega) (by simp; omega) _ rfl ?_; intro g9 cap9 w9 hown9 hgr9 hor9 hlt9)
              all_goals
                have HR9 : Hid (RowAt W1 w9 W1.heap.size (L ++ y.kids.take (k + 1)) (rs' ++ [rz]) g9 cap9) := Lib.hid (by
                  rw [kids_take HZ.out.1, ← List.append_assoc, HLOW.out]
                  exact HR.out.more (((Below.refl _ _).alloc (Nat.le_refl _) _).drew) (by rw [HRZ.out]; exact ⟨HATZ.out, rfl, rfl, rfl, HZ.out.2.2⟩) (by rw [← HLN.out]; exact hown9) hgr9)
                clear hown9 hgr9 hor9 hlt9
                simp only [Act.put, List.getElem_toArray, List.getElem_cons_succ, List.getElem_cons_zero]
                go_wp2_with fail
                exact ⟨⟨k + 1, g9, cap9, rs' ++ [rz], by omega, by go_num, rfl, HR9⟩, by simp [intOf]; omega⟩
            · obtain rfl : k = nk := by omega
              have HR2 : Hid (RowAt W1 wr W1.heap.size (rowN ⟨t, 1, false⟩ (i + 1)) rs' g' cap' ∧ m + k = (rowN ⟨t, 1, false⟩ (i + 1)).length) := Lib.hid (by
                have e := rowN_step (x := ⟨t, 1, false⟩) (i := i) (y := y) (by rw [← HI.out.2.1]; exact HY.out.1)
                have h1 := HR.out
                rw [List.take_of_length_le (by rw [kids_len, ← HNK.out]; exact Nat.le_refl _)] at h1
                rw [e, ← HI.out.2.1]
                exact ⟨h1, by rw [List.length_append, kids_len, ← HNK.out, ← HI.out.1]⟩)
              clear hlk
              go_wp2_with fail
              refine ⟨⟨i + 1, m + k, g', cap', _, rs', by omega, by omega, by omega, by go_num, rfl, Lib.hid ⟨HR2.out.2, rfl, HR2.out.1, fun j z hj hz => ?_⟩⟩, by simp [intOf]; omega⟩
              rw [rowN_step (x := ⟨t, 1, false⟩) (i := i) (y := y) (by rw [← HI.out.2.1]; exact HY.out.1), ← HI.out.2.1, List.getElem?_append_left (by rw [← HI.out.1]; omega)] at hz
              rcases Nat.lt_or_ge j i with hji | hji
              · exact HI.out.2.2.2 j z hji hz
              · obtain rfl : j = i := by omega
                rw [HY.out.1] at hz
                obtain rfl := Option.some.inj hz
                exact hyd
    · obtain rfl : i = m := by omega
      have HG : Hid (greatT t = false) := Lib.hid (rowN_ok t (i := i) (by rw [← HI.out.2.1]; exact HI.out.1) (by rw [← HI.out.2.1, ← HI.out.1]; exact hm) fun y hy => by
        rw [← HI.out.2.1] at hy
        obtain ⟨j, hj⟩ := List.getElem?_of_mem hy
        exact HI.out.2.2.2 j y (by rw [HI.out.1]; exact (List.getElem?_eq_some_iff.1 hj).1) hj)
      clear hlt
      go_wp2_with fail
      go_ret2
      exact ⟨W1, HB1.out, .inr ⟨HG.out, i, g, cap, L, rs, by rw [← HI.out.1]; rfl, HI.out.2.1, HI.out.1, by rw [← HI.out.1]; exact hm, by rw [← HI.out.1]; exact hm1, HI.out.2.2.1, HB1.out.then_ HI.out.2.2.1.be⟩⟩
end Go.Proofs.YtkdejffhdhcocaaGreat

namespace Go.Proofs.YtkdejffhdhcocaaGreat
open Go.RowKit

set_option maxHeartbeats 2000000 in
theorem dclass_k (k : Int) (v1 v2 v3 v4 v5 : Value) (w : World) : Calls Tryz.prog 76 #[.agg #[.int .i64 k, v1, v2, v3, v4, v5]] w fun e w' => e = .returned (.int .i64 (cls k)) ∧ Below w.heap.size w w' := by
  have H : k < 1 ∨ (1 ≤ k ∧ k ≤ 5) ∨ (5 < k ∧ k < 10) ∨ (10 ≤ k ∧ k ≤ 14) ∨ (14 < k ∧ k < 20) ∨ (20 ≤ k ∧ k ≤ 46) ∨ 46 < k := by omega
  have HC : Hid ((k < 1 → cls k = 0) ∧ (1 ≤ k ∧ k ≤ 5 → cls k = 1) ∧ (5 < k ∧ k < 10 → cls k = 0) ∧ (10 ≤ k ∧ k ≤ 14 → cls k = 2) ∧ (14 < k ∧ k < 20 → cls k = 0) ∧ (20 ≤ k ∧ k ≤ 46 → cls k = 3) ∧ (46 < k → cls k = 0)) := Lib.hid (by
    unfold cls
    refine ⟨fun h => ?_, fun h => ?_, fun h => ?_, fun h => ?_, fun h => ?_, fun h => ?_, fun h => ?_⟩ <;> (repeat' split) <;> omega)
  rcases H with h | ⟨h1, h2⟩ | ⟨h1, h2⟩ | ⟨h1, h2⟩ | ⟨h1, h2⟩ | ⟨h1, h2⟩ | h
  all_goals
    go_enter Tryz.func76, Tryz.ntmps76
    go_wp2_with fail
    go_ret
  · exact ⟨by rw [HC.out.1 h]; rfl, (Below.refl _ _).alloc (Nat.le_refl _) _⟩
  · exact ⟨by rw [HC.out.2.1 ⟨h1, h2⟩]; rfl, (Below.refl _ _).alloc (Nat.le_refl _) _⟩
  · exact ⟨by rw [HC.out.2.2.1 ⟨h1, h2⟩]; rfl, (Below.refl _ _).alloc (Nat.le_refl _) _⟩
  · exact ⟨by rw [HC.out.2.2.2.1 ⟨h1, h2⟩]; rfl, (Below.refl _ _).alloc (Nat.le_refl _) _⟩
  · exact ⟨by rw [HC.out.2.2.2.2.1 ⟨h1, h2⟩]; rfl, (Below.refl _ _).alloc (Nat.le_refl _) _⟩
  · exact ⟨by rw [HC.out.2.2.2.2.2.1 ⟨h1, h2⟩]; rfl, (Below.refl _ _).alloc (Nat.le_refl _) _⟩
  · exact ⟨by rw [HC.out.2.2.2.2.2.2 h]; rfl, (Below.refl _ _).alloc (Nat.le_refl _) _⟩

set_option maxRecDepth 100000 in
set_option maxHeartbeats 4000000 in
theorem doperand_any (t : Tm) (A : Option Addr) (ca : Nat) (B : Option Addr) (cb : Nat) (K : Option Addr) (ck : Nat) (w : World) :
    Calls Tryz.prog 147 #[tmVal t A ca B cb K ck] w fun e w' => e = .returned (.bool (isOperand t)) ∧ Below w.heap.size w w' := by
  obtain ⟨k, hk⟩ : ∃ k, k = t.kind := ⟨_, rfl⟩
  obtain ⟨s, hs⟩ : ∃ s, s = t.text := ⟨_, rfl⟩
  have HR : Hid (isOperand t = (decide (k = 1) || (decide (k = 2) && !(s.data.toList == [120]) && !(s.data.toList == [121])))) := Lib.hid (by rw [hk, hs]; rfl)
  have HBX := Lib.hid (fun o => (Below.refl w.heap.size w).alloc (Nat.le_refl _) o)
  unfold tmVal
  rw [← hk, ← hs]
  clear hk hs
  by_cases h1 : k = 1
  · have d1 : (k == 1) = true := by simp [h1]
    have HE : Hid (isOperand t = true) := Lib.hid (by rw [HR.out, h1]; rfl)
    clear h1
    go_enter Tryz.func147, Tryz.ntmps147
    go_wp2_with fail
    go_ret
    exact ⟨by rw [HE.out]; rfl, HBX.out _⟩
  · have d1 : (k == 1) = false := by simp [h1]
    by_cases h2 : k = 2
    · have d2 : (k == 2) = true := by simp [h2]
      by_cases h3 : s.data.toList = [120]
      · have d3 : (s.toList == [120]) = true := str_yes h3
        have HE : Hid (isOperand t = false) := Lib.hid (by rw [HR.out, h2, h3]; rfl)
        clear h1 h2 h3
        go_enter Tryz.func147, Tryz.ntmps147
        go_wp2_with fail
        go_ret
        exact ⟨by rw [HE.out]; rfl, HBX.out _⟩
      · have d3 : (s.toList == [120]) = false := str_no h3
        by_cases h4 : s.data.toList = [121]
        · have d4 : (s.toList == [121]) = true := str_yes h4
          have HE : Hid (isOperand t = false) := Lib.hid (by rw [HR.out, h2, h4]; rfl)
          clear h1 h2 h3 h4
          go_enter Tryz.func147, Tryz.ntmps147
          go_wp2_with fail
          go_ret
          exact ⟨by rw [HE.out]; rfl, HBX.out _⟩
        · have d4 : (s.toList == [121]) = false := str_no h4
          have HE : Hid (isOperand t = true) := Lib.hid (by rw [HR.out, h2]; simp [h3, h4])
          clear h1 h2 h3 h4
          go_enter Tryz.func147, Tryz.ntmps147
          go_wp2_with fail
          go_ret
          exact ⟨by rw [HE.out]; rfl, HBX.out _⟩
    · have d2 : (k == 2) = false := by simp [h2]
      have HE : Hid (isOperand t = false) := Lib.hid (by rw [HR.out]; simp [h1, h2])
      clear h1 h2
      go_enter Tryz.func147, Tryz.ntmps147
      go_wp2_with fail
      go_ret
      exact ⟨by rw [HE.out]; rfl, HBX.out _⟩
set_option maxRecDepth 100000 in
set_option maxHeartbeats 8000000 in
theorem dfits_any (t : Tm) (A : Option Addr) (ca : Nat) (B : Option Addr) (cb : Nat) (K : Option Addr) (ck : Nat) (c : UInt8) (w : World) :
    Calls Tryz.prog 131 #[tmVal t A ca B cb K ck, .int .u8 (c.toNat : Int)] w fun e w' => e = .returned (.bool (fitsB t c)) ∧ Below w.heap.size w w' := by
  have HBX := Lib.hid (fun o => (Below.refl w.heap.size w).alloc (Nat.le_refl _) o)
  have un : ∀ d : UInt8, ¬ c = d → ((c.toNat : Int) == (d.toNat : Int)) = false := fun d h => by
    refine beq_eq_false_iff_ne.2 fun e => h (UInt8.toNat_inj.1 (by omega))
  unfold tmVal
  by_cases h1 : c = 110
  · have HE : Hid (fitsB t c = decide (cls t.kind = 1)) := Lib.hid (by unfold fitsB; rw [if_pos h1])
    rw [show (c.toNat : Int) = 110 by rw [h1]; rfl]
    clear un h1
    go_enter Tryz.func131, Tryz.ntmps131
    go_wp2_with fail
    refine (dclass_k _ _ _ _ _ _ _).mono ?_
    rintro e w' ⟨rfl, hb⟩
    have HB := Lib.hid ((HBX.out _).then_ hb)
    clear hb
    go_wp2_with fail
    go_ret
    rw [HE.out]
    exact ⟨by simp [beq_dec], HB.out⟩
  by_cases h2 : c = 118
  · have HE : Hid (fitsB t c = decide (cls t.kind = 3)) := Lib.hid (by unfold fitsB; rw [if_neg h1, if_pos h2])
    rw [show (c.toNat : Int) = 118 by rw [h2]; rfl]
    clear un h1 h2
    go_enter Tryz.func131, Tryz.ntmps131
    go_wp2_with fail
    refine (dclass_k _ _ _ _ _ _ _).mono ?_
    rintro e w' ⟨rfl, hb⟩
    have HB := Lib.hid ((HBX.out _).then_ hb)
    clear hb
    go_wp2_with fail
    go_ret
    rw [HE.out]
    exact ⟨by simp [beq_dec], HB.out⟩
  by_cases h3 : c = 98
  · have HE : Hid (fitsB t c = decide (t.kind = 14)) := Lib.hid (by unfold fitsB; rw [if_neg h1, if_neg h2, if_pos h3])
    rw [show (c.toNat : Int) = 98 by rw [h3]; rfl]
    clear un h1 h2 h3
    go_enter Tryz.func131, Tryz.ntmps131
    go_wp2_with fail
    go_ret
    rw [HE.out]
    exact ⟨by simp [beq_dec], HBX.out _⟩
  by_cases h4 : c = 111
  · have HE : Hid (fitsB t c = isOperand t) := Lib.hid (by unfold fitsB; rw [if_neg h1, if_neg h2, if_neg h3, if_pos h4])
    rw [show (c.toNat : Int) = 111 by rw [h4]; rfl]
    clear un h1 h2 h3 h4
    go_enter Tryz.func131, Tryz.ntmps131
    go_wp2_with fail
    refine (doperand_any t A ca B cb K ck _).mono ?_
    rintro e w' ⟨rfl, hb⟩
    have HB := Lib.hid ((HBX.out _).then_ hb)
    clear hb
    go_wp2_with fail
    go_ret
    rw [HE.out]
    exact ⟨rfl, HB.out⟩
  have HE : Hid (fitsB t c = (decide (cls t.kind = 2) && !decide (t.kind = 14))) := Lib.hid (by unfold fitsB; rw [if_neg h1, if_neg h2, if_neg h3, if_neg h4])
  have u1 : ((c.toNat : Int) == 110) = false := un 110 h1
  have u2 : ((c.toNat : Int) == 118) = false := un 118 h2
  have u3 : ((c.toNat : Int) == 98) = false := un 98 h3
  have u4 : ((c.toNat : Int) == 111) = false := un 111 h4
  obtain ⟨k, hk⟩ : ∃ k, k = t.kind := ⟨_, rfl⟩
  rw [← hk] at HE ⊢
  clear un h1 h2 h3 h4 hk
  by_cases h5 : cls k = 2
  · have d5 : (cls k == 2) = true := by simp [h5]
    have HE2 : Hid (fitsB t c = !decide (k = 14)) := Lib.hid (by rw [HE.out, h5]; simp)
    clear h5
    go_enter Tryz.func131, Tryz.ntmps131
    go_wp2_with fail
    refine (dclass_k _ _ _ _ _ _ _).mono ?_
    rintro e w' ⟨rfl, hb⟩
    have HB := Lib.hid ((HBX.out _).then_ hb)
    have kc : w'.cell? ⟨w.heap.size, 0, none⟩ = some (.int .i64 k) := (hb.cell (p := ⟨w.heap.size, 0, none⟩) (by simp)).trans (cell_at (heap_alloc_new _ _) rfl)
    clear hb
    go_wp2_with fail
    go_ret
    rw [HE2.out]
    exact ⟨by simp [bne_dec], HB.out⟩
  · have d5 : (cls k == 2) = false := by simp [h5]
    have HE2 : Hid (fitsB t c = false) := Lib.hid (by rw [HE.out]; simp [h5])
    clear h5
    go_enter Tryz.func131, Tryz.ntmps131
    go_wp2_with fail
    refine (dclass_k _ _ _ _ _ _ _).mono ?_
    rintro e w' ⟨rfl, hb⟩
    have HB := Lib.hid ((HBX.out _).then_ hb)
    clear hb
    go_wp2_with fail
    go_ret
    rw [HE2.out]
    exact ⟨rfl, HB.out⟩
set_option maxRecDepth 100000 in
set_option maxHeartbeats 8000000 in
theorem dname_any (s : ByteArray) (lo hi : UInt8) (w : World) (hs : s.size ≤ 140737488351232) (h25 : IntKind.u8.wrap ((lo.toNat : Int) + 25) = (hi.toNat : Int)) : Calls Tryz.prog 132 #[.string s, .int .u8 (lo.toNat : Int)] w fun e w' => e = .returned (.bool (isName s.data.toList lo hi)) ∧ w' = w := by
  have HN := Lib.hid (name_head s lo hi)
  by_cases h0 : s.size < 1
  · have HR := Lib.hid (HN.out.1 h0)
    have h0' : (s.size : Int) < 1 := by omega
    go_enter Tryz.func132, Tryz.ntmps132
    go_wp2_with fail
    go_ret
    exact ⟨by rw [HR.out]; rfl, rfl⟩
  · have hp : 0 < s.size := by omega
    have h0' : ¬ (s.size : Int) < 1 := by omega
    have HR := Lib.hid (HN.out.2 hp)
    by_cases h1 : 32 < s.size
    · have HR2 : Hid (isName s.data.toList lo hi = false) := Lib.hid (by rw [HR.out, decide_eq_false (by omega)]; rfl)
      have h1' : (32 : Int) < s.size := by omega
      go_enter Tryz.func132, Tryz.ntmps132
      go_wp2_with fail
      go_ret
      exact ⟨by rw [HR2.out]; rfl, rfl⟩
    · have h1' : ¬ (32 : Int) < s.size := by omega
      by_cases h2 : (s[0].toNat : Int) < lo.toNat
      · have HR2 : Hid (isName s.data.toList lo hi = false) := Lib.hid (by rw [HR.out, u8_le lo, decide_eq_false (p := (lo.toNat : Int) ≤ s[0].toNat) (by omega)]; simp)
        go_enter Tryz.func132, Tryz.ntmps132
        go_wp2_with fail
        go_ret
        exact ⟨by rw [HR2.out]; rfl, rfl⟩
      · by_cases h3 : (hi.toNat : Int) < s[0].toNat
        · have HR2 : Hid (isName s.data.toList lo hi = false) := Lib.hid (by rw [HR.out, u8_le _ hi, decide_eq_false (p := (s[0].toNat : Int) ≤ hi.toNat) (by omega)]; simp)
          go_enter Tryz.func132, Tryz.ntmps132
          go_wp2_with fail
          go_ret
          exact ⟨by rw [HR2.out]; rfl, rfl⟩
        · have HR2 : Hid (isName s.data.toList lo hi = (s.data.toList.drop 1).all alnum) := Lib.hid (by rw [HR.out, u8_le lo, u8_le _ hi, decide_eq_true (p := (s[0].toNat : Int) ≤ hi.toNat) (by omega), decide_eq_true (p := s.size ≤ 32) (by omega), decide_eq_true (p := (lo.toNat : Int) ≤ s[0].toNat) (by omega)]; simp)
          go_enter Tryz.func132, Tryz.ntmps132
          go_wp2_with fail
          clear h2 h3
          go_loop [5] (fun v => ∃ i : Nat, 1 ≤ i ∧ i ≤ s.size ∧ v = .int .i64 i ∧ Hid (isName s.data.toList lo hi = (s.data.toList.drop i).all alnum)) (fun v => s.size - (intOf v).toNat)
          case atStart => exact ⟨1, by omega, by omega, rfl, HR2⟩
          case round =>
            obtain ⟨i, hi1, hi2, rfl, HI⟩ := hrel
            by_cases hlt : i < s.size
            · have HS := Lib.hid (name_step s i hlt)
              have hc : (s[i].toNat : Int) < 48 ∨ (48 ≤ (s[i].toNat : Int) ∧ (s[i].toNat : Int) ≤ 57) ∨ (57 < (s[i].toNat : Int) ∧ (s[i].toNat : Int) < 65) ∨ (65 ≤ (s[i].toNat : Int) ∧ (s[i].toNat : Int) ≤ 90) ∨ (90 < (s[i].toNat : Int) ∧ (s[i].toNat : Int) < 97) ∨ (97 ≤ (s[i].toNat : Int) ∧ (s[i].toNat : Int) ≤ 122) ∨ 122 < (s[i].toNat : Int) := by omega
              rcases hc with h | ⟨h, h'⟩ | ⟨h, h'⟩ | ⟨h, h'⟩ | ⟨h, h'⟩ | ⟨h, h'⟩ | h
              all_goals first
                | (have ha : alnum s[i] = false := by rw [alnum_int]; simp; omega
                   have HE : Hid (isName s.data.toList lo hi = false) := Lib.hid (by rw [HI.out, HS.out, ha]; rfl)
                   clear ha
                   go_wp2_with fail
                   all_goals first
                     | (go_ret
                        exact ⟨by rw [HE.out]; rfl, rfl⟩)
                     | (exfalso
                        rename_i hh
                        simp at hh
                        omega))
                | (have ha : alnum s[i] = true := by rw [alnum_int]; simp; omega
                   have HE : Hid (isName s.data.toList lo hi = (s.data.toList.drop (i + 1)).all alnum) := Lib.hid (by rw [HI.out, HS.out, ha]; rfl)
                   clear ha
                   go_wp2_with fail
                   all_goals first
                     | exact ⟨⟨i + 1, by omega, by omega, by go_num, HE⟩, by simp [intOf]; omega⟩
                     | (exfalso
                        rename_i hh
                        simp at hh
                        omega))
            · obtain rfl : i = s.size := by omega
              have HE : Hid (isName s.data.toList lo hi = true) := Lib.hid (by rw [HI.out, List.drop_of_length_le (by simp)]; rfl)
              go_wp2_with fail
              go_ret
              exact ⟨by rw [HE.out]; rfl, rfl⟩
end Go.Proofs.YtkdejffhdhcocaaGreat

namespace Go.Proofs.YtkdejffhdhcocaaGreat
open Go.RowKit

/-- the letters of a kind, as the document writes them; "?" for no kind -/
def dpatOf (k : Int) : List UInt8 :=
  if k = 1 ∨ k = 2 ∨ k = 20 ∨ k = 21 then [] else if k = 3 then [118, 110] else if k = 4 then [118, 110, 110] else if k = 5 then [110, 42] else if k = 10 ∨ k = 11 then [110] else if k = 12 then [110, 98, 98] else if k = 13 then [110, 98] else if k = 14 then [115, 43]
  else if k = 22 then [111] else if k = 23 then [98] else if k = 24 ∨ k = 25 ∨ k = 26 ∨ k = 27 ∨ k = 42 then [118] else if k = 39 then [111, 118] else if k = 40 ∨ k = 41 then [118, 111] else if k = 43 then [118, 42]
  else if k = 45 then [118, 118, 118] else if (28 ≤ k ∧ k ≤ 38) ∨ k = 44 ∨ k = 46 then [118, 118] else [63]
/-- are the kids as the letters say? -/
def dkidsP (p : List UInt8) (ks : List Tm) : Bool := match p with
  | [c, 42] => decide (2 ≤ ks.length ∧ ks.length ≤ 17) && ks.all (fitsB · c)
  | [c, 43] => ks.all (fitsB · c)
  | _ => zipFits ks p
theorem dkidsP_zip {p : List UInt8} (ks : List Tm) (h1 : ∀ c, p ≠ [c, 42]) (h2 : ∀ c, p ≠ [c, 43]) : dkidsP p ks = zipFits ks p := by
  unfold dkidsP
  split
  · rename_i c; exact absurd rfl (h1 c)
  · rename_i c; exact absurd rfl (h2 c)
  · rfl
/-- a star or a plus stands second and last -/
def dokP (p : List UInt8) : Bool := p.length ≤ 3 && (match p with | _ :: 42 :: _ :: _ => false | _ :: 43 :: _ :: _ => false | _ => true)
theorem dpat_ok (k : Int) : dokP (dpatOf k) = true := by
  unfold dpatOf
  simp only [apply_ite dokP]
  simp [dokP]
set_option maxRecDepth 100000 in
set_option maxHeartbeats 16000000 in
theorem dkids_any (k : Int) (w : World) : Calls Tryz.prog 108 #[.int .i64 k] w fun e w' => e = .returned (.string ⟨(dpatOf k).toArray⟩) ∧ w' = w := by
  by_cases hv : (28 ≤ k ∧ k ≤ 38) ∨ k = 44 ∨ k = 46
  · have HE : Hid (dpatOf k = [118, 118]) := Lib.hid (by
      unfold dpatOf
      rw [if_neg (by omega), if_neg (by omega), if_neg (by omega), if_neg (by omega), if_neg (by omega), if_neg (by omega), if_neg (by omega), if_neg (by omega), if_neg (by omega), if_neg (by omega), if_neg (by omega), if_neg (by omega), if_neg (by omega), if_neg (by omega), if_neg (by omega), if_pos hv])
    have hc : k = 28 ∨ k = 29 ∨ k = 30 ∨ k = 31 ∨ k = 32 ∨ k = 33 ∨ k = 34 ∨ k = 35 ∨ k = 36 ∨ k = 37 ∨ k = 38 ∨ k = 44 ∨ k = 46 := by omega
    clear hv
    rcases hc with rfl | rfl | rfl | rfl | rfl | rfl | rfl | rfl | rfl | rfl | rfl | rfl | rfl
    all_goals
      go_enter Tryz.func108, Tryz.ntmps108
      go_wp2_with fail
      go_ret
      exact ⟨by rw [HE.out]; rfl, rfl⟩
  · go_enter Tryz.func108, Tryz.ntmps108
    go_wp2_with fail
    all_goals go_ret
    all_goals first
      | exact ⟨by simp_all [dpatOf], rfl⟩
      | (refine ⟨?_, rfl⟩
         unfold dpatOf
         rw [if_neg (by simp_all), if_neg (by simp_all), if_neg (by simp_all), if_neg (by simp_all), if_neg (by simp_all), if_neg (by simp_all), if_neg (by simp_all), if_neg (by simp_all), if_neg (by simp_all), if_neg (by simp_all), if_neg (by simp_all), if_neg (by simp_all), if_neg (by simp_all), if_neg (by simp_all), if_neg (by simp_all), if_neg hv])
      | (exfalso; simp_all; done)
      | (exfalso; simp_all; omega)
set_option maxRecDepth 100000 in
set_option maxHeartbeats 8000000 in
theorem dall_plus (ks : List Tm) (R : Bool) (s : ByteArray) (h0 : 0 < s.size) (h1 : 1 < s.size) (h1' : (1 : Int) < s.size) (b42 : ((s[1].toNat : Int) == 42) = false) (b43 : ((s[1].toNat : Int) == 43) = true) (hR : R = ks.all (fitsB · s[0])) (K : Option Addr) (ck : Nat) (w : World) (hat : KidsAt w K ks 0) (hks : ks.length ≤ 4611686018427387904) :
    Calls Tryz.prog 109 #[.slice K ks.length ck, .string s] w fun e w' => e = .returned (.bool R) ∧ Below w.heap.size w w' := by
  have HK := Lib.hid hat
  obtain ⟨n, hn⟩ : ∃ n, n = ks.length := ⟨_, rfl⟩
  have HN := Lib.hid hn
  rw [← hn]
  have HR2 : Hid (R = (ks.drop 0).all (fitsB · s[0])) := Lib.hid (by rw [hR]; rfl)
  rw [← hn] at hks
  clear hat hn hR
  have d0 : True := trivial
  go_enter Tryz.func109, Tryz.ntmps109
  go_wp2_with fail
  clear d0 
  go_loopw [6] (fun v W => ∃ i : Nat, i ≤ n ∧ v = .int .i64 i ∧ Hid (R = (ks.drop i).all (fitsB · s[0]) ∧ Below w.heap.size w W)) (fun v _ => n - (intOf v).toNat)
  case atStart => exact ⟨0, Nat.zero_le _, rfl, Lib.hid ⟨HR2.out, Below.refl _ _⟩⟩
  case round =>
    obtain ⟨i, hi, rfl, HI⟩ := hrel
    by_cases hlt2 : i < n
    · obtain ⟨u, hu⟩ : ∃ u, ks[i]? = some u := ⟨_, List.getElem?_eq_getElem (by rw [← HN.out]; exact hlt2)⟩
      obtain ⟨b', off', rfl, hpk⟩ := HK.out.get hu
      rw [Nat.zero_add] at hpk
      obtain ⟨A', ca', B', cb', K', ck', hlt', q0, q1, q2, q3, q4, q5, hat'⟩ := (hpk.on HI.out.2).cells
      have HS := Lib.hid (all_step (f := (fitsB · s[0])) hu)
      clear hu hpk hat'
      go_wp2_with fail
      go_region_with (go_at_call 131; refine (dfits_any u A' ca' B' cb' K' ck' s[0] _).mono ?_; rintro e w2 ⟨rfl, hb⟩)
      all_goals
        have HB : Hid (Below w.heap.size w w2) := Lib.hid (by first | exact HI.out.2.drew.then_ hb | exact HI.out.2.then_ hb | exact HI.out.2.drew.drew.then_ hb)
        clear hb q0 q1 q2 q3 q4 q5
        cases hf : fitsB u s[0] with
        | false =>
          have HE : Hid (R = false) := Lib.hid (by rw [HI.out.1, HS.out, hf]; rfl)
          clear hf
          go_wp2_with fail
          go_ret
          exact ⟨by rw [HE.out]; rfl, HB.out⟩
        | true =>
          have HE : Hid (R = (ks.drop (i + 1)).all (fitsB · s[0])) := Lib.hid (by rw [HI.out.1, HS.out, hf]; rfl)
          clear hf
          go_wp2_with fail
          exact ⟨⟨i + 1, by omega, by go_num, Lib.hid ⟨HE.out, HB.out⟩⟩, by simp [intOf]; omega⟩
    · obtain rfl : i = n := by omega
      have HE : Hid (R = true) := Lib.hid (by rw [HI.out.1, HN.out, List.drop_length]; rfl)
      clear hlt2
      go_wp2_with fail
      go_ret
      exact ⟨by rw [HE.out]; rfl, HI.out.2⟩
set_option maxRecDepth 100000 in
set_option maxHeartbeats 8000000 in
theorem dall_star (ks : List Tm) (R : Bool) (s : ByteArray) (h0 : 0 < s.size) (h1 : 1 < s.size) (h1' : (1 : Int) < s.size) (b42 : ((s[1].toNat : Int) == 42) = true) (hR : R = (decide (2 ≤ ks.length ∧ ks.length ≤ 17) && ks.all (fitsB · s[0]))) (K : Option Addr) (ck : Nat) (w : World) (hat : KidsAt w K ks 0) (hks : ks.length ≤ 4611686018427387904) :
    Calls Tryz.prog 109 #[.slice K ks.length ck, .string s] w fun e w' => e = .returned (.bool R) ∧ Below w.heap.size w w' := by
  have HK := Lib.hid hat
  obtain ⟨n, hn⟩ : ∃ n, n = ks.length := ⟨_, rfl⟩
  have HN := Lib.hid hn
  rw [← hn]
  have HRR : Hid (R = (decide (2 ≤ n ∧ n ≤ 17) && ks.all (fitsB · s[0]))) := Lib.hid (by rw [hR, hn])
  rw [← hn] at hks
  clear hat hn hR
  have tst : n < 2 ∨ 17 < n ∨ (2 ≤ n ∧ n ≤ 17) := by omega
  rcases tst with h | h | ⟨h, h'⟩
  · have HE : Hid (R = false) := Lib.hid (by rw [HRR.out, decide_eq_false (by omega)]; rfl)
    have d1 : (n : Int) < 2 := by omega
    go_enter Tryz.func109, Tryz.ntmps109
    go_wp2_with fail
    go_ret
    exact ⟨by rw [HE.out]; rfl, Below.refl _ _⟩
  · have HE : Hid (R = false) := Lib.hid (by rw [HRR.out, decide_eq_false (by omega)]; rfl)
    have d1 : ¬ (n : Int) < 2 := by omega
    have d2 : (17 : Int) < n := by omega
    go_enter Tryz.func109, Tryz.ntmps109
    go_wp2_with fail
    go_ret
    exact ⟨by rw [HE.out]; rfl, Below.refl _ _⟩
  have HR2 : Hid (R = (ks.drop 0).all (fitsB · s[0])) := Lib.hid (by rw [HRR.out, decide_eq_true (by omega)]; rfl)
  have d1 : ¬ (n : Int) < 2 := by omega
  have d2 : ¬ (17 : Int) < n := by omega
  have d0 : True := trivial
  go_enter Tryz.func109, Tryz.ntmps109
  go_wp2_with fail
  clear d0 d1 d2
  go_loopw [6] (fun v W => ∃ i : Nat, i ≤ n ∧ v = .int .i64 i ∧ Hid (R = (ks.drop i).all (fitsB · s[0]) ∧ Below w.heap.size w W)) (fun v _ => n - (intOf v).toNat)
  case atStart => exact ⟨0, Nat.zero_le _, rfl, Lib.hid ⟨HR2.out, Below.refl _ _⟩⟩
  case round =>
    obtain ⟨i, hi, rfl, HI⟩ := hrel
    by_cases hlt2 : i < n
    · obtain ⟨u, hu⟩ : ∃ u, ks[i]? = some u := ⟨_, List.getElem?_eq_getElem (by rw [← HN.out]; exact hlt2)⟩
      obtain ⟨b', off', rfl, hpk⟩ := HK.out.get hu
      rw [Nat.zero_add] at hpk
      obtain ⟨A', ca', B', cb', K', ck', hlt', q0, q1, q2, q3, q4, q5, hat'⟩ := (hpk.on HI.out.2).cells
      have HS := Lib.hid (all_step (f := (fitsB · s[0])) hu)
      clear hu hpk hat'
      go_wp2_with fail
      go_region_with (go_at_call 131; refine (dfits_any u A' ca' B' cb' K' ck' s[0] _).mono ?_; rintro e w2 ⟨rfl, hb⟩)
      all_goals
        have HB : Hid (Below w.heap.size w w2) := Lib.hid (by first | exact HI.out.2.drew.then_ hb | exact HI.out.2.then_ hb | exact HI.out.2.drew.drew.then_ hb)
        clear hb q0 q1 q2 q3 q4 q5
        cases hf : fitsB u s[0] with
        | false =>
          have HE : Hid (R = false) := Lib.hid (by rw [HI.out.1, HS.out, hf]; rfl)
          clear hf
          go_wp2_with fail
          go_ret
          exact ⟨by rw [HE.out]; rfl, HB.out⟩
        | true =>
          have HE : Hid (R = (ks.drop (i + 1)).all (fitsB · s[0])) := Lib.hid (by rw [HI.out.1, HS.out, hf]; rfl)
          clear hf
          go_wp2_with fail
          exact ⟨⟨i + 1, by omega, by go_num, Lib.hid ⟨HE.out, HB.out⟩⟩, by simp [intOf]; omega⟩
    · obtain rfl : i = n := by omega
      have HE : Hid (R = true) := Lib.hid (by rw [HI.out.1, HN.out, List.drop_length]; rfl)
      clear hlt2
      go_wp2_with fail
      go_ret
      exact ⟨by rw [HE.out]; rfl, HI.out.2⟩
set_option maxRecDepth 100000 in
set_option maxHeartbeats 8000000 in
theorem dall_zip (ks : List Tm) (R : Bool) (s : ByteArray) (hs3 : s.size ≤ 3) (hR : R = zipFits ks s.data.toList) (hs1 : ∀ h : 1 < s.size, ((s[1].toNat : Int) == 42) = false ∧ ((s[1].toNat : Int) == 43) = false) (K : Option Addr) (ck : Nat) (w : World) (hat : KidsAt w K ks 0) (hks : ks.length ≤ 4611686018427387904) :
    Calls Tryz.prog 109 #[.slice K ks.length ck, .string s] w fun e w' => e = .returned (.bool R) ∧ Below w.heap.size w w' := by
  have HK := Lib.hid hat
  obtain ⟨n, hn⟩ : ∃ n, n = ks.length := ⟨_, rfl⟩
  have HN := Lib.hid hn
  rw [← hn]
  obtain ⟨p, hsd⟩ : ∃ p, p = s.data.toList := ⟨_, rfl⟩
  have hss : s.size = p.length := by rw [hsd]; rw [Array.length_toList]; rfl
  have HSS := Lib.hid hss
  have HGET : Hid (∀ i (h : i < s.size), p[i]? = some s[i]) := Lib.hid (fun i h => by
    rw [List.getElem?_eq_getElem (by omega)]
    subst hsd
    rfl)
  have HZ : Hid (R = zipFits ks p) := Lib.hid (by rw [hR, hsd])
  rw [← hn] at hks
  clear hsd hss hR hat hn
  have tst : (∃ h : 1 < s.size, ((s[1].toNat : Int) == 42) = false ∧ ((s[1].toNat : Int) == 43) = false ∧ (1 : Int) < s.size) ∨ ¬ (1 : Int) < s.size := by
    by_cases h : 1 < s.size
    · exact .inl ⟨h, (hs1 h).1, (hs1 h).2, by omega⟩
    · exact .inr (by omega)
  clear hs1
  have d0 : True := trivial
  by_cases hlen : n = s.size
  · have d3 : ((n : Int) != (s.size : Int)) = false := by rw [hlen]; simp
    have HR2 : Hid (R = zipFits (ks.drop 0) (p.drop 0)) := HZ
    have HLN := Lib.hid hlen
    have hns : n ≤ s.size := by omega
    clear hlen
    rcases tst with ⟨ht1, ht2, ht3, ht4⟩ | ht
    · go_enter Tryz.func109, Tryz.ntmps109
      go_wp2_with fail
      clear d0 d3
      go_loopw [7] (fun v W => ∃ i : Nat, i ≤ n ∧ v = .int .i64 i ∧ Hid (R = zipFits (ks.drop i) (p.drop i) ∧ Below w.heap.size w W)) (fun v _ => n - (intOf v).toNat)
      case atStart => exact ⟨0, Nat.zero_le _, rfl, Lib.hid ⟨HR2.out, Below.refl _ _⟩⟩
      case round =>
        obtain ⟨i, hi, rfl, HI⟩ := hrel
        by_cases hlt2 : i < n
        · obtain ⟨u, hu⟩ : ∃ u, ks[i]? = some u := ⟨_, List.getElem?_eq_getElem (by rw [← HN.out]; exact hlt2)⟩
          obtain ⟨b', off', rfl, hpk⟩ := HK.out.get hu
          rw [Nat.zero_add] at hpk
          obtain ⟨A', ca', B', cb', K', ck', hlt', q0, q1, q2, q3, q4, q5, hat'⟩ := (hpk.on HI.out.2).cells
          have his : i < s.size := by omega
          have HS := Lib.hid (zip_step hu (HGET.out i his))
          clear hu hpk hat'
          go_wp2_with fail
          go_region_with (go_at_call 131; refine (dfits_any u A' ca' B' cb' K' ck' s[i] _).mono ?_; rintro e w2 ⟨rfl, hb⟩)
          all_goals
            have HB : Hid (Below w.heap.size w w2) := Lib.hid (by first | exact HI.out.2.drew.then_ hb | exact HI.out.2.then_ hb | exact HI.out.2.drew.drew.then_ hb)
            clear hb q0 q1 q2 q3 q4 q5
            cases hf : fitsB u s[i] with
            | false =>
              have HE : Hid (R = false) := Lib.hid (by rw [HI.out.1, HS.out, hf]; rfl)
              clear hf
              go_wp2_with fail
              go_ret
              exact ⟨by rw [HE.out]; rfl, HB.out⟩
            | true =>
              have HE : Hid (R = zipFits (ks.drop (i + 1)) (p.drop (i + 1))) := Lib.hid (by rw [HI.out.1, HS.out, hf]; rfl)
              clear hf
              go_wp2_with fail
              exact ⟨⟨i + 1, by omega, by go_num, Lib.hid ⟨HE.out, HB.out⟩⟩, by simp [intOf]; omega⟩
        · obtain rfl : i = n := by omega
          have HE : Hid (R = true) := Lib.hid (by rw [HI.out.1, HN.out, List.drop_length, ← HN.out, HLN.out, HSS.out, List.drop_length]; rfl)
          have hge : ¬ ((i : Int) < (s.size : Int)) := by have := HLN.out; omega
          clear hlt2
          go_wp2_with fail
          go_ret
          exact ⟨by rw [HE.out]; rfl, HI.out.2⟩
    · go_enter Tryz.func109, Tryz.ntmps109
      go_wp2_with fail
      clear d0 d3
      go_loopw [7] (fun v W => ∃ i : Nat, i ≤ n ∧ v = .int .i64 i ∧ Hid (R = zipFits (ks.drop i) (p.drop i) ∧ Below w.heap.size w W)) (fun v _ => n - (intOf v).toNat)
      case atStart => exact ⟨0, Nat.zero_le _, rfl, Lib.hid ⟨HR2.out, Below.refl _ _⟩⟩
      case round =>
        obtain ⟨i, hi, rfl, HI⟩ := hrel
        by_cases hlt2 : i < n
        · obtain ⟨u, hu⟩ : ∃ u, ks[i]? = some u := ⟨_, List.getElem?_eq_getElem (by rw [← HN.out]; exact hlt2)⟩
          obtain ⟨b', off', rfl, hpk⟩ := HK.out.get hu
          rw [Nat.zero_add] at hpk
          obtain ⟨A', ca', B', cb', K', ck', hlt', q0, q1, q2, q3, q4, q5, hat'⟩ := (hpk.on HI.out.2).cells
          have his : i < s.size := by omega
          have HS := Lib.hid (zip_step hu (HGET.out i his))
          clear hu hpk hat'
          go_wp2_with fail
          go_region_with (go_at_call 131; refine (dfits_any u A' ca' B' cb' K' ck' s[i] _).mono ?_; rintro e w2 ⟨rfl, hb⟩)
          all_goals
            have HB : Hid (Below w.heap.size w w2) := Lib.hid (by first | exact HI.out.2.drew.then_ hb | exact HI.out.2.then_ hb | exact HI.out.2.drew.drew.then_ hb)
            clear hb q0 q1 q2 q3 q4 q5
            cases hf : fitsB u s[i] with
            | false =>
              have HE : Hid (R = false) := Lib.hid (by rw [HI.out.1, HS.out, hf]; rfl)
              clear hf
              go_wp2_with fail
              go_ret
              exact ⟨by rw [HE.out]; rfl, HB.out⟩
            | true =>
              have HE : Hid (R = zipFits (ks.drop (i + 1)) (p.drop (i + 1))) := Lib.hid (by rw [HI.out.1, HS.out, hf]; rfl)
              clear hf
              go_wp2_with fail
              exact ⟨⟨i + 1, by omega, by go_num, Lib.hid ⟨HE.out, HB.out⟩⟩, by simp [intOf]; omega⟩
        · obtain rfl : i = n := by omega
          have HE : Hid (R = true) := Lib.hid (by rw [HI.out.1, HN.out, List.drop_length, ← HN.out, HLN.out, HSS.out, List.drop_length]; rfl)
          have hge : ¬ ((i : Int) < (s.size : Int)) := by have := HLN.out; omega
          clear hlt2
          go_wp2_with fail
          go_ret
          exact ⟨by rw [HE.out]; rfl, HI.out.2⟩
  · have d3 : ((n : Int) != (s.size : Int)) = true := by simp; omega
    have HE : Hid (R = false) := Lib.hid (by rw [HZ.out, zip_len _ _ (by rw [← HN.out, ← HSS.out]; exact hlen)])
    rcases tst with ⟨ht1, ht2, ht3, ht4⟩ | ht
    · go_enter Tryz.func109, Tryz.ntmps109
      go_wp2_with fail
      go_ret
      exact ⟨by rw [HE.out]; rfl, Below.refl _ _⟩
    · go_enter Tryz.func109, Tryz.ntmps109
      go_wp2_with fail
      go_ret
      exact ⟨by rw [HE.out]; rfl, Below.refl _ _⟩
theorem dall_any (ks : List Tm) (p : List UInt8) (hp : dokP p = true) (K : Option Addr) (ck : Nat) (w : World) (hat : KidsAt w K ks 0) (hks : ks.length ≤ 4611686018427387904) :
    Calls Tryz.prog 109 #[.slice K ks.length ck, .string ⟨p.toArray⟩] w fun e w' => e = .returned (.bool (dkidsP p ks)) ∧ Below w.heap.size w w' := by
  have hlen : p.length ≤ 3 := by
    unfold dokP at hp
    rw [Bool.and_eq_true] at hp
    simpa using hp.1
  by_cases h1 : ∃ c, p = [c, 42]
  · obtain ⟨c, rfl⟩ := h1
    exact dall_star ks _ ⟨[c, 42].toArray⟩ (show 0 < 2 by decide) (show 1 < 2 by decide) (show (1 : Int) < ((2 : Nat) : Int) by decide) rfl rfl K ck w hat hks
  by_cases h2 : ∃ c, p = [c, 43]
  · obtain ⟨c, rfl⟩ := h2
    exact dall_plus ks _ ⟨[c, 43].toArray⟩ (show 0 < 2 by decide) (show 1 < 2 by decide) (show (1 : Int) < ((2 : Nat) : Int) by decide) rfl rfl rfl K ck w hat hks
  have hne : ∀ h : 1 < p.length, p[1] ≠ 42 ∧ p[1] ≠ 43 := by
    intro h
    match p, h, hp, h1, h2 with
    | [a, b], _, _, h1, h2 => exact ⟨fun e => h1 ⟨a, by simpa using e⟩, fun e => h2 ⟨a, by simpa using e⟩⟩
    | a :: b :: c :: r, _, hp, _, _ =>
      refine ⟨fun e => ?_, fun e => ?_⟩
      · have e' : b = 42 := by simpa using e
        subst e'
        simp [dokP] at hp
      · have e' : b = 43 := by simpa using e
        subst e'
        simp [dokP] at hp
  refine dall_zip ks _ ⟨p.toArray⟩ (by simpa [ByteArray.size] using hlen) (dkidsP_zip ks (fun c e => h1 ⟨c, e⟩) (fun c e => h2 ⟨c, e⟩)) ?_ K ck w hat hks
  intro h
  have h' : 1 < p.length := by simpa [ByteArray.size] using h
  obtain ⟨a, b⟩ := hne h'
  have e : (⟨p.toArray⟩ : ByteArray)[1] = p[1] := rfl
  rw [e]
  refine ⟨beq_eq_false_iff_ne.2 fun q => a ?_, beq_eq_false_iff_ne.2 fun q => b ?_⟩
  · exact UInt8.toNat_inj.1 (by have : ((42 : UInt8).toNat : Int) = 42 := rfl; omega)
  · exact UInt8.toNat_inj.1 (by have : ((43 : UInt8).toNat : Int) = 43 := rfl; omega)
def okS (p : List UInt8) : Bool := match p with | [_, 42] => false | _ => true
theorem okS_ne {p : List UInt8} (h : okS p = true) : ∀ c, p ≠ [c, 42] := by
  intro c e
  rw [e] at h
  exact absurd h (by simp [okS])
set_option maxRecDepth 100000 in
theorem dpat_fin : ∀ n : Fin 47, cls (n.val : Int) = 0 ∨ (n.val = 14 ∨ n.val = 5 ∨ n.val = 43) ∨ (dpatOf n.val = patOf n.val ∧ okS (dpatOf n.val) = true) := by decide
theorem cls_pos {k : Int} (hc : cls k ≠ 0) : 0 ≤ k ∧ k < 47 := by
  by_cases h : 0 ≤ k ∧ k < 47
  · exact h
  · refine absurd ?_ hc
    unfold cls
    rw [if_neg (by omega), if_neg (by omega), if_neg (by omega)]
theorem cls_zero {k : Int} (hc : cls k = 0) : ¬ (1 ≤ k ∧ k ≤ 5) ∧ ¬ (10 ≤ k ∧ k ≤ 14) ∧ ¬ (20 ≤ k ∧ k ≤ 46) := by
  unfold cls at hc
  by_cases a : 1 ≤ k ∧ k ≤ 5
  · rw [if_pos a] at hc; exact absurd hc (by decide)
  rw [if_neg a] at hc
  by_cases b : 10 ≤ k ∧ k ≤ 14
  · rw [if_pos b] at hc; exact absurd hc (by decide)
  rw [if_neg b] at hc
  by_cases c : 20 ≤ k ∧ k ≤ 46
  · rw [if_pos c] at hc; exact absurd hc (by decide)
  exact ⟨a, b, c⟩
/-- where there is such a kind, the document's letters say what the program's say -/
theorem dkidsP_eq (k : Int) (ks : List Tm) (hc : cls k ≠ 0) : dkidsP (dpatOf k) ks = kidsB k ks := by
  unfold kidsB
  by_cases h14 : k = 14
  · subst h14; rfl
  by_cases h5 : k = 5
  · subst h5; rfl
  by_cases h43 : k = 43
  · subst h43; rfl
  rw [if_neg h14, if_neg h5, if_neg h43]
  obtain ⟨h0, h1⟩ := cls_pos hc
  have hk : ((k.toNat : Nat) : Int) = k := by omega
  have hf := dpat_fin ⟨k.toNat, by omega⟩
  simp only [hk] at hf
  obtain ⟨he, ho⟩ := (hf.resolve_left hc).resolve_left (by omega)
  obtain ⟨_, b⟩ := pat_plain k h14 h5 h43
  rw [← he]
  exact dkidsP_zip ks (okS_ne ho) (by rw [he]; exact b)
theorem dpat_none (k : Int) (hc : cls k = 0) : dpatOf k = [63] := by
  obtain ⟨a, b, c⟩ := cls_zero hc
  unfold dpatOf
  rw [if_neg (by omega), if_neg (by omega), if_neg (by omega), if_neg (by omega), if_neg (by omega), if_neg (by omega), if_neg (by omega), if_neg (by omega), if_neg (by omega), if_neg (by omega), if_neg (by omega), if_neg (by omega), if_neg (by omega), if_neg (by omega), if_neg (by omega), if_neg (by omega)]
theorem dpat_some (k : Int) (hc : cls k ≠ 0) : (dpatOf k == [63]) = false := by
  obtain ⟨h0, h1⟩ := cls_pos hc
  have hf : ∀ n : Fin 47, cls (n.val : Int) = 0 ∨ (dpatOf n.val == [63]) = false := by decide
  have hk : ((k.toNat : Nat) : Int) = k := by omega
  have h := hf ⟨k.toNat, by omega⟩
  simp only [hk] at h
  exact h.resolve_left hc
end Go.Proofs.YtkdejffhdhcocaaGreat

namespace Go.Proofs.YtkdejffhdhcocaaGreat
open Go.RowKit

theorem second_cell (w : World) (o1 : Obj) (cs : Array Value) (t : TypeId) (n j : Nat) (v : Value) (hv : cs[j]? = some v) : (((w.alloc o1).alloc (.cells cs t (0, 0))).drewN n).cell? ⟨w.heap.size + 1, j, none⟩ = some v := by
  have hs : (w.alloc o1).heap.size = w.heap.size + 1 := by simp
  have h := heap_alloc_new (w.alloc o1) (.cells cs t (0, 0))
  rw [hs] at h
  exact ((bdn (Below.refl ((w.alloc o1).alloc (.cells cs t (0, 0))).heap.size _) n).cell (p := ⟨w.heap.size + 1, j, none⟩) (by simp)).trans (cell_at h hv)
set_option maxRecDepth 100000 in
set_option maxHeartbeats 8000000 in
theorem dnum_lit (s : ByteArray) (nn : Int) (K : Option Addr) (kl ck : Nat) (sh at_ : List Int) (A : Option Addr) (ca : Nat) (B : Option Addr) (cb : Nat) (w : World) (hA : IntsAt w A sh) :
    Calls Tryz.prog 111 #[.agg #[.int .i64 1, .string s, .int .i64 nn, .slice A sh.length ca, .slice B at_.length cb, .slice K kl ck]] w fun e w' => e = .returned (.bool (litOk sh at_)) ∧ Below w.heap.size w w' := by
  obtain ⟨m, hm⟩ : ∃ m, m = at_.length := ⟨_, rfl⟩
  have HM := Lib.hid hm
  rw [← hm]
  clear hm
  have HBX := Lib.hid (fun o1 o2 => ((Below.refl w.heap.size w).alloc (Nat.le_refl _) o1).alloc ((Below.refl w.heap.size w).alloc (Nat.le_refl _) o1).size o2)
  match sh, hA with
  | [], hA =>
    clear hA
    by_cases h1 : m = 1
    · have h1' : ((m : Int) == 1) = true := beq_yes (by omega)
      have HR : Hid (litOk [] at_ = true) := Lib.hid (by simp [litOk, ← HM.out, h1])
      clear h1
      go_enter Tryz.func111, Tryz.ntmps111
      go_wp2_with fail
      go_ret
      exact ⟨by rw [HR.out]; rfl, HBX.out _ _⟩
    · have h1' : ((m : Int) == 1) = false := beq_no (by omega)
      have HR : Hid (litOk [] at_ = false) := Lib.hid (by simp [litOk, ← HM.out, h1])
      clear h1
      go_enter Tryz.func111, Tryz.ntmps111
      go_wp2_with fail
      go_ret
      exact ⟨by rw [HR.out]; rfl, HBX.out _ _⟩
  | [k], hA =>
    obtain ⟨b, off, rfl, hlt, hc⟩ := hA 0 k rfl
    have hcell : ((w.alloc (.cells #[.int .i64 1, .string s, .int .i64 nn, .slice (some ⟨b, off, none⟩) 1 ca, .slice B m cb, .slice K kl ck] 38)).alloc (.cells #[.slice (some ⟨b, off, none⟩) 1 ca, .slice B m cb] 36)).cell? ⟨b, off, none⟩ = some (.int .i64 k) := ((HBX.out _ _).cell (p := ⟨b, off, none⟩) hlt).trans hc
    have HCELL := Lib.hid hcell
    have hr : litOk [k] at_ = decide (2 ≤ k ∧ k ≤ 64 ∧ (m : Int) = k) := by simp only [litOk, HM.out]
    have HRR := Lib.hid hr
    clear hc hA hr
    have hk : k < 2 ∨ 64 < k ∨ (2 ≤ k ∧ k ≤ 64) := by omega
    rcases hk with h | h | ⟨h, h'⟩
    · have HR : Hid (litOk [k] at_ = false) := Lib.hid (by rw [HRR.out, decide_eq_false (by omega)])
      have d1 : decide (2 ≤ k) = false := by simp; omega
      go_enter Tryz.func111, Tryz.ntmps111
      go_wp2_with fail
      go_quiet (fail)
      go_wp2_with fail
      go_ret
      exact ⟨by rw [HR.out]; rfl, bdn (HBX.out _ _) _⟩
    · have HR : Hid (litOk [k] at_ = false) := Lib.hid (by rw [HRR.out, decide_eq_false (by omega)])
      have d1 : decide (2 ≤ k) = true := by simp; omega
      have d2 : decide (k ≤ 64) = false := by simp; omega
      go_enter Tryz.func111, Tryz.ntmps111
      go_wp2_with fail
      go_quiet (fail)
      go_wp2_with fail
      go_ret
      exact ⟨by rw [HR.out]; rfl, bdn (HBX.out _ _) _⟩
    · have d1 : decide (2 ≤ k) = true := by simp; omega
      have d2 : decide (k ≤ 64) = true := by simp; omega
      by_cases hmk : (m : Int) = k
      · have HR : Hid (litOk [k] at_ = true) := Lib.hid (by rw [HRR.out, decide_eq_true (by omega)])
        have d3 : ((m : Int) == k) = true := beq_yes hmk
        clear hmk
        go_enter Tryz.func111, Tryz.ntmps111
        go_wp2_with fail
        go_quiet (fail)
        go_wp2_with fail
        go_ret
        exact ⟨by rw [HR.out]; rfl, bdn (HBX.out _ _) _⟩
      · have HR : Hid (litOk [k] at_ = false) := Lib.hid (by rw [HRR.out, decide_eq_false (by omega)])
        have d3 : ((m : Int) == k) = false := beq_no hmk
        clear hmk
        go_enter Tryz.func111, Tryz.ntmps111
        go_wp2_with fail
        go_quiet (fail)
        go_wp2_with fail
        go_ret
        exact ⟨by rw [HR.out]; rfl, bdn (HBX.out _ _) _⟩
  | a :: b :: r, hA =>
    obtain ⟨n, hn⟩ : ∃ n, n = (a :: b :: r).length := ⟨_, rfl⟩
    have h2 : 2 ≤ n := by simp at hn; omega
    rw [← hn]
    have d0 : ((n : Int) == 0) = false := beq_no (by omega)
    have d1 : ((n : Int) == 1) = false := beq_no (by omega)
    clear hn hA
    go_enter Tryz.func111, Tryz.ntmps111
    go_wp2_with fail
    go_quiet (fail)
    go_wp2_with fail
    go_ret
    exact ⟨rfl, bdn (HBX.out _ _) _⟩
set_option maxRecDepth 100000 in
set_option maxHeartbeats 8000000 in
theorem dnum_rank (s : ByteArray) (nn : Int) (K : Option Addr) (kl ck : Nat) (sh at_ : List Int) (A : Option Addr) (ca : Nat) (B : Option Addr) (cb : Nat) (w : World) (hA : IntsAt w A sh) (hB : IntsAt w B at_) (hl : at_.length ≤ 140737488351232) :
    Calls Tryz.prog 111 #[.agg #[.int .i64 42, .string s, .int .i64 nn, .slice A sh.length ca, .slice B at_.length cb, .slice K kl ck]] w fun e w' => e = .returned (.bool (rankOk sh at_)) ∧ Below w.heap.size w w' := by
  obtain ⟨m, hm⟩ : ∃ m, m = at_.length := ⟨_, rfl⟩
  have HM := Lib.hid hm
  have HB := Lib.hid hB
  rw [← hm] at hl ⊢
  clear hm hB
  have HBX := Lib.hid (fun o1 o2 => ((Below.refl w.heap.size w).alloc (Nat.le_refl _) o1).alloc ((Below.refl w.heap.size w).alloc (Nat.le_refl _) o1).size o2)
  match sh, hA with
  | [], hA =>
    clear hA
    have hr : rankOk [] at_ = false := rfl
    have HR := Lib.hid hr
    clear hr
    go_enter Tryz.func111, Tryz.ntmps111
    go_wp2_with fail
    go_quiet (fail)
    go_wp2_with fail
    go_ret
    exact ⟨by rw [HR.out]; rfl, bdn (HBX.out _ _) _⟩
  | [k], hA =>
    obtain ⟨b, off, rfl, hlt, hc⟩ := hA 0 k rfl
    have hcell : ((w.alloc (.cells #[.int .i64 42, .string s, .int .i64 nn, .slice (some ⟨b, off, none⟩) 1 ca, .slice B m cb, .slice K kl ck] 38)).alloc (.cells #[.slice (some ⟨b, off, none⟩) 1 ca, .slice B m cb] 36)).cell? ⟨b, off, none⟩ = some (.int .i64 k) := ((HBX.out _ _).cell (p := ⟨b, off, none⟩) hlt).trans hc
    have hr : rankOk [k] at_ = (decide (1 ≤ k ∧ k ≤ 3 ∧ (m : Int) = k) && at_.all rk) := by rw [HM.out]; rfl
    have HRR := Lib.hid hr
    clear hc hA hr
    have hk : k < 1 ∨ 3 < k ∨ (1 ≤ k ∧ k ≤ 3) := by omega
    rcases hk with h | h | ⟨h, h'⟩
    · have HR : Hid (rankOk [k] at_ = false) := Lib.hid (by rw [HRR.out, decide_eq_false (by omega)]; rfl)
      have d1 : decide (k < 1) = true := by simp; omega
      go_enter Tryz.func111, Tryz.ntmps111
      go_wp2_with fail
      go_quiet (fail)
      go_wp2_with fail
      go_ret
      exact ⟨by rw [HR.out]; rfl, bdn (HBX.out _ _) _⟩
    · have HR : Hid (rankOk [k] at_ = false) := Lib.hid (by rw [HRR.out, decide_eq_false (by omega)]; rfl)
      have d1 : decide (k < 1) = false := by simp; omega
      have d2 : decide (3 < k) = true := by simp; omega
      go_enter Tryz.func111, Tryz.ntmps111
      go_wp2_with fail
      go_quiet (fail)
      go_wp2_with fail
      go_ret
      exact ⟨by rw [HR.out]; rfl, bdn (HBX.out _ _) _⟩
    · have d1 : decide (k < 1) = false := by simp; omega
      have d2 : decide (3 < k) = false := by simp; omega
      by_cases hmk : (m : Int) = k
      · have HR : Hid (rankOk [k] at_ = (at_.drop 0).all rk) := Lib.hid (by rw [HRR.out, decide_eq_true (by omega)]; rfl)
        have d3 : ((m : Int) != k) = false := by simp [hmk]
        have h3 : m ≤ 3 := by omega
        clear hmk
        go_enter Tryz.func111, Tryz.ntmps111
        go_wp2_with fail
        go_quiet (fail)
        go_wp2_with fail
        generalize hW : World.drewN _ _ = W1
        have HB1 : Hid (Below w.heap.size w W1) := Lib.hid (by rw [← hW]; exact bdn (HBX.out _ _) _)
        have kc1 : W1.cell? ⟨w.heap.size + 1, 1, none⟩ = some (.slice B m cb) := by
          rw [← hW]
          exact second_cell w _ _ _ _ 1 _ rfl
        clear hW hcell d1 d2 d3
        go_loop [4] (fun v => ∃ i : Nat, i ≤ m ∧ v = .int .i64 i ∧ Hid (rankOk [k] at_ = (at_.drop i).all rk)) (fun v => m - (intOf v).toNat)
        case atStart => exact ⟨0, by omega, rfl, HR⟩
        case round =>
          obtain ⟨i, hi, rfl, HI⟩ := hrel
          by_cases hlt2 : i < m
          · obtain ⟨x, hx⟩ : ∃ x, at_[i]? = some x := ⟨_, List.getElem?_eq_getElem (by rw [← HM.out]; exact hlt2)⟩
            obtain ⟨b', off', rfl, hlt', hc'⟩ := HB.out.on HB1.out i x hx
            have HS : Hid ((at_.drop i).all rk = (rk x && (at_.drop (i + 1)).all rk)) := Lib.hid (by
              obtain ⟨hl', rfl⟩ := List.getElem?_eq_some_iff.1 hx
              rw [List.drop_eq_getElem_cons hl', List.all_cons])
            clear hx
            have hx : x = 64 ∨ (x ≠ 64 ∧ x < -8) ∨ (x ≠ 64 ∧ -8 ≤ x ∧ 8 < x) ∨ (x ≠ 64 ∧ -8 ≤ x ∧ x ≤ 8) := by omega
            have q1 : x = 64 → (x != 64) = false := fun h => by simp [h]
            have q2 : x ≠ 64 → (x != 64) = true := fun h => by simp [h]
            rcases hx with h | ⟨h, h1⟩ | ⟨h, h1, h2⟩ | ⟨h, h1, h2⟩
            · have ha : rk x = true := by unfold rk; simp; omega
              have HE : Hid (rankOk [k] at_ = (at_.drop (i + 1)).all rk) := Lib.hid (by rw [HI.out, HS.out, ha]; rfl)
              have q := q1 h
              clear ha q1 q2 h
              go_wp2_with fail
              all_goals exact ⟨⟨i + 1, by omega, by go_num, HE⟩, by simp [intOf]; omega⟩
            · have ha : rk x = false := by unfold rk; simp; omega
              have HE : Hid (rankOk [k] at_ = false) := Lib.hid (by rw [HI.out, HS.out, ha]; rfl)
              have q := q2 h
              clear ha q1 q2 h
              go_wp2_with fail
              go_ret
              exact ⟨by rw [HE.out]; rfl, HB1.out⟩
            · have ha : rk x = false := by unfold rk; simp; omega
              have HE : Hid (rankOk [k] at_ = false) := Lib.hid (by rw [HI.out, HS.out, ha]; rfl)
              have q := q2 h
              clear ha q1 q2 h
              go_wp2_with fail
              go_ret
              exact ⟨by rw [HE.out]; rfl, HB1.out⟩
            · have ha : rk x = true := by unfold rk; simp; omega
              have HE : Hid (rankOk [k] at_ = (at_.drop (i + 1)).all rk) := Lib.hid (by rw [HI.out, HS.out, ha]; rfl)
              have q := q2 h
              clear ha q1 q2 h
              go_wp2_with fail
              all_goals exact ⟨⟨i + 1, by omega, by go_num, HE⟩, by simp [intOf]; omega⟩
          · obtain rfl : i = m := by omega
            have HE : Hid (rankOk [k] at_ = true) := Lib.hid (by rw [HI.out, HM.out, List.drop_length]; rfl)
            go_wp2_with fail
            go_ret
            exact ⟨by rw [HE.out]; rfl, HB1.out⟩
      · have HR : Hid (rankOk [k] at_ = false) := Lib.hid (by rw [HRR.out, decide_eq_false (by omega)]; rfl)
        have d3 : ((m : Int) != k) = true := by simp [hmk]
        clear hmk
        go_enter Tryz.func111, Tryz.ntmps111
        go_wp2_with fail
        go_quiet (fail)
        go_wp2_with fail
        go_ret
        exact ⟨by rw [HR.out]; rfl, bdn (HBX.out _ _) _⟩
  | a :: b :: r, hA =>
    obtain ⟨n, hn⟩ : ∃ n, n = (a :: b :: r).length := ⟨_, rfl⟩
    have h2 : 2 ≤ n := by simp at hn; omega
    rw [← hn]
    have d1 : ((n : Int) != 1) = true := by simp; omega
    clear hn hA
    go_enter Tryz.func111, Tryz.ntmps111
    go_wp2_with fail
    go_quiet (fail)
    go_wp2_with fail
    go_ret
    exact ⟨rfl, bdn (HBX.out _ _) _⟩
set_option maxRecDepth 100000 in
set_option maxHeartbeats 8000000 in
theorem dnum_other (k : Int) (h1 : (k == 1) = false) (h42 : (k == 42) = false) (s : ByteArray) (nn : Int) (K : Option Addr) (kl ck : Nat) (R : Bool) (A : Option Addr) (n ca : Nat) (B : Option Addr) (m cb : Nat) (w : World) (hR : R = (decide ((n : Int) = 0) && decide ((m : Int) = 0))) :
    Calls Tryz.prog 111 #[.agg #[.int .i64 k, .string s, .int .i64 nn, .slice A n ca, .slice B m cb, .slice K kl ck]] w fun e w' => e = .returned (.bool R) ∧ Below w.heap.size w w' := by
  have HBX := Lib.hid (fun o1 o2 => ((Below.refl w.heap.size w).alloc (Nat.le_refl _) o1).alloc ((Below.refl w.heap.size w).alloc (Nat.le_refl _) o1).size o2)
  have HR := Lib.hid hR
  clear hR
  by_cases a : (n : Int) = 0
  · have d1 : ((n : Int) == 0) = true := beq_yes a
    by_cases b : (m : Int) = 0
    · have d2 : ((m : Int) == 0) = true := beq_yes b
      have HE : Hid (R = true) := Lib.hid (by rw [HR.out, decide_eq_true a, decide_eq_true b]; rfl)
      clear a b
      go_enter Tryz.func111, Tryz.ntmps111
      go_wp2_with fail
      go_ret
      exact ⟨by rw [HE.out]; rfl, HBX.out _ _⟩
    · have d2 : ((m : Int) == 0) = false := beq_no b
      have HE : Hid (R = false) := Lib.hid (by rw [HR.out, decide_eq_false b, Bool.and_false])
      clear a b
      go_enter Tryz.func111, Tryz.ntmps111
      go_wp2_with fail
      go_ret
      exact ⟨by rw [HE.out]; rfl, HBX.out _ _⟩
  · have d1 : ((n : Int) == 0) = false := beq_no a
    have HE : Hid (R = false) := Lib.hid (by rw [HR.out, decide_eq_false a]; rfl)
    clear a
    go_enter Tryz.func111, Tryz.ntmps111
    go_wp2_with fail
    go_ret
    exact ⟨by rw [HE.out]; rfl, HBX.out _ _⟩
theorem dnum_any (t : Tm) (A : Option Addr) (ca : Nat) (B : Option Addr) (cb : Nat) (K : Option Addr) (ck : Nat) (w : World) (hA : IntsAt w A t.sh) (hB : IntsAt w B t.at_) (hl : t.at_.length ≤ 140737488351232) :
    Calls Tryz.prog 111 #[tmVal t A ca B cb K ck] w fun e w' => e = .returned (.bool (numB t.kind t.sh t.at_)) ∧ Below w.heap.size w w' := by
  unfold numB
  by_cases h1 : t.kind = 1
  · rw [if_pos h1]
    unfold tmVal
    rw [h1]
    exact dnum_lit t.text t.n K _ ck t.sh t.at_ A ca B cb w hA
  rw [if_neg h1]
  by_cases h2 : t.kind = 42
  · rw [if_pos h2]
    unfold tmVal
    rw [h2]
    exact dnum_rank t.text t.n K _ ck t.sh t.at_ A ca B cb w hA hB hl
  rw [if_neg h2]
  refine dnum_other _ (beq_no h1) (beq_no h2) t.text t.n K _ ck _ A _ ca B _ cb w ?_
  have e : ∀ l : List Int, l.isEmpty = decide ((l.length : Int) = 0) := fun l => by
    cases l with
    | nil => rfl
    | cons a r => rw [decide_eq_false (by simp; omega)]; rfl
  rw [e, e]
end Go.Proofs.YtkdejffhdhcocaaGreat
