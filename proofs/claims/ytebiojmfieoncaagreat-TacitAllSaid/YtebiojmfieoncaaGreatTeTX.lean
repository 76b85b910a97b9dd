/- The region of a number in a function's body. No condition. · Marks (-7) behind the lists of a twin. Plain laws. No condition. · abacuslaw14.Twin: a term in memory of its own, with marks (-7) behind its lists. Condition: sizes within reach. · abacuslaw14.Twin, region 2: a list with two marks in new memory. Condition: sizes within reach. · abacuslaw14.Twin, region 3: a list with two marks in new memory. Condition: sizes within reach. · abacuslaw14.Twin: a term in memory of its own, with marks (-7) behind its lists. Condition: sizes within reach. · abacuslaw14.Kept: a twin is still like its term, the marks too. Condition: sizes within reach. -/
import Derived.Test.YtebiojmfieoncaaGreatTeSt
import Derived.Test.YtebiojmfieoncaaGreatTeMa
import Derived.Test.YtebiojmfieoncaaGreatTeLy0
import Derived.Deep.CutRange
import Derived.Test.YtebiojmfieoncaaGreatTeML
import Derived.Test.YtebiojmfieoncaaGreatTeD3
namespace Go.Proofs.YtebiojmfieoncaaGreat
open Go.RowKit

/-- the region of a number in code -/
def regAt (n : Nat) : Code → Option Code
  | .region i ops d => if i = n then some (.region i ops d) else none
  | .seq a b => match regAt n a with | some c => some c | none => regAt n b
  | .cond _ a b => match regAt n a with | some c => some c | none => regAt n b
  | .block _ b => regAt n b
  | .loop b => regAt n b
  | .scope b => regAt n b
  | _ => none
/-- the region of a number in a function's body -/
def regOf (f : Func) (n : Nat) : Code := (f.body.bind (regAt n)).getD .skip
end Go.Proofs.YtebiojmfieoncaaGreat

namespace Go.Proofs.YtebiojmfieoncaaGreat
open Go.RowKit

/-- two terms without kids behind a row -/
def SevK (w : World) (r : Rw) (n : Nat) : Prop := ∃ g, r.p = some ⟨g, 0, none⟩ ∧ n + 2 ≤ r.c ∧ g < w.heap.size ∧ w.cell? ⟨g, n * 6, none⟩ = some (.int .i64 (-7)) ∧ w.cell? ⟨g, n * 6 + 5, none⟩ = some (.slice none 0 0) ∧ w.cell? ⟨g, (n + 1) * 6, none⟩ = some (.int .i64 (-7)) ∧ w.cell? ⟨g, (n + 1) * 6 + 5, none⟩ = some (.slice none 0 0)
theorem SevK.on {w w' : World} {r : Rw} {n : Nat} (h : SevK w r n) (hb : Below w.heap.size w w') : SevK w' r n := by
  obtain ⟨g, e, h1, h2, h3, h4, h5, h6⟩ := h
  have key : ∀ j v, w.cell? ⟨g, j, none⟩ = some v → w'.cell? ⟨g, j, none⟩ = some v := fun j v hv => (hb.cell (p := ⟨g, j, none⟩) h2).trans hv
  exact ⟨g, e, h1, Nat.lt_of_lt_of_le h2 hb.size, key _ _ h3, key _ _ h4, key _ _ h5, key _ _ h6⟩
mutual
/-- the marks behind all lists of a term -/
def SevT (w : World) : Tm → Rt → Prop
  | .mk _ _ _ sh at_ ks, .mk s a k rs => MarkN w s sh.length (-7) (-7) ∧ MarkN w a at_.length (-7) (-7) ∧ SevK w k ks.length ∧ SevL w ks rs
def SevL (w : World) : List Tm → List Rt → Prop
  | t :: ts, r :: rs => SevT w t r ∧ SevL w ts rs
  | _, _ => True
end
mutual
theorem SevT.on {w w' : World} (hb : Below w.heap.size w w') : ∀ {t : Tm} {r : Rt}, SevT w t r → SevT w' t r
  | .mk _ _ _ _ _ ks, .mk _ _ _ rs, h => by
    simp only [SevT] at h ⊢
    exact ⟨h.1.on hb, h.2.1.on hb, h.2.2.1.on hb, SevL.on hb h.2.2.2⟩
theorem SevL.on {w w' : World} (hb : Below w.heap.size w w') : ∀ {ts : List Tm} {rs : List Rt}, SevL w ts rs → SevL w' ts rs
  | [], _, _ => by simp only [SevL]
  | _ :: _, [], _ => by simp only [SevL]
  | t :: ts, r :: rs, h => by
    simp only [SevL] at h ⊢
    exact ⟨SevT.on hb h.1, SevL.on hb h.2⟩
end
theorem SevT.parts {w : World} {t : Tm} {r : Rt} (h : SevT w t r) : MarkN w r.s t.sh.length (-7) (-7) ∧ MarkN w r.a t.at_.length (-7) (-7) ∧ SevK w r.k t.kids.length ∧ SevL w t.kids r.kids := by
  cases t; cases r
  simp only [SevT] at h
  exact h
theorem SevL.get {w : World} : ∀ {ts : List Tm} {rs : List Rt} {i : Nat} {t : Tm} {r : Rt}, SevL w ts rs → ts[i]? = some t → rs[i]? = some r → SevT w t r
  | [], _, _, _, _, _, h, _ => by simp at h
  | _ :: _, [], _, _, _, _, _, h => by simp at h
  | t' :: ts, r' :: rs, 0, t, r, h, h1, h2 => by
    simp only [SevL] at h
    simp only [List.getElem?_cons_zero, Option.some.injEq] at h1 h2
    subst h1 h2
    exact h.1
  | t' :: ts, r' :: rs, i + 1, t, r, h, h1, h2 => by
    simp only [SevL] at h
    exact SevL.get h.2 (by simpa using h1) (by simpa using h2)
theorem SevK.kept {w w' : World} {r : Rw} {n : Nat} (h : SevK w r n) (hk : ∀ g, r.blk = some g → w'.heap[g]? = w.heap[g]?) (hs : w.heap.size ≤ w'.heap.size) : SevK w' r n := by
  obtain ⟨g, e, h1, h2, h3, h4, h5, h6⟩ := h
  have hb : r.blk = some g := by unfold Rw.blk; rw [if_neg (by omega), e]; rfl
  have hc : ∀ j v, w.cell? ⟨g, j, none⟩ = some v → w'.cell? ⟨g, j, none⟩ = some v := fun j v hv => (World.cell?_of_block (hk g hb)).trans hv
  exact ⟨g, e, h1, Nat.lt_of_lt_of_le h2 hs, hc _ _ h3, hc _ _ h4, hc _ _ h5, hc _ _ h6⟩
mutual
theorem SevT.kept {w w' : World} (hs : w.heap.size ≤ w'.heap.size) : ∀ {t : Tm} {r : Rt}, SevT w t r → (∀ g ∈ blksT r, w'.heap[g]? = w.heap[g]?) → SevT w' t r
  | .mk _ _ _ _ _ ks, .mk s a k rs, h, hk => by
    simp only [SevT] at h ⊢
    simp only [blksT, List.mem_append, Option.mem_toList] at hk
    exact ⟨h.1.kept (fun g hg => hk g (.inl (.inl (.inl hg)))) hs, h.2.1.kept (fun g hg => hk g (.inl (.inl (.inr hg)))) hs, h.2.2.1.kept (fun g hg => hk g (.inl (.inr hg))) hs, SevL.kept hs h.2.2.2 fun g hg => hk g (.inr hg)⟩
theorem SevL.kept {w w' : World} (hs : w.heap.size ≤ w'.heap.size) : ∀ {ts : List Tm} {rs : List Rt}, SevL w ts rs → (∀ g ∈ blksL rs, w'.heap[g]? = w.heap[g]?) → SevL w' ts rs
  | [], _, _, _ => by simp only [SevL]
  | _ :: _, [], _, _ => by simp only [SevL]
  | t :: ts, r :: rs, h, hk => by
    simp only [SevL] at h ⊢
    simp only [blksL, List.mem_append] at hk
    exact ⟨SevT.kept hs h.1 fun g hg => hk g (.inl hg), SevL.kept hs h.2 fun g hg => hk g (.inr hg)⟩
end
theorem SevL.more {w : World} {t : Tm} {r : Rt} (hm : SevT w t r) : ∀ {ts : List Tm} {rs : List Rt}, ts.length = rs.length → SevL w ts rs → SevL w (ts ++ [t]) (rs ++ [r])
  | [], [], _, _ => by simp only [List.nil_append, SevL, and_true]; exact hm
  | [], _ :: _, e, _ => by simp at e
  | _ :: _, [], e, _ => by simp at e
  | a :: ts, b :: rs, e, h => by
    simp only [List.cons_append, SevL] at h ⊢
    exact ⟨h.1, SevL.more hm (by simpa using e) h.2⟩
end Go.Proofs.YtebiojmfieoncaaGreat

namespace Go.Proofs.YtebiojmfieoncaaGreat
open Go.RowKit

/-- the two terms behind a twin's kids -/
def sevensK : List Value := [.int .i64 (-7), .string ⟨#[]⟩, .int .i64 0, .slice none 0 0, .slice none 0 0, .slice none 0 0, .int .i64 (-7), .string ⟨#[]⟩, .int .i64 0, .slice none 0 0, .slice none 0 0, .slice none 0 0]
theorem laid7_of {w : World} {B gs gl gk : Nat} {t : Tm} {rl : List Rt} {ns na n : Nat} (e1 : ns = t.sh.length) (e2 : na = t.at_.length) (e3 : n = t.kids.length)
    (h1 : w.ownsRow B TIn 1 (.slice (some ⟨gs, 0, none⟩) (ns + 2) (ns + 2)) (ns + 2) (intVals t.sh ++ intVals [-7, -7])) (h2 : w.ownsRow B TI6 1 (.slice (some ⟨gl, 0, none⟩) (na + 2) (na + 2)) (na + 2) (intVals t.at_ ++ intVals [-7, -7]))
    (h3 : w.ownsRow gk TTm 6 (.slice (some ⟨gk, 0, none⟩) (n + 2) (n + 2)) (n + 2) (rtCellsL t.kids rl ++ sevensK)) (hlen : (rtCellsL t.kids rl).length = n * 6) (ho : OwnL w gk t.kids rl) (hm : SevL w t.kids rl) (hnd : (blksL rl).Nodup) (hap : gk ∉ blksL rl) (hl1 : gs < gl) (hl2 : gl < gk) (hB : B ≤ gk) :
    OwnT w B t (.mk ⟨some ⟨gs, 0, none⟩, ns, ns + 2⟩ ⟨some ⟨gl, 0, none⟩, na, na + 2⟩ ⟨some ⟨gk, 0, none⟩, n, n + 2⟩ rl) ∧ SevT w t (.mk ⟨some ⟨gs, 0, none⟩, ns, ns + 2⟩ ⟨some ⟨gl, 0, none⟩, na, na + 2⟩ ⟨some ⟨gk, 0, none⟩, n, n + 2⟩ rl) ∧ (blksT (.mk ⟨some ⟨gs, 0, none⟩, ns, ns + 2⟩ ⟨some ⟨gl, 0, none⟩, na, na + 2⟩ ⟨some ⟨gk, 0, none⟩, n, n + 2⟩ rl)).Nodup := by
  obtain ⟨a1, a2, a3, a4, a5⟩ := row_marked h1 (by rw [e1]; simp [intVals]) (by omega)
  obtain ⟨b1, b2, b3, b4, b5⟩ := row_marked h2 (by rw [e2]; simp [intVals]) (by omega)
  obtain ⟨c1, c2, c3, c4, c5⟩ := row_marked h3 hlen (by omega)
  have k1 := a5 0 _ rfl
  have k2 := a5 1 _ rfl
  have k3 := b5 0 _ rfl
  have k4 := b5 1 _ rfl
  have k5 := c5 0 _ rfl
  have k6 := c5 5 _ rfl
  have k7 := c5 6 _ rfl
  have k8 := c5 11 _ rfl
  rw [Nat.mul_one] at k1 k2 k3 k4
  refine ⟨OwnT.mk_ a1 b1 (c1.mono hB) ho.len (OwnL.mono hB ho), ?_, ?_⟩
  · cases t with
    | mk kind text nn sh at_ kids =>
      simp only [Tm.sh, Tm.at_, Tm.kids] at *
      simp only [SevT]
      refine ⟨⟨gs, rfl, ?_, a3, ?_, ?_⟩, ⟨gl, rfl, ?_, b3, ?_, ?_⟩, ⟨gk, rfl, ?_, c3, ?_, ?_, ?_, ?_⟩, hm⟩
      · show sh.length + 2 ≤ ns + 2; omega
      · rw [← e1]; exact k1
      · rw [← e1]; exact k2
      · show at_.length + 2 ≤ na + 2; omega
      · rw [← e2]; exact k3
      · rw [← e2]; exact k4
      · show kids.length + 2 ≤ n + 2; omega
      · rw [← e3]; exact k5
      · rw [← e3]; exact k6
      · rw [← e3, Nat.add_mul, Nat.one_mul]; exact k7
      · rw [← e3, Nat.add_mul, Nat.one_mul]; exact k8
  · have l1 : ∀ g ∈ blksL rl, gk ≤ g := fun g hg => (ho.blk g hg).1
    have u1 : (⟨some ⟨gs, 0, none⟩, ns, ns + 2⟩ : Rw).blk = some gs := by unfold Rw.blk; rw [if_neg (by show ¬ ns + 2 = 0; omega)]; rfl
    have u2 : (⟨some ⟨gl, 0, none⟩, na, na + 2⟩ : Rw).blk = some gl := by unfold Rw.blk; rw [if_neg (by show ¬ na + 2 = 0; omega)]; rfl
    have u3 : (⟨some ⟨gk, 0, none⟩, n, n + 2⟩ : Rw).blk = some gk := by unfold Rw.blk; rw [if_neg (by show ¬ n + 2 = 0; omega)]; rfl
    simp only [blksT, u1, u2, u3, Option.toList_some, List.cons_append, List.nil_append, List.nodup_cons, List.mem_cons, not_or]
    refine ⟨⟨by omega, by omega, fun h => ?_⟩, ⟨by omega, fun h => ?_⟩, hap, hnd⟩
    · have := l1 _ h; omega
    · have := l1 _ h; omega
theorem take_set_snoc : ∀ (l : List Value) (m : Nat) (v : Value), m < l.length → (l.set m v).take (m + 1) = l.take m ++ [v]
  | [], _, _, h => absurd h (Nat.not_lt_zero _)
  | _ :: _, 0, _, _ => by simp
  | a :: r, m + 1, v, h => by
    simp only [List.set_cons_succ, List.take_succ_cons, List.cons_append]
    rw [take_set_snoc r m v (by simpa using h)]
/-- the first m cells of a block of c -/
def CellRow (w : World) (g c m : Nat) (vs : List Value) : Prop := ∃ cur, w.heap[g]? = some (.cells cur TTm (0, 0)) ∧ cur.size = c ∧ cur.toList.take m = vs
section
variable {w w' : World} {g c m : Nat} {vs : List Value}
theorem CellRow.put (h : CellRow w g c m vs) (hm : m < c) (v : Value) : CellRow (w.setCell ⟨g, m, none⟩ v) g c (m + 1) (vs ++ [v]) := by
  obtain ⟨cur, h1, h2, h3⟩ := h
  refine ⟨cur.setIfInBounds m v, Go.heap_setCell_same _ _ m _ _ v h1, by simp [h2], ?_⟩
  rw [← h3, Array.toList_setIfInBounds]
  exact take_set_snoc _ _ _ (by simpa [h2] using hm)
theorem CellRow.kept (h : CellRow w g c m vs) (hk : w'.heap[g]? = w.heap[g]?) : CellRow w' g c m vs := by
  obtain ⟨cur, h1, h2, h3⟩ := h
  exact ⟨cur, hk.trans h1, h2, h3⟩
theorem CellRow.on (h : CellRow w g c m vs) (hb : Below w.heap.size w w') : CellRow w' g c m vs := by
  have h' := h
  obtain ⟨cur, h1, _⟩ := h'
  exact h.kept (hb.block g (heap_lt h1))
theorem CellRow.lt (h : CellRow w g c m vs) : g < w.heap.size := by
  obtain ⟨cur, h1, _⟩ := h
  exact heap_lt h1
theorem CellRow.six (h : CellRow w g c m vs) (hm : m + 6 ≤ c) (v0 v1 v2 v3 v4 v5 : Value) : CellRow ((((((w.setCell ⟨g, m, none⟩ v0).setCell ⟨g, m + 1, none⟩ v1).setCell ⟨g, m + 2, none⟩ v2).setCell ⟨g, m + 3, none⟩ v3).setCell ⟨g, m + 4, none⟩ v4).setCell ⟨g, m + 5, none⟩ v5) g c (m + 6) (vs ++ [v0, v1, v2, v3, v4, v5]) := by
  have a1 : CellRow _ g c (m + 1) (vs ++ [v0]) := h.put (by omega) v0
  have a2 : CellRow _ g c (m + 2) (vs ++ [v0] ++ [v1]) := a1.put (by omega) v1
  have a3 : CellRow _ g c (m + 3) (vs ++ [v0] ++ [v1] ++ [v2]) := a2.put (by omega) v2
  have a4 : CellRow _ g c (m + 4) (vs ++ [v0] ++ [v1] ++ [v2] ++ [v3]) := a3.put (by omega) v3
  have a5 : CellRow _ g c (m + 5) (vs ++ [v0] ++ [v1] ++ [v2] ++ [v3] ++ [v4]) := a4.put (by omega) v4
  have a6 : CellRow _ g c (m + 6) (vs ++ [v0] ++ [v1] ++ [v2] ++ [v3] ++ [v4] ++ [v5]) := a5.put (by omega) v5
  have e : vs ++ [v0, v1, v2, v3, v4, v5] = vs ++ [v0] ++ [v1] ++ [v2] ++ [v3] ++ [v4] ++ [v5] := by simp only [List.append_assoc, List.cons_append, List.nil_append]
  rw [e]
  exact a6
theorem CellRow.has (h : CellRow w g c m vs) (j : Nat) (hj : j < c) : ∃ u, w.cell? ⟨g, j, none⟩ = some u := by
  obtain ⟨cur, h1, h2, _⟩ := h
  exact ⟨_, cell_at h1 (Array.getElem?_eq_getElem (by omega))⟩
theorem CellRow.fz (h : CellRow w g c m vs) (j : Nat) : w.frozen? ⟨g, j, none⟩ = false := by
  obtain ⟨cur, h1, _⟩ := h
  exact unfrozen h1 j
theorem CellRow.owns {n : Nat} (h : CellRow w g (n * 6) (n * 6) vs) (hl : vs.length = n * 6) (hn : n ≤ maxLen) {B : Nat} (hB : B ≤ g) : w.ownsRow B TTm 6 (.slice (some ⟨g, 0, none⟩) n n) n vs := by
  obtain ⟨cur, h1, h2, h3⟩ := h
  exact ⟨hl, .inr ⟨g, n, cur, rfl, hB, h1, Nat.le_refl _, hn, h2, h3⟩⟩
end
theorem set_grown {w W : World} {g : Nat} (h : w.grownBy W (some g)) (m : Nat) (v : Value) : w.grownBy (W.setCell ⟨g, m, none⟩ v) (some g) :=
  ⟨h.os, h.tape, h.output, by simpa [World.setCell] using h.size, fun k hk hne => (Below.heap_setCell _ _ _ _ (fun e => hne (by rw [e]))).trans (h.block k hk hne)⟩
theorem six_grown (w : World) (g m : Nat) (v0 v1 v2 v3 v4 v5 : Value) : w.grownBy ((((((w.setCell ⟨g, m, none⟩ v0).setCell ⟨g, m + 1, none⟩ v1).setCell ⟨g, m + 2, none⟩ v2).setCell ⟨g, m + 3, none⟩ v3).setCell ⟨g, m + 4, none⟩ v4).setCell ⟨g, m + 5, none⟩ v5) (some g) :=
  set_grown (set_grown (set_grown (set_grown (set_grown (set_grown ⟨rfl, rfl, rfl, Nat.le_refl _, fun _ _ _ => rfl⟩ _ _) _ _) _ _) _ _) _ _) _ _
theorem row_set {W : World} {B z g j n c m : Nat} {t : TypeId} {vs : List Value} (h : W.ownsRow B t z (.slice (some ⟨g, 0, none⟩) n c) m vs) {k : Nat} (hk : k < B) (x : Value) : (W.setCell ⟨k, j, none⟩ x).ownsRow B t z (.slice (some ⟨g, 0, none⟩) n c) m vs :=
  row_keep h fun g' hg' => Below.heap_setCell _ _ _ _ (by have := (h.lt g' hg').1; show g' ≠ k; omega)
theorem row_six {W : World} {B z g n c m gk o : Nat} {t : TypeId} {vs : List Value} (h : W.ownsRow B t z (.slice (some ⟨g, 0, none⟩) n c) m vs) {v0 v1 v2 v3 v4 v5 : Value} (hne : g ≠ gk) : ((((((W.setCell ⟨gk, o, none⟩ v0).setCell ⟨gk, o + 1, none⟩ v1).setCell ⟨gk, o + 2, none⟩ v2).setCell ⟨gk, o + 3, none⟩ v3).setCell ⟨gk, o + 4, none⟩ v4).setCell ⟨gk, o + 5, none⟩ v5).ownsRow B t z (.slice (some ⟨g, 0, none⟩) n c) m vs :=
  h.kept (six_grown W gk o v0 v1 v2 v3 v4 v5) (.inr (by show some g ≠ some gk; simpa using hne))
/-- the three blocks of Twin: the term, the result, the twin -/
structure TwU (w W : World) (t : Tm) (A : Option Addr) (ns ca : Nat) (B : Option Addr) (na cb : Nat) (K : Option Addr) (n ck : Nat) (s a k : Value) : Prop where
  tm : W.heap[w.heap.size]? = some (.cells #[.int .i64 t.kind, .string t.text, .int .i64 t.n, .slice A ns ca, .slice B na cb, .slice K n ck] TTm (0, 0))
  rs : W.heap[w.heap.size + 1]? = some (.cells #[.int .i64 0, .string ⟨#[]⟩, .int .i64 0, .slice none 0 0, .slice none 0 0, .slice none 0 0] TTm (0, 0))
  tw : W.heap[w.heap.size + 1 + 1]? = some (.cells #[.int .i64 t.kind, .string t.text, .int .i64 t.n, s, a, k] TTm (0, 0))
  be : Below w.heap.size w W
section
variable {w W W' : World} {t : Tm} {A : Option Addr} {ns ca : Nat} {B : Option Addr} {na cb : Nat} {K : Option Addr} {n ck : Nat} {s a k : Value}
theorem TwU.on (h : TwU w W t A ns ca B na cb K n ck s a k) (hb : Below W.heap.size W W') : TwU w W' t A ns ca B na cb K n ck s a k :=
  ⟨(hb.block _ (heap_lt h.tm)).trans h.tm, (hb.block _ (heap_lt h.rs)).trans h.rs, (hb.block _ (heap_lt h.tw)).trans h.tw, h.be.then_ hb⟩
theorem TwU.grown (h : TwU w W t A ns ca B na cb K n ck s a k) {g : Nat} (hg : W.grownBy W' (some g)) (hlt : w.heap.size + 1 + 1 < g) : TwU w W' t A ns ca B na cb K n ck s a k :=
  ⟨(hg.block _ (heap_lt h.tm) (by simp; omega)).trans h.tm, (hg.block _ (heap_lt h.rs) (by simp; omega)).trans h.rs, (hg.block _ (heap_lt h.tw) (by simp; omega)).trans h.tw, h.be.grown hg h.be.size (fun k hk => by injection hk with hk; omega)⟩
theorem TwU.cells (h : TwU w W t A ns ca B na cb K n ck s a k) : (W.cell? ⟨w.heap.size, 3, none⟩ = some (.slice A ns ca) ∧ W.cell? ⟨w.heap.size, 4, none⟩ = some (.slice B na cb)) ∧ (W.cell? ⟨w.heap.size + 1 + 1, 3, none⟩ = some s ∧ W.cell? ⟨w.heap.size + 1 + 1, 4, none⟩ = some a) ∧ (∀ j, W.frozen? ⟨w.heap.size + 1 + 1, j, none⟩ = false) ∧ w.heap.size < W.heap.size ∧ w.heap.size + 1 + 1 < W.heap.size :=
  ⟨⟨cell_at h.tm rfl, cell_at h.tm rfl⟩, ⟨cell_at h.tw rfl, cell_at h.tw rfl⟩, unfrozen h.tw, heap_lt h.tm, heap_lt h.tw⟩
theorem TwU.kids (h : TwU w W t A ns ca B na cb K n ck s a k) : W.cell? ⟨w.heap.size, 5, none⟩ = some (.slice K n ck) ∧ W.cell? ⟨w.heap.size + 1 + 1, 5, none⟩ = some k ∧ (∀ j, W.frozen? ⟨w.heap.size + 1 + 1, j, none⟩ = false) ∧ w.heap.size < W.heap.size ∧ w.heap.size + 1 + 1 < W.heap.size :=
  ⟨cell_at h.tm rfl, cell_at h.tw rfl, unfrozen h.tw, heap_lt h.tm, heap_lt h.tw⟩
theorem TwU.set3 (h : TwU w W t A ns ca B na cb K n ck s a k) (x : Value) : TwU w (W.setCell ⟨w.heap.size + 1 + 1, 3, none⟩ x) t A ns ca B na cb K n ck x a k :=
  ⟨(Below.heap_setCell _ _ _ _ (by show w.heap.size ≠ w.heap.size + 1 + 1; omega)).trans h.tm, (Below.heap_setCell _ _ _ _ (by show w.heap.size + 1 ≠ w.heap.size + 1 + 1; omega)).trans h.rs, Go.heap_setCell_same _ _ 3 _ _ x h.tw, h.be.setCell (by show w.heap.size ≤ w.heap.size + 1 + 1; omega) _⟩
theorem TwU.set4 (h : TwU w W t A ns ca B na cb K n ck s a k) (x : Value) : TwU w (W.setCell ⟨w.heap.size + 1 + 1, 4, none⟩ x) t A ns ca B na cb K n ck s x k :=
  ⟨(Below.heap_setCell _ _ _ _ (by show w.heap.size ≠ w.heap.size + 1 + 1; omega)).trans h.tm, (Below.heap_setCell _ _ _ _ (by show w.heap.size + 1 ≠ w.heap.size + 1 + 1; omega)).trans h.rs, Go.heap_setCell_same _ _ 4 _ _ x h.tw, h.be.setCell (by show w.heap.size ≤ w.heap.size + 1 + 1; omega) _⟩
theorem TwU.set5 (h : TwU w W t A ns ca B na cb K n ck s a k) (x : Value) : TwU w (W.setCell ⟨w.heap.size + 1 + 1, 5, none⟩ x) t A ns ca B na cb K n ck s a x :=
  ⟨(Below.heap_setCell _ _ _ _ (by show w.heap.size ≠ w.heap.size + 1 + 1; omega)).trans h.tm, (Below.heap_setCell _ _ _ _ (by show w.heap.size + 1 ≠ w.heap.size + 1 + 1; omega)).trans h.rs, Go.heap_setCell_same _ _ 5 _ _ x h.tw, h.be.setCell (by show w.heap.size ≤ w.heap.size + 1 + 1; omega) _⟩
end
/-- the twin's kids so far -/
structure TwL (gk : Nat) (W : World) (ks : List Tm) (n i : Nat) (rl : List Rt) : Prop where
  row : CellRow W gk ((n + 2) * 6) (i * 6) (rtCellsL (ks.take i) rl)
  own : OwnL W gk (ks.take i) rl
  sev : SevL W (ks.take i) rl
  nd : (blksL rl).Nodup
  ap : gk ∉ blksL rl
section
variable {gk n i : Nat} {W : World} {ks : List Tm} {rl : List Rt}
theorem TwL.on {W' : World} (h : TwL gk W ks n i rl) (hb : Below W.heap.size W W') : TwL gk W' ks n i rl := ⟨h.row.on hb, h.own.on hb, h.sev.on hb, h.nd, h.ap⟩
theorem TwL.more {k : Tm} {r : Rt} {W1 W2 : World} (h : TwL gk W ks n i rl) (hk : ks[i]? = some k) (hi : i < n) (hb : Below W.heap.size W W1) (ho : OwnT W1 W.heap.size k r) (hs : SevT W1 k r) (hn : (blksT r).Nodup)
    (hb2 : Below W1.heap.size W1 W2) : TwL gk ((((((W2.setCell ⟨gk, i * 6, none⟩ (.int .i64 k.kind)).setCell ⟨gk, i * 6 + 1, none⟩ (.string k.text)).setCell ⟨gk, i * 6 + 2, none⟩ (.int .i64 k.n)).setCell ⟨gk, i * 6 + 3, none⟩ r.s.val).setCell ⟨gk, i * 6 + 4, none⟩ r.a.val).setCell ⟨gk, i * 6 + 5, none⟩ r.k.val) ks n (i + 1) (rl ++ [r]) := by
  have hlt := h.row.lt
  have h12 := hb.then_ hb2
  have hg := six_grown W2 gk (i * 6) (.int .i64 k.kind) (.string k.text) (.int .i64 k.n) r.s.val r.a.val r.k.val
  have htk : ks.take (i + 1) = ks.take i ++ [k] := by rw [List.take_add_one, hk]; rfl
  have hlen := h.own.len
  have hold : ∀ g ∈ blksL rl, gk ≤ g ∧ g < W.heap.size := h.own.blk
  have hnew : ∀ g ∈ blksT r, W.heap.size ≤ g ∧ g < W1.heap.size := ho.blk
  have keepO : ∀ g ∈ blksL rl, _ = W.heap[g]? := fun g hgm => (hg.block g (Nat.lt_of_lt_of_le (hold g hgm).2 h12.size) (fun e => by injection e with e; exact h.ap (e ▸ hgm))).trans (h12.block g (hold g hgm).2)
  have keepN : ∀ g ∈ blksT r, _ = W1.heap[g]? := fun g hgm => (hg.block g (Nat.lt_of_lt_of_le (hnew g hgm).2 hb2.size) (fun e => by injection e with e; have := (hnew g hgm).1; omega)).trans (hb2.block g (hnew g hgm).2)
  refine ⟨?_, ?_, ?_, ?_, ?_⟩
  · rw [htk, rtCellsL_app hlen]
    simp only [rtCellsL, List.append_nil]
    have h9 := (h.row.on h12).six (by omega) (.int .i64 k.kind) (.string k.text) (.int .i64 k.n) r.s.val r.a.val r.k.val
    rw [show (i + 1) * 6 = i * 6 + 6 by omega]
    exact h9
  · rw [htk]
    refine (h.own.kept keepO).app ?_
    simp only [OwnL, and_true]
    exact (ho.kept keepN).mono (by omega)
  · rw [htk]
    refine SevL.more (SevT.kept (Nat.le_trans hb2.size hg.size) hs keepN) hlen (SevL.kept (Nat.le_trans h12.size hg.size) h.sev keepO)
  · rw [blksL_app]
    simp only [blksL, List.append_nil]
    refine List.nodup_append.2 ⟨h.nd, hn, fun a ha b hb' e => ?_⟩
    subst e
    have := (hold a ha).2
    have := (hnew a hb').1
    omega
  · rw [blksL_app]
    simp only [blksL, List.append_nil, List.mem_append, not_or]
    exact ⟨h.ap, fun hm => by have := (hnew gk hm).1; omega⟩
end
/-- what Twin leaves -/
def Twin7 (t : Tm) (w : World) (e : Ending) (w' : World) : Prop := ∃ r : Rt, e = .returned (rtVal t r) ∧ OwnT w' w.heap.size t r ∧ SevT w' t r ∧ (blksT r).Nodup ∧ Below w.heap.size w w'
end Go.Proofs.YtebiojmfieoncaaGreat

namespace Go.Proofs.YtebiojmfieoncaaGreat
open Go.RowKit

set_option maxRecDepth 100000 in
set_option maxHeartbeats 100000000 in
theorem tw_sh {t : Tm} {A : Option Addr} {ns ca : Nat} {B : Option Addr} {na cb : Nat} {K : Option Addr} {n ck : Nat} {w X : World} {s a k : Value} (hu : TwU w X t A ns ca B na cb K n ck s a k) (hn : ns = t.sh.length) (hn8 : ns * 8 ≤ 140737488351232) (hsi : IntsAt X A t.sh)
    {K' : Act → World → Prop} {Q' : Exit → Act → World → Prop} {s0 s2 s4 s5 s6 s7 s8 s9 s10 s11 s12 s13 s14 s15 s16 s17 s18 s19 s20 s21 s22 s23 s24 s25 s26 s27 s28 s29 s30 s31 s32 s33 s34 s35 s36 s37 s38 s39 s40 s41 s42 s43 s44 s45 s46 s47 s48 s49 s50 s51 s52 s53 s54 s55 s56 s57 s58 s59 s60 s61 s62 s63 s64 s65 s66 s67 s68 s69 s70 s71 s72 s73 s74 s75 s76 s77 s78 s79 s80 s81 s82 s83 s84 s85 s86 s87 s88 s89 s90 s91 s92 s93 : Value} (hP : ∀ c (a : Act) d v w, Q' (.panic c) (a.put (some d) v) w → Q' (.panic c) a w)
    (hK : ∀ (r8 r9 r10 r11 r12 r13 r14 r15 r16 r17 r18 r19 r20 r21 r22 r23 r24 r25 r26 : Value) (g : Nat) (W W' : World), Below X.heap.size X W → W' = W.setCell ⟨w.heap.size + 1 + 1, 3, none⟩ (.slice (some ⟨g, 0, none⟩) ns (ns + 2)) → W.ownsRow X.heap.size TIn 1 (.slice (some ⟨g, 0, none⟩) (ns + 2) (ns + 2)) (ns + 2) (intVals t.sh ++ intVals [-7, -7]) → K' { tmps := List.toArray (s0 :: (.pointer (some ⟨w.heap.size, 0, none⟩)) :: s2 :: (.pointer (some ⟨w.heap.size + 1 + 1, 0, none⟩)) :: s4 :: s5 :: s6 :: s7 :: r8 :: r9 :: r10 :: r11 :: r12 :: r13 :: r14 :: r15 :: r16 :: r17 :: r18 :: r19 :: r20 :: r21 :: r22 :: r23 :: r24 :: r25 :: r26 :: s27 :: s28 :: s29 :: s30 :: s31 :: s32 :: s33 :: s34 :: s35 :: s36 :: s37 :: s38 :: s39 :: s40 :: s41 :: s42 :: s43 :: s44 :: s45 :: s46 :: s47 :: s48 :: s49 :: s50 :: s51 :: s52 :: s53 :: s54 :: s55 :: s56 :: s57 :: s58 :: s59 :: s60 :: s61 :: s62 :: s63 :: s64 :: s65 :: s66 :: s67 :: s68 :: s69 :: s70 :: s71 :: s72 :: s73 :: s74 :: s75 :: s76 :: s77 :: s78 :: s79 :: s80 :: s81 :: s82 :: s83 :: s84 :: s85 :: s86 :: s87 :: s88 :: s89 :: s90 :: s91 :: s92 :: s93 :: []), defers := [] } W') :
    Code.wp Tryz.prog (regOf Tryz.f25 2) (Exit.then K' Q') { tmps := List.toArray (s0 :: (.pointer (some ⟨w.heap.size, 0, none⟩)) :: s2 :: (.pointer (some ⟨w.heap.size + 1 + 1, 0, none⟩)) :: s4 :: s5 :: s6 :: s7 :: s8 :: s9 :: s10 :: s11 :: s12 :: s13 :: s14 :: s15 :: s16 :: s17 :: s18 :: s19 :: s20 :: s21 :: s22 :: s23 :: s24 :: s25 :: s26 :: s27 :: s28 :: s29 :: s30 :: s31 :: s32 :: s33 :: s34 :: s35 :: s36 :: s37 :: s38 :: s39 :: s40 :: s41 :: s42 :: s43 :: s44 :: s45 :: s46 :: s47 :: s48 :: s49 :: s50 :: s51 :: s52 :: s53 :: s54 :: s55 :: s56 :: s57 :: s58 :: s59 :: s60 :: s61 :: s62 :: s63 :: s64 :: s65 :: s66 :: s67 :: s68 :: s69 :: s70 :: s71 :: s72 :: s73 :: s74 :: s75 :: s76 :: s77 :: s78 :: s79 :: s80 :: s81 :: s82 :: s83 :: s84 :: s85 :: s86 :: s87 :: s88 :: s89 :: s90 :: s91 :: s92 :: s93 :: []), defers := [] } X := by
  obtain ⟨j0, hj, hj0, hj1, hj2⟩ := info_parts info_in
  have HU := Lib.hid hu
  have HN := Lib.hid hn
  have HSI := Lib.hid hsi
  have HP := Lib.hid hP
  have HK0 := Lib.hid hK
  have FCS : Hid (∀ W, Below X.heap.size X W → (W.cell? ⟨w.heap.size, 3, none⟩ = some (.slice A ns ca) ∧ W.cell? ⟨w.heap.size, 4, none⟩ = some (.slice B na cb)) ∧ w.heap.size < W.heap.size ∧ w.heap.size + 1 + 1 < W.heap.size) := Lib.hid fun W h => ⟨(HU.out.on h).cells.1, (HU.out.on h).cells.2.2.2⟩
  clear hu hn hsi hP hK
  have mk1 : ∀ W : World, (Instr.makeSlice 24 (.int .i64 0) (.int .i64 ((ns : Int) + 2))).run Tryz.prog W = .ok (.slice (some ⟨W.heap.size, 0, none⟩) 0 (ns + 2)) (W.alloc (.cells (madeCells (Value.int .i64 0).cells ((ns + 2) * 1)) TIn)) := fun W => by
    have h := run_make (P := Tryz.prog) (w := W) 24 TIn j0 (.int .i64 0) Tryz.underlying24 hj hj0 .i64 .i64 0 ((ns : Int) + 2) (Int.le_refl _) (by omega) (by rw [hj2]; omega) (by omega)
    rw [hj1, show ((ns : Int) + 2).toNat = ns + 2 by omega] at h
    exact h
  have wr1 : IntKind.i64.wrap ((ns : Int) + 2) = (ns : Int) + 2 := by rw [IntKind.wrap_i64]; omega
  have hns0 : (0 : Int) ≤ (ns : Int) := by omega
  have hns2 : (ns : Int) ≤ (ns : Int) + 2 := by omega
  conv => arg 2; whnf
  refine wp_region_held_drew (S := (fun W => (W.cell? ⟨w.heap.size, 3, none⟩ = some (.slice A ns ca) ∧ W.cell? ⟨w.heap.size, 4, none⟩ = some (.slice B na cb)) ∧ w.heap.size < W.heap.size ∧ w.heap.size + 1 + 1 < W.heap.size)) (by kernel_rfl) (FCS.out _ (Below.refl _ _).drew) (fun hHeld => ?_)
  obtain ⟨X0, hX⟩ : ∃ X0, X0 = X.drew := ⟨_, rfl⟩
  have HX0 : Hid (Below X.heap.size X X0) := Lib.hid (by rw [hX]; exact (Below.refl _ _).drew)
  rw [← hX] at hHeld ⊢
  clear hX
  refine take_still (i := 0) (d := some 8) (v := (.pointer (some ⟨w.heap.size, 3, none⟩))) rfl rfl (by kernel_rfl) (by kernel_rfl) (by kernel_rfl) (fun _ _ _ h => HP.out _ _ _ _ _ h) (Or.inl ⟨by rfl, ?_⟩) hHeld ?_
  · intro W hSw; obtain ⟨⟨q3, q4⟩, lt1, lt2⟩ := hSw; go_simp; try with_reducible rfl
  try simp only [Act.put, List.setIfInBounds_toArray, List.set_cons_zero, List.set_cons_succ]
  refine take_still (i := 1) (d := some 9) (v := (.pointer (some ⟨w.heap.size, 3, none⟩))) rfl rfl (by kernel_rfl) (by kernel_rfl) (by kernel_rfl) (fun _ _ _ h => HP.out _ _ _ _ _ h) (Or.inl ⟨by rfl, ?_⟩) hHeld ?_
  · intro W hSw; obtain ⟨⟨q3, q4⟩, lt1, lt2⟩ := hSw; go_simp; try with_reducible rfl
  try simp only [Act.put, List.setIfInBounds_toArray, List.set_cons_zero, List.set_cons_succ]
  refine take_still (i := 2) (d := some 10) (v := (.slice A ns ca)) rfl rfl (by kernel_rfl) (by kernel_rfl) (by kernel_rfl) (fun _ _ _ h => HP.out _ _ _ _ _ h) (Or.inl ⟨by rfl, ?_⟩) hHeld ?_
  · intro W hSw; obtain ⟨⟨q3, q4⟩, lt1, lt2⟩ := hSw; go_simp; try with_reducible rfl
  try simp only [Act.put, List.setIfInBounds_toArray, List.set_cons_zero, List.set_cons_succ]
  refine take_still (i := 3) (d := some 11) (v := (.int .i64 (ns : Int))) rfl rfl (by kernel_rfl) (by kernel_rfl) (by kernel_rfl) (fun _ _ _ h => HP.out _ _ _ _ _ h) (Or.inl ⟨by rfl, ?_⟩) hHeld ?_
  · intro W hSw; obtain ⟨⟨q3, q4⟩, lt1, lt2⟩ := hSw; go_simp; try with_reducible rfl
  try simp only [Act.put, List.setIfInBounds_toArray, List.set_cons_zero, List.set_cons_succ]
  refine take_still (i := 4) (d := some 12) (v := (.int .i64 ((ns : Int) + 2))) rfl rfl (by kernel_rfl) (by kernel_rfl) (by kernel_rfl) (fun _ _ _ h => HP.out _ _ _ _ _ h) (Or.inl ⟨by rfl, ?_⟩) hHeld ?_
  · intro W hSw; obtain ⟨⟨q3, q4⟩, lt1, lt2⟩ := hSw; go_simp; try with_reducible rfl
  try simp only [Act.put, List.setIfInBounds_toArray, List.set_cons_zero, List.set_cons_succ]
  refine take_still (i := 6) (d := some 14) (v := (.pointer (some ⟨w.heap.size, 3, none⟩))) rfl rfl (by kernel_rfl) (by kernel_rfl) (by kernel_rfl) (fun _ _ _ h => HP.out _ _ _ _ _ h) (Or.inl ⟨by rfl, ?_⟩) hHeld ?_
  · intro W hSw; obtain ⟨⟨q3, q4⟩, lt1, lt2⟩ := hSw; go_simp; try with_reducible rfl
  try simp only [Act.put, List.setIfInBounds_toArray, List.set_cons_zero, List.set_cons_succ]
  refine take_still (i := 7) (d := some 15) (v := (.pointer (some ⟨w.heap.size, 3, none⟩))) rfl rfl (by kernel_rfl) (by kernel_rfl) (by kernel_rfl) (fun _ _ _ h => HP.out _ _ _ _ _ h) (Or.inl ⟨by rfl, ?_⟩) hHeld ?_
  · intro W hSw; obtain ⟨⟨q3, q4⟩, lt1, lt2⟩ := hSw; go_simp; try with_reducible rfl
  try simp only [Act.put, List.setIfInBounds_toArray, List.set_cons_zero, List.set_cons_succ]
  refine take_still (i := 8) (d := some 16) (v := (.slice A ns ca)) rfl rfl (by kernel_rfl) (by kernel_rfl) (by kernel_rfl) (fun _ _ _ h => HP.out _ _ _ _ _ h) (Or.inl ⟨by rfl, ?_⟩) hHeld ?_
  · intro W hSw; obtain ⟨⟨q3, q4⟩, lt1, lt2⟩ := hSw; go_simp; try with_reducible rfl
  try simp only [Act.put, List.setIfInBounds_toArray, List.set_cons_zero, List.set_cons_succ]
  refine take_still (i := 12) (d := some 20) (v := (.pointer (some ⟨w.heap.size, 3, none⟩))) rfl rfl (by kernel_rfl) (by kernel_rfl) (by kernel_rfl) (fun _ _ _ h => HP.out _ _ _ _ _ h) (Or.inl ⟨by rfl, ?_⟩) hHeld ?_
  · intro W hSw; obtain ⟨⟨q3, q4⟩, lt1, lt2⟩ := hSw; go_simp; try with_reducible rfl
  try simp only [Act.put, List.setIfInBounds_toArray, List.set_cons_zero, List.set_cons_succ]
  refine take_still (i := 13) (d := some 21) (v := (.pointer (some ⟨w.heap.size, 3, none⟩))) rfl rfl (by kernel_rfl) (by kernel_rfl) (by kernel_rfl) (fun _ _ _ h => HP.out _ _ _ _ _ h) (Or.inl ⟨by rfl, ?_⟩) hHeld ?_
  · intro W hSw; obtain ⟨⟨q3, q4⟩, lt1, lt2⟩ := hSw; go_simp; try with_reducible rfl
  try simp only [Act.put, List.setIfInBounds_toArray, List.set_cons_zero, List.set_cons_succ]
  refine take_still (i := 14) (d := some 22) (v := (.slice A ns ca)) rfl rfl (by kernel_rfl) (by kernel_rfl) (by kernel_rfl) (fun _ _ _ h => HP.out _ _ _ _ _ h) (Or.inl ⟨by rfl, ?_⟩) hHeld ?_
  · intro W hSw; obtain ⟨⟨q3, q4⟩, lt1, lt2⟩ := hSw; go_simp; try with_reducible rfl
  try simp only [Act.put, List.setIfInBounds_toArray, List.set_cons_zero, List.set_cons_succ]
  refine take_still (i := 15) (d := some 23) (v := (.int .i64 (ns : Int))) rfl rfl (by kernel_rfl) (by kernel_rfl) (by kernel_rfl) (fun _ _ _ h => HP.out _ _ _ _ _ h) (Or.inl ⟨by rfl, ?_⟩) hHeld ?_
  · intro W hSw; obtain ⟨⟨q3, q4⟩, lt1, lt2⟩ := hSw; go_simp; try with_reducible rfl
  try simp only [Act.put, List.setIfInBounds_toArray, List.set_cons_zero, List.set_cons_succ]
  refine wpAnyH_ready (rs := [5, 10]) (by kernel_rfl) (by simp) ?_
  refine AllReadyH.cons rfl (fun K hK => ?_) ?_
  · go_simp
    obtain ⟨V1, hV⟩ : ∃ V, V = X0.alloc (.cells (madeCells #[Value.int .i64 0] (ns + 2)) TIn) := ⟨_, rfl⟩
    obtain ⟨g1, hg⟩ : ∃ g, g = X0.heap.size := ⟨_, rfl⟩
    have hb : Below X0.heap.size X0 V1 := by rw [hV]; exact (Below.refl _ _).alloc (Nat.le_refl _) _
    have HV1 := Lib.hid (HX0.out.then_ hb)
    have HR1 : Hid (V1.ownsRow X.heap.size TIn 1 (.slice (some ⟨g1, 0, none⟩) 0 (ns + 2)) 0 []) := Lib.hid (by
      have h := row_new X0 (.int .i64 0) (ns + 2) 1 TIn (B := X.heap.size) HX0.out.size (by unfold maxLen; omega)
      rw [Nat.mul_one] at h
      rw [hV, hg]
      exact h)
    rw [← hV, ← hg]
    clear hV hg hb
    refine hK.out _ _ (FCS.out _ HV1.out) (fun hHeld => ?_)
    clear hK K
    refine wpAnyH_ready (rs := [9, 10]) (by kernel_rfl) (by simp) ?_
    refine AllReadyH.cons rfl (fun K hK => ?_) ?_
    · refine step_append_into _ rfl (.tmp 13) (.tmp 16) 24 rfl X.heap.size TIn j0 Tryz.underlying24 hj hj1 g1 0 (ns + 2) [] (by simp [Act.eval]) HR1.out A ca t.sh ns HN.out (by simp [Act.eval]) (HSI.out.on HV1.out) (by omega) ?_
      intro V2 hown hgr
      rw [Nat.zero_add, List.nil_append] at hown
      have HV2 : Hid (Below X.heap.size X V2) := Lib.hid (HV1.out.grown hgr HV1.out.size (fun k hk => by injection hk with hk; have := (HR1.out.lt g1 rfl).1; omega))
      have HR2 : Hid (V2.ownsRow X.heap.size TIn 1 (.slice (some ⟨g1, 0, none⟩) ns (ns + 2)) ns (intVals t.sh)) := Lib.hid hown
      clear hown hgr
      change K (Act.put _ (some 17) _) _
      refine hK.out _ _ (FCS.out _ HV2.out) (fun hHeld => ?_)
      clear hK K
      try simp only [Act.put, List.setIfInBounds_toArray, List.set_cons_zero, List.set_cons_succ]
      refine wpAnyH_ready (rs := [10]) (by kernel_rfl) (by simp) ?_
      refine AllReadyH.cons rfl (fun K hK => ?_) ?_
      · go_simp
        obtain ⟨V3, hV⟩ : ∃ V, V = V2.alloc (.cells #[.int .i64 (-7), .int .i64 (-7)] TIn) := ⟨_, rfl⟩
        obtain ⟨g3, hg⟩ : ∃ g, g = V2.heap.size := ⟨_, rfl⟩
        have hb : Below V2.heap.size V2 V3 := by rw [hV]; exact (Below.refl _ _).alloc (Nat.le_refl _) _
        have HV3 := Lib.hid (HV2.out.then_ hb)
        have HR3 : Hid (V3.ownsRow X.heap.size TIn 1 (.slice (some ⟨g1, 0, none⟩) ns (ns + 2)) ns (intVals t.sh)) := Lib.hid (by rw [hV]; exact HR2.out.alloc _)
        have HM3 : Hid (IntsAt V3 (some ⟨g3, 0, none⟩) [-7, -7] ∧ g3 < V3.heap.size) := Lib.hid (by rw [hV, hg]; exact ⟨pair_at V2 (-7) (-7) TIn, by simp⟩)
        have HNE : Hid (g3 ≠ g1) := Lib.hid (by have := (HR2.out.lt g1 rfl).2; omega)
        rw [← hV, ← hg]
        clear hV hg hb
        refine hK.out _ _ (FCS.out _ HV3.out) (fun hHeld => ?_)
        clear hK K
        refine wpAnyH_ready (rs := [11]) (by kernel_rfl) (by simp) ?_
        refine AllReadyH.cons rfl (fun K hK => ?_) ?_
        · refine step_append_into _ rfl (.tmp 17) (.tmp 18) 24 rfl X.heap.size TIn j0 Tryz.underlying24 hj hj1 g1 ns (ns + 2) (intVals t.sh) (by simp [Act.eval]) HR3.out (some ⟨g3, 0, none⟩) 2 [-7, -7] 2 rfl (by simp [Act.eval]) HM3.out.1 (by omega) ?_
          intro V4 hown hgr
          have HV4 : Hid (Below X.heap.size X V4) := Lib.hid (HV3.out.grown hgr HV3.out.size (fun k hk => by injection hk with hk; have := (HR3.out.lt g1 rfl).1; omega))
          have HR4 : Hid (V4.ownsRow X.heap.size TIn 1 (.slice (some ⟨g1, 0, none⟩) (ns + 2) (ns + 2)) (ns + 2) (intVals t.sh ++ intVals [-7, -7])) := Lib.hid hown
          clear hown hgr
          change K (Act.put _ (some 19) _) _
          refine hK.out _ _ (FCS.out _ HV4.out) (fun hHeld => ?_)
          clear hK K
          try simp only [Act.put, List.setIfInBounds_toArray, List.set_cons_zero, List.set_cons_succ]
          refine take_still (i := 16) (d := some 24) (v := (.slice (some ⟨g1, 0, none⟩) ns (ns + 2))) rfl rfl (by kernel_rfl) (by kernel_rfl) (by kernel_rfl) (fun _ _ _ h => HP.out _ _ _ _ _ h) (Or.inl ⟨by rfl, ?_⟩) hHeld ?_
          · intro W hSw; obtain ⟨⟨q3, q4⟩, lt1, lt2⟩ := hSw; go_simp; try with_reducible rfl
          try simp only [Act.put, List.setIfInBounds_toArray, List.set_cons_zero, List.set_cons_succ]
          refine take_still (i := 17) (d := some 25) (v := (.pointer (some ⟨w.heap.size + 1 + 1, 3, none⟩))) rfl rfl (by kernel_rfl) (by kernel_rfl) (by kernel_rfl) (fun _ _ _ h => HP.out _ _ _ _ _ h) (Or.inl ⟨by rfl, ?_⟩) hHeld ?_
          · intro W hSw; obtain ⟨⟨q3, q4⟩, lt1, lt2⟩ := hSw; go_simp; try with_reducible rfl
          try simp only [Act.put, List.setIfInBounds_toArray, List.set_cons_zero, List.set_cons_succ]
          refine take_still (i := 18) (d := some 26) (v := (.pointer (some ⟨w.heap.size + 1 + 1, 3, none⟩))) rfl rfl (by kernel_rfl) (by kernel_rfl) (by kernel_rfl) (fun _ _ _ h => HP.out _ _ _ _ _ h) (Or.inl ⟨by rfl, ?_⟩) hHeld ?_
          · intro W hSw; obtain ⟨⟨q3, q4⟩, lt1, lt2⟩ := hSw; go_simp; try with_reducible rfl
          try simp only [Act.put, List.setIfInBounds_toArray, List.set_cons_zero, List.set_cons_succ]
          refine wpAnyH_ready (rs := [19]) (by kernel_rfl) (by simp) ?_
          refine AllReadyH.cons rfl (fun K hK => ?_) AllReadyH.nil
          obtain ⟨_, ⟨u3, u4⟩, fu, lt1, lt2⟩ := (HU.out.on HV4.out).cells
          go_simp
          refine hK.out _ _ (by have h := ((HU.out.on HV4.out).set3 (.slice (some ⟨g1, 0, none⟩) ns (ns + 2))).cells; exact ⟨h.1, h.2.2.2⟩) (fun hHeld => ?_)
          clear hK K u3 u4 fu lt1 lt2
          refine wpAnyH_done (by kernel_rfl) ?_ _
          change K' _ _
          exact HK0.out _ _ _ _ _ _ _ _ _ _ _ _ _ _ _ _ _ _ _ g1 V4 _ HV4.out rfl HR4.out
        exact AllReadyH.nil
      exact AllReadyH.nil
    refine AllReadyH.cons rfl (fun K hK => ?_) ?_
    · go_simp
      obtain ⟨V5, hV⟩ : ∃ V, V = V1.alloc (.cells #[.int .i64 (-7), .int .i64 (-7)] TIn) := ⟨_, rfl⟩
      obtain ⟨g5, hg⟩ : ∃ g, g = V1.heap.size := ⟨_, rfl⟩
      have hb : Below V1.heap.size V1 V5 := by rw [hV]; exact (Below.refl _ _).alloc (Nat.le_refl _) _
      have HV5 := Lib.hid (HV1.out.then_ hb)
      have HR5 : Hid (V5.ownsRow X.heap.size TIn 1 (.slice (some ⟨g1, 0, none⟩) 0 (ns + 2)) 0 []) := Lib.hid (by rw [hV]; exact HR1.out.alloc _)
      have HM5 : Hid (IntsAt V5 (some ⟨g5, 0, none⟩) [-7, -7] ∧ g5 < V5.heap.size) := Lib.hid (by rw [hV, hg]; exact ⟨pair_at V1 (-7) (-7) TIn, by simp⟩)
      have HNE : Hid (g5 ≠ g1) := Lib.hid (by have := (HR1.out.lt g1 rfl).2; omega)
      rw [← hV, ← hg]
      clear hV hg hb
      refine hK.out _ _ (FCS.out _ HV5.out) (fun hHeld => ?_)
      clear hK K
      refine wpAnyH_ready (rs := [9]) (by kernel_rfl) (by simp) ?_
      refine AllReadyH.cons rfl (fun K hK => ?_) ?_
      · refine step_append_into _ rfl (.tmp 13) (.tmp 16) 24 rfl X.heap.size TIn j0 Tryz.underlying24 hj hj1 g1 0 (ns + 2) [] (by simp [Act.eval]) HR5.out A ca t.sh ns HN.out (by simp [Act.eval]) (HSI.out.on HV5.out) (by omega) ?_
        intro V6 hown hgr
        rw [Nat.zero_add, List.nil_append] at hown
        have HV6 : Hid (Below X.heap.size X V6) := Lib.hid (HV5.out.grown hgr HV5.out.size (fun k hk => by injection hk with hk; have := (HR5.out.lt g1 rfl).1; omega))
        have HR6 : Hid (V6.ownsRow X.heap.size TIn 1 (.slice (some ⟨g1, 0, none⟩) ns (ns + 2)) ns (intVals t.sh)) := Lib.hid hown
        have HM6 : Hid (IntsAt V6 (some ⟨g5, 0, none⟩) [-7, -7] ∧ g5 < V6.heap.size) := Lib.hid ⟨ints_grown HM5.out.1 hgr (by have := HNE.out; simpa using this), Nat.lt_of_lt_of_le HM5.out.2 hgr.size⟩
        clear hown hgr
        change K (Act.put _ (some 17) _) _
        refine hK.out _ _ (FCS.out _ HV6.out) (fun hHeld => ?_)
        clear hK K
        try simp only [Act.put, List.setIfInBounds_toArray, List.set_cons_zero, List.set_cons_succ]
        refine wpAnyH_ready (rs := [11]) (by kernel_rfl) (by simp) ?_
        refine AllReadyH.cons rfl (fun K hK => ?_) ?_
        · refine step_append_into _ rfl (.tmp 17) (.tmp 18) 24 rfl X.heap.size TIn j0 Tryz.underlying24 hj hj1 g1 ns (ns + 2) (intVals t.sh) (by simp [Act.eval]) HR6.out (some ⟨g5, 0, none⟩) 2 [-7, -7] 2 rfl (by simp [Act.eval]) HM6.out.1 (by omega) ?_
          intro V7 hown hgr
          have HV7 : Hid (Below X.heap.size X V7) := Lib.hid (HV6.out.grown hgr HV6.out.size (fun k hk => by injection hk with hk; have := (HR6.out.lt g1 rfl).1; omega))
          have HR7 : Hid (V7.ownsRow X.heap.size TIn 1 (.slice (some ⟨g1, 0, none⟩) (ns + 2) (ns + 2)) (ns + 2) (intVals t.sh ++ intVals [-7, -7])) := Lib.hid hown
          clear hown hgr
          change K (Act.put _ (some 19) _) _
          refine hK.out _ _ (FCS.out _ HV7.out) (fun hHeld => ?_)
          clear hK K
          try simp only [Act.put, List.setIfInBounds_toArray, List.set_cons_zero, List.set_cons_succ]
          refine take_still (i := 16) (d := some 24) (v := (.slice (some ⟨g1, 0, none⟩) ns (ns + 2))) rfl rfl (by kernel_rfl) (by kernel_rfl) (by kernel_rfl) (fun _ _ _ h => HP.out _ _ _ _ _ h) (Or.inl ⟨by rfl, ?_⟩) hHeld ?_
          · intro W hSw; obtain ⟨⟨q3, q4⟩, lt1, lt2⟩ := hSw; go_simp; try with_reducible rfl
          try simp only [Act.put, List.setIfInBounds_toArray, List.set_cons_zero, List.set_cons_succ]
          refine take_still (i := 17) (d := some 25) (v := (.pointer (some ⟨w.heap.size + 1 + 1, 3, none⟩))) rfl rfl (by kernel_rfl) (by kernel_rfl) (by kernel_rfl) (fun _ _ _ h => HP.out _ _ _ _ _ h) (Or.inl ⟨by rfl, ?_⟩) hHeld ?_
          · intro W hSw; obtain ⟨⟨q3, q4⟩, lt1, lt2⟩ := hSw; go_simp; try with_reducible rfl
          try simp only [Act.put, List.setIfInBounds_toArray, List.set_cons_zero, List.set_cons_succ]
          refine take_still (i := 18) (d := some 26) (v := (.pointer (some ⟨w.heap.size + 1 + 1, 3, none⟩))) rfl rfl (by kernel_rfl) (by kernel_rfl) (by kernel_rfl) (fun _ _ _ h => HP.out _ _ _ _ _ h) (Or.inl ⟨by rfl, ?_⟩) hHeld ?_
          · intro W hSw; obtain ⟨⟨q3, q4⟩, lt1, lt2⟩ := hSw; go_simp; try with_reducible rfl
          try simp only [Act.put, List.setIfInBounds_toArray, List.set_cons_zero, List.set_cons_succ]
          refine wpAnyH_ready (rs := [19]) (by kernel_rfl) (by simp) ?_
          refine AllReadyH.cons rfl (fun K hK => ?_) AllReadyH.nil
          obtain ⟨_, ⟨u3, u4⟩, fu, lt1, lt2⟩ := (HU.out.on HV7.out).cells
          go_simp
          refine hK.out _ _ (by have h := ((HU.out.on HV7.out).set3 (.slice (some ⟨g1, 0, none⟩) ns (ns + 2))).cells; exact ⟨h.1, h.2.2.2⟩) (fun hHeld => ?_)
          clear hK K u3 u4 fu lt1 lt2
          refine wpAnyH_done (by kernel_rfl) ?_ _
          change K' _ _
          exact HK0.out _ _ _ _ _ _ _ _ _ _ _ _ _ _ _ _ _ _ _ g1 V7 _ HV7.out rfl HR7.out
        exact AllReadyH.nil
      exact AllReadyH.nil
    exact AllReadyH.nil
  refine AllReadyH.cons rfl (fun K hK => ?_) ?_
  · go_simp
    obtain ⟨V8, hV⟩ : ∃ V, V = X0.alloc (.cells #[.int .i64 (-7), .int .i64 (-7)] TIn) := ⟨_, rfl⟩
    obtain ⟨g8, hg⟩ : ∃ g, g = X0.heap.size := ⟨_, rfl⟩
    have hb : Below X0.heap.size X0 V8 := by rw [hV]; exact (Below.refl _ _).alloc (Nat.le_refl _) _
    have HV8 := Lib.hid (HX0.out.then_ hb)
    have HM8 : Hid (IntsAt V8 (some ⟨g8, 0, none⟩) [-7, -7] ∧ g8 < V8.heap.size) := Lib.hid (by rw [hV, hg]; exact ⟨pair_at X0 (-7) (-7) TIn, by simp⟩)
    rw [← hV, ← hg]
    clear hV hg hb
    refine hK.out _ _ (FCS.out _ HV8.out) (fun hHeld => ?_)
    clear hK K
    refine wpAnyH_ready (rs := [5]) (by kernel_rfl) (by simp) ?_
    refine AllReadyH.cons rfl (fun K hK => ?_) ?_
    · go_simp
      obtain ⟨V9, hV⟩ : ∃ V, V = V8.alloc (.cells (madeCells #[Value.int .i64 0] (ns + 2)) TIn) := ⟨_, rfl⟩
      obtain ⟨g9, hg⟩ : ∃ g, g = V8.heap.size := ⟨_, rfl⟩
      have hb : Below V8.heap.size V8 V9 := by rw [hV]; exact (Below.refl _ _).alloc (Nat.le_refl _) _
      have HV9 := Lib.hid (HV8.out.then_ hb)
      have HM9 : Hid (IntsAt V9 (some ⟨g8, 0, none⟩) [-7, -7] ∧ g8 < V9.heap.size) := Lib.hid ⟨HM8.out.1.on hb, Nat.lt_of_lt_of_le HM8.out.2 hb.size⟩
      have HR9 : Hid (V9.ownsRow X.heap.size TIn 1 (.slice (some ⟨g9, 0, none⟩) 0 (ns + 2)) 0 []) := Lib.hid (by
        have h := row_new V8 (.int .i64 0) (ns + 2) 1 TIn (B := X.heap.size) HV8.out.size (by unfold maxLen; omega)
        rw [Nat.mul_one] at h
        rw [hV, hg]
        exact h)
      have HNE : Hid (g8 ≠ g9) := Lib.hid (by have := HM8.out.2; omega)
      rw [← hV, ← hg]
      clear hV hg hb
      refine hK.out _ _ (FCS.out _ HV9.out) (fun hHeld => ?_)
      clear hK K
      refine wpAnyH_ready (rs := [9]) (by kernel_rfl) (by simp) ?_
      refine AllReadyH.cons rfl (fun K hK => ?_) ?_
      · refine step_append_into _ rfl (.tmp 13) (.tmp 16) 24 rfl X.heap.size TIn j0 Tryz.underlying24 hj hj1 g9 0 (ns + 2) [] (by simp [Act.eval]) HR9.out A ca t.sh ns HN.out (by simp [Act.eval]) (HSI.out.on HV9.out) (by omega) ?_
        intro V10 hown hgr
        rw [Nat.zero_add, List.nil_append] at hown
        have HV10 : Hid (Below X.heap.size X V10) := Lib.hid (HV9.out.grown hgr HV9.out.size (fun k hk => by injection hk with hk; have := (HR9.out.lt g9 rfl).1; omega))
        have HR10 : Hid (V10.ownsRow X.heap.size TIn 1 (.slice (some ⟨g9, 0, none⟩) ns (ns + 2)) ns (intVals t.sh)) := Lib.hid hown
        have HM10 : Hid (IntsAt V10 (some ⟨g8, 0, none⟩) [-7, -7] ∧ g8 < V10.heap.size) := Lib.hid ⟨ints_grown HM9.out.1 hgr (by have := HNE.out; simpa using this), Nat.lt_of_lt_of_le HM9.out.2 hgr.size⟩
        clear hown hgr
        change K (Act.put _ (some 17) _) _
        refine hK.out _ _ (FCS.out _ HV10.out) (fun hHeld => ?_)
        clear hK K
        try simp only [Act.put, List.setIfInBounds_toArray, List.set_cons_zero, List.set_cons_succ]
        refine wpAnyH_ready (rs := [11]) (by kernel_rfl) (by simp) ?_
        refine AllReadyH.cons rfl (fun K hK => ?_) ?_
        · refine step_append_into _ rfl (.tmp 17) (.tmp 18) 24 rfl X.heap.size TIn j0 Tryz.underlying24 hj hj1 g9 ns (ns + 2) (intVals t.sh) (by simp [Act.eval]) HR10.out (some ⟨g8, 0, none⟩) 2 [-7, -7] 2 rfl (by simp [Act.eval]) HM10.out.1 (by omega) ?_
          intro V11 hown hgr
          have HV11 : Hid (Below X.heap.size X V11) := Lib.hid (HV10.out.grown hgr HV10.out.size (fun k hk => by injection hk with hk; have := (HR10.out.lt g9 rfl).1; omega))
          have HR11 : Hid (V11.ownsRow X.heap.size TIn 1 (.slice (some ⟨g9, 0, none⟩) (ns + 2) (ns + 2)) (ns + 2) (intVals t.sh ++ intVals [-7, -7])) := Lib.hid hown
          clear hown hgr
          change K (Act.put _ (some 19) _) _
          refine hK.out _ _ (FCS.out _ HV11.out) (fun hHeld => ?_)
          clear hK K
          try simp only [Act.put, List.setIfInBounds_toArray, List.set_cons_zero, List.set_cons_succ]
          refine take_still (i := 16) (d := some 24) (v := (.slice (some ⟨g9, 0, none⟩) ns (ns + 2))) rfl rfl (by kernel_rfl) (by kernel_rfl) (by kernel_rfl) (fun _ _ _ h => HP.out _ _ _ _ _ h) (Or.inl ⟨by rfl, ?_⟩) hHeld ?_
          · intro W hSw; obtain ⟨⟨q3, q4⟩, lt1, lt2⟩ := hSw; go_simp; try with_reducible rfl
          try simp only [Act.put, List.setIfInBounds_toArray, List.set_cons_zero, List.set_cons_succ]
          refine take_still (i := 17) (d := some 25) (v := (.pointer (some ⟨w.heap.size + 1 + 1, 3, none⟩))) rfl rfl (by kernel_rfl) (by kernel_rfl) (by kernel_rfl) (fun _ _ _ h => HP.out _ _ _ _ _ h) (Or.inl ⟨by rfl, ?_⟩) hHeld ?_
          · intro W hSw; obtain ⟨⟨q3, q4⟩, lt1, lt2⟩ := hSw; go_simp; try with_reducible rfl
          try simp only [Act.put, List.setIfInBounds_toArray, List.set_cons_zero, List.set_cons_succ]
          refine take_still (i := 18) (d := some 26) (v := (.pointer (some ⟨w.heap.size + 1 + 1, 3, none⟩))) rfl rfl (by kernel_rfl) (by kernel_rfl) (by kernel_rfl) (fun _ _ _ h => HP.out _ _ _ _ _ h) (Or.inl ⟨by rfl, ?_⟩) hHeld ?_
          · intro W hSw; obtain ⟨⟨q3, q4⟩, lt1, lt2⟩ := hSw; go_simp; try with_reducible rfl
          try simp only [Act.put, List.setIfInBounds_toArray, List.set_cons_zero, List.set_cons_succ]
          refine wpAnyH_ready (rs := [19]) (by kernel_rfl) (by simp) ?_
          refine AllReadyH.cons rfl (fun K hK => ?_) AllReadyH.nil
          obtain ⟨_, ⟨u3, u4⟩, fu, lt1, lt2⟩ := (HU.out.on HV11.out).cells
          go_simp
          refine hK.out _ _ (by have h := ((HU.out.on HV11.out).set3 (.slice (some ⟨g9, 0, none⟩) ns (ns + 2))).cells; exact ⟨h.1, h.2.2.2⟩) (fun hHeld => ?_)
          clear hK K u3 u4 fu lt1 lt2
          refine wpAnyH_done (by kernel_rfl) ?_ _
          change K' _ _
          exact HK0.out _ _ _ _ _ _ _ _ _ _ _ _ _ _ _ _ _ _ _ g9 V11 _ HV11.out rfl HR11.out
        exact AllReadyH.nil
      exact AllReadyH.nil
    exact AllReadyH.nil
  exact AllReadyH.nil
end Go.Proofs.YtebiojmfieoncaaGreat

namespace Go.Proofs.YtebiojmfieoncaaGreat
open Go.RowKit

set_option maxRecDepth 100000 in
set_option maxHeartbeats 100000000 in
theorem tw_at {t : Tm} {A : Option Addr} {ns ca : Nat} {B : Option Addr} {na cb : Nat} {K : Option Addr} {n ck : Nat} {w X : World} {s a k : Value} (hu : TwU w X t A ns ca B na cb K n ck s a k) (hn : na = t.at_.length) (hn8 : na * 8 ≤ 140737488351232) (hsi : IntsAt X B t.at_)
    {K' : Act → World → Prop} {Q' : Exit → Act → World → Prop} {s0 s2 s4 s5 s6 s7 s8 s9 s10 s11 s12 s13 s14 s15 s16 s17 s18 s19 s20 s21 s22 s23 s24 s25 s26 s27 s28 s29 s30 s31 s32 s33 s34 s35 s36 s37 s38 s39 s40 s41 s42 s43 s44 s45 s46 s47 s48 s49 s50 s51 s52 s53 s54 s55 s56 s57 s58 s59 s60 s61 s62 s63 s64 s65 s66 s67 s68 s69 s70 s71 s72 s73 s74 s75 s76 s77 s78 s79 s80 s81 s82 s83 s84 s85 s86 s87 s88 s89 s90 s91 s92 s93 : Value} (hP : ∀ c (a : Act) d v w, Q' (.panic c) (a.put (some d) v) w → Q' (.panic c) a w)
    (hK : ∀ (r27 r28 r29 r30 r31 r32 r33 r34 r35 r36 r37 r38 r39 r40 r41 r42 r43 r44 r45 : Value) (g : Nat) (W W' : World), Below X.heap.size X W → W' = W.setCell ⟨w.heap.size + 1 + 1, 4, none⟩ (.slice (some ⟨g, 0, none⟩) na (na + 2)) → W.ownsRow X.heap.size TI6 1 (.slice (some ⟨g, 0, none⟩) (na + 2) (na + 2)) (na + 2) (intVals t.at_ ++ intVals [-7, -7]) → K' { tmps := List.toArray (s0 :: (.pointer (some ⟨w.heap.size, 0, none⟩)) :: s2 :: (.pointer (some ⟨w.heap.size + 1 + 1, 0, none⟩)) :: s4 :: s5 :: s6 :: s7 :: s8 :: s9 :: s10 :: s11 :: s12 :: s13 :: s14 :: s15 :: s16 :: s17 :: s18 :: s19 :: s20 :: s21 :: s22 :: s23 :: s24 :: s25 :: s26 :: r27 :: r28 :: r29 :: r30 :: r31 :: r32 :: r33 :: r34 :: r35 :: r36 :: r37 :: r38 :: r39 :: r40 :: r41 :: r42 :: r43 :: r44 :: r45 :: s46 :: s47 :: s48 :: s49 :: s50 :: s51 :: s52 :: s53 :: s54 :: s55 :: s56 :: s57 :: s58 :: s59 :: s60 :: s61 :: s62 :: s63 :: s64 :: s65 :: s66 :: s67 :: s68 :: s69 :: s70 :: s71 :: s72 :: s73 :: s74 :: s75 :: s76 :: s77 :: s78 :: s79 :: s80 :: s81 :: s82 :: s83 :: s84 :: s85 :: s86 :: s87 :: s88 :: s89 :: s90 :: s91 :: s92 :: s93 :: []), defers := [] } W') :
    Code.wp Tryz.prog (regOf Tryz.f25 3) (Exit.then K' Q') { tmps := List.toArray (s0 :: (.pointer (some ⟨w.heap.size, 0, none⟩)) :: s2 :: (.pointer (some ⟨w.heap.size + 1 + 1, 0, none⟩)) :: s4 :: s5 :: s6 :: s7 :: s8 :: s9 :: s10 :: s11 :: s12 :: s13 :: s14 :: s15 :: s16 :: s17 :: s18 :: s19 :: s20 :: s21 :: s22 :: s23 :: s24 :: s25 :: s26 :: s27 :: s28 :: s29 :: s30 :: s31 :: s32 :: s33 :: s34 :: s35 :: s36 :: s37 :: s38 :: s39 :: s40 :: s41 :: s42 :: s43 :: s44 :: s45 :: s46 :: s47 :: s48 :: s49 :: s50 :: s51 :: s52 :: s53 :: s54 :: s55 :: s56 :: s57 :: s58 :: s59 :: s60 :: s61 :: s62 :: s63 :: s64 :: s65 :: s66 :: s67 :: s68 :: s69 :: s70 :: s71 :: s72 :: s73 :: s74 :: s75 :: s76 :: s77 :: s78 :: s79 :: s80 :: s81 :: s82 :: s83 :: s84 :: s85 :: s86 :: s87 :: s88 :: s89 :: s90 :: s91 :: s92 :: s93 :: []), defers := [] } X := by
  obtain ⟨j0, hj, hj0, hj1, hj2⟩ := info_parts info_i6
  have HU := Lib.hid hu
  have HN := Lib.hid hn
  have HSI := Lib.hid hsi
  have HP := Lib.hid hP
  have HK0 := Lib.hid hK
  have FCS : Hid (∀ W, Below X.heap.size X W → (W.cell? ⟨w.heap.size, 3, none⟩ = some (.slice A ns ca) ∧ W.cell? ⟨w.heap.size, 4, none⟩ = some (.slice B na cb)) ∧ w.heap.size < W.heap.size ∧ w.heap.size + 1 + 1 < W.heap.size) := Lib.hid fun W h => ⟨(HU.out.on h).cells.1, (HU.out.on h).cells.2.2.2⟩
  clear hu hn hsi hP hK
  have mk1 : ∀ W : World, (Instr.makeSlice 25 (.int .i64 0) (.int .i64 ((na : Int) + 2))).run Tryz.prog W = .ok (.slice (some ⟨W.heap.size, 0, none⟩) 0 (na + 2)) (W.alloc (.cells (madeCells (Value.int .i64 0).cells ((na + 2) * 1)) TI6)) := fun W => by
    have h := run_make (P := Tryz.prog) (w := W) 25 TI6 j0 (.int .i64 0) Tryz.underlying25 hj hj0 .i64 .i64 0 ((na : Int) + 2) (Int.le_refl _) (by omega) (by rw [hj2]; omega) (by omega)
    rw [hj1, show ((na : Int) + 2).toNat = na + 2 by omega] at h
    exact h
  have wr1 : IntKind.i64.wrap ((na : Int) + 2) = (na : Int) + 2 := by rw [IntKind.wrap_i64]; omega
  have hns0 : (0 : Int) ≤ (na : Int) := by omega
  have hns2 : (na : Int) ≤ (na : Int) + 2 := by omega
  conv => arg 2; whnf
  refine wp_region_held_drew (S := (fun W => (W.cell? ⟨w.heap.size, 3, none⟩ = some (.slice A ns ca) ∧ W.cell? ⟨w.heap.size, 4, none⟩ = some (.slice B na cb)) ∧ w.heap.size < W.heap.size ∧ w.heap.size + 1 + 1 < W.heap.size)) (by kernel_rfl) (FCS.out _ (Below.refl _ _).drew) (fun hHeld => ?_)
  obtain ⟨X0, hX⟩ : ∃ X0, X0 = X.drew := ⟨_, rfl⟩
  have HX0 : Hid (Below X.heap.size X X0) := Lib.hid (by rw [hX]; exact (Below.refl _ _).drew)
  rw [← hX] at hHeld ⊢
  clear hX
  refine take_still (i := 0) (d := some 27) (v := (.pointer (some ⟨w.heap.size, 3, none⟩))) rfl rfl (by kernel_rfl) (by kernel_rfl) (by kernel_rfl) (fun _ _ _ h => HP.out _ _ _ _ _ h) (Or.inl ⟨by rfl, ?_⟩) hHeld ?_
  · intro W hSw; obtain ⟨⟨q3, q4⟩, lt1, lt2⟩ := hSw; go_simp; try with_reducible rfl
  try simp only [Act.put, List.setIfInBounds_toArray, List.set_cons_zero, List.set_cons_succ]
  refine take_still (i := 1) (d := some 28) (v := (.pointer (some ⟨w.heap.size, 4, none⟩))) rfl rfl (by kernel_rfl) (by kernel_rfl) (by kernel_rfl) (fun _ _ _ h => HP.out _ _ _ _ _ h) (Or.inl ⟨by rfl, ?_⟩) hHeld ?_
  · intro W hSw; obtain ⟨⟨q3, q4⟩, lt1, lt2⟩ := hSw; go_simp; try with_reducible rfl
  try simp only [Act.put, List.setIfInBounds_toArray, List.set_cons_zero, List.set_cons_succ]
  refine take_still (i := 2) (d := some 29) (v := (.slice B na cb)) rfl rfl (by kernel_rfl) (by kernel_rfl) (by kernel_rfl) (fun _ _ _ h => HP.out _ _ _ _ _ h) (Or.inl ⟨by rfl, ?_⟩) hHeld ?_
  · intro W hSw; obtain ⟨⟨q3, q4⟩, lt1, lt2⟩ := hSw; go_simp; try with_reducible rfl
  try simp only [Act.put, List.setIfInBounds_toArray, List.set_cons_zero, List.set_cons_succ]
  refine take_still (i := 3) (d := some 30) (v := (.int .i64 (na : Int))) rfl rfl (by kernel_rfl) (by kernel_rfl) (by kernel_rfl) (fun _ _ _ h => HP.out _ _ _ _ _ h) (Or.inl ⟨by rfl, ?_⟩) hHeld ?_
  · intro W hSw; obtain ⟨⟨q3, q4⟩, lt1, lt2⟩ := hSw; go_simp; try with_reducible rfl
  try simp only [Act.put, List.setIfInBounds_toArray, List.set_cons_zero, List.set_cons_succ]
  refine take_still (i := 4) (d := some 31) (v := (.int .i64 ((na : Int) + 2))) rfl rfl (by kernel_rfl) (by kernel_rfl) (by kernel_rfl) (fun _ _ _ h => HP.out _ _ _ _ _ h) (Or.inl ⟨by rfl, ?_⟩) hHeld ?_
  · intro W hSw; obtain ⟨⟨q3, q4⟩, lt1, lt2⟩ := hSw; go_simp; try with_reducible rfl
  try simp only [Act.put, List.setIfInBounds_toArray, List.set_cons_zero, List.set_cons_succ]
  refine take_still (i := 6) (d := some 33) (v := (.pointer (some ⟨w.heap.size, 3, none⟩))) rfl rfl (by kernel_rfl) (by kernel_rfl) (by kernel_rfl) (fun _ _ _ h => HP.out _ _ _ _ _ h) (Or.inl ⟨by rfl, ?_⟩) hHeld ?_
  · intro W hSw; obtain ⟨⟨q3, q4⟩, lt1, lt2⟩ := hSw; go_simp; try with_reducible rfl
  try simp only [Act.put, List.setIfInBounds_toArray, List.set_cons_zero, List.set_cons_succ]
  refine take_still (i := 7) (d := some 34) (v := (.pointer (some ⟨w.heap.size, 4, none⟩))) rfl rfl (by kernel_rfl) (by kernel_rfl) (by kernel_rfl) (fun _ _ _ h => HP.out _ _ _ _ _ h) (Or.inl ⟨by rfl, ?_⟩) hHeld ?_
  · intro W hSw; obtain ⟨⟨q3, q4⟩, lt1, lt2⟩ := hSw; go_simp; try with_reducible rfl
  try simp only [Act.put, List.setIfInBounds_toArray, List.set_cons_zero, List.set_cons_succ]
  refine take_still (i := 8) (d := some 35) (v := (.slice B na cb)) rfl rfl (by kernel_rfl) (by kernel_rfl) (by kernel_rfl) (fun _ _ _ h => HP.out _ _ _ _ _ h) (Or.inl ⟨by rfl, ?_⟩) hHeld ?_
  · intro W hSw; obtain ⟨⟨q3, q4⟩, lt1, lt2⟩ := hSw; go_simp; try with_reducible rfl
  try simp only [Act.put, List.setIfInBounds_toArray, List.set_cons_zero, List.set_cons_succ]
  refine take_still (i := 12) (d := some 39) (v := (.pointer (some ⟨w.heap.size, 3, none⟩))) rfl rfl (by kernel_rfl) (by kernel_rfl) (by kernel_rfl) (fun _ _ _ h => HP.out _ _ _ _ _ h) (Or.inl ⟨by rfl, ?_⟩) hHeld ?_
  · intro W hSw; obtain ⟨⟨q3, q4⟩, lt1, lt2⟩ := hSw; go_simp; try with_reducible rfl
  try simp only [Act.put, List.setIfInBounds_toArray, List.set_cons_zero, List.set_cons_succ]
  refine take_still (i := 13) (d := some 40) (v := (.pointer (some ⟨w.heap.size, 4, none⟩))) rfl rfl (by kernel_rfl) (by kernel_rfl) (by kernel_rfl) (fun _ _ _ h => HP.out _ _ _ _ _ h) (Or.inl ⟨by rfl, ?_⟩) hHeld ?_
  · intro W hSw; obtain ⟨⟨q3, q4⟩, lt1, lt2⟩ := hSw; go_simp; try with_reducible rfl
  try simp only [Act.put, List.setIfInBounds_toArray, List.set_cons_zero, List.set_cons_succ]
  refine take_still (i := 14) (d := some 41) (v := (.slice B na cb)) rfl rfl (by kernel_rfl) (by kernel_rfl) (by kernel_rfl) (fun _ _ _ h => HP.out _ _ _ _ _ h) (Or.inl ⟨by rfl, ?_⟩) hHeld ?_
  · intro W hSw; obtain ⟨⟨q3, q4⟩, lt1, lt2⟩ := hSw; go_simp; try with_reducible rfl
  try simp only [Act.put, List.setIfInBounds_toArray, List.set_cons_zero, List.set_cons_succ]
  refine take_still (i := 15) (d := some 42) (v := (.int .i64 (na : Int))) rfl rfl (by kernel_rfl) (by kernel_rfl) (by kernel_rfl) (fun _ _ _ h => HP.out _ _ _ _ _ h) (Or.inl ⟨by rfl, ?_⟩) hHeld ?_
  · intro W hSw; obtain ⟨⟨q3, q4⟩, lt1, lt2⟩ := hSw; go_simp; try with_reducible rfl
  try simp only [Act.put, List.setIfInBounds_toArray, List.set_cons_zero, List.set_cons_succ]
  refine wpAnyH_ready (rs := [5, 10]) (by kernel_rfl) (by simp) ?_
  refine AllReadyH.cons rfl (fun K hK => ?_) ?_
  · go_simp
    obtain ⟨V1, hV⟩ : ∃ V, V = X0.alloc (.cells (madeCells #[Value.int .i64 0] (na + 2)) TI6) := ⟨_, rfl⟩
    obtain ⟨g1, hg⟩ : ∃ g, g = X0.heap.size := ⟨_, rfl⟩
    have hb : Below X0.heap.size X0 V1 := by rw [hV]; exact (Below.refl _ _).alloc (Nat.le_refl _) _
    have HV1 := Lib.hid (HX0.out.then_ hb)
    have HR1 : Hid (V1.ownsRow X.heap.size TI6 1 (.slice (some ⟨g1, 0, none⟩) 0 (na + 2)) 0 []) := Lib.hid (by
      have h := row_new X0 (.int .i64 0) (na + 2) 1 TI6 (B := X.heap.size) HX0.out.size (by unfold maxLen; omega)
      rw [Nat.mul_one] at h
      rw [hV, hg]
      exact h)
    rw [← hV, ← hg]
    clear hV hg hb
    refine hK.out _ _ (FCS.out _ HV1.out) (fun hHeld => ?_)
    clear hK K
    refine wpAnyH_ready (rs := [9, 10]) (by kernel_rfl) (by simp) ?_
    refine AllReadyH.cons rfl (fun K hK => ?_) ?_
    · refine step_append_into _ rfl (.tmp 32) (.tmp 35) 25 rfl X.heap.size TI6 j0 Tryz.underlying25 hj hj1 g1 0 (na + 2) [] (by simp [Act.eval]) HR1.out B cb t.at_ na HN.out (by simp [Act.eval]) (HSI.out.on HV1.out) (by omega) ?_
      intro V2 hown hgr
      rw [Nat.zero_add, List.nil_append] at hown
      have HV2 : Hid (Below X.heap.size X V2) := Lib.hid (HV1.out.grown hgr HV1.out.size (fun k hk => by injection hk with hk; have := (HR1.out.lt g1 rfl).1; omega))
      have HR2 : Hid (V2.ownsRow X.heap.size TI6 1 (.slice (some ⟨g1, 0, none⟩) na (na + 2)) na (intVals t.at_)) := Lib.hid hown
      clear hown hgr
      change K (Act.put _ (some 36) _) _
      refine hK.out _ _ (FCS.out _ HV2.out) (fun hHeld => ?_)
      clear hK K
      try simp only [Act.put, List.setIfInBounds_toArray, List.set_cons_zero, List.set_cons_succ]
      refine wpAnyH_ready (rs := [10]) (by kernel_rfl) (by simp) ?_
      refine AllReadyH.cons rfl (fun K hK => ?_) ?_
      · go_simp
        obtain ⟨V3, hV⟩ : ∃ V, V = V2.alloc (.cells #[.int .i64 (-7), .int .i64 (-7)] TI6) := ⟨_, rfl⟩
        obtain ⟨g3, hg⟩ : ∃ g, g = V2.heap.size := ⟨_, rfl⟩
        have hb : Below V2.heap.size V2 V3 := by rw [hV]; exact (Below.refl _ _).alloc (Nat.le_refl _) _
        have HV3 := Lib.hid (HV2.out.then_ hb)
        have HR3 : Hid (V3.ownsRow X.heap.size TI6 1 (.slice (some ⟨g1, 0, none⟩) na (na + 2)) na (intVals t.at_)) := Lib.hid (by rw [hV]; exact HR2.out.alloc _)
        have HM3 : Hid (IntsAt V3 (some ⟨g3, 0, none⟩) [-7, -7] ∧ g3 < V3.heap.size) := Lib.hid (by rw [hV, hg]; exact ⟨pair_at V2 (-7) (-7) TI6, by simp⟩)
        have HNE : Hid (g3 ≠ g1) := Lib.hid (by have := (HR2.out.lt g1 rfl).2; omega)
        rw [← hV, ← hg]
        clear hV hg hb
        refine hK.out _ _ (FCS.out _ HV3.out) (fun hHeld => ?_)
        clear hK K
        refine wpAnyH_ready (rs := [11]) (by kernel_rfl) (by simp) ?_
        refine AllReadyH.cons rfl (fun K hK => ?_) ?_
        · refine step_append_into _ rfl (.tmp 36) (.tmp 37) 25 rfl X.heap.size TI6 j0 Tryz.underlying25 hj hj1 g1 na (na + 2) (intVals t.at_) (by simp [Act.eval]) HR3.out (some ⟨g3, 0, none⟩) 2 [-7, -7] 2 rfl (by simp [Act.eval]) HM3.out.1 (by omega) ?_
          intro V4 hown hgr
          have HV4 : Hid (Below X.heap.size X V4) := Lib.hid (HV3.out.grown hgr HV3.out.size (fun k hk => by injection hk with hk; have := (HR3.out.lt g1 rfl).1; omega))
          have HR4 : Hid (V4.ownsRow X.heap.size TI6 1 (.slice (some ⟨g1, 0, none⟩) (na + 2) (na + 2)) (na + 2) (intVals t.at_ ++ intVals [-7, -7])) := Lib.hid hown
          clear hown hgr
          change K (Act.put _ (some 38) _) _
          refine hK.out _ _ (FCS.out _ HV4.out) (fun hHeld => ?_)
          clear hK K
          try simp only [Act.put, List.setIfInBounds_toArray, List.set_cons_zero, List.set_cons_succ]
          refine take_still (i := 16) (d := some 43) (v := (.slice (some ⟨g1, 0, none⟩) na (na + 2))) rfl rfl (by kernel_rfl) (by kernel_rfl) (by kernel_rfl) (fun _ _ _ h => HP.out _ _ _ _ _ h) (Or.inl ⟨by rfl, ?_⟩) hHeld ?_
          · intro W hSw; obtain ⟨⟨q3, q4⟩, lt1, lt2⟩ := hSw; go_simp; try with_reducible rfl
          try simp only [Act.put, List.setIfInBounds_toArray, List.set_cons_zero, List.set_cons_succ]
          refine take_still (i := 17) (d := some 44) (v := (.pointer (some ⟨w.heap.size + 1 + 1, 3, none⟩))) rfl rfl (by kernel_rfl) (by kernel_rfl) (by kernel_rfl) (fun _ _ _ h => HP.out _ _ _ _ _ h) (Or.inl ⟨by rfl, ?_⟩) hHeld ?_
          · intro W hSw; obtain ⟨⟨q3, q4⟩, lt1, lt2⟩ := hSw; go_simp; try with_reducible rfl
          try simp only [Act.put, List.setIfInBounds_toArray, List.set_cons_zero, List.set_cons_succ]
          refine take_still (i := 18) (d := some 45) (v := (.pointer (some ⟨w.heap.size + 1 + 1, 4, none⟩))) rfl rfl (by kernel_rfl) (by kernel_rfl) (by kernel_rfl) (fun _ _ _ h => HP.out _ _ _ _ _ h) (Or.inl ⟨by rfl, ?_⟩) hHeld ?_
          · intro W hSw; obtain ⟨⟨q3, q4⟩, lt1, lt2⟩ := hSw; go_simp; try with_reducible rfl
          try simp only [Act.put, List.setIfInBounds_toArray, List.set_cons_zero, List.set_cons_succ]
          refine wpAnyH_ready (rs := [19]) (by kernel_rfl) (by simp) ?_
          refine AllReadyH.cons rfl (fun K hK => ?_) AllReadyH.nil
          obtain ⟨_, ⟨u3, u4⟩, fu, lt1, lt2⟩ := (HU.out.on HV4.out).cells
          go_simp
          refine hK.out _ _ (by have h := ((HU.out.on HV4.out).set4 (.slice (some ⟨g1, 0, none⟩) na (na + 2))).cells; exact ⟨h.1, h.2.2.2⟩) (fun hHeld => ?_)
          clear hK K u3 u4 fu lt1 lt2
          refine wpAnyH_done (by kernel_rfl) ?_ _
          change K' _ _
          exact HK0.out _ _ _ _ _ _ _ _ _ _ _ _ _ _ _ _ _ _ _ g1 V4 _ HV4.out rfl HR4.out
        exact AllReadyH.nil
      exact AllReadyH.nil
    refine AllReadyH.cons rfl (fun K hK => ?_) ?_
    · go_simp
      obtain ⟨V5, hV⟩ : ∃ V, V = V1.alloc (.cells #[.int .i64 (-7), .int .i64 (-7)] TI6) := ⟨_, rfl⟩
      obtain ⟨g5, hg⟩ : ∃ g, g = V1.heap.size := ⟨_, rfl⟩
      have hb : Below V1.heap.size V1 V5 := by rw [hV]; exact (Below.refl _ _).alloc (Nat.le_refl _) _
      have HV5 := Lib.hid (HV1.out.then_ hb)
      have HR5 : Hid (V5.ownsRow X.heap.size TI6 1 (.slice (some ⟨g1, 0, none⟩) 0 (na + 2)) 0 []) := Lib.hid (by rw [hV]; exact HR1.out.alloc _)
      have HM5 : Hid (IntsAt V5 (some ⟨g5, 0, none⟩) [-7, -7] ∧ g5 < V5.heap.size) := Lib.hid (by rw [hV, hg]; exact ⟨pair_at V1 (-7) (-7) TI6, by simp⟩)
      have HNE : Hid (g5 ≠ g1) := Lib.hid (by have := (HR1.out.lt g1 rfl).2; omega)
      rw [← hV, ← hg]
      clear hV hg hb
      refine hK.out _ _ (FCS.out _ HV5.out) (fun hHeld => ?_)
      clear hK K
      refine wpAnyH_ready (rs := [9]) (by kernel_rfl) (by simp) ?_
      refine AllReadyH.cons rfl (fun K hK => ?_) ?_
      · refine step_append_into _ rfl (.tmp 32) (.tmp 35) 25 rfl X.heap.size TI6 j0 Tryz.underlying25 hj hj1 g1 0 (na + 2) [] (by simp [Act.eval]) HR5.out B cb t.at_ na HN.out (by simp [Act.eval]) (HSI.out.on HV5.out) (by omega) ?_
        intro V6 hown hgr
        rw [Nat.zero_add, List.nil_append] at hown
        have HV6 : Hid (Below X.heap.size X V6) := Lib.hid (HV5.out.grown hgr HV5.out.size (fun k hk => by injection hk with hk; have := (HR5.out.lt g1 rfl).1; omega))
        have HR6 : Hid (V6.ownsRow X.heap.size TI6 1 (.slice (some ⟨g1, 0, none⟩) na (na + 2)) na (intVals t.at_)) := Lib.hid hown
        have HM6 : Hid (IntsAt V6 (some ⟨g5, 0, none⟩) [-7, -7] ∧ g5 < V6.heap.size) := Lib.hid ⟨ints_grown HM5.out.1 hgr (by have := HNE.out; simpa using this), Nat.lt_of_lt_of_le HM5.out.2 hgr.size⟩
        clear hown hgr
        change K (Act.put _ (some 36) _) _
        refine hK.out _ _ (FCS.out _ HV6.out) (fun hHeld => ?_)
        clear hK K
        try simp only [Act.put, List.setIfInBounds_toArray, List.set_cons_zero, List.set_cons_succ]
        refine wpAnyH_ready (rs := [11]) (by kernel_rfl) (by simp) ?_
        refine AllReadyH.cons rfl (fun K hK => ?_) ?_
        · refine step_append_into _ rfl (.tmp 36) (.tmp 37) 25 rfl X.heap.size TI6 j0 Tryz.underlying25 hj hj1 g1 na (na + 2) (intVals t.at_) (by simp [Act.eval]) HR6.out (some ⟨g5, 0, none⟩) 2 [-7, -7] 2 rfl (by simp [Act.eval]) HM6.out.1 (by omega) ?_
          intro V7 hown hgr
          have HV7 : Hid (Below X.heap.size X V7) := Lib.hid (HV6.out.grown hgr HV6.out.size (fun k hk => by injection hk with hk; have := (HR6.out.lt g1 rfl).1; omega))
          have HR7 : Hid (V7.ownsRow X.heap.size TI6 1 (.slice (some ⟨g1, 0, none⟩) (na + 2) (na + 2)) (na + 2) (intVals t.at_ ++ intVals [-7, -7])) := Lib.hid hown
          clear hown hgr
          change K (Act.put _ (some 38) _) _
          refine hK.out _ _ (FCS.out _ HV7.out) (fun hHeld => ?_)
          clear hK K
          try simp only [Act.put, List.setIfInBounds_toArray, List.set_cons_zero, List.set_cons_succ]
          refine take_still (i := 16) (d := some 43) (v := (.slice (some ⟨g1, 0, none⟩) na (na + 2))) rfl rfl (by kernel_rfl) (by kernel_rfl) (by kernel_rfl) (fun _ _ _ h => HP.out _ _ _ _ _ h) (Or.inl ⟨by rfl, ?_⟩) hHeld ?_
          · intro W hSw; obtain ⟨⟨q3, q4⟩, lt1, lt2⟩ := hSw; go_simp; try with_reducible rfl
          try simp only [Act.put, List.setIfInBounds_toArray, List.set_cons_zero, List.set_cons_succ]
          refine take_still (i := 17) (d := some 44) (v := (.pointer (some ⟨w.heap.size + 1 + 1, 3, none⟩))) rfl rfl (by kernel_rfl) (by kernel_rfl) (by kernel_rfl) (fun _ _ _ h => HP.out _ _ _ _ _ h) (Or.inl ⟨by rfl, ?_⟩) hHeld ?_
          · intro W hSw; obtain ⟨⟨q3, q4⟩, lt1, lt2⟩ := hSw; go_simp; try with_reducible rfl
          try simp only [Act.put, List.setIfInBounds_toArray, List.set_cons_zero, List.set_cons_succ]
          refine take_still (i := 18) (d := some 45) (v := (.pointer (some ⟨w.heap.size + 1 + 1, 4, none⟩))) rfl rfl (by kernel_rfl) (by kernel_rfl) (by kernel_rfl) (fun _ _ _ h => HP.out _ _ _ _ _ h) (Or.inl ⟨by rfl, ?_⟩) hHeld ?_
          · intro W hSw; obtain ⟨⟨q3, q4⟩, lt1, lt2⟩ := hSw; go_simp; try with_reducible rfl
          try simp only [Act.put, List.setIfInBounds_toArray, List.set_cons_zero, List.set_cons_succ]
          refine wpAnyH_ready (rs := [19]) (by kernel_rfl) (by simp) ?_
          refine AllReadyH.cons rfl (fun K hK => ?_) AllReadyH.nil
          obtain ⟨_, ⟨u3, u4⟩, fu, lt1, lt2⟩ := (HU.out.on HV7.out).cells
          go_simp
          refine hK.out _ _ (by have h := ((HU.out.on HV7.out).set4 (.slice (some ⟨g1, 0, none⟩) na (na + 2))).cells; exact ⟨h.1, h.2.2.2⟩) (fun hHeld => ?_)
          clear hK K u3 u4 fu lt1 lt2
          refine wpAnyH_done (by kernel_rfl) ?_ _
          change K' _ _
          exact HK0.out _ _ _ _ _ _ _ _ _ _ _ _ _ _ _ _ _ _ _ g1 V7 _ HV7.out rfl HR7.out
        exact AllReadyH.nil
      exact AllReadyH.nil
    exact AllReadyH.nil
  refine AllReadyH.cons rfl (fun K hK => ?_) ?_
  · go_simp
    obtain ⟨V8, hV⟩ : ∃ V, V = X0.alloc (.cells #[.int .i64 (-7), .int .i64 (-7)] TI6) := ⟨_, rfl⟩
    obtain ⟨g8, hg⟩ : ∃ g, g = X0.heap.size := ⟨_, rfl⟩
    have hb : Below X0.heap.size X0 V8 := by rw [hV]; exact (Below.refl _ _).alloc (Nat.le_refl _) _
    have HV8 := Lib.hid (HX0.out.then_ hb)
    have HM8 : Hid (IntsAt V8 (some ⟨g8, 0, none⟩) [-7, -7] ∧ g8 < V8.heap.size) := Lib.hid (by rw [hV, hg]; exact ⟨pair_at X0 (-7) (-7) TI6, by simp⟩)
    rw [← hV, ← hg]
    clear hV hg hb
    refine hK.out _ _ (FCS.out _ HV8.out) (fun hHeld => ?_)
    clear hK K
    refine wpAnyH_ready (rs := [5]) (by kernel_rfl) (by simp) ?_
    refine AllReadyH.cons rfl (fun K hK => ?_) ?_
    · go_simp
      obtain ⟨V9, hV⟩ : ∃ V, V = V8.alloc (.cells (madeCells #[Value.int .i64 0] (na + 2)) TI6) := ⟨_, rfl⟩
      obtain ⟨g9, hg⟩ : ∃ g, g = V8.heap.size := ⟨_, rfl⟩
      have hb : Below V8.heap.size V8 V9 := by rw [hV]; exact (Below.refl _ _).alloc (Nat.le_refl _) _
      have HV9 := Lib.hid (HV8.out.then_ hb)
      have HM9 : Hid (IntsAt V9 (some ⟨g8, 0, none⟩) [-7, -7] ∧ g8 < V9.heap.size) := Lib.hid ⟨HM8.out.1.on hb, Nat.lt_of_lt_of_le HM8.out.2 hb.size⟩
      have HR9 : Hid (V9.ownsRow X.heap.size TI6 1 (.slice (some ⟨g9, 0, none⟩) 0 (na + 2)) 0 []) := Lib.hid (by
        have h := row_new V8 (.int .i64 0) (na + 2) 1 TI6 (B := X.heap.size) HV8.out.size (by unfold maxLen; omega)
        rw [Nat.mul_one] at h
        rw [hV, hg]
        exact h)
      have HNE : Hid (g8 ≠ g9) := Lib.hid (by have := HM8.out.2; omega)
      rw [← hV, ← hg]
      clear hV hg hb
      refine hK.out _ _ (FCS.out _ HV9.out) (fun hHeld => ?_)
      clear hK K
      refine wpAnyH_ready (rs := [9]) (by kernel_rfl) (by simp) ?_
      refine AllReadyH.cons rfl (fun K hK => ?_) ?_
      · refine step_append_into _ rfl (.tmp 32) (.tmp 35) 25 rfl X.heap.size TI6 j0 Tryz.underlying25 hj hj1 g9 0 (na + 2) [] (by simp [Act.eval]) HR9.out B cb t.at_ na HN.out (by simp [Act.eval]) (HSI.out.on HV9.out) (by omega) ?_
        intro V10 hown hgr
        rw [Nat.zero_add, List.nil_append] at hown
        have HV10 : Hid (Below X.heap.size X V10) := Lib.hid (HV9.out.grown hgr HV9.out.size (fun k hk => by injection hk with hk; have := (HR9.out.lt g9 rfl).1; omega))
        have HR10 : Hid (V10.ownsRow X.heap.size TI6 1 (.slice (some ⟨g9, 0, none⟩) na (na + 2)) na (intVals t.at_)) := Lib.hid hown
        have HM10 : Hid (IntsAt V10 (some ⟨g8, 0, none⟩) [-7, -7] ∧ g8 < V10.heap.size) := Lib.hid ⟨ints_grown HM9.out.1 hgr (by have := HNE.out; simpa using this), Nat.lt_of_lt_of_le HM9.out.2 hgr.size⟩
        clear hown hgr
        change K (Act.put _ (some 36) _) _
        refine hK.out _ _ (FCS.out _ HV10.out) (fun hHeld => ?_)
        clear hK K
        try simp only [Act.put, List.setIfInBounds_toArray, List.set_cons_zero, List.set_cons_succ]
        refine wpAnyH_ready (rs := [11]) (by kernel_rfl) (by simp) ?_
        refine AllReadyH.cons rfl (fun K hK => ?_) ?_
        · refine step_append_into _ rfl (.tmp 36) (.tmp 37) 25 rfl X.heap.size TI6 j0 Tryz.underlying25 hj hj1 g9 na (na + 2) (intVals t.at_) (by simp [Act.eval]) HR10.out (some ⟨g8, 0, none⟩) 2 [-7, -7] 2 rfl (by simp [Act.eval]) HM10.out.1 (by omega) ?_
          intro V11 hown hgr
          have HV11 : Hid (Below X.heap.size X V11) := Lib.hid (HV10.out.grown hgr HV10.out.size (fun k hk => by injection hk with hk; have := (HR10.out.lt g9 rfl).1; omega))
          have HR11 : Hid (V11.ownsRow X.heap.size TI6 1 (.slice (some ⟨g9, 0, none⟩) (na + 2) (na + 2)) (na + 2) (intVals t.at_ ++ intVals [-7, -7])) := Lib.hid hown
          clear hown hgr
          change K (Act.put _ (some 38) _) _
          refine hK.out _ _ (FCS.out _ HV11.out) (fun hHeld => ?_)
          clear hK K
          try simp only [Act.put, List.setIfInBounds_toArray, List.set_cons_zero, List.set_cons_succ]
          refine take_still (i := 16) (d := some 43) (v := (.slice (some ⟨g9, 0, none⟩) na (na + 2))) rfl rfl (by kernel_rfl) (by kernel_rfl) (by kernel_rfl) (fun _ _ _ h => HP.out _ _ _ _ _ h) (Or.inl ⟨by rfl, ?_⟩) hHeld ?_
          · intro W hSw; obtain ⟨⟨q3, q4⟩, lt1, lt2⟩ := hSw; go_simp; try with_reducible rfl
          try simp only [Act.put, List.setIfInBounds_toArray, List.set_cons_zero, List.set_cons_succ]
          refine take_still (i := 17) (d := some 44) (v := (.pointer (some ⟨w.heap.size + 1 + 1, 3, none⟩))) rfl rfl (by kernel_rfl) (by kernel_rfl) (by kernel_rfl) (fun _ _ _ h => HP.out _ _ _ _ _ h) (Or.inl ⟨by rfl, ?_⟩) hHeld ?_
          · intro W hSw; obtain ⟨⟨q3, q4⟩, lt1, lt2⟩ := hSw; go_simp; try with_reducible rfl
          try simp only [Act.put, List.setIfInBounds_toArray, List.set_cons_zero, List.set_cons_succ]
          refine take_still (i := 18) (d := some 45) (v := (.pointer (some ⟨w.heap.size + 1 + 1, 4, none⟩))) rfl rfl (by kernel_rfl) (by kernel_rfl) (by kernel_rfl) (fun _ _ _ h => HP.out _ _ _ _ _ h) (Or.inl ⟨by rfl, ?_⟩) hHeld ?_
          · intro W hSw; obtain ⟨⟨q3, q4⟩, lt1, lt2⟩ := hSw; go_simp; try with_reducible rfl
          try simp only [Act.put, List.setIfInBounds_toArray, List.set_cons_zero, List.set_cons_succ]
          refine wpAnyH_ready (rs := [19]) (by kernel_rfl) (by simp) ?_
          refine AllReadyH.cons rfl (fun K hK => ?_) AllReadyH.nil
          obtain ⟨_, ⟨u3, u4⟩, fu, lt1, lt2⟩ := (HU.out.on HV11.out).cells
          go_simp
          refine hK.out _ _ (by have h := ((HU.out.on HV11.out).set4 (.slice (some ⟨g9, 0, none⟩) na (na + 2))).cells; exact ⟨h.1, h.2.2.2⟩) (fun hHeld => ?_)
          clear hK K u3 u4 fu lt1 lt2
          refine wpAnyH_done (by kernel_rfl) ?_ _
          change K' _ _
          exact HK0.out _ _ _ _ _ _ _ _ _ _ _ _ _ _ _ _ _ _ _ g9 V11 _ HV11.out rfl HR11.out
        exact AllReadyH.nil
      exact AllReadyH.nil
    exact AllReadyH.nil
  exact AllReadyH.nil
end Go.Proofs.YtebiojmfieoncaaGreat

namespace Go.Proofs.YtebiojmfieoncaaGreat
open Go.RowKit

set_option maxRecDepth 100000 in
set_option maxHeartbeats 16000000 in
theorem twin7_any (N : Nat) : ∀ (t : Tm) (A : Option Addr) (ca : Nat) (B : Option Addr) (cb : Nat) (K : Option Addr) (ck : Nat) (w : World), cnt t ≤ N → TmAt w t A B K → WfT t → Calls Tryz.prog 25 #[tmVal t A ca B cb K ck] w (Twin7 t w) := by
  induction N with
  | zero => intro t A ca B cb K ck w h; cases t; simp [cnt] at h
  | succ N ih =>
    intro t A ca B cb K ck w hN hat hwf
    obtain ⟨W2, hW2⟩ : ∃ W2, W2 = ((w.alloc (.cells (tmCells t A ca B cb K ck) TTm)).alloc (.cells tm0 TTm)).alloc (.cells (tmCells t A ca B cb K ck) TTm) := ⟨_, rfl⟩
    have hb1 : Below w.heap.size w ((w.alloc (.cells (tmCells t A ca B cb K ck) TTm)).alloc (.cells tm0 TTm)) := ((Below.refl _ _).alloc (Nat.le_refl _) _).alloc (by simp) _
    have hb2 : Below w.heap.size w W2 := by rw [hW2]; exact hb1.alloc hb1.size _
    have hu : TwU w W2 t A t.sh.length ca B t.at_.length cb K t.kids.length ck (.slice A t.sh.length ca) (.slice B t.at_.length cb) (.slice K t.kids.length ck) := by
      refine ⟨?_, ?_, ?_, hb2⟩
      · rw [hW2]; exact (Below.heap_alloc _ _ _ (by simp; omega)).trans ((Below.heap_alloc _ _ _ (by simp)).trans (heap_alloc_new w _))
      · rw [hW2]; exact (Below.heap_alloc _ _ _ (by simp)).trans (heap_new2 _ _ _)
      · rw [hW2]
        have h := heap_alloc_new ((w.alloc (.cells (tmCells t A ca B cb K ck) TTm)).alloc (.cells tm0 TTm)) (.cells (tmCells t A ca B cb K ck) TTm)
        simpa using h
    have HS : Hid (W2.heap.size = w.heap.size + 3) := Lib.hid (by rw [hW2]; simp)
    have HWF := Lib.hid hwf
    have HW2 := Lib.hid hW2
    have HNN := Lib.hid hN
    have HAT := Lib.hid hat
    have IH := Lib.hid ih
    obtain ⟨j0, hj, hz0, hz1, hz2⟩ := info_parts info_tm
    obtain ⟨ji, hji, hi0, hi1, hi2⟩ := info_parts info_in
    obtain ⟨j6, hj6, h60, h61, h62⟩ := info_parts info_i6
    obtain ⟨ns, hns⟩ : ∃ n, n = t.sh.length := ⟨_, rfl⟩
    obtain ⟨na, hna⟩ : ∃ n, n = t.at_.length := ⟨_, rfl⟩
    obtain ⟨n, hn⟩ : ∃ n, n = t.kids.length := ⟨_, rfl⟩
    have HNS := Lib.hid hns
    have HNA := Lib.hid hna
    have HN := Lib.hid hn
    have hs8 : ns * 8 ≤ 140737488351232 := by rw [hns]; exact hwf.node.sh8
    have ha8 : na * 8 ≤ 140737488351232 := by rw [hna]; exact hwf.node.at8
    have hk104 : n * 104 ≤ 140737488351232 := by rw [hn]; exact hwf.node.kids104
    rw [← hns, ← hna, ← hn] at hu
    have HU := Lib.hid hu
    have HSH : Hid (IntsAt w A t.sh ∧ IntsAt w B t.at_) := Lib.hid ⟨hat.sh, hat.at_⟩
    clear hat hwf hb1 hb2 hu hW2 hns hna hn hN ih
    have wr3 : IntKind.i64.wrap ((n : Int) + 2) = (n : Int) + 2 := by rw [IntKind.wrap_i64]; omega
    go_enter Tryz.func25, Tryz.ntmps25
    go_upto_region 2 with fail
    rw [← HW2.out]
    refine tw_sh HU.out HNS.out hs8 (HSH.out.1.on HU.out.be) ?_ ?_
    · exact fun _ _ _ _ _ h => h
    intro _ _ _ _ _ _ _ _ _ _ _ _ _ _ _ _ _ _ _ gs W W3 hb3 hW3 hrow
    have HC : Hid ((TwU w W3 t A ns ca B na cb K n ck (.slice (some ⟨gs, 0, none⟩) ns (ns + 2)) (.slice B na cb) (.slice K n ck)) ∧ W3.ownsRow (W2.heap.size) TIn 1 (.slice (some ⟨gs, 0, none⟩) (ns + 2) (ns + 2)) (ns + 2) (intVals t.sh ++ intVals [-7, -7])) := Lib.hid (by rw [hW3]; exact ⟨(HU.out.on hb3).set3 _, row_set hrow (by have := HS.out; omega) _⟩)
    clear hb3 hW3 hrow
    have HS3 : Hid (gs < W3.heap.size ∧ W2.heap.size ≤ gs) := Lib.hid ⟨(HC.out.2.lt gs rfl).2, (HC.out.2.lt gs rfl).1⟩
    go_upto_region 3 with fail
    refine tw_at HC.out.1 HNA.out ha8 (HSH.out.2.on HC.out.1.be) ?_ ?_
    · exact fun _ _ _ _ _ h => h
    intro _ _ _ _ _ _ _ _ _ _ _ _ _ _ _ _ _ _ _ gl V W4 hb4 hW4 hrow
    have HE : Hid ((TwU w W4 t A ns ca B na cb K n ck (.slice (some ⟨gs, 0, none⟩) ns (ns + 2)) (.slice (some ⟨gl, 0, none⟩) na (na + 2)) (.slice K n ck)) ∧ W4.ownsRow (W2.heap.size) TIn 1 (.slice (some ⟨gs, 0, none⟩) (ns + 2) (ns + 2)) (ns + 2) (intVals t.sh ++ intVals [-7, -7]) ∧ W4.ownsRow (W3.heap.size) TI6 1 (.slice (some ⟨gl, 0, none⟩) (na + 2) (na + 2)) (na + 2) (intVals t.at_ ++ intVals [-7, -7])) := Lib.hid (by rw [hW4]; exact ⟨(HC.out.1.on hb4).set4 _, row_set (row_on HC.out.2 hb4) (by have := HS.out; omega) _, row_set hrow (by have := HS3.out; have := HS.out; omega) _⟩)
    clear hb4 hW4 hrow V
    have HG : Hid (gs < gl ∧ gl < W4.heap.size ∧ w.heap.size + 3 ≤ gs) := Lib.hid ⟨Nat.lt_of_lt_of_le HS3.out.1 (HE.out.2.2.lt gl rfl).1, (HE.out.2.2.lt gl rfl).2, by have := HS.out; have := HS3.out.2; omega⟩
    clear HC
    obtain ⟨gk, hgk⟩ : ∃ g, g = W4.heap.size := ⟨_, rfl⟩
    obtain ⟨W5, hW5⟩ : ∃ W5, W5 = W4.alloc (.cells (madeCells tm0 ((n + 2) * 6)) TTm) := ⟨_, rfl⟩
    have mk3 : (Instr.makeSlice 22 (.int .i64 (n : Int)) (.int .i64 ((n : Int) + 2))).run Tryz.prog W4 = .ok (.slice (some ⟨gk, 0, none⟩) n (n + 2)) W5 := by
      have h := run_make (P := Tryz.prog) (w := W4) 22 TTm j0 (.agg tm0) Tryz.underlying22 hj hz0 .i64 .i64 (n : Int) ((n : Int) + 2) (by omega) (by omega) (by rw [hz2]; omega) (by omega)
      rw [hz1, show ((n : Int) + 2).toNat = n + 2 by omega, Int.toNat_natCast] at h
      rw [hW5, hgk]
      exact h
    have hrow5 : CellRow W5 gk ((n + 2) * 6) 0 [] := by
      rw [hW5, hgk]
      exact ⟨_, heap_alloc_new W4 _, size_madeCells _ _, rfl⟩
    have hb5 : Below W4.heap.size W4 W5 := by rw [hW5]; exact (Below.refl _ _).alloc (Nat.le_refl _) _
    have hU5 := HE.out.1.on hb5
    have HR5 : Hid (W5.ownsRow (W2.heap.size) TIn 1 (.slice (some ⟨gs, 0, none⟩) (ns + 2) (ns + 2)) (ns + 2) (intVals t.sh ++ intVals [-7, -7]) ∧ W5.ownsRow (W3.heap.size) TI6 1 (.slice (some ⟨gl, 0, none⟩) (na + 2) (na + 2)) (na + 2) (intVals t.at_ ++ intVals [-7, -7])) := Lib.hid ⟨row_on HE.out.2.1 hb5, row_on HE.out.2.2 hb5⟩
    have HG5 : Hid (w.heap.size + 1 + 1 < gk ∧ gl < gk) := Lib.hid (by have := HG.out; omega)
    have H6 : Hid ((TwU w (W5.setCell ⟨w.heap.size + 1 + 1, 5, none⟩ (.slice (some ⟨gk, 0, none⟩) n (n + 2))) t A ns ca B na cb K n ck (.slice (some ⟨gs, 0, none⟩) ns (ns + 2)) (.slice (some ⟨gl, 0, none⟩) na (na + 2)) (.slice (some ⟨gk, 0, none⟩) n (n + 2))) ∧ (W5.setCell ⟨w.heap.size + 1 + 1, 5, none⟩ (.slice (some ⟨gk, 0, none⟩) n (n + 2))).ownsRow (W2.heap.size) TIn 1 (.slice (some ⟨gs, 0, none⟩) (ns + 2) (ns + 2)) (ns + 2) (intVals t.sh ++ intVals [-7, -7]) ∧ (W5.setCell ⟨w.heap.size + 1 + 1, 5, none⟩ (.slice (some ⟨gk, 0, none⟩) n (n + 2))).ownsRow (W3.heap.size) TI6 1 (.slice (some ⟨gl, 0, none⟩) (na + 2) (na + 2)) (na + 2) (intVals t.at_ ++ intVals [-7, -7]) ∧ TwL gk (W5.setCell ⟨w.heap.size + 1 + 1, 5, none⟩ (.slice (some ⟨gk, 0, none⟩) n (n + 2))) t.kids n 0 []) :=
      Lib.hid ⟨hU5.set5 _, row_set HR5.out.1 (by have := HS.out; omega) _, row_set HR5.out.2 (by have := HS3.out; have := HS.out; omega) _, ⟨by simp only [List.take_zero, rtCellsL, Nat.zero_mul]; exact hrow5.kept (Below.heap_setCell _ _ _ _ (by have := HG5.out; show gk ≠ w.heap.size + 1 + 1; omega)), by simp only [List.take_zero, OwnL], by simp only [List.take_zero, SevL], by simp only [blksL]; exact List.nodup_nil, by simp only [blksL]; exact List.not_mem_nil⟩⟩
    have e4 := HE.out.1.kids
    obtain ⟨q5, u5, fu, lt1, lt2⟩ := e4
    obtain ⟨q5', u5', fu', lt1', lt2'⟩ := hU5.kids
    have wr4 : (0 : Int) ≤ (n : Int) := by omega
    have wr5 : (n : Int) ≤ (n : Int) + 2 := by omega
    clear hrow5 hb5 hU5 hW5 hgk
    go_wp2_with fail
    clear q5 u5 fu lt1 lt2 q5' u5' fu' lt1' lt2' mk3
    go_loopw [4] (fun v4 W => ∃ (i : Nat) (rl : List Rt), i ≤ n ∧ v4 = .int .i64 i ∧ Hid ((TwU w W t A ns ca B na cb K n ck (.slice (some ⟨gs, 0, none⟩) ns (ns + 2)) (.slice (some ⟨gl, 0, none⟩) na (na + 2)) (.slice (some ⟨gk, 0, none⟩) n (n + 2))) ∧ W.ownsRow (W2.heap.size) TIn 1 (.slice (some ⟨gs, 0, none⟩) (ns + 2) (ns + 2)) (ns + 2) (intVals t.sh ++ intVals [-7, -7]) ∧ W.ownsRow (W3.heap.size) TI6 1 (.slice (some ⟨gl, 0, none⟩) (na + 2) (na + 2)) (na + 2) (intVals t.at_ ++ intVals [-7, -7]) ∧ TwL gk W t.kids n i rl)) (fun v _ => n - (intOf v).toNat)
    case atStart => exact ⟨0, [], Nat.zero_le _, rfl, H6⟩
    case round =>
      obtain ⟨i, rl, hi, rfl, HI⟩ := hrel
      obtain ⟨q5, u5, fu, lt1, lt2⟩ := HI.out.1.kids
      by_cases hlt : i < n
      · obtain ⟨k, hk2⟩ : ∃ k, t.kids[i]? = some k := ⟨_, List.getElem?_eq_getElem (by rw [← HN.out]; exact hlt)⟩
        obtain ⟨b', off', rfl, hpk⟩ := (HAT.out.kids.on HI.out.1.be).get hk2
        rw [Nat.zero_add] at hpk
        obtain ⟨A', ca', B', cb', K', ck', hlt', p0, p1, p2, p3, p4, p5, hat'⟩ := hpk.cells
        have HC2 : Hid (cnt k ≤ N) := Lib.hid (by have := cnt_kid hk2; have := HNN.out; omega)
        have HKW : Hid (WfT k) := Lib.hid (HWF.out.node.each k (List.mem_of_getElem? hk2))
        have HKT := Lib.hid hk2
        have HAT' := Lib.hid hat'
        have b1 : (0 : Int) ≤ (i : Int) := by omega
        have b2 : (i : Int) < (n : Int) := by omega
        clear hk2 hpk hat'
        go_wp2_with fail
        refine (IH.out k A' ca' B' cb' K' ck' wr HC2.out HAT'.out HKW.out).mono ?_
        rintro e w7 ⟨r, rfl, ho7, hs7, hn7, hb7⟩
        obtain ⟨w8, hw8⟩ : ∃ w8, w8 = w7.alloc (.cells #[.int .i64 k.kind, .string k.text, .int .i64 k.n, .slice r.s.p r.s.n r.s.c, .slice r.a.p r.a.n r.a.c, .slice r.k.p r.k.n r.k.c] TTm) := ⟨_, rfl⟩
        have hc8 : w8.heap[w7.heap.size]? = some (.cells #[.int .i64 k.kind, .string k.text, .int .i64 k.n, .slice r.s.p r.s.n r.s.c, .slice r.a.p r.a.n r.a.c, .slice r.k.p r.k.n r.k.c] TTm (0, 0)) := by rw [hw8]; exact heap_alloc_new _ _
        have hb8 : Below w7.heap.size w7 w8 := by rw [hw8]; exact (Below.refl _ _).alloc (Nat.le_refl _) _
        have HW8 := Lib.hid hw8
        have h78 := hb7.then_ hb8
        have H9 : Hid ((TwU w w8 t A ns ca B na cb (some ⟨b', off', none⟩) n ck (.slice (some ⟨gs, 0, none⟩) ns (ns + 2)) (.slice (some ⟨gl, 0, none⟩) na (na + 2)) (.slice (some ⟨gk, 0, none⟩) n (n + 2))) ∧ w8.ownsRow (W2.heap.size) TIn 1 (.slice (some ⟨gs, 0, none⟩) (ns + 2) (ns + 2)) (ns + 2) (intVals t.sh ++ intVals [-7, -7]) ∧ w8.ownsRow (W3.heap.size) TI6 1 (.slice (some ⟨gl, 0, none⟩) (na + 2) (na + 2)) (na + 2) (intVals t.at_ ++ intVals [-7, -7]) ∧ CellRow w8 gk ((n + 2) * 6) (i * 6) (rtCellsL (t.kids.take i) rl)) := Lib.hid ⟨HI.out.1.on h78, row_on HI.out.2.1 h78, row_on HI.out.2.2.1 h78, HI.out.2.2.2.row.on h78⟩
        have HT9 := Lib.hid (HI.out.2.2.2.more HKT.out hlt hb7 ho7 hs7 hn7 hb8)
        obtain ⟨V, hV⟩ : ∃ V, V = ((((((w8.setCell ⟨gk, i * 6, none⟩ (.int .i64 k.kind)).setCell ⟨gk, i * 6 + 1, none⟩ (.string k.text)).setCell ⟨gk, i * 6 + 2, none⟩ (.int .i64 k.n)).setCell ⟨gk, i * 6 + 3, none⟩ (.slice r.s.p r.s.n r.s.c)).setCell ⟨gk, i * 6 + 4, none⟩ (.slice r.a.p r.a.n r.a.c)).setCell ⟨gk, i * 6 + 5, none⟩ (.slice r.k.p r.k.n r.k.c)) := ⟨_, rfl⟩
        have hgrV : w8.grownBy V (some gk) := by rw [hV]; exact six_grown _ _ _ _ _ _ _ _ _
        have H10 : Hid ((TwU w V t A ns ca B na cb (some ⟨b', off', none⟩) n ck (.slice (some ⟨gs, 0, none⟩) ns (ns + 2)) (.slice (some ⟨gl, 0, none⟩) na (na + 2)) (.slice (some ⟨gk, 0, none⟩) n (n + 2))) ∧ V.ownsRow (W2.heap.size) TIn 1 (.slice (some ⟨gs, 0, none⟩) (ns + 2) (ns + 2)) (ns + 2) (intVals t.sh ++ intVals [-7, -7]) ∧ V.ownsRow (W3.heap.size) TI6 1 (.slice (some ⟨gl, 0, none⟩) (na + 2) (na + 2)) (na + 2) (intVals t.at_ ++ intVals [-7, -7]) ∧ TwL gk V t.kids n (i + 1) (rl ++ [r])) := Lib.hid ⟨H9.out.1.grown hgrV HG5.out.1, H9.out.2.1.kept hgrV (.inr (by show some gs ≠ some gk; have := HG.out; have := HG5.out; simp; omega)), H9.out.2.2.1.kept hgrV (.inr (by show some gl ≠ some gk; have := HG5.out; simp; omega)), by rw [hV]; exact HT9.out⟩
        rw [hV] at H10
        clear hV hgrV
        obtain ⟨y0, hy0⟩ := H9.out.2.2.2.has (i * 6) (by omega)
        obtain ⟨y1, hy1⟩ := H9.out.2.2.2.has (i * 6 + 1) (by omega)
        obtain ⟨y2, hy2⟩ := H9.out.2.2.2.has (i * 6 + 2) (by omega)
        obtain ⟨y3, hy3⟩ := H9.out.2.2.2.has (i * 6 + 3) (by omega)
        obtain ⟨y4, hy4⟩ := H9.out.2.2.2.has (i * 6 + 4) (by omega)
        obtain ⟨y5, hy5⟩ := H9.out.2.2.2.has (i * 6 + 5) (by omega)
        have fy := H9.out.2.2.2.fz
        have ly := H9.out.2.2.2.lt
        have c0 := cell_at hc8 (j := 0) rfl
        have c1 := cell_at hc8 (j := 1) rfl
        have c2 := cell_at hc8 (j := 2) rfl
        have c3 := cell_at hc8 (j := 3) rfl
        have c4 := cell_at hc8 (j := 4) rfl
        have c5 := cell_at hc8 (j := 5) rfl
        have cl := heap_lt hc8
        clear hw8 hc8 hb8 h78 hb7 ho7 hs7 hn7 q5 u5 fu lt1 lt2 p0 p1 p2 p3 p4 p5 hlt'
        obtain ⟨q5, u5, fu, lt1, lt2⟩ := H9.out.1.kids
        go_upto_region 9 with fail
        rw [← HW8.out]
        go_wp2_with fail
        exact ⟨⟨i + 1, rl ++ [r], by omega, by go_num, H10⟩, by simp [intOf]; omega⟩
      · obtain rfl : i = n := by omega
        clear hlt
        have htk : t.kids.take i = t.kids := by rw [HN.out]; exact List.take_length
        have hI := HI.out.2.2.2
        have hrow := hI.row
        have hown := hI.own
        have hsev := hI.sev
        rw [htk] at hrow hown hsev
        have HR := Lib.hid (And.intro hrow (And.intro hown (And.intro hsev (And.intro hI.nd hI.ap))))
        clear htk hI hrow hown hsev
        have HI0 : Hid ((TwU w wr t A ns ca B na cb K i ck (.slice (some ⟨gs, 0, none⟩) ns (ns + 2)) (.slice (some ⟨gl, 0, none⟩) na (na + 2)) (.slice (some ⟨gk, 0, none⟩) i (i + 2))) ∧ wr.ownsRow (W2.heap.size) TIn 1 (.slice (some ⟨gs, 0, none⟩) (ns + 2) (ns + 2)) (ns + 2) (intVals t.sh ++ intVals [-7, -7]) ∧ wr.ownsRow (W3.heap.size) TI6 1 (.slice (some ⟨gl, 0, none⟩) (na + 2) (na + 2)) (na + 2) (intVals t.at_ ++ intVals [-7, -7]) ∧ CellRow wr gk ((i + 2) * 6) (i * 6) (rtCellsL t.kids rl)) := Lib.hid ⟨HI.out.1, HI.out.2.1, HI.out.2.2.1, HR.out.1⟩
        go_upto_region 11 with fail
        obtain ⟨V1, hV⟩ : ∃ V, V = ((((((wr.setCell ⟨gk, i * 6, none⟩ (.int .i64 (-7))).setCell ⟨gk, i * 6 + 1, none⟩ (.string ⟨#[]⟩)).setCell ⟨gk, i * 6 + 2, none⟩ (.int .i64 0)).setCell ⟨gk, i * 6 + 3, none⟩ (.slice none 0 0)).setCell ⟨gk, i * 6 + 4, none⟩ (.slice none 0 0)).setCell ⟨gk, i * 6 + 5, none⟩ (.slice none 0 0)) := ⟨_, rfl⟩
        have hgrV : wr.grownBy V1 (some gk) := by rw [hV]; exact six_grown _ _ _ _ _ _ _ _ _
        have HI1 : Hid ((TwU w V1 t A ns ca B na cb K i ck (.slice (some ⟨gs, 0, none⟩) ns (ns + 2)) (.slice (some ⟨gl, 0, none⟩) na (na + 2)) (.slice (some ⟨gk, 0, none⟩) i (i + 2))) ∧ V1.ownsRow (W2.heap.size) TIn 1 (.slice (some ⟨gs, 0, none⟩) (ns + 2) (ns + 2)) (ns + 2) (intVals t.sh ++ intVals [-7, -7]) ∧ V1.ownsRow (W3.heap.size) TI6 1 (.slice (some ⟨gl, 0, none⟩) (na + 2) (na + 2)) (na + 2) (intVals t.at_ ++ intVals [-7, -7]) ∧ CellRow V1 gk ((i + 2) * 6) ((i + 1) * 6) ((rtCellsL t.kids rl) ++ sevensK.take 6)) := Lib.hid ⟨HI0.out.1.grown hgrV HG5.out.1, HI0.out.2.1.kept hgrV (.inr (by show some gs ≠ some gk; have := HG.out; have := HG5.out; simp; omega)), HI0.out.2.2.1.kept hgrV (.inr (by show some gl ≠ some gk; have := HG5.out; simp; omega)), by
          have h9 := HI0.out.2.2.2.six (by omega) (.int .i64 (-7)) (.string ⟨#[]⟩) (.int .i64 0) (.slice none 0 0) (.slice none 0 0) (.slice none 0 0)
          rw [hV]
          rw [show i * 6 + 6 = (i + 1) * 6 by omega] at h9
          exact h9⟩
        have hG0 : wr.grownBy V1 (some gk) := hgrV
        have hV0 := Lib.hid hV
        clear hV hgrV q5 u5 fu lt1 lt2
        obtain ⟨q5, u5, fu, lt1, lt2⟩ := HI0.out.1.kids
        obtain ⟨y0, hy0⟩ := HI0.out.2.2.2.has (i * 6) (by omega)
        obtain ⟨y1, hy1⟩ := HI0.out.2.2.2.has (i * 6 + 1) (by omega)
        obtain ⟨y2, hy2⟩ := HI0.out.2.2.2.has (i * 6 + 2) (by omega)
        obtain ⟨y3, hy3⟩ := HI0.out.2.2.2.has (i * 6 + 3) (by omega)
        obtain ⟨y4, hy4⟩ := HI0.out.2.2.2.has (i * 6 + 4) (by omega)
        obtain ⟨y5, hy5⟩ := HI0.out.2.2.2.has (i * 6 + 5) (by omega)
        have fy := HI0.out.2.2.2.fz
        have ly := HI0.out.2.2.2.lt
        have HGN0 := Lib.hid hG0
        clear hG0
        go_upto_region 12 with fail
        rw [← hV0.out]
        clear hy0 hy1 hy2 hy3 hy4 hy5 fy ly
        obtain ⟨V2, hV⟩ : ∃ V, V = ((((((V1.setCell ⟨gk, (i + 1) * 6, none⟩ (.int .i64 (-7))).setCell ⟨gk, (i + 1) * 6 + 1, none⟩ (.string ⟨#[]⟩)).setCell ⟨gk, (i + 1) * 6 + 2, none⟩ (.int .i64 0)).setCell ⟨gk, (i + 1) * 6 + 3, none⟩ (.slice none 0 0)).setCell ⟨gk, (i + 1) * 6 + 4, none⟩ (.slice none 0 0)).setCell ⟨gk, (i + 1) * 6 + 5, none⟩ (.slice none 0 0)) := ⟨_, rfl⟩
        have hgrV : V1.grownBy V2 (some gk) := by rw [hV]; exact six_grown _ _ _ _ _ _ _ _ _
        have HI2 : Hid ((TwU w V2 t A ns ca B na cb K i ck (.slice (some ⟨gs, 0, none⟩) ns (ns + 2)) (.slice (some ⟨gl, 0, none⟩) na (na + 2)) (.slice (some ⟨gk, 0, none⟩) i (i + 2))) ∧ V2.ownsRow (W2.heap.size) TIn 1 (.slice (some ⟨gs, 0, none⟩) (ns + 2) (ns + 2)) (ns + 2) (intVals t.sh ++ intVals [-7, -7]) ∧ V2.ownsRow (W3.heap.size) TI6 1 (.slice (some ⟨gl, 0, none⟩) (na + 2) (na + 2)) (na + 2) (intVals t.at_ ++ intVals [-7, -7]) ∧ CellRow V2 gk ((i + 2) * 6) ((i + 2) * 6) ((rtCellsL t.kids rl) ++ sevensK.take 6 ++ sevensK.take 6)) := Lib.hid ⟨HI1.out.1.grown hgrV HG5.out.1, HI1.out.2.1.kept hgrV (.inr (by show some gs ≠ some gk; have := HG.out; have := HG5.out; simp; omega)), HI1.out.2.2.1.kept hgrV (.inr (by show some gl ≠ some gk; have := HG5.out; simp; omega)), by
          have h9 := HI1.out.2.2.2.six (by omega) (.int .i64 (-7)) (.string ⟨#[]⟩) (.int .i64 0) (.slice none 0 0) (.slice none 0 0) (.slice none 0 0)
          rw [hV]
          rw [show (i + 1) * 6 + 6 = (i + 2) * 6 by omega] at h9
          exact h9⟩
        have hG1 : V1.grownBy V2 (some gk) := hgrV
        have hV1 := Lib.hid hV
        clear hV hgrV q5 u5 fu lt1 lt2
        obtain ⟨q5, u5, fu, lt1, lt2⟩ := HI1.out.1.kids
        obtain ⟨y0, hy0⟩ := HI1.out.2.2.2.has ((i + 1) * 6) (by omega)
        obtain ⟨y1, hy1⟩ := HI1.out.2.2.2.has ((i + 1) * 6 + 1) (by omega)
        obtain ⟨y2, hy2⟩ := HI1.out.2.2.2.has ((i + 1) * 6 + 2) (by omega)
        obtain ⟨y3, hy3⟩ := HI1.out.2.2.2.has ((i + 1) * 6 + 3) (by omega)
        obtain ⟨y4, hy4⟩ := HI1.out.2.2.2.has ((i + 1) * 6 + 4) (by omega)
        obtain ⟨y5, hy5⟩ := HI1.out.2.2.2.has ((i + 1) * 6 + 5) (by omega)
        have fy := HI1.out.2.2.2.fz
        have ly := HI1.out.2.2.2.lt
        have HGN1 := Lib.hid hG1
        clear hG1
        go_upto_region 13 with fail
        rw [← hV1.out]
        clear hy0 hy1 hy2 hy3 hy4 hy5 fy ly
        clear q5 u5 fu lt1 lt2
        have HKL : Hid (OwnL V2 gk t.kids rl ∧ SevL V2 t.kids rl) := Lib.hid (by
          have key : ∀ g ∈ blksL rl, V2.heap[g]? = wr.heap[g]? := fun g hg => by
            have h1 := HR.out.2.1.blk g hg
            have hne : some g ≠ some gk := fun e => by injection e with e; exact HR.out.2.2.2.2 (e ▸ hg)
            exact (HGN1.out.block g (Nat.lt_of_lt_of_le h1.2 HGN0.out.size) hne).trans (HGN0.out.block g h1.2 hne)
          exact ⟨HR.out.2.1.kept key, SevL.kept (Nat.le_trans HGN0.out.size HGN1.out.size) HR.out.2.2.1 key⟩)
        have hd := HI2.out.1.tw
        have hz := HI2.out.1.rs
        have q0 := cell_at hd (j := 0) rfl
        have q1 := cell_at hd (j := 1) rfl
        have q2 := cell_at hd (j := 2) rfl
        have q3 := cell_at hd (j := 3) rfl
        have q4 := cell_at hd (j := 4) rfl
        have q5 := cell_at hd (j := 5) rfl
        have z0 := cell_at hz (j := 0) rfl
        have z1 := cell_at hz (j := 1) rfl
        have z2 := cell_at hz (j := 2) rfl
        have z3 := cell_at hz (j := 3) rfl
        have z4 := cell_at hz (j := 4) rfl
        have z5 := cell_at hz (j := 5) rfl
        have fz := unfrozen hz
        have ld := heap_lt hd
        have lz := heap_lt hz
        have HZ := Lib.hid hz
        clear hd hz
        go_wp2_with fail
        have h9 := HI2.out.2.2.2
        rw [List.append_assoc, show sevensK.take 6 ++ sevensK.take 6 = sevensK from rfl] at h9
        have hlen : (rtCellsL t.kids rl).length = i * 6 := by rw [rtCellsL_len HR.out.2.1.len, ← HN.out]
        have hl12 : sevensK.length = 12 := rfl
        obtain ⟨ho, hm, hnd⟩ := laid7_of (t := t) HNS.out HNA.out HN.out (row_low HI2.out.2.1 (B' := w.heap.size + 3) (by have := HS.out; omega)) (row_low HI2.out.2.2.1 (B' := w.heap.size + 3) (by have := HS.out; have := HS3.out; omega)) (h9.owns (n := i + 2) (by rw [List.length_append, hlen, hl12]; omega) (by unfold maxLen; omega) (Nat.le_refl gk)) hlen HKL.out.1 HKL.out.2 HR.out.2.2.2.1 HR.out.2.2.2.2 HG.out.1 HG5.out.2 (by have := HG5.out; omega)
        obtain ⟨e1, e2, e3⟩ := six (.int .i64 t.kind) (.string t.text) (.int .i64 t.n) (.slice (some ⟨gs, 0, none⟩) ns (ns + 2)) (.slice (some ⟨gl, 0, none⟩) na (na + 2)) (.slice (some ⟨gk, 0, none⟩) i (i + 2)) HZ.out HI2.out.1.be (Nat.le_succ _)
        obtain ⟨W8, hW8⟩ : ∃ W8, W8 = ((((((V2.setCell ⟨w.heap.size + 1, 0, none⟩ (.int .i64 t.kind)).setCell ⟨w.heap.size + 1, 1, none⟩ (.string t.text)).setCell ⟨w.heap.size + 1, 2, none⟩ (.int .i64 t.n)).setCell ⟨w.heap.size + 1, 3, none⟩ (.slice (some ⟨gs, 0, none⟩) ns (ns + 2))).setCell ⟨w.heap.size + 1, 4, none⟩ (.slice (some ⟨gl, 0, none⟩) na (na + 2))).setCell ⟨w.heap.size + 1, 5, none⟩ (.slice (some ⟨gk, 0, none⟩) i (i + 2))) := ⟨_, rfl⟩
        have hs8 : W8.heap.size = V2.heap.size := by rw [hW8]; simp [World.setCell]
        rw [← hW8] at e1 e2 e3 ⊢
        clear hW8
        have key : ∀ g ∈ blksT (.mk ⟨some ⟨gs, 0, none⟩, ns, ns + 2⟩ ⟨some ⟨gl, 0, none⟩, na, na + 2⟩ ⟨some ⟨gk, 0, none⟩, i, i + 2⟩ rl), W8.heap[g]? = V2.heap[g]? := fun g hg => by
          have h1 := (ho.blk g hg).1
          exact e2 g (by omega)
        have f1 := OwnT.mono (show w.heap.size ≤ w.heap.size + 3 by omega) (ho.kept key)
        have f2 := hm.kept (w' := W8) (Nat.le_of_eq hs8.symm) key
        refine bodyPost_ret (results_tm1 rfl rfl e1) rfl ?_
        exact ⟨(.mk ⟨some ⟨gs, 0, none⟩, ns, ns + 2⟩ ⟨some ⟨gl, 0, none⟩, na, na + 2⟩ ⟨some ⟨gk, 0, none⟩, i, i + 2⟩ rl), rfl, f1, f2, hnd, e3⟩
end Go.Proofs.YtebiojmfieoncaaGreat

namespace Go.Proofs.YtebiojmfieoncaaGreat
open Go.RowKit

set_option maxHeartbeats 8000000 in
set_option maxRecDepth 100000 in
theorem eqInts_same (A B : Option Addr) (ca cb : Nat) (s : List Int) (n : Nat) (w : World) (hA : IntsAt w A s) (hB : IntsAt w B s) (hln : n = s.length) (hn : n ≤ 140737488351232) :
    Calls Tryz.prog 72 #[.slice A n ca, .slice B n cb] w fun e w' => e = .returned (.bool true) ∧ Below w.heap.size w w' := by
  have HA := Lib.hid hA
  have HB := Lib.hid hB
  have HN := Lib.hid hln
  clear hA hB hln
  go_enter Tryz.func72, Tryz.ntmps72
  go_wp2_with fail
  go_loopw [5] (fun v5 wr => ∃ i : Nat, i ≤ n ∧ v5 = .int .i64 i ∧ Hid (Below w.heap.size w wr)) (fun v5 _ => n - (intOf v5).toNat)
  case atStart => exact ⟨0, Nat.zero_le _, rfl, Lib.hid (Below.refl _ _)⟩
  case round =>
    obtain ⟨i, hi, rfl, HBl⟩ := hrel
    by_cases hlt : i < n
    · obtain ⟨x, hx⟩ : ∃ x, s[i]? = some x := ⟨_, List.getElem?_eq_getElem (by rw [← HN.out]; exact hlt)⟩
      obtain ⟨b, off, rfl, _, kc⟩ := (HA.out.on HBl.out) i x hx
      obtain ⟨b', off', rfl, _, kc'⟩ := (HB.out.on HBl.out) i x hx
      have q1 : (0 : Int) ≤ (i : Int) := by omega
      have q2 : (i : Int) < (n : Int) := by omega
      clear hx
      go_wp2_with fail
      go_quiet (fail)
      go_wp2_with fail
      refine ⟨⟨i + 1, by omega, by go_num, Lib.hid (bdn HBl.out _)⟩, by simp [intOf]; omega⟩
    · obtain rfl : i = n := by omega
      clear hlt
      go_wp2_with fail
      go_ret
      exact ⟨rfl, HBl.out⟩

set_option maxRecDepth 100000 in
set_option maxHeartbeats 16000000 in
theorem kept14_any (N : Nat) : ∀ (t : Tm) (r : Rt) (A : Option Addr) (ca : Nat) (B : Option Addr) (cb : Nat) (K : Option Addr) (ck : Nat) (B0 : Nat) (w : World), cnt t ≤ N → OwnT w B0 t r → SevT w t r → TmAt w t A B K → WfT t →
    Calls Tryz.prog 30 #[rtVal t r, tmVal t A ca B cb K ck] w fun e w' => e = .returned (.bool true) ∧ Below w.heap.size w w' := by
  induction N with
  | zero => intro t r A ca B cb K ck B0 w h; cases t; simp [cnt] at h
  | succ N ih =>
    intro t r A ca B cb K ck B0 w hN ho hm hat hwf
    obtain ⟨W1, hW1⟩ : ∃ W1, W1 = (w.alloc (.cells #[.int .i64 t.kind, .string t.text, .int .i64 t.n, .slice r.s.p r.s.n r.s.c, .slice r.a.p r.a.n r.a.c, .slice r.k.p r.k.n r.k.c] TTm)).alloc (.cells (tmCells t A ca B cb K ck) TTm) := ⟨_, rfl⟩
    have hb0 : Below w.heap.size w (w.alloc (.cells #[.int .i64 t.kind, .string t.text, .int .i64 t.n, .slice r.s.p r.s.n r.s.c, .slice r.a.p r.a.n r.a.c, .slice r.k.p r.k.n r.k.c] TTm)) := (Below.refl _ _).alloc (Nat.le_refl _) _
    have hb1 : Below w.heap.size w W1 := by rw [hW1]; exact hb0.alloc hb0.size _
    have hx1 : W1.heap[w.heap.size]? = some (.cells #[.int .i64 t.kind, .string t.text, .int .i64 t.n, .slice r.s.p r.s.n r.s.c, .slice r.a.p r.a.n r.a.c, .slice r.k.p r.k.n r.k.c] TTm (0, 0)) := by rw [hW1]; exact (Below.heap_alloc _ _ _ (by simp)).trans (heap_alloc_new w _)
    have hx2 : W1.heap[w.heap.size + 1]? = some (.cells (tmCells t A ca B cb K ck) TTm (0, 0)) := by rw [hW1]; exact heap_new2 _ _ _
    obtain ⟨hrt, e1, e2, e3⟩ := ho.read
    obtain ⟨m1, m2, m3, m4⟩ := hm.parts
    rw [← e1] at m1
    rw [← e2] at m2
    rw [← e3] at m3
    obtain ⟨gs, hs1, hs2, hs3, hs4, hs5⟩ := m1.on hb1
    obtain ⟨ga, ha1, ha2, ha3, ha4, ha5⟩ := m2.on hb1
    obtain ⟨gk, hk1, hk2, hk3, hk4, hk5, hk6, hk7⟩ := m3.on hb1
    have hr1 : r.s.n ≤ 140737488351232 := by rw [e1]; exact hwf.node.sh
    have hr2 : r.a.n ≤ 140737488351232 := by rw [e2]; exact hwf.node.at_
    have hr3 : r.k.n ≤ 140737488351232 := by rw [e3]; exact hwf.node.kids
    have HO := Lib.hid (And.intro (ho.on hb1) (And.intro (hm.on hb1) (And.intro hwf hN)))
    have HRT := Lib.hid (And.intro (hrt.on hb1) (hat.on hb1))
    have HE := Lib.hid (And.intro e1 (And.intro e2 e3))
    have HW1 := Lib.hid (And.intro hW1 hb1)
    have IH := Lib.hid ih
    obtain ⟨ns, hns⟩ : ∃ n, n = r.s.n := ⟨_, rfl⟩
    obtain ⟨na, hna⟩ : ∃ n, n = r.a.n := ⟨_, rfl⟩
    obtain ⟨nk, hnk⟩ : ∃ n, n = r.k.n := ⟨_, rfl⟩
    rw [← hns] at hs2 hs4 hs5 hr1
    rw [← hna] at ha2 ha4 ha5 hr2
    rw [← hnk] at hk2 hk4 hk5 hk6 hk7 hr3
    have HN := Lib.hid (And.intro (hns.trans e1) (And.intro (hna.trans e2) (And.intro (hnk.trans e3) (And.intro hs1 (And.intro ha1 hk1)))))
    have HK : Hid (∀ W, Below W1.heap.size W1 W → (W.cell? ⟨w.heap.size, 0, none⟩ = some (.int .i64 t.kind) ∧ W.cell? ⟨w.heap.size, 1, none⟩ = some (.string t.text) ∧ W.cell? ⟨w.heap.size, 2, none⟩ = some (.int .i64 t.n) ∧ W.cell? ⟨w.heap.size, 3, none⟩ = some (.slice (some ⟨gs, 0, none⟩) ns r.s.c) ∧ W.cell? ⟨w.heap.size, 4, none⟩ = some (.slice (some ⟨ga, 0, none⟩) na r.a.c) ∧ W.cell? ⟨w.heap.size, 5, none⟩ = some (.slice (some ⟨gk, 0, none⟩) nk r.k.c)) ∧
        W.cell? ⟨w.heap.size + 1, 0, none⟩ = some (.int .i64 t.kind) ∧ W.cell? ⟨w.heap.size + 1, 1, none⟩ = some (.string t.text) ∧ W.cell? ⟨w.heap.size + 1, 2, none⟩ = some (.int .i64 t.n) ∧ W.cell? ⟨w.heap.size + 1, 3, none⟩ = some (.slice A ns ca) ∧ W.cell? ⟨w.heap.size + 1, 4, none⟩ = some (.slice B na cb) ∧ W.cell? ⟨w.heap.size + 1, 5, none⟩ = some (.slice K nk ck)) := Lib.hid fun W h => by
      have hh := (h.block _ (heap_lt hx1)).trans hx1
      have hh2 := (h.block _ (heap_lt hx2)).trans hx2
      refine ⟨?_, ?_⟩
      · rw [← hs1, ← ha1, ← hk1, hns, hna, hnk]
        exact ⟨cell_at hh rfl, cell_at hh rfl, cell_at hh rfl, cell_at hh rfl, cell_at hh rfl, cell_at hh rfl⟩
      · rw [hns, hna, hnk, e1, e2, e3]
        exact ⟨cell_at hh2 rfl, cell_at hh2 rfl, cell_at hh2 rfl, cell_at hh2 rfl, cell_at hh2 rfl, cell_at hh2 rfl⟩
    have HEQ : Hid (Calls Tryz.prog 72 #[.slice (some ⟨gs, 0, none⟩) ns r.s.c, .slice A ns ca] W1 fun e w' => e = .returned (.bool true) ∧ Below W1.heap.size W1 w') :=
      Lib.hid (eqInts_same (some ⟨gs, 0, none⟩) A r.s.c ca t.sh ns W1 (by rw [← hs1]; exact HRT.out.1.sh) HRT.out.2.sh (hns.trans e1) hr1)
    have HIA : Hid (IntsAt W1 (some ⟨ga, 0, none⟩) t.at_ ∧ IntsAt W1 B t.at_) := Lib.hid ⟨by rw [← ha1]; exact HRT.out.1.at_, HRT.out.2.at_⟩
    obtain ⟨⟨k0, k1, k2, k3, k4, k5⟩, p0, p1, p2, p3, p4, p5⟩ := HK.out W1 (Below.refl _ _)
    have i1 : (ns : Int) + 2 ≤ (r.s.c : Int) := by omega
    have i2 : (na : Int) + 2 ≤ (r.a.c : Int) := by omega
    have i3 : (nk : Int) + 2 ≤ (r.k.c : Int) := by omega
    have HM1 := Lib.hid (And.intro (And.intro hs3 (And.intro hs4 hs5)) (And.intro (And.intro ha3 (And.intro ha4 ha5)) (And.intro hk3 (And.intro hk4 (And.intro hk5 (And.intro hk6 hk7))))))
    have HAT := Lib.hid hat
    clear ho hm hat hwf hN hb0 hb1 hx1 hx2 e1 e2 e3 m1 m2 m3 m4 ih hW1 hs1 ha1 hk1 hns hna hnk hrt hs3 hs4 hs5 ha3 ha4 ha5 hk3 hk4 hk5 hk6 hk7 hs2 ha2 hk2
    unfold rtVal
    go_enter Tryz.func30, Tryz.ntmps30
    go_upto_region 1 with fail
    rw [← HW1.out.1]
    go_wp2_with fail
    refine HEQ.out.mono ?_
    rintro e w2 ⟨rfl, hb2⟩
    have HB2 := Lib.hid hb2
    clear hb2 k0 k1 k2 k3 k4 k5 p0 p1 p2 p3 p4 p5
    obtain ⟨⟨_, _, _, k3, k4, k5⟩, _, _, _, p3, p4, p5⟩ := HK.out w2 HB2.out
    go_wp2_with fail
    clear k3 k4 k5 p3 p4 p5
    go_loopw [5] (fun v W => ∃ i : Nat, i ≤ na ∧ v = .int .i64 i ∧ Hid (Below W1.heap.size W1 W)) (fun v _ => na - (intOf v).toNat)
    case atStart => exact ⟨0, Nat.zero_le _, rfl, HB2⟩
    case round =>
      obtain ⟨i, hi, rfl, HI⟩ := hrel
      obtain ⟨⟨_, _, _, _, k4, _⟩, _, _, _, _, p4, _⟩ := HK.out wr HI.out
      by_cases hlt : i < na
      · obtain ⟨x, hx⟩ : ∃ x, t.at_[i]? = some x := ⟨_, List.getElem?_eq_getElem (by rw [← HN.out.2.1]; exact hlt)⟩
        obtain ⟨b, off, e, _, kc⟩ := (HIA.out.1.on HI.out) i x hx
        simp only [Option.some.injEq, Addr.mk.injEq, and_true] at e
        obtain ⟨rfl, rfl⟩ := e
        obtain ⟨b', off', rfl, _, kc'⟩ := (HIA.out.2.on HI.out) i x hx
        rw [Nat.zero_add] at kc
        have q1 : (0 : Int) ≤ (i : Int) := by omega
        have q2 : (i : Int) < (na : Int) := by omega
        clear hx
        go_wp2_with fail
        go_quiet (fail)
        go_wp2_with fail
        exact ⟨⟨i + 1, by omega, by go_num, Lib.hid (bdn HI.out _)⟩, by simp [intOf]; omega⟩
      · obtain rfl : i = na := by omega
        clear hlt k4 p4
        obtain ⟨⟨_, _, _, k3, k4, k5⟩, _, _, _, p3, p4, p5⟩ := HK.out wr HI.out
        go_wp2_with fail
        go_quiet (fail)
        go_wp2_with fail
        go_quiet (fail)
        have HM2 : Hid ((gs < wr.heap.size ∧ wr.cell? ⟨gs, ns, none⟩ = some (.int .i64 (-7)) ∧ wr.cell? ⟨gs, ns + 1, none⟩ = some (.int .i64 (-7))) ∧ (ga < wr.heap.size ∧ wr.cell? ⟨ga, i, none⟩ = some (.int .i64 (-7)) ∧ wr.cell? ⟨ga, i + 1, none⟩ = some (.int .i64 (-7))) ∧ gk < wr.heap.size ∧ wr.cell? ⟨gk, nk * 6, none⟩ = some (.int .i64 (-7)) ∧ wr.cell? ⟨gk, nk * 6 + 5, none⟩ = some (.slice none 0 0) ∧ wr.cell? ⟨gk, (nk + 1) * 6, none⟩ = some (.int .i64 (-7)) ∧ wr.cell? ⟨gk, (nk + 1) * 6 + 5, none⟩ = some (.slice none 0 0)) := Lib.hid (by
          obtain ⟨⟨a1, a2, a3⟩, ⟨b1, b2, b3⟩, c1, c2, c3, c4, c5⟩ := HM1.out
          have key : ∀ g j v, g < W1.heap.size → W1.cell? ⟨g, j, none⟩ = some v → wr.cell? ⟨g, j, none⟩ = some v := fun g j v hg hv => (HI.out.cell (p := ⟨g, j, none⟩) hg).trans hv
          have sz := HI.out.size
          exact ⟨⟨Nat.lt_of_lt_of_le a1 sz, key _ _ _ a1 a2, key _ _ _ a1 a3⟩, ⟨Nat.lt_of_lt_of_le b1 sz, key _ _ _ b1 b2, key _ _ _ b1 b3⟩, Nat.lt_of_lt_of_le c1 sz, key _ _ _ c1 c2, key _ _ _ c1 c3, key _ _ _ c1 c4, key _ _ _ c1 c5⟩)
        obtain ⟨⟨a1, a2, a3⟩, ⟨b1, b2, b3⟩, c1, c2, c3, c4, c5⟩ := HM2.out
        clear k3 k4 k5 p3 p4 p5
        go_wp2_with fail
        clear a1 a2 a3 b1 b2 b3 c1 c2 c3 c4 c5
        go_loopw [12] (fun v W => ∃ j : Nat, j ≤ nk ∧ v = .int .i64 j ∧ Hid (Below W1.heap.size W1 W)) (fun v _ => nk - (intOf v).toNat)
        case atStart => exact ⟨0, Nat.zero_le _, rfl, Lib.hid (bdn HI.out _)⟩
        case round =>
          obtain ⟨j, hj, rfl, HJ⟩ := hrel
          obtain ⟨⟨_, _, _, _, _, k5⟩, _, _, _, _, _, p5⟩ := HK.out wr HJ.out
          by_cases hlt : j < nk
          · obtain ⟨k, hk⟩ : ∃ k, t.kids[j]? = some k := ⟨_, List.getElem?_eq_getElem (by rw [← HN.out.2.2.1]; exact hlt)⟩
            have hon := HO.out.1.on HJ.out
            obtain ⟨_, _, d3, _, d5⟩ := hon.parts
            obtain ⟨q, hq, hoq⟩ := d5.get hk
            have hcell : ∀ j' v, (rtCells k q)[j']? = some v → wr.cell? ⟨gk, j * 6 + j', none⟩ = some v := fun j' v hv => by
              obtain ⟨g, hg, _, hc⟩ := d3.cell (rtCells_get hk hq hv)
              rw [HN.out.2.2.2.2.2] at hg
              simp only [Option.some.injEq, Addr.mk.injEq, and_true] at hg
              rw [hg]
              exact hc
            have c0 : wr.cell? ⟨gk, j * 6, none⟩ = some (.int .i64 k.kind) := hcell 0 _ rfl
            have c1 : wr.cell? ⟨gk, j * 6 + 1, none⟩ = some (.string k.text) := hcell 1 _ rfl
            have c2 : wr.cell? ⟨gk, j * 6 + 2, none⟩ = some (.int .i64 k.n) := hcell 2 _ rfl
            have c3 : wr.cell? ⟨gk, j * 6 + 3, none⟩ = some (.slice q.s.p q.s.n q.s.c) := hcell 3 _ rfl
            have c4 : wr.cell? ⟨gk, j * 6 + 4, none⟩ = some (.slice q.a.p q.a.n q.a.c) := hcell 4 _ rfl
            have c5 : wr.cell? ⟨gk, j * 6 + 5, none⟩ = some (.slice q.k.p q.k.n q.k.c) := hcell 5 _ rfl
            obtain ⟨b1, o1, rfl, hp1⟩ := HRT.out.2.kids.get hk
            rw [Nat.zero_add] at hp1
            obtain ⟨A1, ca1, B1, cb1, K1, ck1, lt1, r0, r1, r2, r3, r4, r5, hat1⟩ := hp1.cellsOn HJ.out
            have HS := Lib.hid (IH.out k q A1 ca1 B1 cb1 K1 ck1 B0 wr.drew (by have h1 := cnt_kid hk; have h2 := HO.out.2.2.2; omega) (hoq.on (Below.refl _ _).drew) (((HO.out.2.1.parts.2.2.2.on HJ.out).get hk hq).on (Below.refl _ _).drew) ((hat1.on HJ.out).on (Below.refl _ _).drew) (HO.out.2.2.1.node.each k (List.mem_of_getElem? hk)))
            have q1 : (0 : Int) ≤ (j : Int) := by omega
            have q2 : (j : Int) < (nk : Int) := by omega
            have gl := (c0 : _)
            have hgk : gk < wr.heap.size := Nat.lt_of_lt_of_le HM1.out.2.2.1 HJ.out.size
            clear hk hp1 hat1 hon d3 d5 hq hoq hcell gl
            unfold rtVal tmVal at HS
            go_wp2_with fail
            go_still_tail 10, (by kernel_rfl)
            change wpList _ _ _ _ _ wr.drew
            go_wp2_with fail
            refine HS.out.mono ?_
            rintro e w7 ⟨rfl, hb7⟩
            have HB7 := Lib.hid (HJ.out.drew.then_ hb7)
            clear hb7 c0 c1 c2 c3 c4 c5 r0 r1 r2 r3 r4 r5 k5 p5
            go_wp2_with fail
            exact ⟨⟨j + 1, by omega, by go_num, HB7⟩, by simp [intOf]; omega⟩
          · obtain rfl : j = nk := by omega
            clear hlt
            go_wp2_with fail
            go_ret
            exact ⟨rfl, HW1.out.2.then_ HJ.out⟩
end Go.Proofs.YtebiojmfieoncaaGreat
