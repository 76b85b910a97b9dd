/- Trains: the contracts of train and turned; a new row outside of some blocks. No condition. · Verbs turned kid by kid: plain laws; what stands meanwhile. No condition. -/
import Derived.Test.YtebiojmfieoncaaGreatTeQ5
import Derived.Test.YtebiojmfieoncaaGreatTeQ2
import Derived.Below
import Derived.Deep.RegionHeld
namespace Go.Proofs.YtebiojmfieoncaaGreat
open Go.RowKit

/-- what train and turned leave -/
def TrPost (u : Tm) (lo : Nat) (w : World) (e : Ending) (w' : World) : Prop := ∃ (A : Option Addr) (ca : Nat) (B : Option Addr) (cb : Nat) (K : Option Addr) (ck : Nat), e = .returned (tmVal u A ca B cb K ck) ∧ TmAt (mask w' lo w.heap.size) u A B K ∧ Below w.heap.size w w'
/-- train (function F) answers for nouns of at most N nodes -/
def TrN (F N : Nat) : Prop := ∀ (t : Tm) (A : Option Addr) (ca : Nat) (B : Option Addr) (cb : Nat) (K : Option Addr) (ck : Nat) (lo : Nat) (b : Bool) (w : World), cnt t ≤ N → lo ≤ w.heap.size → TmAt (mask w lo w.heap.size) t A B K → WfT t → goodT b t = true → cls t.kind = 1 → Calls Tryz.prog F #[tmVal t A ca B cb K ck] w (TrPost (trn N t) lo w)
/-- turned (function F) answers for verbs of at most N nodes -/
def TdN (F N : Nat) : Prop := ∀ (t : Tm) (A : Option Addr) (ca : Nat) (B : Option Addr) (cb : Nat) (K : Option Addr) (ck : Nat) (v : Int) (lo : Nat) (b : Bool) (w : World), cnt t ≤ N → lo ≤ w.heap.size → TmAt (mask w lo w.heap.size) t A B K → WfT t → goodT b t = true → v = 1 ∨ v = 2 → Calls Tryz.prog F #[tmVal t A ca B cb K ck, .int .i64 v] w (TrPost (trd N v t) lo w)
theorem TrPost.mk {u v : Tm} {lo : Nat} {w w' : World} {A : Option Addr} {ca : Nat} {B : Option Addr} {cb : Nat} {K : Option Addr} {ck : Nat} (h : v = u) (h1 : TmAt (mask w' lo w.heap.size) u A B K) (h2 : Below w.heap.size w w') : TrPost v lo w (.returned (tmVal u A ca B cb K ck)) w' := by
  subst h
  exact ⟨A, ca, B, cb, K, ck, rfl, h1, h2⟩
theorem IntsAt.subs {w w' : World} {A : Option Addr} {l : List Int} (hc : ∀ a v, w.cell? a = some v → w'.cell? a = some v) (h : IntsAt w A l) : IntsAt w' A l := fun i x hx => by
  obtain ⟨b, off, e, _, h1⟩ := h i x hx
  have h2 := hc _ _ h1
  exact ⟨b, off, e, cell_lt' h2, h2⟩
mutual
theorem TmIs.subs {w w' : World} (hc : ∀ a v, w.cell? a = some v → w'.cell? a = some v) : ∀ {t : Tm} {vs : List Value}, TmIs w t vs → TmIs w' t vs
  | .mk _ _ _ _ _ kids, _, h => by
    simp only [TmIs] at h ⊢
    obtain ⟨A, ca, B, cb, K, ck, e, h1, h2, h3⟩ := h
    exact ⟨A, ca, B, cb, K, ck, e, h1.subs hc, h2.subs hc, KidsAt.subs hc h3⟩
theorem KidsAt.subs {w w' : World} (hc : ∀ a v, w.cell? a = some v → w'.cell? a = some v) {K : Option Addr} : ∀ {ks : List Tm} {i : Nat}, KidsAt w K ks i → KidsAt w' K ks i
  | [], _, _ => by simp only [KidsAt]
  | t :: r, i, h => by
    simp only [KidsAt] at h ⊢
    obtain ⟨⟨b, off, vs, e, hlt, h1, h2⟩, h3⟩ := h
    have hl : vs[0]? = some (.int .i64 t.kind) := by
      cases t with
      | mk k s n sh a ks =>
        simp only [TmIs] at h1
        obtain ⟨A, ca, B, cb, K, ck, rfl, _⟩ := h1
        rfl
    exact ⟨⟨b, off, vs, e, cell_lt' (hc _ _ (h2 0 _ hl)), TmIs.subs hc h1, fun q u hq => hc _ _ (h2 q u hq)⟩, KidsAt.subs hc h3⟩
end
theorem TmAt.subs {w w' : World} {t : Tm} {A B K : Option Addr} (h : TmAt w t A B K) (hc : ∀ a v, w.cell? a = some v → w'.cell? a = some v) : TmAt w' t A B K := ⟨h.sh.subs hc, h.at_.subs hc, h.kids.subs hc⟩
theorem row_new_m {w : World} {lo hi : Nat} (hhi : hi ≤ w.heap.size) (l : List (Tm × Option Addr × Nat × Option Addr × Nat × Option Addr × Nat)) (h : ∀ x ∈ l, TmAt (mask w lo hi) x.1 x.2.1 x.2.2.2.1 x.2.2.2.2.2.1) {cs : Array Value} (hcs : cs.toList = l.flatMap fun x => (tmCells x.1 x.2.1 x.2.2.1 x.2.2.2.1 x.2.2.2.2.1 x.2.2.2.2.2.1 x.2.2.2.2.2.2).toList) :
    KidsAt (mask (w.alloc (.cells cs TTm)) lo hi) (some ⟨w.heap.size, 0, none⟩) (l.map (·.1)) 0 := by
  have hb : Below w.heap.size w (w.alloc (.cells cs TTm)) := (Below.refl _ _).alloc (Nat.le_refl _) _
  refine row_at (w := w) l 0 (fun x hx => mask_on (h x hx) hb) (by rw [mask_size]; simp) fun j u hj => mask_cell' (by show ¬ (lo ≤ w.heap.size ∧ w.heap.size < hi); omega) ?_
  rw [← hcs] at hj
  rw [Nat.zero_mul, Nat.zero_add]
  exact cell_at (heap_alloc_new w _) (by simpa using hj)
theorem KidsAt.mask_on {w w' : World} {lo hi : Nat} {K : Option Addr} {ks : List Tm} (h : KidsAt (mask w lo hi) K ks 0) (hb : Below w.heap.size w w') : KidsAt (mask w' lo hi) K ks 0 := h.on (mask_below lo hi hb)
/-- what both trains know at a region that draws -/
structure TrCx (w W1 : World) (lo : Nat) : Prop where
  le : lo ≤ w.heap.size
  s1 : W1.heap.size = w.heap.size + 2
  hz : W1.heap[w.heap.size + 1]? = some (.cells #[.int .i64 0, .string ⟨#[]⟩, .int .i64 0, .slice none 0 0, .slice none 0 0, .slice none 0 0] TTm (0, 0))
theorem mask_grow {w W : World} {lo hi : Nat} {t : Tm} {A B K : Option Addr} (h : TmAt (mask w lo w.heap.size) t A B K) (hb : Below w.heap.size w W) : TmAt (mask W lo hi) t A B K := h.sub (fun a v hv => by
  obtain ⟨h1, h2⟩ := mask_cell hv
  have hl := cell_lt' h2
  exact mask_cell' (by omega) ((hb.cell hl).trans h2)) (by rw [mask_size, mask_size]; exact hb.size)
abbrev sixPutQ (w : World) (g : Nat) (v0 v1 v2 v3 v4 v5 : Value) : World := (((((w.setCell ⟨g, 0, none⟩ v0).setCell ⟨g, 1, none⟩ v1).setCell ⟨g, 2, none⟩ v2).setCell ⟨g, 3, none⟩ v3).setCell ⟨g, 4, none⟩ v4).setCell ⟨g, 5, none⟩ v5
/-- the result stored, wherever the parameter's block stands -/
theorem tr_done2 {w W W' : World} {lo hi : Nat} (hlo : lo ≤ w.heap.size) (hhi : w.heap.size + 1 < hi) (hz : W.heap[w.heap.size + 1]? = some (.cells #[.int .i64 0, .string ⟨#[]⟩, .int .i64 0, .slice none 0 0, .slice none 0 0, .slice none 0 0] TTm (0, 0))) (hb : Below w.heap.size w W) {u : Tm} {A : Option Addr} {ca : Nat} {B : Option Addr} {cb : Nat} {K : Option Addr} {ck : Nat} (hu : TmAt (mask W lo hi) u A B K)
    (hW' : W' = sixPutQ W (w.heap.size + 1) (.int .i64 u.kind) (.string u.text) (.int .i64 u.n) (.slice A u.sh.length ca) (.slice B u.at_.length cb) (.slice K u.kids.length ck)) :
    W'.heap[w.heap.size + 1]? = some (.cells (tmCells u A ca B cb K ck) TTm (0, 0)) ∧ TmAt (mask W' lo w.heap.size) u A B K ∧ Below w.heap.size w W' := by
  obtain ⟨e1, e2, e3⟩ := six (.int .i64 u.kind) (.string u.text) (.int .i64 u.n) (.slice A u.sh.length ca) (.slice B u.at_.length cb) (.slice K u.kids.length ck) hz hb (Nat.le_succ _)
  subst hW'
  refine ⟨e1, mask_less (mask_to hu (fun k hk hn => e2 k (by omega)) (by simp [World.setCell])) (by omega), e3⟩
theorem mask_back {w W : World} {lo : Nat} {t : Tm} {A B K : Option Addr} (h : TmAt (mask W lo W.heap.size) t A B K) (hb : Below w.heap.size w W) (hlo : lo ≤ w.heap.size) : TmAt (mask w lo w.heap.size) t A B K := by
  have key : ∀ a v, (mask W lo W.heap.size).cell? a = some v → a.block < lo ∧ (mask w lo w.heap.size).cell? a = some v := fun a v hv => by
    obtain ⟨h1, h2⟩ := mask_cell hv
    have hl := cell_lt' h2
    have hl2 : a.block < lo := by omega
    exact ⟨hl2, mask_cell' (by omega) ((hb.cell (by omega)).symm.trans h2)⟩
  exact h.subs (fun a v hv => (key a v hv).2)
/-- the result stored -/
theorem tr_done {w W1 W W' : World} {lo : Nat} (cx : TrCx w W1 lo) (hb1 : Below w.heap.size w W1) (hb : Below W1.heap.size W1 W) {u : Tm} {A : Option Addr} {ca : Nat} {B : Option Addr} {cb : Nat} {K : Option Addr} {ck : Nat} (hu : TmAt (mask W lo W1.heap.size) u A B K)
    (hW' : W' = sixPutQ W (w.heap.size + 1) (.int .i64 u.kind) (.string u.text) (.int .i64 u.n) (.slice A u.sh.length ca) (.slice B u.at_.length cb) (.slice K u.kids.length ck)) :
    W'.heap[w.heap.size + 1]? = some (.cells (tmCells u A ca B cb K ck) TTm (0, 0)) ∧ TmAt (mask W' lo w.heap.size) u A B K ∧ Below w.heap.size w W' := by
  have hz := (hb.block (w.heap.size + 1) (heap_lt cx.hz)).trans cx.hz
  obtain ⟨e1, e2, e3⟩ := six (.int .i64 u.kind) (.string u.text) (.int .i64 u.n) (.slice A u.sh.length ca) (.slice B u.at_.length cb) (.slice K u.kids.length ck) hz (hb1.then_ hb) (Nat.le_succ _)
  subst hW'
  refine ⟨e1, mask_less (mask_to hu (fun k hk hn => e2 k (by have := cx.s1; have := cx.le; omega)) (by simp [World.setCell])) (by rw [cx.s1]; omega), e3⟩
theorem ShW.set {W : World} {B lo : Nat} {us : List Tm} {rs : List Rt} {v : Value} (h : ShW W B lo B us rs v) {a : Addr} (h1 : lo ≤ a.block) (h2 : a.block < B) (x : Value) : ShW (W.setCell a x) B lo B us rs v :=
  ⟨ownsRow_setCell_below h.row h2 x, h.len, fun i u r hu hr => (h.sh i u r hu hr).sub (fun a' y hy => by
    obtain ⟨e1, e2⟩ := holed_cell hy
    obtain ⟨e3, e4⟩ := mask_cell e2
    refine holed_cell' e1 (mask_cell' e3 ?_)
    rw [World.cell?_setCell_far _ _ _ _ (by omega)]
    exact e4) (by rw [holed_size, holed_size, mask_size, mask_size]; simp [World.setCell])⟩
end Go.Proofs.YtebiojmfieoncaaGreat

namespace Go.Proofs.YtebiojmfieoncaaGreat
open Go.RowKit

/-- the kids after the first i of them have been turned -/
def mixT (N : Nat) (v : Int) (t : Tm) (i : Nat) : List Tm := t.kids.mapIdx fun j k => if j < i ∧ 0 < (valT t v).getD j 0 then trd N ((valT t v).getD j 0) k else k
theorem mix_get (N : Nat) (v : Int) (t : Tm) (i j : Nat) : (mixT N v t i)[j]? = (t.kids[j]?).map fun k => if j < i ∧ 0 < (valT t v).getD j 0 then trd N ((valT t v).getD j 0) k else k := by
  unfold mixT
  rw [List.getElem?_mapIdx]
theorem mix_len (N : Nat) (v : Int) (t : Tm) (i : Nat) : (mixT N v t i).length = t.kids.length := by
  unfold mixT
  rw [List.length_mapIdx]
theorem mix_zero (N : Nat) (v : Int) (t : Tm) : mixT N v t 0 = t.kids := List.ext_getElem? fun j => by
  rw [mix_get]
  cases t.kids[j]? with
  | none => rfl
  | some k =>
    rw [Option.map_some, if_neg (by omega)]
theorem mix_same {N : Nat} {v : Int} {t : Tm} {i i' : Nat} (h : ∀ j, 0 < (valT t v).getD j 0 → j < t.kids.length → (j < i ↔ j < i')) : mixT N v t i = mixT N v t i' := List.ext_getElem? fun j => by
  rw [mix_get, mix_get]
  cases hk : t.kids[j]? with
  | none => rfl
  | some k =>
    rw [Option.map_some, Option.map_some]
    by_cases hj : 0 < (valT t v).getD j 0
    · have := h j hj (List.getElem?_eq_some_iff.1 hk).1
      by_cases h1 : j < i
      · rw [if_pos ⟨h1, hj⟩, if_pos ⟨this.1 h1, hj⟩]
      · rw [if_neg (fun e => h1 e.1), if_neg (fun e => h1 (this.2 e.1))]
    · rw [if_neg (fun e => hj e.2), if_neg (fun e => hj e.2)]
theorem mix_put {N : Nat} {v : Int} {t : Tm} {i : Nat} {k : Tm} (hk : t.kids[i]? = some k) (h : 0 < (valT t v).getD i 0) : mixT N v t (i + 1) = (mixT N v t i).set i (trd N ((valT t v).getD i 0) k) := List.ext_getElem? fun j => by
  rw [List.getElem?_set, mix_len, mix_get, mix_get]
  have hi := (List.getElem?_eq_some_iff.1 hk).1
  by_cases e : i = j
  · subst e
    rw [if_pos rfl, if_pos hi, hk, Option.map_some, if_pos ⟨by omega, h⟩]
  · rw [if_neg e]
    cases t.kids[j]? with
    | none => rfl
    | some k' =>
      rw [Option.map_some, Option.map_some]
      by_cases h1 : j < i
      · by_cases h2 : 0 < (valT t v).getD j 0
        · rw [if_pos ⟨by omega, h2⟩, if_pos ⟨h1, h2⟩]
        · rw [if_neg (fun q => h2 q.2), if_neg (fun q => h2 q.2)]
      · rw [if_neg (fun q => by omega), if_neg (fun q => h1 q.1)]
theorem trd_mix {N : Nat} {v : Int} {t : Tm} (hp : plainT t = false) {i : Nat} (hi : (valT t v).length ≤ i ∨ t.kids.length ≤ i) : trd (N + 1) v t = withK t (mixT N v t i) := by
  simp only [trd]
  rw [if_neg (by rw [hp]; decide)]
  have e : mixT N v t i = mixT N v t t.kids.length := mix_same fun j hj hl => by
    have h1 : j < (valT t v).length := by
      rw [List.getD_eq_getElem?_getD] at hj
      cases hx : (valT t v)[j]? with
      | none => rw [hx] at hj; simp at hj
      | some x => exact (List.getElem?_eq_some_iff.1 hx).1
    omega
  rw [e]
  congr 1
  refine List.ext_getElem? fun j => ?_
  rw [mix_get, List.getElem?_mapIdx]
  cases hk : t.kids[j]? with
  | none => rfl
  | some k =>
    rw [Option.map_some, Option.map_some]
    by_cases hj : 0 < (valT t v).getD j 0
    · rw [if_pos hj, if_pos ⟨(List.getElem?_eq_some_iff.1 hk).1, hj⟩]
    · rw [if_neg hj, if_neg (fun q => hj q.2)]
theorem with_self (t : Tm) : withK t t.kids = t := by cases t; rfl
theorem trd_none {N : Nat} {v : Int} {t : Tm} (hp : plainT t = false) (h : valT t v = []) : trd (N + 1) v t = t := by
  rw [trd_mix (i := 0) hp (.inl (by rw [h]; exact Nat.le_refl _)), mix_zero, with_self]
theorem trd_yes {N : Nat} {v : Int} {t : Tm} (hp : plainT t = true) (h : t.n = v) : trd (N + 1) v t = trn N (nounT t) := by simp only [trd]; rw [if_pos hp, if_pos h]
theorem trd_no {N : Nat} {v : Int} {t : Tm} (hp : plainT t = true) (h : ¬ t.n = v) : trd (N + 1) v t = t := by simp only [trd]; rw [if_pos hp, if_neg h]
/-- what stands while kids are turned -/
structure TdW (W6 W : World) (B lo N : Nat) (v : Int) (t : Tm) (i : Nat) (rs rs0 : List Rt) (g n cap : Nat) : Prop where
  be : Below B W6 W
  sh : ShW W B lo B (mixT N v t i) rs (.slice (some ⟨g, 0, none⟩) n cap)
  old : ∀ j, i ≤ j → rs[j]? = rs0[j]?
theorem TdW.cells {W6 W : World} {B lo N : Nat} {v : Int} {t : Tm} {i : Nat} {rs rs0 : List Rt} {g n cap : Nat} (h : TdW W6 W B lo N v t i rs rs0 g n cap) (hn : n = t.kids.length) {k : Tm} {Ax : Option Addr} {cax : Nat} {Bx : Option Addr} {cbx : Nat} {Kx : Option Addr} {ckx : Nat} {q : List Rt} (hk : t.kids[i]? = some k) (hr : rs0[i]? = some (.mk ⟨Ax, k.sh.length, cax⟩ ⟨Bx, k.at_.length, cbx⟩ ⟨Kx, k.kids.length, ckx⟩ q)) :
    ∀ W', Below W.heap.size W W' → (W'.cell? ⟨g, i * 6, none⟩ = some (.int .i64 k.kind) ∧ W'.cell? ⟨g, i * 6 + 1, none⟩ = some (.string k.text) ∧ W'.cell? ⟨g, i * 6 + 2, none⟩ = some (.int .i64 k.n) ∧ W'.cell? ⟨g, i * 6 + 3, none⟩ = some (.slice Ax k.sh.length cax) ∧ W'.cell? ⟨g, i * 6 + 4, none⟩ = some (.slice Bx k.at_.length cbx) ∧ W'.cell? ⟨g, i * 6 + 5, none⟩ = some (.slice Kx k.kids.length ckx) ∧ g < W'.heap.size) ∧ ∀ j, W'.frozen? ⟨g, j, none⟩ = false := fun W' hb => by
  have h1 := (h.sh.below hb).row
  rw [mix_len, ← hn] at h1
  have hi := (List.getElem?_eq_some_iff.1 hk).1
  have hm : (mixT N v t i)[i]? = some k := by rw [mix_get, hk, Option.map_some, if_neg (by omega)]
  have hr' := (h.old i (Nat.le_refl _)).trans hr
  have key : ∀ o u, (rtCells k (.mk ⟨Ax, k.sh.length, cax⟩ ⟨Bx, k.at_.length, cbx⟩ ⟨Kx, k.kids.length, ckx⟩ q))[o]? = some u → o < 6 → W'.cell? ⟨g, i * 6 + o, none⟩ = some u := fun o u hu ho => by
    rw [h1.cellAt (i * 6 + o) (by omega)]
    exact rtCells_get hm hr' hu
  refine ⟨⟨key 0 _ rfl (by omega), key 1 _ rfl (by omega), key 2 _ rfl (by omega), key 3 _ rfl (by omega), key 4 _ rfl (by omega), key 5 _ rfl (by omega), (h1.lt g rfl).2⟩, fun j => h1.frozenAt j⟩
theorem TdW.put {W6 Wr W W' : World} {B lo N : Nat} {v : Int} {t : Tm} {i : Nat} {rs rs0 : List Rt} {g n cap : Nat} (h : TdW W6 Wr B lo N v t i rs rs0 g n cap) (hn : n = t.kids.length) {k : Tm} (hk : t.kids[i]? = some k) (hz : 0 < (valT t v).getD i 0) (hlo : lo ≤ B) (hB : B ≤ Wr.heap.size) (hb : Below Wr.heap.size Wr W) {A : Option Addr} {ca : Nat} {Bb : Option Addr} {cb : Nat} {K : Option Addr} {ck : Nat} (hu : TmAt (mask W lo Wr.heap.size) (trd N ((valT t v).getD i 0) k) A Bb K)
    (hW' : W' = sixAt W g (i * 6) (.int .i64 (trd N ((valT t v).getD i 0) k).kind) (.string (trd N ((valT t v).getD i 0) k).text) (.int .i64 (trd N ((valT t v).getD i 0) k).n) (.slice A (trd N ((valT t v).getD i 0) k).sh.length ca) (.slice Bb (trd N ((valT t v).getD i 0) k).at_.length cb) (.slice K (trd N ((valT t v).getD i 0) k).kids.length ck)) :
    TdW W6 W' B lo N v t (i + 1) (rs.set i (rtOf (trd N ((valT t v).getD i 0) k) A ca Bb cb K ck)) rs0 g n cap := by
  have hg := h.sh.row.lt g rfl
  have hi := (List.getElem?_eq_some_iff.1 hk).1
  obtain ⟨h1, h2⟩ := (h.sh.below hb).put (i := i) (t := trd N ((valT t v).getD i 0) k) (A := A) (ca := ca) (Bb := Bb) (cb := cb) (K := K) (ck := ck) (by rw [mix_len]; exact hn) (by rw [mix_len]; exact hi) (mask_holed hu hB (by omega) (by omega))
  subst hW'
  refine ⟨(h.be.trans (hb.mono hB)).grown h2 (Nat.le_trans hB hb.size) (fun q hq => by injection hq with hq; omega), ?_, fun j hj => ?_⟩
  · rw [mix_put hk hz]
    exact h1
  · rw [List.getElem?_set, if_neg (by omega)]
    exact h.old j (by omega)
theorem TdW.skip {W6 W : World} {B lo N : Nat} {v : Int} {t : Tm} {i : Nat} {rs rs0 : List Rt} {g n cap : Nat} (h : TdW W6 W B lo N v t i rs rs0 g n cap) (hz : ¬ 0 < (valT t v).getD i 0) : TdW W6 W B lo N v t (i + 1) rs rs0 g n cap := by
  refine ⟨h.be, ?_, fun j hj => h.old j (by omega)⟩
  have e : mixT N v t (i + 1) = mixT N v t i := mix_same fun j hj _ => by
    by_cases e : j = i
    · subst e; exact absurd hj hz
    · omega
  rw [e]
  exact h.sh
end Go.Proofs.YtebiojmfieoncaaGreat
