/- abacusref17.of: a verb's obverse by the document. Condition: sizes within reach. -/
import Derived.Test.YtkdejffhdhcocaaGreatTeMB
import Derived.StillTailTactics
namespace Go.Proofs.YtkdejffhdhcocaaGreat
open Go.RowKit

def DocPost (t : Tm) (w0 w : World) (e : Ending) (w' : World) : Prop := ∃ (u : Tm) (P : Option Addr) (p : Nat) (Q : Option Addr) (q : Nat) (R : Option Addr) (s : Nat), e = .returned (.tuple #[tmVal u P p Q q R s, .bool (obv t).2]) ∧ ((obv t).2 = true → u = (obv t).1) ∧ TmAt (mask w' w0.heap.size w.heap.size) u P Q R ∧ Below w.heap.size w w'
theorem boxA {W1 w3 : World} {lo hi : Nat} {u : Tm} {P Q R : Option Addr} {p q r : Nat} (hb : Below W1.heap.size W1 w3) (hu : TmAt (mask w3 lo hi) u P Q R) :
    (w3.alloc (.cells (tmCells u P p Q q R r) TTm)).heap[w3.heap.size]? = some (.cells (tmCells u P p Q q R r) TTm (0, 0)) ∧ TmAt (mask (w3.alloc (.cells (tmCells u P p Q q R r) TTm)) lo hi) u P Q R ∧ Below W1.heap.size W1 (w3.alloc (.cells (tmCells u P p Q q R r) TTm)) :=
  ⟨heap_alloc_new w3 _, mask_on hu ((Below.refl _ _).alloc (Nat.le_refl _) _), hb.alloc hb.size _⟩
theorem boxB {W1 w3 : World} {lo : Nat} {u : Tm} {P Q R : Option Addr} {p q r : Nat} {a0 a1 a2 a3 a4 a5 : Value} (hlo : lo ≤ W1.heap.size) (hz : w3.heap[W1.heap.size]? = some (.cells #[a0, a1, a2, a3, a4, a5] TTm (0, 0))) (hb : Below W1.heap.size W1 w3) (hu : TmAt (mask w3 lo (W1.heap.size + 1)) u P Q R) :
    (sixPut w3 W1.heap.size (.int .i64 u.kind) (.string u.text) (.int .i64 u.n) (.slice P u.sh.length p) (.slice Q u.at_.length q) (.slice R u.kids.length r)).heap[W1.heap.size]? = some (.cells (tmCells u P p Q q R r) TTm (0, 0)) ∧ TmAt (mask (sixPut w3 W1.heap.size (.int .i64 u.kind) (.string u.text) (.int .i64 u.n) (.slice P u.sh.length p) (.slice Q u.at_.length q) (.slice R u.kids.length r)) lo W1.heap.size) u P Q R ∧ Below W1.heap.size W1 (sixPut w3 W1.heap.size (.int .i64 u.kind) (.string u.text) (.int .i64 u.n) (.slice P u.sh.length p) (.slice Q u.at_.length q) (.slice R u.kids.length r)) := by
  obtain ⟨e1, e2, e3⟩ := six (.int .i64 u.kind) (.string u.text) (.int .i64 u.n) (.slice P u.sh.length p) (.slice Q u.at_.length q) (.slice R u.kids.length r) hz hb (Nat.le_refl _)
  refine ⟨e1, mask_less (mask_to hu (fun k _ hk => e2 k (by omega)) ?_) (Nat.le_succ _), e3⟩
  simp [World.setCell]
theorem doc_drew {w W : World} {lo g : Nat} {u : Tm} {P Q R : Option Addr} {c : Option Obj} (h : W.heap[g]? = c ∧ TmAt (mask W lo w.heap.size) u P Q R ∧ Below w.heap.size w W) : W.drew.heap[g]? = c ∧ TmAt (mask W.drew lo w.heap.size) u P Q R ∧ Below w.heap.size w W.drew :=
  ⟨h.1, mask_to h.2.1 (fun _ _ _ => rfl) (Nat.le_refl _), h.2.2.drew⟩
theorem bondLT_text {n v : Tm} (h : v.kind = 20) : bondLT n v = bondD n v.text true := by
  have hk : (tPrim v.text).kind = 20 := rfl
  have ht : (tPrim v.text).text = v.text := rfl
  unfold bondD
  rw [if_pos rfl]
  unfold bondLT
  rw [h, hk, ht]
theorem bondRT_text {n v : Tm} (h : v.kind = 20) : bondRT v n = bondD n v.text false := by
  have hk : (tPrim v.text).kind = 20 := rfl
  have ht : (tPrim v.text).text = v.text := rfl
  unfold bondD
  rw [if_neg (by decide)]
  unfold bondRT
  rw [h, hk, ht]
theorem obvS_ne {s l : List UInt8} (h : obvS s = some l) : l ≠ [] := by
  intro e
  subst e
  have := obvS_known h
  simp [opOf, opIn, spells] at this
theorem lit_one {t : Tm} (h : goodT false t = true) (hs : scalarB t = true) : t.at_.length = 1 := good_lit h hs
/-- 'of' on terms of at most N nodes -/
def DofN (N : Nat) : Prop := ∀ (t : Tm) (A : Option Addr) (ca : Nat) (B : Option Addr) (cb : Nat) (K : Option Addr) (ck : Nat) (w0 w : World), cnt t ≤ N → TmAt w0 t A B K → Below w0.heap.size w0 w → WfT t → goodT false t = true → Calls Tryz.prog 38 #[tmVal t A ca B cb K ck] w (DocPost t w0 w)
set_option maxRecDepth 100000 in
set_option maxHeartbeats 16000000 in
theorem dof_20 (N : Nat) (ih : DofN N) (t : Tm) (A : Option Addr) (ca : Nat) (B : Option Addr) (cb : Nat) (K : Option Addr) (ck : Nat) (w0 w : World) (hN : cnt t ≤ N + 1) (hat : TmAt w0 t A B K) (hb : Below w0.heap.size w0 w) (hwf : WfT t) (hgd : goodT false t = true) (hk : t.kind = 20) :
    Calls Tryz.prog 38 #[tmVal t A ca B cb K ck] w (DocPost t w0 w) := by
  obtain ⟨W1, hW1⟩ : ∃ W1, W1 = (w.alloc (.cells (tmCells t A ca B cb K ck) TTm)).alloc (.cells tm0 TTm) := ⟨_, rfl⟩
  have hb1 : Below w.heap.size w W1 := by rw [hW1]; exact ((Below.refl _ _).alloc (Nat.le_refl _) _).alloc (by simp) _
  have hx1 : W1.heap[w.heap.size]? = some (.cells (tmCells t A ca B cb K ck) TTm (0, 0)) := by rw [hW1]; exact (Below.heap_alloc _ _ _ (by simp)).trans (heap_alloc_new w _)
  have hz1 : W1.heap[w.heap.size + 1]? = some (.cells tm0 TTm (0, 0)) := by rw [hW1]; exact heap_new2 _ _ _
  have hs1 : W1.heap.size = w.heap.size + 2 := by rw [hW1]; simp
  have HX := Lib.hid (And.intro hb1 (And.intro hx1 (And.intro hz1 hs1)))
  have HT := Lib.hid (And.intro hat (And.intro hb (And.intro hwf hN)))
  have HW1 := Lib.hid hW1
  have HL0 : Hid (w0.heap.size ≤ w.heap.size) := Lib.hid hb.size
  have IH := Lib.hid ih
  have k0 : W1.cell? ⟨w.heap.size, 0, none⟩ = some (.int .i64 t.kind) := cell_at hx1 rfl
  have k1 : W1.cell? ⟨w.heap.size, 1, none⟩ = some (.string t.text) := cell_at hx1 rfl
  have k2 : W1.cell? ⟨w.heap.size, 2, none⟩ = some (.int .i64 t.n) := cell_at hx1 rfl
  have k3 : W1.cell? ⟨w.heap.size, 3, none⟩ = some (.slice A t.sh.length ca) := cell_at hx1 rfl
  have k4 : W1.cell? ⟨w.heap.size, 4, none⟩ = some (.slice B t.at_.length cb) := cell_at hx1 rfl
  have k5 : W1.cell? ⟨w.heap.size, 5, none⟩ = some (.slice K t.kids.length ck) := cell_at hx1 rfl
  have z0 := cell_at hz1 (j := 0) rfl
  have z1 := cell_at hz1 (j := 1) rfl
  have z2 := cell_at hz1 (j := 2) rfl
  have z3 := cell_at hz1 (j := 3) rfl
  have z4 := cell_at hz1 (j := 4) rfl
  have z5 := cell_at hz1 (j := 5) rfl
  have fz := unfrozen hz1
  have hlz := heap_lt hz1
  have hlx := heap_lt hx1
  have hpk : t.kids.length ≤ 140737488351232 := hwf.node.kids
  have TWO : Hid (∀ x y, t.kids = [x, y] → ∃ bk ok, K = some ⟨bk, ok, none⟩ ∧ PtrAt w0 bk ok x ∧ PtrAt w0 bk (ok + 6) y) := Lib.hid fun x y hks => by
    obtain ⟨bk, ok, e, h0⟩ := HT.out.1.kids.get (i := 0) (t := x) (by rw [hks]; rfl)
    obtain ⟨bk', ok', e', h1⟩ := HT.out.1.kids.get (i := 1) (t := y) (by rw [hks]; rfl)
    rw [e] at e'
    simp only [Option.some.injEq, Addr.mk.injEq, and_true] at e'
    obtain ⟨rfl, rfl⟩ := e'
    exact ⟨bk, ok, e, by simpa using h0, by simpa using h1⟩
  have SUB : Hid (∀ x y, t.kids = [x, y] → ¬ t.kind = 23 → (WfT x ∧ goodT false x = true ∧ cnt x ≤ N) ∧ (WfT y ∧ goodT false y = true ∧ cnt y ≤ N)) := Lib.hid fun x y hks h23 => by
    obtain ⟨c1, _⟩ := cnt_eq2 hks
    have := cnt_pos x
    have := cnt_pos y
    have := hN
    exact ⟨⟨hwf.node.each x (by rw [hks]; simp), good_sub hgd h23 (i := 0) (by rw [hks]; rfl), by omega⟩, ⟨hwf.node.each y (by rw [hks]; simp), good_sub hgd h23 (i := 1) (by rw [hks]; rfl), by omega⟩⟩
  clear hat hb hwf hb1 hx1 hz1 hs1 hW1 hN ih
  have HR : Hid (obv t = (tPrim ⟨((obvS t.text.data.toList).getD []).toArray⟩, (obvS t.text.data.toList).isSome)) := Lib.hid (by rw [obv_eq]; unfold obvK; rw [if_pos hk])
  have kk20 : (t.kind == 20) = true := by rw [hk]; rfl
  obtain ⟨s2, hs2⟩ : ∃ s2 : ByteArray, s2 = ⟨((obvS t.text.data.toList).getD []).toArray⟩ := ⟨_, rfl⟩
  obtain ⟨b2, hb2⟩ : ∃ b2, b2 = (obvS t.text.data.toList).isSome := ⟨_, rfl⟩
  have HSP := Lib.hid (spelled_any t.text W1)
  have HEMP : Hid (s2.toList.isEmpty = !b2) := Lib.hid (by
    rw [Lib.toList_data, hs2, hb2]
    cases ho : obvS t.text.data.toList with
    | none => rfl
    | some l =>
      have := obvS_ne ho
      cases l with
      | nil => exact absurd rfl this
      | cons a r => rfl)
  rw [← hs2] at HSP
  rw [← hs2, ← hb2] at HR
  clear hk hgd hs2 hb2
  go_enter Tryz.func38, Tryz.ntmps38
  go_upto_region 1 with fail
  rw [← HW1.out]
  go_wp2_with fail
  refine HSP.out.mono ?_
  rintro e w2 ⟨rfl, hww⟩
  subst hww
  go_wp2_with fail
  refine (dprim_any s2 w2).mono ?_
  rintro e w3 ⟨rfl, hb3⟩
  clear k0 k1 k2 k3 k4 k5 z0 z1 z2 z3 z4 z5 fz hlz hlx
  have hz2 := (hb3.block _ (heap_lt HX.out.2.2.1)).trans HX.out.2.2.1
  have z0 := cell_at hz2 (j := 0) rfl
  have z1 := cell_at hz2 (j := 1) rfl
  have z2 := cell_at hz2 (j := 2) rfl
  have z3 := cell_at hz2 (j := 3) rfl
  have z4 := cell_at hz2 (j := 4) rfl
  have z5 := cell_at hz2 (j := 5) rfl
  have fz := unfrozen hz2
  have hlz := heap_lt hz2
  have HB3 := Lib.hid (And.intro (HX.out.1.then_ hb3) hz2)
  clear hb3 hz2
  cases b2
  all_goals
    have hemp := HEMP.out
    go_wp2_with fail
    obtain ⟨e1, e2, e3⟩ := doc_six (w := w) (lo := w0.heap.size) (hi := w.heap.size + 2) (u := tPrim s2) (P := none) (Q := none) (R := none) (p := 0) (q := 0) (r := 0) HB3.out.2 HB3.out.1 HL0.out (Nat.le_succ _) (by omega) (nil_at _ _ _ _)
    exact bodyPost_ret (results_tm2 (p := 2) (t := 3) rfl rfl e1) rfl ⟨_, _, _, _, _, _, _, (by rw [HR.out]; rfl), fun _ => (by rw [HR.out]), e2, e3⟩
set_option maxRecDepth 100000 in
set_option maxHeartbeats 16000000 in
theorem dof_no (N : Nat) (ih : DofN N) (t : Tm) (A : Option Addr) (ca : Nat) (B : Option Addr) (cb : Nat) (K : Option Addr) (ck : Nat) (w0 w : World) (hN : cnt t ≤ N + 1) (hat : TmAt w0 t A B K) (hb : Below w0.heap.size w0 w) (hwf : WfT t) (hgd : goodT false t = true) (g : ¬ t.kind = 20 ∧ ¬ t.kind = 39 ∧ ¬ t.kind = 40 ∧ ¬ t.kind = 29 ∧ ¬ t.kind = 31 ∧ ¬ t.kind = 46 ∧ ¬ t.kind = 41 ∧ ¬ t.kind = 36 ∧ ¬ t.kind = 37) :
    Calls Tryz.prog 38 #[tmVal t A ca B cb K ck] w (DocPost t w0 w) := by
  obtain ⟨W1, hW1⟩ : ∃ W1, W1 = (w.alloc (.cells (tmCells t A ca B cb K ck) TTm)).alloc (.cells tm0 TTm) := ⟨_, rfl⟩
  have hb1 : Below w.heap.size w W1 := by rw [hW1]; exact ((Below.refl _ _).alloc (Nat.le_refl _) _).alloc (by simp) _
  have hx1 : W1.heap[w.heap.size]? = some (.cells (tmCells t A ca B cb K ck) TTm (0, 0)) := by rw [hW1]; exact (Below.heap_alloc _ _ _ (by simp)).trans (heap_alloc_new w _)
  have hz1 : W1.heap[w.heap.size + 1]? = some (.cells tm0 TTm (0, 0)) := by rw [hW1]; exact heap_new2 _ _ _
  have hs1 : W1.heap.size = w.heap.size + 2 := by rw [hW1]; simp
  have HX := Lib.hid (And.intro hb1 (And.intro hx1 (And.intro hz1 hs1)))
  have HT := Lib.hid (And.intro hat (And.intro hb (And.intro hwf hN)))
  have HW1 := Lib.hid hW1
  have HL0 : Hid (w0.heap.size ≤ w.heap.size) := Lib.hid hb.size
  have IH := Lib.hid ih
  have k0 : W1.cell? ⟨w.heap.size, 0, none⟩ = some (.int .i64 t.kind) := cell_at hx1 rfl
  have k1 : W1.cell? ⟨w.heap.size, 1, none⟩ = some (.string t.text) := cell_at hx1 rfl
  have k2 : W1.cell? ⟨w.heap.size, 2, none⟩ = some (.int .i64 t.n) := cell_at hx1 rfl
  have k3 : W1.cell? ⟨w.heap.size, 3, none⟩ = some (.slice A t.sh.length ca) := cell_at hx1 rfl
  have k4 : W1.cell? ⟨w.heap.size, 4, none⟩ = some (.slice B t.at_.length cb) := cell_at hx1 rfl
  have k5 : W1.cell? ⟨w.heap.size, 5, none⟩ = some (.slice K t.kids.length ck) := cell_at hx1 rfl
  have z0 := cell_at hz1 (j := 0) rfl
  have z1 := cell_at hz1 (j := 1) rfl
  have z2 := cell_at hz1 (j := 2) rfl
  have z3 := cell_at hz1 (j := 3) rfl
  have z4 := cell_at hz1 (j := 4) rfl
  have z5 := cell_at hz1 (j := 5) rfl
  have fz := unfrozen hz1
  have hlz := heap_lt hz1
  have hlx := heap_lt hx1
  have hpk : t.kids.length ≤ 140737488351232 := hwf.node.kids
  have TWO : Hid (∀ x y, t.kids = [x, y] → ∃ bk ok, K = some ⟨bk, ok, none⟩ ∧ PtrAt w0 bk ok x ∧ PtrAt w0 bk (ok + 6) y) := Lib.hid fun x y hks => by
    obtain ⟨bk, ok, e, h0⟩ := HT.out.1.kids.get (i := 0) (t := x) (by rw [hks]; rfl)
    obtain ⟨bk', ok', e', h1⟩ := HT.out.1.kids.get (i := 1) (t := y) (by rw [hks]; rfl)
    rw [e] at e'
    simp only [Option.some.injEq, Addr.mk.injEq, and_true] at e'
    obtain ⟨rfl, rfl⟩ := e'
    exact ⟨bk, ok, e, by simpa using h0, by simpa using h1⟩
  have SUB : Hid (∀ x y, t.kids = [x, y] → ¬ t.kind = 23 → (WfT x ∧ goodT false x = true ∧ cnt x ≤ N) ∧ (WfT y ∧ goodT false y = true ∧ cnt y ≤ N)) := Lib.hid fun x y hks h23 => by
    obtain ⟨c1, _⟩ := cnt_eq2 hks
    have := cnt_pos x
    have := cnt_pos y
    have := hN
    exact ⟨⟨hwf.node.each x (by rw [hks]; simp), good_sub hgd h23 (i := 0) (by rw [hks]; rfl), by omega⟩, ⟨hwf.node.each y (by rw [hks]; simp), good_sub hgd h23 (i := 1) (by rw [hks]; rfl), by omega⟩⟩
  clear hat hb hwf hb1 hx1 hz1 hs1 hW1 hN ih
  obtain ⟨g20, g39, g40, g29, g31, g46, g41, g36, g37⟩ := g
  have HR : Hid (obv t = (tNil, false)) := Lib.hid (by rw [obv_eq]; unfold obvK; rw [if_neg g20, if_neg g39, if_neg g40, if_neg (by omega), if_neg g41, if_neg g36, if_neg g37])
  have kk20 : (t.kind == 20) = false := beq_no g20
  have kk39 : (t.kind == 39) = false := beq_no g39
  have kk40 : (t.kind == 40) = false := beq_no g40
  have kk29 : (t.kind == 29) = false := beq_no g29
  have kk31 : (t.kind == 31) = false := beq_no g31
  have kk46 : (t.kind == 46) = false := beq_no g46
  have kk41 : (t.kind == 41) = false := beq_no g41
  have kk36 : (t.kind == 36) = false := beq_no g36
  have kk37 : (t.kind == 37) = false := beq_no g37
  clear hgd g20 g39 g40 g29 g31 g46 g41 g36 g37
  go_enter Tryz.func38, Tryz.ntmps38
  go_upto_region 1 with fail
  rw [← HW1.out]
  go_wp2_with fail
  obtain ⟨e1, e2, e3⟩ := doc_six (w := w) (lo := w0.heap.size) (hi := w.heap.size + 2) (u := tNil) (P := none) (Q := none) (R := none) (p := 0) (q := 0) (r := 0) HX.out.2.2.1 HX.out.1 HL0.out (Nat.le_succ _) (by omega) (nil_at _ _ _ _)
  exact bodyPost_ret (results_tm2 (p := 2) (t := 3) rfl rfl e1) rfl ⟨_, _, _, _, _, _, _, (by rw [HR.out]; rfl), fun h => (by rw [HR.out] at h; cases h), e2, e3⟩
set_option maxRecDepth 100000 in
set_option maxHeartbeats 16000000 in
theorem dof_36 (N : Nat) (ih : DofN N) (t : Tm) (A : Option Addr) (ca : Nat) (B : Option Addr) (cb : Nat) (K : Option Addr) (ck : Nat) (w0 w : World) (hN : cnt t ≤ N + 1) (hat : TmAt w0 t A B K) (hb : Below w0.heap.size w0 w) (hwf : WfT t) (hgd : goodT false t = true) (hk : t.kind = 36) :
    Calls Tryz.prog 38 #[tmVal t A ca B cb K ck] w (DocPost t w0 w) := by
  obtain ⟨W1, hW1⟩ : ∃ W1, W1 = (w.alloc (.cells (tmCells t A ca B cb K ck) TTm)).alloc (.cells tm0 TTm) := ⟨_, rfl⟩
  have hb1 : Below w.heap.size w W1 := by rw [hW1]; exact ((Below.refl _ _).alloc (Nat.le_refl _) _).alloc (by simp) _
  have hx1 : W1.heap[w.heap.size]? = some (.cells (tmCells t A ca B cb K ck) TTm (0, 0)) := by rw [hW1]; exact (Below.heap_alloc _ _ _ (by simp)).trans (heap_alloc_new w _)
  have hz1 : W1.heap[w.heap.size + 1]? = some (.cells tm0 TTm (0, 0)) := by rw [hW1]; exact heap_new2 _ _ _
  have hs1 : W1.heap.size = w.heap.size + 2 := by rw [hW1]; simp
  have HX := Lib.hid (And.intro hb1 (And.intro hx1 (And.intro hz1 hs1)))
  have HT := Lib.hid (And.intro hat (And.intro hb (And.intro hwf hN)))
  have HW1 := Lib.hid hW1
  have HL0 : Hid (w0.heap.size ≤ w.heap.size) := Lib.hid hb.size
  have IH := Lib.hid ih
  have k0 : W1.cell? ⟨w.heap.size, 0, none⟩ = some (.int .i64 t.kind) := cell_at hx1 rfl
  have k1 : W1.cell? ⟨w.heap.size, 1, none⟩ = some (.string t.text) := cell_at hx1 rfl
  have k2 : W1.cell? ⟨w.heap.size, 2, none⟩ = some (.int .i64 t.n) := cell_at hx1 rfl
  have k3 : W1.cell? ⟨w.heap.size, 3, none⟩ = some (.slice A t.sh.length ca) := cell_at hx1 rfl
  have k4 : W1.cell? ⟨w.heap.size, 4, none⟩ = some (.slice B t.at_.length cb) := cell_at hx1 rfl
  have k5 : W1.cell? ⟨w.heap.size, 5, none⟩ = some (.slice K t.kids.length ck) := cell_at hx1 rfl
  have z0 := cell_at hz1 (j := 0) rfl
  have z1 := cell_at hz1 (j := 1) rfl
  have z2 := cell_at hz1 (j := 2) rfl
  have z3 := cell_at hz1 (j := 3) rfl
  have z4 := cell_at hz1 (j := 4) rfl
  have z5 := cell_at hz1 (j := 5) rfl
  have fz := unfrozen hz1
  have hlz := heap_lt hz1
  have hlx := heap_lt hx1
  have hpk : t.kids.length ≤ 140737488351232 := hwf.node.kids
  have TWO : Hid (∀ x y, t.kids = [x, y] → ∃ bk ok, K = some ⟨bk, ok, none⟩ ∧ PtrAt w0 bk ok x ∧ PtrAt w0 bk (ok + 6) y) := Lib.hid fun x y hks => by
    obtain ⟨bk, ok, e, h0⟩ := HT.out.1.kids.get (i := 0) (t := x) (by rw [hks]; rfl)
    obtain ⟨bk', ok', e', h1⟩ := HT.out.1.kids.get (i := 1) (t := y) (by rw [hks]; rfl)
    rw [e] at e'
    simp only [Option.some.injEq, Addr.mk.injEq, and_true] at e'
    obtain ⟨rfl, rfl⟩ := e'
    exact ⟨bk, ok, e, by simpa using h0, by simpa using h1⟩
  have SUB : Hid (∀ x y, t.kids = [x, y] → ¬ t.kind = 23 → (WfT x ∧ goodT false x = true ∧ cnt x ≤ N) ∧ (WfT y ∧ goodT false y = true ∧ cnt y ≤ N)) := Lib.hid fun x y hks h23 => by
    obtain ⟨c1, _⟩ := cnt_eq2 hks
    have := cnt_pos x
    have := cnt_pos y
    have := hN
    exact ⟨⟨hwf.node.each x (by rw [hks]; simp), good_sub hgd h23 (i := 0) (by rw [hks]; rfl), by omega⟩, ⟨hwf.node.each y (by rw [hks]; simp), good_sub hgd h23 (i := 1) (by rw [hks]; rfl), by omega⟩⟩
  clear hat hb hwf hb1 hx1 hz1 hs1 hW1 hN ih
  have e0 : obv t = (tOf 36 [nth t.kids 1, nth t.kids 0], true) := by rw [obv_eq]; unfold obvK; rw [if_neg (by omega), if_neg (by omega), if_neg (by omega), if_neg (by omega), if_neg (by omega), if_pos hk]
  obtain ⟨x, y, hks, fx, fy⟩ := two_kids hgd (c := 118) (d := 118) (by rw [hk]; decide) (by omega) (by omega) (by omega)
  obtain ⟨bk, ok, hKe, px, py⟩ := TWO.out x y hks
  subst hKe
  obtain ⟨sx, sy⟩ := SUB.out x y hks (by omega)
  obtain ⟨Ax, cax, Bx, cbx, Kx, ckx, ltx, x0, x1, x2, x3, x4, x5, hatx⟩ := px.cells
  obtain ⟨Ay, cay, By, cby, Ky, cky, lty, y0, y1, y2, y3, y4, y5, haty⟩ := py.cells
  have XC : Hid (∀ W, Below w0.heap.size w0 W → bk < W.heap.size ∧ W.cell? ⟨bk, ok, none⟩ = some (.int .i64 x.kind) ∧ W.cell? ⟨bk, ok + 1, none⟩ = some (.string x.text) ∧ W.cell? ⟨bk, ok + 2, none⟩ = some (.int .i64 x.n) ∧ W.cell? ⟨bk, ok + 3, none⟩ = some (.slice Ax x.sh.length cax) ∧ W.cell? ⟨bk, ok + 4, none⟩ = some (.slice Bx x.at_.length cbx) ∧ W.cell? ⟨bk, ok + 5, none⟩ = some (.slice Kx x.kids.length ckx) ∧
      W.cell? ⟨bk, ok + 6, none⟩ = some (.int .i64 y.kind) ∧ W.cell? ⟨bk, ok + 7, none⟩ = some (.string y.text) ∧ W.cell? ⟨bk, ok + 8, none⟩ = some (.int .i64 y.n) ∧ W.cell? ⟨bk, ok + 9, none⟩ = some (.slice Ay y.sh.length cay) ∧ W.cell? ⟨bk, ok + 10, none⟩ = some (.slice By y.at_.length cby) ∧ W.cell? ⟨bk, ok + 11, none⟩ = some (.slice Ky y.kids.length cky)) := Lib.hid fun W h => by
    have key : ∀ j v, w0.cell? ⟨bk, j, none⟩ = some v → W.cell? ⟨bk, j, none⟩ = some v := fun j v hv => (h.cell (p := ⟨bk, j, none⟩) ltx).trans hv
    exact ⟨Nat.lt_of_lt_of_le ltx h.size, key _ _ x0, key _ _ x1, key _ _ x2, key _ _ x3, key _ _ x4, key _ _ x5, key _ _ y0, key _ _ y1, key _ _ y2, key _ _ y3, key _ _ y4, key _ _ y5⟩
  have HPX := Lib.hid (And.intro hatx sx)
  have HPY := Lib.hid (And.intro haty sy)
  have HKS := Lib.hid hks
  have hkl : t.kids.length = 2 := by rw [hks]; rfl
  clear x0 x1 x2 x3 x4 x5 y0 y1 y2 y3 y4 y5 ltx lty hatx haty px py sx sy fx fy
  rw [hkl] at k5 hpk
  have HKL := Lib.hid hkl
  obtain ⟨hlk, x0, x1, x2, x3, x4, x5, y0, y1, y2, y3, y4, y5⟩ := XC.out W1 (HT.out.2.1.then_ HX.out.1)
  have HR : Hid (obv t = (tOf 36 [y, x], true)) := Lib.hid (by rw [e0, hks]; rfl)
  have kk20 : (t.kind == 20) = false := by rw [hk]; rfl
  have kk39 : (t.kind == 39) = false := by rw [hk]; rfl
  have kk40 : (t.kind == 40) = false := by rw [hk]; rfl
  have kk29 : (t.kind == 29) = false := by rw [hk]; rfl
  have kk31 : (t.kind == 31) = false := by rw [hk]; rfl
  have kk46 : (t.kind == 46) = false := by rw [hk]; rfl
  have kk41 : (t.kind == 41) = false := by rw [hk]; rfl
  have kk36 : (t.kind == 36) = true := by rw [hk]; rfl
  clear hks hgd hk hkl e0
  go_enter Tryz.func38, Tryz.ntmps38
  go_upto_region 1 with fail
  rw [← HW1.out]
  go_upto_region 26 with fail
  go_still_tail 8, (by kernel_rfl)
  change wpList _ _ _ _ _ W1.drew
  go_wp2_with fail
  all_goals
    obtain ⟨e1, e2, e3⟩ := doc_drew (doc_two (w := w) (w3 := W1) (lo := w0.heap.size) (hi := w.heap.size + 2) (g := w.heap.size + 1) (x := y) (y := x) (P := Ay) (Q := By) (R := Ky) (p := cay) (q := cby) (r := cky) (P' := Ax) (Q' := Bx) (R' := Kx) (p' := cax) (q' := cbx) (r' := ckx) 36 HX.out.2.2.1 HX.out.1 HL0.out (Nat.le_succ _) (by omega) (by rw [← HX.out.2.2.2]; exact Nat.le_refl _) (mask_old HPY.out.1 (HT.out.2.1.then_ HX.out.1)) (mask_old HPX.out.1 (HT.out.2.1.then_ HX.out.1)) rfl)
    exact bodyPost_ret (results_tm2 (p := 2) (t := 3) rfl rfl e1) rfl ⟨_, _, _, _, _, _, _, (by rw [HR.out]; rfl), fun _ => (by rw [HR.out]), e2, e3⟩
set_option maxRecDepth 100000 in
set_option maxHeartbeats 16000000 in
theorem dof_37 (N : Nat) (ih : DofN N) (t : Tm) (A : Option Addr) (ca : Nat) (B : Option Addr) (cb : Nat) (K : Option Addr) (ck : Nat) (w0 w : World) (hN : cnt t ≤ N + 1) (hat : TmAt w0 t A B K) (hb : Below w0.heap.size w0 w) (hwf : WfT t) (hgd : goodT false t = true) (hk : t.kind = 37) :
    Calls Tryz.prog 38 #[tmVal t A ca B cb K ck] w (DocPost t w0 w) := by
  obtain ⟨W1, hW1⟩ : ∃ W1, W1 = (w.alloc (.cells (tmCells t A ca B cb K ck) TTm)).alloc (.cells tm0 TTm) := ⟨_, rfl⟩
  have hb1 : Below w.heap.size w W1 := by rw [hW1]; exact ((Below.refl _ _).alloc (Nat.le_refl _) _).alloc (by simp) _
  have hx1 : W1.heap[w.heap.size]? = some (.cells (tmCells t A ca B cb K ck) TTm (0, 0)) := by rw [hW1]; exact (Below.heap_alloc _ _ _ (by simp)).trans (heap_alloc_new w _)
  have hz1 : W1.heap[w.heap.size + 1]? = some (.cells tm0 TTm (0, 0)) := by rw [hW1]; exact heap_new2 _ _ _
  have hs1 : W1.heap.size = w.heap.size + 2 := by rw [hW1]; simp
  have HX := Lib.hid (And.intro hb1 (And.intro hx1 (And.intro hz1 hs1)))
  have HT := Lib.hid (And.intro hat (And.intro hb (And.intro hwf hN)))
  have HW1 := Lib.hid hW1
  have HL0 : Hid (w0.heap.size ≤ w.heap.size) := Lib.hid hb.size
  have IH := Lib.hid ih
  have k0 : W1.cell? ⟨w.heap.size, 0, none⟩ = some (.int .i64 t.kind) := cell_at hx1 rfl
  have k1 : W1.cell? ⟨w.heap.size, 1, none⟩ = some (.string t.text) := cell_at hx1 rfl
  have k2 : W1.cell? ⟨w.heap.size, 2, none⟩ = some (.int .i64 t.n) := cell_at hx1 rfl
  have k3 : W1.cell? ⟨w.heap.size, 3, none⟩ = some (.slice A t.sh.length ca) := cell_at hx1 rfl
  have k4 : W1.cell? ⟨w.heap.size, 4, none⟩ = some (.slice B t.at_.length cb) := cell_at hx1 rfl
  have k5 : W1.cell? ⟨w.heap.size, 5, none⟩ = some (.slice K t.kids.length ck) := cell_at hx1 rfl
  have z0 := cell_at hz1 (j := 0) rfl
  have z1 := cell_at hz1 (j := 1) rfl
  have z2 := cell_at hz1 (j := 2) rfl
  have z3 := cell_at hz1 (j := 3) rfl
  have z4 := cell_at hz1 (j := 4) rfl
  have z5 := cell_at hz1 (j := 5) rfl
  have fz := unfrozen hz1
  have hlz := heap_lt hz1
  have hlx := heap_lt hx1
  have hpk : t.kids.length ≤ 140737488351232 := hwf.node.kids
  have TWO : Hid (∀ x y, t.kids = [x, y] → ∃ bk ok, K = some ⟨bk, ok, none⟩ ∧ PtrAt w0 bk ok x ∧ PtrAt w0 bk (ok + 6) y) := Lib.hid fun x y hks => by
    obtain ⟨bk, ok, e, h0⟩ := HT.out.1.kids.get (i := 0) (t := x) (by rw [hks]; rfl)
    obtain ⟨bk', ok', e', h1⟩ := HT.out.1.kids.get (i := 1) (t := y) (by rw [hks]; rfl)
    rw [e] at e'
    simp only [Option.some.injEq, Addr.mk.injEq, and_true] at e'
    obtain ⟨rfl, rfl⟩ := e'
    exact ⟨bk, ok, e, by simpa using h0, by simpa using h1⟩
  have SUB : Hid (∀ x y, t.kids = [x, y] → ¬ t.kind = 23 → (WfT x ∧ goodT false x = true ∧ cnt x ≤ N) ∧ (WfT y ∧ goodT false y = true ∧ cnt y ≤ N)) := Lib.hid fun x y hks h23 => by
    obtain ⟨c1, _⟩ := cnt_eq2 hks
    have := cnt_pos x
    have := cnt_pos y
    have := hN
    exact ⟨⟨hwf.node.each x (by rw [hks]; simp), good_sub hgd h23 (i := 0) (by rw [hks]; rfl), by omega⟩, ⟨hwf.node.each y (by rw [hks]; simp), good_sub hgd h23 (i := 1) (by rw [hks]; rfl), by omega⟩⟩
  clear hat hb hwf hb1 hx1 hz1 hs1 hW1 hN ih
  have e0 : obv t = nthR (t.kids.map obv) 0 := by rw [obv_eq]; unfold obvK; rw [if_neg (by omega), if_neg (by omega), if_neg (by omega), if_neg (by omega), if_neg (by omega), if_neg (by omega), if_pos hk]
  obtain ⟨x, y, hks, fx, fy⟩ := two_kids hgd (c := 118) (d := 118) (by rw [hk]; decide) (by omega) (by omega) (by omega)
  obtain ⟨bk, ok, hKe, px, py⟩ := TWO.out x y hks
  subst hKe
  obtain ⟨sx, sy⟩ := SUB.out x y hks (by omega)
  obtain ⟨Ax, cax, Bx, cbx, Kx, ckx, ltx, x0, x1, x2, x3, x4, x5, hatx⟩ := px.cells
  obtain ⟨Ay, cay, By, cby, Ky, cky, lty, y0, y1, y2, y3, y4, y5, haty⟩ := py.cells
  have XC : Hid (∀ W, Below w0.heap.size w0 W → bk < W.heap.size ∧ W.cell? ⟨bk, ok, none⟩ = some (.int .i64 x.kind) ∧ W.cell? ⟨bk, ok + 1, none⟩ = some (.string x.text) ∧ W.cell? ⟨bk, ok + 2, none⟩ = some (.int .i64 x.n) ∧ W.cell? ⟨bk, ok + 3, none⟩ = some (.slice Ax x.sh.length cax) ∧ W.cell? ⟨bk, ok + 4, none⟩ = some (.slice Bx x.at_.length cbx) ∧ W.cell? ⟨bk, ok + 5, none⟩ = some (.slice Kx x.kids.length ckx) ∧
      W.cell? ⟨bk, ok + 6, none⟩ = some (.int .i64 y.kind) ∧ W.cell? ⟨bk, ok + 7, none⟩ = some (.string y.text) ∧ W.cell? ⟨bk, ok + 8, none⟩ = some (.int .i64 y.n) ∧ W.cell? ⟨bk, ok + 9, none⟩ = some (.slice Ay y.sh.length cay) ∧ W.cell? ⟨bk, ok + 10, none⟩ = some (.slice By y.at_.length cby) ∧ W.cell? ⟨bk, ok + 11, none⟩ = some (.slice Ky y.kids.length cky)) := Lib.hid fun W h => by
    have key : ∀ j v, w0.cell? ⟨bk, j, none⟩ = some v → W.cell? ⟨bk, j, none⟩ = some v := fun j v hv => (h.cell (p := ⟨bk, j, none⟩) ltx).trans hv
    exact ⟨Nat.lt_of_lt_of_le ltx h.size, key _ _ x0, key _ _ x1, key _ _ x2, key _ _ x3, key _ _ x4, key _ _ x5, key _ _ y0, key _ _ y1, key _ _ y2, key _ _ y3, key _ _ y4, key _ _ y5⟩
  have HPX := Lib.hid (And.intro hatx sx)
  have HPY := Lib.hid (And.intro haty sy)
  have HKS := Lib.hid hks
  have hkl : t.kids.length = 2 := by rw [hks]; rfl
  clear x0 x1 x2 x3 x4 x5 y0 y1 y2 y3 y4 y5 ltx lty hatx haty px py sx sy fx fy
  rw [hkl] at k5 hpk
  have HKL := Lib.hid hkl
  obtain ⟨hlk, x0, x1, x2, x3, x4, x5, y0, y1, y2, y3, y4, y5⟩ := XC.out W1 (HT.out.2.1.then_ HX.out.1)
  have HR : Hid (obv t = obv x) := Lib.hid (by rw [e0, hks]; rfl)
  have kk20 : (t.kind == 20) = false := by rw [hk]; rfl
  have kk39 : (t.kind == 39) = false := by rw [hk]; rfl
  have kk40 : (t.kind == 40) = false := by rw [hk]; rfl
  have kk29 : (t.kind == 29) = false := by rw [hk]; rfl
  have kk31 : (t.kind == 31) = false := by rw [hk]; rfl
  have kk46 : (t.kind == 46) = false := by rw [hk]; rfl
  have kk41 : (t.kind == 41) = false := by rw [hk]; rfl
  have kk36 : (t.kind == 36) = false := by rw [hk]; rfl
  have kk37 : (t.kind == 37) = true := by rw [hk]; rfl
  clear hks hgd hk hkl e0
  go_enter Tryz.func38, Tryz.ntmps38
  go_upto_region 1 with fail
  rw [← HW1.out]
  go_wp2_with fail
  refine (IH.out x Ax cax Bx cbx Kx ckx w0 W1 HPX.out.2.2.2 HPX.out.1 (HT.out.2.1.then_ (HX.out.1.then_ (Below.refl _ _))) HPX.out.2.1 HPX.out.2.2.1).mono ?_
  rintro e wa ⟨ua, Pa, pa, Qa, qa, Ra, sa, rfl, hua, hata, hba⟩
  have HBa := Lib.hid (And.intro ((Below.refl _ _).then_ hba) (And.intro hata (And.intro hua hba)))
  clear hba hata hua k0 k1 k2 k3 k4 k5 z0 z1 z2 z3 z4 z5 fz hlz hlx hlk x0 x1 x2 x3 x4 x5 y0 y1 y2 y3 y4 y5
  have hx2 := ((HBa.out.1).block _ (heap_lt HX.out.2.1)).trans HX.out.2.1
  have hz2 := ((HBa.out.1).block _ (heap_lt HX.out.2.2.1)).trans HX.out.2.2.1
  have k0 : wa.cell? ⟨w.heap.size, 0, none⟩ = some (.int .i64 t.kind) := cell_at hx2 rfl
  have k1 : wa.cell? ⟨w.heap.size, 1, none⟩ = some (.string t.text) := cell_at hx2 rfl
  have k2 : wa.cell? ⟨w.heap.size, 2, none⟩ = some (.int .i64 t.n) := cell_at hx2 rfl
  have k3 : wa.cell? ⟨w.heap.size, 3, none⟩ = some (.slice A t.sh.length ca) := cell_at hx2 rfl
  have k4 : wa.cell? ⟨w.heap.size, 4, none⟩ = some (.slice B t.at_.length cb) := cell_at hx2 rfl
  have k5 : wa.cell? ⟨w.heap.size, 5, none⟩ = some (.slice (some ⟨bk, ok, none⟩) t.kids.length ck) := cell_at hx2 rfl
  have z0 := cell_at hz2 (j := 0) rfl
  have z1 := cell_at hz2 (j := 1) rfl
  have z2 := cell_at hz2 (j := 2) rfl
  have z3 := cell_at hz2 (j := 3) rfl
  have z4 := cell_at hz2 (j := 4) rfl
  have z5 := cell_at hz2 (j := 5) rfl
  have fz := unfrozen hz2
  have hlz := heap_lt hz2
  have hlx := heap_lt hx2
  clear hx2 hz2
  rw [HKL.out] at k5
  obtain ⟨hlk, x0, x1, x2, x3, x4, x5, y0, y1, y2, y3, y4, y5⟩ := XC.out wa (HT.out.2.1.then_ (HX.out.1.then_ (HBa.out.1)))
  go_upto_region 29 with fail
  obtain ⟨Wa, hWa⟩ : ∃ W, W = wa.alloc (.cells (tmCells ua Pa pa Qa qa Ra sa) TTm) := ⟨_, rfl⟩
  have hbw : Below wa.heap.size wa Wa := by rw [hWa]; exact (Below.refl _ _).alloc (Nat.le_refl _) _
  have hxw : Wa.heap[wa.heap.size]? = some (.cells (tmCells ua Pa pa Qa qa Ra sa) TTm (0, 0)) := by rw [hWa]; exact heap_alloc_new wa _
  rw [← hWa]
  have HWa := Lib.hid (And.intro (HBa.out.1.then_ hbw) (And.intro hxw (And.intro (mask_on HBa.out.2.1 hbw) hbw)))
  clear hbw hxw hWa k0 k1 k2 k3 k4 k5 z0 z1 z2 z3 z4 z5 fz hlz hlx hlk x0 x1 x2 x3 x4 x5 y0 y1 y2 y3 y4 y5
  have hx2 := ((HWa.out.1).block _ (heap_lt HX.out.2.1)).trans HX.out.2.1
  have hz2 := ((HWa.out.1).block _ (heap_lt HX.out.2.2.1)).trans HX.out.2.2.1
  have k0 : Wa.cell? ⟨w.heap.size, 0, none⟩ = some (.int .i64 t.kind) := cell_at hx2 rfl
  have k1 : Wa.cell? ⟨w.heap.size, 1, none⟩ = some (.string t.text) := cell_at hx2 rfl
  have k2 : Wa.cell? ⟨w.heap.size, 2, none⟩ = some (.int .i64 t.n) := cell_at hx2 rfl
  have k3 : Wa.cell? ⟨w.heap.size, 3, none⟩ = some (.slice A t.sh.length ca) := cell_at hx2 rfl
  have k4 : Wa.cell? ⟨w.heap.size, 4, none⟩ = some (.slice B t.at_.length cb) := cell_at hx2 rfl
  have k5 : Wa.cell? ⟨w.heap.size, 5, none⟩ = some (.slice (some ⟨bk, ok, none⟩) t.kids.length ck) := cell_at hx2 rfl
  have z0 := cell_at hz2 (j := 0) rfl
  have z1 := cell_at hz2 (j := 1) rfl
  have z2 := cell_at hz2 (j := 2) rfl
  have z3 := cell_at hz2 (j := 3) rfl
  have z4 := cell_at hz2 (j := 4) rfl
  have z5 := cell_at hz2 (j := 5) rfl
  have fz := unfrozen hz2
  have hlz := heap_lt hz2
  have hlx := heap_lt hx2
  clear hx2 hz2
  rw [HKL.out] at k5
  obtain ⟨hlk, x0, x1, x2, x3, x4, x5, y0, y1, y2, y3, y4, y5⟩ := XC.out Wa (HT.out.2.1.then_ (HX.out.1.then_ (HWa.out.1)))
  have hq1 := HWa.out.2.1
  have c0 := cell_at hq1 (j := 0) rfl
  have c1 := cell_at hq1 (j := 1) rfl
  have c2 := cell_at hq1 (j := 2) rfl
  have c3 := cell_at hq1 (j := 3) rfl
  have c4 := cell_at hq1 (j := 4) rfl
  have c5 := cell_at hq1 (j := 5) rfl
  have hl1 := heap_lt hq1
  clear hq1
  go_wp2_with fail
  obtain ⟨e1, e2, e3⟩ := doc_six (w := w) (lo := w0.heap.size) (hi := w.heap.size + 2) (u := ua) (P := Pa) (Q := Qa) (R := Ra) (p := pa) (q := qa) (r := sa) ((HWa.out.1.block _ (heap_lt HX.out.2.2.1)).trans HX.out.2.2.1) (HX.out.1.then_ HWa.out.1) HL0.out (Nat.le_succ _) (by omega) (by rw [← HX.out.2.2.2]; exact HWa.out.2.2.1)
  exact bodyPost_ret (results_tm2 (p := 2) (t := 3) rfl rfl e1) rfl ⟨_, _, _, _, _, _, _, (by rw [HR.out]; rfl), fun h => (by rw [HR.out] at h ⊢; exact HBa.out.2.2.1 h), e2, e3⟩
end Go.Proofs.YtkdejffhdhcocaaGreat
