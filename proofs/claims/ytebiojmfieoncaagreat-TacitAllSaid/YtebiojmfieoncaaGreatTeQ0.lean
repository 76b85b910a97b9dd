/- Trains: what tacit.Of and the document's Of make of a plain definition, as plain functions. No condition. · tacit: prim, made, plain; abacusref24: Prim, noun, Plain. Condition: sizes within reach. -/
import Derived.Test.YtebiojmfieoncaaGreatTeKx
import Derived.Test.YtebiojmfieoncaaGreatTeMk
namespace Go.Proofs.YtebiojmfieoncaaGreat
open Go.RowKit

/-- the noun of a plain definition -/
def nounT (t : Tm) : Tm := nth (nth (nth t.kids 0).kids 0).kids 0
/-- is a verb a plain definition? -/
def plainT (t : Tm) : Bool := decide (t.kind = 23) && decide ((nth t.kids 0).kids.length = 1) && decide ((nth (nth t.kids 0).kids 0).kind = 10)
def primT (s : ByteArray) : Tm := .mk 20 s 0 [] [] []
/-- is no number of a literal below 0? -/
def noneBelow (t : Tm) : Bool := t.at_.all fun z => decide (0 ≤ z)
/-- the valences in which a verb's kids are turned; 0, or none: that one stays -/
def valT (t : Tm) (v : Int) : List Int :=
  if t.kind = 25 then [1] else if t.kind = 26 then (if v = 1 then [1] else []) else if t.kind = 27 then [2] else if t.kind = 28 ∨ t.kind = 29 ∨ t.kind = 46 then [1, v] else if t.kind = 30 ∨ t.kind = 31 then [v, 1]
  else if t.kind = 32 ∨ t.kind = 33 ∨ t.kind = 36 ∨ t.kind = 42 then [v] else if t.kind = 34 then (if v = 2 then [1, 2] else []) else if t.kind = 35 then [v, v] else if t.kind = 37 then (if v = 1 then [1] else [0, 2])
  else if t.kind = 38 then (if v = 2 then [2, 2] else [0, 1]) else if t.kind = 41 then (if v = 2 then [2] else if decide ((nth t.kids 1).kind = 1) && noneBelow (nth t.kids 1) then [1] else [])
  else if t.kind = 39 then (if v = 1 then [0, 2] else []) else if t.kind = 40 then (if v = 1 then [2] else []) else if t.kind = 43 then List.replicate t.kids.length v else if t.kind = 44 then [2, 1] else if t.kind = 45 then [v, 2, v] else []
/-- a term with other kids -/
def withK (t : Tm) (ks : List Tm) : Tm := .mk t.kind t.text t.n t.sh t.at_ ks
mutual
/-- the train of a noun, by at most N steps down -/
def trn : Nat → Tm → Tm
  | 0, t => t
  | N + 1, e =>
    if e.kind = 2 then (if e.text.data.toList = [120] then primT ⟨#[91]⟩ else if e.text.data.toList = [121] then primT ⟨#[93]⟩ else tOf 22 [e])
    else if e.kind = 3 then tOf 46 [trd N 1 (nth e.kids 0), trn N (nth e.kids 1)] else if e.kind = 4 then tOf 45 [trn N (nth e.kids 1), trd N 2 (nth e.kids 0), trn N (nth e.kids 2)]
    else if e.kind = 5 then tOf 43 (e.kids.map (trn N)) else tOf 22 [e]
/-- a verb turned in a valence, by at most N steps down -/
def trd : Nat → Int → Tm → Tm
  | 0, _, t => t
  | N + 1, v, t =>
    if plainT t = true then (if t.n = v then trn N (nounT t) else t)
    else withK t (t.kids.mapIdx fun i k => if 0 < (valT t v).getD i 0 then trd N ((valT t v).getD i 0) k else k)
end
theorem cnt_lt_of {t k : Tm} {i : Nat} {N : Nat} (hk : t.kids[i]? = some k) (h : cnt t ≤ N + 1) : cnt k ≤ N := by
  have := cnt_kid hk
  omega
theorem nth_of {l : List Tm} {i : Nat} {k : Tm} (h : l[i]? = some k) : nth l i = k := by unfold nth; rw [List.getD_eq_getElem?_getD, h]; rfl
/-- the parts of a definition whose body is one statement that says a noun -/
theorem plain_parts {t : Tm} {b : Bool} (hg : goodT b t = true) (hp : plainT t = true) : ∃ x y z, t.kids = [x] ∧ x.kids = [y] ∧ y.kids = [z] ∧ y.kind = 10 ∧ t.kind = 23 ∧ nounT t = z := by
  unfold plainT at hp
  simp only [Bool.and_eq_true, decide_eq_true_eq] at hp
  obtain ⟨⟨h1, h2⟩, h3⟩ := hp
  obtain ⟨x, hx, _⟩ := one_kid hg (c := 98) (by rw [h1]; decide) (by omega) (by omega) (by omega)
  have e1 : nth t.kids 0 = x := by rw [hx]; rfl
  rw [e1] at h2 h3
  obtain ⟨y, hy⟩ := List.length_eq_one_iff.1 h2
  have e2 : nth x.kids 0 = y := by rw [hy]; rfl
  rw [e2] at h3
  have g1 := good_kid hg (i := 0) (k := x) (by rw [hx]; rfl)
  have g2 := good_kid g1 (i := 0) (k := y) (by rw [hy]; rfl)
  obtain ⟨z, hz, _⟩ := one_kid g2 (c := 110) (by rw [h3]; decide) (by omega) (by omega) (by omega)
  exact ⟨x, y, z, hx, hy, hz, h3, h1, by unfold nounT; rw [e1, e2, hz]; rfl⟩
end Go.Proofs.YtebiojmfieoncaaGreat

namespace Go.Proofs.YtebiojmfieoncaaGreat
open Go.RowKit

set_option maxRecDepth 100000 in
set_option maxHeartbeats 4000000 in
theorem tprim_any (s : ByteArray) (w : World) : Calls Tryz.prog 119 #[.string s] w fun e w' => e = .returned (tmVal (primT s) none 0 none 0 none 0) ∧ Below w.heap.size w w' := by
  obtain ⟨W1, hW1⟩ : ∃ W1, W1 = w.alloc (.cells tm0 TTm) := ⟨_, rfl⟩
  have hb1 : Below w.heap.size w W1 := by rw [hW1]; exact (Below.refl _ _).alloc (Nat.le_refl _) _
  have hz : W1.heap[w.heap.size]? = some (.cells #[.int .i64 0, .string ⟨#[]⟩, .int .i64 0, .slice none 0 0, .slice none 0 0, .slice none 0 0] TTm (0, 0)) := by rw [hW1]; exact heap_alloc_new w _
  have HZ := Lib.hid (And.intro hz hb1)
  have HW1 := Lib.hid hW1
  have z0 := cell_at hz (j := 0) rfl
  have z1 := cell_at hz (j := 1) rfl
  have z2 := cell_at hz (j := 2) rfl
  have z3 := cell_at hz (j := 3) rfl
  have z4 := cell_at hz (j := 4) rfl
  have z5 := cell_at hz (j := 5) rfl
  have fz := unfrozen hz
  have lz := heap_lt hz
  clear hW1 hb1 hz
  go_enter Tryz.func119, Tryz.ntmps119
  go_upto_region 1 with fail
  rw [← HW1.out]
  go_wp2_with fail
  obtain ⟨e1, _, e3⟩ := six (.int .i64 20) (.string s) (.int .i64 0) (.slice none 0 0) (.slice none 0 0) (.slice none 0 0) HZ.out.1 HZ.out.2 (Nat.le_refl _)
  exact bodyPost_ret (results_tm1 (p := 2) rfl rfl e1) rfl ⟨rfl, e3⟩
set_option maxRecDepth 100000 in
set_option maxHeartbeats 4000000 in
theorem dprim_any (s : ByteArray) (w : World) : Calls Tryz.prog 122 #[.string s] w fun e w' => e = .returned (tmVal (primT s) none 0 none 0 none 0) ∧ Below w.heap.size w w' := by
  obtain ⟨W1, hW1⟩ : ∃ W1, W1 = w.alloc (.cells tm0 TTm) := ⟨_, rfl⟩
  have hb1 : Below w.heap.size w W1 := by rw [hW1]; exact (Below.refl _ _).alloc (Nat.le_refl _) _
  have hz : W1.heap[w.heap.size]? = some (.cells #[.int .i64 0, .string ⟨#[]⟩, .int .i64 0, .slice none 0 0, .slice none 0 0, .slice none 0 0] TTm (0, 0)) := by rw [hW1]; exact heap_alloc_new w _
  have HZ := Lib.hid (And.intro hz hb1)
  have HW1 := Lib.hid hW1
  have z0 := cell_at hz (j := 0) rfl
  have z1 := cell_at hz (j := 1) rfl
  have z2 := cell_at hz (j := 2) rfl
  have z3 := cell_at hz (j := 3) rfl
  have z4 := cell_at hz (j := 4) rfl
  have z5 := cell_at hz (j := 5) rfl
  have fz := unfrozen hz
  have lz := heap_lt hz
  clear hW1 hb1 hz
  go_enter Tryz.func122, Tryz.ntmps122
  go_upto_region 1 with fail
  rw [← HW1.out]
  go_wp2_with fail
  obtain ⟨e1, _, e3⟩ := six (.int .i64 20) (.string s) (.int .i64 0) (.slice none 0 0) (.slice none 0 0) (.slice none 0 0) HZ.out.1 HZ.out.2 (Nat.le_refl _)
  exact bodyPost_ret (results_tm1 (p := 2) rfl rfl e1) rfl ⟨rfl, e3⟩
set_option maxRecDepth 100000 in
set_option maxHeartbeats 4000000 in
theorem tmade_any (k : Int) (l : List Tm) (X : Option Addr) (n c : Nat) (w : World) (hn : n = l.length) : Calls Tryz.prog 120 #[.int .i64 k, .slice X n c] w fun e w' => e = .returned (tmVal (tOf k l) none 0 none 0 X c) ∧ Below w.heap.size w w' := by
  subst hn
  obtain ⟨W1, hW1⟩ : ∃ W1, W1 = w.alloc (.cells tm0 TTm) := ⟨_, rfl⟩
  have hb1 : Below w.heap.size w W1 := by rw [hW1]; exact (Below.refl _ _).alloc (Nat.le_refl _) _
  have hz : W1.heap[w.heap.size]? = some (.cells #[.int .i64 0, .string ⟨#[]⟩, .int .i64 0, .slice none 0 0, .slice none 0 0, .slice none 0 0] TTm (0, 0)) := by rw [hW1]; exact heap_alloc_new w _
  have HZ := Lib.hid (And.intro hz hb1)
  have HW1 := Lib.hid hW1
  have z0 := cell_at hz (j := 0) rfl
  have z1 := cell_at hz (j := 1) rfl
  have z2 := cell_at hz (j := 2) rfl
  have z3 := cell_at hz (j := 3) rfl
  have z4 := cell_at hz (j := 4) rfl
  have z5 := cell_at hz (j := 5) rfl
  have fz := unfrozen hz
  have lz := heap_lt hz
  clear hW1 hb1 hz
  go_enter Tryz.func120, Tryz.ntmps120
  go_upto_region 1 with fail
  rw [← HW1.out]
  go_wp2_with fail
  obtain ⟨e1, _, e3⟩ := six (.int .i64 k) (.string ⟨#[]⟩) (.int .i64 0) (.slice none 0 0) (.slice none 0 0) (.slice X l.length c) HZ.out.1 HZ.out.2 (Nat.le_refl _)
  exact bodyPost_ret (results_tm1 (p := 4) rfl rfl e1) rfl ⟨rfl, e3⟩
end Go.Proofs.YtebiojmfieoncaaGreat
