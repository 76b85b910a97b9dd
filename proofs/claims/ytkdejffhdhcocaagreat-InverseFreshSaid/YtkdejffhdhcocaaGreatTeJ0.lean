/- Rows that a law writes full of marks, of numbers and of terms, and the lists that hold them; abacuslaw13.Book. Plain laws. No condition. -/
import Derived.Test.YtkdejffhdhcocaaGreatTeF1
namespace Go.Proofs.YtkdejffhdhcocaaGreat
open Go.RowKit

abbrev TB3 : TypeId := 29
abbrev TSK : TypeId := 22

theorem own_kept {w w' : World} {B : Nat} {e : TypeId} {z : Nat} {v : Value} {n : Nat} {xs : List Value} (h : w.ownsRow B e z v n xs) (hk : ∀ k, v.ownBlock = some k → w'.heap[k]? = w.heap[k]?) : w'.ownsRow B e z v n xs := by
  refine ⟨h.1, ?_⟩
  rcases h.2 with h2 | ⟨g, cap, cur, hv, h3, h4, h5⟩
  · exact .inl h2
  · exact .inr ⟨g, cap, cur, hv, h3, (hk g (by rw [hv]; rfl)).trans h4, h5⟩

/-- a row of elements of z cells: its block -/
structure ZwAt (t : TypeId) (z : Nat) (w : World) (B : Nat) (r : Bw) : Prop where
  le : r.n ≤ r.c
  max : r.c ≤ maxLen
  nil : r.g = none → r.c = 0
  at_ : ∀ b, r.g = some b → B ≤ b ∧ ∃ cur, w.heap[b]? = some (.cells cur t (0, 0)) ∧ r.c * z ≤ cur.size
section
variable {t : TypeId} {z : Nat} {w w' : World} {B : Nat} {r : Bw}
theorem ZwAt.lt (h : ZwAt t z w B r) {b : Nat} (hb : r.g = some b) : b < w.heap.size := by
  obtain ⟨_, cur, hc, _⟩ := h.at_ b hb
  exact heap_lt hc
theorem ZwAt.kept (h : ZwAt t z w B r) (hk : ∀ b, r.g = some b → w'.heap[b]? = w.heap[b]?) : ZwAt t z w' B r :=
  ⟨h.le, h.max, h.nil, fun b hb => by obtain ⟨h1, cur, h2, h3⟩ := h.at_ b hb; exact ⟨h1, cur, (hk b hb).trans h2, h3⟩⟩
theorem ZwAt.up (h : ZwAt t z w B r) : ZwAt t z w B r.up := ⟨(roomOf_le h.le).2, h.max, h.nil, h.at_⟩
theorem ZwAt.some (h : ZwAt t z w B r) {k : Nat} (hk : k < r.c) : ∃ b, r.g = some b := by
  cases hg : r.g with
  | none => have := h.nil hg; omega
  | some b => exact ⟨b, rfl⟩
theorem ZwAt.set (h : ZwAt t z w B r) (x i : Nat) (v : Value) : ZwAt t z (w.setCell ⟨x, i, none⟩ v) B r := by
  refine ⟨h.le, h.max, h.nil, fun b hb => ?_⟩
  obtain ⟨h1, cur, h2, h3⟩ := h.at_ b hb
  by_cases hx : b = x
  · subst hx
    exact ⟨h1, _, Go.heap_setCell_same w b i cur t v h2, by simpa using h3⟩
  · exact ⟨h1, cur, (Below.heap_setCell _ _ _ _ hx).trans h2, h3⟩
theorem ZwAt.free (h : ZwAt t z w B r) {b k : Nat} (hb : r.g = Option.some b) (hk : k < r.c * z) : ∃ old, w.cell? ⟨b, k, none⟩ = Option.some old ∧ w.frozen? ⟨b, k, none⟩ = false := by
  obtain ⟨_, cur, h2, h3⟩ := h.at_ b hb
  have hlt : k < cur.size := by omega
  exact ⟨cur[k], by simp [World.cell?, h2, hlt], by simp [World.frozen?, h2]⟩
end
/-- the first k elements of a row are the mark cs -/
def MkZ (w : World) (r : Bw) (z k : Nat) (cs : List Value) : Prop := ∀ b, r.g = some b → ∀ q o u, q < k → cs[o]? = some u → w.cell? ⟨b, q * z + o, none⟩ = some u
section
variable {w w' : World} {r : Bw} {z k : Nat} {cs : List Value}
theorem MkZ.zero (w : World) (r : Bw) (z : Nat) (cs : List Value) : MkZ w r z 0 cs := fun _ _ q _ _ h => absurd h (Nat.not_lt_zero q)
theorem MkZ.kept (h : MkZ w r z k cs) (hk : ∀ b, r.g = some b → w'.heap[b]? = w.heap[b]?) : MkZ w' r z k cs := fun b hb q o u hq hu => (World.cell?_of_block (hk b hb)).trans (h b hb q o u hq hu)
theorem MkZ.above (hz : cs.length = z) {n x b : Nat} (h : MkZ w r z n cs) (hx : n * z ≤ x) (v : Value) (hb : r.g = some b) : MkZ (w.setCell ⟨b, x, none⟩ v) r z n cs := fun b' hb' q o u hq hu => by
  obtain rfl : b = b' := Option.some.inj (hb.symm.trans hb')
  have ho : o < z := by rw [← hz]; exact (List.getElem?_eq_some_iff.1 hu).1
  have h1 : (q + 1) * z ≤ n * z := Nat.mul_le_mul_right _ hq
  rw [Nat.add_mul, Nat.one_mul] at h1
  rw [World.cell?_setCell_other _ _ _ _ (fun e => by injection e; omega)]
  exact h b hb q o u hq hu
/-- one more element is the mark -/
theorem MkZ.put {b : Nat} (hz : cs.length = z) (h : MkZ w r z k cs) (hb : r.g = some b) (hnew : ∀ o u, cs[o]? = some u → w'.cell? ⟨b, k * z + o, none⟩ = some u) (hold : ∀ j, j < k * z → w'.cell? ⟨b, j, none⟩ = w.cell? ⟨b, j, none⟩) : MkZ w' r z (k + 1) cs := fun b' hb' q o u hq hu => by
  obtain rfl : b = b' := Option.some.inj (hb.symm.trans hb')
  by_cases hqk : q = k
  · subst hqk; exact hnew o u hu
  · have ho : o < z := by rw [← hz]; exact (List.getElem?_eq_some_iff.1 hu).1
    have h1 : (q + 1) * z ≤ k * z := Nat.mul_le_mul_right _ (by omega)
    rw [Nat.add_mul, Nat.one_mul] at h1
    rw [hold _ (by omega)]
    exact h b hb q o u (by omega) hu
theorem MkZ.put1 {t : TypeId} {B b : Nat} {u : Value} (hr : ZwAt t 1 w B r) (h : MkZ w r 1 k [u]) (hb : r.g = some b) (hk : k < r.c) : MkZ (w.setCell ⟨b, k, none⟩ u) r 1 (k + 1) [u] := by
  obtain ⟨_, cur, h2, h3⟩ := hr.at_ b hb
  have h4 := Go.heap_setCell_same w b k cur t u h2
  have hs : k < cur.size := by omega
  refine h.put rfl hb (fun o v hv => ?_) fun j hj => World.cell?_setCell_other _ _ _ _ (fun e => by injection e; omega)
  match o, hv with
  | 0, hv =>
    obtain rfl := Option.some.inj hv
    rw [Nat.mul_one, Nat.add_zero]
    simp [World.cell?, h4, hs]
  | o + 1, hv => simp at hv
abbrev sixW (w : World) (g o : Nat) (v0 v1 v2 v3 v4 v5 : Value) : World := (((((w.setCell ⟨g, o, none⟩ v0).setCell ⟨g, o + 1, none⟩ v1).setCell ⟨g, o + 2, none⟩ v2).setCell ⟨g, o + 3, none⟩ v3).setCell ⟨g, o + 4, none⟩ v4).setCell ⟨g, o + 5, none⟩ v5
theorem MkZ.put6 {t : TypeId} {B b : Nat} {v0 v1 v2 v3 v4 v5 : Value} (hr : ZwAt t 6 w B r) (h : MkZ w r 6 k [v0, v1, v2, v3, v4, v5]) (hb : r.g = some b) (hk : k < r.c) : MkZ (sixW w b (k * 6) v0 v1 v2 v3 v4 v5) r 6 (k + 1) [v0, v1, v2, v3, v4, v5] := by
  obtain ⟨_, cur, h2, h3⟩ := hr.at_ b hb
  have g1 := Go.heap_setCell_same w b (k * 6) cur t v0 h2
  have g2 := Go.heap_setCell_same _ b (k * 6 + 1) _ t v1 g1
  have g3 := Go.heap_setCell_same _ b (k * 6 + 2) _ t v2 g2
  have g4 := Go.heap_setCell_same _ b (k * 6 + 3) _ t v3 g3
  have g5 := Go.heap_setCell_same _ b (k * 6 + 4) _ t v4 g4
  have g6 := Go.heap_setCell_same _ b (k * 6 + 5) _ t v5 g5
  have hs : k * 6 + 5 < cur.size := by omega
  unfold sixW
  refine h.put rfl hb (fun o v hv => ?_) fun j hj => ?_
  · match o, hv with
    | 0, hu => obtain rfl := Option.some.inj hu; simp [World.cell?, g6, Array.getElem?_setIfInBounds]; omega
    | 1, hu => obtain rfl := Option.some.inj hu; simp [World.cell?, g6, Array.getElem?_setIfInBounds]; omega
    | 2, hu => obtain rfl := Option.some.inj hu; simp [World.cell?, g6, Array.getElem?_setIfInBounds]; omega
    | 3, hu => obtain rfl := Option.some.inj hu; simp [World.cell?, g6, Array.getElem?_setIfInBounds]; omega
    | 4, hu => obtain rfl := Option.some.inj hu; simp [World.cell?, g6, Array.getElem?_setIfInBounds]; omega
    | 5, hu => obtain rfl := Option.some.inj hu; simp [World.cell?, g6, Array.getElem?_setIfInBounds]; omega
    | o + 6, hu => simp at hu
  · have hn : ∀ i, (⟨b, j, none⟩ : Addr) ≠ ⟨b, k * 6 + i, none⟩ := fun i e => by injection e; omega
    rw [World.cell?_setCell_other _ _ _ _ (hn 5).symm, World.cell?_setCell_other _ _ _ _ (hn 4).symm, World.cell?_setCell_other _ _ _ _ (hn 3).symm, World.cell?_setCell_other _ _ _ _ (hn 2).symm, World.cell?_setCell_other _ _ _ _ (hn 1).symm, World.cell?_setCell_other _ _ _ _ (fun e => by injection e; omega)]
end
/-- a list of rows: each lies in a block of its own; the first m are full of their marks -/
structure LsAt (w : World) (B : Nat) (P : Nat → Prop) (t ts : TypeId) (z : Nat) (mk : Nat → List Value) (v : Value) (S : List Bw) (m : Nat) : Prop where
  own : w.ownsRow B ts 1 v S.length (S.map Bw.val)
  row : ∀ r ∈ S, ZwAt t z w B r
  ap : S.Pairwise fun a b => a.g = none ∨ a.g ≠ b.g
  pv : ∀ k, v.ownBlock = some k → P k
  pr : ∀ r ∈ S, ∀ k, r.g = some k → P k
  mks : ∀ q r, S[q]? = some r → q < m → MkZ w r z r.n (mk q)
section
variable {w w' : World} {B : Nat} {P P' : Nat → Prop} {t ts : TypeId} {z : Nat} {mk : Nat → List Value} {v v' : Value} {S : List Bw} {m : Nat} {r : Bw}
theorem LsAt.turn (h : LsAt w B P t ts z mk v S m) (hv : ∀ k, v.ownBlock = some k → w'.heap[k]? = w.heap[k]?) (hr : ∀ r ∈ S, ∀ k, r.g = some k → w'.heap[k]? = w.heap[k]?) : LsAt w' B P t ts z mk v S m :=
  ⟨own_kept h.own hv, fun r hm => (h.row r hm).kept (hr r hm), h.ap, h.pv, h.pr, fun q r hq hm => (h.mks q r hq hm).kept (hr r (List.mem_of_getElem? hq))⟩
theorem LsAt.lt (h : LsAt w B P t ts z mk v S m) : (∀ k, v.ownBlock = some k → k < w.heap.size) ∧ ∀ r ∈ S, ∀ k, r.g = some k → k < w.heap.size :=
  ⟨fun k hk => by obtain ⟨cur, hc⟩ := row_type h.own k hk; exact heap_lt hc, fun r hm k hk => (h.row r hm).lt hk⟩
theorem LsAt.kept (h : LsAt w B P t ts z mk v S m) (hk : ∀ k, P k → k < w.heap.size → w'.heap[k]? = w.heap[k]?) : LsAt w' B P t ts z mk v S m :=
  h.turn (fun k e => hk k (h.pv k e) (h.lt.1 k e)) fun r hm k e => hk k (h.pr r hm k e) (h.lt.2 r hm k e)
theorem LsAt.inP (h : LsAt w B P t ts z mk v S m) (hP : ∀ k, P k → k < w.heap.size → P' k) : LsAt w B P' t ts z mk v S m :=
  ⟨h.own, h.row, h.ap, fun k e => hP k (h.pv k e) (h.lt.1 k e), fun r hm k e => hP k (h.pr r hm k e) (h.lt.2 r hm k e), h.mks⟩
/-- a cell of a block of another type is written -/
theorem LsAt.other (h : LsAt w B P t ts z mk v S m) {b : Nat} {cur : Array Value} {tb : TypeId} (hb : w.heap[b]? = some (.cells cur tb (0, 0))) (h1 : tb ≠ t) (h2 : tb ≠ ts) (k : Nat) (u : Value) : LsAt (w.setCell ⟨b, k, none⟩ u) B P t ts z mk v S m :=
  h.turn (fun x e => Below.heap_setCell _ _ _ _ fun exb => by
    obtain ⟨c2, hc⟩ := row_type h.own x e
    rw [show x = b from exb] at hc
    exact h2 (types_apart hb hc)) fun r hm x e => Below.heap_setCell _ _ _ _ fun exb => by
    obtain ⟨_, c2, hc, _⟩ := (h.row r hm).at_ x e
    rw [show x = b from exb] at hc
    exact h1 (types_apart hb hc)
theorem LsAt.form (h : LsAt w B P t ts z mk v S m) : ∃ A c, v = .slice A S.length c ∧ S.length ≤ c ∧ c ≤ maxLen := own_form h.own
theorem LsAt.cell (h : LsAt w B P t ts z mk v S m) {q : Nat} (hq : S[q]? = some r) : ∃ g c, v = .slice (some ⟨g, 0, none⟩) S.length c ∧ g < w.heap.size ∧ w.cell? ⟨g, q, none⟩ = some r.val ∧ w.frozen? ⟨g, q, none⟩ = false := by
  obtain ⟨A, c, rfl, _⟩ := h.form
  have hlt := (List.getElem?_eq_some_iff.1 hq).1
  obtain ⟨g, rfl, h1, h2⟩ := own_cell h.own (j := q) (u := r.val) (by rw [List.getElem?_map, hq]; rfl) (by omega)
  obtain ⟨cur, hc⟩ := row_type h.own g rfl
  exact ⟨g, c, rfl, h1, h2, unfrozen hc q⟩
theorem LsAt.add (h : LsAt w B P t ts z mk v S m) (htt : t ≠ ts) (hg : w.grownBy w' v.ownBlock) (ho : w'.ownsRow B ts 1 v' (S.length + 1) (S.map Bw.val ++ [r.val])) (hr : ZwAt t z w' B r) (hap : ∀ s ∈ S, s.g = none ∨ s.g ≠ r.g) (hm : m ≤ S.length)
    (hP : ∀ k, v'.ownBlock = some k → P k) (hrP : ∀ k, r.g = some k → P k) : LsAt w' B P t ts z mk v' (S ++ [r]) m := by
  have keep : ∀ s ∈ S, ∀ b, s.g = some b → w'.heap[b]? = w.heap[b]? := fun s hs b hb => hg.block b ((h.row s hs).lt hb) fun e => by
    obtain ⟨cur, hc⟩ := row_type h.own b e.symm
    obtain ⟨_, c2, hc2, _⟩ := (h.row s hs).at_ b hb
    exact htt (types_apart hc2 hc)
  refine ⟨by simpa using ho, fun s hs => ?_, ?_, hP, fun s hs => ?_, fun q s hq hqm => ?_⟩
  · rcases List.mem_append.1 hs with hs | hs
    · exact (h.row s hs).kept (keep s hs)
    · obtain rfl := List.mem_singleton.1 hs; exact hr
  · rw [List.pairwise_append]
    exact ⟨h.ap, List.pairwise_singleton _ _, fun s hs x hx => by obtain rfl := List.mem_singleton.1 hx; exact hap s hs⟩
  · rcases List.mem_append.1 hs with hs | hs
    · exact h.pr s hs
    · obtain rfl := List.mem_singleton.1 hs; exact hrP
  · rw [List.getElem?_append_left (by omega)] at hq
    exact (h.mks q s hq hqm).kept (keep s (List.mem_of_getElem? hq))
/-- a cell of the row at hand is written -/
theorem LsAt.mark (h : LsAt w B P t ts z mk v S m) (htt : t ≠ ts) (hz : ∀ q, (mk q).length = z) {q b k : Nat} (hq : S[q]? = some r) (hb : r.g = some b) (hm : m ≤ q ∨ r.n * z ≤ k) (u : Value) : LsAt (w.setCell ⟨b, k, none⟩ u) B P t ts z mk v S m := by
  have hrm := List.mem_of_getElem? hq
  refine ⟨own_kept h.own fun x e => Below.heap_setCell _ _ _ _ fun exb => ?_, fun s hs => (h.row s hs).set _ _ _, h.ap, h.pv, h.pr, fun p s hp hpm => ?_⟩
  · obtain ⟨c2, hc⟩ := row_type h.own x e
    obtain ⟨_, c3, hc3, _⟩ := (h.row r hrm).at_ b hb
    rw [show x = b from exb] at hc
    exact htt (types_apart hc3 hc)
  · by_cases hpq : p = q
    · subst hpq
      obtain rfl : r = s := Option.some.inj (hq.symm.trans hp)
      exact (h.mks p r hp hpm).above (hz p) (by omega) u hb
    · refine (h.mks p s hp hpm).kept fun c hc => Below.heap_setCell _ _ _ _ fun e => ?_
      exact rows_ne h.ap hq hp (Ne.symm hpq) hb (show s.g = some b by rw [hc, show c = b from e])
theorem LsAt.done (h : LsAt w B P t ts z mk v S m) (hq : S[m]? = some r) (hm : MkZ w r z r.n (mk m)) : LsAt w B P t ts z mk v S (m + 1) :=
  ⟨h.own, h.row, h.ap, h.pv, h.pr, fun q s hs hlt => by
    by_cases hqm : q = m
    · subst hqm
      obtain rfl : r = s := Option.some.inj (hq.symm.trans hs)
      exact hm
    · exact h.mks q s hs (by omega)⟩
/-- the grown row is put into its list -/
theorem LsAt.up {g n c q : Nat} (h : LsAt w B P t ts z mk (.slice (some ⟨g, 0, none⟩) n c) S m) (htt : t ≠ ts) (hq : S[q]? = some r) (hm : MkZ w r z (roomOf r.n r.c) (mk q)) : LsAt (w.setCell ⟨g, q, none⟩ r.up.val) B P t ts z mk (.slice (some ⟨g, 0, none⟩) n c) (S.set q r.up) m := by
  have hrm := List.mem_of_getElem? hq
  obtain ⟨_, _, hf, _, _⟩ := own_form h.own
  simp only [Value.slice.injEq] at hf
  obtain ⟨-, rfl, -⟩ := hf
  obtain ⟨ho, hg⟩ := World.ownsRow.stored h.own q r.up.val
  obtain ⟨cur, hc⟩ := row_type h.own g rfl
  have keep : ∀ s ∈ S, ∀ b, s.g = some b → (w.setCell ⟨g, q, none⟩ r.up.val).heap[b]? = w.heap[b]? := fun s hs b hb => Below.heap_setCell _ _ _ _ fun e => by
    obtain ⟨_, c3, hc3, _⟩ := (h.row s hs).at_ b hb
    rw [show b = g from e] at hc3
    exact htt (types_apart hc3 hc)
  refine ⟨?_, fun s hs => ?_, ?_, h.pv, fun s hs => ?_, fun p s hp hpm => ?_⟩
  · rw [List.length_set, List.map_set]; exact ho
  · rcases List.mem_or_eq_of_mem_set hs with hs | rfl
    · exact (h.row s hs).kept (keep s hs)
    · exact ((h.row r hrm).kept (keep r hrm)).up
  · have hgq : (S.set q r.up).map (·.g) = S.map (·.g) := by
      rw [List.map_set]
      obtain ⟨hl, he⟩ := List.getElem?_eq_some_iff.1 hq
      have e : (S.map (·.g))[q]? = some r.up.g := by rw [List.getElem?_map, hq]; rfl
      obtain ⟨hl2, he2⟩ := List.getElem?_eq_some_iff.1 e
      rw [show (Bw.up r).g = (S.map (·.g))[q] from he2.symm, List.set_getElem_self]
    have h1 := (List.pairwise_map (f := fun a : Bw => a.g) (R := fun a b => a = none ∨ a ≠ b) (l := S)).2 h.ap
    rw [← hgq] at h1
    exact List.pairwise_map.1 h1
  · rcases List.mem_or_eq_of_mem_set hs with hs | rfl
    · exact h.pr s hs
    · exact h.pr r hrm
  · by_cases hpq : p = q
    · subst hpq
      rw [List.getElem?_set_self (List.getElem?_eq_some_iff.1 hq).1] at hp
      obtain rfl := Option.some.inj hp
      exact MkZ.kept (r := r.up) hm fun b hb => keep r hrm b hb
    · rw [List.getElem?_set_ne (Ne.symm hpq)] at hp
      exact (h.mks p s hp hpm).kept (keep s (List.mem_of_getElem? hp))
end

def mS (q : Nat) : List Value := [.int .i64 (1099511627776 + (q : Int))]
def mA (q : Nat) : List Value := [.int .i64 (-2199023255552 - (q : Int))]
def mK (q : Nat) : List Value := [.int .i64 0, .string ⟨#[]⟩, .int .i64 (4398046511104 + (q : Int)), .slice none 0 0, .slice none 0 0, .slice none 0 0]
/-- a book of terms' rows: lengths, atoms, kids; P: blocks that are its own -/
structure Bk3 (W0 w : World) (B pb : Nat) (P : Nat → Prop) (sv av kv : Value) (z : Int) (S A K : List Bw) (i j k : Nat) : Prop where
  bk : w.heap[pb]? = some (.cells #[sv, av, kv, .int .i64 z] TB3 (0, 0))
  pp : P pb
  bb : B ≤ pb
  ls : LsAt w B P TIn TSI 1 mS sv S i
  la : LsAt w B P TI6 TSA 1 mA av A j
  lk : LsAt w B P TTm TSK 6 mK kv K k
  on : OnlyP P W0 w
section
variable {W0 w w' : World} {B pb : Nat} {P P' : Nat → Prop} {sv av kv v' : Value} {z : Int} {S A K : List Bw} {i j k : Nat} {r : Bw}
theorem Bk3.cells (h : Bk3 W0 w B pb P sv av kv z S A K i j k) : w.cell? ⟨pb, 0, none⟩ = some sv ∧ w.cell? ⟨pb, 1, none⟩ = some av ∧ w.cell? ⟨pb, 2, none⟩ = some kv ∧ w.cell? ⟨pb, 3, none⟩ = some (.int .i64 z) ∧ (∀ j, w.frozen? ⟨pb, j, none⟩ = false) ∧ pb < w.heap.size := by
  have hb := h.bk
  exact ⟨cell_at hb rfl, cell_at hb rfl, cell_at hb rfl, cell_at hb rfl, unfrozen hb, heap_lt hb⟩
theorem Bk3.kept (h : Bk3 W0 w B pb P sv av kv z S A K i j k) (hk : ∀ x, P x → x < w.heap.size → w'.heap[x]? = w.heap[x]?) (hon : OnlyP P W0 w') : Bk3 W0 w' B pb P sv av kv z S A K i j k :=
  ⟨(hk pb h.pp (heap_lt h.bk)).trans h.bk, h.pp, h.bb, h.ls.kept hk, h.la.kept hk, h.lk.kept hk, hon⟩
theorem Bk3.below (h : Bk3 W0 w B pb P sv av kv z S A K i j k) (hb : Below w.heap.size w w') : Bk3 W0 w' B pb P sv av kv z S A K i j k :=
  h.kept (fun x _ hx => hb.block x hx) (h.on.below hb)
theorem Bk3.size (h : Bk3 W0 w B pb P sv av kv z S A K i j k) (z' : Int) : Bk3 W0 (w.setCell ⟨pb, 3, none⟩ (.int .i64 z')) B pb P sv av kv z' S A K i j k :=
  ⟨by rw [Go.heap_setCell_same w pb 3 _ TB3 _ h.bk]; rfl, h.pp, h.bb, h.ls.other h.bk (by decide) (by decide) _ _, h.la.other h.bk (by decide) (by decide) _ _, h.lk.other h.bk (by decide) (by decide) _ _, h.on.set _ _ fun _ => h.pp⟩
theorem LsAt.grown {t ts : TypeId} {zz m : Nat} {mk : Nat → List Value} {v : Value} {row : Option Nat} {T : List Bw} (h : LsAt w B P t ts zz mk v T m) (hg : w.grownBy w' row) {tr : TypeId} (hr : ∀ x, row = some x → ∃ cur, w.heap[x]? = some (.cells cur tr (0, 0))) (h1 : tr ≠ t) (h2 : tr ≠ ts) : LsAt w' B P t ts zz mk v T m :=
  h.turn (fun x e => hg.block x (h.lt.1 x e) fun e2 => by
    obtain ⟨c1, hc1⟩ := hr x e2.symm
    obtain ⟨c2, hc2⟩ := row_type h.own x e
    exact h2 (types_apart hc1 hc2)) fun r hm x e => hg.block x (h.lt.2 r hm x e) fun e2 => by
    obtain ⟨c1, hc1⟩ := hr x e2.symm
    obtain ⟨_, c2, hc2, _⟩ := (h.row r hm).at_ x e
    exact h1 (types_apart hc1 hc2)
theorem Bk3.grownBk (h : Bk3 W0 w B pb P sv av kv z S A K i j k) {row : Option Nat} (hg : w.grownBy w' row) {tr : TypeId} (hr : ∀ x, row = some x → ∃ cur, w.heap[x]? = some (.cells cur tr (0, 0))) (h1 : tr ≠ TB3) : w'.heap[pb]? = some (.cells #[sv, av, kv, .int .i64 z] TB3 (0, 0)) :=
  (hg.block pb (heap_lt h.bk) fun e => by
    obtain ⟨c1, hc1⟩ := hr pb e.symm
    exact h1 (types_apart hc1 h.bk)).trans h.bk
theorem onP (h : OnlyP P W0 w) {v : Value} (hv : ∀ x, v.ownBlock = some x → P x) (hg : w.grownBy w' v.ownBlock) : OnlyP P W0 w' := h.grown hg fun x e _ => hv x e
theorem Bk3.addS (h : Bk3 W0 w B pb P sv av kv z S A K i j k) (hg : w.grownBy w' sv.ownBlock) (ho : w'.ownsRow B TSI 1 v' (S.length + 1) (S.map Bw.val ++ [r.val])) (hr : ZwAt TIn 1 w B r) (hap : ∀ s ∈ S, s.g = none ∨ s.g ≠ r.g) (hm : i ≤ S.length)
    (hP : ∀ x, v'.ownBlock = some x → P x) (hrP : ∀ x, r.g = some x → P x) : Bk3 W0 (w'.setCell ⟨pb, 0, none⟩ v') B pb P v' av kv z (S ++ [r]) A K i j k := by
  have ht := row_type h.ls.own
  have hbk := h.grownBk hg ht (by decide)
  have hr' : ZwAt TIn 1 w' B r := hr.kept fun b hb => hg.block b (hr.lt hb) fun e => by
    obtain ⟨c1, hc1⟩ := ht b e.symm
    obtain ⟨_, c2, hc2, _⟩ := hr.at_ b hb
    exact absurd (types_apart hc1 hc2) (by decide)
  exact ⟨by rw [Go.heap_setCell_same w' pb 0 _ TB3 _ hbk]; rfl, h.pp, h.bb, (h.ls.add (by decide) hg ho hr' hap hm hP hrP).other hbk (by decide) (by decide) _ _, (h.la.grown hg ht (by decide) (by decide)).other hbk (by decide) (by decide) _ _, (h.lk.grown hg ht (by decide) (by decide)).other hbk (by decide) (by decide) _ _, (onP h.on h.ls.pv hg).set _ _ fun _ => h.pp⟩
theorem Bk3.addA (h : Bk3 W0 w B pb P sv av kv z S A K i j k) (hg : w.grownBy w' av.ownBlock) (ho : w'.ownsRow B TSA 1 v' (A.length + 1) (A.map Bw.val ++ [r.val])) (hr : ZwAt TI6 1 w B r) (hap : ∀ s ∈ A, s.g = none ∨ s.g ≠ r.g) (hm : j ≤ A.length)
    (hP : ∀ x, v'.ownBlock = some x → P x) (hrP : ∀ x, r.g = some x → P x) : Bk3 W0 (w'.setCell ⟨pb, 1, none⟩ v') B pb P sv v' kv z S (A ++ [r]) K i j k := by
  have ht := row_type h.la.own
  have hbk := h.grownBk hg ht (by decide)
  have hr' : ZwAt TI6 1 w' B r := hr.kept fun b hb => hg.block b (hr.lt hb) fun e => by
    obtain ⟨c1, hc1⟩ := ht b e.symm
    obtain ⟨_, c2, hc2, _⟩ := hr.at_ b hb
    exact absurd (types_apart hc1 hc2) (by decide)
  exact ⟨by rw [Go.heap_setCell_same w' pb 1 _ TB3 _ hbk]; rfl, h.pp, h.bb, (h.ls.grown hg ht (by decide) (by decide)).other hbk (by decide) (by decide) _ _, (h.la.add (by decide) hg ho hr' hap hm hP hrP).other hbk (by decide) (by decide) _ _, (h.lk.grown hg ht (by decide) (by decide)).other hbk (by decide) (by decide) _ _, (onP h.on h.la.pv hg).set _ _ fun _ => h.pp⟩
theorem Bk3.addK (h : Bk3 W0 w B pb P sv av kv z S A K i j k) (hg : w.grownBy w' kv.ownBlock) (ho : w'.ownsRow B TSK 1 v' (K.length + 1) (K.map Bw.val ++ [r.val])) (hr : ZwAt TTm 6 w B r) (hap : ∀ s ∈ K, s.g = none ∨ s.g ≠ r.g) (hm : k ≤ K.length)
    (hP : ∀ x, v'.ownBlock = some x → P x) (hrP : ∀ x, r.g = some x → P x) : Bk3 W0 (w'.setCell ⟨pb, 2, none⟩ v') B pb P sv av v' z S A (K ++ [r]) i j k := by
  have ht := row_type h.lk.own
  have hbk := h.grownBk hg ht (by decide)
  have hr' : ZwAt TTm 6 w' B r := hr.kept fun b hb => hg.block b (hr.lt hb) fun e => by
    obtain ⟨c1, hc1⟩ := ht b e.symm
    obtain ⟨_, c2, hc2, _⟩ := hr.at_ b hb
    exact absurd (types_apart hc1 hc2) (by decide)
  exact ⟨by rw [Go.heap_setCell_same w' pb 2 _ TB3 _ hbk]; rfl, h.pp, h.bb, (h.ls.grown hg ht (by decide) (by decide)).other hbk (by decide) (by decide) _ _, (h.la.grown hg ht (by decide) (by decide)).other hbk (by decide) (by decide) _ _, (h.lk.add (by decide) hg ho hr' hap hm hP hrP).other hbk (by decide) (by decide) _ _, (onP h.on h.lk.pv hg).set _ _ fun _ => h.pp⟩
theorem Bk3.markS (h : Bk3 W0 w B pb P sv av kv z S A K i j k) {q b x : Nat} (hq : S[q]? = some r) (hb : r.g = some b) (hm : i ≤ q ∨ r.n * 1 ≤ x) (u : Value) : Bk3 W0 (w.setCell ⟨b, x, none⟩ u) B pb P sv av kv z S A K i j k := by
  have hrm := List.mem_of_getElem? hq
  obtain ⟨_, cur, hc, _⟩ := (h.ls.row r hrm).at_ b hb
  exact ⟨(Below.heap_setCell _ _ _ _ fun e => absurd (types_apart hc (show w.heap[b]? = _ by rw [← show pb = b from e]; exact h.bk)) (by decide)).trans h.bk, h.pp, h.bb, h.ls.mark (by decide) (fun _ => rfl) hq hb hm u, h.la.other hc (by decide) (by decide) _ _, h.lk.other hc (by decide) (by decide) _ _, h.on.set _ _ fun _ => h.ls.pr r hrm b hb⟩
theorem Bk3.markA (h : Bk3 W0 w B pb P sv av kv z S A K i j k) {q b x : Nat} (hq : A[q]? = some r) (hb : r.g = some b) (hm : j ≤ q ∨ r.n * 1 ≤ x) (u : Value) : Bk3 W0 (w.setCell ⟨b, x, none⟩ u) B pb P sv av kv z S A K i j k := by
  have hrm := List.mem_of_getElem? hq
  obtain ⟨_, cur, hc, _⟩ := (h.la.row r hrm).at_ b hb
  exact ⟨(Below.heap_setCell _ _ _ _ fun e => absurd (types_apart hc (show w.heap[b]? = _ by rw [← show pb = b from e]; exact h.bk)) (by decide)).trans h.bk, h.pp, h.bb, h.ls.other hc (by decide) (by decide) _ _, h.la.mark (by decide) (fun _ => rfl) hq hb hm u, h.lk.other hc (by decide) (by decide) _ _, h.on.set _ _ fun _ => h.la.pr r hrm b hb⟩
theorem Bk3.markK (h : Bk3 W0 w B pb P sv av kv z S A K i j k) {q b x : Nat} (hq : K[q]? = some r) (hb : r.g = some b) (hm : k ≤ q ∨ r.n * 6 ≤ x) (u : Value) : Bk3 W0 (w.setCell ⟨b, x, none⟩ u) B pb P sv av kv z S A K i j k := by
  have hrm := List.mem_of_getElem? hq
  obtain ⟨_, cur, hc, _⟩ := (h.lk.row r hrm).at_ b hb
  exact ⟨(Below.heap_setCell _ _ _ _ fun e => absurd (types_apart hc (show w.heap[b]? = _ by rw [← show pb = b from e]; exact h.bk)) (by decide)).trans h.bk, h.pp, h.bb, h.ls.other hc (by decide) (by decide) _ _, h.la.other hc (by decide) (by decide) _ _, h.lk.mark (by decide) (fun _ => rfl) hq hb hm u, h.on.set _ _ fun _ => h.lk.pr r hrm b hb⟩
theorem Bk3.upS {g n c q : Nat} (h : Bk3 W0 w B pb P (.slice (some ⟨g, 0, none⟩) n c) av kv z S A K i j k) (hq : S[q]? = some r) (hm : MkZ w r 1 (roomOf r.n r.c) (mS q)) : Bk3 W0 (w.setCell ⟨g, q, none⟩ r.up.val) B pb P (.slice (some ⟨g, 0, none⟩) n c) av kv z (S.set q r.up) A K i j k := by
  obtain ⟨cur, hc⟩ := row_type h.ls.own g rfl
  exact ⟨(Below.heap_setCell _ _ _ _ fun e => absurd (types_apart hc (show w.heap[g]? = _ by rw [← show pb = g from e]; exact h.bk)) (by decide)).trans h.bk, h.pp, h.bb, h.ls.up (by decide) hq hm, h.la.other hc (by decide) (by decide) _ _, h.lk.other hc (by decide) (by decide) _ _, h.on.set _ _ fun _ => h.ls.pv g rfl⟩
theorem Bk3.upA {g n c q : Nat} (h : Bk3 W0 w B pb P sv (.slice (some ⟨g, 0, none⟩) n c) kv z S A K i j k) (hq : A[q]? = some r) (hm : MkZ w r 1 (roomOf r.n r.c) (mA q)) : Bk3 W0 (w.setCell ⟨g, q, none⟩ r.up.val) B pb P sv (.slice (some ⟨g, 0, none⟩) n c) kv z S (A.set q r.up) K i j k := by
  obtain ⟨cur, hc⟩ := row_type h.la.own g rfl
  exact ⟨(Below.heap_setCell _ _ _ _ fun e => absurd (types_apart hc (show w.heap[g]? = _ by rw [← show pb = g from e]; exact h.bk)) (by decide)).trans h.bk, h.pp, h.bb, h.ls.other hc (by decide) (by decide) _ _, h.la.up (by decide) hq hm, h.lk.other hc (by decide) (by decide) _ _, h.on.set _ _ fun _ => h.la.pv g rfl⟩
theorem Bk3.upK {g n c q : Nat} (h : Bk3 W0 w B pb P sv av (.slice (some ⟨g, 0, none⟩) n c) z S A K i j k) (hq : K[q]? = some r) (hm : MkZ w r 6 (roomOf r.n r.c) (mK q)) : Bk3 W0 (w.setCell ⟨g, q, none⟩ r.up.val) B pb P sv av (.slice (some ⟨g, 0, none⟩) n c) z S A (K.set q r.up) i j k := by
  obtain ⟨cur, hc⟩ := row_type h.lk.own g rfl
  exact ⟨(Below.heap_setCell _ _ _ _ fun e => absurd (types_apart hc (show w.heap[g]? = _ by rw [← show pb = g from e]; exact h.bk)) (by decide)).trans h.bk, h.pp, h.bb, h.ls.other hc (by decide) (by decide) _ _, h.la.other hc (by decide) (by decide) _ _, h.lk.up (by decide) hq hm, h.on.set _ _ fun _ => h.lk.pv g rfl⟩
end
end Go.Proofs.YtkdejffhdhcocaaGreat
