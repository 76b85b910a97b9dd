/- show.Text's layout: its text, what lies in memory while it is made. No condition. -/
import Derived.Test.YtpipcpjkfgdpcaaDoorShBehind
namespace Go.Proofs.YtpipcpjkfgdpcaaDoor
open Go.RowKit

/-- the number at a place -/
def atomAt (a : List Int) (p : Nat) : Int := a[p]?.getD 0
/-- how wide column c is, by the first places -/
def wd (a : List Int) (m : Nat) : Nat → Nat → Nat
  | 0, _ => 0
  | p + 1, c => if c = p % m then max (wd a m p c) (digits (atomAt a p)).length else wd a m p c
/-- what stands behind a place's number -/
def sepAt (s : List Int) (m N p : Nat) : List UInt8 := if p % m + 1 < m then [32] else if p + 1 < N then Lib.repeatL [10] (1 + trail (s.take (s.length - 1)) ((p / m : Nat) : Int)) else []
/-- the layout of the first places -/
def grid (s a : List Int) (m N : Nat) : Nat → List UInt8
  | 0 => []
  | p + 1 => grid s a m N p ++ Lib.repeatL [32] (wd a m N (p % m) - (digits (atomAt a p)).length) ++ digits (atomAt a p) ++ sepAt s m N p
theorem wd_mono (a : List Int) (m c : Nat) : ∀ p d, wd a m p c ≤ wd a m (p + d) c
  | p, 0 => Nat.le_refl _
  | p, d + 1 => by
    refine Nat.le_trans (wd_mono a m c p d) ?_
    show wd a m (p + d) c ≤ (if c = (p + d) % m then max (wd a m (p + d) c) (digits (atomAt a (p + d))).length else wd a m (p + d) c)
    split
    · exact Nat.le_max_left _ _
    · exact Nat.le_refl _
theorem wd_at (a : List Int) (m N p : Nat) (h : p < N) : (digits (atomAt a p)).length ≤ wd a m N (p % m) := by
  have h1 := wd_mono a m (p % m) (p + 1) (N - (p + 1))
  rw [show p + 1 + (N - (p + 1)) = N by omega] at h1
  refine Nat.le_trans ?_ h1
  show _ ≤ (if p % m = p % m then max (wd a m p (p % m)) (digits (atomAt a p)).length else wd a m p (p % m))
  rw [if_pos rfl]
  exact Nat.le_max_right _ _
theorem wd_le (a : List Int) (m c : Nat) (h : All64 a) : ∀ p, wd a m p c ≤ 21
  | 0 => Nat.zero_le _
  | p + 1 => by
    have hd : (digits (atomAt a p)).length ≤ 21 := by
      refine digits_len _ ?_
      unfold atomAt
      cases hx : a[p]? with
      | none => constructor <;> decide
      | some x => exact h x (List.mem_of_getElem? hx)
    have ih := wd_le a m c h p
    show (if c = p % m then max (wd a m p c) (digits (atomAt a p)).length else wd a m p c) ≤ 21
    split <;> omega
theorem rep_len (b : UInt8) (n : Nat) : (Lib.repeatL [b] n).length = n := by rw [Lib.repeatL_length]; simp
theorem atom64 {a : List Int} (h : All64 a) (p : Nat) : In64 (atomAt a p) := by
  unfold atomAt
  cases hx : a[p]? with
  | none => constructor <;> decide
  | some x => exact h x (List.mem_of_getElem? hx)
theorem grid_len (s a : List Int) (m N : Nat) (h : All64 a) (hs : s.length ≤ 64) : ∀ p, (grid s a m N p).length ≤ 130 * p
  | 0 => by simp [grid]
  | p + 1 => by
    have ih := grid_len s a m N h hs p
    have h1 := wd_le a m (p % m) h N
    have h2 := digits_len _ (atom64 h p)
    have h3 : (sepAt s m N p).length ≤ 66 := by
      unfold sepAt
      split
      · simp
      · split
        · rw [rep_len]
          have := trail_le (s.take (s.length - 1)) ((p / m : Nat) : Int)
          rw [List.length_take] at this
          omega
        · simp
    simp only [grid, List.length_append, rep_len]
    omega

/-- Text's own memory: the array, how many lengths it has, where the widths lie -/
structure TextW (w W : World) (g0 g4 g5 gw : Nat) (A B : Option Addr) (ca cb : Nat) (s a : List Int) (m : Nat) : Prop where
  be : Below w.heap.size w W
  c0 : W.heap[g0]? = some (.cells #[.slice A s.length ca, .slice B a.length cb] 36 (0, 0))
  c4 : W.heap[g4]? = some (.cells #[.int .i64 s.length] 3 (0, 0))
  c5 : W.heap[g5]? = some (.cells #[.slice (some ⟨gw, 0, none⟩) m m] 25 (0, 0))
/-- the widths -/
def Wide (W : World) (gw m : Nat) (f : Nat → Nat) : Prop := ∃ cur, W.heap[gw]? = some (.cells cur 3 (0, 0)) ∧ cur.size = m ∧ ∀ c, c < m → cur[c]? = some (.int .i64 (f c))
theorem Wide.cell {W : World} {gw m c : Nat} {f : Nat → Nat} (h : Wide W gw m f) (hc : c < m) : W.cell? ⟨gw, c, none⟩ = some (.int .i64 (f c)) ∧ W.frozen? ⟨gw, c, none⟩ = false := by
  obtain ⟨cur, h1, _, h3⟩ := h
  exact ⟨by simpa [World.cell?, h1] using h3 c hc, by simp [World.frozen?, h1]⟩
theorem Wide.set {W : World} {gw m c : Nat} {f f' : Nat → Nat} (h : Wide W gw m f) (v : Value) (hv : v = .int .i64 (f' c)) (hf : ∀ d, d ≠ c → f' d = f d) : Wide (W.setCell ⟨gw, c, none⟩ v) gw m f' := by
  obtain ⟨cur, h1, h2, h3⟩ := h
  refine ⟨cur.set! c v, by simp [World.setCell, Array.getElem?_modify, h1], by simp [h2], fun d hd => ?_⟩
  by_cases hdc : d = c
  · subst hdc
    have : d < cur.size := by omega
    simp [this, hv]
  · rw [Array.set!_eq_setIfInBounds, Array.getElem?_setIfInBounds_ne (Ne.symm hdc), hf d hdc]
    exact h3 d hd
/-- what is no cells, from block B on, may have turned; cells lie as they lay -/
def Soft (B : Nat) (W W' : World) : Prop := ∃ row, W.grownBy W' row ∧ ∀ r, row = some r → B ≤ r ∧ ∃ o : Obj, W.heap[r]? = some o ∧ o.isCells = false
theorem Soft.cells {B : Nat} {W W' : World} (h : Soft B W W') {k : Nat} {cs : Array Value} {t : TypeId} {fr : Nat × Nat} (hk : W.heap[k]? = some (.cells cs t fr)) : W'.heap[k]? = W.heap[k]? := by
  obtain ⟨row, hg, hr⟩ := h
  refine hg.block k (Array.getElem?_eq_some_iff.1 hk).1 fun e => ?_
  obtain ⟨_, o, ho, hc⟩ := hr k e.symm
  rw [hk] at ho
  injection ho with ho
  subst ho
  cases hc
theorem Soft.below {B : Nat} {w W W' : World} (h : Soft B W W') (hb : Below w.heap.size w W) (hB : w.heap.size ≤ B) : Below w.heap.size w W' := by
  obtain ⟨row, hg, hr⟩ := h
  exact hb.grown hg hb.size fun k e => Nat.le_trans hB (hr k e).1
theorem Soft.size {B : Nat} {W W' : World} (h : Soft B W W') : W.heap.size ≤ W'.heap.size := by
  obtain ⟨row, hg, hr⟩ := h
  exact hg.size
theorem TextW.soft {w W W' : World} {g0 g4 g5 gw ca cb m B' : Nat} {A B : Option Addr} {s a : List Int} (h : TextW w W g0 g4 g5 gw A B ca cb s a m) (hs : Soft B' W W') (hB : w.heap.size ≤ B') : TextW w W' g0 g4 g5 gw A B ca cb s a m :=
  ⟨hs.below h.be hB, (hs.cells h.c0).trans h.c0, (hs.cells h.c4).trans h.c4, (hs.cells h.c5).trans h.c5⟩
theorem Wide.soft {W W' : World} {gw m B' : Nat} {f : Nat → Nat} (h : Wide W gw m f) (hs : Soft B' W W') : Wide W' gw m f := by
  obtain ⟨cur, h1, h2, h3⟩ := h
  exact ⟨cur, (hs.cells h1).trans h1, h2, h3⟩
theorem TextW.kept {w W W' : World} {g0 g4 g5 gw ca cb m : Nat} {A B : Option Addr} {s a : List Int} (h : TextW w W g0 g4 g5 gw A B ca cb s a m) (hb : Below w.heap.size w W') (h0 : W'.heap[g0]? = W.heap[g0]?) (h4 : W'.heap[g4]? = W.heap[g4]?) (h5 : W'.heap[g5]? = W.heap[g5]?) : TextW w W' g0 g4 g5 gw A B ca cb s a m :=
  ⟨hb, h0.trans h.c0, h4.trans h.c4, h5.trans h.c5⟩
theorem TextW.on {w W W' : World} {g0 g4 g5 gw ca cb m : Nat} {A B : Option Addr} {s a : List Int} (h : TextW w W g0 g4 g5 gw A B ca cb s a m) (hb : Below W.heap.size W W') : TextW w W' g0 g4 g5 gw A B ca cb s a m :=
  h.kept (h.be.then_ hb) (hb.block _ (Array.getElem?_eq_some_iff.1 h.c0).1) (hb.block _ (Array.getElem?_eq_some_iff.1 h.c4).1) (hb.block _ (Array.getElem?_eq_some_iff.1 h.c5).1)
theorem Wide.on {W W' : World} {gw m : Nat} {f : Nat → Nat} (h : Wide W gw m f) (hb : Below W.heap.size W W') : Wide W' gw m f := by
  obtain ⟨cur, h1, h2, h3⟩ := h
  exact ⟨cur, (hb.block _ (Array.getElem?_eq_some_iff.1 h1).1).trans h1, h2, h3⟩
theorem cells1 {w : World} {g : Nat} {a : Value} {t : TypeId} (h : w.heap[g]? = some (.cells #[a] t (0, 0))) : w.cell? ⟨g, 0, none⟩ = some a := by simp [World.cell?, h]
theorem Tail.cell {w : World} {g k t : Nat} {l : List Int} (h : Tail w g k 0 l) {x : Int} (hx : l[t]? = some x) : w.cell? ⟨g, t, none⟩ = some (.int .i64 x) := by
  obtain ⟨cur, h1, h2, h3⟩ := h.blk
  have h4 : (cur.toList.drop 0)[t]? = (l.map fun x => Value.int .i64 x)[t]? := by rw [h3]
  rw [List.drop_zero, List.getElem?_map, hx] at h4
  simp only [Array.getElem?_toList, Option.map_some] at h4
  simpa [World.cell?, h1] using h4
theorem Tail.on {w w' : World} {g k t : Nat} {l : List Int} (h : Tail w g k t l) (hb : Below w.heap.size w w') : Tail w' g k t l := by
  obtain ⟨cur, h1, h2, h3⟩ := h.blk
  exact ⟨⟨cur, (hb.block _ (Array.getElem?_eq_some_iff.1 h1).1).trans h1, h2, h3⟩⟩
theorem Tail.lt {w : World} {g k t : Nat} {l : List Int} (h : Tail w g k t l) : g < w.heap.size := by
  obtain ⟨cur, h1, _⟩ := h.blk
  exact (Array.getElem?_eq_some_iff.1 h1).1
theorem keepsOthers_below {W W' : World} (h : Below W.heap.size W W') : KeepsOthers W W' := ⟨h.size, fun k _ hk _ => (h.block k (Array.getElem?_eq_some_iff.1 hk).1).trans hk⟩
/-- the frames of Text's rounds -/
abbrev textFrame1 (g0 g4 g5 k p q : Nat) (u : Nat → Value) : Act := { tmps := #[u 0, .pointer (some ⟨g0, 0, none⟩), u 2, u 3, .pointer (some ⟨g4, 0, none⟩), .pointer (some ⟨g5, 0, none⟩), .int .i64 p, .slice (some ⟨q, 0, none⟩) k k, u 8, u 9, u 10, u 11, u 12, u 13, u 14, u 15, u 16, u 17, u 18, u 19, u 20, u 21, u 22, u 23, u 24, u 25, u 26, u 27, u 28, u 29, u 30, u 31, u 32, u 33, u 34, u 35, u 36, u 37, u 38, u 39, u 40, u 41, u 42, u 43, u 44, u 45, u 46, u 47, u 48, u 49, u 50, u 51, u 52, u 53, u 54, u 55, u 56, u 57, u 58, u 59, u 60, u 61, u 62, u 63, u 64, u 65, u 66, u 67, u 68, u 69, u 70, u 71, u 72, u 73, u 74, u 75, u 76, u 77, u 78, u 79, u 80, u 81, u 82, u 83, u 84, u 85, u 86, u 87, u 88, u 89, u 90, u 91, u 92, u 93, u 94, u 95, u 96, u 97, u 98, u 99, u 100, u 101, u 102, u 103, u 104, u 105, u 106, u 107, u 108, u 109, u 110, u 111, u 112, u 113, u 114, u 115, u 116, u 117, u 118, u 119, u 120, u 121, u 122, u 123], defers := [] }
abbrev textFrame2 (g0 g4 g5 g8 k p q : Nat) (u : Nat → Value) : Act := { tmps := #[u 0, .pointer (some ⟨g0, 0, none⟩), u 2, u 3, .pointer (some ⟨g4, 0, none⟩), .pointer (some ⟨g5, 0, none⟩), u 6, u 7, .pointer (some ⟨g8, 0, none⟩), .int .i64 p, .slice (some ⟨q, 0, none⟩) k k, u 11, u 12, u 13, u 14, u 15, u 16, u 17, u 18, u 19, u 20, u 21, u 22, u 23, u 24, u 25, u 26, u 27, u 28, u 29, u 30, u 31, u 32, u 33, u 34, u 35, u 36, u 37, u 38, u 39, u 40, u 41, u 42, u 43, u 44, u 45, u 46, u 47, u 48, u 49, u 50, u 51, u 52, u 53, u 54, u 55, u 56, u 57, u 58, u 59, u 60, u 61, u 62, u 63, u 64, u 65, u 66, u 67, u 68, u 69, u 70, u 71, u 72, u 73, u 74, u 75, u 76, u 77, u 78, u 79, u 80, u 81, u 82, u 83, u 84, u 85, u 86, u 87, u 88, u 89, u 90, u 91, u 92, u 93, u 94, u 95, u 96, u 97, u 98, u 99, u 100, u 101, u 102, u 103, u 104, u 105, u 106, u 107, u 108, u 109, u 110, u 111, u 112, u 113, u 114, u 115, u 116, u 117, u 118, u 119, u 120, u 121, u 122, u 123], defers := [] }
/-- the body of a range over a function, by the slot that holds the function -/
noncomputable def rangeBody (n : Nat) : Code → Option Code
  | .seq x y => match rangeBody n x with
    | some r => some r
    | none => rangeBody n y
  | .block _ c => rangeBody n c
  | .rangeFunc (.tmp k) _ _ b => if k = n then some b else none
  | _ => none
noncomputable def textBody (n : Nat) : Option Code := match Tryd.f13.body with | some c => rangeBody n c | none => none
end Go.Proofs.YtpipcpjkfgdpcaaDoor
