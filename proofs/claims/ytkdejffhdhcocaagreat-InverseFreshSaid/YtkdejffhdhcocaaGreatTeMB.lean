/- abacusref17: prim, scalar, spelled, bond; a term that lies outside of some blocks. No condition. · abacusref17.bond: the obverse of a bond. Condition: sizes within reach. -/
import Derived.Test.YtkdejffhdhcocaaGreatTeMD
import Derived.Test.YtkdejffhdhcocaaGreatTeMk
import Derived.Deep.CutBlock
import Derived.Deep.RegionLaw
namespace Go.Proofs.YtkdejffhdhcocaaGreat
open Go.RowKit

/-- two terms in a row -/
theorem mask_two {W : World} {lo hi g : Nat} {x y : Tm} {P Q R P' Q' R' : Option Addr} {p q r p' q' r' : Nat} (k : Int) (hx : TmAt (mask W lo hi) x P Q R) (hy : TmAt (mask W lo hi) y P' Q' R') (hg : hi ≤ g)
    (hL : W.heap[g]? = some (.cells #[.int .i64 x.kind, .string x.text, .int .i64 x.n, .slice P x.sh.length p, .slice Q x.at_.length q, .slice R x.kids.length r, .int .i64 y.kind, .string y.text, .int .i64 y.n, .slice P' y.sh.length p', .slice Q' y.at_.length q', .slice R' y.kids.length r'] TTm (0, 0))) :
    TmAt (mask W lo hi) (tOf k [x, y]) none none (some ⟨g, 0, none⟩) := by
  refine ⟨IntsAt.nil _ _, IntsAt.nil _ _, KidsAt.of fun i u hu => ?_⟩
  have key : ∀ j v, (#[.int .i64 x.kind, .string x.text, .int .i64 x.n, .slice P x.sh.length p, .slice Q x.at_.length q, .slice R x.kids.length r, .int .i64 y.kind, .string y.text, .int .i64 y.n, .slice P' y.sh.length p', .slice Q' y.at_.length q', .slice R' y.kids.length r'] : Array Value)[j]? = some v → (mask W lo hi).cell? ⟨g, j, none⟩ = some v := fun j v hv =>
    mask_cell' (by show ¬ (lo ≤ g ∧ g < hi); omega) (cell_at hL hv)
  have hlt : g < (mask W lo hi).heap.size := by rw [mask_size]; exact heap_lt hL
  match i, hu with
  | 0, hu =>
    obtain rfl := Option.some.inj hu
    refine ⟨_, hx.is p q r, hlt, fun j v hj => ?_⟩
    have hj6 : j < 6 := (List.getElem?_eq_some_iff.1 hj).1
    refine key _ _ ?_
    match j, hj6, hj with
    | 0, _, hj => exact hj
    | 1, _, hj => exact hj
    | 2, _, hj => exact hj
    | 3, _, hj => exact hj
    | 4, _, hj => exact hj
    | 5, _, hj => exact hj
  | 1, hu =>
    obtain rfl := Option.some.inj hu
    refine ⟨_, hy.is p' q' r', hlt, fun j v hj => ?_⟩
    have hj6 : j < 6 := (List.getElem?_eq_some_iff.1 hj).1
    refine key _ _ ?_
    match j, hj6, hj with
    | 0, _, hj => exact hj
    | 1, _, hj => exact hj
    | 2, _, hj => exact hj
    | 3, _, hj => exact hj
    | 4, _, hj => exact hj
    | 5, _, hj => exact hj
abbrev sixPut (w : World) (g : Nat) (v0 v1 v2 v3 v4 v5 : Value) : World := (((((w.setCell ⟨g, 0, none⟩ v0).setCell ⟨g, 1, none⟩ v1).setCell ⟨g, 2, none⟩ v2).setCell ⟨g, 3, none⟩ v3).setCell ⟨g, 4, none⟩ v4).setCell ⟨g, 5, none⟩ v5
/-- a term is laid into the result's block g (lo ≤ B ≤ g < hi) -/
theorem doc_six {w w3 : World} {lo hi g : Nat} {u : Tm} {P Q R : Option Addr} {p q r : Nat} {a0 a1 a2 a3 a4 a5 : Value} (hz : w3.heap[g]? = some (.cells #[a0, a1, a2, a3, a4, a5] TTm (0, 0))) (hb : Below w.heap.size w w3) (h0 : lo ≤ w.heap.size) (h1 : w.heap.size ≤ g) (h2 : g < hi) (hu : TmAt (mask w3 lo hi) u P Q R) :
    (sixPut w3 g (.int .i64 u.kind) (.string u.text) (.int .i64 u.n) (.slice P u.sh.length p) (.slice Q u.at_.length q) (.slice R u.kids.length r)).heap[g]? = some (.cells (tmCells u P p Q q R r) TTm (0, 0)) ∧
    TmAt (mask (sixPut w3 g (.int .i64 u.kind) (.string u.text) (.int .i64 u.n) (.slice P u.sh.length p) (.slice Q u.at_.length q) (.slice R u.kids.length r)) lo w.heap.size) u P Q R ∧
    Below w.heap.size w (sixPut w3 g (.int .i64 u.kind) (.string u.text) (.int .i64 u.n) (.slice P u.sh.length p) (.slice Q u.at_.length q) (.slice R u.kids.length r)) := by
  obtain ⟨e1, e2, e3⟩ := six (.int .i64 u.kind) (.string u.text) (.int .i64 u.n) (.slice P u.sh.length p) (.slice Q u.at_.length q) (.slice R u.kids.length r) hz hb h1
  refine ⟨e1, mask_less (mask_to hu (fun k _ hk => e2 k (by omega)) ?_) (by omega), e3⟩
  simp [World.setCell]
/-- a row of two terms is laid, and a term about it into the result's block -/
theorem doc_two {w w3 : World} {lo hi g : Nat} {x y : Tm} {P Q R P' Q' R' : Option Addr} {p q r p' q' r' : Nat} {a0 a1 a2 a3 a4 a5 : Value} (k : Int) (hz : w3.heap[g]? = some (.cells #[a0, a1, a2, a3, a4, a5] TTm (0, 0))) (hb : Below w.heap.size w w3) (h0 : lo ≤ w.heap.size) (h1 : w.heap.size ≤ g) (h2 : g < hi) (h3 : hi ≤ w3.heap.size) (hx : TmAt (mask w3 lo hi) x P Q R) (hy : TmAt (mask w3 lo hi) y P' Q' R') {W : World}
    (hW : W = (sixPut w3 g (.int .i64 k) (.string ⟨#[]⟩) (.int .i64 0) (.slice none 0 0) (.slice none 0 0) (.slice (some ⟨w3.heap.size, 0, none⟩) 2 2)).alloc (.cells #[.int .i64 x.kind, .string x.text, .int .i64 x.n, .slice P x.sh.length p, .slice Q x.at_.length q, .slice R x.kids.length r, .int .i64 y.kind, .string y.text, .int .i64 y.n, .slice P' y.sh.length p', .slice Q' y.at_.length q', .slice R' y.kids.length r'] TTm)) :
    W.heap[g]? = some (.cells (tmCells (tOf k [x, y]) none 0 none 0 (some ⟨w3.heap.size, 0, none⟩) 2) TTm (0, 0)) ∧ TmAt (mask W lo w.heap.size) (tOf k [x, y]) none none (some ⟨w3.heap.size, 0, none⟩) ∧ Below w.heap.size w W := by
  obtain ⟨e1, e2, e3⟩ := six (.int .i64 k) (.string ⟨#[]⟩) (.int .i64 0) (.slice none 0 0) (.slice none 0 0) (.slice (some ⟨w3.heap.size, 0, none⟩) 2 2) hz hb h1
  obtain ⟨V, hV⟩ : ∃ V, V = sixPut w3 g (.int .i64 k) (.string ⟨#[]⟩) (.int .i64 0) (.slice none 0 0) (.slice none 0 0) (.slice (some ⟨w3.heap.size, 0, none⟩) 2 2) := ⟨_, rfl⟩
  have hs : V.heap.size = w3.heap.size := by rw [hV]; simp [World.setCell]
  rw [← hV] at hW
  unfold sixPut at hV
  rw [← hV] at e1 e2 e3
  have hgl := heap_lt hz
  have hL : W.heap[w3.heap.size]? = some (.cells #[.int .i64 x.kind, .string x.text, .int .i64 x.n, .slice P x.sh.length p, .slice Q x.at_.length q, .slice R x.kids.length r, .int .i64 y.kind, .string y.text, .int .i64 y.n, .slice P' y.sh.length p', .slice Q' y.at_.length q', .slice R' y.kids.length r'] TTm (0, 0)) := by
    rw [hW, ← hs]
    exact heap_alloc_new V _
  have hto : ∀ k, k < w3.heap.size → ¬ (lo ≤ k ∧ k < hi) → W.heap[k]? = w3.heap[k]? := fun k h4 h5 => by
    rw [hW, Below.heap_alloc _ _ _ (by omega)]
    exact e2 k (by omega)
  have hsz : w3.heap.size ≤ W.heap.size := by rw [hW]; simp [hs]
  refine ⟨?_, mask_less (mask_two k (mask_to hx hto hsz) (mask_to hy hto hsz) h3 hL) (by omega), ?_⟩
  · rw [hW, Below.heap_alloc _ _ _ (by omega)]
    exact e1
  · rw [hW]
    exact e3.alloc e3.size _

set_option maxRecDepth 100000 in
theorem dprim_any (s : ByteArray) (w : World) : Calls Tryz.prog 78 #[.string s] w fun e w' => e = .returned (tmVal (tPrim s) none 0 none 0 none 0) ∧ Below w.heap.size w w' := by
  go_enter Tryz.func78, Tryz.ntmps78
  go_wp2_with fail
  refine ret_agg ?_ rfl ?_
  · simp [results, Tryz.results78, go_sem]
    exact ⟨rfl, rfl, rfl, rfl, rfl, rfl⟩
  · repeat (first | exact Below.refl _ _ | refine Below.alloc ?_ (by simp) _ | refine Below.setCell ?_ (by simp) _)
set_option maxRecDepth 100000 in
set_option maxHeartbeats 4000000 in
theorem dscalar_any (t : Tm) (A : Option Addr) (ca : Nat) (B : Option Addr) (cb : Nat) (K : Option Addr) (ck : Nat) (w : World) : Calls Tryz.prog 80 #[tmVal t A ca B cb K ck] w fun e w' => e = .returned (.bool (scalarB t)) ∧ Below w.heap.size w w' := by
  obtain ⟨n, hn⟩ : ∃ n, n = t.sh.length := ⟨_, rfl⟩
  have HE : Hid (scalarB t = (decide (t.kind = 1) && decide (n = 0))) := Lib.hid (by unfold scalarB; rw [hn]; cases t.sh <;> simp)
  have HB : Hid (∀ o, Below w.heap.size w (w.alloc o)) := Lib.hid fun o => (Below.refl _ _).alloc (Nat.le_refl _) o
  unfold tmVal
  rw [← hn]
  clear hn
  by_cases h1 : t.kind = 1
  · have d1 : (t.kind == 1) = true := beq_yes h1
    by_cases h2 : n = 0
    · have HF : Hid (scalarB t = true) := Lib.hid (by rw [HE.out]; simp [h1, h2])
      subst h2
      clear h1
      go_enter Tryz.func80, Tryz.ntmps80
      go_wp2_with fail
      go_ret
      rw [HF.out]
      exact ⟨rfl, HB.out _⟩
    · have d2 : ((n : Int) == 0) = false := beq_no (by omega)
      have HF : Hid (scalarB t = false) := Lib.hid (by rw [HE.out]; simp [h2])
      clear h1 h2
      go_enter Tryz.func80, Tryz.ntmps80
      go_wp2_with fail
      go_ret
      rw [HF.out]
      exact ⟨rfl, HB.out _⟩
  · have d1 : (t.kind == 1) = false := beq_no h1
    have HF : Hid (scalarB t = false) := Lib.hid (by rw [HE.out]; simp [h1])
    clear h1
    go_enter Tryz.func80, Tryz.ntmps80
    go_wp2_with fail
    go_ret
    rw [HF.out]
    exact ⟨rfl, HB.out _⟩

theorem obvS_self {s : List UInt8} (h : s ∈ selfS) : obvS s = some s := by unfold obvS; rw [if_pos h]
theorem ba_back (s : ByteArray) : (⟨s.data.toList.toArray⟩ : ByteArray) = s := by cases s; simp
set_option maxRecDepth 100000 in
set_option maxHeartbeats 8000000 in
theorem spelled_any (s : ByteArray) (w : World) : Calls Tryz.prog 77 #[.string s] w fun e w' => e = .returned (.string ⟨((obvS s.data.toList).getD []).toArray⟩) ∧ w' = w := by
  have cs : s.data.toList = [43] ∨ s.data.toList = [45] ∨ s.data.toList = [60, 46] ∨ s.data.toList = [62, 46] ∨ s.data.toList = [45, 46] ∨ s.data.toList = [124, 46] ∨ s.data.toList = [124, 58] ∨ s.data.toList = [91] ∨ s.data.toList = [93] ∨ s.data.toList = [60, 58] ∨ s.data.toList = [62, 58] ∨ s.data.toList = [43, 58] ∨ s.data.toList = [45, 58] ∨ s.data.toList = [44, 58] ∨ (¬ s.data.toList = [43] ∧ ¬ s.data.toList = [45] ∧ ¬ s.data.toList = [60, 46] ∧ ¬ s.data.toList = [62, 46] ∧ ¬ s.data.toList = [45, 46] ∧ ¬ s.data.toList = [124, 46] ∧ ¬ s.data.toList = [124, 58] ∧ ¬ s.data.toList = [91] ∧ ¬ s.data.toList = [93] ∧ ¬ s.data.toList = [60, 58] ∧ ¬ s.data.toList = [62, 58] ∧ ¬ s.data.toList = [43, 58] ∧ ¬ s.data.toList = [45, 58] ∧ ¬ s.data.toList = [44, 58]) := by
    by_cases h0 : s.data.toList = [43]
    · exact .inl h0
    by_cases h1 : s.data.toList = [45]
    · exact .inr (.inl h1)
    by_cases h2 : s.data.toList = [60, 46]
    · exact .inr (.inr (.inl h2))
    by_cases h3 : s.data.toList = [62, 46]
    · exact .inr (.inr (.inr (.inl h3)))
    by_cases h4 : s.data.toList = [45, 46]
    · exact .inr (.inr (.inr (.inr (.inl h4))))
    by_cases h5 : s.data.toList = [124, 46]
    · exact .inr (.inr (.inr (.inr (.inr (.inl h5)))))
    by_cases h6 : s.data.toList = [124, 58]
    · exact .inr (.inr (.inr (.inr (.inr (.inr (.inl h6))))))
    by_cases h7 : s.data.toList = [91]
    · exact .inr (.inr (.inr (.inr (.inr (.inr (.inr (.inl h7)))))))
    by_cases h8 : s.data.toList = [93]
    · exact .inr (.inr (.inr (.inr (.inr (.inr (.inr (.inr (.inl h8))))))))
    by_cases h9 : s.data.toList = [60, 58]
    · exact .inr (.inr (.inr (.inr (.inr (.inr (.inr (.inr (.inr (.inl h9)))))))))
    by_cases h10 : s.data.toList = [62, 58]
    · exact .inr (.inr (.inr (.inr (.inr (.inr (.inr (.inr (.inr (.inr (.inl h10))))))))))
    by_cases h11 : s.data.toList = [43, 58]
    · exact .inr (.inr (.inr (.inr (.inr (.inr (.inr (.inr (.inr (.inr (.inr (.inl h11)))))))))))
    by_cases h12 : s.data.toList = [45, 58]
    · exact .inr (.inr (.inr (.inr (.inr (.inr (.inr (.inr (.inr (.inr (.inr (.inr (.inl h12))))))))))))
    by_cases h13 : s.data.toList = [44, 58]
    · exact .inr (.inr (.inr (.inr (.inr (.inr (.inr (.inr (.inr (.inr (.inr (.inr (.inr (.inl h13)))))))))))))
    exact .inr (.inr (.inr (.inr (.inr (.inr (.inr (.inr (.inr (.inr (.inr (.inr (.inr (.inr (⟨h0, h1, h2, h3, h4, h5, h6, h7, h8, h9, h10, h11, h12, h13⟩))))))))))))))
  rcases cs with h | h | h | h | h | h | h | h | h | h | h | h | h | h | ⟨h0, h1, h2, h3, h4, h5, h6, h7, h8, h9, h10, h11, h12, h13⟩
  · have HR : Hid (obvS s.data.toList = some [43]) := Lib.hid (by rw [h]; decide +kernel)
    have HH := Lib.hid h
    have e0 : (s.toList == [43]) = true := by rw [Lib.toList_data, h]; rfl
    clear h
    go_enter Tryz.func77, Tryz.ntmps77
    go_wp2_with fail
    go_ret
    rw [HR.out, Option.getD_some, ← HH.out, ba_back s]
    exact ⟨rfl, rfl⟩
  · have HR : Hid (obvS s.data.toList = some [45]) := Lib.hid (by rw [h]; decide +kernel)
    have HH := Lib.hid h
    have e0 : (s.toList == [43]) = false := by rw [Lib.toList_data, h]; rfl
    have e1 : (s.toList == [45]) = true := by rw [Lib.toList_data, h]; rfl
    clear h
    go_enter Tryz.func77, Tryz.ntmps77
    go_wp2_with fail
    go_ret
    rw [HR.out, Option.getD_some, ← HH.out, ba_back s]
    exact ⟨rfl, rfl⟩
  · have HR : Hid (obvS s.data.toList = some [60, 46]) := Lib.hid (by rw [h]; decide +kernel)
    have HH := Lib.hid h
    have e0 : (s.toList == [43]) = false := by rw [Lib.toList_data, h]; rfl
    have e1 : (s.toList == [45]) = false := by rw [Lib.toList_data, h]; rfl
    have e2 : (s.toList == [60, 46]) = true := by rw [Lib.toList_data, h]; rfl
    clear h
    go_enter Tryz.func77, Tryz.ntmps77
    go_wp2_with fail
    go_ret
    rw [HR.out, Option.getD_some, ← HH.out, ba_back s]
    exact ⟨rfl, rfl⟩
  · have HR : Hid (obvS s.data.toList = some [62, 46]) := Lib.hid (by rw [h]; decide +kernel)
    have HH := Lib.hid h
    have e0 : (s.toList == [43]) = false := by rw [Lib.toList_data, h]; rfl
    have e1 : (s.toList == [45]) = false := by rw [Lib.toList_data, h]; rfl
    have e2 : (s.toList == [60, 46]) = false := by rw [Lib.toList_data, h]; rfl
    have e3 : (s.toList == [62, 46]) = true := by rw [Lib.toList_data, h]; rfl
    clear h
    go_enter Tryz.func77, Tryz.ntmps77
    go_wp2_with fail
    go_ret
    rw [HR.out, Option.getD_some, ← HH.out, ba_back s]
    exact ⟨rfl, rfl⟩
  · have HR : Hid (obvS s.data.toList = some [45, 46]) := Lib.hid (by rw [h]; decide +kernel)
    have HH := Lib.hid h
    have e0 : (s.toList == [43]) = false := by rw [Lib.toList_data, h]; rfl
    have e1 : (s.toList == [45]) = false := by rw [Lib.toList_data, h]; rfl
    have e2 : (s.toList == [60, 46]) = false := by rw [Lib.toList_data, h]; rfl
    have e3 : (s.toList == [62, 46]) = false := by rw [Lib.toList_data, h]; rfl
    have e4 : (s.toList == [45, 46]) = true := by rw [Lib.toList_data, h]; rfl
    clear h
    go_enter Tryz.func77, Tryz.ntmps77
    go_wp2_with fail
    go_ret
    rw [HR.out, Option.getD_some, ← HH.out, ba_back s]
    exact ⟨rfl, rfl⟩
  · have HR : Hid (obvS s.data.toList = some [124, 46]) := Lib.hid (by rw [h]; decide +kernel)
    have HH := Lib.hid h
    have e0 : (s.toList == [43]) = false := by rw [Lib.toList_data, h]; rfl
    have e1 : (s.toList == [45]) = false := by rw [Lib.toList_data, h]; rfl
    have e2 : (s.toList == [60, 46]) = false := by rw [Lib.toList_data, h]; rfl
    have e3 : (s.toList == [62, 46]) = false := by rw [Lib.toList_data, h]; rfl
    have e4 : (s.toList == [45, 46]) = false := by rw [Lib.toList_data, h]; rfl
    have e5 : (s.toList == [124, 46]) = true := by rw [Lib.toList_data, h]; rfl
    clear h
    go_enter Tryz.func77, Tryz.ntmps77
    go_wp2_with fail
    go_ret
    rw [HR.out, Option.getD_some, ← HH.out, ba_back s]
    exact ⟨rfl, rfl⟩
  · have HR : Hid (obvS s.data.toList = some [124, 58]) := Lib.hid (by rw [h]; decide +kernel)
    have HH := Lib.hid h
    have e0 : (s.toList == [43]) = false := by rw [Lib.toList_data, h]; rfl
    have e1 : (s.toList == [45]) = false := by rw [Lib.toList_data, h]; rfl
    have e2 : (s.toList == [60, 46]) = false := by rw [Lib.toList_data, h]; rfl
    have e3 : (s.toList == [62, 46]) = false := by rw [Lib.toList_data, h]; rfl
    have e4 : (s.toList == [45, 46]) = false := by rw [Lib.toList_data, h]; rfl
    have e5 : (s.toList == [124, 46]) = false := by rw [Lib.toList_data, h]; rfl
    have e6 : (s.toList == [124, 58]) = true := by rw [Lib.toList_data, h]; rfl
    clear h
    go_enter Tryz.func77, Tryz.ntmps77
    go_wp2_with fail
    go_ret
    rw [HR.out, Option.getD_some, ← HH.out, ba_back s]
    exact ⟨rfl, rfl⟩
  · have HR : Hid (obvS s.data.toList = some [91]) := Lib.hid (by rw [h]; decide +kernel)
    have HH := Lib.hid h
    have e0 : (s.toList == [43]) = false := by rw [Lib.toList_data, h]; rfl
    have e1 : (s.toList == [45]) = false := by rw [Lib.toList_data, h]; rfl
    have e2 : (s.toList == [60, 46]) = false := by rw [Lib.toList_data, h]; rfl
    have e3 : (s.toList == [62, 46]) = false := by rw [Lib.toList_data, h]; rfl
    have e4 : (s.toList == [45, 46]) = false := by rw [Lib.toList_data, h]; rfl
    have e5 : (s.toList == [124, 46]) = false := by rw [Lib.toList_data, h]; rfl
    have e6 : (s.toList == [124, 58]) = false := by rw [Lib.toList_data, h]; rfl
    have e7 : (s.toList == [91]) = true := by rw [Lib.toList_data, h]; rfl
    clear h
    go_enter Tryz.func77, Tryz.ntmps77
    go_wp2_with fail
    go_ret
    rw [HR.out, Option.getD_some, ← HH.out, ba_back s]
    exact ⟨rfl, rfl⟩
  · have HR : Hid (obvS s.data.toList = some [93]) := Lib.hid (by rw [h]; decide +kernel)
    have HH := Lib.hid h
    have e0 : (s.toList == [43]) = false := by rw [Lib.toList_data, h]; rfl
    have e1 : (s.toList == [45]) = false := by rw [Lib.toList_data, h]; rfl
    have e2 : (s.toList == [60, 46]) = false := by rw [Lib.toList_data, h]; rfl
    have e3 : (s.toList == [62, 46]) = false := by rw [Lib.toList_data, h]; rfl
    have e4 : (s.toList == [45, 46]) = false := by rw [Lib.toList_data, h]; rfl
    have e5 : (s.toList == [124, 46]) = false := by rw [Lib.toList_data, h]; rfl
    have e6 : (s.toList == [124, 58]) = false := by rw [Lib.toList_data, h]; rfl
    have e7 : (s.toList == [91]) = false := by rw [Lib.toList_data, h]; rfl
    have e8 : (s.toList == [93]) = true := by rw [Lib.toList_data, h]; rfl
    clear h
    go_enter Tryz.func77, Tryz.ntmps77
    go_wp2_with fail
    go_ret
    rw [HR.out, Option.getD_some, ← HH.out, ba_back s]
    exact ⟨rfl, rfl⟩
  · have HR : Hid (obvS s.data.toList = some [62, 58]) := Lib.hid (by rw [h]; decide +kernel)
    have e0 : (s.toList == [43]) = false := by rw [Lib.toList_data, h]; rfl
    have e1 : (s.toList == [45]) = false := by rw [Lib.toList_data, h]; rfl
    have e2 : (s.toList == [60, 46]) = false := by rw [Lib.toList_data, h]; rfl
    have e3 : (s.toList == [62, 46]) = false := by rw [Lib.toList_data, h]; rfl
    have e4 : (s.toList == [45, 46]) = false := by rw [Lib.toList_data, h]; rfl
    have e5 : (s.toList == [124, 46]) = false := by rw [Lib.toList_data, h]; rfl
    have e6 : (s.toList == [124, 58]) = false := by rw [Lib.toList_data, h]; rfl
    have e7 : (s.toList == [91]) = false := by rw [Lib.toList_data, h]; rfl
    have e8 : (s.toList == [93]) = false := by rw [Lib.toList_data, h]; rfl
    have e9 : (s.toList == [60, 58]) = true := by rw [Lib.toList_data, h]; rfl
    clear h
    go_enter Tryz.func77, Tryz.ntmps77
    go_wp2_with fail
    go_ret
    rw [HR.out]
    exact ⟨rfl, rfl⟩
  · have HR : Hid (obvS s.data.toList = some [60, 58]) := Lib.hid (by rw [h]; decide +kernel)
    have e0 : (s.toList == [43]) = false := by rw [Lib.toList_data, h]; rfl
    have e1 : (s.toList == [45]) = false := by rw [Lib.toList_data, h]; rfl
    have e2 : (s.toList == [60, 46]) = false := by rw [Lib.toList_data, h]; rfl
    have e3 : (s.toList == [62, 46]) = false := by rw [Lib.toList_data, h]; rfl
    have e4 : (s.toList == [45, 46]) = false := by rw [Lib.toList_data, h]; rfl
    have e5 : (s.toList == [124, 46]) = false := by rw [Lib.toList_data, h]; rfl
    have e6 : (s.toList == [124, 58]) = false := by rw [Lib.toList_data, h]; rfl
    have e7 : (s.toList == [91]) = false := by rw [Lib.toList_data, h]; rfl
    have e8 : (s.toList == [93]) = false := by rw [Lib.toList_data, h]; rfl
    have e9 : (s.toList == [60, 58]) = false := by rw [Lib.toList_data, h]; rfl
    have e10 : (s.toList == [62, 58]) = true := by rw [Lib.toList_data, h]; rfl
    clear h
    go_enter Tryz.func77, Tryz.ntmps77
    go_wp2_with fail
    go_ret
    rw [HR.out]
    exact ⟨rfl, rfl⟩
  · have HR : Hid (obvS s.data.toList = some [45, 58]) := Lib.hid (by rw [h]; decide +kernel)
    have e0 : (s.toList == [43]) = false := by rw [Lib.toList_data, h]; rfl
    have e1 : (s.toList == [45]) = false := by rw [Lib.toList_data, h]; rfl
    have e2 : (s.toList == [60, 46]) = false := by rw [Lib.toList_data, h]; rfl
    have e3 : (s.toList == [62, 46]) = false := by rw [Lib.toList_data, h]; rfl
    have e4 : (s.toList == [45, 46]) = false := by rw [Lib.toList_data, h]; rfl
    have e5 : (s.toList == [124, 46]) = false := by rw [Lib.toList_data, h]; rfl
    have e6 : (s.toList == [124, 58]) = false := by rw [Lib.toList_data, h]; rfl
    have e7 : (s.toList == [91]) = false := by rw [Lib.toList_data, h]; rfl
    have e8 : (s.toList == [93]) = false := by rw [Lib.toList_data, h]; rfl
    have e9 : (s.toList == [60, 58]) = false := by rw [Lib.toList_data, h]; rfl
    have e10 : (s.toList == [62, 58]) = false := by rw [Lib.toList_data, h]; rfl
    have e11 : (s.toList == [43, 58]) = true := by rw [Lib.toList_data, h]; rfl
    clear h
    go_enter Tryz.func77, Tryz.ntmps77
    go_wp2_with fail
    go_ret
    rw [HR.out]
    exact ⟨rfl, rfl⟩
  · have HR : Hid (obvS s.data.toList = some [43, 58]) := Lib.hid (by rw [h]; decide +kernel)
    have e0 : (s.toList == [43]) = false := by rw [Lib.toList_data, h]; rfl
    have e1 : (s.toList == [45]) = false := by rw [Lib.toList_data, h]; rfl
    have e2 : (s.toList == [60, 46]) = false := by rw [Lib.toList_data, h]; rfl
    have e3 : (s.toList == [62, 46]) = false := by rw [Lib.toList_data, h]; rfl
    have e4 : (s.toList == [45, 46]) = false := by rw [Lib.toList_data, h]; rfl
    have e5 : (s.toList == [124, 46]) = false := by rw [Lib.toList_data, h]; rfl
    have e6 : (s.toList == [124, 58]) = false := by rw [Lib.toList_data, h]; rfl
    have e7 : (s.toList == [91]) = false := by rw [Lib.toList_data, h]; rfl
    have e8 : (s.toList == [93]) = false := by rw [Lib.toList_data, h]; rfl
    have e9 : (s.toList == [60, 58]) = false := by rw [Lib.toList_data, h]; rfl
    have e10 : (s.toList == [62, 58]) = false := by rw [Lib.toList_data, h]; rfl
    have e11 : (s.toList == [43, 58]) = false := by rw [Lib.toList_data, h]; rfl
    have e12 : (s.toList == [45, 58]) = true := by rw [Lib.toList_data, h]; rfl
    clear h
    go_enter Tryz.func77, Tryz.ntmps77
    go_wp2_with fail
    go_ret
    rw [HR.out]
    exact ⟨rfl, rfl⟩
  · have HR : Hid (obvS s.data.toList = some [123, 46]) := Lib.hid (by rw [h]; decide +kernel)
    have e0 : (s.toList == [43]) = false := by rw [Lib.toList_data, h]; rfl
    have e1 : (s.toList == [45]) = false := by rw [Lib.toList_data, h]; rfl
    have e2 : (s.toList == [60, 46]) = false := by rw [Lib.toList_data, h]; rfl
    have e3 : (s.toList == [62, 46]) = false := by rw [Lib.toList_data, h]; rfl
    have e4 : (s.toList == [45, 46]) = false := by rw [Lib.toList_data, h]; rfl
    have e5 : (s.toList == [124, 46]) = false := by rw [Lib.toList_data, h]; rfl
    have e6 : (s.toList == [124, 58]) = false := by rw [Lib.toList_data, h]; rfl
    have e7 : (s.toList == [91]) = false := by rw [Lib.toList_data, h]; rfl
    have e8 : (s.toList == [93]) = false := by rw [Lib.toList_data, h]; rfl
    have e9 : (s.toList == [60, 58]) = false := by rw [Lib.toList_data, h]; rfl
    have e10 : (s.toList == [62, 58]) = false := by rw [Lib.toList_data, h]; rfl
    have e11 : (s.toList == [43, 58]) = false := by rw [Lib.toList_data, h]; rfl
    have e12 : (s.toList == [45, 58]) = false := by rw [Lib.toList_data, h]; rfl
    have e13 : (s.toList == [44, 58]) = true := by rw [Lib.toList_data, h]; rfl
    clear h
    go_enter Tryz.func77, Tryz.ntmps77
    go_wp2_with fail
    go_ret
    rw [HR.out]
    exact ⟨rfl, rfl⟩
  · have HR : Hid (obvS s.data.toList = none) := Lib.hid (by unfold obvS selfS; simp [h0, h1, h2, h3, h4, h5, h6, h7, h8, h9, h10, h11, h12, h13])
    have e0 : (s.toList == [43]) = false := by rw [Lib.toList_data]; exact beq_false_of_ne h0
    have e1 : (s.toList == [45]) = false := by rw [Lib.toList_data]; exact beq_false_of_ne h1
    have e2 : (s.toList == [60, 46]) = false := by rw [Lib.toList_data]; exact beq_false_of_ne h2
    have e3 : (s.toList == [62, 46]) = false := by rw [Lib.toList_data]; exact beq_false_of_ne h3
    have e4 : (s.toList == [45, 46]) = false := by rw [Lib.toList_data]; exact beq_false_of_ne h4
    have e5 : (s.toList == [124, 46]) = false := by rw [Lib.toList_data]; exact beq_false_of_ne h5
    have e6 : (s.toList == [124, 58]) = false := by rw [Lib.toList_data]; exact beq_false_of_ne h6
    have e7 : (s.toList == [91]) = false := by rw [Lib.toList_data]; exact beq_false_of_ne h7
    have e8 : (s.toList == [93]) = false := by rw [Lib.toList_data]; exact beq_false_of_ne h8
    have e9 : (s.toList == [60, 58]) = false := by rw [Lib.toList_data]; exact beq_false_of_ne h9
    have e10 : (s.toList == [62, 58]) = false := by rw [Lib.toList_data]; exact beq_false_of_ne h10
    have e11 : (s.toList == [43, 58]) = false := by rw [Lib.toList_data]; exact beq_false_of_ne h11
    have e12 : (s.toList == [45, 58]) = false := by rw [Lib.toList_data]; exact beq_false_of_ne h12
    have e13 : (s.toList == [44, 58]) = false := by rw [Lib.toList_data]; exact beq_false_of_ne h13
    clear h0 h1 h2 h3 h4 h5 h6 h7 h8 h9 h10 h11 h12 h13
    go_enter Tryz.func77, Tryz.ntmps77
    go_wp2_with fail
    go_ret
    rw [HR.out]
    exact ⟨rfl, rfl⟩
end Go.Proofs.YtkdejffhdhcocaaGreat

namespace Go.Proofs.YtkdejffhdhcocaaGreat
open Go.RowKit

/-- a term and a bool are answered; the term lies in old memory, or in new -/
def BondPost (r : Tm × Bool) (w0 w : World) (e : Ending) (w' : World) : Prop := ∃ (P : Option Addr) (p : Nat) (Q : Option Addr) (q : Nat) (R : Option Addr) (s : Nat), e = .returned (.tuple #[tmVal r.1 P p Q q R s, .bool r.2]) ∧ TmAt (mask w' w0.heap.size w.heap.size) r.1 P Q R ∧ Below w.heap.size w w'
theorem nil_at (w : World) (k : Int) (s : ByteArray) (n : Int) : TmAt w (.mk k s n [] [] []) none none none := ⟨IntsAt.nil _ _, IntsAt.nil _ _, KidsAt.nil _ _⟩
/-- what a bond of a scalar and a primitive comes to -/
def bondD (n : Tm) (s : ByteArray) (left : Bool) : Tm × Bool := if left = true then bondLT n (tPrim s) else bondRT (tPrim s) n
theorem bondD_no {n : Tm} (s : ByteArray) (l : Bool) (h : scalarB n = false) : bondD n s l = (tNil, false) := by
  have h1 : bondLT n (tPrim s) = (tNil, false) := by unfold bondLT; rw [if_pos (Or.inl h)]
  have h2 : bondRT (tPrim s) n = (tNil, false) := by unfold bondRT; rw [if_pos (Or.inl h)]
  unfold bondD
  rw [h1, h2, ite_self]
theorem bondD_eq {n : Tm} (s : ByteArray) (l : Bool) (h : scalarB n = true) : bondD n s l = if s.data.toList = [45] ∧ l = true then (tOf 39 [n, tPrim ⟨#[45]⟩], true) else if s.data.toList = [43] then (tOf 40 [tPrim ⟨#[45]⟩, n], true) else if s.data.toList = [45] then (tOf 40 [tPrim ⟨#[43]⟩, n], true) else if s.data.toList = [42] ∧ n.at_.getD 0 0 ≠ 0 then (tOf 40 [tPrim ⟨#[37]⟩, n], true) else (tNil, false) := by
  have hk : (tPrim s).kind = 20 := rfl
  have ht : (tPrim s).text = s := rfl
  have hn : ¬ (scalarB n = false ∨ (tPrim s).kind ≠ 20) := fun e => e.elim (fun e => by rw [h] at e; cases e) fun e => e hk
  unfold bondD
  cases l
  · rw [if_neg (by decide)]
    unfold bondRT
    rw [if_neg hn, ht]
    by_cases h1 : s.data.toList = [43]
    · simp [h1]
    · by_cases h2 : s.data.toList = [45]
      · simp [h2]
      · simp [h1, h2]
  · rw [if_pos rfl]
    unfold bondLT
    rw [if_neg hn, ht]
    by_cases h1 : s.data.toList = [43]
    · simp [h1]
    · by_cases h2 : s.data.toList = [45]
      · simp [h2]
      · simp [h1, h2]
set_option maxRecDepth 100000 in
set_option maxHeartbeats 16000000 in
theorem dbond_any (n : Tm) (A : Option Addr) (ca : Nat) (B : Option Addr) (cb : Nat) (K : Option Addr) (ck : Nat) (s : ByteArray) (left : Bool) (w0 w : World) (hat : TmAt w0 n A B K) (hb : Below w0.heap.size w0 w) (hl : scalarB n = true → n.at_.length = 1) :
    Calls Tryz.prog 79 #[tmVal n A ca B cb K ck, .string s, .bool left] w (BondPost (bondD n s left) w0 w) := by
  obtain ⟨W1, hW1⟩ : ∃ W1, W1 = (w.alloc (.cells (tmCells n A ca B cb K ck) TTm)).alloc (.cells tm0 TTm) := ⟨_, rfl⟩
  have hb1 : Below w.heap.size w W1 := by rw [hW1]; exact ((Below.refl _ _).alloc (Nat.le_refl _) _).alloc (by simp) _
  have hx1 : W1.heap[w.heap.size]? = some (.cells (tmCells n A ca B cb K ck) TTm (0, 0)) := by rw [hW1]; exact (Below.heap_alloc _ _ _ (by simp)).trans (heap_alloc_new w _)
  have hz1 : W1.heap[w.heap.size + 1]? = some (.cells tm0 TTm (0, 0)) := by rw [hW1]; exact heap_new2 _ _ _
  have hs1 : W1.heap.size = w.heap.size + 2 := by rw [hW1]; simp
  have HX := Lib.hid (And.intro hb1 (And.intro hx1 (And.intro hz1 hs1)))
  have HT := Lib.hid (And.intro hat hb)
  have HW1 := Lib.hid hW1
  have k0 := cell_at hx1 (j := 0) rfl
  have k1 := cell_at hx1 (j := 1) rfl
  have k2 := cell_at hx1 (j := 2) rfl
  have k3 := cell_at hx1 (j := 3) rfl
  have k4 := cell_at hx1 (j := 4) rfl
  have k5 := cell_at hx1 (j := 5) rfl
  have z0 := cell_at hz1 (j := 0) rfl
  have z1 := cell_at hz1 (j := 1) rfl
  have z2 := cell_at hz1 (j := 2) rfl
  have z3 := cell_at hz1 (j := 3) rfl
  have z4 := cell_at hz1 (j := 4) rfl
  have z5 := cell_at hz1 (j := 5) rfl
  have fz := unfrozen hz1
  have hlz := heap_lt hz1
  have hlx := heap_lt hx1
  clear hat hb hb1 hx1 hz1 hs1 hW1
  have SC : Hid (∀ b, scalarB n = b → Calls Tryz.prog 80 #[tmVal n A ca B cb K ck] W1 fun e w' => e = .returned (.bool b) ∧ Below W1.heap.size W1 w') := Lib.hid fun b hb => by rw [← hb]; exact dscalar_any n A ca B cb K ck W1
  unfold tmVal at SC
  cases hsc : scalarB n with
  | false =>
    have HR : Hid (bondD n s left = (tNil, false)) := Lib.hid (bondD_no s left hsc)
    have SC2 := Lib.hid (SC.out false hsc)
    clear hsc hl
    go_enter Tryz.func79, Tryz.ntmps79
    go_upto_region 1 with fail
    rw [← HW1.out]
    go_wp2_with fail
    refine SC2.out.mono ?_
    rintro e w2 ⟨rfl, hb2⟩
    clear k0 k1 k2 k3 k4 k5 z0 z1 z2 z3 z4 z5 fz hlz hlx
    have hx2 := (hb2.block _ (heap_lt HX.out.2.1)).trans HX.out.2.1
    have hz2 := (hb2.block _ (heap_lt HX.out.2.2.1)).trans HX.out.2.2.1
    have k0 := cell_at hx2 (j := 0) rfl
    have k1 := cell_at hx2 (j := 1) rfl
    have k2 := cell_at hx2 (j := 2) rfl
    have k3 := cell_at hx2 (j := 3) rfl
    have k4 := cell_at hx2 (j := 4) rfl
    have k5 := cell_at hx2 (j := 5) rfl
    have z0 := cell_at hz2 (j := 0) rfl
    have z1 := cell_at hz2 (j := 1) rfl
    have z2 := cell_at hz2 (j := 2) rfl
    have z3 := cell_at hz2 (j := 3) rfl
    have z4 := cell_at hz2 (j := 4) rfl
    have z5 := cell_at hz2 (j := 5) rfl
    have fz := unfrozen hz2
    have hlz := heap_lt hz2
    have hlx := heap_lt hx2
    have HB2 := Lib.hid (And.intro (HX.out.1.then_ hb2) hz2)
    clear hb2 hx2 hz2
    go_wp2_with fail
    obtain ⟨e1, e2, e3⟩ := doc_six (w := w) (lo := w0.heap.size) (hi := w.heap.size + 2) (u := tNil) (P := none) (Q := none) (R := none) (p := 0) (q := 0) (r := 0) HB2.out.2 HB2.out.1 HT.out.2.size (Nat.le_succ _) (by omega) (nil_at _ _ _ _)
    rw [HR.out]
    exact bodyPost_ret (results_tm2 (p := 6) (t := 7) rfl rfl e1) rfl ⟨_, _, _, _, _, _, rfl, e2, e3⟩
  | true =>
    have HRQ := Lib.hid (bondD_eq s left hsc)
    have SC2 := Lib.hid (SC.out true hsc)
    obtain ⟨v0, hv0⟩ : ∃ v0, n.at_ = [v0] := by
      have := hl hsc
      match n.at_, this with
      | [v0], _ => exact ⟨v0, rfl⟩
    have HV := Lib.hid hv0
    obtain ⟨b3, o3, hB, l3, c3⟩ := HT.out.1.at_ 0 v0 (by rw [hv0]; rfl)
    subst hB
    rw [Nat.add_zero] at c3
    have HC3 : Hid (∀ W, Below W1.heap.size W1 W → b3 < W.heap.size ∧ W.cell? ⟨b3, o3, none⟩ = some (.int .i64 v0)) := Lib.hid fun W h => by
      have hb := (HT.out.2.then_ HX.out.1).then_ h
      exact ⟨Nat.lt_of_lt_of_le l3 hb.size, (hb.cell (p := ⟨b3, o3, none⟩) l3).trans c3⟩
    have hpos : 0 < n.at_.length := by rw [hv0]; exact Nat.zero_lt_one
    clear hsc hl hv0 l3 c3
    have cs : (s.data.toList = [45] ∧ left = true) ∨ (s.data.toList = [43]) ∨ (s.data.toList = [45] ∧ left = false) ∨ (s.data.toList = [42] ∧ v0 ≠ 0) ∨ (s.data.toList = [42] ∧ v0 = 0) ∨ (¬ s.data.toList = [45] ∧ ¬ s.data.toList = [43] ∧ ¬ s.data.toList = [42]) := by
      by_cases h1 : s.data.toList = [45]
      · cases left
        · exact .inr (.inr (.inl ⟨h1, rfl⟩))
        · exact .inl ⟨h1, rfl⟩
      · by_cases h2 : s.data.toList = [43]
        · exact .inr (.inl h2)
        · by_cases h3 : s.data.toList = [42]
          · by_cases h4 : v0 = 0
            · exact .inr (.inr (.inr (.inr (.inl ⟨h3, h4⟩))))
            · exact .inr (.inr (.inr (.inl ⟨h3, h4⟩)))
          · exact .inr (.inr (.inr (.inr (.inr ⟨h1, h2, h3⟩))))
    rcases cs with ⟨hs, hlf⟩ | hs | ⟨hs, hlf⟩ | ⟨hs, hv⟩ | ⟨hs, hv⟩ | ⟨hs1, hs2, hs3⟩
    · subst hlf
      have HR : Hid (bondD n s true = (tOf 39 [n, tPrim ⟨#[45]⟩], true)) := Lib.hid (by rw [HRQ.out, if_pos ⟨hs, rfl⟩])
      have e45 : (s.toList == [45]) = true := by rw [Lib.toList_data, hs]; rfl
      have e43 : (s.toList == [43]) = false := by rw [Lib.toList_data, hs]; rfl
      have e42 : (s.toList == [42]) = false := by rw [Lib.toList_data, hs]; rfl
      clear hs
      go_enter Tryz.func79, Tryz.ntmps79
      go_upto_region 1 with fail
      rw [← HW1.out]
      go_wp2_with fail
      refine SC2.out.mono ?_
      rintro e w2 ⟨rfl, hb2⟩
      clear k0 k1 k2 k3 k4 k5 z0 z1 z2 z3 z4 z5 fz hlz hlx
      have hx2 := (hb2.block _ (heap_lt HX.out.2.1)).trans HX.out.2.1
      have hz2 := (hb2.block _ (heap_lt HX.out.2.2.1)).trans HX.out.2.2.1
      obtain ⟨l3, c3⟩ := HC3.out w2 hb2
      have k0 := cell_at hx2 (j := 0) rfl
      have k1 := cell_at hx2 (j := 1) rfl
      have k2 := cell_at hx2 (j := 2) rfl
      have k3 := cell_at hx2 (j := 3) rfl
      have k4 := cell_at hx2 (j := 4) rfl
      have k5 := cell_at hx2 (j := 5) rfl
      have z0 := cell_at hz2 (j := 0) rfl
      have z1 := cell_at hz2 (j := 1) rfl
      have z2 := cell_at hz2 (j := 2) rfl
      have z3 := cell_at hz2 (j := 3) rfl
      have z4 := cell_at hz2 (j := 4) rfl
      have z5 := cell_at hz2 (j := 5) rfl
      have fz := unfrozen hz2
      have hlz := heap_lt hz2
      have hlx := heap_lt hx2
      have HB2 := Lib.hid (And.intro (HX.out.1.then_ hb2) (And.intro hz2 (And.intro hx2 hb2)))
      clear hb2 hx2 hz2
      go_upto_region 6 with fail
      go_region_law (go_simp; go_at_call 78; refine (dprim_any _ _).mono ?_; rintro e w3 ⟨rfl, hb3⟩; have hb3' := (Below.refl w2.heap.size w2).drew.then_ hb3; have hx3 := (hb3'.block _ (heap_lt HB2.out.2.2.1)).trans HB2.out.2.2.1; have hz3 := (hb3'.block _ (heap_lt HB2.out.2.1)).trans HB2.out.2.1; clear k0 k1 k2 k3 k4 k5 z0 z1 z2 z3 z4 z5 fz hlz hlx; have k0 := cell_at hx3 (j := 0) rfl; have k1 := cell_at hx3 (j := 1) rfl; have k2 := cell_at hx3 (j := 2) rfl; have k3 := cell_at hx3 (j := 3) rfl; have k4 := cell_at hx3 (j := 4) rfl; have k5 := cell_at hx3 (j := 5) rfl; have z0 := cell_at hz3 (j := 0) rfl; have z1 := cell_at hz3 (j := 1) rfl; have z2 := cell_at hz3 (j := 2) rfl; have z3 := cell_at hz3 (j := 3) rfl; have z4 := cell_at hz3 (j := 4) rfl; have z5 := cell_at hz3 (j := 5) rfl; have fz := unfrozen hz3; have hlz := heap_lt hz3; have hlx := heap_lt hx3; have HB3 := Lib.hid (And.intro (HB2.out.1.then_ hb3') (And.intro hz3 hb3'.size)); clear hb3 hb3' hx3 hz3)
      all_goals
        go_wp2_with fail
        obtain ⟨e1, e2, e3⟩ := doc_two (w := w) (w3 := w3) (lo := w0.heap.size) (hi := w.heap.size + 2) (g := w.heap.size + 1) (x := n) (y := tPrim ⟨#[45]⟩) (P := A) (Q := some ⟨b3, o3, none⟩) (R := K) (p := ca) (q := cb) (r := ck) (P' := none) (Q' := none) (R' := none) (p' := 0) (q' := 0) (r' := 0) 39 HB3.out.2.1 HB3.out.1 HT.out.2.size (Nat.le_succ _) (by omega) (by have h1 := HX.out.2.2.2; have h2 := HB3.out.2.2; have h3 := HB2.out.2.2.2.size; have h4 : w2.drew.heap.size = w2.heap.size := rfl; omega) (mask_old HT.out.1 (HT.out.2.then_ HB3.out.1)) (nil_at _ _ _ _) rfl
        rw [HR.out]
        exact bodyPost_ret (results_tm2 (p := 6) (t := 7) rfl rfl e1) rfl ⟨_, _, _, _, _, _, rfl, e2, e3⟩
    · have HR : Hid (bondD n s left = (tOf 40 [tPrim ⟨#[45]⟩, n], true)) := Lib.hid (by rw [HRQ.out, if_neg (by rw [hs]; rintro ⟨h, _⟩; cases h), if_pos hs])
      have e45 : (s.toList == [45]) = false := by rw [Lib.toList_data, hs]; rfl
      have e43 : (s.toList == [43]) = true := by rw [Lib.toList_data, hs]; rfl
      have e42 : (s.toList == [42]) = false := by rw [Lib.toList_data, hs]; rfl
      clear hs
      go_enter Tryz.func79, Tryz.ntmps79
      go_upto_region 1 with fail
      rw [← HW1.out]
      go_wp2_with fail
      refine SC2.out.mono ?_
      rintro e w2 ⟨rfl, hb2⟩
      clear k0 k1 k2 k3 k4 k5 z0 z1 z2 z3 z4 z5 fz hlz hlx
      have hx2 := (hb2.block _ (heap_lt HX.out.2.1)).trans HX.out.2.1
      have hz2 := (hb2.block _ (heap_lt HX.out.2.2.1)).trans HX.out.2.2.1
      obtain ⟨l3, c3⟩ := HC3.out w2 hb2
      have k0 := cell_at hx2 (j := 0) rfl
      have k1 := cell_at hx2 (j := 1) rfl
      have k2 := cell_at hx2 (j := 2) rfl
      have k3 := cell_at hx2 (j := 3) rfl
      have k4 := cell_at hx2 (j := 4) rfl
      have k5 := cell_at hx2 (j := 5) rfl
      have z0 := cell_at hz2 (j := 0) rfl
      have z1 := cell_at hz2 (j := 1) rfl
      have z2 := cell_at hz2 (j := 2) rfl
      have z3 := cell_at hz2 (j := 3) rfl
      have z4 := cell_at hz2 (j := 4) rfl
      have z5 := cell_at hz2 (j := 5) rfl
      have fz := unfrozen hz2
      have hlz := heap_lt hz2
      have hlx := heap_lt hx2
      have HB2 := Lib.hid (And.intro (HX.out.1.then_ hb2) (And.intro hz2 (And.intro hx2 hb2)))
      clear hb2 hx2 hz2
      go_upto_region 13 with fail
      go_region_law (go_simp; go_at_call 78; refine (dprim_any _ _).mono ?_; rintro e w3 ⟨rfl, hb3⟩; have hb3' := (Below.refl w2.heap.size w2).drew.then_ hb3; have hx3 := (hb3'.block _ (heap_lt HB2.out.2.2.1)).trans HB2.out.2.2.1; have hz3 := (hb3'.block _ (heap_lt HB2.out.2.1)).trans HB2.out.2.1; clear k0 k1 k2 k3 k4 k5 z0 z1 z2 z3 z4 z5 fz hlz hlx; have k0 := cell_at hx3 (j := 0) rfl; have k1 := cell_at hx3 (j := 1) rfl; have k2 := cell_at hx3 (j := 2) rfl; have k3 := cell_at hx3 (j := 3) rfl; have k4 := cell_at hx3 (j := 4) rfl; have k5 := cell_at hx3 (j := 5) rfl; have z0 := cell_at hz3 (j := 0) rfl; have z1 := cell_at hz3 (j := 1) rfl; have z2 := cell_at hz3 (j := 2) rfl; have z3 := cell_at hz3 (j := 3) rfl; have z4 := cell_at hz3 (j := 4) rfl; have z5 := cell_at hz3 (j := 5) rfl; have fz := unfrozen hz3; have hlz := heap_lt hz3; have hlx := heap_lt hx3; have HB3 := Lib.hid (And.intro (HB2.out.1.then_ hb3') (And.intro hz3 hb3'.size)); clear hb3 hb3' hx3 hz3)
      all_goals
        go_wp2_with fail
        obtain ⟨e1, e2, e3⟩ := doc_two (w := w) (w3 := w3) (lo := w0.heap.size) (hi := w.heap.size + 2) (g := w.heap.size + 1) (x := tPrim ⟨#[45]⟩) (y := n) (P' := A) (Q' := some ⟨b3, o3, none⟩) (R' := K) (p' := ca) (q' := cb) (r' := ck) (P := none) (Q := none) (R := none) (p := 0) (q := 0) (r := 0) 40 HB3.out.2.1 HB3.out.1 HT.out.2.size (Nat.le_succ _) (by omega) (by have h1 := HX.out.2.2.2; have h2 := HB3.out.2.2; have h3 := HB2.out.2.2.2.size; have h4 : w2.drew.heap.size = w2.heap.size := rfl; omega) (nil_at _ _ _ _) (mask_old HT.out.1 (HT.out.2.then_ HB3.out.1)) rfl
        rw [HR.out]
        exact bodyPost_ret (results_tm2 (p := 6) (t := 7) rfl rfl e1) rfl ⟨_, _, _, _, _, _, rfl, e2, e3⟩
    · subst hlf
      have HR : Hid (bondD n s false = (tOf 40 [tPrim ⟨#[43]⟩, n], true)) := Lib.hid (by rw [HRQ.out, if_neg (by rintro ⟨_, h⟩; cases h), if_neg (by rw [hs]; decide), if_pos hs])
      have e45 : (s.toList == [45]) = true := by rw [Lib.toList_data, hs]; rfl
      have e43 : (s.toList == [43]) = false := by rw [Lib.toList_data, hs]; rfl
      have e42 : (s.toList == [42]) = false := by rw [Lib.toList_data, hs]; rfl
      clear hs
      go_enter Tryz.func79, Tryz.ntmps79
      go_upto_region 1 with fail
      rw [← HW1.out]
      go_wp2_with fail
      refine SC2.out.mono ?_
      rintro e w2 ⟨rfl, hb2⟩
      clear k0 k1 k2 k3 k4 k5 z0 z1 z2 z3 z4 z5 fz hlz hlx
      have hx2 := (hb2.block _ (heap_lt HX.out.2.1)).trans HX.out.2.1
      have hz2 := (hb2.block _ (heap_lt HX.out.2.2.1)).trans HX.out.2.2.1
      obtain ⟨l3, c3⟩ := HC3.out w2 hb2
      have k0 := cell_at hx2 (j := 0) rfl
      have k1 := cell_at hx2 (j := 1) rfl
      have k2 := cell_at hx2 (j := 2) rfl
      have k3 := cell_at hx2 (j := 3) rfl
      have k4 := cell_at hx2 (j := 4) rfl
      have k5 := cell_at hx2 (j := 5) rfl
      have z0 := cell_at hz2 (j := 0) rfl
      have z1 := cell_at hz2 (j := 1) rfl
      have z2 := cell_at hz2 (j := 2) rfl
      have z3 := cell_at hz2 (j := 3) rfl
      have z4 := cell_at hz2 (j := 4) rfl
      have z5 := cell_at hz2 (j := 5) rfl
      have fz := unfrozen hz2
      have hlz := heap_lt hz2
      have hlx := heap_lt hx2
      have HB2 := Lib.hid (And.intro (HX.out.1.then_ hb2) (And.intro hz2 (And.intro hx2 hb2)))
      clear hb2 hx2 hz2
      go_upto_region 13 with fail
      go_region_law (go_simp; go_at_call 78; refine (dprim_any _ _).mono ?_; rintro e w3 ⟨rfl, hb3⟩; have hb3' := (Below.refl w2.heap.size w2).drew.then_ hb3; have hx3 := (hb3'.block _ (heap_lt HB2.out.2.2.1)).trans HB2.out.2.2.1; have hz3 := (hb3'.block _ (heap_lt HB2.out.2.1)).trans HB2.out.2.1; clear k0 k1 k2 k3 k4 k5 z0 z1 z2 z3 z4 z5 fz hlz hlx; have k0 := cell_at hx3 (j := 0) rfl; have k1 := cell_at hx3 (j := 1) rfl; have k2 := cell_at hx3 (j := 2) rfl; have k3 := cell_at hx3 (j := 3) rfl; have k4 := cell_at hx3 (j := 4) rfl; have k5 := cell_at hx3 (j := 5) rfl; have z0 := cell_at hz3 (j := 0) rfl; have z1 := cell_at hz3 (j := 1) rfl; have z2 := cell_at hz3 (j := 2) rfl; have z3 := cell_at hz3 (j := 3) rfl; have z4 := cell_at hz3 (j := 4) rfl; have z5 := cell_at hz3 (j := 5) rfl; have fz := unfrozen hz3; have hlz := heap_lt hz3; have hlx := heap_lt hx3; have HB3 := Lib.hid (And.intro (HB2.out.1.then_ hb3') (And.intro hz3 hb3'.size)); clear hb3 hb3' hx3 hz3)
      all_goals
        go_wp2_with fail
        obtain ⟨e1, e2, e3⟩ := doc_two (w := w) (w3 := w3) (lo := w0.heap.size) (hi := w.heap.size + 2) (g := w.heap.size + 1) (x := tPrim ⟨#[43]⟩) (y := n) (P' := A) (Q' := some ⟨b3, o3, none⟩) (R' := K) (p' := ca) (q' := cb) (r' := ck) (P := none) (Q := none) (R := none) (p := 0) (q := 0) (r := 0) 40 HB3.out.2.1 HB3.out.1 HT.out.2.size (Nat.le_succ _) (by omega) (by have h1 := HX.out.2.2.2; have h2 := HB3.out.2.2; have h3 := HB2.out.2.2.2.size; have h4 : w2.drew.heap.size = w2.heap.size := rfl; omega) (nil_at _ _ _ _) (mask_old HT.out.1 (HT.out.2.then_ HB3.out.1)) rfl
        rw [HR.out]
        exact bodyPost_ret (results_tm2 (p := 6) (t := 7) rfl rfl e1) rfl ⟨_, _, _, _, _, _, rfl, e2, e3⟩
    · have HR : Hid (bondD n s left = (tOf 40 [tPrim ⟨#[37]⟩, n], true)) := Lib.hid (by rw [HRQ.out, if_neg (by rw [hs]; rintro ⟨h, _⟩; cases h), if_neg (by rw [hs]; decide), if_neg (by rw [hs]; decide), if_pos ⟨hs, by rw [HV.out]; exact hv⟩])
      have e45 : (s.toList == [45]) = false := by rw [Lib.toList_data, hs]; rfl
      have e43 : (s.toList == [43]) = false := by rw [Lib.toList_data, hs]; rfl
      have e42 : (s.toList == [42]) = true := by rw [Lib.toList_data, hs]; rfl
      have d0 : (v0 != 0) = true := by simp [hv]
      clear hs hv
      go_enter Tryz.func79, Tryz.ntmps79
      go_upto_region 1 with fail
      rw [← HW1.out]
      go_wp2_with fail
      refine SC2.out.mono ?_
      rintro e w2 ⟨rfl, hb2⟩
      clear k0 k1 k2 k3 k4 k5 z0 z1 z2 z3 z4 z5 fz hlz hlx
      have hx2 := (hb2.block _ (heap_lt HX.out.2.1)).trans HX.out.2.1
      have hz2 := (hb2.block _ (heap_lt HX.out.2.2.1)).trans HX.out.2.2.1
      obtain ⟨l3, c3⟩ := HC3.out w2 hb2
      have k0 := cell_at hx2 (j := 0) rfl
      have k1 := cell_at hx2 (j := 1) rfl
      have k2 := cell_at hx2 (j := 2) rfl
      have k3 := cell_at hx2 (j := 3) rfl
      have k4 := cell_at hx2 (j := 4) rfl
      have k5 := cell_at hx2 (j := 5) rfl
      have z0 := cell_at hz2 (j := 0) rfl
      have z1 := cell_at hz2 (j := 1) rfl
      have z2 := cell_at hz2 (j := 2) rfl
      have z3 := cell_at hz2 (j := 3) rfl
      have z4 := cell_at hz2 (j := 4) rfl
      have z5 := cell_at hz2 (j := 5) rfl
      have fz := unfrozen hz2
      have hlz := heap_lt hz2
      have hlx := heap_lt hx2
      have HB2 := Lib.hid (And.intro (HX.out.1.then_ hb2) (And.intro hz2 (And.intro hx2 hb2)))
      clear hb2 hx2 hz2
      go_upto_region 13 with fail
      go_region_law (go_simp; go_at_call 78; refine (dprim_any _ _).mono ?_; rintro e w3 ⟨rfl, hb3⟩; have hb3' := (Below.refl w2.heap.size w2).drew.then_ hb3; have hx3 := (hb3'.block _ (heap_lt HB2.out.2.2.1)).trans HB2.out.2.2.1; have hz3 := (hb3'.block _ (heap_lt HB2.out.2.1)).trans HB2.out.2.1; clear k0 k1 k2 k3 k4 k5 z0 z1 z2 z3 z4 z5 fz hlz hlx; have k0 := cell_at hx3 (j := 0) rfl; have k1 := cell_at hx3 (j := 1) rfl; have k2 := cell_at hx3 (j := 2) rfl; have k3 := cell_at hx3 (j := 3) rfl; have k4 := cell_at hx3 (j := 4) rfl; have k5 := cell_at hx3 (j := 5) rfl; have z0 := cell_at hz3 (j := 0) rfl; have z1 := cell_at hz3 (j := 1) rfl; have z2 := cell_at hz3 (j := 2) rfl; have z3 := cell_at hz3 (j := 3) rfl; have z4 := cell_at hz3 (j := 4) rfl; have z5 := cell_at hz3 (j := 5) rfl; have fz := unfrozen hz3; have hlz := heap_lt hz3; have hlx := heap_lt hx3; have HB3 := Lib.hid (And.intro (HB2.out.1.then_ hb3') (And.intro hz3 hb3'.size)); clear hb3 hb3' hx3 hz3)
      all_goals
        go_wp2_with fail
        obtain ⟨e1, e2, e3⟩ := doc_two (w := w) (w3 := w3) (lo := w0.heap.size) (hi := w.heap.size + 2) (g := w.heap.size + 1) (x := tPrim ⟨#[37]⟩) (y := n) (P' := A) (Q' := some ⟨b3, o3, none⟩) (R' := K) (p' := ca) (q' := cb) (r' := ck) (P := none) (Q := none) (R := none) (p := 0) (q := 0) (r := 0) 40 HB3.out.2.1 HB3.out.1 HT.out.2.size (Nat.le_succ _) (by omega) (by have h1 := HX.out.2.2.2; have h2 := HB3.out.2.2; have h3 := HB2.out.2.2.2.size; have h4 : w2.drew.heap.size = w2.heap.size := rfl; omega) (nil_at _ _ _ _) (mask_old HT.out.1 (HT.out.2.then_ HB3.out.1)) rfl
        rw [HR.out]
        exact bodyPost_ret (results_tm2 (p := 6) (t := 7) rfl rfl e1) rfl ⟨_, _, _, _, _, _, rfl, e2, e3⟩
    · have HR : Hid (bondD n s left = (tNil, false)) := Lib.hid (by rw [HRQ.out, if_neg (by rw [hs]; rintro ⟨h, _⟩; cases h), if_neg (by rw [hs]; decide), if_neg (by rw [hs]; decide), if_neg (by rintro ⟨_, h⟩; rw [HV.out] at h; exact h hv)])
      have e45 : (s.toList == [45]) = false := by rw [Lib.toList_data, hs]; rfl
      have e43 : (s.toList == [43]) = false := by rw [Lib.toList_data, hs]; rfl
      have e42 : (s.toList == [42]) = true := by rw [Lib.toList_data, hs]; rfl
      have d0 : (v0 != 0) = false := by simp [hv]
      clear hs hv
      go_enter Tryz.func79, Tryz.ntmps79
      go_upto_region 1 with fail
      rw [← HW1.out]
      go_wp2_with fail
      refine SC2.out.mono ?_
      rintro e w2 ⟨rfl, hb2⟩
      clear k0 k1 k2 k3 k4 k5 z0 z1 z2 z3 z4 z5 fz hlz hlx
      have hx2 := (hb2.block _ (heap_lt HX.out.2.1)).trans HX.out.2.1
      have hz2 := (hb2.block _ (heap_lt HX.out.2.2.1)).trans HX.out.2.2.1
      obtain ⟨l3, c3⟩ := HC3.out w2 hb2
      have k0 := cell_at hx2 (j := 0) rfl
      have k1 := cell_at hx2 (j := 1) rfl
      have k2 := cell_at hx2 (j := 2) rfl
      have k3 := cell_at hx2 (j := 3) rfl
      have k4 := cell_at hx2 (j := 4) rfl
      have k5 := cell_at hx2 (j := 5) rfl
      have z0 := cell_at hz2 (j := 0) rfl
      have z1 := cell_at hz2 (j := 1) rfl
      have z2 := cell_at hz2 (j := 2) rfl
      have z3 := cell_at hz2 (j := 3) rfl
      have z4 := cell_at hz2 (j := 4) rfl
      have z5 := cell_at hz2 (j := 5) rfl
      have fz := unfrozen hz2
      have hlz := heap_lt hz2
      have hlx := heap_lt hx2
      have HB2 := Lib.hid (And.intro (HX.out.1.then_ hb2) (And.intro hz2 (And.intro hx2 hb2)))
      clear hb2 hx2 hz2
      go_wp2_with fail
      obtain ⟨e1, e2, e3⟩ := doc_six (w := w) (lo := w0.heap.size) (hi := w.heap.size + 2) (u := tNil) (P := none) (Q := none) (R := none) (p := 0) (q := 0) (r := 0) HB2.out.2.1 HB2.out.1 HT.out.2.size (Nat.le_succ _) (by omega) (nil_at _ _ _ _)
      rw [HR.out]
      exact bodyPost_ret (results_tm2 (p := 6) (t := 7) rfl rfl e1) rfl ⟨_, _, _, _, _, _, rfl, e2, e3⟩
    · have HR : Hid (bondD n s left = (tNil, false)) := Lib.hid (by rw [HRQ.out, if_neg (fun h => hs1 h.1), if_neg hs2, if_neg hs1, if_neg (fun h => hs3 h.1)])
      have e45 : (s.toList == [45]) = false := by rw [Lib.toList_data]; exact beq_false_of_ne hs1
      have e43 : (s.toList == [43]) = false := by rw [Lib.toList_data]; exact beq_false_of_ne hs2
      have e42 : (s.toList == [42]) = false := by rw [Lib.toList_data]; exact beq_false_of_ne hs3
      clear hs1 hs2 hs3
      go_enter Tryz.func79, Tryz.ntmps79
      go_upto_region 1 with fail
      rw [← HW1.out]
      go_wp2_with fail
      refine SC2.out.mono ?_
      rintro e w2 ⟨rfl, hb2⟩
      clear k0 k1 k2 k3 k4 k5 z0 z1 z2 z3 z4 z5 fz hlz hlx
      have hx2 := (hb2.block _ (heap_lt HX.out.2.1)).trans HX.out.2.1
      have hz2 := (hb2.block _ (heap_lt HX.out.2.2.1)).trans HX.out.2.2.1
      obtain ⟨l3, c3⟩ := HC3.out w2 hb2
      have k0 := cell_at hx2 (j := 0) rfl
      have k1 := cell_at hx2 (j := 1) rfl
      have k2 := cell_at hx2 (j := 2) rfl
      have k3 := cell_at hx2 (j := 3) rfl
      have k4 := cell_at hx2 (j := 4) rfl
      have k5 := cell_at hx2 (j := 5) rfl
      have z0 := cell_at hz2 (j := 0) rfl
      have z1 := cell_at hz2 (j := 1) rfl
      have z2 := cell_at hz2 (j := 2) rfl
      have z3 := cell_at hz2 (j := 3) rfl
      have z4 := cell_at hz2 (j := 4) rfl
      have z5 := cell_at hz2 (j := 5) rfl
      have fz := unfrozen hz2
      have hlz := heap_lt hz2
      have hlx := heap_lt hx2
      have HB2 := Lib.hid (And.intro (HX.out.1.then_ hb2) (And.intro hz2 (And.intro hx2 hb2)))
      clear hb2 hx2 hz2
      go_wp2_with fail
      obtain ⟨e1, e2, e3⟩ := doc_six (w := w) (lo := w0.heap.size) (hi := w.heap.size + 2) (u := tNil) (P := none) (Q := none) (R := none) (p := 0) (q := 0) (r := 0) HB2.out.2.1 HB2.out.1 HT.out.2.size (Nat.le_succ _) (by omega) (nil_at _ _ _ _)
      rw [HR.out]
      exact bodyPost_ret (results_tm2 (p := 6) (t := 7) rfl rfl e1) rfl ⟨_, _, _, _, _, _, rfl, e2, e3⟩
end Go.Proofs.YtkdejffhdhcocaaGreat
