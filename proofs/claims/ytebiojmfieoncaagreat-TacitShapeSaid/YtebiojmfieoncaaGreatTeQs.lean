/- Trains, what TacitShape asks: how great, how deep, without nouns, and that a train may be. Plain laws. No condition. -/
import Derived.Test.YtebiojmfieoncaaGreatTeQ8
import Derived.Test.YtebiojmfieoncaaGreatTeD3
namespace Go.Proofs.YtebiojmfieoncaaGreat
open Go.RowKit

theorem dep_kids (t : Tm) : dep t = depL t.kids + 1 := by cases t; simp only [dep, Tm.kids]
theorem cntP_pos (t : Tm) : 1 ≤ cnt t := by rw [cnt_kids]; omega
theorem cntLL_le : ∀ {l m : List Tm}, l.length = m.length → (∀ (i : Nat) (k u : Tm), l[i]? = some k → m[i]? = some u → cnt u ≤ 2 * cnt k) → cntL m ≤ 2 * cntL l
  | [], [], _, _ => Nat.zero_le _
  | k :: l, u :: m, h, hk => by
    have h1 := hk 0 k u rfl rfl
    have h2 := cntLL_le (l := l) (m := m) (by simpa using h) fun i k' u' a b => hk (i + 1) k' u' (by simpa using a) (by simpa using b)
    simp only [cntL]
    omega
  | [], _ :: _, h, _ => by simp at h
  | _ :: _, [], h, _ => by simp at h
theorem depLL_le {c : Nat} : ∀ {l m : List Tm}, l.length = m.length → (∀ (i : Nat) (k u : Tm), l[i]? = some k → m[i]? = some u → dep u ≤ dep k + c) → depL m ≤ depL l + c
  | [], [], _, _ => by simp only [depL]; omega
  | k :: l, u :: m, h, hk => by
    have h1 := hk 0 k u rfl rfl
    have h2 := depLL_le (l := l) (m := m) (by simpa using h) fun i k' u' a b => hk (i + 1) k' u' (by simpa using a) (by simpa using b)
    simp only [depL]
    omega
  | [], _ :: _, h, _ => by simp at h
  | _ :: _, [], h, _ => by simp at h
theorem noun_dep {t : Tm} {b : Bool} (hg : goodT b t = true) (hp : plainT t = true) : dep (nounT t) + 3 = dep t := by
  obtain ⟨x, y, z, hx, hy, hz, _, _, e⟩ := plain_parts hg hp
  rw [e, dep_kids t, hx]
  simp only [depL]
  rw [dep_kids x, hy]
  simp only [depL]
  rw [dep_kids y, hz]
  simp only [depL]
  omega
theorem tr_size (N : Nat) : (∀ (t : Tm) (b : Bool), cnt t ≤ N → goodT b t = true → cnt (trn N t) ≤ 2 * cnt t ∧ dep (trn N t) ≤ dep t + 1) ∧ ∀ (v : Int) (t : Tm) (b : Bool), cnt t ≤ N → goodT b t = true → cnt (trd N v t) ≤ 2 * cnt t ∧ dep (trd N v t) ≤ dep t := by
  induction N with
  | zero => exact ⟨fun t _ h => absurd h (by have := cntP_pos t; omega), fun _ t _ h => absurd h (by have := cntP_pos t; omega)⟩
  | succ N ih =>
    have one : ∀ t : Tm, cnt (tOf 22 [t]) ≤ 2 * cnt t ∧ dep (tOf 22 [t]) ≤ dep t + 1 := fun t => by
      have h := cntP_pos t
      rw [cnt_kids, dep_kids]
      show cntL [t] + 1 ≤ _ ∧ depL [t] + 1 ≤ _
      simp only [cntL, depL]
      omega
    have prim : ∀ (t : Tm) (s : ByteArray), cnt (primT s) ≤ 2 * cnt t ∧ dep (primT s) ≤ dep t + 1 := fun t s => by
      have h := cntP_pos t
      rw [cnt_kids (primT s), dep_kids (primT s)]
      show cntL [] + 1 ≤ _ ∧ depL [] + 1 ≤ _
      simp only [cntL, depL]
      omega
    refine ⟨fun t b hN hg => ?_, fun v t b hN hg => ?_⟩
    · simp only [trn]
      by_cases h2 : t.kind = 2
      · rw [if_pos h2]
        split
        · exact prim t _
        · split
          · exact prim t _
          · exact one t
      · rw [if_neg h2]
        by_cases h3 : t.kind = 3
        · rw [if_pos h3]
          obtain ⟨x, y, hks, _, _⟩ := two_kids hg (c := 118) (d := 110) (by rw [h3]; decide) (by omega) (by omega) (by omega)
          have c1 := cnt_kid (t := t) (i := 0) (k := x) (by rw [hks]; rfl)
          have c2 := cnt_kid (t := t) (i := 1) (k := y) (by rw [hks]; rfl)
          have i1 := ih.2 1 x _ (by omega) (good_kid hg (i := 0) (k := x) (by rw [hks]; rfl))
          have i2 := ih.1 y _ (by omega) (good_kid hg (i := 1) (k := y) (by rw [hks]; rfl))
          have e1 : nth t.kids 0 = x := by rw [hks]; rfl
          have e2 : nth t.kids 1 = y := by rw [hks]; rfl
          rw [e1, e2, cnt_kids (tOf _ _), dep_kids (tOf _ _), cnt_kids t, dep_kids t, hks]
          show cntL [trd N 1 x, trn N y] + 1 ≤ _ ∧ depL [trd N 1 x, trn N y] + 1 ≤ _
          simp only [cntL, depL]
          omega
        · rw [if_neg h3]
          by_cases h4 : t.kind = 4
          · rw [if_pos h4]
            obtain ⟨x, y, z, hks, _, _, _⟩ := three_fits hg (c := 118) (d := 110) (e := 110) (by rw [h4]; decide) (by omega) (by omega) (by omega)
            have c1 := cnt_kid (t := t) (i := 0) (k := x) (by rw [hks]; rfl)
            have c2 := cnt_kid (t := t) (i := 1) (k := y) (by rw [hks]; rfl)
            have c3 := cnt_kid (t := t) (i := 2) (k := z) (by rw [hks]; rfl)
            have i1 := ih.2 2 x _ (by omega) (good_kid hg (i := 0) (k := x) (by rw [hks]; rfl))
            have i2 := ih.1 y _ (by omega) (good_kid hg (i := 1) (k := y) (by rw [hks]; rfl))
            have i3 := ih.1 z _ (by omega) (good_kid hg (i := 2) (k := z) (by rw [hks]; rfl))
            have e1 : nth t.kids 0 = x := by rw [hks]; rfl
            have e2 : nth t.kids 1 = y := by rw [hks]; rfl
            have e3 : nth t.kids 2 = z := by rw [hks]; rfl
            rw [e1, e2, e3, cnt_kids (tOf _ _), dep_kids (tOf _ _), cnt_kids t, dep_kids t, hks]
            show cntL [trn N y, trd N 2 x, trn N z] + 1 ≤ _ ∧ depL [trn N y, trd N 2 x, trn N z] + 1 ≤ _
            simp only [cntL, depL]
            omega
          · rw [if_neg h4]
            by_cases h5 : t.kind = 5
            · rw [if_pos h5, cnt_kids (tOf _ _), dep_kids (tOf _ _), cnt_kids t, dep_kids t]
              have key : ∀ (i : Nat) (k u : Tm), t.kids[i]? = some k → (t.kids.map (trn N))[i]? = some u → cnt u ≤ 2 * cnt k ∧ dep u ≤ dep k + 1 := fun i k u hk hu => by
                rw [List.getElem?_map, hk] at hu
                obtain rfl := Option.some.inj hu
                have := cnt_kid hk
                exact ih.1 k _ (by omega) (good_kid hg hk)
              have a1 := cntLL_le (l := t.kids) (m := t.kids.map (trn N)) (by rw [List.length_map]) fun i k u hk hu => (key i k u hk hu).1
              have a2 := depLL_le (c := 1) (l := t.kids) (m := t.kids.map (trn N)) (by rw [List.length_map]) fun i k u hk hu => (key i k u hk hu).2
              show cntL (t.kids.map (trn N)) + 1 ≤ _ ∧ depL (t.kids.map (trn N)) + 1 ≤ _
              omega
            · rw [if_neg h5]
              exact one t
    · simp only [trd]
      by_cases hp : plainT t = true
      · rw [if_pos hp]
        by_cases hn : t.n = v
        · rw [if_pos hn]
          obtain ⟨_, ⟨c, hc⟩, hlt⟩ := noun_parts hg hp
          have hd := noun_dep hg hp
          have := ih.1 (nounT t) c (by omega) hc
          omega
        · rw [if_neg hn]
          omega
      · rw [if_neg hp]
        have key : ∀ (i : Nat) (k u : Tm), t.kids[i]? = some k → (t.kids.mapIdx fun i k => if 0 < (valT t v).getD i 0 then trd N ((valT t v).getD i 0) k else k)[i]? = some u → cnt u ≤ 2 * cnt k ∧ dep u ≤ dep k + 0 := fun i k u hk hu => by
          rw [List.getElem?_mapIdx, hk] at hu
          have e : u = if 0 < (valT t v).getD i 0 then trd N ((valT t v).getD i 0) k else k := (Option.some.inj hu).symm
          rw [e]
          have := cnt_kid hk
          by_cases h0 : 0 < (valT t v).getD i 0
          · rw [if_pos h0]
            exact ih.2 _ k _ (by omega) (good_kid hg hk)
          · rw [if_neg h0]
            omega
        have a1 := cntLL_le (l := t.kids) (m := t.kids.mapIdx fun i k => if 0 < (valT t v).getD i 0 then trd N ((valT t v).getD i 0) k else k) (by rw [List.length_mapIdx]) fun i k u hk hu => (key i k u hk hu).1
        have a2 := depLL_le (c := 0) (l := t.kids) (m := t.kids.mapIdx fun i k => if 0 < (valT t v).getD i 0 then trd N ((valT t v).getD i 0) k else k) (by rw [List.length_mapIdx]) fun i k u hk hu => (key i k u hk hu).2
        rw [cnt_kids (withK _ _), dep_kids (withK _ _), cnt_kids t, dep_kids t]
        show cntL (t.kids.mapIdx _) + 1 ≤ _ ∧ depL (t.kids.mapIdx _) + 1 ≤ _
        omega
/-! ### without nouns -/
mutual
/-- is there no noun but operands outside of definitions, and no x or y? -/
def plL : Tm → Bool
  | .mk k s _ _ _ ks => if k = 23 then true else if k = 3 ∨ k = 4 ∨ k = 5 ∨ (k = 2 ∧ (s.data.toList = [120] ∨ s.data.toList = [121])) then false else plLL ks
def plLL : List Tm → Bool
  | [] => true
  | t :: r => plL t && plLL r
end
theorem plLL_all : ∀ l : List Tm, plLL l = l.all plL
  | [] => rfl
  | t :: r => by simp only [plLL, List.all_cons, plLL_all r]
theorem plL_eq (t : Tm) : plL t = if t.kind = 23 then true else if t.kind = 3 ∨ t.kind = 4 ∨ t.kind = 5 ∨ (t.kind = 2 ∧ (t.text.data.toList = [120] ∨ t.text.data.toList = [121])) then false else t.kids.all plL := by
  cases t with
  | mk k s n sh a ks =>
    unfold plL
    rw [plLL_all]
    rfl
theorem node_false {t : Tm} {b : Bool} (h : nodeB t b = true) : nodeB t false = true := by
  unfold nodeB at h ⊢
  simp only [Bool.and_eq_true] at h ⊢
  exact ⟨h.1, rfl⟩
theorem goodL_all' : ∀ {b : Bool} {l : List Tm}, goodL b l = true ↔ ∀ k ∈ l, goodT b k = true
  | b, [] => by simp [goodL]
  | b, t :: r => by
    simp only [goodL, Bool.and_eq_true, List.mem_cons, forall_eq_or_imp]
    rw [goodL_all' (b := b) (l := r)]
theorem good_mk {t : Tm} {b : Bool} (h1 : nodeB t b = true) (h2 : ∀ k ∈ t.kids, goodT (lowOf t.kind t.n b) k = true) : goodT b t = true := by
  cases t with
  | mk k s n sh a ks =>
    simp only [goodT, Bool.and_eq_true]
    exact ⟨h1, goodL_all'.2 h2⟩
theorem good_node {t : Tm} {b : Bool} (h : goodT b t = true) : nodeB t b = true := by
  cases t with
  | mk k s n sh a ks =>
    simp only [goodT, Bool.and_eq_true] at h
    exact h.1
theorem low_false {k n : Int} (h : k ≠ 23) : lowOf k n false = false := by unfold lowOf; rw [if_neg h]
theorem low_same {n : Int} (b : Bool) : lowOf 23 n b = lowOf 23 n false := by unfold lowOf; rw [if_pos rfl, if_pos rfl]
theorem cls3 {k : Int} (h : cls k = 3) : 20 ≤ k ∧ k ≤ 46 := by
  unfold cls at h
  by_cases h1 : 1 ≤ k ∧ k ≤ 5
  · rw [if_pos h1] at h; omega
  · rw [if_neg h1] at h
    by_cases h2 : 10 ≤ k ∧ k ≤ 14
    · rw [if_pos h2] at h; omega
    · rw [if_neg h2] at h
      by_cases h3 : 20 ≤ k ∧ k ≤ 46
      · exact h3
      · rw [if_neg h3] at h; omega
theorem fits3 {t : Tm} : fitsB t 118 = true ↔ cls t.kind = 3 := by
  unfold fitsB
  rw [if_neg (by decide), if_pos rfl]
  exact decide_eq_true_iff
theorem fits_op {t : Tm} : fitsB t 111 = isOperand t := by
  unfold fitsB
  rw [if_neg (by decide), if_neg (by decide), if_neg (by decide), if_pos rfl]
theorem op_kind {t : Tm} (h : isOperand t = true) : t.kind = 1 ∨ (t.kind = 2 ∧ ¬ t.text.data.toList = [120] ∧ ¬ t.text.data.toList = [121]) := by
  unfold isOperand at h
  simp only [Bool.or_eq_true, Bool.and_eq_true, decide_eq_true_eq, Bool.not_eq_true', beq_eq_false_iff_ne, ne_eq] at h
  rcases h with h | h
  · exact .inl h
  · exact .inr ⟨h.1.1, h.1.2, h.2⟩
theorem op_ok {t : Tm} {b : Bool} (hg : goodT b t = true) (h : isOperand t = true) : goodT false t = true ∧ plL t = true := by
  have hk0 : t.kids = [] := by
    have h1 := op_kind h
    refine List.eq_nil_of_length_eq_zero ?_
    rcases h1 with h1 | ⟨h1, _⟩
    · exact patk_len hg 1 0 h1 (by decide) (by decide) (by decide) (by decide)
    · exact patk_len hg 2 0 h1 (by decide) (by decide) (by decide) (by decide)
  refine ⟨good_mk (node_false (good_node hg)) (by rw [hk0]; exact fun k hk => absurd hk List.not_mem_nil), ?_⟩
  rw [plL_eq, hk0]
  rcases op_kind h with h1 | ⟨h1, h2, h3⟩
  · rw [if_neg (by omega), if_neg (by rw [h1]; rintro (h | h | h | h) <;> first | omega | (have := h.1; omega))]
    rfl
  · rw [if_neg (by omega), if_neg (by rw [h1]; rintro (h | h | h | h) <;> first | omega | (rcases h.2 with e | e; exact h2 e; exact h3 e))]
    rfl
theorem pat_letters : ∀ m : Fin 27, ((20 : Int) + (m.val : Int)) ≠ 23 → ((20 : Int) + (m.val : Int)) ≠ 43 → ∀ c ∈ patOf ((20 : Int) + (m.val : Int)), c = 118 ∨ c = 111 := by decide
theorem verb_letters {k : Int} (h : cls k = 3) (h23 : k ≠ 23) (h43 : k ≠ 43) : ∀ c ∈ patOf k, c = 118 ∨ c = 111 := by
  obtain ⟨h1, h2⟩ := cls3 h
  have e : k = (20 : Int) + (((k - 20).toNat : Nat) : Int) := by omega
  have hm : (k - 20).toNat < 27 := by omega
  have := pat_letters ⟨(k - 20).toNat, hm⟩ (by show (20 : Int) + (((k - 20).toNat : Nat) : Int) ≠ 23; omega) (by show (20 : Int) + (((k - 20).toNat : Nat) : Int) ≠ 43; omega)
  rw [e]
  exact this
theorem zip_get : ∀ {ks : List Tm} {p : List UInt8}, zipFits ks p = true → ∀ (i : Nat) (k : Tm), ks[i]? = some k → ∃ c, p[i]? = some c ∧ fitsB k c = true
  | [], [], _, i, k, h => by simp at h
  | t :: r, c :: p, h, 0, k, hk => by
    simp only [zipFits, Bool.and_eq_true] at h
    obtain rfl := Option.some.inj hk
    exact ⟨c, rfl, h.1⟩
  | t :: r, c :: p, h, i + 1, k, hk => by
    simp only [zipFits, Bool.and_eq_true] at h
    obtain ⟨c', h1, h2⟩ := zip_get h.2 i k (by simpa using hk)
    exact ⟨c', by simpa using h1, h2⟩
  | [], _ :: _, h, _, _, _ => by simp [zipFits] at h
  | _ :: _, [], h, _, _, _ => by simp [zipFits] at h
theorem zip_of : ∀ {ks : List Tm} {p : List UInt8}, ks.length = p.length → (∀ (i : Nat) (k : Tm) (c : UInt8), ks[i]? = some k → p[i]? = some c → fitsB k c = true) → zipFits ks p = true
  | [], [], _, _ => rfl
  | t :: r, c :: p, h, hk => by
    simp only [zipFits, Bool.and_eq_true]
    exact ⟨hk 0 t c rfl rfl, zip_of (by simpa using h) fun i k c' a b => hk (i + 1) k c' (by simpa using a) (by simpa using b)⟩
  | [], _ :: _, h, _ => by simp at h
  | _ :: _, [], h, _ => by simp at h
theorem verb_kids {t : Tm} {b : Bool} (hg : goodT b t = true) (hc : cls t.kind = 3) (h23 : t.kind ≠ 23) {i : Nat} {k : Tm} (hk : t.kids[i]? = some k) : cls k.kind = 3 ∨ isOperand k = true := by
  have h1 := good_kids hg
  have h2 := cls3 hc
  unfold kidsB at h1
  rw [if_neg (by omega), if_neg (by omega)] at h1
  by_cases h43 : t.kind = 43
  · rw [if_pos h43] at h1
    simp only [Bool.and_eq_true, List.all_eq_true] at h1
    exact .inl (fits3.1 (h1.2 k (List.mem_of_getElem? hk)))
  · rw [if_neg h43] at h1
    obtain ⟨c, hc1, hc2⟩ := zip_get h1 i k hk
    rcases verb_letters hc h23 h43 c (List.mem_of_getElem? hc1) with rfl | rfl
    · exact .inl (fits3.1 hc2)
    · exact .inr (by rw [← fits_op]; exact hc2)
theorem verb_plL {t : Tm} (hc : cls t.kind = 3) (h23 : t.kind ≠ 23) (h : ∀ k ∈ t.kids, plL k = true) : plL t = true := by
  have h2 := cls3 hc
  rw [plL_eq, if_neg h23, if_neg (by rintro (h | h | h | h) <;> first | omega | (have := h.1; omega)), List.all_eq_true]
  exact h
theorem verb_ok (N : Nat) : ∀ (t : Tm) (b : Bool), cnt t ≤ N → goodT b t = true → cls t.kind = 3 → goodT false t = true ∧ plL t = true := by
  induction N with
  | zero => exact fun t _ h => absurd h (by have := cntP_pos t; omega)
  | succ N ih =>
    intro t b hN hg hc
    by_cases h23 : t.kind = 23
    · refine ⟨good_mk (node_false (good_node hg)) fun k hk => ?_, by rw [plL_eq, if_pos h23]⟩
      obtain ⟨i, hi⟩ := List.getElem?_of_mem hk
      have := good_kid hg hi
      rw [h23] at this ⊢
      rw [← low_same b]
      exact this
    · have key : ∀ k ∈ t.kids, goodT false k = true ∧ plL k = true := fun k hk => by
        obtain ⟨i, hi⟩ := List.getElem?_of_mem hk
        have h1 := cnt_kid hi
        rcases verb_kids hg hc h23 hi with h | h
        · exact ih k _ (by omega) (good_kid hg hi) h
        · exact op_ok (good_kid hg hi) h
      exact ⟨good_mk (node_false (good_node hg)) (by rw [low_false h23]; exact fun k hk => (key k hk).1), verb_plL hc h23 fun k hk => (key k hk).2⟩
/-- where a kid is turned it is a verb -/
theorem val_verb {t : Tm} {b : Bool} (hg : goodT b t = true) (hc : cls t.kind = 3) {v : Int} {i : Nat} {k : Tm} (hk : t.kids[i]? = some k) (h0 : 0 < (valT t v).getD i 0) : cls k.kind = 3 := by
  have h23 : t.kind ≠ 23 := fun h => by
    have e : valT t v = [] := by unfold valT; rw [if_neg (by omega), if_neg (by omega), if_neg (by omega), if_neg (by omega), if_neg (by omega), if_neg (by omega), if_neg (by omega), if_neg (by omega), if_neg (by omega), if_neg (by omega), if_neg (by omega), if_neg (by omega), if_neg (by omega), if_neg (by omega), if_neg (by omega), if_neg (by omega)]
    rw [e] at h0
    simp at h0
  have h1 := good_kids hg
  have h2 := cls3 hc
  unfold kidsB at h1
  rw [if_neg (by omega), if_neg (by omega)] at h1
  by_cases h43 : t.kind = 43
  · rw [if_pos h43] at h1
    simp only [Bool.and_eq_true, List.all_eq_true] at h1
    exact fits3.1 (h1.2 k (List.mem_of_getElem? hk))
  · rw [if_neg h43] at h1
    obtain ⟨c, hc1, hc2⟩ := zip_get h1 i k hk
    rcases verb_letters hc h23 h43 c (List.mem_of_getElem? hc1) with rfl | rfl
    · exact fits3.1 hc2
    · exfalso
      by_cases h22 : t.kind = 22
      · have e : valT t v = [] := by unfold valT; rw [if_neg (by omega), if_neg (by omega), if_neg (by omega), if_neg (by omega), if_neg (by omega), if_neg (by omega), if_neg (by omega), if_neg (by omega), if_neg (by omega), if_neg (by omega), if_neg (by omega), if_neg (by omega), if_neg (by omega), if_neg (by omega), if_neg (by omega), if_neg (by omega)]
        rw [e] at h0
        simp at h0
      · by_cases h39 : t.kind = 39
        · rw [h39, show patOf 39 = [111, 118] by decide] at hc1
          have hi : i = 0 := by
            rcases i with _ | _ | i
            · rfl
            · simp at hc1
            · simp at hc1
          subst hi
          have e : (valT t v).getD 0 0 = 0 := by
            unfold valT
            rw [if_neg (by omega), if_neg (by omega), if_neg (by omega), if_neg (by omega), if_neg (by omega), if_neg (by omega), if_neg (by omega), if_neg (by omega), if_neg (by omega), if_neg (by omega), if_neg (by omega), if_pos h39]
            split <;> rfl
          omega
        · by_cases h40 : t.kind = 40 ∨ t.kind = 41
          · have hi : 1 ≤ i := by
              rcases i with _ | i
              · exfalso
                rcases h40 with h | h
                · rw [h, show patOf 40 = [118, 111] by decide] at hc1
                  simp at hc1
                · rw [h, show patOf 41 = [118, 111] by decide] at hc1
                  simp at hc1
              · omega
            have hl : (valT t v).length ≤ 1 := by
              unfold valT
              rcases h40 with h | h
              · rw [if_neg (by omega), if_neg (by omega), if_neg (by omega), if_neg (by omega), if_neg (by omega), if_neg (by omega), if_neg (by omega), if_neg (by omega), if_neg (by omega), if_neg (by omega), if_neg (by omega), if_neg (by omega), if_pos h]
                split <;> simp
              · rw [if_neg (by omega), if_neg (by omega), if_neg (by omega), if_neg (by omega), if_neg (by omega), if_neg (by omega), if_neg (by omega), if_neg (by omega), if_neg (by omega), if_neg (by omega), if_pos h]
                by_cases h2' : v = 2
                · rw [if_pos h2']; exact Nat.le_refl _
                · rw [if_neg h2']
                  by_cases h3' : (decide ((nth t.kids 1).kind = 1) && noneBelow (nth t.kids 1)) = true
                  · rw [if_pos h3']; exact Nat.le_refl _
                  · rw [if_neg h3']; exact Nat.zero_le _
            rw [List.getD_eq_getElem?_getD, List.getElem?_eq_none (by omega)] at h0
            simp at h0
          · have hno : ∀ m : Fin 27, ((20 : Int) + (m.val : Int)) ≠ 22 → ((20 : Int) + (m.val : Int)) ≠ 39 → ((20 : Int) + (m.val : Int)) ≠ 40 → ((20 : Int) + (m.val : Int)) ≠ 41 → (111 : UInt8) ∉ patOf ((20 : Int) + (m.val : Int)) := by decide
            have e : t.kind = (20 : Int) + (((t.kind - 20).toNat : Nat) : Int) := by omega
            have := hno ⟨(t.kind - 20).toNat, by omega⟩ (by show (20 : Int) + (((t.kind - 20).toNat : Nat) : Int) ≠ _; omega) (by show (20 : Int) + (((t.kind - 20).toNat : Nat) : Int) ≠ _; omega) (by show (20 : Int) + (((t.kind - 20).toNat : Nat) : Int) ≠ _; omega) (by show (20 : Int) + (((t.kind - 20).toNat : Nat) : Int) ≠ _; omega)
            refine this ?_
            show (111 : UInt8) ∈ patOf ((20 : Int) + (((t.kind - 20).toNat : Nat) : Int))
            rw [← e]
            exact List.mem_of_getElem? hc1
end Go.Proofs.YtebiojmfieoncaaGreat
