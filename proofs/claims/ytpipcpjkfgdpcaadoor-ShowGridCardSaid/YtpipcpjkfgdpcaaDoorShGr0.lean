/- The layout of an array, by lines: what cutting at newlines and at blanks gives. No condition. -/
import Derived.Test.YtpipcpjkfgdpcaaDoorShTxtAll
import Derived.Lib.SplitLaws
import Derived.Lib.Fields
import Derived.Lib.Join
namespace Go.Proofs.YtpipcpjkfgdpcaaDoor
open Go.RowKit

/-! ### cutting at newlines -/
theorem rep_eq (b : UInt8) : ∀ n, Lib.repeatL [b] n = List.replicate n b
  | 0 => rfl
  | n + 1 => by simp [Lib.repeatL, rep_eq b n, List.replicate_succ]
theorem index_at (c : UInt8) : ∀ (x y : List UInt8), c ∉ x → Lib.index (x ++ c :: y) [c] = x.length
  | [], y, _ => by simp [Lib.index, List.isPrefixOf]
  | b :: x, y, h => by
    have hb : ¬ c = b := fun e => h (by simp [e])
    have ih := index_at c x y (fun e => h (by simp [e]))
    rw [List.cons_append, Lib.index]
    have hp : ([c] : List UInt8).isPrefixOf (b :: (x ++ c :: y)) = false := by simp [List.isPrefixOf, hb]
    have h1 : ¬ (((x.length : Nat) : Int) == -1) = true := fun e => by have := beq_iff_eq.1 e; omega
    rw [hp, ih]
    simp only [Bool.false_eq_true, if_false]
    rw [if_neg h1]
    simp
/-- all pieces of a text, cut at a byte -/
def cutsAt (c : UInt8) (s : List UInt8) : List (List UInt8) := Lib.splitK [c] 0 (s.count c) s
theorem cutsAt_hit (c : UInt8) (x y : List UInt8) (h : c ∉ x) : cutsAt c (x ++ c :: y) = x :: cutsAt c y := by
  have h0 : (x ++ c :: y).count c = y.count c + 1 := by
    rw [List.count_append, List.count_eq_zero.2 h, List.count_cons_self]
    omega
  unfold cutsAt
  rw [h0, Lib.splitK, index_at c x y h]
  have h1 : ¬ (((x.length : Nat) : Int) == -1) = true := fun e => by have := beq_iff_eq.1 e; omega
  rw [if_neg h1]
  have e1 : ((x.length : Nat) : Int).toNat + 0 = x.length := by omega
  have e2 : ((x.length : Nat) : Int).toNat + [c].length = x.length + 1 := by simp
  rw [e1, e2, List.take_left, show x.length + 1 = (x ++ [c]).length by simp, show x ++ c :: y = (x ++ [c]) ++ y by simp, List.drop_left]
theorem cutsAt_none (c : UInt8) (x : List UInt8) (h : c ∉ x) : cutsAt c x = [x] := by
  unfold cutsAt
  rw [List.count_eq_zero.2 h]
  rfl
theorem cutsAt_many (c : UInt8) (y : List UInt8) : ∀ n, cutsAt c (List.replicate n c ++ y) = List.replicate n [] ++ cutsAt c y
  | 0 => by simp
  | n + 1 => by
    have := cutsAt_hit c [] (List.replicate n c ++ y) (by simp)
    rw [List.nil_append] at this
    rw [List.replicate_succ, List.cons_append, this, cutsAt_many c y n, List.replicate_succ, List.cons_append]
theorem cut_cells (s : ByteArray) (c : UInt8) : (Lib.splitB ⟨#[c]⟩ 0 (Lib.countB s ⟨#[c]⟩) s).map (·.data.toList) = cutsAt c s.data.toList := by
  rw [Lib.splitB_data]
  unfold cutsAt
  congr 1
  exact Lib.count_one c s.data.toList

/-! ### a row -/
theorem dec_bytes : ∀ (n : Nat) (b : UInt8), b ∈ Lib.decDigits n → 48 ≤ b.toNat ∧ b.toNat ≤ 57 := by
  intro n
  induction n using Nat.strongRecOn with
  | _ n ih =>
    intro b hb
    rw [Lib.decDigits] at hb
    split at hb
    · simp only [List.mem_singleton] at hb
      subst hb
      rw [UInt8.toNat_ofNat']
      omega
    · rcases List.mem_append.1 hb with hb | hb
      · exact ih (n / 10) (by omega) b hb
      · simp only [List.mem_singleton] at hb
        subst hb
        rw [UInt8.toNat_ofNat']
        omega
theorem digits_bytes (n : Int) (b : UInt8) (hb : b ∈ digits n) : 48 ≤ b.toNat ∧ b.toNat ≤ 95 := by
  unfold digits at hb
  split at hb
  · rcases List.mem_cons.1 hb with rfl | hb
    · decide
    · have := dec_bytes _ b hb; omega
  · have := dec_bytes _ b hb; omega
theorem digits_nosp (n : Int) (b : UInt8) (hb : b ∈ digits n) : Lib.isSp b = false := by
  have h := digits_bytes n b hb
  have ne : ∀ k : UInt8, k.toNat < 48 → (b == k) = false := fun k hk => beq_eq_false_iff_ne.2 fun e => by rw [e] at h; omega
  unfold Lib.isSp
  rw [ne 9 (by decide), ne 10 (by decide), ne 11 (by decide), ne 12 (by decide), ne 13 (by decide), ne 32 (by decide)]
  rfl
/-- what stands at a place: blanks, the number, and a blank if the row goes on -/
def cellT (a : List Int) (m N q : Nat) : List UInt8 := List.replicate (wd a m N (q % m) - (digits (atomAt a q)).length) 32 ++ digits (atomAt a q) ++ (if q % m + 1 < m then [32] else [])
/-- n places from q on -/
def rowFrom (a : List Int) (m N : Nat) : Nat → Nat → List UInt8
  | 0, _ => []
  | n + 1, q => cellT a m N q ++ rowFrom a m N n (q + 1)
def rowT (a : List Int) (m N p : Nat) : List UInt8 := rowFrom a m N m (p * m)
/-- the newlines behind row p -/
def nlT (s : List Int) (m N p : Nat) : List UInt8 := if (p + 1) * m < N then List.replicate (1 + trail (s.take (s.length - 1)) (p : Int)) 10 else []
theorem col_mod {m p c : Nat} (h : c < m) : (p * m + c) % m = c ∧ (p * m + c) / m = p := by
  constructor
  · rw [Nat.mul_comm, Nat.mul_add_mod, Nat.mod_eq_of_lt h]
  · rw [Nat.mul_comm, Nat.mul_add_div (by omega), Nat.div_eq_of_lt h, Nat.add_zero]
theorem grid_from (s a : List Int) (m N p : Nat) : ∀ n c, c + n = m → 1 ≤ n → grid s a m N (p * m + m) = grid s a m N (p * m + c) ++ rowFrom a m N n (p * m + c) ++ nlT s m N p
  | 0, _, _, h => absurd h (by decide)
  | 1, c, hc, _ => by
    obtain ⟨h1, h2⟩ := col_mod (m := m) (p := p) (c := c) (by omega)
    have e : p * m + m = (p * m + c) + 1 := by omega
    rw [e, grid]
    have h3 : sepAt s m N (p * m + c) = nlT s m N p := by
      unfold sepAt nlT
      rw [h1, h2, if_neg (by omega), rep_eq]
      have : p * m + c + 1 = (p + 1) * m := by rw [Nat.add_mul, Nat.one_mul]; omega
      rw [this]
    rw [h3]
    simp only [rowFrom, cellT, h1, rep_eq]
    rw [if_neg (by omega)]
    simp only [List.append_assoc, List.append_nil]
  | n + 2, c, hc, _ => by
    obtain ⟨h1, h2⟩ := col_mod (m := m) (p := p) (c := c) (by omega)
    rw [grid_from s a m N p (n + 1) (c + 1) (by omega) (by omega)]
    have e : p * m + (c + 1) = (p * m + c) + 1 := by omega
    rw [e, grid]
    have h3 : sepAt s m N (p * m + c) = [32] := by
      unfold sepAt
      rw [h1, if_pos (by omega)]
    rw [h3]
    have h4 : rowFrom a m N (n + 2) (p * m + c) = cellT a m N (p * m + c) ++ rowFrom a m N (n + 1) (p * m + c + 1) := rfl
    rw [h4]
    simp only [cellT, h1, rep_eq]
    rw [if_pos (by omega)]
    simp only [List.append_assoc]
theorem grid_row (s a : List Int) (m N p : Nat) (hm : 1 ≤ m) : grid s a m N ((p + 1) * m) = grid s a m N (p * m) ++ rowT a m N p ++ nlT s m N p := by
  have := grid_from s a m N p m 0 (by omega) hm
  rw [Nat.add_mul, Nat.one_mul]
  exact this
/-- n rows from row p on -/
def sufT (s a : List Int) (m N : Nat) : Nat → Nat → List UInt8
  | 0, _ => []
  | n + 1, p => rowT a m N p ++ nlT s m N p ++ sufT s a m N n (p + 1)
theorem grid_suf (s a : List Int) (m N : Nat) (hm : 1 ≤ m) : ∀ n p, grid s a m N ((p + n) * m) = grid s a m N (p * m) ++ sufT s a m N n p
  | 0, p => by simp [sufT]
  | n + 1, p => by
    have e : p + (n + 1) = (p + 1) + n := by omega
    rw [e, grid_suf s a m N hm n (p + 1), grid_row s a m N p hm]
    simp only [sufT, List.append_assoc]
/-- the lines: of n rows from row p on -/
def lines (s a : List Int) (m N : Nat) : Nat → Nat → List (List UInt8)
  | 0, _ => []
  | n + 1, p => rowT a m N p :: (if n = 0 then [] else List.replicate (trail (s.take (s.length - 1)) (p : Int)) [] ++ lines s a m N n (p + 1))
theorem cell_bytes (a : List Int) (m N q : Nat) (b : UInt8) (hb : b ∈ cellT a m N q) : b = 32 ∨ (48 ≤ b.toNat ∧ b.toNat ≤ 95) := by
  unfold cellT at hb
  rcases List.mem_append.1 hb with hb | hb
  · rcases List.mem_append.1 hb with hb | hb
    · exact .inl (List.eq_of_mem_replicate hb)
    · exact .inr (digits_bytes _ b hb)
  · split at hb
    · simp only [List.mem_singleton] at hb
      exact .inl hb
    · cases hb
theorem rowFrom_bytes (a : List Int) (m N : Nat) : ∀ n q (b : UInt8), b ∈ rowFrom a m N n q → b = 32 ∨ (48 ≤ b.toNat ∧ b.toNat ≤ 95)
  | 0, _, b, hb => by cases hb
  | n + 1, q, b, hb => by
    rcases List.mem_append.1 hb with hb | hb
    · exact cell_bytes a m N q b hb
    · exact rowFrom_bytes a m N n (q + 1) b hb
theorem row_no10 (a : List Int) (m N p : Nat) : (10 : UInt8) ∉ rowT a m N p := fun h => by
  rcases rowFrom_bytes a m N m (p * m) 10 h with h | h
  · exact absurd h (by decide)
  · exact absurd h.1 (by decide)
theorem cut_lines (s a : List Int) (m N : Nat) (hm : 1 ≤ m) : ∀ n p, (p + (n + 1)) * m = N → cutsAt 10 (sufT s a m N (n + 1) p) = lines s a m N (n + 1) p
  | 0, p, h => by
    have h' : (p + 1) * m = N := h
    have h0 : nlT s m N p = [] := by unfold nlT; rw [if_neg (by omega)]
    simp only [sufT, lines, h0, List.append_nil, if_true]
    exact cutsAt_none 10 _ (row_no10 a m N p)
  | n + 1, p, h => by
    have ih := cut_lines s a m N hm n (p + 1) (by rw [← h]; congr 1; omega)
    have hlt : (p + 1) * m < N := by
      rw [← h]
      exact Nat.mul_lt_mul_of_pos_right (by omega) (by omega)
    have h0 : nlT s m N p = 10 :: List.replicate (trail (s.take (s.length - 1)) (p : Int)) 10 := by
      unfold nlT
      rw [if_pos hlt, Nat.add_comm, List.replicate_succ]
    have e : sufT s a m N (n + 2) p = rowT a m N p ++ 10 :: (List.replicate (trail (s.take (s.length - 1)) (p : Int)) 10 ++ sufT s a m N (n + 1) (p + 1)) := by
      rw [sufT, h0]
      simp
    rw [e, cutsAt_hit 10 _ _ (row_no10 a m N p), cutsAt_many, ih]
    simp [lines]

/-! ### the words of a row -/
/-- how the numbers from place q on are written -/
def wordsFrom (a : List Int) : Nat → Nat → List (List UInt8)
  | 0, _ => []
  | n + 1, q => digits (atomAt a q) :: wordsFrom a n (q + 1)
theorem fields_blanks (l : List UInt8) : ∀ k, Lib.fieldsGo [] (List.replicate k 32 ++ l) = Lib.fieldsGo [] l
  | 0 => rfl
  | k + 1 => by
    rw [List.replicate_succ, List.cons_append, Lib.fieldsGo]
    have : Lib.isSp 32 = true := by decide
    rw [this]
    simp only [if_true, List.isEmpty_nil]
    exact fields_blanks l k
theorem fields_word (l : List UInt8) : ∀ (w cur : List UInt8), (∀ b ∈ w, Lib.isSp b = false) → Lib.fieldsGo cur (w ++ l) = Lib.fieldsGo (cur ++ w) l
  | [], cur, _ => by simp
  | b :: w, cur, h => by
    rw [List.cons_append, Lib.fieldsGo, h b (by simp)]
    simp only [Bool.false_eq_true, if_false]
    rw [fields_word l w (cur ++ [b]) (fun x hx => h x (by simp [hx]))]
    simp
theorem fields_row (a : List Int) (m N p : Nat) : ∀ n c, c + n = m → Lib.fieldsGo [] (rowFrom a m N n (p * m + c)) = wordsFrom a n (p * m + c)
  | 0, _, _ => rfl
  | n + 1, c, h => by
    obtain ⟨h1, _⟩ := col_mod (m := m) (p := p) (c := c) (by omega)
    have hd := digits_nosp (atomAt a (p * m + c))
    have hne : (digits (atomAt a (p * m + c))).isEmpty = false := by
      cases hx : digits (atomAt a (p * m + c)) with
      | nil => have := digits_pos (atomAt a (p * m + c)); rw [hx] at this; simp at this
      | cons _ _ => rfl
    have ih := fields_row a m N p n (c + 1) (by omega)
    rw [rowFrom, cellT, h1, List.append_assoc, List.append_assoc, fields_blanks, fields_word _ _ _ hd, List.nil_append]
    rw [show p * m + c + 1 = p * m + (c + 1) by omega]
    cases n with
    | zero =>
      rw [if_neg (by omega)]
      simp only [rowFrom, List.append_nil, Lib.fieldsGo, hne, wordsFrom]
      rfl
    | succ n =>
      rw [if_pos (by omega)]
      rw [List.singleton_append, Lib.fieldsGo]
      have : Lib.isSp 32 = true := by decide
      rw [this, if_pos rfl, hne]
      simp only [Bool.false_eq_true, if_false]
      rw [ih]
      rfl
theorem fields_rowT (a : List Int) (m N p : Nat) : Lib.fields (rowT a m N p) = wordsFrom a m (p * m) := by
  have := fields_row a m N p m 0 (by omega)
  exact this
theorem words_add (a : List Int) : ∀ n k q, wordsFrom a (n + k) q = wordsFrom a n q ++ wordsFrom a k (q + n)
  | 0, k, q => by simp [wordsFrom]
  | n + 1, k, q => by
    rw [show n + 1 + k = (n + k) + 1 by omega, wordsFrom, wordsFrom, words_add a n k (q + 1), show q + 1 + n = q + (n + 1) by omega]
    rfl
theorem words_length (a : List Int) : ∀ n q, (wordsFrom a n q).length = n
  | 0, _ => rfl
  | n + 1, q => by simp [wordsFrom, words_length a n (q + 1)]
theorem words_all (a : List Int) : ∀ n q, q + n = a.length → wordsFrom a n q = (a.drop q).map digits
  | 0, q, h => by rw [List.drop_eq_nil_of_le (by omega)]; rfl
  | n + 1, q, h => by
    have hlt : q < a.length := by omega
    rw [wordsFrom, words_all a n (q + 1) (by omega), List.drop_eq_getElem_cons hlt, List.map_cons]
    unfold atomAt
    rw [List.getElem?_eq_getElem hlt]
    rfl
theorem join_words (a : List Int) : Lib.join (a.map digits) [32] = joined a := by
  cases a with
  | nil => rfl
  | cons x r =>
    rw [List.map_cons, Lib.join_cons]
    unfold Lib.joinTail joined
    congr 1
    induction r with
    | nil => rfl
    | cons y r ih => simp only [List.map_cons, List.flatten_cons, List.flatMap_cons, ih]; simp

/-! ### how long a row is -/
def lenFrom (a : List Int) (m N : Nat) : Nat → Nat → Nat
  | 0, _ => 0
  | n + 1, c => wd a m N c + (if c + 1 < m then 1 else 0) + lenFrom a m N n (c + 1)
theorem rowFrom_len (a : List Int) (m N p : Nat) : ∀ n c, c + n = m → (p + 1) * m ≤ N → (rowFrom a m N n (p * m + c)).length = lenFrom a m N n c
  | 0, _, _, _ => rfl
  | n + 1, c, h, hN => by
    obtain ⟨h1, _⟩ := col_mod (m := m) (p := p) (c := c) (by omega)
    have hw := wd_at a m N (p * m + c) (by rw [Nat.add_mul, Nat.one_mul] at hN; omega)
    have ih := rowFrom_len a m N p n (c + 1) (by omega) hN
    rw [h1] at hw
    rw [rowFrom, cellT, h1, List.length_append, List.length_append, List.length_append, List.length_replicate, show p * m + c + 1 = p * m + (c + 1) by omega, ih, lenFrom]
    split
    · simp only [List.length_singleton]; omega
    · simp only [List.length_nil]; omega
theorem rowT_len (a : List Int) (m N p : Nat) (hN : (p + 1) * m ≤ N) : (rowT a m N p).length = lenFrom a m N m 0 := rowFrom_len a m N p m 0 (by omega) hN
theorem rowT_ne (a : List Int) (m N p : Nat) (hm : 1 ≤ m) : rowT a m N p ≠ [] := fun e => by
  obtain ⟨n, rfl⟩ : ∃ n, m = n + 1 := ⟨m - 1, by omega⟩
  have h := digits_pos (atomAt a (p * (n + 1)))
  unfold rowT at e
  rw [rowFrom, cellT] at e
  have := congrArg List.length e
  simp only [List.length_append, List.length_nil] at this
  omega

/-! ### how many axes begin anew -/
theorem pred_modn {p m : Nat} (hm : 1 ≤ m) (hp : 0 < p) : (p % m ≠ 0 → (p - 1) % m = p % m - 1) ∧ (p % m = 0 → (p - 1) % m = m - 1 ∧ (p - 1) / m = p / m - 1 ∧ 1 ≤ p / m) := by
  have h1 := Nat.div_add_mod p m
  have h2 := Nat.mod_lt p (show m > 0 by omega)
  refine ⟨fun h => ?_, fun h => ?_⟩
  · have e : p - 1 = (p % m - 1) + m * (p / m) := by omega
    rw [e, Nat.add_mul_mod_self_left, Nat.mod_eq_of_lt (by omega)]
  · have hq : 1 ≤ p / m := (Nat.one_le_div_iff (by omega)).2 (Nat.le_of_dvd hp (Nat.dvd_of_mod_eq_zero h))
    have e : p - 1 = (m - 1) + m * (p / m - 1) := by
      rw [Nat.mul_sub, Nat.mul_one]
      have : m * 1 ≤ m * (p / m) := Nat.mul_le_mul_left _ hq
      omega
    refine ⟨?_, ?_, hq⟩
    · rw [e, Nat.add_mul_mod_self_left, Nat.mod_eq_of_lt (by omega)]
    · rw [e, Nat.add_mul_div_left _ _ (by omega), Nat.div_eq_of_lt (by omega)]
      omega
/-- one step: at axis t, the place q among those up to t -/
theorem trail_step {s : List Int} {t : Nat} {x : Nat} {q : Nat} (hx : s[t]? = some (x : Int)) (h1 : 1 ≤ x) (hq : 1 ≤ q) : trail (s.take (t + 1)) ((q : Int) - 1) = if q % x = 0 then trail (s.take t) (((q / x : Nat) : Int) - 1) + 1 else 0 := by
  rw [take_snoc hx, trail_snoc]
  have hz : ((q : Int) - 1) = ((q - 1 : Nat) : Int) := by omega
  rw [hz]
  obtain ⟨a1, a2⟩ := pred_modn h1 hq
  by_cases h : q % x = 0
  · obtain ⟨b1, b2, b3⟩ := a2 h
    rw [if_pos h, if_pos (by rw [← Int.natCast_emod, b1]; omega), ← Int.natCast_ediv, b2]
    congr 2
    omega
  · have b1 := a1 h
    rw [if_neg h, if_neg (by
      rw [← Int.natCast_emod, b1]
      have := Nat.mod_lt q (show x > 0 by omega)
      omega)]
theorem trail_first {s : List Int} {x q : Nat} (hx : s[0]? = some (x : Int)) (h1 : 1 ≤ x) (hq : 1 ≤ q) (hlt : q < x) : trail (s.take 1) ((q : Int) - 1) = 0 := by
  rw [trail_step hx h1 hq, if_neg (by rw [Nat.mod_eq_of_lt hlt]; omega)]
end Go.Proofs.YtpipcpjkfgdpcaaDoor
