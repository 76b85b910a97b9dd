/- What the words of a text are: a plain function. No condition. -/
import Derived.Test.YtpipcpjkfgdpcaaDoorShRow
namespace Go.Proofs.YtpipcpjkfgdpcaaDoor
open Go.RowKit

/-- words' answer: numbers, those ahead of '$', where it stood; or an error with a place -/
inductive Res
  | ok (l a : List Int) (m : Int)
  | bad (e p : Int)
/-- the number that the digits mean -/
def signed (b : Bool) (n : Nat) : Int := if b then -(n : Int) else n
def isDig (x : UInt8) : Bool := decide (48 ≤ x.toNat) && decide (x.toNat ≤ 57)
abbrev Rec := Nat → List Int → List Int → Int → Res
/-- behind a word -/
def afterK (t : List UInt8) (rec : Rec) (i : Nat) (l a : List Int) (m : Int) : Res :=
  if i = t.length then .ok l a m else if t[i]? = some 32 then rec (i + 1) l a m else .bad 37 i
/-- behind a number's digits -/
def finK (t : List UInt8) (rec : Rec) (b : Bool) (N f i : Nat) (l a : List Int) (m : Int) : Res :=
  if (b = false ∧ 9223372036854775807 < N) ∨ (b = true ∧ 9223372036854775808 < N) then .bad 30 f else afterK t rec i (l ++ [signed b N]) a m
/-- among a number's digits -/
def moreK (t : List UInt8) (rec : Rec) (b : Bool) (N f i : Nat) (l a : List Int) (m : Int) : Res :=
  finK t rec b (((t.drop i).takeWhile isDig).foldl (fun n x => n * 10 + (x.toNat - 48)) N) f (i + ((t.drop i).takeWhile isDig).length) l a m
/-- at a number's first digit -/
def numK (t : List UInt8) (rec : Rec) (b : Bool) (f j : Nat) (l a : List Int) (m : Int) : Res :=
  if t[j]? = some 48 then finK t rec b 0 f (j + 1) l a m else moreK t rec b 0 f j l a m
/-- at a word -/
def wordK (t : List UInt8) (rec : Rec) (i : Nat) (l a : List Int) (m : Int) : Res :=
  match t[i]? with
  | none => .bad 37 i
  | some x =>
    if x.toNat = 36 then (if m < 0 then afterK t rec (i + 1) [] l i else .bad 37 i)
    else if x.toNat = 95 then
      (match t[i + 1]? with
      | none => .bad 37 ((i : Int) + 1)
      | some y => if 49 ≤ y.toNat ∧ y.toNat ≤ 57 then numK t rec true i (i + 1) l a m else .bad 37 ((i : Int) + 1))
    else if 48 ≤ x.toNat ∧ x.toNat ≤ 57 then numK t rec false i i l a m else .bad 37 i
def wordsF (t : List UInt8) : Nat → Rec
  | 0 => fun _ _ _ _ => .bad 0 0
  | k + 1 => wordK t (wordsF t k)
/-- the words from a place on -/
def words (t : List UInt8) : Rec := fun i => wordsF t (t.length + 1 - i) i
/-- a text's words -/
def allWords (t : List UInt8) : Res := words t 0 [] [] (-1)

section
variable {t : List UInt8} {rec rec' : Rec}
theorem afterK_congr {i0 i : Nat} (h0 : i0 ≤ i) (h : ∀ j, i0 < j → j ≤ t.length → rec j = rec' j) (l a : List Int) (m : Int) : afterK t rec i l a m = afterK t rec' i l a m := by
  unfold afterK
  split
  · rfl
  · split
    · rename_i h1
      have := (List.getElem?_eq_some_iff.1 h1).1
      rw [h (i + 1) (by omega) (by omega)]
    · rfl
theorem finK_congr {i0 i : Nat} (h0 : i0 ≤ i) (h : ∀ j, i0 < j → j ≤ t.length → rec j = rec' j) (b : Bool) (N f : Nat) (l a : List Int) (m : Int) : finK t rec b N f i l a m = finK t rec' b N f i l a m := by
  unfold finK
  split
  · rfl
  · exact afterK_congr h0 h _ _ _
theorem numK_congr {i0 i : Nat} (h0 : i0 ≤ i) (h : ∀ j, i0 < j → j ≤ t.length → rec j = rec' j) (b : Bool) (f : Nat) (l a : List Int) (m : Int) : numK t rec b f i l a m = numK t rec' b f i l a m := by
  unfold numK
  split
  · exact finK_congr (by omega) h _ _ _ _ _ _
  · exact finK_congr (by omega) h _ _ _ _ _ _
theorem wordK_congr {i : Nat} (h : ∀ j, i < j → j ≤ t.length → rec j = rec' j) (l a : List Int) (m : Int) : wordK t rec i l a m = wordK t rec' i l a m := by
  unfold wordK
  split
  · rfl
  · split
    · split
      · exact afterK_congr (Nat.le_succ i) h _ _ _
      · rfl
    · split
      · split
        · rfl
        · split
          · exact numK_congr (Nat.le_succ i) h _ _ _ _ _
          · rfl
      · split
        · exact numK_congr (Nat.le_refl i) h _ _ _ _ _
        · rfl
theorem wordsF_enough : ∀ (k i : Nat), t.length + 1 - i ≤ k → i ≤ t.length → wordsF t k i = words t i := by
  intro k
  induction k using Nat.strongRecOn with
  | ind k ih =>
    intro i hk hi
    obtain ⟨q, hq⟩ : ∃ q, t.length + 1 - i = q + 1 := ⟨t.length - i, by omega⟩
    obtain ⟨p, rfl⟩ : ∃ p, k = p + 1 := ⟨k - 1, by omega⟩
    unfold words
    rw [hq]
    funext l a m
    refine wordK_congr (fun j h1 h2 => ?_) l a m
    rw [ih p (by omega) j (by omega) h2, ih q (by omega) j (by omega) h2]
theorem words_eq {i : Nat} (hi : i ≤ t.length) (l a : List Int) (m : Int) : words t i l a m = wordK t (words t) i l a m := by
  obtain ⟨q, hq⟩ : ∃ q, t.length + 1 - i = q + 1 := ⟨t.length - i, by omega⟩
  have h : words t i = wordsF t (q + 1) i := by unfold words; rw [hq]
  rw [h]
  refine wordK_congr (fun j h1 h2 => ?_) l a m
  exact wordsF_enough q j (by omega) h2

theorem after_end (l a : List Int) (m : Int) {i : Nat} (h : i = t.length) : afterK t rec i l a m = .ok l a m := by unfold afterK; rw [if_pos h]
theorem after_blank (l a : List Int) (m : Int) {i : Nat} (h : t[i]? = some 32) : afterK t rec i l a m = rec (i + 1) l a m := by
  unfold afterK
  have := (List.getElem?_eq_some_iff.1 h).1
  rw [if_neg (by omega), if_pos h]
theorem after_bad (l a : List Int) (m : Int) {i : Nat} (h : i ≠ t.length) (h2 : t[i]? ≠ some 32) : afterK t rec i l a m = .bad 37 i := by
  unfold afterK
  rw [if_neg h, if_neg h2]
theorem more_step {b : Bool} {N f i : Nat} {l a : List Int} {m : Int} {x : UInt8} (h : t[i]? = some x) (h1 : 48 ≤ x.toNat) (h2 : x.toNat ≤ 57) : moreK t rec b N f i l a m = moreK t rec b (N * 10 + (x.toNat - 48)) f (i + 1) l a m := by
  obtain ⟨hlt, hx⟩ := List.getElem?_eq_some_iff.1 h
  have hd : isDig x = true := by simp [isDig, h1, h2]
  unfold moreK
  rw [List.drop_eq_getElem_cons hlt, hx, List.takeWhile_cons, if_pos hd, List.foldl_cons, List.length_cons]
  congr 1
  omega
theorem more_stop {b : Bool} {N f i : Nat} {l a : List Int} {m : Int} (h : ∀ x, t[i]? = some x → ¬ (48 ≤ x.toNat ∧ x.toNat ≤ 57)) : moreK t rec b N f i l a m = finK t rec b N f i l a m := by
  unfold moreK
  have hn : (t.drop i).takeWhile isDig = [] := by
    rcases Nat.lt_or_ge i t.length with hlt | hge
    · rw [List.drop_eq_getElem_cons hlt, List.takeWhile_cons, if_neg]
      have := h _ (List.getElem?_eq_getElem hlt)
      simp only [isDig, Bool.and_eq_true, decide_eq_true_eq]
      exact this
    · rw [List.drop_eq_nil_of_le hge]; rfl
  rw [hn]
  rfl
theorem num_zero {b : Bool} {f j : Nat} {l a : List Int} {m : Int} {x : UInt8} (h : t[j]? = some x) (h0 : x.toNat = 48) : numK t rec b f j l a m = finK t rec b 0 f (j + 1) l a m := by
  unfold numK
  rw [if_pos (by rw [h]; exact congrArg some (UInt8.toNat_inj.1 h0))]
theorem num_more {b : Bool} {f j : Nat} {l a : List Int} {m : Int} {x : UInt8} (h : t[j]? = some x) (h0 : x.toNat ≠ 48) : numK t rec b f j l a m = moreK t rec b 0 f j l a m := by
  unfold numK
  rw [if_neg (fun e => by rw [h] at e; injection e with e; subst e; exact h0 rfl)]
theorem w_none {i : Nat} {l a : List Int} {m : Int} (h : t[i]? = none) : wordK t rec i l a m = .bad 37 i := by unfold wordK; rw [h]
theorem w_mark1 {i : Nat} {l a : List Int} {m : Int} {x : UInt8} (h : t[i]? = some x) (h1 : x.toNat = 36) (hm : m < 0) : wordK t rec i l a m = afterK t rec (i + 1) [] l i := by
  unfold wordK; rw [h]; simp only [h1, if_true, hm]
theorem w_mark2 {i : Nat} {l a : List Int} {m : Int} {x : UInt8} (h : t[i]? = some x) (h1 : x.toNat = 36) (hm : ¬ m < 0) : wordK t rec i l a m = .bad 37 i := by
  unfold wordK; rw [h]; simp only [h1, if_true, hm, if_false]
theorem w_neg_bad {i : Nat} {l a : List Int} {m : Int} {x : UInt8} (h : t[i]? = some x) (h1 : x.toNat = 95) (h2 : ∀ y, t[i + 1]? = some y → ¬ (49 ≤ y.toNat ∧ y.toNat ≤ 57)) : wordK t rec i l a m = .bad 37 ((i : Int) + 1) := by
  unfold wordK; rw [h]
  simp only [h1, Nat.reduceEqDiff, if_false, if_true]
  split
  · rfl
  · rename_i y hy
    rw [if_neg (h2 y hy)]
theorem w_neg {i : Nat} {l a : List Int} {m : Int} {x y : UInt8} (h : t[i]? = some x) (h1 : x.toNat = 95) (hy : t[i + 1]? = some y) (h2 : 49 ≤ y.toNat ∧ y.toNat ≤ 57) : wordK t rec i l a m = numK t rec true i (i + 1) l a m := by
  unfold wordK; rw [h, hy]
  simp only [h1, Nat.reduceEqDiff, if_false, if_true]
  rw [if_pos h2]
theorem w_num {i : Nat} {l a : List Int} {m : Int} {x : UInt8} (h : t[i]? = some x) (h2 : 48 ≤ x.toNat ∧ x.toNat ≤ 57) : wordK t rec i l a m = numK t rec false i i l a m := by
  unfold wordK; rw [h]
  simp only []
  rw [if_neg (by omega), if_neg (by omega), if_pos h2]
theorem w_bad {i : Nat} {l a : List Int} {m : Int} {x : UInt8} (h : t[i]? = some x) (h1 : x.toNat ≠ 36) (h3 : x.toNat ≠ 95) (h2 : ¬ (48 ≤ x.toNat ∧ x.toNat ≤ 57)) : wordK t rec i l a m = .bad 37 i := by
  unfold wordK; rw [h]
  simp only []
  rw [if_neg h1, if_neg h3, if_neg h2]
end
/-- the number n in 64 bits, whether it was too great ahead, and the number N that was meant -/
def Num (o : Bool) (n N : Nat) : Prop := (o = false ∧ N = n) ∨ (o = true ∧ 18446744073709551616 ≤ N)
/-- the number fits -/
def Fits (o b : Bool) (n : Nat) : Prop := o = false ∧ (b = false → n ≤ 9223372036854775807) ∧ (b = true → n ≤ 9223372036854775808)
theorem fin_ok {t : List UInt8} {rec : Rec} {o b : Bool} {n N f i : Nat} {l a : List Int} {m : Int} (hN : Num o n N) (h : Fits o b n) : finK t rec b N f i l a m = afterK t rec i (l ++ [signed b n]) a m := by
  obtain ⟨h1, h2, h3⟩ := h
  rcases hN with ⟨_, rfl⟩ | ⟨h0, _⟩
  · unfold finK
    rw [if_neg]
    rintro (⟨hb, hh⟩ | ⟨hb, hh⟩)
    · have := h2 hb; omega
    · have := h3 hb; omega
  · rw [h0] at h1; cases h1
theorem fin_bad {t : List UInt8} {rec : Rec} {o b : Bool} {n N f i : Nat} {l a : List Int} {m : Int} (hN : Num o n N) (h : ¬ Fits o b n) : finK t rec b N f i l a m = .bad 30 f := by
  unfold finK
  rw [if_pos]
  rcases hN with ⟨h0, rfl⟩ | ⟨h0, h1⟩
  · cases b with
    | false => exact .inl ⟨rfl, Nat.lt_of_not_le fun hh => h ⟨h0, fun _ => hh, fun e => (by cases e)⟩⟩
    | true => exact .inr ⟨rfl, Nat.lt_of_not_le fun hh => h ⟨h0, fun e => (by cases e), fun _ => hh⟩⟩
  · cases b with
    | false => exact .inl ⟨rfl, by omega⟩
    | true => exact .inr ⟨rfl, by omega⟩
theorem num_step {o o' : Bool} {n n' N d : Nat} (hN : Num o n N) (h1 : o' = false → o = false ∧ n' = n * 10 + d) (h2 : o' = true → o = true ∨ 18446744073709551616 ≤ n * 10 + d) : Num o' n' (N * 10 + d) := by
  rcases hN with ⟨h0, rfl⟩ | ⟨h0, h3⟩
  · cases o' with
    | false => exact .inl ⟨rfl, by rw [(h1 rfl).2]⟩
    | true => exact .inr ⟨rfl, by rcases h2 rfl with h | h; rw [h0] at h; cases h; exact h⟩
  · cases o' with
    | false => have := (h1 rfl).1; rw [h0] at this; cases this
    | true => exact .inr ⟨rfl, by omega⟩
theorem at_some {s : ByteArray} {i : Nat} (h : i < s.size) : s.data.toList[i]? = some s[i] := by
  have h' : i < s.data.size := h
  rw [Array.getElem?_toList, Array.getElem?_eq_getElem h']
  rfl
theorem at_none {s : ByteArray} {i : Nat} (h : s.size ≤ i) : s.data.toList[i]? = none := by
  have h' : s.data.size ≤ i := h
  rw [Array.getElem?_toList, Array.getElem?_eq_none h']
theorem len_data (s : ByteArray) : s.data.toList.length = s.size := Array.length_toList
end Go.Proofs.YtpipcpjkfgdpcaaDoor
