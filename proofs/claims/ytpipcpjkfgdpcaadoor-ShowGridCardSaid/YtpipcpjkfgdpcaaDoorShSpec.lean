/- What Flat writes is read back: the plain law. No condition. -/
import Derived.Test.YtpipcpjkfgdpcaaDoorShRead
namespace Go.Proofs.YtpipcpjkfgdpcaaDoor
open Go.RowKit

abbrev stepD : Nat → UInt8 → Nat := fun n x => n * 10 + (x.toNat - 48)
theorem nat48 {d : Nat} (h : d < 10) : (UInt8.ofNat (48 + d)).toNat = 48 + d := by rw [UInt8.toNat_ofNat']; omega
theorem dec_fold : ∀ n : Nat, (Lib.decDigits n).foldl stepD 0 = n := by
  intro n
  induction n using Nat.strongRecOn with
  | ind n ih =>
    by_cases h : n < 10
    · rw [dec_small n h, List.foldl_cons, List.foldl_nil]
      show 0 * 10 + ((UInt8.ofNat (48 + n)).toNat - 48) = n
      rw [nat48 h]; omega
    · have h1 := dec_push (n / 10) (n % 10) (by omega) (by omega)
      rw [show n / 10 * 10 + n % 10 = n by omega] at h1
      rw [h1, List.foldl_append, ih (n / 10) (by omega), List.foldl_cons, List.foldl_nil]
      show n / 10 * 10 + ((UInt8.ofNat (48 + n % 10)).toNat - 48) = n
      rw [nat48 (by omega)]; omega
theorem dec_digit : ∀ n : Nat, ∀ x ∈ Lib.decDigits n, isDig x = true := by
  intro n
  induction n using Nat.strongRecOn with
  | ind n ih =>
    intro x hx
    have one : ∀ d, d < 10 → isDig (UInt8.ofNat (48 + d)) = true := fun d hd => by
      unfold isDig
      rw [nat48 hd]
      simp
      omega
    by_cases h : n < 10
    · rw [dec_small n h] at hx
      simp only [List.mem_cons, List.not_mem_nil, or_false] at hx
      subst hx
      exact one n h
    · have h1 := dec_push (n / 10) (n % 10) (by omega) (by omega)
      rw [show n / 10 * 10 + n % 10 = n by omega] at h1
      rw [h1] at hx
      rcases List.mem_append.1 hx with hx | hx
      · exact ih (n / 10) (by omega) x hx
      · simp only [List.mem_cons, List.not_mem_nil, or_false] at hx
        subst hx
        exact one _ (by omega)
theorem dec_head : ∀ n : Nat, 1 ≤ n → ∃ x r, Lib.decDigits n = x :: r ∧ 49 ≤ x.toNat ∧ x.toNat ≤ 57 := by
  intro n
  induction n using Nat.strongRecOn with
  | ind n ih =>
    intro hn
    by_cases h : n < 10
    · exact ⟨_, [], dec_small n h, by rw [nat48 h]; omega, by rw [nat48 h]; omega⟩
    · have h1 := dec_push (n / 10) (n % 10) (by omega) (by omega)
      rw [show n / 10 * 10 + n % 10 = n by omega] at h1
      obtain ⟨x, r, h2, h3⟩ := ih (n / 10) (by omega) (by omega)
      exact ⟨x, _, by rw [h1, h2]; rfl, h3⟩
/-- no digit stands here -/
def NoDig (p : List UInt8) : Prop := ∀ x r, p = x :: r → isDig x = false
theorem take_digs {D p : List UInt8} (h : ∀ x ∈ D, isDig x = true) (hp : NoDig p) : (D ++ p).takeWhile isDig = D := by
  induction D with
  | nil =>
    cases p with
    | nil => rfl
    | cons x r => rw [List.nil_append, List.takeWhile_cons, if_neg (by rw [hp x r rfl]; simp)]
  | cons x D ih => rw [List.cons_append, List.takeWhile_cons, if_pos (h x (by simp)), ih fun y hy => h y (by simp [hy])]
theorem at_app {pre q : List UInt8} {k : Nat} : (pre ++ q)[pre.length + k]? = q[k]? := by
  rw [List.getElem?_append_right (by omega)]
  congr 1
  omega
theorem at_app0 {pre q : List UInt8} : (pre ++ q)[pre.length]? = q[0]? := at_app (k := 0)
theorem num_dec {rec : Rec} {pre post : List UInt8} {b : Bool} {n f : Nat} {l a : List Int} {m : Int} (hb : b = true → 1 ≤ n) (hf : Fits false b n) (hp : NoDig post) :
    numK (pre ++ (Lib.decDigits n ++ post)) rec b f pre.length l a m = afterK (pre ++ (Lib.decDigits n ++ post)) rec (pre.length + (Lib.decDigits n).length) (l ++ [signed b n]) a m := by
  by_cases hn : n = 0
  · subst hn
    rw [num_zero (x := 48) (by rw [at_app0, dec_small 0 (by decide)]; rfl) rfl, fin_ok (.inl ⟨rfl, rfl⟩) hf, dec_small 0 (by decide)]
    rfl
  · obtain ⟨x, r, h1, h2, h3⟩ := dec_head n (by omega)
    rw [num_more (x := x) (by rw [at_app0, h1]; rfl) (by omega)]
    unfold moreK
    rw [List.drop_left, take_digs (dec_digit n) hp]
    have hfold : (Lib.decDigits n).foldl (fun n x => n * 10 + (x.toNat - 48)) 0 = n := dec_fold n
    rw [hfold]
    exact fin_ok (.inl ⟨rfl, rfl⟩) hf
theorem word_digits {rec : Rec} {pre post : List UInt8} {x : Int} {l a : List Int} {m : Int} (hx : In64 x) (hp : NoDig post) :
    wordK (pre ++ (digits x ++ post)) rec pre.length l a m = afterK (pre ++ (digits x ++ post)) rec (pre.length + (digits x).length) (l ++ [x]) a m := by
  obtain ⟨hx1, hx2⟩ := hx
  by_cases h0 : x < 0
  · have hd : digits x = 95 :: Lib.decDigits x.natAbs := by unfold digits; rw [if_pos h0]
    obtain ⟨y, r, h1, h2, h3⟩ := dec_head x.natAbs (by omega)
    have hsg : signed true x.natAbs = x := by simp only [signed, if_true]; omega
    have e : pre ++ (digits x ++ post) = (pre ++ [95]) ++ (Lib.decDigits x.natAbs ++ post) := by rw [hd]; simp
    have hl : pre.length + 1 = (pre ++ [95]).length := by simp
    have hl2 : pre.length + (digits x).length = (pre ++ [95]).length + (Lib.decDigits x.natAbs).length := by rw [hd]; simp; omega
    rw [w_neg (x := 95) (y := y) (by rw [at_app0, hd]; rfl) rfl (by rw [at_app, hd, h1]; rfl) ⟨h2, h3⟩, e, hl, num_dec (fun _ => by omega) ⟨rfl, fun h => (by cases h), fun _ => by omega⟩ hp, hsg, hl2]
  · have hd : digits x = Lib.decDigits x.toNat := by unfold digits; rw [if_neg h0]
    have hsg : signed false x.toNat = x := by simp only [signed, Bool.false_eq_true, if_false]; omega
    obtain ⟨y, r, h1, h2⟩ : ∃ y r, Lib.decDigits x.toNat = y :: r ∧ 48 ≤ y.toNat ∧ y.toNat ≤ 57 := by
      by_cases h00 : x.toNat = 0
      · exact ⟨48, [], by rw [h00, dec_small 0 (by decide)]; rfl, by decide, by decide⟩
      · obtain ⟨y, r, h1, h2, h3⟩ := dec_head x.toNat (by omega)
        exact ⟨y, r, h1, by omega, h3⟩
    rw [hd, w_num (x := y) (by rw [at_app0, h1]; rfl) h2, num_dec (fun h => (by cases h)) ⟨rfl, fun _ => by omega, fun h => (by cases h)⟩ hp, hsg]
theorem words_list : ∀ (r : List Int) (x : Int) (pre post t : List UInt8) (l a : List Int) (m : Int), In64 x → All64 r → NoDig post → t = pre ++ (joined (x :: r) ++ post) →
    words t pre.length l a m = afterK t (words t) (pre.length + (joined (x :: r)).length) (l ++ (x :: r)) a m
  | [], x, pre, post, t, l, a, m, hx, _, hp, ht => by
    have e : joined [x] = digits x := by simp [joined]
    rw [e] at ht
    rw [words_eq (by rw [ht]; simp), ht, word_digits hx hp, e]
  | y :: r, x, pre, post, t, l, a, m, hx, hr, hp, ht => by
    have e : joined (x :: y :: r) = digits x ++ (32 :: joined (y :: r)) := by simp [joined]
    have ht1 : t = pre ++ (digits x ++ (32 :: (joined (y :: r) ++ post))) := by rw [ht, e]; simp
    have ht2 : t = (pre ++ digits x ++ [32]) ++ (joined (y :: r) ++ post) := by rw [ht1]; simp
    have hnd : NoDig (32 :: (joined (y :: r) ++ post)) := fun z q h => by injection h with h _; subst h; decide
    have hlen : pre.length + (digits x).length + 1 = (pre ++ digits x ++ [32]).length := by simp only [List.length_append, List.length_cons, List.length_nil]
    have hat : t[pre.length + (digits x).length]? = some 32 := by
      rw [ht1, at_app, List.getElem?_append_right (Nat.le_refl _), Nat.sub_self]
      rfl
    rw [words_eq (by rw [ht]; simp)]
    have h1 := word_digits (rec := words t) (pre := pre) (post := 32 :: (joined (y :: r) ++ post)) (l := l) (a := a) (m := m) hx hnd
    rw [← ht1] at h1
    rw [h1, after_blank _ _ _ hat, hlen, words_list r y (pre ++ digits x ++ [32]) post t (l ++ [x]) a m (hr y (by simp)) (fun z hz => hr z (by simp [hz])) hp ht2, e]
    congr 1
    · simp; omega
    · simp
theorem noDig_nil : NoDig [] := fun _ _ h => by cases h
theorem noDig_blank (p : List UInt8) : NoDig (32 :: p) := fun z q h => by injection h with h _; subst h; decide
theorem words_joined {l : List Int} (hl : l ≠ []) (h64 : All64 l) : allWords (joined l) = .ok l [] (-1) := by
  cases l with
  | nil => exact absurd rfl hl
  | cons x r =>
    have h := words_list r x [] [] (joined (x :: r)) [] [] (-1) (h64 x (by simp)) (fun y hy => h64 y (by simp [hy])) noDig_nil (by simp)
    unfold allWords
    rw [show (0 : Nat) = ([] : List UInt8).length from rfl, h, after_end _ _ _ (by simp)]
    rfl
theorem words_shape {s a : List Int} (hs : s ≠ []) (h64 : All64 s) (ha64 : All64 a) : allWords (joined s ++ [32, 36] ++ (if a.length = 0 then [] else 32 :: joined a)) = .ok a s ((joined s).length + 1 : Nat) := by
  cases s with
  | nil => exact absurd rfl hs
  | cons x r =>
    obtain ⟨tl, htl⟩ : ∃ tl : List UInt8, tl = if a.length = 0 then [] else 32 :: joined a := ⟨_, rfl⟩
    rw [← htl]
    obtain ⟨t, ht⟩ : ∃ t, t = joined (x :: r) ++ [32, 36] ++ tl := ⟨_, rfl⟩
    rw [← ht]
    have h1 := words_list r x [] (32 :: 36 :: tl) t [] [] (-1) (h64 x (by simp)) (fun y hy => h64 y (by simp [hy])) (noDig_blank _) (by rw [ht]; simp)
    have hJ : t = joined (x :: r) ++ (32 :: 36 :: tl) := by rw [ht]; simp
    have hat0 : t[(joined (x :: r)).length]? = some 32 := by rw [hJ, at_app0]; rfl
    have hat1 : t[(joined (x :: r)).length + 1]? = some 36 := by rw [hJ, at_app]; rfl
    have hlt := (List.getElem?_eq_some_iff.1 hat1).1
    have h1' : allWords t = afterK t (words t) (joined (x :: r)).length (x :: r) [] (-1) := by
      unfold allWords
      rw [show (0 : Nat) = ([] : List UInt8).length from rfl, h1]
      simp
    rw [h1', after_blank _ _ _ hat0, words_eq (by omega), w_mark1 hat1 rfl (by decide)]
    by_cases ha : a.length = 0
    · have ha' : a = [] := List.length_eq_zero_iff.1 ha
      rw [if_pos ha] at htl
      subst htl ha'
      rw [after_end _ _ _ (by rw [hJ]; simp)]
    · rw [if_neg ha] at htl
      have hat2 : t[(joined (x :: r)).length + 2]? = some 32 := by rw [hJ, at_app, htl]; rfl
      rw [after_blank _ _ _ hat2]
      cases a with
      | nil => exact absurd rfl ha
      | cons y q =>
        have hl : (joined (x :: r)).length + 1 + 1 + 1 = (joined (x :: r) ++ [32, 36, 32]).length := by simp
        have h2 := words_list q y (joined (x :: r) ++ [32, 36, 32]) [] t [] (x :: r) ((joined (x :: r)).length + 1 : Nat) (ha64 y (by simp)) (fun z hz => ha64 z (by simp [hz])) noDig_nil (by rw [hJ, htl]; simp)
        rw [hl, h2, after_end _ _ _ (by rw [hJ, htl]; simp; omega)]
        rfl
theorem joined_le {l : List Int} (h : All64 l) : (joined l).length ≤ 22 * l.length + 21 := by
  cases l with
  | nil => simp [joined]
  | cons x r =>
    have h1 := digits_len x (h x (by simp))
    have h2 := flat_len r fun y hy => h y (by simp [hy])
    simp only [joined, List.length_append, List.length_cons]
    omega
theorem may_parts {s a : List Int} (h0 : arMay s a = 0) : shMay s = 0 ∧ places s = a.length ∧ s.length ≤ 8 ∧ a.length ≤ 4096 := by
  have hM : shMay s = 0 ∧ places s = a.length := by
    unfold arMay at h0
    split at h0
    · cases h0
    · rename_i hh
      exact ⟨h0, Classical.byContradiction fun hc => hh ⟨h0, hc⟩⟩
  have hnn := may_nonneg hM.1
  have hpb := places_bound hM.1 s.length
  rw [List.take_length] at hpb
  have h2 := hM.2
  unfold places at h2
  exact ⟨hM.1, hM.2, hnn.2.1, by omega⟩
theorem flat_bound {s a : List Int} (h : arMay s a = 0) (h64 : All64 s) (ha64 : All64 a) : (flat s a).length ≤ 1048576 := by
  obtain ⟨_, _, h1, h2⟩ := may_parts h
  have h3 := joined_le h64
  have h4 := joined_le ha64
  unfold flat
  split
  · omega
  · simp only [List.length_append, List.length_cons, List.length_nil]
    split
    · simp; omega
    · simp only [List.length_cons]; omega
/-- what Flat writes is read back -/
theorem read_flat {s a : List Int} (h : arMay s a = 0) (h64 : All64 s) (ha64 : All64 a) : readSpec (flat s a) = (s, a, 0, 0) := by
  obtain ⟨hm, hp, h1, h2⟩ := may_parts h
  have hb := flat_bound h h64 ha64
  unfold readSpec
  rw [if_neg (by omega)]
  unfold flat
  by_cases hf : s.length = 0 ∨ s.length = 1 ∧ 1 < a.length
  · rw [if_pos hf]
    have hane : a ≠ [] := fun e => by
      subst e
      rcases hf with h0 | ⟨_, h0⟩
      · have : s = [] := List.length_eq_zero_iff.1 h0
        subst this
        cases hp
      · simp at h0
    rw [words_joined hane ha64]
    simp only []
    rw [if_pos (by decide)]
    rcases hf with h0 | ⟨h0, h3⟩
    · have : s = [] := List.length_eq_zero_iff.1 h0
      subst this
      have hp1 : places [] = 1 := rfl
      rw [if_pos (by omega)]
    · obtain ⟨k, rfl⟩ : ∃ k, s = [k] := List.length_eq_one_iff.1 h0
      have hk : places [k] = k := by simp [places]
      rw [if_neg (by omega), if_neg (by omega), ← hp, hk]
  · rw [if_neg hf]
    have hsne : s ≠ [] := fun e => hf (.inl (by rw [e]; rfl))
    rw [words_shape hsne h64 ha64]
    simp only []
    rw [if_neg (by omega), if_neg (fun e => hf (.inl e)), if_neg (fun x => x hm), if_neg (fun x => x hp), if_neg (fun e => hf (.inr e))]
theorem flat_inj {s a t b : List Int} (h1 : arMay s a = 0) (h2 : arMay t b = 0) (hs : All64 s) (ha : All64 a) (ht : All64 t) (hb : All64 b) (h : flat s a = flat t b) : s = t ∧ a = b := by
  have e1 := read_flat h1 hs ha
  have e2 := read_flat h2 ht hb
  rw [h, e2] at e1
  injection e1 with e1 e3
  injection e3 with e3 _
  exact ⟨e1.symm, e3.symm⟩
end Go.Proofs.YtpipcpjkfgdpcaaDoor
