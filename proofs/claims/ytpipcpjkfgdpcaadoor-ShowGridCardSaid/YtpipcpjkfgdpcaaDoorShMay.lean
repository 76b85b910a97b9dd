/- shape.May, shape.Size, arr.May. No condition but that numbers are 64 bits wide and slices at most 2^40 long. -/
import Derived.Test.YtpipcpjkfgdpcaaDoorShRow
namespace Go.Proofs.YtpipcpjkfgdpcaaDoor
open Go.RowKit

/-- shape.May's loop -/
def mayGo : Int → List Int → Int
  | _, [] => 0
  | n, k :: r => if 4096 < k then 17 else if 4096 < n * max k 1 then 17 else mayGo (n * max k 1) r
/-- shape.May -/
def shMay (s : List Int) : Int := if s.any (fun k => decide (k < 0)) then 1 else if 8 < s.length then 17 else mayGo 1 s
/-- how many places a shape has -/
def places (s : List Int) : Int := s.foldl (· * ·) 1
/-- shape.Size: the number -/
def shSize (s : List Int) : Int := if shMay s = 0 then places s else 0
/-- arr.May -/
def arMay (s a : List Int) : Int := if shMay s = 0 ∧ places s ≠ a.length then 1 else shMay s

theorem mayGo_two (l : List Int) : ∀ n, mayGo n l = 0 ∨ mayGo n l = 17 := by
  induction l with
  | nil => intro n; exact .inl rfl
  | cons k r ih => intro n; unfold mayGo; split; exact .inr rfl; split; exact .inr rfl; exact ih _
theorem mul_bound {m n k : Int} (h0 : 0 ≤ m) (h1 : m ≤ n) (hk : 0 ≤ k) : 0 ≤ m * k ∧ m * k ≤ n * max k 1 := by
  refine ⟨Int.mul_nonneg h0 hk, ?_⟩
  exact Int.mul_le_mul h1 (by omega) hk (Int.le_trans h0 h1)
theorem prefix_bound : ∀ (l : List Int) (m n : Int), 0 ≤ m → m ≤ n → n ≤ 4096 → (∀ k ∈ l, 0 ≤ k) → mayGo n l = 0 → ∀ i, 0 ≤ (l.take i).foldl (· * ·) m ∧ (l.take i).foldl (· * ·) m ≤ 4096
  | [], m, n, h0, h1, h2, _, _, i => by simp; omega
  | k :: r, m, n, h0, h1, h2, hk, hg, i => by
    cases i with
    | zero => simp; omega
    | succ i =>
      unfold mayGo at hg
      split at hg
      · cases hg
      · split at hg
        · cases hg
        · rename_i hb
          have hb := mul_bound h0 h1 (hk k (by simp))
          simpa using prefix_bound r (m * k) (n * max k 1) hb.1 hb.2 (by omega) (fun x hx => hk x (by simp [hx])) hg i
theorem may_nonneg {s : List Int} (h : shMay s = 0) : (∀ k ∈ s, 0 ≤ k) ∧ s.length ≤ 8 ∧ mayGo 1 s = 0 := by
  unfold shMay at h
  split at h
  · cases h
  · rename_i hn
    split at h
    · cases h
    · refine ⟨fun k hk => ?_, by omega, h⟩
      simp only [List.any_eq_true, decide_eq_true_eq, not_exists, not_and] at hn
      have := hn k hk
      omega
theorem places_bound {s : List Int} (h : shMay s = 0) (i : Nat) : 0 ≤ (s.take i).foldl (· * ·) 1 ∧ (s.take i).foldl (· * ·) 1 ≤ 4096 :=
  have h' := may_nonneg h
  prefix_bound s 1 1 (by omega) (by omega) (by omega) h'.1 h'.2.2 i
theorem take_snoc {l : List Int} {i : Nat} {x : Int} (h : l[i]? = some x) : l.take (i + 1) = l.take i ++ [x] := by rw [List.take_add_one, h]; rfl

set_option maxHeartbeats 2000000 in
set_option maxRecDepth 100000 in
theorem below0 (x : Int) (w : World) : Calls Tryd.prog 91 #[.int .i64 x] w fun e w' => e = .returned (.bool (decide (x < 0))) ∧ w' = w := by
  go_enter Tryd.func91, Tryd.ntmps91
  go_wp2_with fail
  go_ret
  exact ⟨rfl, rfl⟩

/-- what IndexFunc tells of numbers below 0 -/
def Found (l : List Int) (k : Int) : Prop := (l.any (fun k => decide (k < 0)) = true ∧ 0 ≤ k) ∨ (l.any (fun k => decide (k < 0)) = false ∧ k = -1)
set_option maxHeartbeats 4000000 in
set_option maxRecDepth 100000 in
theorem indexFunc_any (A : Option Addr) (cp : Nat) (l : List Int) (w : World) (hA : IntsAt w A l) (hn : l.length ≤ 4611686018427387904) :
    Calls Tryd.prog 103 #[.slice A l.length cp, .func (.func 91) #[] #[]] w fun e w' => (∃ k : Int, e = .returned (.int .i64 k) ∧ Found l k) ∧ w' = w := by
  have HA := Lib.hid hA
  obtain ⟨n, hln⟩ : ∃ n, n = l.length := ⟨_, rfl⟩
  have HN := Lib.hid hln
  rw [← hln] at hn ⊢
  clear hA hln
  go_enter Tryd.func103, Tryd.ntmps103
  go_wp2_with fail
  go_loopw [8] (fun v8 wr => ∃ i : Nat, i ≤ n ∧ v8 = .int .i64 i ∧ (∀ x ∈ l.take i, 0 ≤ x) ∧ wr = w) (fun v8 _ => n - (intOf v8).toNat)
  case atStart => exact ⟨0, Nat.zero_le _, rfl, fun x hx => by simp at hx, rfl⟩
  case round =>
    obtain ⟨i, hi, rfl, hpre, rfl⟩ := hrel
    have HPre := Lib.hid hpre
    clear hpre
    by_cases hlt : i < n
    · obtain ⟨x, hx⟩ : ∃ x, l[i]? = some x := ⟨_, List.getElem?_eq_getElem (by rw [← HN.out]; exact hlt)⟩
      obtain ⟨b, off, rfl, hbl, kc⟩ := HA.out i x hx
      have HX := Lib.hid hx
      clear hx hbl
      by_cases hx0 : x < 0
      · go_wp2_with fail
        refine (below0 x wr).mono ?_
        rintro e w1 ⟨rfl, rfl⟩
        go_wp2_with fail
        go_ret
        exact ⟨⟨i, rfl, .inl ⟨List.any_eq_true.2 ⟨x, List.mem_of_getElem? HX.out, by simpa using hx0⟩, by omega⟩⟩, rfl⟩
      · go_wp2_with fail
        refine (below0 x wr).mono ?_
        rintro e w1 ⟨rfl, rfl⟩
        go_wp2_with fail
        refine ⟨⟨i + 1, by omega, by go_num, fun y hy => ?_, by trivial⟩, by simp [intOf]; omega⟩
        rw [take_snoc HX.out] at hy
        rcases List.mem_append.1 hy with hy | hy
        · exact HPre.out y hy
        · simp only [List.mem_cons, List.not_mem_nil, or_false] at hy
          subst hy
          omega
    · obtain rfl : i = n := by omega
      have hge : ¬ (i : Int) < i := by omega
      go_wp2_with fail
      go_ret
      refine ⟨⟨-1, rfl, .inr ⟨?_, rfl⟩⟩, rfl⟩
      have hp := HPre.out
      rw [HN.out, List.take_length] at hp
      rw [List.any_eq_false]
      intro x hx
      have := hp x hx
      simp only [decide_eq_true_eq]
      omega

set_option maxHeartbeats 2000000 in
set_option maxRecDepth 100000 in
theorem containsFunc_any (A : Option Addr) (cp : Nat) (l : List Int) (w : World) (hA : IntsAt w A l) (hn : l.length ≤ 4611686018427387904) :
    Calls Tryd.prog 90 #[.slice A l.length cp, .func (.func 91) #[] #[]] w fun e w' => e = .returned (.bool (l.any (fun k => decide (k < 0)))) ∧ w' = w := by
  have HC := Lib.hid (indexFunc_any A cp l w hA hn)
  clear hA
  go_enter Tryd.func90, Tryd.ntmps90
  go_wp2_with fail
  refine HC.out.mono ?_
  rintro e w1 ⟨⟨k, rfl, hk⟩, rfl⟩
  have HK := Lib.hid hk
  clear hk
  go_wp2_with fail
  go_ret
  refine ⟨?_, rfl⟩
  rcases HK.out with ⟨h1, h2⟩ | ⟨h1, h2⟩
  · rw [h1]; simp [h2]
  · rw [h1]; subst h2; rfl

set_option maxHeartbeats 4000000 in
set_option maxRecDepth 100000 in
theorem shapeMay_any (A : Option Addr) (cp : Nat) (l : List Int) (w : World) (hA : IntsAt w A l) (hl : All64 l) (hn : l.length ≤ 4611686018427387904) :
    Calls Tryd.prog 72 #[.slice A l.length cp] w fun e w' => e = .returned (.int .i64 (shMay l)) ∧ w' = w := by
  have HA := Lib.hid hA
  have HC := Lib.hid (containsFunc_any A cp l w hA hn)
  have HL := Lib.hid hl
  clear hA hl
  obtain ⟨n, hln⟩ : ∃ n, n = l.length := ⟨_, rfl⟩
  have HN := Lib.hid hln
  rw [← hln] at hn HC ⊢
  clear hln
  go_enter Tryd.func72, Tryd.ntmps72
  go_wp2_with fail
  refine HC.out.mono ?_
  rintro e w1 ⟨rfl, rfl⟩
  cases hany : l.any (fun k => decide (k < 0)) with
  | true =>
    have HY := Lib.hid hany
    clear hany
    go_wp2_with fail
    go_ret
    exact ⟨by unfold shMay; rw [if_pos HY.out]; rfl, rfl⟩
  | false =>
    have HY := Lib.hid hany
    clear hany
    by_cases h8 : 8 < n
    · have h8' : (8 : Int) < n := by omega
      go_wp2_with fail
      go_ret
      exact ⟨by unfold shMay; rw [if_neg (by rw [HY.out]; simp), if_pos (by rw [← HN.out]; exact h8)]; rfl, rfl⟩
    · have h8' : ¬ (8 : Int) < n := by omega
      have HM : Hid (shMay l = mayGo 1 l) := Lib.hid (by unfold shMay; rw [if_neg (by rw [HY.out]; simp), if_neg (by rw [← HN.out]; exact h8)])
      have HP : Hid (∀ k ∈ l, 0 ≤ k) := Lib.hid (fun k hk => by
        have h := HY.out
        rw [List.any_eq_false] at h
        have := h k hk
        simp only [decide_eq_true_eq] at this
        omega)
      go_wp2_with fail
      go_loopw [3, 13] (fun v3 v13 wr => ∃ (i : Nat) (m : Int), i ≤ n ∧ v13 = .int .i64 i ∧ v3 = .int .i64 m ∧ 1 ≤ m ∧ m ≤ 4096 ∧ Hid (mayGo 1 l = mayGo m (l.drop i)) ∧ wr = w1) (fun _ v13 _ => n - (intOf v13).toNat)
      case atStart => exact ⟨0, 1, Nat.zero_le _, rfl, rfl, by omega, by omega, Lib.hid rfl, rfl⟩
      case round =>
        obtain ⟨i, m, hi, rfl, rfl, hm1, hm2, HG, rfl⟩ := hrel
        by_cases hlt : i < n
        · have hlt' : i < l.length := by rw [← HN.out]; exact hlt
          obtain ⟨x, hx⟩ : ∃ x, l[i]? = some x := ⟨_, List.getElem?_eq_getElem hlt'⟩
          obtain ⟨b, off, rfl, hbl, kc⟩ := HA.out i x hx
          have hx0 : 0 ≤ x := HP.out x (List.mem_of_getElem? hx)
          have hx1 : x ≤ 9223372036854775807 := (HL.out x (List.mem_of_getElem? hx)).2
          have hdr : l.drop i = x :: l.drop (i + 1) := by
            rw [List.drop_eq_getElem_cons hlt']
            congr 1
            rw [List.getElem?_eq_getElem hlt'] at hx
            exact Option.some.inj hx
          have HD : Hid (mayGo 1 l = if 4096 < x then 17 else if 4096 < m * max x 1 then 17 else mayGo (m * max x 1) (l.drop (i + 1))) := Lib.hid (by rw [HG.out, hdr]; rfl)
          clear hdr hx hlt' hbl
          by_cases hb : 4096 < x
          · go_wp2_with fail
            go_ret
            exact ⟨by rw [HM.out, HD.out, if_pos hb]; rfl, rfl⟩
          · have hy1 : 1 ≤ max x 1 := by omega
            have hy2 : max x 1 ≤ 4096 := by omega
            have hmy1 : 1 ≤ m * max x 1 := by have := Int.mul_le_mul hm1 hy1 (by omega) (by omega); omega
            have hmy2 : m * max x 1 ≤ 4096 * 4096 := Int.mul_le_mul hm2 hy2 (by omega) (by omega)
            have hwr : wrap64 (m * max x 1) = m * max x 1 := IntWalk.wrap64_in _ (by omega)
            have HMY := Lib.hid hmy1
            have HBX := Lib.hid hb
            clear hy1 hy2 hmy1 hmy2
            by_cases hb2 : 4096 < m * max x 1
            · go_wp2_with fail
              go_ret
              exact ⟨by rw [HM.out, HD.out, if_neg (by have := HBX.out; omega), if_pos hb2]; rfl, rfl⟩
            · have HB2 := Lib.hid hb2
              go_wp2_with fail
              exact ⟨⟨i + 1, m * max x 1, by omega, by go_num, by rw [hwr], HMY.out, by omega, Lib.hid (by rw [HD.out, if_neg (by have := HBX.out; omega), if_neg (by have := HB2.out; omega)]), trivial⟩, by simp [intOf]; omega⟩
        · obtain rfl : i = n := by omega
          have hge : ¬ (i : Int) < i := by omega
          go_wp2_with fail
          go_ret
          refine ⟨?_, rfl⟩
          have hg := HG.out
          rw [HN.out, List.drop_length] at hg
          rw [HM.out, hg]
          rfl

set_option maxHeartbeats 4000000 in
set_option maxRecDepth 100000 in
theorem count_any (A : Option Addr) (cp : Nat) (l : List Int) (w : World) (hA : IntsAt w A l) (hl : All64 l) (hn : l.length ≤ 4611686018427387904) (hm : shMay l = 0) :
    Calls Tryd.prog 73 #[.slice A l.length cp] w fun e w' => e = .returned (.int .i64 (places l)) ∧ w' = w := by
  have HA := Lib.hid hA
  have HL := Lib.hid hl
  have HM := Lib.hid hm
  clear hA hl hm
  obtain ⟨n, hln⟩ : ∃ n, n = l.length := ⟨_, rfl⟩
  have HN := Lib.hid hln
  rw [← hln] at hn ⊢
  clear hln
  go_enter Tryd.func73, Tryd.ntmps73
  go_wp2_with fail
  go_loopw [3, 8] (fun v3 v8 wr => ∃ (i : Nat) (m : Int), i ≤ n ∧ v8 = .int .i64 i ∧ v3 = .int .i64 m ∧ Hid (m = (l.take i).foldl (· * ·) 1) ∧ wr = w) (fun _ v8 _ => n - (intOf v8).toNat)
  case atStart => exact ⟨0, 1, Nat.zero_le _, rfl, rfl, Lib.hid rfl, rfl⟩
  case round =>
    obtain ⟨i, m, hi, rfl, rfl, HG, rfl⟩ := hrel
    by_cases hlt : i < n
    · obtain ⟨x, hx⟩ : ∃ x, l[i]? = some x := ⟨_, List.getElem?_eq_getElem (by rw [← HN.out]; exact hlt)⟩
      obtain ⟨b, off, rfl, hbl, kc⟩ := HA.out i x hx
      have hst : (l.take (i + 1)).foldl (· * ·) 1 = m * x := by rw [take_snoc hx, List.foldl_append, ← HG.out]; rfl
      have hb := places_bound HM.out (i + 1)
      rw [hst] at hb
      have hwr : wrap64 (m * x) = m * x := IntWalk.wrap64_in _ (by omega)
      have HST := Lib.hid hst
      clear hx hbl hst hb
      go_wp2_with fail
      exact ⟨⟨i + 1, m * x, by omega, by go_num, by rw [hwr], Lib.hid HST.out.symm, by trivial⟩, by simp [intOf]; omega⟩
    · obtain rfl : i = n := by omega
      have hge : ¬ (i : Int) < i := by omega
      go_wp2_with fail
      go_ret
      refine ⟨?_, rfl⟩
      have hg := HG.out
      rw [HN.out, List.take_length] at hg
      rw [hg]
      rfl

set_option maxHeartbeats 4000000 in
set_option maxRecDepth 100000 in
theorem size_any (A : Option Addr) (cp : Nat) (l : List Int) (w : World) (hA : IntsAt w A l) (hl : All64 l) (hn : l.length ≤ 4611686018427387904) :
    Calls Tryd.prog 41 #[.slice A l.length cp] w fun e w' => e = .returned (.tuple #[.int .i64 (shSize l), .int .i64 (shMay l)]) ∧ w' = w := by
  have HM := Lib.hid (shapeMay_any A cp l w hA hl hn)
  have HC := Lib.hid (count_any A cp l w hA hl hn)
  clear hA hl
  go_enter Tryd.func41, Tryd.ntmps41
  go_wp2_with fail
  refine HM.out.mono ?_
  rintro e w1 ⟨rfl, rfl⟩
  by_cases h0 : shMay l = 0
  · have hs : shSize l = places l := by unfold shSize; rw [if_pos h0]
    have HC' := Lib.hid (HC.out h0)
    have HS := Lib.hid hs
    have H0 := Lib.hid h0
    clear hs
    rw [h0]
    clear h0
    go_wp2_with fail
    refine HC'.out.mono ?_
    rintro e w2 ⟨rfl, rfl⟩
    go_wp2_with fail
    go_ret2
    exact ⟨by rw [HS.out, H0.out]; rfl, rfl⟩
  · have hs : shSize l = 0 := by unfold shSize; rw [if_neg h0]
    have hb : (shMay l == 0) = false := by simpa using h0
    have HS := Lib.hid hs
    clear hs
    go_wp2_with fail
    go_ret2
    exact ⟨by rw [HS.out]; rfl, rfl⟩
/-- arr.May of an array -/
theorem arMay_eq (s a : List Int) (h : shMay s ≠ 0) : arMay s a = shMay s := by unfold arMay; rw [if_neg (fun x => h x.1)]

set_option maxHeartbeats 4000000 in
set_option maxRecDepth 100000 in
theorem arrMay_any (A B : Option Addr) (cp cq : Nat) (s a : List Int) (w : World) (hA : IntsAt w A s) (hl : All64 s) (hn : s.length ≤ 4611686018427387904) :
    Calls Tryd.prog 14 #[.agg #[.slice A s.length cp, .slice B a.length cq]] w fun e w' => e = .returned (.int .i64 (arMay s a)) ∧ Below w.heap.size w w' := by
  have HA := Lib.hid hA
  have HL := Lib.hid hl
  clear hA hl
  go_enter Tryd.func14, Tryd.ntmps14
  go_wp2_with fail
  have hb1 : Below w.heap.size w (w.alloc (.cells #[.slice A s.length cp, .slice B a.length cq] 36)) := (Below.refl _ _).alloc (Nat.le_refl _) _
  have HB1 := Lib.hid hb1
  clear hb1
  refine (size_any A cp s _ (HA.out.on HB1.out) HL.out hn).mono ?_
  rintro e w1 ⟨rfl, rfl⟩
  by_cases h0 : shMay s = 0
  · have hs : shSize s = places s := by unfold shSize; rw [if_pos h0]
    have H0 := Lib.hid h0
    rw [h0, hs]
    clear h0 hs
    by_cases hp : places s = a.length
    · have hb : (places s != (a.length : Int)) = false := by simp [hp]
      have HM : Hid (arMay s a = 0) := Lib.hid (by unfold arMay; rw [if_neg (fun x => x.2 hp)]; exact H0.out)
      clear hp
      go_wp2_with fail
      go_ret
      exact ⟨by rw [HM.out]; rfl, HB1.out⟩
    · have hb : (places s != (a.length : Int)) = true := by simpa using hp
      have HM : Hid (arMay s a = 1) := Lib.hid (by unfold arMay; rw [if_pos ⟨H0.out, hp⟩])
      clear hp
      go_wp2_with fail
      go_ret
      exact ⟨by rw [HM.out]; rfl, HB1.out⟩
  · have hb : (shMay s == 0) = false := by simpa using h0
    have HM : Hid (arMay s a = shMay s) := Lib.hid (arMay_eq s a h0)
    clear h0
    go_wp2_with fail
    go_ret
    exact ⟨by rw [HM.out]; rfl, HB1.out⟩
end Go.Proofs.YtpipcpjkfgdpcaaDoor
