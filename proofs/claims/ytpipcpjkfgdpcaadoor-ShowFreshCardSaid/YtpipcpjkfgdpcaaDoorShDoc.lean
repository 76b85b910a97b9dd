/- The document's own answer: abacusref2.May, Count, Size, abacusref4.May. No condition but 2^62 lengths. · Digits of one length, compared as texts and as numbers. No condition. · abacusref10.digit, scanned. Condition: the text is at most 2^20 bytes. · abacusref10.words. Condition: the text is at most 2^20 bytes. · abacusref10.Read. No condition. -/
import Derived.Test.YtpipcpjkfgdpcaaDoorShRead0
import Derived.Test.YtpipcpjkfgdpcaaDoorShSpec
import Derived.Deep.CutBlock
import Derived.Outline
import Derived.WalkSpells
import Derived.WalkLawsBesides
import Derived.Maps.AppendAt
import Derived.Deep.CutRange
import Derived.Deep.AppendLies
import Derived.Deep.RegionLaw
namespace Go.Proofs.YtpipcpjkfgdpcaaDoor
open Go.RowKit

/-- abacusref2.May's second loop -/
def refGo : Nat → List Int → Int
  | _, [] => 0
  | l, k :: r => if (if 0 < k then l / k.toNat else l) = 0 then 17 else refGo (if 0 < k then l / k.toNat else l) r
theorem refGo_eq : ∀ (s : List Int) (n : Nat), 1 ≤ n → n ≤ 4096 → refGo (4096 / n) s = mayGo n s
  | [], _, _, _ => rfl
  | k :: r, n, h1, h2 => by
    have hd : (if 0 < k then 4096 / n / k.toNat else 4096 / n) = 4096 / (n * (max k 1).toNat) := by
      by_cases hk : 0 < k
      · rw [if_pos hk, Nat.div_div_eq_div_mul, Int.max_eq_left (by omega)]
      · rw [if_neg hk, Int.max_eq_right (by omega)]
        simp
    have hm : ((n * (max k 1).toNat : Nat) : Int) = n * max k 1 := by
      rw [Int.natCast_mul, Int.toNat_of_nonneg (by omega)]
    have hpos : 1 ≤ n * (max k 1).toNat := Nat.mul_pos h1 (by omega)
    unfold refGo mayGo
    rw [hd]
    by_cases hbig : 4096 < n * (max k 1).toNat
    · rw [if_pos (Nat.div_eq_of_lt hbig), if_pos (show (4096 : Int) < n * max k 1 by rw [← hm]; omega)]
      split <;> rfl
    · have h0 : ¬ 4096 / (n * (max k 1).toNat) = 0 := by
        have := (Nat.one_le_div_iff (by omega)).2 (Nat.le_of_not_lt hbig)
        omega
      have hk : ¬ 4096 < k := by
        intro hk
        have h3 : 1 * (max k 1).toNat ≤ n * (max k 1).toNat := Nat.mul_le_mul_right _ h1
        omega
      rw [if_neg h0, if_neg hk, if_neg (show ¬ (4096 : Int) < n * max k 1 by rw [← hm]; omega), ← hm]
      exact refGo_eq r _ hpos (by omega)

set_option maxHeartbeats 4000000 in
set_option maxRecDepth 100000 in
theorem refMay_any (A : Option Addr) (cp : Nat) (l : List Int) (w : World) (hA : IntsAt w A l) (hl : All64 l) (hn : l.length ≤ 4611686018427387904) :
    Calls Tryd.prog 76 #[.slice A l.length cp] w fun e w' => e = .returned (.int .i64 (shMay l)) ∧ w' = w := by
  have HA := Lib.hid hA
  have HL := Lib.hid hl
  clear hA hl
  obtain ⟨n, hln⟩ : ∃ n, n = l.length := ⟨_, rfl⟩
  have HN := Lib.hid hln
  rw [← hln] at hn ⊢
  clear hln
  go_enter Tryd.func76, Tryd.ntmps76
  go_wp2_with fail
  go_loopw [3] (fun v3 wr => ∃ i : Nat, i ≤ n ∧ v3 = .int .i64 i ∧ Hid (∀ x ∈ l.take i, 0 ≤ x) ∧ wr = w) (fun v3 _ => n - (intOf v3).toNat)
  case atStart => exact ⟨0, Nat.zero_le _, rfl, Lib.hid (fun x hx => by simp at hx), rfl⟩
  case round =>
    obtain ⟨i, hi, rfl, HPre, rfl⟩ := hrel
    by_cases hlt : i < n
    · obtain ⟨x, hx⟩ : ∃ x, l[i]? = some x := ⟨_, List.getElem?_eq_getElem (by rw [← HN.out]; exact hlt)⟩
      obtain ⟨b, off, rfl, hbl, kc⟩ := HA.out i x hx
      have HX := Lib.hid hx
      clear hx hbl
      by_cases hx0 : x < 0
      · go_wp2_with fail
        go_ret
        refine ⟨?_, rfl⟩
        have : shMay l = 1 := by unfold shMay; rw [if_pos (List.any_eq_true.2 ⟨x, List.mem_of_getElem? HX.out, by simpa using hx0⟩)]
        rw [this]
        rfl
      · go_wp2_with fail
        refine ⟨⟨i + 1, by omega, by go_num, Lib.hid fun y hy => ?_, by trivial⟩, by simp [intOf]; omega⟩
        rw [take_snoc HX.out] at hy
        rcases List.mem_append.1 hy with hy | hy
        · exact HPre.out y hy
        · simp only [List.mem_cons, List.not_mem_nil, or_false] at hy
          subst hy
          omega
    · obtain rfl : i = n := by omega
      have hge : ¬ (i : Int) < i := by omega
      have HNN : Hid (∀ x ∈ l, 0 ≤ x) := Lib.hid (by have h := HPre.out; rw [HN.out, List.take_length] at h; exact h)
      have HAny : Hid (¬ (l.any fun k => decide (k < 0)) = true) := Lib.hid (by
        intro h
        obtain ⟨x, hx, h⟩ := List.any_eq_true.1 h
        have := HNN.out x hx
        simp only [decide_eq_true_eq] at h
        omega)
      by_cases h8 : 8 < i
      · have h8' : (8 : Int) < i := by omega
        go_wp2_with fail
        go_ret
        refine ⟨?_, rfl⟩
        have : shMay l = 17 := by unfold shMay; rw [if_neg HAny.out, if_pos (by rw [← HN.out]; exact h8)]
        rw [this]
        rfl
      · have h8' : ¬ (8 : Int) < i := by omega
        have HM : Hid (shMay l = refGo 4096 l) := Lib.hid (by unfold shMay; rw [if_neg HAny.out, if_neg (by rw [← HN.out]; exact h8)]; exact (refGo_eq l 1 (by decide) (by decide)).symm)
        go_wp2_with fail
        obtain ⟨W1, hW1⟩ : ∃ W1, W1 = wr := ⟨_, rfl⟩
        subst hW1
        go_loopw [4, 5] (fun v4 v5 wx => ∃ (j L : Nat), j ≤ i ∧ v5 = .int .i64 j ∧ v4 = .int .i64 L ∧ 1 ≤ L ∧ L ≤ 4096 ∧ Hid (shMay l = refGo L (l.drop j)) ∧ wx = W1) (fun _ v5 _ => i - (intOf v5).toNat)
        case atStart => exact ⟨0, 4096, Nat.zero_le _, rfl, rfl, by decide, by decide, HM, rfl⟩
        case round =>
          obtain ⟨j, L, hj, rfl, rfl, hL1, hL2, HG, rfl⟩ := hrel
          by_cases hjl : j < i
          · have hjl' : j < l.length := by rw [← HN.out]; exact hjl
            obtain ⟨x, hx⟩ : ∃ x, l[j]? = some x := ⟨_, List.getElem?_eq_getElem hjl'⟩
            obtain ⟨b, off, rfl, hbl, kc⟩ := HA.out j x hx
            have hx1 : x ≤ 9223372036854775807 := (HL.out x (List.mem_of_getElem? hx)).2
            have hdr : l.drop j = x :: l.drop (j + 1) := by
              rw [List.drop_eq_getElem_cons hjl']
              congr 1
              rw [List.getElem?_eq_getElem hjl'] at hx
              exact Option.some.inj hx
            have HD : Hid (shMay l = if (if 0 < x then L / x.toNat else L) = 0 then 17 else refGo (if 0 < x then L / x.toNat else L) (l.drop (j + 1))) := Lib.hid (by rw [HG.out, hdr]; rfl)
            clear hdr hx hjl' hbl
            by_cases hxp : 0 < x
            · obtain ⟨m, rfl⟩ : ∃ m : Nat, x = m := ⟨x.toNat, by omega⟩
              have hqm : ((L : Int) / (m : Int)) = ((L / m : Nat) : Int) := by simp
              have HD2 : Hid (shMay l = if L / m = 0 then 17 else refGo (L / m) (l.drop (j + 1))) := Lib.hid (by have h := HD.out; rw [if_pos hxp] at h; simpa using h)
              have hle : L / m ≤ L := Nat.div_le_self _ _
              have hmne : ¬ m = 0 := by omega
              generalize L / m = d at hqm HD2 hle
              have hwd : wrap64 (d : Int) = d := IntWalk.wrap64_in _ (by omega)
              by_cases hd0 : d = 0
              · subst hd0
                go_wp2_with fail
                go_ret
                refine ⟨?_, rfl⟩
                rw [HD2.out]
                rfl
              · have hdb : ((d : Int) == 0) = false := beq_eq_false_iff_ne.2 (by omega)
                have HD3 : Hid (shMay l = refGo d (l.drop (j + 1))) := Lib.hid (by have h := HD2.out; rw [if_neg hd0] at h; exact h)
                go_wp2_with fail
                refine ⟨⟨j + 1, d, by omega, by go_num, by first | rfl | rw [hqm, hwd], by omega, by omega, HD3, by trivial⟩, by simp [intOf]; omega⟩
            · have hdb : ((L : Int) == 0) = false := beq_eq_false_iff_ne.2 (by omega)
              have HD3 : Hid (shMay l = refGo L (l.drop (j + 1))) := Lib.hid (by have h := HD.out; rw [if_neg hxp, if_neg (by omega)] at h; exact h)
              go_wp2_with fail
              exact ⟨⟨j + 1, L, by omega, by go_num, rfl, by omega, by omega, HD3, by trivial⟩, by simp [intOf]; omega⟩
          · obtain rfl : j = i := by omega
            have hge : ¬ (j : Int) < j := by omega
            go_wp2_with fail
            go_ret
            refine ⟨?_, rfl⟩
            have hg := HG.out
            rw [HN.out, List.drop_length] at hg
            rw [hg]
            rfl

set_option maxHeartbeats 4000000 in
set_option maxRecDepth 100000 in
theorem refCount_any (A : Option Addr) (cp : Nat) (l : List Int) (w : World) (hA : IntsAt w A l) (hn : l.length ≤ 4611686018427387904) (hm : shMay l = 0) :
    Calls Tryd.prog 77 #[.slice A l.length cp] w fun e w' => e = .returned (.int .i64 (places l)) ∧ w' = w := by
  have HA := Lib.hid hA
  have HM := Lib.hid hm
  clear hA hm
  obtain ⟨n, hln⟩ : ∃ n, n = l.length := ⟨_, rfl⟩
  have HN := Lib.hid hln
  rw [← hln] at hn ⊢
  clear hln
  go_enter Tryd.func77, Tryd.ntmps77
  go_wp2_with fail
  go_loopw [3, 4] (fun v3 v4 wr => ∃ (i : Nat) (m : Int), i ≤ n ∧ v4 = .int .i64 i ∧ v3 = .int .i64 m ∧ Hid (m = (l.take i).foldl (· * ·) 1) ∧ wr = w) (fun _ v4 _ => n - (intOf v4).toNat)
  case atStart => exact ⟨0, 1, Nat.zero_le _, rfl, rfl, Lib.hid rfl, rfl⟩
  case round =>
    obtain ⟨i, m, hi, rfl, rfl, HG, rfl⟩ := hrel
    by_cases hlt : i < n
    · obtain ⟨x, hx⟩ : ∃ x, l[i]? = some x := ⟨_, List.getElem?_eq_getElem (by rw [← HN.out]; exact hlt)⟩
      obtain ⟨b, off, rfl, hbl, kc⟩ := HA.out i x hx
      have hst : (l.take (i + 1)).foldl (· * ·) 1 = m * x := by rw [take_snoc hx, List.foldl_append, ← HG.out]; rfl
      have hb := places_bound HM.out (i + 1)
      rw [hst] at hb
      have hwr : wrap64 (m * x) = m * x := IntWalk.wrap64_in _ (by omega)
      have HST := Lib.hid hst
      clear hx hbl hst hb
      go_wp2_with fail
      exact ⟨⟨i + 1, m * x, by omega, by go_num, by rw [hwr], Lib.hid HST.out.symm, by trivial⟩, by simp [intOf]; omega⟩
    · obtain rfl : i = n := by omega
      have hge : ¬ (i : Int) < i := by omega
      go_wp2_with fail
      go_ret
      refine ⟨?_, rfl⟩
      have hg := HG.out
      rw [HN.out, List.take_length] at hg
      rw [hg]
      rfl

set_option maxHeartbeats 4000000 in
set_option maxRecDepth 100000 in
theorem refSize_any (A : Option Addr) (cp : Nat) (l : List Int) (w : World) (hA : IntsAt w A l) (hl : All64 l) (hn : l.length ≤ 4611686018427387904) :
    Calls Tryd.prog 46 #[.slice A l.length cp] w fun e w' => e = .returned (.tuple #[.int .i64 (shSize l), .int .i64 (shMay l)]) ∧ w' = w := by
  have HM := Lib.hid (refMay_any A cp l w hA hl hn)
  have HC := Lib.hid (refCount_any A cp l w hA hn)
  clear hA hl
  go_enter Tryd.func46, Tryd.ntmps46
  go_wp2_with fail
  refine HM.out.mono ?_
  rintro e w1 ⟨rfl, rfl⟩
  by_cases h0 : shMay l = 0
  · have hs : shSize l = places l := by unfold shSize; rw [if_pos h0]
    have HC' := Lib.hid (HC.out h0)
    have HS := Lib.hid hs
    have H0 := Lib.hid h0
    clear hs
    rw [h0]
    clear h0
    go_wp2_with fail
    refine HC'.out.mono ?_
    rintro e w2 ⟨rfl, rfl⟩
    go_wp2_with fail
    go_ret2
    exact ⟨by rw [HS.out, H0.out]; rfl, rfl⟩
  · have hs : shSize l = 0 := by unfold shSize; rw [if_neg h0]
    have hb : (shMay l != 0) = true := by simpa using h0
    have HS := Lib.hid hs
    clear hs
    go_wp2_with fail
    go_ret2
    exact ⟨by rw [HS.out]; rfl, rfl⟩
theorem arMay_iff (s a : List Int) : arMay s a = 0 ↔ shMay s = 0 ∧ places s = a.length := by
  unfold arMay
  constructor
  · intro h
    split at h
    · cases h
    · rename_i hh
      exact ⟨h, Classical.byContradiction fun hc => hh ⟨h, hc⟩⟩
  · rintro ⟨h1, h2⟩
    rw [if_neg (fun x => x.2 h2), h1]

set_option maxHeartbeats 4000000 in
set_option maxRecDepth 100000 in
theorem refMay4_any (A B : Option Addr) (cp cq : Nat) (s a : List Int) (w : World) (hA : IntsAt w A s) (hl : All64 s) (hn : s.length ≤ 4611686018427387904) :
    Calls Tryd.prog 60 #[.agg #[.slice A s.length cp, .slice B a.length cq]] w fun e w' => e = .returned (.bool (decide (arMay s a = 0))) ∧ Below w.heap.size w w' := by
  have HA := Lib.hid hA
  have HL := Lib.hid hl
  have HI := Lib.hid (arMay_iff s a)
  clear hA hl
  go_enter Tryd.func60, Tryd.ntmps60
  go_wp2_with fail
  have hb1 : Below w.heap.size w (w.alloc (.cells #[.slice A s.length cp, .slice B a.length cq] 36)) := (Below.refl _ _).alloc (Nat.le_refl _) _
  have HB1 := Lib.hid hb1
  obtain ⟨x0, x1⟩ := heap2 (heap_alloc_new w (.cells #[.slice A s.length cp, .slice B a.length cq] 36))
  clear hb1
  refine (refSize_any A cp s _ (HA.out.on HB1.out) HL.out hn).mono ?_
  rintro e w1 ⟨rfl, rfl⟩
  by_cases h0 : shMay s = 0
  · have hs : shSize s = places s := by unfold shSize; rw [if_pos h0]
    have H0 := Lib.hid h0
    rw [h0, hs]
    clear h0 hs
    by_cases hp : places s = a.length
    · have hb : (places s == (a.length : Int)) = true := by simp [hp]
      have HM : Hid (arMay s a = 0) := Lib.hid (HI.out.2 ⟨H0.out, hp⟩)
      clear hp
      go_wp2_with fail
      go_ret
      exact ⟨by rw [HM.out]; rfl, HB1.out⟩
    · have hb : (places s == (a.length : Int)) = false := by simpa using hp
      have HM : Hid (arMay s a ≠ 0) := Lib.hid (fun h => hp (HI.out.1 h).2)
      clear hp
      go_wp2_with fail
      go_ret
      exact ⟨congrArg (fun b => Ending.returned (.bool b)) (decide_eq_false HM.out).symm, HB1.out⟩
  · have hb : (shMay s == 0) = false := by simpa using h0
    have HM : Hid (arMay s a ≠ 0) := Lib.hid (fun h => h0 (HI.out.1 h).1)
    clear h0
    go_wp2_with fail
    go_ret
    exact ⟨congrArg (fun b => Ending.returned (.bool b)) (decide_eq_false HM.out).symm, HB1.out⟩
end Go.Proofs.YtpipcpjkfgdpcaaDoor

namespace Go.Proofs.YtpipcpjkfgdpcaaDoor
open Go.RowKit

abbrev val (n : Nat) (D : List UInt8) : Nat := D.foldl stepD n
theorem dig_iff (x : UInt8) : isDig x = true ↔ 48 ≤ x.toNat ∧ x.toNat ≤ 57 := by simp [isDig]
theorem val_ub : ∀ (D : List UInt8) (p : Nat), (∀ x ∈ D, isDig x = true) → val p D < (p + 1) * 10 ^ D.length
  | [], p, _ => by simp
  | x :: r, p, h => by
    have h1 := (dig_iff x).1 (h x (by simp))
    have ih := val_ub r (p * 10 + (x.toNat - 48)) fun y hy => h y (by simp [hy])
    have h2 : (p * 10 + (x.toNat - 48) + 1) * 10 ^ r.length ≤ ((p + 1) * 10) * 10 ^ r.length := Nat.mul_le_mul_right _ (by omega)
    rw [List.length_cons, Nat.pow_succ, Nat.mul_comm (10 ^ r.length) 10, ← Nat.mul_assoc]
    exact Nat.lt_of_lt_of_le ih h2
theorem val_lb : ∀ (D : List UInt8) (p : Nat), p * 10 ^ D.length ≤ val p D
  | [], p => by simp
  | x :: r, p => by
    have ih := val_lb r (p * 10 + (x.toNat - 48))
    have h2 : (p * 10) * 10 ^ r.length ≤ (p * 10 + (x.toNat - 48)) * 10 ^ r.length := Nat.mul_le_mul_right _ (by omega)
    rw [List.length_cons, Nat.pow_succ, Nat.mul_comm (10 ^ r.length) 10, ← Nat.mul_assoc]
    exact Nat.le_trans h2 ih
theorem val_lt : ∀ (x y : List UInt8) (p q : Nat), x.length = y.length → (∀ z ∈ x, isDig z = true) → (∀ z ∈ y, isDig z = true) → p < q → val p x < val q y
  | x, y, p, q, hl, hx, _, h => by
    have h1 := val_ub x p hx
    have h2 := val_lb y q
    rw [← hl] at h2
    exact Nat.lt_of_lt_of_le h1 (Nat.le_trans (Nat.mul_le_mul_right _ h) h2)
theorem val_cmp : ∀ (x y : List UInt8) (p : Nat), x.length = y.length → (∀ z ∈ x, isDig z = true) → (∀ z ∈ y, isDig z = true) → (Op.bytesLess x y || x == y) = decide (val p x ≤ val p y)
  | [], [], p, _, _, _ => by simp
  | [], _ :: _, _, h, _, _ => by simp at h
  | _ :: _, [], _, h, _, _ => by simp at h
  | a :: x, b :: y, p, hl, hx, hy => by
    have ha := (dig_iff a).1 (hx a (by simp))
    have hb := (dig_iff b).1 (hy b (by simp))
    have hl' : x.length = y.length := by simpa using hl
    have hx' : ∀ z ∈ x, isDig z = true := fun z hz => hx z (by simp [hz])
    have hy' : ∀ z ∈ y, isDig z = true := fun z hz => hy z (by simp [hz])
    have ih := val_cmp x y (p * 10 + (a.toNat - 48)) hl' hx' hy'
    show ((a < b || (a == b && Op.bytesLess x y)) || (a :: x == b :: y)) = decide (val (p * 10 + (a.toNat - 48)) x ≤ val (p * 10 + (b.toNat - 48)) y)
    rcases Nat.lt_trichotomy a.toNat b.toNat with h | h | h
    · have h1 : decide (a < b) = true := decide_eq_true (UInt8.lt_iff_toNat_lt.2 h)
      have h2 := val_lt x y (p * 10 + (a.toNat - 48)) (p * 10 + (b.toNat - 48)) hl' hx' hy' (by omega)
      rw [h1, decide_eq_true (Nat.le_of_lt h2)]
      rfl
    · have hab : a = b := UInt8.toNat_inj.1 h
      subst hab
      have h1 : decide (a < a) = false := decide_eq_false (fun h => by have := UInt8.lt_iff_toNat_lt.1 h; omega)
      rw [← ih, h1]
      simp
    · have h1 : decide (a < b) = false := decide_eq_false (fun h' => by have := UInt8.lt_iff_toNat_lt.1 h'; omega)
      have h2 : (a == b) = false := beq_eq_false_iff_ne.2 (fun e => by subst e; omega)
      have h3 := val_lt y x (p * 10 + (b.toNat - 48)) (p * 10 + (a.toNat - 48)) hl'.symm hy' hx' (by omega)
      rw [h1, h2, decide_eq_false (by omega)]
      simp only [Bool.false_and, Bool.or_false, Bool.false_or]
      exact beq_eq_false_iff_ne.2 (fun e => by injection e with e _; subst e; simp at h2)
abbrev mostOf (b : Bool) : List UInt8 := if b then [57, 50, 50, 51, 51, 55, 50, 48, 51, 54, 56, 53, 52, 55, 55, 53, 56, 48, 56] else [57, 50, 50, 51, 51, 55, 50, 48, 51, 54, 56, 53, 52, 55, 55, 53, 56, 48, 55]
abbrev limOf (b : Bool) : Nat := if b then 9223372036854775808 else 9223372036854775807
theorem most_val (b : Bool) : val 0 (mostOf b) = limOf b := by cases b <;> decide +kernel
theorem most_dig (b : Bool) : ∀ x ∈ mostOf b, isDig x = true := by cases b <;> decide +kernel
theorem most_len (b : Bool) : (mostOf b).length = 19 := by cases b <;> rfl
theorem lim_cases (b : Bool) : limOf b = 9223372036854775807 ∨ limOf b = 9223372036854775808 := by cases b; exact .inl rfl; exact .inr rfl
theorem big_more {b : Bool} {x : UInt8} {r : List UInt8} (hd : ∀ z ∈ x :: r, isDig z = true) (h1 : 19 < (x :: r).length) (h0 : x.toNat ≠ 48) : limOf b < val 0 (x :: r) := by
  have hx := (dig_iff x).1 (hd x (by simp))
  have h2 := val_lb r (0 * 10 + (x.toNat - 48))
  have h3 : 10 ^ 19 ≤ 10 ^ r.length := Nat.pow_le_pow_right (by decide) (by simp at h1; omega)
  have h4 : 1 * 10 ^ r.length ≤ (0 * 10 + (x.toNat - 48)) * 10 ^ r.length := Nat.mul_le_mul_right _ (by omega)
  have h5 : val 0 (x :: r) = val (0 * 10 + (x.toNat - 48)) r := rfl
  have h6 : (10 : Nat) ^ 19 = 10000000000000000000 := by decide
  rcases lim_cases b with h | h <;> omega
theorem big_less {b : Bool} {D : List UInt8} (hd : ∀ z ∈ D, isDig z = true) (h1 : D.length < 19) : ¬ limOf b < val 0 D := by
  have h2 := val_ub D 0 hd
  have h3 : 10 ^ D.length ≤ 10 ^ 18 := Nat.pow_le_pow_right (by decide) (by omega)
  have h6 : (10 : Nat) ^ 18 = 1000000000000000000 := by decide
  rcases lim_cases b with h | h <;> omega
theorem big_same {b : Bool} {D : List UInt8} (hd : ∀ z ∈ D, isDig z = true) (h1 : D.length = 19) : (!(Op.bytesLess D (mostOf b) || D == mostOf b)) = decide (limOf b < val 0 D) := by
  rw [val_cmp D (mostOf b) 0 (by rw [h1, most_len]) hd (most_dig b), most_val]
  by_cases h : val 0 D ≤ limOf b
  · rw [decide_eq_true h, decide_eq_false (by omega)]; rfl
  · rw [decide_eq_false h, decide_eq_true (by omega)]; rfl
/-- a run of digits, all of it -/
theorem num_run {t : List UInt8} {rec : Rec} {b : Bool} {f j k : Nat} {l a : List Int} {m : Int} (hjk : j < k) (hk : k ≤ t.length) (hd : ∀ q, j ≤ q → q < k → ∃ x, t[q]? = some x ∧ isDig x = true) (hmax : ∀ x, t[k]? = some x → isDig x = false)
    (hz : j + 2 ≤ k → t[j]? ≠ some 48) : numK t rec b f j l a m = finK t rec b (val 0 ((t.drop j).take (k - j))) f k l a m := by
  have hsplit : t.drop j = (t.drop j).take (k - j) ++ t.drop k := by
    have h := (List.take_append_drop (k - j) (t.drop j)).symm
    rw [List.drop_drop, show j + (k - j) = k by omega] at h
    exact h
  have hdig : ∀ x ∈ (t.drop j).take (k - j), isDig x = true := fun x hx => by
    obtain ⟨q, hq⟩ := List.getElem?_of_mem hx
    rw [List.getElem?_take] at hq
    split at hq
    · rw [List.getElem?_drop] at hq
      obtain ⟨y, hy, hyd⟩ := hd (j + q) (by omega) (by omega)
      rw [hy] at hq
      injection hq with hq
      subst hq
      exact hyd
    · cases hq
  have hnd : NoDig (t.drop k) := fun x r h => hmax x (by
    have h1 : (t.drop k)[0]? = some x := by rw [h]; rfl
    rwa [List.getElem?_drop, Nat.add_zero] at h1)
  obtain ⟨x0, hx0, hx0d⟩ := hd j (Nat.le_refl _) hjk
  unfold numK
  by_cases h48 : t[j]? = some 48
  · have hk1 : k = j + 1 := by
      have : ¬ j + 2 ≤ k := fun h => hz h h48
      omega
    rw [if_pos h48, hk1, Nat.add_sub_cancel_left]
    have hlt := (List.getElem?_eq_some_iff.1 h48).1
    have h1 : (t.drop j).take 1 = [48] := by
      rw [List.drop_eq_getElem_cons hlt]
      have h2 := h48
      rw [List.getElem?_eq_getElem hlt] at h2
      injection h2 with h2
      rw [h2]
      rfl
    rw [h1]
    rfl
  · rw [if_neg h48]
    unfold moreK
    have htw : (t.drop j).takeWhile isDig = (t.drop j).take (k - j) := by
      conv => lhs; rw [hsplit]
      exact take_digs hdig hnd
    rw [htw]
    have hlen : ((t.drop j).take (k - j)).length = k - j := by rw [List.length_take, List.length_drop]; omega
    rw [hlen, show j + (k - j) = k by omega]
/-- a run of digits in a text -/
abbrev runOf (t : List UInt8) (j k : Nat) : List UInt8 := (t.drop j).take (k - j)
theorem run_len {t : List UInt8} {j k : Nat} (h : j ≤ k) (hk : k ≤ t.length) : (runOf t j k).length = k - j := by rw [List.length_take, List.length_drop]; omega
theorem run_snoc {t : List UInt8} {j k : Nat} (h : j ≤ k) {x : UInt8} (hx : t[k]? = some x) : runOf t j (k + 1) = runOf t j k ++ [x] := by
  unfold runOf
  rw [show k + 1 - j = (k - j) + 1 by omega, List.take_add_one, List.getElem?_drop, show j + (k - j) = k by omega, hx]
  rfl
theorem run_dig {t : List UInt8} {j k : Nat} (hd : ∀ q, j ≤ q → q < k → ∃ x, t[q]? = some x ∧ isDig x = true) : ∀ x ∈ runOf t j k, isDig x = true := fun x hx => by
  obtain ⟨q, hq⟩ := List.getElem?_of_mem hx
  rw [List.getElem?_take] at hq
  split at hq
  · rw [List.getElem?_drop] at hq
    obtain ⟨y, hy, hyd⟩ := hd (j + q) (by omega) (by omega)
    rw [hy] at hq
    injection hq with hq
    subst hq
    exact hyd
  · cases hq
theorem val_snoc (D : List UInt8) (x : UInt8) (p : Nat) : val p (D ++ [x]) = val p D * 10 + (x.toNat - 48) := by unfold val; rw [List.foldl_append]; rfl
theorem val_mono (D E : List UInt8) (p : Nat) : val p D ≤ val p (D ++ E) := by
  unfold val
  rw [List.foldl_append]
  refine Nat.le_trans ?_ (val_lb E _)
  exact Nat.le_mul_of_pos_right _ (Nat.pow_pos (by decide))
end Go.Proofs.YtpipcpjkfgdpcaaDoor

namespace Go.Proofs.YtpipcpjkfgdpcaaDoor
open Go.RowKit

set_option maxHeartbeats 4000000 in
set_option maxRecDepth 100000 in
theorem digit_any (x : UInt8) (w : World) : Calls Tryd.prog 74 #[.int .u8 x.toNat] w fun e w' => e = .returned (.bool (isDig x)) ∧ w' = w := by
  go_enter Tryd.func74, Tryd.ntmps74
  by_cases h1 : 48 ≤ x.toNat
  · have h1' : (48 : Int) ≤ x.toNat := by omega
    by_cases h2 : x.toNat ≤ 57
    · have h2' : (x.toNat : Int) ≤ 57 := by omega
      have HD : Hid (isDig x = true) := Lib.hid ((dig_iff x).2 ⟨h1, h2⟩)
      go_wp2_with fail
      go_ret
      exact ⟨by rw [HD.out]; simp, rfl⟩
    · have h2' : ¬ (x.toNat : Int) ≤ 57 := by omega
      have HD : Hid (isDig x = false) := Lib.hid (by simp [isDig]; omega)
      go_wp2_with fail
      go_ret
      exact ⟨by rw [HD.out]; simp, rfl⟩
  · have h1' : ¬ (48 : Int) ≤ x.toNat := by omega
    have HD : Hid (isDig x = false) := Lib.hid (by simp [isDig]; omega)
    go_wp2_with fail
    go_ret
    exact ⟨by rw [HD.out]; simp, rfl⟩

/-- what scanned tells -/
def ScanPost (s : ByteArray) (i : Nat) (e : Ending) : Prop :=
  (∃ (n : Int) (k : Nat), e = .returned (.tuple #[.int .i64 n, .int .i64 k, .int .i64 0]) ∧ In64 n ∧ i < k ∧ k ≤ s.size ∧ ∀ rec l a m, wordK (lst s) rec i l a m = afterK (lst s) rec k (l ++ [n]) a m) ∨
  (∃ (err : Int) (k : Nat), e = .returned (.tuple #[.int .i64 0, .int .i64 k, .int .i64 err]) ∧ (err = 37 ∨ err = 30) ∧ ∀ rec l a m, wordK (lst s) rec i l a m = .bad err k)

set_option maxHeartbeats 2000000 in
set_option maxRecDepth 100000 in
theorem scanned_any (s : ByteArray) (i : Nat) (w : World) (hi : i < s.size) (hs : s.size ≤ 1048576) (hx : s[i].toNat = 95 ∨ (48 ≤ s[i].toNat ∧ s[i].toNat ≤ 57)) :
    Calls Tryd.prog 75 #[.string s, .int .i64 i] w fun e w' => ScanPost s i e ∧ w' = w := by
  have HX := Lib.hid hx
  clear hx
  go_enter Tryd.func75, Tryd.ntmps75
  have hii : (i : Int) < s.size := by omega
  go_upto_if 16 with fail
  go_cut [1] from 12 (fun v1 wx => (∃ (j : Nat) (b : Bool), v1 = .int .i64 j ∧ Hid (i ≤ j ∧ (b = true → j = i + 1) ∧ (b = false → j = i)) ∧ Hid (∃ h : j < s.size, isDig s[j] = true) ∧ Hid (b = true → ∃ h : j < s.size, 49 ≤ s[j].toNat) ∧ Hid (∀ rec l a m, wordK (lst s) rec i l a m = numK (lst s) rec b i j l a m)) ∧ wx = w)
  case first =>
    by_cases h95 : s[i].toNat = 95
    · have x95 : ((s[i].toNat : Int) == 95) = true := by simp [h95]
      have H95 := Lib.hid h95
      clear h95
      by_cases hlt : i + 1 < s.size
      · have hlti : (i : Int) + 1 < s.size := by omega
        have xe : ((i : Int) + 1 == s.size) = false := beq_eq_false_iff_ne.2 (by omega)
        by_cases h49 : s[i + 1].toNat < 49
        · have y49 : (s[i + 1].toNat : Int) < 49 := by omega
          have HB : Hid (∀ rec l a m, wordK (lst s) rec i l a m = .bad 37 ((i + 1 : Nat) : Int)) := Lib.hid fun rec l a m => (w_neg_bad (at_some hi) H95.out (fun y hy => by rw [at_some hlt] at hy; obtain rfl := Option.some.inj hy; omega)).trans (by rw [Int.natCast_add]; rfl)
          go_wp2_with fail
          refine bodyPost_ret (results_tmp3 rfl _ _ _) rfl ?_
          exact ⟨.inr ⟨37, i + 1, rfl, .inl rfl, HB.out⟩, rfl⟩
        · have y49 : ¬ (s[i + 1].toNat : Int) < 49 := by omega
          by_cases h57 : 57 < s[i + 1].toNat
          · have y57 : (57 : Int) < s[i + 1].toNat := by omega
            have HB : Hid (∀ rec l a m, wordK (lst s) rec i l a m = .bad 37 ((i + 1 : Nat) : Int)) := Lib.hid fun rec l a m => (w_neg_bad (at_some hi) H95.out (fun y hy => by rw [at_some hlt] at hy; obtain rfl := Option.some.inj hy; omega)).trans (by rw [Int.natCast_add]; rfl)
            go_wp2_with fail
            refine bodyPost_ret (results_tmp3 rfl _ _ _) rfl ?_
            exact ⟨.inr ⟨37, i + 1, rfl, .inl rfl, HB.out⟩, rfl⟩
          · have y57 : ¬ (57 : Int) < s[i + 1].toNat := by omega
            have HD : Hid (∃ h : i + 1 < s.size, isDig s[i + 1] = true) := Lib.hid ⟨hlt, (dig_iff _).2 ⟨by omega, by omega⟩⟩
            have HD2 : Hid (∃ h : i + 1 < s.size, 49 ≤ s[i + 1].toNat) := Lib.hid ⟨hlt, by omega⟩
            have HB : Hid (∀ rec l a m, wordK (lst s) rec i l a m = numK (lst s) rec true i (i + 1) l a m) := Lib.hid fun rec l a m => w_neg (at_some hi) H95.out (at_some hlt) ⟨by omega, by omega⟩
            go_wp2_with fail
            go_meet
            case rel => exact ⟨⟨i + 1, true, rfl, Lib.hid ⟨Nat.le_succ _, fun _ => rfl, fun h => (by cases h)⟩, HD, Lib.hid fun _ => HD2.out, HB⟩, rfl⟩
      · have xe : ((i : Int) + 1 == s.size) = true := by simp; omega
        have HB : Hid (∀ rec l a m, wordK (lst s) rec i l a m = .bad 37 ((i + 1 : Nat) : Int)) := Lib.hid fun rec l a m => (w_neg_bad (at_some hi) H95.out (fun y hy => by rw [at_none (by omega)] at hy; cases hy)).trans (by rw [Int.natCast_add]; rfl)
        go_wp2_with fail
        refine bodyPost_ret (results_tmp3 rfl _ _ _) rfl ?_
        exact ⟨.inr ⟨37, i + 1, rfl, .inl rfl, HB.out⟩, rfl⟩
    · have x95 : ((s[i].toNat : Int) == 95) = false := by simp; omega
      have hd : 48 ≤ s[i].toNat ∧ s[i].toNat ≤ 57 := by rcases HX.out with h | h; exact absurd h h95; exact h
      have HD : Hid (∃ h : i < s.size, isDig s[i] = true) := Lib.hid ⟨hi, (dig_iff _).2 hd⟩
      have HB : Hid (∀ rec l a m, wordK (lst s) rec i l a m = numK (lst s) rec false i i l a m) := Lib.hid fun rec l a m => w_num (at_some hi) hd
      clear h95 hd
      go_wp2_with fail
      go_meet
      case rel => exact ⟨⟨i, false, rfl, Lib.hid ⟨Nat.le_refl _, fun h => (by cases h), fun _ => rfl⟩, HD, Lib.hid fun h => (by cases h), HB⟩, rfl⟩
  obtain ⟨⟨j, b, rfl, HJ, HD0, HBD, HB⟩, rfl⟩ := hcut
  have hj : j < s.size := HD0.out.1
  have hij := HJ.out.1
  go_upto_block 0 with fail
  go_cut [1] from 12 (fun v1 wx => (∃ k : Nat, v1 = .int .i64 k ∧ Hid (j < k ∧ k ≤ s.size) ∧ Hid (∀ q, j ≤ q → q < k → ∃ x, (lst s)[q]? = some x ∧ isDig x = true) ∧ Hid (∀ x, (lst s)[k]? = some x → isDig x = false) ∧ Hid (j + 2 ≤ k → (lst s)[j]? ≠ some 48)) ∧ wx = wc)
  case first =>
    go_wp2_with fail
    go_loopw [1] (fun v1 wr => ∃ k : Nat, v1 = .int .i64 k ∧ j ≤ k ∧ k ≤ s.size ∧ Hid (∀ q, j ≤ q → q < k → ∃ x, (lst s)[q]? = some x ∧ isDig x = true) ∧ Hid (j + 2 ≤ k → (lst s)[j]? ≠ some 48) ∧ wr = wc) (fun v1 _ => s.size - (intOf v1).toNat)
    case atStart => exact ⟨j, rfl, Nat.le_refl _, by omega, Lib.hid fun q h1 h2 => by omega, Lib.hid fun h => by omega, rfl⟩
    case round =>
      obtain ⟨k, rfl, hjk, hks, HDG, HZ, rfl⟩ := hrel
      by_cases hlt : k < s.size
      · have hlti : (k : Int) < s.size := by omega
        cases hdg : isDig s[k] with
        | false =>
          have HJK : Hid (j < k) := Lib.hid (by
            rcases Nat.lt_or_ge j k with h | h
            · exact h
            · have : k = j := by omega
              subst this
              obtain ⟨_, h2⟩ := HD0.out
              rw [h2] at hdg
              cases hdg)
          have HMX : Hid (∀ x, (lst s)[k]? = some x → isDig x = false) := Lib.hid fun x hx => by rw [at_some hlt] at hx; obtain rfl := Option.some.inj hx; exact hdg
          have HDF := Lib.hid hdg
          clear hdg
          go_wp2_with fail
          refine (digit_any s[k] _).mono ?_
          rintro e w1 ⟨rfl, rfl⟩
          rw [HDF.out]
          go_wp2_with fail
          go_meet
          case rel => exact ⟨⟨k, rfl, Lib.hid ⟨HJK.out, by omega⟩, HDG, HMX, HZ⟩, rfl⟩
        | true =>
          have HDF := Lib.hid hdg
          clear hdg
          by_cases hjk2 : j < k
          · have hjki : (j : Int) < k := by omega
            by_cases h48 : s[j].toNat = 48
            · have x48 : ((s[j].toNat : Int) == 48) = true := by simp [h48]
              have HB2 : Hid (∀ rec l a m, wordK (lst s) rec i l a m = .bad 37 (k : Nat)) := Lib.hid fun rec l a m => by
                have hat : (lst s)[j]? = some 48 := by rw [at_some hj]; exact congrArg some (UInt8.toNat_inj.1 h48)
                have hk1 : k = j + 1 := by
                  have : ¬ j + 2 ≤ k := fun h => HZ.out h hat
                  omega
                have hbf : b = false := by
                  cases b with
                  | false => rfl
                  | true =>
                    obtain ⟨_, h49⟩ := HBD.out rfl
                    omega
                subst hk1
                rw [HB.out rec l a m, num_zero (at_some hj) h48]
                have hD := (dig_iff _).1 HDF.out
                rw [fin_ok (o := false) (n := 0) (.inl ⟨rfl, rfl⟩) ⟨rfl, fun _ => by omega, fun _ => by omega⟩]
                exact after_bad _ _ _ (by rw [len_data]; omega) (fun e => by rw [at_some hlt] at e; injection e with e; rw [e] at hD; simp at hD)
              clear h48
              go_wp2_with fail
              refine (digit_any s[k] _).mono ?_
              rintro e w1 ⟨rfl, rfl⟩
              rw [HDF.out]
              go_wp2_with fail
              refine bodyPost_ret (results_tmp3 rfl _ _ _) rfl ?_
              exact ⟨.inr ⟨37, k, rfl, .inl rfl, HB2.out⟩, rfl⟩
            · have x48 : ((s[j].toNat : Int) == 48) = false := by simp; omega
              have HZ2 : Hid ((lst s)[j]? ≠ some 48) := Lib.hid fun e => by rw [at_some hj] at e; injection e with e; rw [e] at h48; exact h48 rfl
              clear h48
              go_wp2_with fail
              refine (digit_any s[k] _).mono ?_
              rintro e w1 ⟨rfl, rfl⟩
              rw [HDF.out]
              go_wp2_with fail
              refine ⟨⟨k + 1, by go_num, by omega, by omega, Lib.hid fun q h1 h2 => ?_, Lib.hid fun _ => HZ2.out, by trivial⟩, by simp [intOf]; omega⟩
              by_cases hq : q = k
              · subst hq; exact ⟨_, at_some hlt, HDF.out⟩
              · exact HDG.out q h1 (by omega)
          · have hjki : ¬ (j : Int) < k := by omega
            obtain rfl : k = j := by omega
            go_wp2_with fail
            refine (digit_any s[k] _).mono ?_
            rintro e w1 ⟨rfl, rfl⟩
            rw [HDF.out]
            go_wp2_with fail
            refine ⟨⟨k + 1, by go_num, by omega, by omega, Lib.hid fun q h1 h2 => ?_, Lib.hid fun h => by omega, by trivial⟩, by simp [intOf]; omega⟩
            have hq : q = k := by omega
            subst hq
            exact ⟨_, at_some hlt, HDF.out⟩
      · have hlti : ¬ (k : Int) < s.size := by omega
        have HMX : Hid (∀ x, (lst s)[k]? = some x → isDig x = false) := Lib.hid fun x hx => by rw [at_none (by omega)] at hx; cases hx
        have HJK : Hid (j < k) := Lib.hid (by omega)
        go_wp2_with fail
        go_meet
        case rel => exact ⟨⟨k, rfl, Lib.hid ⟨HJK.out, by omega⟩, HDG, HMX, HZ⟩, rfl⟩
  obtain ⟨⟨k, rfl, HK, HDG, HMX, HZ⟩, hwc⟩ := hcut
  subst hwc
  have hjk : j < k := HK.out.1
  have hks : k ≤ s.size := HK.out.2
  have HRUN : Hid (∀ rec l a m, wordK (lst s) rec i l a m = finK (lst s) rec b (val 0 (runOf (lst s) j k)) i k l a m) := Lib.hid fun rec l a m => by
    rw [HB.out rec l a m, num_run hjk (by rw [len_data]; exact hks) HDG.out HMX.out HZ.out]
  have HDD : Hid (∀ x ∈ runOf (lst s) j k, isDig x = true) := Lib.hid (run_dig HDG.out)
  have HLN : Hid ((runOf (lst s) j k).length = k - j) := Lib.hid (run_len (by omega) (by rw [len_data]; exact hks))
  clear HMX HB HD0 HBD
  go_upto_if 61 with fail
  go_cut [9] from 12 (fun v9 wx => (∃ M : ByteArray, v9 = .string M ∧ M.size = 19 ∧ Hid (M.data.toList = mostOf b)) ∧ wx = wc)
  case first =>
    cases b with
    | true =>
      have hji : (i : Int) < j := by have := HJ.out.2.1 rfl; omega
      go_wp2_with fail
      go_meet
      case rel => exact ⟨⟨_, rfl, rfl, Lib.hid rfl⟩, rfl⟩
    | false =>
      have hji : ¬ (i : Int) < j := by have := HJ.out.2.2 rfl; omega
      go_wp2_with fail
      go_meet
      case rel => exact ⟨⟨_, rfl, rfl, Lib.hid rfl⟩, rfl⟩
  obtain ⟨⟨M, rfl, hM, HM⟩, hwc⟩ := hcut
  subst hwc
  have HX2 : Hid ((s.extract j k).toList = runOf (lst s) j k) := Lib.hid (by rw [Lib.toList_data, Lib.extract_data])
  have hjki : (j : Int) ≤ k := by omega
  have hksi : (k : Int) ≤ s.size := by omega
  go_upto_region 14 with fail
  go_cut [83] from 12 (fun v wx => (∃ q : Bool, v = .bool q ∧ Hid (q = decide (limOf b < val 0 (runOf (lst s) j k)))) ∧ wx = wc)
  case first =>
    by_cases h19 : 19 < k - j
    · have h19i : (19 : Int) < (k : Int) - j := by omega
      have HV : Hid (limOf b < val 0 (runOf (lst s) j k)) := Lib.hid (by
        have hne : runOf (lst s) j k ≠ [] := fun e => by have := HLN.out; rw [e] at this; simp at this; omega
        obtain ⟨x, r, hxr⟩ : ∃ x r, runOf (lst s) j k = x :: r := by
          cases h : runOf (lst s) j k with
          | nil => exact absurd h hne
          | cons x r => exact ⟨x, r, rfl⟩
        have hx0 : (lst s)[j]? = some x := by
          have h1 : (runOf (lst s) j k)[0]? = some x := by rw [hxr]; rfl
          unfold runOf at h1
          rw [List.getElem?_take, if_pos (by omega), List.getElem?_drop] at h1
          exact h1
        have hz := HZ.out (by omega)
        have hd := HDD.out
        have hl := HLN.out
        rw [hxr] at hd hl ⊢
        exact big_more hd (by rw [hl]; exact h19) (fun e => hz (by rw [hx0]; exact congrArg some (UInt8.toNat_inj.1 e))))
      go_wp2_with fail
      go_meet
      case rel => exact ⟨⟨true, rfl, Lib.hid (decide_eq_true HV.out).symm⟩, rfl⟩
    · have h19i : ¬ (19 : Int) < (k : Int) - j := by omega
      by_cases h19e : k - j = 19
      · have h19b : ((k : Int) - j == 19) = true := by simp; omega
        have HL := Lib.hid h19e
        clear h19e
        have HC : Hid ((!(Op.bytesLess (s.extract j k).toList M.toList || (s.extract j k).toList == M.toList)) = decide (limOf b < val 0 (runOf (lst s) j k))) := Lib.hid (by
          rw [HX2.out, Lib.toList_data, HM.out]
          exact big_same HDD.out (by rw [HLN.out, HL.out]))
        go_wp2_with fail
        go_meet
        case rel => exact ⟨⟨_, rfl, Lib.hid (by rw [← Bool.not_or]; exact HC.out)⟩, rfl⟩
      · have h19b : ((k : Int) - j == 19) = false := by simp; omega
        go_wp2_with fail
        go_meet
        case rel => exact ⟨⟨false, rfl, Lib.hid (decide_eq_false (big_less HDD.out (by rw [HLN.out]; omega))).symm⟩, rfl⟩
  obtain ⟨⟨q, rfl, HQ⟩, hwc⟩ := hcut
  subst hwc
  clear hM HM HX2
  cases q with
  | true =>
    have HV : Hid (limOf b < val 0 (runOf (lst s) j k)) := Lib.hid (of_decide_eq_true HQ.out.symm)
    have HB2 : Hid (∀ rec l a m, wordK (lst s) rec i l a m = .bad 30 (i : Nat)) := Lib.hid fun rec l a m => by
      rw [HRUN.out]
      exact fin_bad (o := false) (n := val 0 (runOf (lst s) j k)) (.inl ⟨rfl, rfl⟩) (fun h => by
        cases b with
        | false => have := h.2.1 rfl; have hv : 9223372036854775807 < val 0 (runOf (lst s) j k) := HV.out; omega
        | true => have := h.2.2 rfl; have hv : 9223372036854775808 < val 0 (runOf (lst s) j k) := HV.out; omega)
    go_wp2_with fail
    refine bodyPost_ret (results_tmp3 rfl _ _ _) rfl ?_
    exact ⟨.inr ⟨30, i, rfl, .inr rfl, HB2.out⟩, rfl⟩
  | false =>
    have HV : Hid (¬ limOf b < val 0 (runOf (lst s) j k)) := Lib.hid (of_decide_eq_false HQ.out.symm)
    have HN : Hid (val 0 (runOf (lst s) j k) ≤ limOf b) := Lib.hid (Nat.le_of_not_lt HV.out)
    clear HV HQ HZ
    have HK2 : Hid (∀ q, j ≤ q → q ≤ k → val 0 (runOf (lst s) j q) ≤ 9223372036854775808) := Lib.hid fun q h1 h2 => by
      have h3 : runOf (lst s) j k = runOf (lst s) j q ++ ((lst s).drop q).take (k - q) := by
        unfold runOf
        rw [show k - j = (q - j) + (k - q) by omega, List.take_add, List.drop_drop, show j + (q - j) = q by omega]
      have h4 := val_mono (runOf (lst s) j q) (((lst s).drop q).take (k - q)) 0
      rw [← h3] at h4
      have h5 := HN.out
      rcases lim_cases b with h | h <;> omega
    go_wp2_with fail
    go_loopw [10, 11] (fun v10 v11 wr => ∃ q : Nat, v11 = .int .i64 q ∧ j ≤ q ∧ q ≤ k ∧ v10 = .int .i64 (-(val 0 (runOf (lst s) j q) : Int)) ∧ wr = wc) (fun _ v11 _ => k - (intOf v11).toNat)
    case atStart => exact ⟨j, rfl, Nat.le_refl _, by omega, by rw [show runOf (lst s) j j = [] by unfold runOf; rw [Nat.sub_self]; rfl]; rfl, rfl⟩
    case round =>
      obtain ⟨q, rfl, hjq, hqk, rfl, rfl⟩ := hrel
      by_cases hlt : q < k
      · have hqs : q < s.size := by omega
        have hqi : (q : Int) < k := by omega
        have hdg : 48 ≤ s[q].toNat ∧ s[q].toNat ≤ 57 := by
          obtain ⟨x, h1, h2⟩ := HDG.out q hjq hlt
          rw [at_some hqs] at h1
          obtain rfl := Option.some.inj h1
          exact (dig_iff _).1 h2
        obtain ⟨hd1, hd2⟩ := hdg
        have HS : Hid (val 0 (runOf (lst s) j (q + 1)) = val 0 (runOf (lst s) j q) * 10 + (s[q].toNat - 48)) := Lib.hid (by rw [run_snoc hjq (at_some hqs), val_snoc])
        have hb1 := HK2.out (q + 1) (by omega) (by omega)
        rw [HS.out] at hb1
        obtain ⟨n, hn⟩ : ∃ n, n = val 0 (runOf (lst s) j q) := ⟨_, rfl⟩
        have HN2 := Lib.hid hn
        rw [← hn] at hb1 ⊢
        clear hn
        go_wp2_with fail
        refine ⟨⟨q + 1, by go_num, by omega, by omega, ?_, by trivial⟩, by simp [intOf]; omega⟩
        rw [HS.out, ← HN2.out]
        refine congrArg (Value.int .i64) ?_
        omega
      · obtain rfl : q = k := by omega
        have hge : ¬ (q : Int) < q := by omega
        have hb1 := HK2.out q (by omega) (Nat.le_refl _)
        have HB2 : Hid (∀ rec l a m, wordK (lst s) rec i l a m = afterK (lst s) rec q (l ++ [signed b (val 0 (runOf (lst s) j q))]) a m) := Lib.hid fun rec l a m => by
          rw [HRUN.out]
          refine fin_ok (o := false) (.inl ⟨rfl, rfl⟩) ⟨rfl, fun h => ?_, fun h => ?_⟩
          · have := HN.out; subst h; exact this
          · have := HN.out; subst h; exact this
        cases b with
        | false =>
          have hji := HJ.out.2.2 rfl
          have hjb : ((j : Int) == i) = true := by simp [hji]
          have hb2 : val 0 (runOf (lst s) j q) ≤ 9223372036854775807 := HN.out
          have HE := Lib.hid hji
          clear hji
          generalize hv : val 0 (runOf (lst s) j q) = n at hb1 hb2 HB2
          clear hv
          go_wp2_with fail
          refine bodyPost_ret (results_tmp3 rfl _ _ _) rfl ?_
          exact ⟨.inl ⟨n, q, by simp, ⟨by omega, by omega⟩, by omega, by omega, HB2.out⟩, rfl⟩
        | true =>
          have hji := HJ.out.2.1 rfl
          have hjb : ((j : Int) == i) = false := by rw [hji]; simp; omega
          have HE := Lib.hid hji
          clear hji
          generalize hv : val 0 (runOf (lst s) j q) = n at hb1 HB2
          clear hv
          go_wp2_with fail
          refine bodyPost_ret (results_tmp3 rfl _ _ _) rfl ?_
          exact ⟨.inl ⟨-n, q, by simp, ⟨by omega, by omega⟩, by omega, by omega, HB2.out⟩, rfl⟩
end Go.Proofs.YtpipcpjkfgdpcaaDoor

namespace Go.Proofs.YtpipcpjkfgdpcaaDoor
open Go.RowKit

theorem results_tmp5 {fn : Func} {a b c d f : Tmp} (h : fn.results = #[.tmp a, .tmp b, .tmp c, .tmp d, .tmp f]) (tmps : Array Value) (P : Program) (w : World) :
    (results fn tmps).run P w = .ok (.tuple #[tmps.getD a undef, tmps.getD b undef, tmps.getD c undef, tmps.getD d undef, tmps.getD f undef]) w := by
  simp only [results, h]
  simp [go_sem]

/-- the list that grows, the list ahead -/
abbrev curL (A B : List Int) (m : Int) : List Int := if m < 0 then A else B
abbrev aheadL (A : List Int) (m : Int) : List Int := if m < 0 then [] else A
structure WordsW (w wr : World) (v7 v8 : Value) (A B : List Int) (m : Int) (n : Nat) : Prop where
  be : Below w.heap.size w wr
  oa : OwnsInts wr w.heap.size v7 A
  ob : OwnsInts wr w.heap.size v8 B
  ap : v7.ownBlock = none ∨ v7.ownBlock ≠ v8.ownBlock
  aa : All64 A
  ab : All64 B
  nb : m < 0 → B = []
  la : A.length ≤ n
  lb : B.length ≤ n
/-- what words tells -/
def WordsPost (s : ByteArray) (w0 : World) (e : Ending) (w' : World) : Prop :=
  ∃ (av lv : Value) (mark place err : Int), e = .returned (.tuple #[av, lv, .int .i64 mark, .int .i64 place, .int .i64 err]) ∧ Below w0.heap.size w0 w' ∧
    ((err = 0 ∧ place = 0 ∧ (mark = -1 ∨ (0 ≤ mark ∧ mark ≤ s.size)) ∧ ∃ A B, WordsW w0 w' av lv A B mark s.size ∧ (mark < 0 → 1 ≤ A.length) ∧ allWords (lst s) = .ok (curL A B mark) (aheadL A mark) mark) ∨
     ((err = 37 ∨ err = 30) ∧ av = .slice none 0 0 ∧ lv = .slice none 0 0 ∧ allWords (lst s) = .bad err place))
theorem words_bad {s : ByteArray} {w0 w' : World} {err place : Int} (hb : Below w0.heap.size w0 w') (h1 : err = 37 ∨ err = 30) (h2 : allWords (lst s) = .bad err place) :
    WordsPost s w0 (.returned (.tuple #[.slice none 0 0, .slice none 0 0, .int .i64 0, .int .i64 place, .int .i64 err])) w' :=
  ⟨_, _, _, _, _, rfl, hb, .inr ⟨h1, rfl, rfl, h2⟩⟩
theorem all64_snoc {l : List Int} {x : Int} (h : All64 l) (hx : In64 x) : All64 (l ++ [x]) := fun y hy => by
  rcases List.mem_append.1 hy with hy | hy
  · exact h y hy
  · simp only [List.mem_cons, List.not_mem_nil, or_false] at hy
    subst hy
    exact hx
theorem own_sym {v u : Value} (h : v.ownBlock = none ∨ v.ownBlock ≠ u.ownBlock) : u.ownBlock = none ∨ u.ownBlock ≠ v.ownBlock := by
  rcases h with h | h
  · rw [h]
    cases u.ownBlock with
    | none => exact .inl rfl
    | some k => exact .inr fun e => by cases e
  · exact .inr fun e => h e.symm
theorem blocks_apart {w : World} {B : Nat} {v v' u : Value} {l : List Int} (ho : OwnsInts w B v l) (hap : v.ownBlock = none ∨ v.ownBlock ≠ u.ownBlock) (hu : v'.ownBlock = u.ownBlock ∨ v'.ownBlock = some (w.heap.size + 1)) : v.ownBlock = none ∨ v.ownBlock ≠ v'.ownBlock := by
  rcases hu with h | h
  · rw [h]; exact hap
  · rw [h]
    cases hv : v.ownBlock with
    | none => exact .inl rfl
    | some k => exact .inr fun e => by injection e with e; have := (ho.lt k hv).2; omega

set_option maxHeartbeats 8000000 in
set_option maxRecDepth 100000 in
theorem words_any (s : ByteArray) (w : World) (hs : s.size ≤ 1048576) : Calls Tryd.prog 45 #[.string s] w (WordsPost s w) := by
  have HS64 := hs
  go_enter Tryd.func45, Tryd.ntmps45
  go_wp2_with fail
  go_loopw [7, 8, 9, 10] (fun v7 v8 v9 v10 wr => ∃ (i : Nat) (m : Int) (A B : List Int), v10 = .int .i64 i ∧ v9 = .int .i64 m ∧ i ≤ s.size ∧ (m = -1 ∨ (0 ≤ m ∧ m ≤ s.size)) ∧ Hid (WordsW w wr v7 v8 A B m i) ∧ Hid (words (lst s) i (curL A B m) (aheadL A m) m = allWords (lst s))) (fun _ _ _ v10 _ => s.size + 1 - (intOf v10).toNat)
  case atStart => exact ⟨0, -1, [], [], rfl, rfl, Nat.zero_le _, .inl rfl, Lib.hid ⟨Below.refl _ _, World.ownsRow_nil _ _ _ _, World.ownsRow_nil _ _ _ _, .inl rfl, fun x hx => by simp at hx, fun x hx => by simp at hx, fun _ => rfl, Nat.le_refl _, Nat.le_refl _⟩, Lib.hid rfl⟩
  case round =>
    obtain ⟨i, m, A, B, rfl, rfl, hi, hm, HW, HA⟩ := hrel
    have HM := Lib.hid hm
    clear hm
    by_cases hlt : i < s.size
    · have hlti : (i : Int) < s.size := by omega
      have xe : ((i : Int) == s.size) = false := beq_eq_false_iff_ne.2 (by omega)
      by_cases hok : (s[i].toNat = 36 ∧ m < 0) ∨ s[i].toNat = 95 ∨ (48 ≤ s[i].toNat ∧ s[i].toNat ≤ 57)
      · have HOK := Lib.hid hok
        clear hok
        go_upto_region 4 with fail
        go_cut [46] from 14 to 90 (fun v wx => v = .bool false ∧ wx = wr)
        case first =>
          rcases HOK.out with ⟨h1, h2⟩ | h1 | ⟨h1, h2⟩
          · have x1 : ((s[i].toNat : Int) != 95) = true := by simp [h1]
            have x2 : ((s[i].toNat : Int) != 36) = false := by simp [h1]
            have x3 : ((s[i].toNat : Int) == 36) = true := by simp [h1]
            have x4 : ¬ 0 ≤ m := by omega
            clear h1
            go_wp2_with fail
            go_meet
            case rel => exact ⟨rfl, rfl⟩
          · have x1 : ((s[i].toNat : Int) != 95) = false := by simp [h1]
            have x3 : ((s[i].toNat : Int) == 36) = false := by simp [h1]
            clear h1
            go_wp2_with fail
            go_meet
            case rel => exact ⟨rfl, rfl⟩
          · have x1 : ((s[i].toNat : Int) != 95) = true := by simp; omega
            have x2 : ((s[i].toNat : Int) != 36) = true := by simp; omega
            have x3 : ((s[i].toNat : Int) == 36) = false := by simp; omega
            have HD : Hid (isDig s[i] = true) := Lib.hid ((dig_iff _).2 ⟨h1, h2⟩)
            clear h1 h2
            go_wp2_with fail
            refine (digit_any s[i] _).mono ?_
            rintro e w1 ⟨rfl, rfl⟩
            rw [HD.out]
            go_wp2_with fail
            go_meet
            case rel => exact ⟨rfl, rfl⟩
        obtain ⟨rfl, hwc⟩ := hcut
        subst hwc
        go_upto_if 51 with fail
        go_cut [7, 8, 9, 10] from 14 to 90 (fun v7 v8 v9 v10 wx => ∃ (k : Nat) (m' : Int) (A B : List Int), v10 = .int .i64 k ∧ v9 = .int .i64 m' ∧ i < k ∧ k ≤ s.size ∧ Hid (m' = -1 ∨ (0 ≤ m' ∧ m' ≤ s.size)) ∧ Hid (WordsW w wx v7 v8 A B m' k) ∧ Hid (m' < 0 → 1 ≤ A.length) ∧ Hid (afterK (lst s) (words (lst s)) k (curL A B m') (aheadL A m') m' = allWords (lst s)))
        case first =>
          by_cases h36 : s[i].toNat = 36
          · have hm0 : m < 0 := by rcases HOK.out with h | h | h <;> omega
            have x3 : ((s[i].toNat : Int) == 36) = true := by simp [h36]
            have HN : Hid (afterK (lst s) (words (lst s)) (i + 1) [] A i = allWords (lst s)) := Lib.hid (by
              have h := HA.out
              rw [words_eq (by rw [len_data]; exact hi), w_mark1 (at_some hlt) h36 hm0] at h
              unfold curL at h
              rw [if_pos hm0] at h
              exact h)
            have HB0 := Lib.hid (HW.out.nb hm0)
            clear h36
            go_wp2_with fail
            go_meet
            case rel =>
              have hb0 := HB0.out
              subst hb0
              refine ⟨i + 1, i, A, [], by go_num, rfl, by omega, by omega, Lib.hid (.inr ⟨by omega, by omega⟩), Lib.hid { HW.out with nb := fun h => by omega, la := by have := HW.out.la; omega, lb := by simp }, Lib.hid fun h => by omega, Lib.hid ?_⟩
              unfold curL aheadL
              rw [if_neg (by omega), if_neg (by omega)]
              exact HN.out
          · have x3 : ((s[i].toNat : Int) == 36) = false := by simp; omega
            have HXX : Hid (s[i].toNat = 95 ∨ (48 ≤ s[i].toNat ∧ s[i].toNat ≤ 57)) := Lib.hid (by exact HOK.out.resolve_left fun h => h36 h.1)
            clear h36
            go_wp2_with fail
            refine (scanned_any s i _ hlt hs HXX.out).mono ?_
            rintro e w1 ⟨hP, rfl⟩
            rcases hP with ⟨n, k, rfl, hn64, hik, hks, hK⟩ | ⟨err, k, rfl, herr, hK⟩
            · have HK : Hid (afterK (lst s) (words (lst s)) k (curL A B m ++ [n]) (aheadL A m) m = allWords (lst s)) := Lib.hid (by
                have h := HA.out
                rw [words_eq (by rw [len_data]; exact hi), hK] at h
                exact h)
              have HN64 := Lib.hid hn64
              clear hK hn64
              obtain ⟨j0, hj, hz0, hz1, hz2⟩ := info_parts info_int64
              by_cases hm0 : m < 0
              · skip
                obtain ⟨Q, c0, rfl⟩ := HW.out.oa.form
                obtain ⟨n0, hn0⟩ : ∃ n0, n0 = A.length := ⟨_, rfl⟩
                have hle : n0 ≤ i := by rw [hn0]; exact HW.out.la
                have HOWN : Hid ((w1.alloc (.cells #[.int .i64 n] 2)).ownsRow w.heap.size 2 1 (.slice Q n0 c0) n0 (A.map fun y => .int .i64 y)) := Lib.hid (by rw [hn0]; exact HW.out.oa.alloc _)
                have HNN := Lib.hid hn0
                rw [← hn0] at HW ⊢
                clear hn0
                go_wp2_with (at_builtin; refine wpList_append_own_at _ rfl (.tmp 69) (.tmp 71) 28 rfl w.heap.size 2 j0 (.int .i64 0) 1 8 Tryd.underlying28 hj hz0 hz1 hz2 rfl (by decide) (.slice Q n0 c0) n0 (A.map fun y => .int .i64 y) rfl HOWN.out ⟨w1.heap.size, 0, none⟩ 1 1 [.int .i64 n] rfl rfl (cell_one_new _ _ _) (by simp [Value.oneCell']) ?_ ?_ ?_ ?_)
                · unfold maxLen; omega
                · omega
                · have := HW.out.be.size; simp; omega
                intro v' w2 hown2 hgr2 _ hfr0
                have HWW : Hid (WordsW w w2 v' u8 (A ++ [n]) B m k) := Lib.hid (by
                  have hW := HW.out
                  have hb1 : Below w.heap.size w (w1.alloc (.cells #[.int .i64 n] 2)) := hW.be.alloc hW.be.size _
                  have hown2' : OwnsInts w2 w.heap.size v' (A ++ [n]) := by
                    unfold OwnsInts
                    rw [List.length_append, List.map_append, ← HNN.out]
                    exact hown2
                  exact ⟨hb1.grown hgr2 hb1.size (fun k hk => (HOWN.out.lt k hk).1), hown2', World.ownsRow.kept (hW.ob.alloc _) hgr2 (own_sym hW.ap), own_sym (blocks_apart hW.ob (own_sym hW.ap) hfr0), all64_snoc hW.aa HN64.out, hW.ab, hW.nb, by rw [List.length_append]; have := hW.la; simp only [List.length_cons, List.length_nil]; omega, by have := hW.lb; omega⟩)
                clear hown2 hgr2 hfr0
                go_wp2_with fail
                go_meet
                case rel => exact ⟨k, m, A ++ [n], B, rfl, rfl, by omega, by omega, HM, HWW, Lib.hid fun h => by (first | omega | simp), Lib.hid (by have h := HK.out; unfold curL aheadL at h ⊢; rw [if_pos hm0] at h ⊢; rw [if_pos hm0]; rw [if_pos hm0] at h; exact h)⟩
              · skip
                obtain ⟨Q, c0, rfl⟩ := HW.out.ob.form
                obtain ⟨n0, hn0⟩ : ∃ n0, n0 = B.length := ⟨_, rfl⟩
                have hle : n0 ≤ i := by rw [hn0]; exact HW.out.lb
                have HOWN : Hid ((w1.alloc (.cells #[.int .i64 n] 2)).ownsRow w.heap.size 2 1 (.slice Q n0 c0) n0 (B.map fun y => .int .i64 y)) := Lib.hid (by rw [hn0]; exact HW.out.ob.alloc _)
                have HNN := Lib.hid hn0
                rw [← hn0] at HW ⊢
                clear hn0
                go_wp2_with (at_builtin; refine wpList_append_own_at _ rfl (.tmp 73) (.tmp 75) 28 rfl w.heap.size 2 j0 (.int .i64 0) 1 8 Tryd.underlying28 hj hz0 hz1 hz2 rfl (by decide) (.slice Q n0 c0) n0 (B.map fun y => .int .i64 y) rfl HOWN.out ⟨w1.heap.size, 0, none⟩ 1 1 [.int .i64 n] rfl rfl (cell_one_new _ _ _) (by simp [Value.oneCell']) ?_ ?_ ?_ ?_)
                · unfold maxLen; omega
                · omega
                · have := HW.out.be.size; simp; omega
                intro v' w2 hown2 hgr2 _ hfr0
                have HWW : Hid (WordsW w w2 u7 v' A (B ++ [n]) m k) := Lib.hid (by
                  have hW := HW.out
                  have hb1 : Below w.heap.size w (w1.alloc (.cells #[.int .i64 n] 2)) := hW.be.alloc hW.be.size _
                  have hown2' : OwnsInts w2 w.heap.size v' (B ++ [n]) := by
                    unfold OwnsInts
                    rw [List.length_append, List.map_append, ← HNN.out]
                    exact hown2
                  exact ⟨hb1.grown hgr2 hb1.size (fun k hk => (HOWN.out.lt k hk).1), World.ownsRow.kept (hW.oa.alloc _) hgr2 hW.ap, hown2', blocks_apart hW.oa hW.ap hfr0, hW.aa, all64_snoc hW.ab HN64.out, fun h => by omega, by have := hW.la; omega, by rw [List.length_append]; have := hW.lb; simp only [List.length_cons, List.length_nil]; omega⟩)
                clear hown2 hgr2 hfr0
                go_wp2_with fail
                go_meet
                case rel => exact ⟨k, m, A, B ++ [n], rfl, rfl, by omega, by omega, HM, HWW, Lib.hid fun h => by (first | omega | simp), Lib.hid (by have h := HK.out; unfold curL at h ⊢; rw [if_neg (by omega)] at h ⊢; exact h)⟩
            · have HB : Hid (allWords (lst s) = .bad err (k : Nat)) := Lib.hid (by rw [← HA.out, words_eq (by rw [len_data]; exact hi), hK])
              have HE := Lib.hid herr
              have xn : (err != 0) = true := by rcases herr with h | h <;> rw [h] <;> rfl
              clear hK herr
              go_wp2_with fail
              refine bodyPost_ret (results_tmp5 rfl _ _ _) rfl ?_
              exact words_bad HW.out.be HE.out HB.out
        obtain ⟨k, m', A', B', rfl, rfl, hik, hks, HM', HW', HNE, HA'⟩ := hcut
        clear HA HW HM
        by_cases hke : k = s.size
        · have xk : ((k : Int) == s.size) = true := by simp [hke]
          have HP : Hid (allWords (lst s) = .ok (curL A' B' m') (aheadL A' m') m') := Lib.hid (by rw [← HA'.out, after_end _ _ _ (by rw [len_data]; exact hke)])
          have HW2 : Hid (WordsW w wc u7 u8 A' B' m' s.size) := Lib.hid (by rw [← hke]; exact HW'.out)
          clear hke
          go_wp2_with fail
          refine bodyPost_ret (results_tmp5 rfl _ _ _) rfl ?_
          exact ⟨_, _, _, _, _, rfl, HW2.out.be, .inl ⟨rfl, rfl, HM'.out, A', B', HW2.out, HNE.out, HP.out⟩⟩
        · have hkl : k < s.size := by omega
          have xk : ((k : Int) == s.size) = false := beq_eq_false_iff_ne.2 (by omega)
          have hkli : (k : Int) < s.size := by omega
          clear hke
          by_cases h32 : s[k].toNat = 32
          · have x32 : ((s[k].toNat : Int) != 32) = false := by simp [h32]
            have HN : Hid (words (lst s) (k + 1) (curL A' B' m') (aheadL A' m') m' = allWords (lst s)) := Lib.hid (by rw [← HA'.out, after_blank _ _ _ (by rw [at_some hkl]; exact congrArg some (UInt8.toNat_inj.1 h32))])
            clear h32
            go_wp2_with fail
            exact ⟨⟨k + 1, m', A', B', by go_num, rfl, by omega, HM'.out, Lib.hid { HW'.out with la := by have := HW'.out.la; omega, lb := by have := HW'.out.lb; omega }, HN⟩, by simp [intOf]; omega⟩
          · have x32 : ((s[k].toNat : Int) != 32) = true := by simp; omega
            have HB : Hid (allWords (lst s) = .bad 37 (k : Nat)) := Lib.hid (by rw [← HA'.out, after_bad _ _ _ (by rw [len_data]; omega) (fun e => by rw [at_some hkl] at e; injection e with e; rw [e] at h32; exact h32 rfl)])
            clear h32
            go_wp2_with fail
            refine bodyPost_ret (results_tmp5 rfl _ _ _) rfl ?_
            exact words_bad HW'.out.be (.inl rfl) HB.out
      · have HX : Hid (s[i].toNat ≠ 95 ∧ ¬ (48 ≤ s[i].toNat ∧ s[i].toNat ≤ 57)) := Lib.hid ⟨fun h => hok (.inr (.inl h)), fun h => hok (.inr (.inr h))⟩
        have x1 : ((s[i].toNat : Int) != 95) = true := by simp; have := HX.out.1; omega
        by_cases h36 : s[i].toNat = 36
        · have hmm : 0 ≤ m := Classical.byContradiction fun h => hok (.inl ⟨h36, by omega⟩)
          have x2 : ((s[i].toNat : Int) != 36) = false := by simp [h36]
          have x3 : ((s[i].toNat : Int) == 36) = true := by simp [h36]
          have HB : Hid (allWords (lst s) = .bad 37 (i : Nat)) := Lib.hid (by rw [← HA.out, words_eq (by rw [len_data]; exact hi), w_mark2 (at_some hlt) h36 (by omega)])
          clear h36 hok
          go_wp2_with fail
          refine bodyPost_ret (results_tmp5 rfl _ _ _) rfl ?_
          exact words_bad HW.out.be (.inl rfl) HB.out
        · have x2 : ((s[i].toNat : Int) != 36) = true := by simp; omega
          have x3 : ((s[i].toNat : Int) == 36) = false := by simp; omega
          have HD : Hid (isDig s[i] = false) := Lib.hid (by
            cases h : isDig s[i] with
            | false => rfl
            | true => exact absurd ((dig_iff _).1 h) HX.out.2)
          have HB : Hid (allWords (lst s) = .bad 37 (i : Nat)) := Lib.hid (by rw [← HA.out, words_eq (by rw [len_data]; exact hi), w_bad (at_some hlt) h36 HX.out.1 HX.out.2])
          clear h36 hok
          go_wp2_with fail
          refine (digit_any s[i] _).mono ?_
          rintro e w1 ⟨rfl, rfl⟩
          rw [HD.out]
          go_wp2_with fail
          refine bodyPost_ret (results_tmp5 rfl _ _ _) rfl ?_
          exact words_bad HW.out.be (.inl rfl) HB.out
    · have xe : ((i : Int) == s.size) = true := by simp; omega
      have HB : Hid (allWords (lst s) = .bad 37 (i : Nat)) := Lib.hid (by rw [← HA.out, words_eq (by rw [len_data]; exact hi), w_none (at_none (by omega))])
      go_wp2_with fail
      refine bodyPost_ret (results_tmp5 rfl _ _ _) rfl ?_
      exact words_bad HW.out.be (.inl rfl) HB.out
end Go.Proofs.YtpipcpjkfgdpcaaDoor

namespace Go.Proofs.YtpipcpjkfgdpcaaDoor
open Go.RowKit

theorem OwnsInts.low {w : World} {B B' : Nat} {v : Value} {l : List Int} (h : OwnsInts w B v l) (hB : B' ≤ B) : OwnsInts w B' v l := ⟨h.1, h.2.imp id fun ⟨g, cap, cur, h1, h2, r⟩ => ⟨g, cap, cur, h1, Nat.le_trans hB h2, r⟩⟩
theorem OwnsI.low {w : World} {B B' : Nat} {v : Value} {l : List Int} (h : OwnsI w B v l) (hB : B' ≤ B) : OwnsI w B' v l := ⟨h.1, h.2.imp id fun ⟨g, cap, cur, h1, h2, r⟩ => ⟨g, cap, cur, h1, Nat.le_trans hB h2, r⟩⟩
theorem OwnsInts.on {w w' : World} {B : Nat} {v : Value} {l : List Int} (h : OwnsInts w B v l) (hb : Below w.heap.size w w') : OwnsInts w' B v l := World.ownsRow.kept h (grown_below hb none) (by cases v.ownBlock <;> simp)
theorem OwnsI.on {w w' : World} {B : Nat} {v : Value} {l : List Int} (h : OwnsI w B v l) (hb : Below w.heap.size w w') : OwnsI w' B v l := World.ownsRow.kept h (grown_below hb none) (by cases v.ownBlock <;> simp)
/-- what the document's Read leaves: in all cases the plain answer, in memory of its own -/
def RRead (s : ByteArray) (w : World) (e : Ending) (w' : World) : Prop :=
  ∃ (sv av : Value) (place err : Int) (sh at_ : List Int), e = .returned (.tuple #[.agg #[sv, av], .int .i64 place, .int .i64 err]) ∧ Below w.heap.size w w' ∧ readSpec (lst s) = (sh, at_, place, err) ∧
    OwnsI w' w.heap.size sv sh ∧ OwnsInts w' w.heap.size av at_ ∧ All64 sh ∧ All64 at_ ∧ sh.length ≤ 1048576 ∧ at_.length ≤ 1048576
theorem all64_nil : All64 [] := fun x hx => by cases hx
theorem rread_err {s : ByteArray} {w wr : World} (h : Below w.heap.size w wr) (cs : Array Value) (place err : Int) (hr : readSpec (lst s) = ([], [], place, err)) :
    RRead s w (.returned (.tuple #[.agg #[.slice none 0 0, .slice none 0 0], .int .i64 place, .int .i64 err])) (wr.setRow w.heap.size cs) :=
  ⟨_, _, place, err, [], [], rfl, below_setRow h (Nat.le_refl _) _, hr, World.ownsRow_nil _ _ _ _, World.ownsRow_nil _ _ _ _, all64_nil, all64_nil, by simp, by simp⟩
theorem rread_ok {s : ByteArray} {w wr : World} (h : Below w.heap.size w wr) (old : Array Value) (hw : wr.heap[w.heap.size]? = some (.cells old 36 (0, 0))) (sv av : Value) (sh at_ : List Int) (hr : readSpec (lst s) = (sh, at_, 0, 0))
    (h1 : OwnsI wr w.heap.size sv sh) (h2 : OwnsInts wr w.heap.size av at_) (h3 : All64 sh) (h4 : All64 at_) (h5 : sh.length ≤ 1048576) (h6 : at_.length ≤ 1048576) :
    RRead s w (.returned (.tuple #[.agg #[sv, av], .int .i64 0, .int .i64 0])) (wr.setRow w.heap.size #[sv, av]) := by
  have g := grown_row wr w.heap.size #[sv, av]
  exact ⟨sv, av, 0, 0, sh, at_, rfl, below_setRow h (Nat.le_refl _) _, hr, row_other h1 g hw (by decide), row_other h2 g hw (by decide), h3, h4, h5, h6⟩

/-- the array that grows, in the loop over the lengths -/
structure RRW (w wr : World) (q : Nat) (v av lv : Value) (l A B : List Int) : Prop where
  be : Below w.heap.size w wr
  p0 : wr.heap[w.heap.size]? = some (.cells #[.slice none 0 0, .slice none 0 0] 36 (0, 0))
  hq : wr.heap[q]? = some (.cells #[v, lv] 36 (0, 0))
  lt : w.heap.size < q
  os : OwnsI wr w.heap.size v l
  oa : OwnsInts wr w.heap.size av A
  ob : OwnsInts wr w.heap.size lv B
theorem RRW.step {w wr W1 w' : World} {q : Nat} {v v' av lv : Value} {l l' A B : List Int} (h : RRW w wr q v av lv l A B) (hb : Below wr.heap.size wr W1) (ho : OwnsI W1 w.heap.size v l) (ho' : OwnsI w' w.heap.size v' l') (hg : W1.grownBy w' v.ownBlock) :
    RRW w (w'.setCell ⟨q, 0, none⟩ v') q v' av lv l' A B := by
  have hlt := (Array.getElem?_eq_some_iff.1 h.hq).1
  have hlw := Nat.lt_trans h.lt hlt
  have hsz := hb.size
  have ne : ∀ (g : Nat) (cs : Array Value), wr.heap[g]? = some (.cells cs 36 (0, 0)) → some g ≠ v.ownBlock := fun g cs hgg e => by
    obtain ⟨cur, hc⟩ := row_type ho g e.symm
    rw [hb.block g (Array.getElem?_eq_some_iff.1 hgg).1, hgg] at hc
    injection hc with hc; injection hc with _ ht; cases ht
  have b1 : Below w.heap.size w W1 := h.be.then_ hb
  have b2 : Below w.heap.size w w' := b1.grown hg b1.size (fun k hk => (ho.lt k hk).1)
  have q2 : w'.heap[q]? = some (.cells #[v, lv] 36 (0, 0)) := (hg.block q (by omega) (ne _ _ h.hq)).trans ((hb.block q hlt).trans h.hq)
  have p2 : w'.heap[w.heap.size]? = some (.cells #[.slice none 0 0, .slice none 0 0] 36 (0, 0)) := (hg.block _ (by omega) (ne _ _ h.p0)).trans ((hb.block _ hlw).trans h.p0)
  have g2 := grown_cell w' q 0 v'
  refine ⟨b2.setCell (p := ⟨q, 0, none⟩) (Nat.le_of_lt h.lt) _, ?_, ?_, h.lt, row_other ho' g2 q2 (by decide), ?_, ?_⟩
  · exact (Below.heap_setCell _ _ _ _ (fun e => by have := h.lt; simp only at e; omega)).trans p2
  · simp [World.setCell, Array.getElem?_modify, q2]
  · exact row_other (World.ownsRow.kept (h.oa.on hb) hg (row_apart (h.oa.on hb) ho (by decide))) g2 q2 (by decide)
  · exact row_other (World.ownsRow.kept (h.ob.on hb) hg (row_apart (h.ob.on hb) ho (by decide))) g2 q2 (by decide)

set_option maxHeartbeats 8000000 in
set_option maxRecDepth 100000 in
theorem rread_any (s : ByteArray) (w : World) : Calls Tryd.prog 17 #[.string s] w (RRead s w) := by
  go_enter Tryd.func17, Tryd.ntmps17
  have hp0 : (w.alloc (.cells #[.slice none 0 0, .slice none 0 0] 36)).heap[w.heap.size]? = some (.cells #[.slice none 0 0, .slice none 0 0] 36 (0, 0)) := heap_alloc_new w _
  by_cases hbig : 1048576 < s.size
  · have hd : decide ((1048576 : Int) < s.size) = true := by simp; omega
    have HBig := Lib.hid hbig
    clear hbig
    go_wp2_with (refine wp_store_arr _ w.heap.size _ (.tmp 2) (.tmp 17) rfl rfl hp0 rfl rfl _ _ rfl rfl ?_)
    refine bodyPost_ret (results_arr rfl rfl (setRow_heap _ _ _ _ _ _ hp0)) rfl ?_
    exact rread_err ((Below.refl _ _).alloc (Nat.le_refl _) _) _ 0 2 (spec_long HBig.out)
  · have hd : decide ((1048576 : Int) < s.size) = false := by simp; omega
    have HS : Hid (s.size ≤ 1048576) := Lib.hid (by omega)
    have HP0 := Lib.hid hp0
    clear hbig hp0
    go_wp2_with fail
    refine (words_any s _ HS.out).mono ?_
    rintro e w2 ⟨av, lv, mark, place, err, rfl, hb, hc⟩
    have hpX : w2.heap[w.heap.size]? = some (.cells #[.slice none 0 0, .slice none 0 0] 36 (0, 0)) := (hb.block _ (by simp)).trans HP0.out
    have hB : Below w.heap.size w w2 := ((Below.refl _ w).alloc (Nat.le_refl _) _).then_ hb
    have HB := Lib.hid hB
    clear hd
    rcases hc with ⟨rfl, rfl, hm, A, B, hW, hne, hok⟩ | ⟨he, rfl, rfl, hbad⟩
    · have hoa := hW.oa.low (B' := w.heap.size) (by simp)
      have hob := hW.ob.low (B' := w.heap.size) (by simp)
      obtain ⟨Q, cq, rfl⟩ := hoa.form
      obtain ⟨R, cr, rfl⟩ := hob.form
      have HOA := Lib.hid hoa
      have HOB := Lib.hid hob
      have HW := Lib.hid hW
      have HOK := Lib.hid hok
      have HMK := Lib.hid hm
      have HNE0 := Lib.hid hne
      have hln : A.length ≤ 1048576 := Nat.le_trans hW.la HS.out
      have hlm : B.length ≤ 1048576 := Nat.le_trans hW.lb HS.out
      clear hoa hob hok hm hb hB hW hne
      by_cases hm0 : mark < 0
      · have HT : Hid (allWords (lst s) = .ok A [] mark) := Lib.hid (by have h := HOK.out; unfold curL aheadL at h; rw [if_pos hm0, if_pos hm0] at h; exact h)
        by_cases h4 : 4096 < A.length
        · have x4 : (4096 : Int) < A.length := by omega
          go_wp2_with (refine wp_store_arr _ w.heap.size _ (.tmp 2) (.tmp 36) rfl rfl hpX rfl rfl _ _ rfl rfl ?_)
          refine bodyPost_ret (results_arr rfl rfl (setRow_heap _ _ _ _ _ _ hpX)) rfl ?_
          exact rread_err HB.out _ 0 17 (spec_many HS.out HT.out (by omega) (by omega) h4)
        · have x4 : ¬ (4096 : Int) < A.length := by omega
          by_cases h1 : 1 < A.length
          · have x1 : (1 : Int) < A.length := by omega
            have hl1 : w.heap.size < w2.heap.size := (Array.getElem?_eq_some_iff.1 hpX).1
            have HPY : Hid (((w2.alloc (.cells #[.slice (some ⟨w2.heap.size + 1, 0, none⟩) 1 1, .slice Q A.length cq] 36)).alloc (.cells #[.int .i64 A.length] 3)).heap[w.heap.size]? = some (.cells #[.slice none 0 0, .slice none 0 0] 36 (0, 0))) := Lib.hid ((Below.heap_alloc _ _ _ (by simp; omega)).trans ((Below.heap_alloc _ _ _ hl1).trans hpX))
            have HOS : Hid (OwnsI ((w2.alloc (.cells #[.slice (some ⟨w2.heap.size + 1, 0, none⟩) 1 1, .slice Q A.length cq] 36)).alloc (.cells #[.int .i64 A.length] 3)) w.heap.size (.slice (some ⟨w2.heap.size + 1, 0, none⟩) 1 1) [(A.length : Int)]) := Lib.hid (by
              have h := owns_one (w2.alloc (.cells #[.slice (some ⟨w2.heap.size + 1, 0, none⟩) 1 1, .slice Q A.length cq] 36)) w.heap.size (by simp; omega) (A.length : Int)
              rw [World.size_alloc] at h
              exact h)
            go_wp2_with (refine wp_store_arr _ w.heap.size _ (.tmp 2) (.tmp 46) rfl rfl HPY.out rfl rfl _ _ rfl rfl ?_)
            refine bodyPost_ret (results_arr rfl rfl (setRow_heap _ _ _ _ _ _ HPY.out)) rfl ?_
            refine rread_ok ((HB.out.alloc (by omega) _).alloc (by simp; omega) _) _ HPY.out _ _ [(A.length : Int)] A (spec_list HS.out HT.out (by omega) (by omega) (by omega)) HOS.out ((HOA.out.alloc _).alloc _) (fun x hx => ?_) HW.out.aa (by simp) hln
            simp only [List.mem_cons, List.not_mem_nil, or_false] at hx
            subst hx
            constructor <;> omega
          · have x1 : ¬ (1 : Int) < A.length := by omega
            have hl1 : w.heap.size < w2.heap.size := (Array.getElem?_eq_some_iff.1 hpX).1
            have HPY : Hid ((w2.alloc (.cells #[.slice none 0 0, .slice Q A.length cq] 36)).heap[w.heap.size]? = some (.cells #[.slice none 0 0, .slice none 0 0] 36 (0, 0))) := Lib.hid ((Below.heap_alloc _ _ _ hl1).trans hpX)
            have HNE : Hid (A.length = 1) := Lib.hid (by have := HNE0.out hm0; omega)
            go_wp2_with (refine wp_store_arr _ w.heap.size _ (.tmp 2) (.tmp 46) rfl rfl HPY.out rfl rfl _ _ rfl rfl ?_)
            refine bodyPost_ret (results_arr rfl rfl (setRow_heap _ _ _ _ _ _ HPY.out)) rfl ?_
            exact rread_ok (HB.out.alloc (by omega) _) _ HPY.out _ _ [] A (spec_one HS.out HT.out (by omega) HNE.out) (World.ownsRow_nil _ _ _ _) (HOA.out.alloc _) all64_nil HW.out.aa (by simp) hln
      · have hMK : 0 ≤ mark := by omega
        have HT : Hid (allWords (lst s) = .ok B A mark) := Lib.hid (by have h := HOK.out; unfold curL aheadL at h; rw [if_neg hm0, if_neg hm0] at h; exact h)
        by_cases ha : A.length = 0
        · have xa : ((A.length : Int) == 0) = true := by simp [ha]
          have HA0 := Lib.hid ha
          clear ha
          go_wp2_with (refine wp_store_arr _ w.heap.size _ (.tmp 2) (.tmp 50) rfl rfl hpX rfl rfl _ _ rfl rfl ?_)
          refine bodyPost_ret (results_arr rfl rfl (setRow_heap _ _ _ _ _ _ hpX)) rfl ?_
          exact rread_err HB.out _ mark 37 (spec_bare HS.out HT.out (by omega) HA0.out)
        · have xa : ((A.length : Int) == 0) = false := beq_eq_false_iff_ne.2 (by omega)
          have HA1 := Lib.hid ha
          have hl1 : w.heap.size < w2.heap.size := (Array.getElem?_eq_some_iff.1 hpX).1
          have HR : Hid (RRW w (w2.alloc (.cells #[.slice none 0 0, .slice R B.length cr] 36)) w2.heap.size (.slice none 0 0) (.slice Q A.length cq) (.slice R B.length cr) [] A B) := Lib.hid
            ⟨HB.out.alloc (by omega) _, (Below.heap_alloc _ _ _ hl1).trans hpX, heap_alloc_new w2 _, hl1, World.ownsRow_nil _ _ _ _, HOA.out.alloc _, HOB.out.alloc _⟩
          obtain ⟨n, hn⟩ : ∃ n, n = A.length := ⟨_, rfl⟩
          have HN := Lib.hid hn
          rw [← hn] at hln xa HR ⊢
          clear ha hn hpX
          go_wp2_with fail
          go_loopw [12] (fun v12 wr => ∃ (i : Nat) (v : Value), i ≤ n ∧ v12 = .int .i64 i ∧ Hid (RRW w wr w2.heap.size v (.slice Q n cq) (.slice R B.length cr) (A.take i) A B)) (fun v12 _ => n - (intOf v12).toNat)
          case atStart => exact ⟨0, .slice none 0 0, Nat.zero_le _, rfl, HR⟩
          case round =>
            obtain ⟨i, v, hi, rfl, HRr⟩ := hrel
            obtain ⟨B8, c8, hv8⟩ := row_form HRr.out.os
            subst hv8
            by_cases hlt : i < n
            · obtain ⟨x, hx⟩ : ∃ x, A[i]? = some x := ⟨_, List.getElem?_eq_getElem (by rw [← HN.out]; exact hlt)⟩
              obtain ⟨b, off, rfl, hbl, kc⟩ := row_ints HRr.out.oa i x hx
              have HTK := Lib.hid (take_snoc hx)
              have htl : (A.take i).length = i := by rw [List.length_take, Nat.min_eq_left (by rw [← HN.out]; omega)]
              have hos := HRr.out.os
              unfold OwnsI at hos
              rw [htl] at hos HRr
              obtain ⟨k0, k1⟩ := heap2 HRr.out.hq
              have pf : ∀ j, wr.frozen? ⟨w2.heap.size, j, none⟩ = false := fun j => by simp [World.frozen?, HRr.out.hq]
              have HOWN := Lib.hid hos
              obtain ⟨j0, hj, hz0, hz1, hz2⟩ := info_parts info_int
              have HTL := Lib.hid htl
              clear hx hbl hos htl
              have hsz := HRr.out.be.size
              have HQL : Hid (w2.heap.size < wr.heap.size) := Lib.hid (Array.getElem?_eq_some_iff.1 HRr.out.hq).1
              have HQN : Hid (some w2.heap.size ≠ (Value.slice B8 i c8).ownBlock) := Lib.hid (fun e => by
                obtain ⟨cur, hc⟩ := row_type HOWN.out _ e.symm
                rw [HRr.out.hq] at hc; injection hc with hc; injection hc with _ h2; cases h2)
              go_upto_region 19 with fail
              have kA0 := ((World.cell?_of_block (a := ⟨w2.heap.size, 0, none⟩) (Below.heap_alloc wr (.cells #[.int .i64 x] 3) _ HQL.out))).trans k0
              obtain ⟨W1, hW1⟩ : ∃ W1, W1 = (wr.alloc (.cells #[.int .i64 x] 3)).drew := ⟨_, rfl⟩
              have HOW1 : Hid (W1.ownsRow w.heap.size 3 1 (.slice B8 i c8) i ((A.take i).map fun y => .int .i64 y)) := Lib.hid (by rw [hW1]; exact (HOWN.out.alloc _).drew)
              have HC1 : Hid (∀ (j : Nat) (u : Value), [Value.int .i64 x][j]? = some u → W1.cell? ((⟨wr.heap.size, 0, none⟩ : Addr).add j) = some u) := Lib.hid (by rw [hW1]; exact cell_one_new _ _ _)
              have HZ1 : Hid (W1.heap.size = wr.heap.size + 1) := Lib.hid (by rw [hW1]; simp)
              have HB1 : Hid (Below wr.heap.size wr W1) := Lib.hid (by rw [hW1]; exact ((Below.refl _ _).alloc (Nat.le_refl _) _).drew)
              have HW1 := Lib.hid hW1
              go_region_law (go_loud (rw [← HW1.out]; refine step_append_lies _ rfl (.tmp 61) (.tmp 66) 25 rfl w.heap.size 3 j0 (.int .i64 0) 1 8 Tryd.underlying25 hj hz0 hz1 hz2 rfl (by decide) (.slice B8 i c8) i ((A.take i).map fun y => .int .i64 y) (by simp [Act.eval]) HOW1.out ⟨wr.heap.size, 0, none⟩ 1 1 [.int .i64 x] (by simp [Act.eval]) rfl HC1.out (by simp [Value.oneCell']) (by decide) (by unfold maxLen; omega) (by omega) (by rw [HZ1.out]; omega) (wr.heap.size + 1) HZ1.out ?_; intro g' cap' w' hown' hgr' hor' hlt'; have hq' := hgr'.block w2.heap.size (by rw [HZ1.out]; exact Nat.lt_succ_of_lt HQL.out) (HQN.out); have hq2 := hq'.trans ((HB1.out.block _ HQL.out).trans HRr.out.hq); obtain ⟨kq0, _⟩ := heap2 hq2; have fq0 : w'.frozen? ⟨w2.heap.size, 0, none⟩ = false := by simp [World.frozen?, hq2]))
              all_goals
                have HST : Hid (RRW w (w'.setCell ⟨w2.heap.size, 0, none⟩ (.slice (some ⟨g', 0, none⟩) (i + 1) cap')) w2.heap.size (.slice (some ⟨g', 0, none⟩) (i + 1) cap') (.slice (some ⟨b, off, none⟩) n cq) (.slice R B.length cr) (A.take (i + 1)) A B) := Lib.hid (by
                  refine RRW.step HRr.out HB1.out (by unfold OwnsI; rw [HTL.out]; exact HOW1.out) ?_ hgr'
                  rw [HTK.out]
                  unfold OwnsI
                  rw [List.length_append, List.map_append, HTL.out]
                  exact hown')
                clear hown' hgr' hor' hlt' hq' hq2 kq0 fq0
                go_wp2_with fail
                exact ⟨⟨i + 1, _, by omega, by go_num, HST⟩, by simp [intOf]; omega⟩
            · obtain rfl : i = n := by omega
              have hge : ¬ (i : Int) < i := by omega
              have hta : A.take i = A := by rw [HN.out, List.take_length]
              have htl : (A.take i).length = i := by rw [hta, ← HN.out]
              rw [htl, hta] at HRr
              obtain ⟨k0, k1⟩ := heap2 HRr.out.hq
              have hcall := refSize_any B8 c8 A wr (row_ints (by have h := HRr.out.os; unfold OwnsI at h; rw [HN.out] at h; exact h)) HW.out.aa (by rw [← HN.out]; omega)
              rw [← HN.out] at hcall
              have HC := Lib.hid hcall
              have HTA := Lib.hid htl
              clear hta htl hcall
              go_wp2_with fail
              refine HC.out.mono ?_
              rintro e w5 ⟨rfl, rfl⟩
              have HP5 := Lib.hid HRr.out.p0
              by_cases h0 : shMay A = 0
              · have hsz : shSize A = places A := by unfold shSize; rw [if_pos h0]
                have H0 := Lib.hid h0
                rw [h0, hsz]
                clear h0 hsz
                by_cases hpl : places A = B.length
                · have xpl : (places A != (B.length : Int)) = false := by simp [hpl]
                  have HPL := Lib.hid hpl
                  by_cases hone : i = 1 ∧ 1 < B.length
                  · obtain ⟨h1, h2⟩ := hone
                    have x1 : ((i : Int) == 1) = true := by simp [h1]
                    have x2 : (1 : Int) < places A := by omega
                    have HO1 : Hid (A.length = 1 ∧ 1 < B.length) := Lib.hid ⟨by rw [← HN.out]; exact h1, h2⟩
                    clear hpl h1
                    go_wp2_with (refine wp_store_arr _ w.heap.size _ (.tmp 2) (.tmp 93) rfl rfl HP5.out rfl rfl _ _ rfl rfl ?_)
                    refine bodyPost_ret (results_arr rfl rfl (setRow_heap _ _ _ _ _ _ HP5.out)) rfl ?_
                    exact rread_err HRr.out.be _ mark 37 (spec_mark HS.out HT.out (by omega) HA1.out H0.out HPL.out HO1.out)
                  · have HONE : Hid (¬ (A.length = 1 ∧ 1 < B.length)) := Lib.hid (by rw [← HN.out]; exact hone)
                    go_upto_region 25 with fail
                    go_cut [92] from 14 (fun v wx => v = .bool false ∧ wx = w5)
                    case first =>
                      by_cases h1 : i = 1
                      · have x1 : ((i : Int) == 1) = true := by simp [h1]
                        have x2 : ¬ (1 : Int) < places A := fun h => hone ⟨h1, by omega⟩
                        have x3 : ¬ (1 : Int) < B.length := fun h => hone ⟨h1, by omega⟩
                        have X3 := Lib.hid x3
                        clear hpl h1 hone
                        go_wp2_with fail
                        go_meet
                        case rel => exact ⟨by first | rfl | (simp; done) | (have := X3.out; simp; omega), rfl⟩
                      · have x1 : ((i : Int) == 1) = false := by simp; omega
                        clear hpl
                        go_wp2_with fail
                        go_meet
                        case rel => exact ⟨rfl, rfl⟩
                    obtain ⟨rfl, hwc⟩ := hcut
                    subst hwc
                    clear hpl hone
                    go_wp2_with (refine wp_store_arr _ w.heap.size _ (.tmp 2) (.tmp 95) rfl rfl HP5.out rfl rfl _ _ rfl rfl ?_)
                    refine bodyPost_ret (results_arr rfl rfl (setRow_heap _ _ _ _ _ _ HP5.out)) rfl ?_
                    exact rread_ok HRr.out.be _ HP5.out _ _ A B (spec_ok HS.out HT.out (by omega) HA1.out H0.out HPL.out HONE.out) HRr.out.os HRr.out.ob HW.out.aa HW.out.ab (by rw [← HN.out]; exact hln) hlm
                · have xpl : (places A != (B.length : Int)) = true := by simpa using hpl
                  have HPN := Lib.hid hpl
                  clear hpl
                  go_wp2_with (refine wp_store_arr _ w.heap.size _ (.tmp 2) (.tmp 82) rfl rfl HP5.out rfl rfl _ _ rfl rfl ?_)
                  refine bodyPost_ret (results_arr rfl rfl (setRow_heap _ _ _ _ _ _ HP5.out)) rfl ?_
                  exact rread_err HRr.out.be _ s.size 11 (spec_len HS.out HT.out (by omega) HA1.out H0.out HPN.out)
              · have xe : (shMay A != 0) = true := by simpa using h0
                have HN0 := Lib.hid h0
                clear h0
                go_wp2_with (refine wp_store_arr _ w.heap.size _ (.tmp 2) (.tmp 77) rfl rfl HP5.out rfl rfl _ _ rfl rfl ?_)
                refine bodyPost_ret (results_arr rfl rfl (setRow_heap _ _ _ _ _ _ HP5.out)) rfl ?_
                exact rread_err HRr.out.be _ 0 17 (spec_not HS.out HT.out (by omega) HA1.out HN0.out)
    · have HBD := Lib.hid hbad
      have xe : (err != 0) = true := by rcases he with rfl | rfl <;> rfl
      clear hbad he hb hB
      go_wp2_with (refine wp_store_arr _ w.heap.size _ (.tmp 2) (.tmp 28) rfl rfl hpX rfl rfl _ _ rfl rfl ?_)
      refine bodyPost_ret (results_arr rfl rfl (setRow_heap _ _ _ _ _ _ hpX)) rfl ?_
      exact rread_err HB.out _ place err (spec_bad HS.out HBD.out)
end Go.Proofs.YtpipcpjkfgdpcaaDoor
