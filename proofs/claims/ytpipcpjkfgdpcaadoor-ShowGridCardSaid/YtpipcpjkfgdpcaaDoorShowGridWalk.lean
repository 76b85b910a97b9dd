/- The walk of ShowGrid: it returns true. Conditions: the listed variables of Go's library are as laid; sizes within reach. -/
import Derived.Test.YtpipcpjkfgdpcaaDoorShGr2
import Derived.Deep.QuietTactic
namespace Go.Proofs.YtpipcpjkfgdpcaaDoor
open Go.RowKit
attribute [local go_sem] Oper.semAt_some

theorem may_errg {s a : List Int} (h : arMay s a = 0) : textErr s a = 0 ∧ textOf s a = text s a := by
  unfold textErr textOf
  rw [if_pos h, if_pos h]
  exact ⟨rfl, rfl⟩
theorem not_errg {s a : List Int} (h : arMay s a ≠ 0) : textErr s a = 1 := by
  unfold textErr
  rw [if_neg h]

theorem text_small {s a : List Int} (h0 : arMay s a = 0) (hk : s.length < 2) (ha : a.length ≠ 0) : text s a = joined a := by
  obtain ⟨_, hP, _, _⟩ := may_parts h0
  unfold text
  rw [if_neg ha]
  by_cases h : s.length = 0
  · rw [if_pos h]
    have hs : s = [] := List.length_eq_zero_iff.1 h
    subst hs
    have h1 : places [] = 1 := rfl
    have hl : a.length = 1 := by omega
    match a, hl with
    | [x], _ => simp [joined, atomAt]
  · rw [if_neg h, if_pos (by omega)]
/-- the two ways in which a list's text stands to its atoms' -/
theorem list_texts {a : List Int} (h0 : a.length ≠ 0) (h4 : a.length ≤ 4096) (h64 : All64 a) (S T : ByteArray) (hS : S = ⟨(joined a).toArray⟩) (hT : T = ⟨(flatOf [(a.length : Int)] a).toArray⟩) :
    (a.length ≠ 1 → T = S) ∧ (a.length = 1 → (T.toList == S.toList) = false ∧ (S.toList == T.toList) = false ∧ (T.toList == (⟨#[49, 32, 36, 32]⟩ ++ S : ByteArray).toList) = true ∧ ((⟨#[49, 32, 36, 32]⟩ ++ S : ByteArray).toList == T.toList) = true) ∧ S.size ≤ 100000 := by
  obtain ⟨_, f1, f2⟩ := flat_of_list (a := a) (by omega) h4
  have hl := joined_len a h64
  refine ⟨fun h => by rw [hT, hS, f1 h], fun h => ?_, by rw [hS]; simp [ByteArray.size]; omega⟩
  have e : T = ⟨#[49, 32, 36, 32]⟩ ++ S := by
    rw [hT, hS, f2 h, ByteArray.mk_append_mk]
    first | done | rfl
  have hne : T ≠ S := fun he => by
    have h1 := congrArg ByteArray.size he
    rw [e, ByteArray.size_append] at h1
    have h2 : (⟨#[49, 32, 36, 32]⟩ : ByteArray).size = 4 := rfl
    omega
  have inj : ∀ x y : ByteArray, x.toList = y.toList → x = y := fun x y he => by
    rw [Lib.toList_data, Lib.toList_data] at he
    rw [← byteArray_eta x, ← byteArray_eta y, he]
  exact ⟨beq_eq_false_iff_ne.2 fun he => hne (inj _ _ he), beq_eq_false_iff_ne.2 fun he => hne (inj _ _ he).symm, by rw [e]; exact beq_self_eq_true _, by rw [e]; exact beq_self_eq_true _⟩

theorem splitK_len (sep : List UInt8) (save : Nat) : ∀ (k : Nat) (s : List UInt8), (Lib.splitK sep save k s).length ≤ k + 1
  | 0, _ => by simp [Lib.splitK]
  | k + 1, s => by
    unfold Lib.splitK
    split
    · simp
    · have := splitK_len sep save k (s.drop ((Lib.index s sep).toNat + sep.length))
      simp only [List.length_cons]; omega
theorem cuts_len (c : UInt8) (t : List UInt8) : (cutsAt c t).length ≤ t.length + 1 := by
  have h1 := splitK_len [c] 0 (t.count c) t
  have h2 := List.count_le_length (a := c) (l := t)
  unfold cutsAt
  omega
/-- the words of the rows that are done -/
def OwnsW (w : World) (B : Nat) (v : Value) (l : List (List UInt8)) : Prop := w.ownsRow B 9 1 v l.length (l.map fun x => .string ⟨x.toArray⟩)
theorem OwnsW.on {w w' : World} {B : Nat} {v : Value} {l : List (List UInt8)} (h : OwnsW w B v l) (hb : Below w.heap.size w w') : OwnsW w' B v l := World.ownsRow.kept h (grown_below hb none) (by cases v.ownBlock <;> simp)
theorem emp_str : ((⟨([] : List UInt8).toArray⟩ : ByteArray).toList == (⟨#[]⟩ : ByteArray).toList) = true := by rw [show (⟨([] : List UInt8).toArray⟩ : ByteArray) = ⟨#[]⟩ from rfl]; exact beq_self_eq_true _
theorem ne_str {l : List UInt8} (h : l ≠ []) : ((⟨l.toArray⟩ : ByteArray).toList == (⟨#[]⟩ : ByteArray).toList) = false := by
  refine beq_eq_false_iff_ne.2 fun e => h ?_
  rw [Lib.toList_data, Lib.toList_data] at e
  exact e

theorem info_strg : (Tryd.prog.info? 9).map (fun i => (i.zero, i.size, i.bytes)) = some (some (.string ⟨#[]⟩), 1, 16) := by kernel_rfl
theorem lenFrom_le (a : List Int) (m N : Nat) (h : All64 a) : ∀ n c, lenFrom a m N n c ≤ 22 * n
  | 0, _ => Nat.le_refl _
  | n + 1, c => by
    have h1 := wd_le a m c h N
    have h2 := lenFrom_le a m N h n (c + 1)
    rw [lenFrom]
    split <;> omega
theorem row_ascii (a : List Int) (m N p : Nat) : ∀ b ∈ rowT a m N p, b.toNat < 128 := fun b hb => by
  rcases rowFrom_bytes a m N m (p * m) b hb with h | h
  · rw [h]; decide
  · omega
theorem owns_txts {w : World} {B : Nat} {v : Value} {l : List (List UInt8)} (h : OwnsW w B v l) (hne : 0 < l.length) : ∃ g cp, v = .slice (some ⟨g, 0, none⟩) l.length cp ∧ l.length ≤ cp ∧ cp ≤ 9223372036854775807 ∧ TxtsAt w g 0 l := by
  rcases h.2 with ⟨_, h0⟩ | ⟨g, cap, cur, rfl, _, hb, hle, hcm, _, ht⟩
  · omega
  · refine ⟨g, cap, rfl, hle, hcm, (Array.getElem?_eq_some_iff.1 hb).1, fun j x hj => ?_⟩
    have h1 : (cur.toList.take (l.length * 1))[j]? = some (.string ⟨x.toArray⟩) := by rw [ht, List.getElem?_map, hj]; rfl
    rw [List.getElem?_take, if_pos (by have := (List.getElem?_eq_some_iff.1 hj).1; omega)] at h1
    rw [Nat.zero_add]
    simpa [World.cell?, hb] using h1
theorem owns_len {w : World} {B : Nat} {v : Value} {l : List (List UInt8)} (h : OwnsW w B v l) : ∃ A cp, v = .slice A l.length cp := by
  rcases h.2 with ⟨rfl, h0⟩ | ⟨g, cap, cur, rfl, _⟩
  · exact ⟨none, 0, by rw [h0]⟩
  · exact ⟨_, _, rfl⟩

set_option maxHeartbeats 32000000 in
set_option maxRecDepth 100000 in
theorem showGrid_any (A B : Option Addr) (ca cb : Nat) (s a : List Int) (w : World) (hp : Pow10 w) (hm : MaxLenAt w) (hat : AscTab w) (h1 : ArrAt w A B s a) (hs : All64 s) (ha : All64 a) (ls : s.length ≤ 4611686018427387904) (la : a.length ≤ 4611686018427387904) (hca : s.length ≤ ca) (hca2 : ca ≤ 9223372036854775807) :
    Calls Tryd.prog 7 #[.agg #[.slice A s.length ca, .slice B a.length cb]] w fun e w' => e = .returned (.bool true) ∧ Below w.heap.size w w' := by
  obtain ⟨W0, hW0⟩ : ∃ W0, W0 = w.alloc (.cells #[.slice A s.length ca, .slice B a.length cb] 36) := ⟨_, rfl⟩
  have k3 : Below w.heap.size w W0 := by rw [hW0]; exact (Below.refl _ _).alloc (Nat.le_refl _) _
  have k1 : W0.heap[w.heap.size]? = some (.cells #[.slice A s.length ca, .slice B a.length cb] 36 (0, 0)) := by rw [hW0]; exact heap_alloc_new w _
  have HW : Hid (∀ w', Below W0.heap.size W0 w' → ArrAt w' A B s a ∧ (w'.cell? ⟨w.heap.size, 0, none⟩ = some (.slice A s.length ca) ∧ w'.cell? ⟨w.heap.size, 1, none⟩ = some (.slice B a.length cb)) ∧ Below w.heap.size w w' ∧ Pow10 w' ∧ MaxLenAt w' ∧ AscTab w') := Lib.hid fun w' h =>
    ⟨h1.on (k3.then_ h), heap2 ((h.block _ ((Array.getElem?_eq_some_iff.1 k1).1)).trans k1), k3.then_ h, hp.on (k3.then_ h), hm.on (k3.then_ h), hat.on (k3.then_ h)⟩
  have H64 := Lib.hid (And.intro hs ha)
  have HL := Lib.hid (And.intro ls (And.intro la (And.intro hca hca2)))
  have HW0 := Lib.hid hW0
  obtain ⟨k, hk⟩ : ∃ k, k = s.length := ⟨_, rfl⟩
  obtain ⟨N, hN⟩ : ∃ N, N = a.length := ⟨_, rfl⟩
  have HK := Lib.hid (And.intro hk hN)
  rw [← hk, ← hN] at HW HW0 ⊢
  clear k1 k3 h1 hp hm hat hs ha hW0 ls la hca hca2 hk hN
  go_enter Tryd.func7, Tryd.ntmps7
  go_wp2_with fail
  rw [← HW0.out]
  have hB0 := Below.refl W0.heap.size W0
  refine (begun_any W0 (HW.out W0 hB0).2.2.2.1).mono ?_
  rintro e w1 ⟨rfl, hb1⟩
  have HB1 := Lib.hid hb1
  obtain ⟨_, ⟨x0, x1⟩, _⟩ := HW.out w1 hb1
  have HT : Hid (Calls Tryd.prog 13 #[.agg #[.slice A k ca, .slice B N cb]] w1 fun e w' => e = .returned (.tuple #[.string ⟨(textOf s a).toArray⟩, .int .i64 (textErr s a)]) ∧ Below w1.heap.size w1 w') := Lib.hid (by
    obtain ⟨q1, _, _, q2, _⟩ := HW.out w1 hb1
    rw [HK.out.1, HK.out.2]
    exact text_any A B ca cb s a w1 q1.1 q1.2 H64.out.1 H64.out.2 (HL.out.1) (HL.out.2.1) q2)
  clear hb1 hB0
  go_wp2_with fail
  refine HT.out.mono ?_
  rintro e w2 ⟨rfl, hb2⟩
  have HB2 := Lib.hid (HB1.out.then_ hb2)
  clear x0 x1 hb2 HT
  obtain ⟨_, ⟨x0, x1⟩, _⟩ := HW.out w2 HB2.out
  have HM : Hid (Calls Tryd.prog 14 #[.agg #[.slice A k ca, .slice B N cb]] w2 fun e w' => e = .returned (.int .i64 (arMay s a)) ∧ Below w2.heap.size w2 w') := Lib.hid (by
    obtain ⟨q1, _⟩ := HW.out w2 HB2.out
    rw [HK.out.1, HK.out.2]
    exact arrMay_any A B ca cb s a w2 q1.1 H64.out.1 HL.out.1)
  go_wp2_with fail
  refine HM.out.mono ?_
  rintro e w3 ⟨rfl, hb3⟩
  have HB3 := Lib.hid (HB2.out.then_ hb3)
  clear x0 x1 hb3 HM
  by_cases h0 : arMay s a = 0
  · obtain ⟨e1, e2⟩ := may_errg h0
    rw [e1, e2, h0]
    have H0 := Lib.hid h0
    obtain ⟨_, _, h8, h4⟩ := may_parts h0
    rw [← HK.out.1] at h8
    rw [← HK.out.2] at h4
    obtain ⟨_, ⟨x0, x1⟩, _⟩ := HW.out w3 HB3.out
    clear h0 e1 e2
    by_cases hn0 : N = 0
    · have xn : ((N : Int) == 0) = true := by simp [hn0]
      have ht : text s a = [] := by unfold text; rw [if_pos (by rw [← HK.out.2]; exact hn0)]
      rw [ht]
      clear hn0 ht
      go_wp2_with fail
      go_ret
      exact ⟨by first | rfl | simp, (HW.out w3 HB3.out).2.2.1⟩
    · have xn : ((N : Int) == 0) = false := beq_eq_false_iff_ne.2 (by omega)
      by_cases hk2 : k < 2
      · have xk : (k : Int) < 2 := by omega
        have hN0 : 0 < N := by omega
        obtain ⟨S, hS⟩ : ∃ S : ByteArray, S = ⟨(joined a).toArray⟩ := ⟨_, rfl⟩
        have HS := Lib.hid hS
        rw [text_small H0.out (by rw [← HK.out.1]; exact hk2) (by rw [← HK.out.2]; exact hn0), ← hS]
        have HLI : Hid (Calls Tryd.prog 22 #[.slice B N cb] w3 fun e w' => ∃ (S A : Option Addr) (cs ca : Nat), e = .returned (.tuple #[.agg #[.slice S 1 cs, .slice A N ca], .int .i64 0]) ∧ IntsAt w' S [(N : Int)] ∧ IntsAt w' A a ∧ Below w3.heap.size w3 w') := Lib.hid (by
          have h := list_any B cb a w3 (HW.out w3 HB3.out).1.2 (by rw [← HK.out.2]; exact hN0) (by rw [← HK.out.2]; exact h4)
          rw [← HK.out.2] at h
          exact h)
        clear hS
        go_wp2_with fail
        refine HLI.out.mono ?_
        rintro e w4 ⟨S4, A4, cs4, ca4, rfl, hi1, hi2, hb4⟩
        obtain ⟨W4, hW4⟩ : ∃ W4, W4 = w4.alloc (.cells #[.slice S4 1 cs4, .slice A4 N ca4] 36) := ⟨_, rfl⟩
        have hb4' : Below w4.heap.size w4 W4 := by rw [hW4]; exact (Below.refl _ _).alloc (Nat.le_refl _) _
        have HB4 := Lib.hid (HB3.out.then_ (hb4.then_ hb4'))
        have HFL : Hid (Calls Tryd.prog 12 #[.agg #[.slice S4 1 cs4, .slice A4 N ca4]] W4 fun e w' => e = .returned (.tuple #[.string ⟨(flatOf [(N : Int)] a).toArray⟩, .int .i64 0]) ∧ Below W4.heap.size W4 w') := Lib.hid (by
          have hf := (flat_of_list (a := a) (by rw [← HK.out.2]; exact hN0) (by rw [← HK.out.2]; exact h4)).1
          have h := flat_any S4 A4 cs4 ca4 [(N : Int)] a W4 (hi1.on hb4') (hi2.on hb4') (fun x hx => by rw [List.mem_singleton] at hx; subst hx; constructor <;> omega) H64.out.2 (by simp) (HW.out W4 HB4.out).2.2.2.1
          rw [← HK.out.2] at hf h
          have e0 : textErr [(N : Int)] a = 0 := by unfold textErr; rw [if_pos hf]
          rw [e0] at h
          exact h)
        have HW4 := Lib.hid hW4
        obtain ⟨y0, y1⟩ := heap2 (show W4.heap[w4.heap.size]? = _ by rw [hW4]; exact heap_alloc_new w4 _)
        rw [hW4] at y0 y1
        clear hi1 hi2 hb4 hb4' hW4 HLI x0 x1
        go_wp2_with fail
        rw [← HW4.out]
        refine HFL.out.mono ?_
        rintro e w5 ⟨rfl, hb5⟩
        have HB5 := Lib.hid (HB4.out.then_ hb5)
        obtain ⟨T, hT⟩ : ∃ T : ByteArray, T = ⟨(flatOf [(N : Int)] a).toArray⟩ := ⟨_, rfl⟩
        rw [← hT]
        have HTX := list_texts (a := a) (by rw [← HK.out.2]; exact hn0) (by rw [← HK.out.2]; exact h4) H64.out.2 S T HS.out (by rw [← HK.out.2]; exact hT)
        rw [← HK.out.2] at HTX
        obtain ⟨t1, t2, t3⟩ := HTX
        obtain ⟨_, ⟨x0, x1⟩, hbe, _⟩ := HW.out w5 HB5.out
        have HBE := Lib.hid hbe
        clear hb5 hT y0 y1 HFL hbe
        by_cases h1 : N = 1
        · obtain ⟨u1, _, u3, _⟩ := t2 h1
          have xn1 : ((N : Int) == 1) = true := by simp [h1]
          have u4 : ¬ 9223372036854775807 < 4 + S.size := by omega
          clear t1 t2 h1
          go_wp2_with fail
          go_ret
          exact ⟨by first | rfl | simp, HBE.out⟩
        · obtain rfl := t1 h1
          clear t1 t2 h1
          go_wp2_with fail
          go_ret
          exact ⟨by first | rfl | simp, HBE.out⟩
      · have xk : ¬ (k : Int) < 2 := by omega
        obtain ⟨s0, m, R, hsd, hm1, hR1, hall, hM0, hP0, hRm, htx, htk, hm4⟩ := grid_parts H0.out (by rw [← HK.out.1]; omega) (by rw [← HK.out.2]; exact hn0)
        obtain ⟨k1, hk1⟩ : ∃ k1, k1 = s0.length := ⟨_, rfl⟩
        have hkk : k = k1 + 1 := by rw [HK.out.1, hsd, List.length_append, List.length_singleton, hk1]
        rw [← HK.out.2] at hRm htx
        have hk1p : 1 ≤ k1 := by omega
        have hRN : R ≤ 4096 := by have : R ≤ R * m := Nat.le_mul_of_pos_right R (by omega); omega
        subst hkk
        obtain ⟨b, off, rfl, hbl, kc⟩ := (HW.out w3 HB3.out).1.1 k1 (m : Int) (by rw [hsd, List.getElem?_append_right (by omega), hk1, Nat.sub_self]; rfl)
        have HG := Lib.hid (And.intro hsd (And.intro hall (And.intro hM0 (And.intro hP0 (And.intro htk hk1)))))
        have HRM := Lib.hid hRm
        rw [htx]
        have hq : ((N : Int).tdiv (m : Int)) = (R : Int) := by rw [Int.tdiv_eq_ediv_of_nonneg (by omega), ← hRm, Int.natCast_mul, Int.mul_ediv_cancel _ (by omega)]
        have hm0 : ¬ (m : Int) = 0 := by omega
        have HTL : Hid ((sufT s a m N R 0).length < 4294967281) := Lib.hid (by
          rw [← htx]
          have h := grid_len s a m N H64.out.2 (by rw [← HK.out.1]; omega) N
          have e : text s a = grid s a m N N := by
            have h2 := grid_suf s a m N (by omega) R 0
            rw [Nat.zero_add, Nat.zero_mul, hRm] at h2
            rw [h2, htx]
            rfl
          rw [e]
          omega)
        obtain ⟨n, hn⟩ : ∃ n, R = n + 1 := ⟨R - 1, by omega⟩
        have HCUT : Hid (cutsAt 10 (sufT s a m N R 0) = lines s a m N R 0) := Lib.hid (by
          rw [hn]
          exact cut_lines s a m N hm1 n 0 (by rw [Nat.zero_add, ← hn]; exact hRm))
        clear hsd hall hM0 hP0 htk hk1 htx hbl hn hRm
        go_wp2_with fail
        go_quiet (fail)
        go_wp2_with fail
        generalize hx : World.drewN w3 _ = W4
        have hb4 : Below w3.heap.size w3 W4 := by rw [← hx]; exact bdn (Below.refl _ _) _
        have HB4 := Lib.hid (HB3.out.then_ hb4)
        clear hx hb4 kc x0 x1 hq
        refine (split_any (sufT s a m N R 0) W4 (HW.out W4 HB4.out).2.2.2.2.1 HTL.out).mono ?_
        rintro e w5 ⟨lb, rfl, htx, hb5⟩
        rw [HCUT.out] at htx ⊢
        have hLn := cuts_len 10 (sufT s a m N R 0)
        rw [HCUT.out] at hLn
        have hLn2 := HTL.out
        obtain ⟨L, hL⟩ : ∃ L, L = lines s a m N R 0 := ⟨_, rfl⟩
        rw [← hL] at htx hLn ⊢
        obtain ⟨nl, hnl⟩ : ∃ nl, nl = L.length := ⟨_, rfl⟩
        rw [← hnl] at hLn ⊢
        have hnl2 : nl ≤ 4294967282 := by omega
        have HB5 := Lib.hid (HB4.out.then_ hb5)
        have HLL := Lib.hid (And.intro hL hnl)
        have HTX : Hid (∀ w', Below w5.heap.size w5 w' → ∀ j x, L[j]? = some x → w'.cell? ⟨lb, j, none⟩ = some (.string ⟨x.toArray⟩)) := Lib.hid fun w' h j x hj => by
          have := (htx.on h).2 j x hj
          rwa [Nat.zero_add] at this
        clear hb5 htx hLn hL hnl hLn2
        go_wp2_with fail
        go_loopw [12, 13, 14] (fun v12 v13 v14 wr => ∃ (i row e : Nat), i ≤ nl ∧ row ≤ R ∧ v14 = .int .i64 i ∧ v12 = .int .i64 row ∧ Hid (Pos s a m N R L i row e) ∧ Hid (OwnsW wr w5.heap.size v13 (wordsFrom a (row * m) 0)) ∧ Hid (Below w5.heap.size w5 wr)) (fun _ _ v14 _ => nl - (intOf v14).toNat)
        case atStart =>
          exact ⟨0, 0, 0, Nat.zero_le _, Nat.zero_le _, rfl, rfl, Lib.hid (by rw [HLL.out.1]; exact Pos.start s a m N R), Lib.hid (by rw [Nat.zero_mul]; exact World.ownsRow_nil _ _ _ _), Lib.hid (Below.refl _ _)⟩
        case round =>
          obtain ⟨i, row, e, hi, hrow, rfl, rfl, HPos, HOW, HBr⟩ := hrel
          obtain ⟨W6, rfl⟩ : ∃ W6, W6 = wr := ⟨_, rfl⟩
          by_cases hlt : i < nl
          · have ht := HTX.out W6 HBr.out
            cases e with
            | succ e =>
              obtain ⟨h1, h2⟩ := HPos.out.empty
              have kl := ht i _ h1
              have HP2 := Lib.hid h2
              have hes := emp_str
              clear ht h1 h2
              go_wp2_with fail
              exact ⟨⟨i + 1, row, e, by omega, hrow, by go_num, rfl, HP2, HOW, HBr⟩, by simp [intOf]; omega⟩
            | zero =>
              have hrR : row < R := Classical.byContradiction fun hc => by
                have h1 : row = R := by omega
                subst h1
                have := HPos.out.end_
                rw [← HLL.out.2] at this
                omega
              obtain ⟨h1, h2⟩ := HPos.out.line hrR
              have kl := ht i _ h1
              have HP2 := Lib.hid h2
              have hes : (rowT a m N row).isEmpty = false := by
                cases hx : rowT a m N row with
                | nil => exact absurd hx (rowT_ne a m N row hm1)
                | cons _ _ => rfl
              clear h1 h2 ht
              go_upto_if 107 with fail
              go_cut [107] from 95 to 179 (fun v wx => Hid (Below W6.heap.size W6 wx))
              case first =>
                by_cases hr0 : row = 0
                · subst hr0
                  go_wp2_with fail
                  go_meet
                  case rel => exact Lib.hid (Below.refl _ _)
                · have hr1 : (0 : Int) < row := by omega
                  obtain ⟨_, ⟨x0, x1⟩, _⟩ := HW.out W6 (HB5.out.then_ HBr.out)
                  have hkc : k1 ≤ ca := by have := HL.out.2.2.1; have := HK.out.1; omega
                  have hca2 : ca ≤ 9223372036854775807 := HL.out.2.2.2
                  have HAT := Lib.hid (at_any (some ⟨b, off, none⟩) ca s0 row W6 (fun j x hj => (HW.out W6 (HB5.out.then_ HBr.out)).1.1 j x (by rw [HG.out.1, List.getElem?_append_left (List.getElem?_eq_some_iff.1 hj).1]; exact hj)) (fun x hx => H64.out.1 x (by rw [HG.out.1]; simp [hx]))
                    (fun x hx => ⟨(HG.out.2.1 x hx).1, by have := (HG.out.2.1 x hx).2; omega⟩) (by have := HG.out.2.2.2.2.2; have := HK.out.1; omega) HG.out.2.2.1 (by unfold shSize; rw [if_pos HG.out.2.2.1, HG.out.2.2.2.1]; omega) (by omega))
                  rw [← HG.out.2.2.2.2.2] at HAT
                  go_wp2_with fail
                  refine HAT.out.mono ?_
                  rintro e w7 ⟨g, rfl, hb7, _, hT⟩
                  have HB67 := Lib.hid (HBr.out.then_ hb7)
                  have HB7 := Lib.hid hb7
                  have HTT := Lib.hid hT
                  clear hb7 hT x0 x1 HAT kl hes
                  go_wp2_with fail
                  go_loopw [17, 18] (fun v17 v18 wr => ∃ t q an : Nat, v17 = .int .i64 an ∧ v18 = .int .i64 t ∧ an + t + 1 = k1 ∧ 1 ≤ q ∧ q ≤ 9223372036854775807 ∧ Hid ((idx s0 row).take (t + 1) = idx (s0.take (t + 1)) q) ∧ Hid ((q : Int) < places (s0.take (t + 1))) ∧
                    Hid (trail s0 ((row : Int) - 1) = an + trail (s0.take (t + 1)) ((q : Int) - 1)) ∧ Hid (Below w7.heap.size w7 wr)) (fun _ v18 _ => (intOf v18).toNat)
                  case atStart =>
                    refine ⟨k1 - 1, row, 0, rfl, by go_num, by omega, by omega, by omega, ?_, ?_, ?_, Lib.hid (Below.refl _ _)⟩
                    · refine Lib.hid ?_
                      rw [show k1 - 1 + 1 = s0.length by have := HG.out.2.2.2.2.2; omega, List.take_length, List.take_of_length_le (by rw [idx_len]; exact Nat.le_refl _)]
                    · refine Lib.hid ?_
                      rw [show k1 - 1 + 1 = s0.length by have := HG.out.2.2.2.2.2; omega, List.take_length, HG.out.2.2.2.1]
                      omega
                    · refine Lib.hid ?_
                      rw [show k1 - 1 + 1 = s0.length by have := HG.out.2.2.2.2.2; omega, List.take_length, Nat.zero_add]
                  case round =>
                    obtain ⟨t, q, an, rfl, rfl, hsum, hq1, hq2, HI1, HI2, HI3, HBl⟩ := hrel
                    have htl : t < s0.length := by have := HG.out.2.2.2.2.2; omega
                    obtain ⟨x, hx⟩ : ∃ x, s0[t]? = some x := ⟨_, List.getElem?_eq_getElem htl⟩
                    have hxa := HG.out.2.1 x (List.mem_of_getElem? hx)
                    obtain ⟨xn, rfl⟩ : ∃ xn : Nat, x = xn := ⟨x.toNat, by omega⟩
                    have hx1 : 1 ≤ xn := by omega
                    have hit := idx_take (p := (q : Int)) hx
                    have hti : (idx s0 row)[t]? = some ((q : Int) % (xn : Int)) := by
                      have h : ((idx s0 row).take (t + 1))[t]? = some ((q : Int) % (xn : Int)) := by rw [HI1.out]; exact hit.1
                      rw [List.getElem?_take, if_pos (by omega)] at h
                      exact h
                    have kt := (HTT.out.on HBl.out).cell hti
                    have hqm : ((q : Int) % (xn : Int)) = ((q % xn : Nat) : Int) := by simp
                    have hts := trail_step hx hx1 hq1
                    rw [hqm] at kt
                    cases t with
                    | zero =>
                      have hqx : q < xn := by
                        have h := HI2.out
                        rw [take_snoc hx, places_snoc, List.take_zero] at h
                        have h1 : places [] = 1 := rfl
                        rw [h1] at h
                        omega
                      have han : trail s0 ((row : Int) - 1) = an := by have h := HI3.out; rw [hts, Nat.mod_eq_of_lt hqx, if_neg (by omega)] at h; omega
                      obtain ⟨t, ht0⟩ : ∃ t, t = 0 := ⟨_, rfl⟩
                      have hsum : an + t + 1 = k1 := by omega
                      have htp : ¬ (0 : Int) < ((0 : Nat) : Int) := by omega
                      clear hx hit hti hqm hts kt
                      obtain ⟨f, b1, b2, b3, b4⟩ := HPos.out.back (by omega) hrR
                      rw [HG.out.2.2.2.2.1, Nat.add_zero] at b1
                      obtain rfl : f = an := by rw [b1, han]
                      obtain ⟨ia, hia⟩ : ∃ ia, i = ia + f + 1 := ⟨i - f - 1, by omega⟩
                      have hk1' : f + t + 1 = k1 := hsum
                      have hidx : (i : Int) - (f : Int) - 1 = (ia : Int) := by omega
                      have hbi : ¬ (i : Int) < (f : Int) + 1 := by omega
                      have kl1 := HTX.out wr (HB67.out.then_ HBl.out) ia _ (by rw [show ia = i - f - 1 by omega]; exact b3)
                      have hes1 : (rowT a m N (row - 1)).isEmpty = false := by
                        cases hx : rowT a m N (row - 1) with
                        | nil => exact absurd hx (rowT_ne a m N (row - 1) hm1)
                        | cons _ _ => rfl
                      have HBF := Lib.hid (HB7.out.then_ HBl.out)
                      by_cases hf0 : f = 0
                      · have hfp : ¬ (0 : Int) < f := by omega
                        clear b1 b2 b3 b4 hia hf0 han
                        go_wp2_with fail
                        go_meet
                        case rel => exact HBF
                      · have hfp : (0 : Int) < f := by omega
                        have kl2 := HTX.out wr (HB67.out.then_ HBl.out) (i - 1) _ (b4 1 (by omega) (by omega))
                        have hidx2 : (i : Int) - 1 = ((i - 1 : Nat) : Int) := by omega
                        clear b1 b2 b3 b4 hia hf0 han
                        go_wp2_with fail
                        go_meet
                        case rel => exact HBF
                    | succ t' =>
                      have htp : (0 : Int) < ((t' + 1 : Nat) : Int) := by omega
                      by_cases hz : q % xn = 0
                      · rw [hz] at kt
                        have HNX : Hid ((idx s0 row).take (t' + 1) = idx (s0.take (t' + 1)) ((q / xn : Nat) : Int)) := Lib.hid (by
                          have h : ((idx s0 row).take (t' + 1 + 1)).take (t' + 1) = idx (s0.take (t' + 1)) ((q : Int) / (xn : Int)) := by rw [HI1.out]; exact hit.2
                          rw [List.take_take, Nat.min_eq_left (by omega)] at h
                          rw [h, Int.natCast_ediv])
                        have HNX2 : Hid ((((q / xn : Nat) : Int)) < places (s0.take (t' + 1))) := Lib.hid (by
                          have h := HI2.out
                          rw [take_snoc hx, places_snoc] at h
                          rw [Int.natCast_ediv]
                          exact Int.ediv_lt_of_lt_mul (by omega) h)
                        have HNX3 : Hid (trail s0 ((row : Int) - 1) = (an + 1) + trail (s0.take (t' + 1)) (((q / xn : Nat) : Int) - 1)) := Lib.hid (by
                          rw [HI3.out, hts, if_pos hz]
                          omega)
                        have hqd : 1 ≤ q / xn := (Nat.one_le_div_iff (by omega)).2 (Nat.le_of_dvd (by omega) (Nat.dvd_of_mod_eq_zero hz))
                        have hqd2 : q / xn ≤ 9223372036854775807 := Nat.le_trans (Nat.div_le_self _ _) hq2
                        clear hx hit hti hqm hts hz
                        go_wp2_with fail
                        exact ⟨⟨t', q / xn, an + 1, by go_num, by go_num, by omega, hqd, hqd2, HNX, HNX2, HNX3, HBl⟩, by simp [intOf]⟩
                      · have hzb : (((q % xn : Nat) : Int) == 0) = false := beq_eq_false_iff_ne.2 (by omega)
                        obtain ⟨zq, hzq⟩ : ∃ zq, zq = q % xn := ⟨_, rfl⟩
                        rw [← hzq] at kt hzb
                        have han : trail s0 ((row : Int) - 1) = an := HI3.out.trans (by rw [hts, if_neg hz, Nat.add_zero])
                        obtain ⟨t, ht0⟩ : ∃ t, t = t' + 1 := ⟨_, rfl⟩
                        have hsum : an + t + 1 = k1 := by omega
                        clear hx hit hti hqm hts hz hzq
                        obtain ⟨f, b1, b2, b3, b4⟩ := HPos.out.back (by omega) hrR
                        rw [HG.out.2.2.2.2.1, Nat.add_zero] at b1
                        obtain rfl : f = an := by rw [b1, han]
                        obtain ⟨ia, hia⟩ : ∃ ia, i = ia + f + 1 := ⟨i - f - 1, by omega⟩
                        have hk1' : f + t + 1 = k1 := hsum
                        have hidx : (i : Int) - (f : Int) - 1 = (ia : Int) := by omega
                        have hbi : ¬ (i : Int) < (f : Int) + 1 := by omega
                        have kl1 := HTX.out wr (HB67.out.then_ HBl.out) ia _ (by rw [show ia = i - f - 1 by omega]; exact b3)
                        have hes1 : (rowT a m N (row - 1)).isEmpty = false := by
                          cases hx : rowT a m N (row - 1) with
                          | nil => exact absurd hx (rowT_ne a m N (row - 1) hm1)
                          | cons _ _ => rfl
                        have HBF := Lib.hid (HB7.out.then_ HBl.out)
                        by_cases hf0 : f = 0
                        · have hfp : ¬ (0 : Int) < f := by omega
                          clear b1 b2 b3 b4 hia hf0 han
                          go_wp2_with fail
                          go_meet
                          case rel => exact HBF
                        · have hfp : (0 : Int) < f := by omega
                          have kl2 := HTX.out wr (HB67.out.then_ HBl.out) (i - 1) _ (b4 1 (by omega) (by omega))
                          have hidx2 : (i : Int) - 1 = ((i - 1 : Nat) : Int) := by omega
                          clear b1 b2 b3 b4 hia hf0 han
                          go_wp2_with fail
                          go_meet
                          case rel => exact HBF
              obtain ⟨W8, rfl⟩ : ∃ W8, W8 = wc := ⟨_, rfl⟩
              have HBc : Hid (Below w5.heap.size w5 W8) := Lib.hid (HBr.out.then_ hcut.out)
              have HOWc : Hid (OwnsW W8 w5.heap.size u13 (wordsFrom a (row * m) 0)) := Lib.hid (HOW.out.on hcut.out)
              have kl := HTX.out W8 HBc.out i _ (HPos.out.line hrR).1
              have kl0 := HTX.out W8 HBc.out 0 _ (show L[0]? = some (rowT a m N 0) by
                rw [HLL.out.1]
                obtain ⟨q, hq⟩ : ∃ q, R = q + 1 := ⟨R - 1, by omega⟩
                rw [hq]
                rfl)
              have hlen : (rowT a m N row).length = (rowT a m N 0).length := by
                have hr1 : (row + 1) * m ≤ R * m := Nat.mul_le_mul_right m (by omega)
                have hr2 : (0 + 1) * m ≤ R * m := Nat.mul_le_mul_right m (by omega)
                rw [rowT_len a m N row (by rw [← HRM.out]; exact hr1), rowT_len a m N 0 (by rw [← HRM.out]; exact hr2)]
              have hlt0 : (0 : Int) < nl := by omega
              clear hcut hes
              go_wp2_with fail
              go_quiet (fail)
              go_wp2_with fail
              generalize hx : World.drewN W8 _ = W9
              have hb9 : Below W8.heap.size W8 W9 := by rw [← hx]; exact bdn (Below.refl _ _) _
              have HB9 := Lib.hid (HBc.out.then_ hb9)
              have HOW9 := Lib.hid (HOWc.out.on hb9)
              have hrl : (rowT a m N row).length < 4294967281 := by
                have hr1 : (row + 1) * m ≤ R * m := Nat.mul_le_mul_right m (by omega)
                rw [rowT_len a m N row (by rw [← HRM.out]; exact hr1)]
                have := lenFrom_le a m N H64.out.2 m 0
                omega
              have HFI := Lib.hid (fields_any (rowT a m N row) W9 (HW.out W9 (HB5.out.then_ HB9.out)).2.2.2.2.2 hrl (row_ascii a m N row))
              rw [fields_rowT, words_length] at HFI
              clear hx hb9 hrl kl kl0 hlen
              refine HFI.out.mono ?_
              rintro e w10 ⟨fb, rfl, htf, hb10⟩
              have HB10 := Lib.hid (HB9.out.then_ hb10)
              have HOW10 := Lib.hid (HOW9.out.on hb10)
              have HTF := Lib.hid htf
              have hwl : (wordsFrom a (row * m) 0).length = row * m := words_length a _ _
              have hrm1 : row * m ≤ R * m := Nat.mul_le_mul_right m (by omega)
              have hNb := HRM.out
              have HOA : Hid (w10.ownsRow w5.heap.size 9 1 u13 (row * m) ((wordsFrom a (row * m) 0).map fun x => .string ⟨x.toArray⟩)) := Lib.hid (by
                have h := HOW10.out
                unfold OwnsW at h
                rw [hwl] at h
                exact h)
              have HNW : Hid (∀ (j : Nat) (u : Value), ((wordsFrom a m (row * m)).map fun x => Value.string ⟨x.toArray⟩)[j]? = some u → w10.cell? ((⟨fb, 0, none⟩ : Addr).add j) = some u) := Lib.hid fun j u hu => by
                rw [List.getElem?_map] at hu
                obtain ⟨y, hy, rfl⟩ := Option.map_eq_some_iff.1 hu
                rw [Addr.add_lit]
                exact HTF.out.2 j y hy
              obtain ⟨j0, hj, hz0, hz1, hz2⟩ := info_parts info_strg
              have hsz := HB10.out.size
              clear htf hb10 HFI
              go_wp2_with (at_builtin; refine wpList_append_lies _ rfl (.tmp 171) (.tmp 176) 50 rfl w5.heap.size 9 j0 (.string ⟨#[]⟩) 1 16 Tryd.underlying50 hj hz0 hz1 hz2 rfl (by decide) u13 (row * m) ((wordsFrom a (row * m) 0).map fun x => .string ⟨x.toArray⟩) rfl HOA.out ⟨fb, 0, none⟩ m m ((wordsFrom a m (row * m)).map fun x => .string ⟨x.toArray⟩) rfl (by rw [List.length_map, words_length, Nat.mul_one]) HNW.out (fun u hu => by obtain ⟨y, _, rfl⟩ := List.mem_map.1 hu; rfl) hm1 (by unfold maxLen; omega) (by omega) hsz _ rfl ?_)
              intro g2 cap2 w11 hown hgr hor hltg
              have HOW11 : Hid (OwnsW w11 w5.heap.size (.slice (some ⟨g2, 0, none⟩) (row * m + m) cap2) (wordsFrom a ((row + 1) * m) 0)) := Lib.hid (by
                unfold OwnsW
                rw [words_length, Nat.add_mul, Nat.one_mul, words_add, List.map_append, Nat.zero_add]
                exact hown)
              have HB11 : Hid (Below w5.heap.size w5 w11) := Lib.hid (HB10.out.grown hgr HB10.out.size (fun k hk => (HOA.out.lt k hk).1))
              clear hown hgr hor hltg hj hz0 hz1 hz2 hsz
              go_wp2_with fail
              exact ⟨⟨i + 1, row + 1, _, by omega, by omega, by go_num, by go_num, HP2, HOW11, HB11⟩, by simp [intOf]; omega⟩
          · obtain rfl : i = nl := by omega
            have hge : ¬ (i : Int) < i := by omega
            obtain rfl : row = R := Classical.byContradiction fun hc => by
              have := HPos.out.more (by omega)
              rw [← HLL.out.2] at this
              omega
            have HOW' : Hid (OwnsW W6 w5.heap.size u13 (wordsFrom a N 0)) := Lib.hid (by rw [← HRM.out]; exact HOW.out)
            have hwl : (wordsFrom a N 0).length = N := words_length a _ _
            have hN0 : 0 < N := by omega
            obtain ⟨g, cp, rfl, hcp, hcp2, htx⟩ := owns_txts HOW'.out (by rw [hwl]; exact hN0)
            rw [hwl] at hcp
            obtain ⟨S, hS⟩ : ∃ S : ByteArray, S = ⟨(joined a).toArray⟩ := ⟨_, rfl⟩
            have HS := Lib.hid hS
            have HB6 := Lib.hid (HB5.out.then_ HBr.out)
            obtain ⟨_, ⟨x0, x1⟩, _⟩ := HW.out W6 HB6.out
            have HJ : Hid (∀ w', Below W6.heap.size W6 w' → Calls Tryd.prog 26 #[.slice (some ⟨g, 0, none⟩) N cp, .string ⟨#[32]⟩] w' fun e w'' => e = .returned (.string S) ∧ Below w'.heap.size w' w'') := Lib.hid (fun w' hb => by
              have hl := joined_len a H64.out.2
              have hNa := HK.out.2
              have h := join_any g 0 cp (wordsFrom a N 0) w' (htx.on hb) (by rw [hwl]; omega) (by rw [hwl]; exact hcp) (by rw [hNa, joined_words]; omega)
              rw [hwl] at h
              rw [hNa, joined_words, ← hNa, ← hS] at h
              exact h)
            have HLI : Hid (Calls Tryd.prog 22 #[.slice B N cb] W6 fun e w' => ∃ (S A : Option Addr) (cs ca : Nat), e = .returned (.tuple #[.agg #[.slice S 1 cs, .slice A N ca], .int .i64 0]) ∧ IntsAt w' S [(N : Int)] ∧ IntsAt w' A a ∧ Below W6.heap.size W6 w') := Lib.hid (by
              have h := list_any B cb a W6 (HW.out W6 HB6.out).1.2 (by rw [← HK.out.2]; exact hN0) (by rw [← HK.out.2]; exact h4)
              rw [← HK.out.2] at h
              exact h)
            rw [hwl]
            clear hS hlt hwl htx HOW HOW'
            go_wp2_with fail
            refine HLI.out.mono ?_
            rintro e w8 ⟨S4, A4, cs4, ca4, rfl, hi1, hi2, hb8⟩
            obtain ⟨W8, hW8⟩ : ∃ W8, W8 = w8.alloc (.cells #[.slice S4 1 cs4, .slice A4 N ca4] 36) := ⟨_, rfl⟩
            have hb8' : Below w8.heap.size w8 W8 := by rw [hW8]; exact (Below.refl _ _).alloc (Nat.le_refl _) _
            have HB68 := Lib.hid (hb8.then_ hb8')
            have HB8 := Lib.hid (HB6.out.then_ HB68.out)
            have HFL : Hid (Calls Tryd.prog 12 #[.agg #[.slice S4 1 cs4, .slice A4 N ca4]] W8 fun e w' => e = .returned (.tuple #[.string ⟨(flatOf [(N : Int)] a).toArray⟩, .int .i64 0]) ∧ Below W8.heap.size W8 w') := Lib.hid (by
              have hf := (flat_of_list (a := a) (by rw [← HK.out.2]; exact hN0) (by rw [← HK.out.2]; exact h4)).1
              have h := flat_any S4 A4 cs4 ca4 [(N : Int)] a W8 (hi1.on hb8') (hi2.on hb8') (fun x hx => by rw [List.mem_singleton] at hx; subst hx; constructor <;> omega) H64.out.2 (by simp) (HW.out W8 HB8.out).2.2.2.1
              rw [← HK.out.2] at hf h
              have e0 : textErr [(N : Int)] a = 0 := by unfold textErr; rw [if_pos hf]
              rw [e0] at h
              exact h)
            have HW8 := Lib.hid hW8
            obtain ⟨y0, y1⟩ := heap2 (show W8.heap[w8.heap.size]? = _ by rw [hW8]; exact heap_alloc_new w8 _)
            rw [hW8] at y0 y1
            clear hi1 hi2 hb8 hb8' hW8 HLI x0 x1
            go_wp2_with fail
            rw [← HW8.out]
            refine HFL.out.mono ?_
            rintro e w9 ⟨rfl, hb9⟩
            obtain ⟨T, hT⟩ : ∃ T : ByteArray, T = ⟨(flatOf [(N : Int)] a).toArray⟩ := ⟨_, rfl⟩
            rw [← hT]
            have HTXT := list_texts (a := a) (by rw [← HK.out.2]; exact hn0) (by rw [← HK.out.2]; exact h4) H64.out.2 S T HS.out (by rw [← HK.out.2]; exact hT)
            rw [← HK.out.2] at HTXT
            have HTT := Lib.hid HTXT
            have HB69 := Lib.hid (HB68.out.then_ hb9)
            clear hb9 hT y0 y1 HFL HTXT
            go_wp2_with fail
            refine (HJ.out w9 HB69.out).mono ?_
            rintro e w10 ⟨rfl, hb10⟩
            have HB10 := Lib.hid (HB6.out.then_ (HB69.out.then_ hb10))
            obtain ⟨_, ⟨x0, x1⟩, hbe, _⟩ := HW.out w10 HB10.out
            obtain ⟨t1, t2, t3⟩ := HTT.out
            have HBE := Lib.hid hbe
            clear hb10 hbe HJ
            by_cases h1 : N = 1
            · obtain ⟨_, u1, _, u3⟩ := t2 h1
              have u4 : ¬ 9223372036854775807 < 4 + S.size := by omega
              clear t1 t2 h1
              go_wp2_with fail
              go_ret
              exact ⟨by first | rfl | simp, HBE.out⟩
            · obtain rfl := t1 h1
              clear t1 t2 h1
              go_wp2_with fail
              go_ret
              exact ⟨by first | rfl | simp, HBE.out⟩
  · have e1 := not_errg h0
    rw [e1]
    have xm : (arMay s a != 0) = true := by simpa using h0
    clear h0
    go_wp2_with fail
    go_ret
    exact ⟨by first | rfl | simp, (HW.out w3 HB3.out).2.2.1⟩
end Go.Proofs.YtpipcpjkfgdpcaaDoor
