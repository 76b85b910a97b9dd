/- term: Class, (*counter).add, Size, great. No condition. -/
import Derived.Test.YtkdejffhdhcocaaGreatTeM1
import Derived.LoopTactic
import Derived.Deep.QuietTactic
import Derived.BigQuiet
import Derived.Outline
namespace Go.Proofs.YtkdejffhdhcocaaGreat
open Go.RowKit

set_option maxHeartbeats 2000000 in
theorem class_k (k : Int) (v1 v2 v3 v4 v5 : Value) (w : World) : Calls Tryz.prog 66 #[.agg #[.int .i64 k, v1, v2, v3, v4, v5]] w fun e w' => e = .returned (.int .i64 (cls k)) ∧ Below w.heap.size w w' := by
  have H : k < 1 ∨ (1 ≤ k ∧ k ≤ 5) ∨ (5 < k ∧ k < 10) ∨ (10 ≤ k ∧ k ≤ 14) ∨ (14 < k ∧ k < 20) ∨ (20 ≤ k ∧ k ≤ 46) ∨ 46 < k := by omega
  have HC : Hid ((k < 1 → cls k = 0) ∧ (1 ≤ k ∧ k ≤ 5 → cls k = 1) ∧ (5 < k ∧ k < 10 → cls k = 0) ∧ (10 ≤ k ∧ k ≤ 14 → cls k = 2) ∧ (14 < k ∧ k < 20 → cls k = 0) ∧ (20 ≤ k ∧ k ≤ 46 → cls k = 3) ∧ (46 < k → cls k = 0)) := Lib.hid (by
    unfold cls
    refine ⟨fun h => ?_, fun h => ?_, fun h => ?_, fun h => ?_, fun h => ?_, fun h => ?_, fun h => ?_⟩ <;> (repeat' split) <;> omega)
  rcases H with h | ⟨h1, h2⟩ | ⟨h1, h2⟩ | ⟨h1, h2⟩ | ⟨h1, h2⟩ | ⟨h1, h2⟩ | h
  all_goals
    go_enter Tryz.func66, Tryz.ntmps66
    go_wp2_with fail
    go_ret
  · exact ⟨by rw [HC.out.1 h]; rfl, (Below.refl _ _).alloc (Nat.le_refl _) _⟩
  · exact ⟨by rw [HC.out.2.1 ⟨h1, h2⟩]; rfl, (Below.refl _ _).alloc (Nat.le_refl _) _⟩
  · exact ⟨by rw [HC.out.2.2.1 ⟨h1, h2⟩]; rfl, (Below.refl _ _).alloc (Nat.le_refl _) _⟩
  · exact ⟨by rw [HC.out.2.2.2.1 ⟨h1, h2⟩]; rfl, (Below.refl _ _).alloc (Nat.le_refl _) _⟩
  · exact ⟨by rw [HC.out.2.2.2.2.1 ⟨h1, h2⟩]; rfl, (Below.refl _ _).alloc (Nat.le_refl _) _⟩
  · exact ⟨by rw [HC.out.2.2.2.2.2.1 ⟨h1, h2⟩]; rfl, (Below.refl _ _).alloc (Nat.le_refl _) _⟩
  · exact ⟨by rw [HC.out.2.2.2.2.2.2 h]; rfl, (Below.refl _ _).alloc (Nat.le_refl _) _⟩

abbrev TC : TypeId := 109
theorem add_head (t : Tm) (d n m : Nat) : addT t d n m = if 4096 < n + 1 ∨ 256 < d then (false, n + 1, max m d) else addK t.kids (d + 1) (n + 1) (max m d) := by
  cases t with
  | mk k s n' sh a ks => simp only [addT, Tm.kids]
theorem addK_step {l : List Tm} {i : Nat} {t : Tm} (h : l[i]? = some t) (d n m : Nat) : addK (l.drop i) d n m = if (addT t d n m).1 = true then addK (l.drop (i + 1)) d (addT t d n m).2.1 (addT t d n m).2.2 else addT t d n m := by
  obtain ⟨hl, rfl⟩ := List.getElem?_eq_some_iff.1 h
  rw [List.drop_eq_getElem_cons hl]
  simp only [addK]
/-- what add leaves -/
def AddPost (c : Nat) (w0 : World) (r : Bool × Nat × Nat) (e : Ending) (w' : World) : Prop := e = .returned (.bool r.1) ∧ w'.heap[c]? = some (.cells #[.int .i64 r.2.1, .int .i64 r.2.2] TC (0, 0)) ∧ Below w0.heap.size w0 w'
theorem addT_true {t : Tm} {d n m : Nat} (h : (addT t d n m).1 = true) : addT t d n m = (true, n + cnt t, max m (d + dep t - 1)) ∧ n + cnt t ≤ 4096 ∧ d + dep t ≤ 257 := by
  have e := addT_eq t d n m
  by_cases hc : n + cnt t ≤ 4096 ∧ d + dep t ≤ 257
  · exact ⟨e.1 hc, hc⟩
  · rw [e.2 hc] at h; cases h
set_option maxRecDepth 100000 in
set_option maxHeartbeats 4000000 in
theorem add_any (N : Nat) : ∀ (t : Tm) (c b off d n m : Nat) (w0 w : World), cnt t ≤ N → w.heap[c]? = some (.cells #[.int .i64 n, .int .i64 m] TC (0, 0)) → PtrAt w0 b off t → WfT t → Below w0.heap.size w0 w → w0.heap.size ≤ c → n ≤ 4096 → d ≤ 257 → m ≤ 257 →
    Calls Tryz.prog 89 #[.pointer (some ⟨c, 0, none⟩), .pointer (some ⟨b, off, none⟩), .int .i64 d] w (AddPost c w0 (addT t d n m)) := by
  induction N with
  | zero => intro t c b off d n m w0 w h; cases t; simp [cnt] at h
  | succ N ih =>
    intro t c b off d n m w0 w hN hc hp hwf hb hc0 hn hd hm
    have HP := Lib.hid hp
    obtain ⟨A, ca, B, cb, K, ck, hlt, k0, k1, k2, k3, k4, k5', hat⟩ := hp.cells
    have HK5 : Hid (∀ W, Below w0.heap.size w0 W → W.cell? ⟨b, off + 5, none⟩ = some (.slice K t.kids.length ck)) := Lib.hid fun W h => (h.cell (p := ⟨b, off + 5, none⟩) hlt).trans k5'
    have k5 := HK5.out w hb
    obtain ⟨x0, x1⟩ := heap2 hc
    have f0 := unfrozen hc 0
    have f1 := unfrozen hc 1
    have hbc : b ≠ c := by obtain ⟨_, _, h, _⟩ := hp; omega
    have hk := hwf.node.kids
    have HWF := Lib.hid hwf
    have HC := Lib.hid hc
    have HB := Lib.hid hb
    have HAT := Lib.hid hat
    have HAD := Lib.hid (add_head t d n m)
    have IH := Lib.hid ih
    have HNN := Lib.hid hN
    clear hp hwf hc hat hb k0 k1 k2 k3 k4 k5' ih hN
    have fin : ∀ M : Nat, M = max m d → Hid (((w.setCell ⟨c, 0, none⟩ (.int .i64 ((n : Int) + 1))).setCell ⟨c, 1, none⟩ (.int .i64 M)).heap[c]? = some (.cells #[.int .i64 ((n + 1 : Nat) : Int), .int .i64 (max m d : Nat)] TC (0, 0)) ∧
        Below w0.heap.size w0 ((w.setCell ⟨c, 0, none⟩ (.int .i64 ((n : Int) + 1))).setCell ⟨c, 1, none⟩ (.int .i64 M))) := fun M hM => by
      subst hM
      refine Lib.hid ⟨?_, (HB.out.setCell hc0 _).setCell hc0 _⟩
      have e1 := Go.heap_setCell_same w c 0 _ TC (.int .i64 ((n : Int) + 1)) HC.out
      have e2 := Go.heap_setCell_same _ c 1 _ TC (.int .i64 ((max m d : Nat) : Int)) e1
      rw [e2]
      simp
    have FIN := Lib.hid fin
    clear fin
    have mx : ∃ M : Nat, Hid (M = max m d) ∧ ((m < d ∧ (m : Int) < d) ∧ d = M ∨ (d ≤ m ∧ ¬ (m : Int) < d) ∧ m = M) := by
      rcases Nat.lt_or_ge m d with h | h
      · exact ⟨d, Lib.hid (by omega), .inl ⟨⟨h, by omega⟩, rfl⟩⟩
      · exact ⟨m, Lib.hid (by omega), .inr ⟨⟨h, by omega⟩, rfl⟩⟩
    obtain ⟨M, HM, hM⟩ := mx
    by_cases h1 : 4096 < n + 1
    · have HR : Hid (addT t d n m = (false, n + 1, max m d)) := Lib.hid (by rw [HAD.out, if_pos (.inl h1)])
      rcases hM with ⟨⟨h, h'⟩, rfl⟩ | ⟨⟨h, h'⟩, rfl⟩
      all_goals
        go_enter Tryz.func89, Tryz.ntmps89
        go_wp2_with fail
        go_ret
        rw [HR.out]
        exact ⟨rfl, FIN.out _ HM.out⟩
    · have h1' : ¬ (4096 : Int) < (n : Int) + 1 := by omega
      by_cases h2 : 256 < d
      · have HR : Hid (addT t d n m = (false, n + 1, max m d)) := Lib.hid (by rw [HAD.out, if_pos (.inr h2)])
        rcases hM with ⟨⟨h, h'⟩, rfl⟩ | ⟨⟨h, h'⟩, rfl⟩
        all_goals
          go_enter Tryz.func89, Tryz.ntmps89
          go_wp2_with fail
          go_ret
          rw [HR.out]
          exact ⟨rfl, FIN.out _ HM.out⟩
      · have HR : Hid (addT t d n m = addK (t.kids.drop 0) (d + 1) (n + 1) M) := Lib.hid (by rw [HAD.out, if_neg (by omega), HM.out, List.drop_zero])
        have hM2 : M ≤ 257 := by omega
        rcases hM with ⟨⟨h, h'⟩, rfl⟩ | ⟨⟨h, h'⟩, rfl⟩
        all_goals
          go_enter Tryz.func89, Tryz.ntmps89
          go_wp2_with fail
          clear x0 x1 f0 f1 k5
          go_loopw [38] (fun v W => ∃ i n' m' : Nat, i ≤ t.kids.length ∧ v = .int .i64 i ∧ Hid (W.heap[c]? = some (.cells #[.int .i64 (n' : Int), .int .i64 (m' : Int)] TC (0, 0)) ∧ Below w0.heap.size w0 W ∧ addT t d n m = addK (t.kids.drop i) (d + 1) n' m') ∧ n' ≤ 4096 ∧ m' ≤ 257) (fun v _ => t.kids.length - (intOf v).toNat)
          case atStart => exact ⟨0, n + 1, _, Nat.zero_le _, rfl, Lib.hid ⟨by rw [(FIN.out _ HM.out).out.1, ← HM.out], (FIN.out _ HM.out).out.2, HR.out⟩, by omega, by omega⟩
          case round =>
            obtain ⟨i, n', m', hi, rfl, HI, hn', hm'⟩ := hrel
            have q5 := HK5.out _ HI.out.2.1
            by_cases hlt2 : i < t.kids.length
            · obtain ⟨k, hk2⟩ : ∃ k, t.kids[i]? = some k := ⟨_, List.getElem?_eq_getElem hlt2⟩
              obtain ⟨b', off', rfl, hpk⟩ := HAT.out.kids.get hk2
              rw [Nat.zero_add] at hpk
              have hkm := List.mem_of_getElem? hk2
              have HSTEP := Lib.hid (addK_step hk2 (d + 1) n' m')
              have HCK := Lib.hid (cnt_kid hk2)
              have HPK := Lib.hid hpk
              have HKM := Lib.hid hkm
              clear hk2 hpk hkm
              go_wp2_with fail
              refine (IH.out k c b' (off' + i * 6) (d + 1) n' m' w0 _ (by have := HCK.out; have := HNN.out; omega) HI.out.1 HPK.out (HWF.out.node.each k HKM.out) HI.out.2.1 hc0 hn' (by omega) hm').mono ?_
              rintro e w' ⟨rfl, hw1, hw2⟩
              cases hr : (addT k (d + 1) n' m').1 with
              | false =>
                have HR2 : Hid (addT t d n m = addT k (d + 1) n' m') := Lib.hid (by rw [HI.out.2.2, HSTEP.out, if_neg (by rw [hr]; decide)])
                have HW := Lib.hid (And.intro hw1 hw2)
                have HRR := Lib.hid hr
                clear hr hw1 hw2
                go_wp2_with fail
                go_ret
                rw [HR2.out]
                exact ⟨by rw [HRR.out]; rfl, HW.out⟩
              | true =>
                obtain ⟨e1, e2, e3⟩ := addT_true hr
                have HR2 : Hid (addT t d n m = addK (t.kids.drop (i + 1)) (d + 1) (n' + cnt k) (max m' (d + 1 + dep k - 1))) := Lib.hid (by rw [HI.out.2.2, HSTEP.out, if_pos hr, e1])
                rw [e1] at hw1
                have HW := Lib.hid (And.intro hw1 hw2)
                clear hr hw1 hw2 e1
                go_wp2_with fail
                exact ⟨⟨i + 1, n' + cnt k, max m' (d + 1 + dep k - 1), by omega, by go_num, Lib.hid ⟨HW.out.1, HW.out.2, HR2.out⟩, by omega, by omega⟩, by simp [intOf]; omega⟩
            · obtain rfl : i = t.kids.length := by omega
              have hge : ¬ (t.kids.length : Int) < t.kids.length := by omega
              have HR2 : Hid (addT t d n m = (true, n', m')) := Lib.hid (by rw [HI.out.2.2, List.drop_length]; simp only [addK])
              clear hlt2
              go_wp2_with fail
              go_ret
              rw [HR2.out]
              exact ⟨rfl, HI.out.1, HI.out.2.1⟩

theorem heap_new (w : World) (o : Obj) : (w.alloc o).heap[w.heap.size]? = some o := heap_alloc_new w o
theorem heap_new2 (w : World) (o o' : Obj) : ((w.alloc o).alloc o').heap[w.heap.size + 1]? = some o' := by
  have := heap_new (w.alloc o) o'
  simpa using this
set_option maxHeartbeats 2000000 in
theorem size_any (t : Tm) (A : Option Addr) (ca : Nat) (B : Option Addr) (cb : Nat) (K : Option Addr) (ck : Nat) (w : World) (hat : TmAt w t A B K) (hwf : WfT t) :
    Calls Tryz.prog 42 #[tmVal t A ca B cb K ck] w fun e w' => e = .returned (.tuple #[.int .i64 ((sizeT t).1 : Int), .int .i64 ((sizeT t).2 : Int)]) ∧ Below w.heap.size w w' := by
  have hb0 : Below w.heap.size w (w.alloc (.cells (tmCells t A ca B cb K ck) 38)) := (Below.refl _ _).alloc (Nat.le_refl _) _
  have HADD := Lib.hid (add_any (cnt t) t (w.heap.size + 1) w.heap.size 0 1 0 0 (w.alloc (.cells (tmCells t A ca B cb K ck) 38)) ((w.alloc (.cells (tmCells t A ca B cb K ck) 38)).alloc (.cells #[.int .i64 0, .int .i64 0] TC)) (Nat.le_refl _) (heap_new2 _ _ _) (PtrAt.mk (hat.on hb0) (heap_new _ _)) hwf ((Below.refl _ _).alloc (Nat.le_refl _) _) (by simp) (by decide) (by decide) (by decide))
  have HB0 := Lib.hid hb0
  have HS := Lib.hid (add_size t)
  clear hat hwf hb0
  go_enter Tryz.func42, Tryz.ntmps42
  go_wp2_with fail
  refine HADD.out.mono ?_
  rintro e w' ⟨rfl, hw1, hw2⟩
  have hb := Lib.hid (HB0.out.then_ hw2)
  cases hr : (addT t 1 0 0).1 with
  | false =>
    have HS' : Hid (sizeT t = (4097, 257)) := Lib.hid (by rw [← HS.out, if_neg (by rw [hr]; decide)])
    have HR := Lib.hid hr
    clear hr hw1 hw2
    go_wp2_with fail
    go_ret2
    rw [HS'.out]
    exact ⟨rfl, hb.out⟩
  | true =>
    have HS' : Hid (sizeT t = (addT t 1 0 0).2) := Lib.hid (by rw [← HS.out, if_pos hr])
    have HR := Lib.hid hr
    obtain ⟨x0, x1⟩ := heap2 hw1
    clear hr hw1 hw2
    go_wp2_with fail
    go_quiet (fail)
    go_wp2_with fail
    go_ret2
    rw [HS'.out]
    exact ⟨rfl, bdn hb.out _⟩
set_option maxHeartbeats 2000000 in
theorem great_any (t : Tm) (A : Option Addr) (ca : Nat) (B : Option Addr) (cb : Nat) (K : Option Addr) (ck : Nat) (w : World) (hat : TmAt w t A B K) (hwf : WfT t) :
    Calls Tryz.prog 68 #[tmVal t A ca B cb K ck] w fun e w' => e = .returned (.bool (greatT t)) ∧ Below w.heap.size w w' := by
  have hb0 : Below w.heap.size w (w.alloc (.cells (tmCells t A ca B cb K ck) 38)) := (Below.refl _ _).alloc (Nat.le_refl _) _
  have HSZ := Lib.hid (size_any t A ca B cb K ck _ (hat.on hb0) hwf)
  have HB0 := Lib.hid hb0
  have hsz : Hid (greatT t = decide (4096 < (sizeT t).1)) := Lib.hid (by
    unfold sizeT greatT
    split
    · rename_i h; rw [h]; rfl
    · rename_i h
      simp only [decide_eq_true_eq] at h
      rw [decide_eq_false h, decide_eq_false (by omega)])
  clear hat hwf hb0
  go_enter Tryz.func68, Tryz.ntmps68
  go_wp2_with fail
  refine HSZ.out.mono ?_
  rintro e w' ⟨rfl, hw⟩
  have hb := Lib.hid (HB0.out.then_ hw)
  clear hw
  go_wp2_with fail
  go_ret
  rw [hsz.out]
  exact ⟨by simp; omega, hb.out⟩
end Go.Proofs.YtkdejffhdhcocaaGreat
