/- term.Names: the names of a term, rising. Condition: sizes within reach. -/
import Derived.Test.YtkdejffhdhcocaaGreatTeMN
import Derived.Test.YtkdejffhdhcocaaGreatTeSh
import Derived.Test.YtkdejffhdhcocaaGreatTeMC
import Derived.Maps.RangeWalk
import Derived.Maps.OwnSet
import Derived.Sort.KeysCollected
import Derived.Sort.OwnSorted
namespace Go.Proofs.YtkdejffhdhcocaaGreat
open Go.RowKit Go.Maps Go.WideMaps

abbrev TSs : TypeId := 59
theorem infoS : (Tryz.prog.info? TSt).map (fun i => (i.zero, i.size, i.bytes)) = some (some (.string ⟨#[]⟩), 1, 16) := by kernel_rfl
/-- what Names leaves: none where the term is great; else its names, rising, in a row of its own -/
def NamesPost (t : Tm) (w : World) (e : Ending) (w' : World) : Prop :=
  (greatT t = true ∧ e = .returned (.slice none 0 0) ∧ Below w.heap.size w w') ∨
  (greatT t = false ∧ ∃ (g cap : Nat) (l : List ByteArray), e = .returned (.slice (some ⟨g, 0, none⟩) l.length cap) ∧ Rise l ∧ (∀ s, s ∈ l ↔ s ∈ nmT t) ∧ l.length ≤ 5000 ∧
    w'.ownsRow w.heap.size TSt 1 (.slice (some ⟨g, 0, none⟩) l.length cap) l.length (l.map Value.string) ∧ Below w.heap.size w w')
abbrev ofL (x : List UInt8) : ByteArray := ⟨x.toArray⟩
theorem rise_sort {ss : List (List UInt8)} (h : ss.Nodup) : Rise ((ss.mergeSort leB).map ofL) := by
  unfold Rise
  rw [List.map_map, show ((fun s : ByteArray => s.data.toList) ∘ ofL) = id from rfl, List.map_id]
  have tr : ∀ a b c : List UInt8, leB a b = true → leB b c = true → leB a c = true := fun a b c h1 h2 => by simp only [leB, decide_eq_true_eq] at *; exact List.le_trans h1 h2
  have tt : ∀ a b : List UInt8, (leB a b || leB b a) = true := fun a b => by simp only [leB, Bool.or_eq_true, decide_eq_true_eq]; exact List.le_total a b
  have hp := List.pairwise_mergeSort tr tt ss
  have hn : (ss.mergeSort leB).Nodup := (List.mergeSort_perm ss leB).nodup_iff.2 h
  refine (hp.and hn).imp fun {a b} hab => ?_
  simp only [leB, decide_eq_true_eq] at hab
  rcases Classical.em (a < b) with h1 | h1
  · exact h1
  · exact absurd (List.le_antisymm hab.1 (List.not_lt.1 h1)) hab.2
set_option maxRecDepth 100000 in
set_option maxHeartbeats 8000000 in
theorem names_any (t : Tm) (A : Option Addr) (ca : Nat) (B : Option Addr) (cb : Nat) (K : Option Addr) (ck : Nat) (w : World) (hat : TmAt w t A B K) (hwf : WfT t) : Calls Tryz.prog 31 #[tmVal t A ca B cb K ck] w (NamesPost t w) := by
  obtain ⟨W1, hW1⟩ : ∃ W1, W1 = w.alloc (.cells (tmCells t A ca B cb K ck) TTm) := ⟨_, rfl⟩
  have hb1 : Below w.heap.size w W1 := by rw [hW1]; exact (Below.refl _ _).alloc (Nat.le_refl _) _
  have hc1 : W1.heap[w.heap.size]? = some (.cells (tmCells t A ca B cb K ck) TTm (0, 0)) := by rw [hW1]; exact heap_alloc_new w _
  have HX := Lib.hid (And.intro hb1 (And.intro hc1 (hat.on hb1)))
  have HWF := Lib.hid hwf
  have HW1 := Lib.hid hW1
  have HK : Hid (∀ W, Below W1.heap.size W1 W → W.cell? ⟨w.heap.size, 0, none⟩ = some (.int .i64 t.kind) ∧ W.cell? ⟨w.heap.size, 1, none⟩ = some (.string t.text) ∧ W.cell? ⟨w.heap.size, 2, none⟩ = some (.int .i64 t.n) ∧ W.cell? ⟨w.heap.size, 3, none⟩ = some (.slice A t.sh.length ca) ∧ W.cell? ⟨w.heap.size, 4, none⟩ = some (.slice B t.at_.length cb) ∧ W.cell? ⟨w.heap.size, 5, none⟩ = some (.slice K t.kids.length ck)) := Lib.hid fun W h => by
    have hh := (h.block _ (heap_lt HX.out.2.1)).trans HX.out.2.1
    exact ⟨cell_at hh rfl, cell_at hh rfl, cell_at hh rfl, cell_at hh rfl, cell_at hh rfl, cell_at hh rfl⟩
  clear hat hwf hb1 hc1 hW1
  cases hg : greatT t with
  | true =>
    have HG := Lib.hid hg
    go_enter Tryz.func31, Tryz.ntmps31
    go_wp2_with fail
    rw [← HW1.out]
    refine (great_any t A ca B cb K ck W1 HX.out.2.2 HWF.out).mono ?_
    rintro e w3 ⟨rfl, hb3⟩
    rw [hg]
    clear hg
    go_wp2_with fail
    go_ret
    exact .inl ⟨HG.out, rfl, HX.out.1.then_ hb3⟩
  | false =>
    have HG := Lib.hid hg
    have hmm := @run_makeMap Tryz.prog
    go_enter Tryz.func31, Tryz.ntmps31
    go_wp2_with fail
    rw [← HW1.out]
    refine (great_any t A ca B cb K ck W1 HX.out.2.2 HWF.out).mono ?_
    rintro e w2 ⟨rfl, hb2⟩
    rw [hg]
    have HB2 := Lib.hid hb2
    clear hg hb2
    go_wp2_with fail
    obtain ⟨i0, hi, hz0, hz1, hz2⟩ := info_parts infoS
    obtain ⟨W3, hW3⟩ : ∃ W3, W3 = ((w2.alloc (.map #[] 0)).alloc (.cells #[.map (some w2.heap.size)] TMp)).alloc (.cells #[.func (.func 70) #[] #[.pointer (some ⟨w2.heap.size + 1, 0, none⟩), .pointer (some ⟨w2.heap.size + 1 + 1, 0, none⟩)]] 92) := ⟨_, rfl⟩
    have hb3 : Below w2.heap.size w2 W3 := by rw [hW3]; exact (((Below.refl _ _).alloc (Nat.le_refl _) _).alloc (by simp) _).alloc (by simp; omega) _
    have hL : LookW w2 W3 w2.heap.size (w2.heap.size + 1) (w2.heap.size + 1 + 1) 0 (.map []) := by
      refine ⟨?_, ?_, ?_, Nat.le_refl _, hb3⟩
      · rw [hW3]
        exact ((World.ownsMap_made _ _ _ _).alloc _).alloc _
      · rw [hW3]
        exact (Below.heap_alloc _ _ _ (by simp)).trans (heap_new2 _ _ _)
      · rw [hW3]
        have := heap_alloc_new ((w2.alloc (.map #[] 0)).alloc (.cells #[.map (some w2.heap.size)] TMp)) (.cells #[.func (.func 70) #[] #[.pointer (some ⟨w2.heap.size + 1, 0, none⟩), .pointer (some ⟨w2.heap.size + 1 + 1, 0, none⟩)]] 92)
        simpa using this
    have HL := Lib.hid (And.intro hL hb3)
    have HW3 := Lib.hid hW3
    clear hL hb3 hW3
    rw [← HW3.out]
    have hc := size_small HG.out
    have HC := Lib.hid hc
    clear hc
    refine (look_any w2 w2.heap.size (w2.heap.size + 1) (w2.heap.size + 1 + 1) (cnt t) t w.heap.size 0 0 (.map []) W3 (Nat.le_refl _) ((PtrAt.mk HX.out.2.2 HX.out.2.1).on HB2.out) HWF.out HL.out.1 (by have := HC.out; omega)).mono ?_
    rintro e w4 ⟨rfl, D, hL4, hi4, hg4⟩
    rw [Nat.zero_add] at hL4
    have H4 := Lib.hid (And.intro hL4 (And.intro hi4 hg4))
    obtain ⟨n, hn⟩ : ∃ n, n = Maps.size D := ⟨_, rfl⟩
    have hn2 : n ≤ 5000 := by have := hL4.map.size_le; have := HC.out; omega
    have cG := cell_at hL4.gm (j := 0) rfl
    have HN := Lib.hid hn
    have HSW : Hid (w2.heap.size + 3 ≤ w4.heap.size) := Lib.hid (by
      have h1 := hg4.size
      have h2 : W3.heap.size = w2.heap.size + 3 := by rw [HW3.out]; simp
      omega)
    have hbs : i0.bytes * n ≤ 281474976710656 := by rw [hz2]; omega
    have hnm : n ≤ maxLen := by unfold maxLen; omega
    clear hL4 hi4 hg4 hn
    go_wp2_with (first
      | (at_len; refine wpList_len_own _ rfl _ TMp rfl TSt TIt Tryz.underlying91 _ w2.heap.size (cnt t) D rfl H4.out.1.map ?_; rw [← HN.out])
      | (at_make; refine wpList_make_own _ rfl _ _ TSs rfl w4.heap.size TSt i0 (.string ⟨#[]⟩) 1 Tryz.underlying59 hi hz0 hz1 _ _ _ n rfl rfl rfl hbs hnm (Nat.le_refl _) ?_; intro w5 hrow5 hg5; have cG5 := cell_at ((hg5.block _ (heap_lt H4.out.1.gm) (by simp)).trans H4.out.1.gm) (j := 0) rfl)
      | (at_range; refine wpList_range_own _ rfl _ TMp rfl TSt TIt lawS Tryz.underlying91 _ w2.heap.size (cnt t) D rfl (H4.out.1.map.kept hg5 (by simp)) ?_; intro w6 hrg6 hg6 hs6))
    go_frame
    have H6 := Lib.hid (And.intro hrow5 (And.intro hg5 (And.intro hrg6 hg6)))
    clear hrow5 hg5 hg6 hs6 cG5
    go_loopw [5] (fun v wr => ∃ (left : Lit → Bool) (c : Nat) (ss : List (List UInt8)), wr.ranges Tryz.prog TSt (plainElem Tryz.prog TIt) w2.heap.size w5.heap.size (cnt t) D left c ∧ ss.length + c ≤ n ∧
        wr.ownsRow w4.heap.size TSt 1 v ss.length (ss.map encStr) ∧ v ≠ .slice none 0 0 ∧ Hid (Collected D left ss ∧ Below w4.heap.size w4 wr))
      (fun _ wr => wr.rangeLeft w2.heap.size w5.heap.size)
    case atStart => exact ⟨_, _, [], hrg6, by rw [HN.out]; simp, H6.out.1.kept H6.out.2.2.2 (Or.inr (by simp [Value.ownBlock])), by simp, Lib.hid ⟨Collected.start D, ((Below.refl _ _).grown H6.out.2.1 (Nat.le_refl _) (fun j hj => by cases hj)).grown H6.out.2.2.2 H6.out.2.1.size (fun j hj => by cases hj)⟩⟩
    case round =>
      obtain ⟨left, c, ss, hrg, hcs, hrow, hnn, HCB⟩ := hrel
      go_wp2_with (at_next; refine wpList_next_ranges _ rfl _ rfl TSt lawS (plainElem Tryz.prog TIt) encStr (Value.int .i64) (fun key kl hk => by obtain ⟨x, hx, _⟩ := Maps.keyOf_str Tryz.underlying9 hk; exact ⟨x, hx⟩) (fun v y hv => by obtain ⟨c, rfl, _⟩ := plainElem_int_inv Tryz.underlying3 hv; exact ⟨c, rfl⟩) w2.heap.size w5.heap.size (cnt t) _ _ _ rfl hrg ?_ ?_)
      · intro hc0 hl0
        have HBW : Hid (Below w.heap.size w w4) := Lib.hid (((HX.out.1.then_ HB2.out).then_ HL.out.2).grown H4.out.2.2 (((HX.out.1.then_ HB2.out).then_ HL.out.2).size) (fun j hj => by cases hj; exact (HX.out.1.then_ HB2.out).size))
        rcases hrow.2 with ⟨hnil, _⟩ | ⟨g, cap, cur, rfl, hbase, hb, h1, h2, h3, h4⟩
        · exact absurd hnil hnn
        have hcs2 : ss.length < 4611686018427387904 := by omega
        have HR := Lib.hid (And.intro hbase (And.intro hb (And.intro h1 (And.intro h2 (And.intro h3 (And.intro h4 (And.intro hl0 hcs)))))))
        clear hbase hb h1 h2 h3 h4 hl0 hc0 hrow hnn hrg hcs
        have hl : ((ss.mergeSort leB).map ofL).length = ss.length := by simp
        have HLL := Lib.hid hl
        clear hl
        go_wp2_with fail
        refine (Tryz.slices_Sort_string g 0 cap ss wr (holds_of_block HR.out.2.1 (by simpa using HR.out.2.2.2.2.2.1)) (heap_lt HR.out.2.1) hcs2).mono ?_
        rintro e w' ⟨rfl, nn, os, rfl⟩
        go_wp2_with fail
        go_ret
        refine .inr ⟨HG.out, g, cap, (ss.mergeSort leB).map ofL, by rw [HLL.out]; rfl, rise_sort HCB.out.1.1, fun s => ?_, by rw [HLL.out]; have := HR.out.2.2.2.2.2.2.2; omega, ?_, ?_⟩
        · rw [List.mem_map]
          constructor
          · rintro ⟨x, hx, rfl⟩
            have h1 := ((HCB.out.1.2 x).1 ((List.mergeSort_perm ss leB).mem_iff.1 hx)).1
            rcases (H4.out.2.1 _).1 h1 with h2 | ⟨s', hs', e⟩
            · simp [Maps.has] at h2
            · have : x = s'.data.toList := by simpa [keyL] using e
              rw [this]
              exact hs'
          · intro hs
            refine ⟨s.data.toList, (List.mergeSort_perm ss leB).mem_iff.2 ((HCB.out.1.2 _).2 ⟨(H4.out.2.1 _).2 (.inr ⟨s, hs, rfl⟩), HR.out.2.2.2.2.2.2.1 _⟩), rfl⟩
        · rw [HLL.out, List.map_map]
          have h5 := ownsRow_sorted (w := wr) (n := nn) (os := os) (ss := ss) (ts := ss.mergeSort leB) (by simp) HR.out.1 HR.out.2.1 HR.out.2.2.1 HR.out.2.2.2.1 HR.out.2.2.2.2.1
          exact row_low h5 HBW.out.size
        · exact (HBW.out.then_ HCB.out.2).grown (grownBy_sorted _) ((HBW.out.then_ HCB.out.2).size) (fun j hj => by cases hj; exact Nat.le_trans HBW.out.size HR.out.1)
      · intro x cc kl yd yp w7 cnt2 hkey hlk hv hat hrg2 hlt hg2 hs2 hen
        obtain ⟨x', ex, rfl, _⟩ := Maps.keyOf_str Tryz.underlying9 hkey
        obtain rfl : x = x' := encStr_inj ex
        have hrow2 := hrow.kept hg2 (Or.inr (row_ne_iter hrow hrg).symm)
        have hrg3' := hrg2
        have HG2 := Lib.hid (And.intro hrow (And.intro hrg (And.intro hg2 (And.intro hrg2 (And.intro hlk hat)))))
        have HS7 : Hid (w4.heap.size ≤ w7.heap.size) := Lib.hid (Nat.le_trans HCB.out.2.size hg2.size)
        clear hs2 hg2 hrg3' hat hlk hkey ex hv hrow hrg
        go_wp2_with (at_builtin; refine wpList_append_own _ rfl _ _ TSs rfl w4.heap.size TSt i0 (.string ⟨#[]⟩) 1 16 Tryz.underlying59 hi hz0 hz1 hz2 rfl (by decide) _ _ _ rfl (hrow2.alloc _) ⟨w7.heap.size, 0, none⟩ 1 1 [encStr x] rfl rfl (cell_one_new _ _ _) (by simp [Value.oneCell', encStr]) (by unfold maxLen; omega) (by omega) (by have := HS7.out; simp; omega) ?_; intro v' w8 hown' hg3 hnil3; go_frame)
        have hrg3 := (HG2.out.2.2.2.1.alloc _).kept hg3 (row_ne_low hrow2 (Nat.lt_of_lt_of_le (by have := HSW.out; omega) (Nat.le_refl w4.heap.size))) (row_ne_iter hrow2 HG2.out.2.2.2.1)
        go_roundw
        case rel =>
          refine ⟨_, cnt2, ss ++ [x], hrg3, by simp; omega, by simpa using hown', fun hv' => by have := (hnil3.1 hv').2; omega, Lib.hid ⟨HCB.out.1.step HG2.out.2.2.2.2.1 HG2.out.2.2.2.2.2, ?_⟩⟩
          exact ((HCB.out.2.grown HG2.out.2.2.1 HCB.out.2.size (fun j hj => by cases hj; exact H6.out.2.1.size)).alloc HS7.out _).grown hg3 (by have := HS7.out; simp; omega) (fun j hj => (hrow2.lt j hj).1)
        case measure => rw [hrg3.left_eq, HG2.out.2.1.left_eq]; exact hlt
end Go.Proofs.YtkdejffhdhcocaaGreat
