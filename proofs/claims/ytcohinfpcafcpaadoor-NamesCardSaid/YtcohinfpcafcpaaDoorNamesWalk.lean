/- The walk of Names: it returns true and leaves all memory that was there as it was. Condition: the table of powers of ten is as its initialiser lays it. -/
import Derived.Test.YtcohinfpcafcpaaDoorBase
import Derived.Test.YtcohinfpcafcpaaDoorShelf
import Derived.Great.BuildSlice
import Derived.Deep.DeepCutAuto
import Derived.Deep.QuietTactic
import Derived.BigQuiet
namespace Go.Proofs.YtcohinfpcafcpaaDoor
open Go.RowKit
def wants : List Int := [0, 1, 2, 3, 4, 5, 10, 11, 12, 13, 14, 15, 16, 17, 18, 20, 21, 22, 30, 31, 32, 33, 34, 35, 36, 37, 39, 8, 4096, 4096, 256, 2048, 320, 32, 64, 16, 32, 64, 4294967296, 4294967296, 4096, 1048576, 256, 512, 16, 256, 64, 9223372036854775807, -9223372036854775808, 1, 2, 3, 4, 5, 10, 11, 12, 13, 14, 20, 21, 22, 23, 24, 25, 26, 27, 28, 29, 30, 31, 32, 33, 34, 35, 36, 37, 38, 39, 40, 41, 42, 43, 44, 45, 46, 1, 2, 3, 1, 2, 3, 4, 5, 6, 7, 8, 9, 10, 11, 12, 13, 14, 15, 16, 17, 18, 19, 20, 21, 22, 23, 24, 25, 26, 27, 28, 29, 30, 31, 32, 33, 34, 35, 36, 37, 38, 39, 40, 41, 42, 43, 43, 16384, 131072, 16384, 512, 1, 2, 3, 4, 5, 6, 7, 8, 9, 10, 11, 12, 13, 14, 15, 16, 17, 18, 19, 20, 21, 22, 23]
def errs : List Int := [0, 1, 2, 3, 4, 5, 10, 11, 12, 13, 14, 15, 16, 17, 18, 20, 21, 22, 30, 31, 32, 33, 34, 35, 36, 37, 39]

def lat (l : List Int) (k : Nat) : Int := l.getD k 0
/-- block g reads as the list -/
def RowsAs (w : World) (g : Nat) (l : List Int) : Prop := ∀ k, k < l.length → w.cell? ⟨g, k, none⟩ = some (.int .i64 (lat l k))
theorem num_any (n : Int) (w : World) : Calls Tryd.prog 9 #[.int .i64 n] w fun e w' => e = .returned (.int .i64 n) ∧ w = w' := by
  go_enter Tryd.func9, Tryd.ntmps9
  go_wp2
  go_ret
  exact ⟨rfl, rfl⟩
theorem errs_at (k : Nat) (hk : k < 27) : (errs.map (Value.int .i64)).toArray[k]? = some (.int .i64 (lat errs k)) := by
  simp [lat, List.getD, show k < errs.length from hk]
theorem errs_apart (i j : Nat) (hi : i < 27) (hj : j < i) : (lat errs i == lat errs j) = false := by
  unfold lat
  have h : ∀ i : Fin 27, ∀ j : Fin 27, j.val < i.val → (errs.getD i.val 0 == errs.getD j.val 0) = false := by decide +kernel
  exact h ⟨i, hi⟩ ⟨j, by omega⟩ hj
theorem qidx {w : World} {g : Nat} {l : List Int} (h : RowsAs w g l) (k : Nat) (hk : k < l.length) : w.cell? ⟨g, k, none⟩ = some (.int .i64 (lat l k)) := h k hk

theorem RowsAs.below {w w' : World} {g B : Nat} {l : List Int} (h : RowsAs w g l) (hb : Below B w w') (hg : g < B) : RowsAs w' g l :=
  fun k hk => (hb.cell (p := ⟨g, k, none⟩) hg).trans (h k hk)
theorem itoa_any (n : Int) (h0 : -9223372036854775808 ≤ n) (h1 : n ≤ 9223372036854775807) (w : World) (htab : Lib.TabIs Tryd.prog w "internal/strconv.uint64pow10" .u64 Lib.pow10Tab) :
    Calls Tryd.prog 17 #[.int .i64 n] w fun e w' => e = .returned (.string ⟨(Lib.itoa n).toArray⟩) ∧ Below w.heap.size w w' :=
  (Tryd.strconv_Itoa n h0 h1 w htab).mono fun _ _ ⟨he, k, os, hw⟩ => ⟨he, by subst hw; exact below_grow (bdn (Below.refl _ _) _) (Nat.le_refl _) os⟩
theorem itoa_lit (n : Int) (l : List UInt8) (hl : Lib.itoa n = l) (h0 : -9223372036854775808 ≤ n) (h1 : n ≤ 9223372036854775807) (w : World) (htab : Lib.TabIs Tryd.prog w "internal/strconv.uint64pow10" .u64 Lib.pow10Tab) :
    Calls Tryd.prog 17 #[.int .i64 n] w fun e w' => e = .returned (.string ⟨l.toArray⟩) ∧ Below w.heap.size w w' :=
  (itoa_any n h0 h1 w htab).mono fun _ _ ⟨he, hb⟩ => ⟨by rw [he, hl], hb⟩
theorem err_over (w : World) (htab : Lib.TabIs Tryd.prog w "internal/strconv.uint64pow10" .u64 Lib.pow10Tab) : Calls Tryd.prog 10 #[.int .i64 14] w fun e w' => e = .returned (.string ⟨#[101, 114, 114, 111, 114, 32, 49, 52]⟩) ∧ Below w.heap.size w w' := by
  have H := Lib.hid htab
  clear htab
  go_enter Tryd.func10, Tryd.ntmps10
  go_wp2_with (go_at_call 17; refine (itoa_lit 14 [49, 52] (by decide +kernel) (by decide) (by decide) _ H.out).mono ?_; rintro e w' ⟨rfl, hb⟩)
  go_ret
  exact ⟨rfl, hb⟩
theorem err_ok (w : World) (htab : Lib.TabIs Tryd.prog w "internal/strconv.uint64pow10" .u64 Lib.pow10Tab) : Calls Tryd.prog 10 #[.int .i64 0] w fun e w' => e = .returned (.string ⟨#[101, 114, 114, 111, 114, 32, 48]⟩) ∧ Below w.heap.size w w' := by
  have H := Lib.hid htab
  clear htab
  go_enter Tryd.func10, Tryd.ntmps10
  go_wp2_with (go_at_call 17; refine (itoa_lit 0 [48] (by decide +kernel) (by decide) (by decide) _ H.out).mono ?_; rintro e w' ⟨rfl, hb⟩)
  go_ret
  exact ⟨rfl, hb⟩
theorem err_neg (w : World) (htab : Lib.TabIs Tryd.prog w "internal/strconv.uint64pow10" .u64 Lib.pow10Tab) : Calls Tryd.prog 10 #[.int .i64 (-3)] w fun e w' => e = .returned (.string ⟨#[101, 114, 114, 111, 114, 32, 45, 51]⟩) ∧ Below w.heap.size w w' := by
  have H := Lib.hid htab
  clear htab
  go_enter Tryd.func10, Tryd.ntmps10
  go_wp2_with (go_at_call 17; refine (itoa_lit (-3) [45, 51] (by decide +kernel) (by decide) (by decide) _ H.out).mono ?_; rintro e w' ⟨rfl, hb⟩)
  go_ret
  exact ⟨rfl, hb⟩

set_option maxRecDepth 100000 in
set_option maxHeartbeats 1000000 in
theorem names_any (w : World) (htab : ∀ w', Below w.heap.size w w' → Lib.TabIs Tryd.prog w' "internal/strconv.uint64pow10" .u64 Lib.pow10Tab) : Calls Tryd.prog 3 #[] w fun e w' => e = .returned (.bool true) ∧ Below w.heap.size w w' := by
  have HT := Lib.hid htab
  clear htab
  go_enter Tryd.func3, Tryd.ntmps3
  go_upto_region 2 with (refine wpList_buildFlat rfl 22 3 160 _ rfl .i64 wants (by kernel_rfl) (by kernel_rfl) (by kernel_rfl) (by kernel_rfl) (by decide) (by decide) (by kernel_rfl) ?_)
  go_cut [1, 2] (fun s1 s2 wx => ∃ g1 g2 : Nat, s1 = .slice (some ⟨g1, 0, none⟩) 160 160 ∧ s2 = .slice (some ⟨g2, 0, none⟩) 160 160 ∧ RowsAs wx g1 wants ∧ RowsAs wx g2 wants ∧ Below w.heap.size w wx)
  case first =>
    go_wp2_with (refine wpList_buildFlat rfl 22 3 160 _ rfl .i64 wants (by kernel_rfl) (by kernel_rfl) (by kernel_rfl) (by kernel_rfl) (by decide) (by decide) (by kernel_rfl) ?_)
    go_meet
    refine ⟨w.heap.size, w.heap.size + 1, rfl, rfl, ?_, ?_, ?_⟩
    · intro k hk
      rw [World.cell?_alloc_lt _ _ ⟨w.heap.size, k, none⟩ (by simp)]
      rw [World.cell?_alloc_new]
      simp [lat, List.getD, hk]
    · intro k hk
      rw [World.cell?_alloc_at _ _ _ _ (by simp)]
      simp [lat, List.getD, hk]
    · exact ((Below.refl _ _).alloc (Nat.le_refl _) _).alloc (by simp) _
  case rest =>
    obtain ⟨g1, g2, rfl, rfl, h1, h2, hb⟩ := hcut
    have H1 := Lib.hid h1
    have H2 := Lib.hid h2
    clear h1 h2
    go_wp2_with fail
    go_loopw [3] (fun v3 wr => ∃ k : Nat, k ≤ 160 ∧ v3 = .int .i64 k ∧ RowsAs wr g1 wants ∧ RowsAs wr g2 wants ∧ Below w.heap.size w wr) (fun v3 _ => 160 - (intOf v3).toNat)
    case atStart => exact ⟨0, by omega, rfl, H1.out, H2.out, hb⟩
    case round =>
      obtain ⟨k, hk, rfl, h1, h2, hbr⟩ := hrel
      have H1 := Lib.hid h1
      have H2 := Lib.hid h2
      clear h1 h2
      by_cases hlt : k < 160
      · have c1 := qidx H1.out k hlt
        have c2 := qidx H2.out k hlt
        go_wp2
        go_quiet (fail)
        go_wp2
        exact ⟨⟨k + 1, by omega, by go_num, H1.out, H2.out, bdn hbr _⟩, by simp [intOf]; omega⟩
      · go_upto_region 10 with fail
        go_cut [4] (fun s4 wx => ∃ g4 : Nat, s4 = .slice (some ⟨g4, 0, none⟩) 27 27 ∧ RowsAs wx g4 errs ∧ Below w.heap.size w wx)
        case first =>
          go_wp2
          go_meet
          refine ⟨wr.heap.size, rfl, ?_, hbr.alloc hbr.size _⟩
          intro k hk
          rw [World.cell?_alloc_new]
          match k, hk with
          | k, hk => exact errs_at k hk
        case rest =>
          obtain ⟨g4, rfl, h4, hb4⟩ := hcut
          have H4 := Lib.hid h4
          clear h4 H1 H2
          go_wp2_with fail
          go_loopw [5] (fun v5 wq => ∃ i : Nat, i ≤ 27 ∧ v5 = .int .i64 i ∧ RowsAs wq g4 errs ∧ Below w.heap.size w wq) (fun v5 _ => 27 - (intOf v5).toNat)
          case atStart => exact ⟨0, by omega, rfl, H4.out, hb4⟩
          case round =>
            obtain ⟨i, hi, rfl, h4, hbq⟩ := hrel
            have H4 := Lib.hid h4
            clear h4
            by_cases hlt : i < 27
            · go_wp2_with fail

              go_loopw [6] (fun v6 wz => ∃ j : Nat, j ≤ i ∧ v6 = .int .i64 j ∧ RowsAs wz g4 errs ∧ Below w.heap.size w wz) (fun v6 _ => 27 - (intOf v6).toNat)
              case atStart => exact ⟨0, by omega, rfl, H4.out, hbq⟩
              case round =>
                obtain ⟨j, hj, rfl, h4, hbz⟩ := hrel
                have H4 := Lib.hid h4
                clear h4
                by_cases hjt : j < i
                · have c1 := qidx H4.out j (by show j < 27; omega)
                  have c2 := qidx H4.out i hlt
                  have hne := errs_apart i j hlt hjt
                  go_wp2
                  go_quiet (fail)
                  go_wp2
                  exact ⟨⟨j + 1, by omega, by go_num, H4.out, bdn hbz _⟩, by simp [intOf]; omega⟩
                · go_wp2
                  exact ⟨⟨i + 1, by omega, by go_num, H4.out, hbz⟩, by simp [intOf]; omega⟩
            · go_wp2_with fail
              refine (err_over _ (HT.out _ hbq)).mono ?_
              rintro e w1 ⟨rfl, hb1⟩
              have hq1 := hbq.trans (hb1.mono hbq.size)
              go_wp2_with fail
              refine (err_ok _ (HT.out _ hq1)).mono ?_
              rintro e w2 ⟨rfl, hb2⟩
              have hq2 := hq1.trans (hb2.mono hq1.size)
              go_wp2_with fail
              refine (err_neg _ (HT.out _ hq2)).mono ?_
              rintro e w3 ⟨rfl, hb3⟩
              have hq3 := hq2.trans (hb3.mono hq2.size)
              go_wp2_with (go_at_call 9; refine (num_any _ _).mono ?_; rintro e w' ⟨rfl, rfl⟩)
              go_ret
              exact ⟨rfl, hq3⟩
end Go.Proofs.YtcohinfpcafcpaaDoor
