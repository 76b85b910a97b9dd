/- show.digits: a number's text: '_' ahead where it is below 0, then its decimal digits. Condition: strconv's table of powers is as laid. -/
import Derived.Test.YtpipcpjkfgdpcaaDoorShBuild
import Derived.Lib.Walk
import Derived.BigCall
import Derived.BigGuard
namespace Go.Proofs.YtpipcpjkfgdpcaaDoor
open Go.RowKit Go.Sort

theorem fin_zero (w : World) (o : Obj) (dk : Array UInt8) (k : Nat) : ∃ os, (putRow (fun (b : UInt8) => Value.int .u8 (b.toNat : Int)) (w.alloc o) w.heap.size 0 dk).drewN k = grow (w.drewN k) os := by
  rw [alloc_eq_grow]
  obtain ⟨os', _, e⟩ := putRow_grow_new (fun (b : UInt8) => Value.int .u8 (b.toNat : Int)) w #[o] w.heap.size 0 dk (Nat.le_refl _)
  exact ⟨os', by rw [e]; rfl⟩

set_option maxHeartbeats 6400000 in
set_option maxRecDepth 100000 in
theorem formatUint_in (u : Nat) (hu64 : u < 18446744073709551616) (w : World) (hp : Pow10 w) :
    Calls Tryd.prog 84 #[.int .u64 u, .int .i64 10] w fun e w' => e = .returned (.string ⟨(Lib.decDigits u).toArray⟩) ∧ Below w.heap.size w w' := by
  by_cases hs : u < 100
  · have hlt : (u : Int) < 100 := by omega
    have hcv : IntKind.i64.wrap (u : Int) = u := by rw [IntKind.wrap_i64]; omega
    go_enter Tryd.func84, Tryd.ntmps84
    go_wp2_with (go_at_call 99; refine (Tryd.internal_strconv_small u hs _).mono ?_; rintro e w' ⟨rfl, rfl⟩)
    go_ret
    exact ⟨rfl, Below.refl _ _⟩
  · have hge : ¬ (u : Int) < 100 := by omega
    have hu1 : 1 ≤ u := by omega
    have hnd20 : Lib.nDigits u ≤ 20 := by have := Lib.numDigits_eq u hu1 hu64; split at this <;> omega
    have hal : Tryd.prog.arrayLen 165 = 24 := by kernel_rfl
    have hsl : ∀ W, (Instr.sliceAt 165 (.pointer (some ⟨w.heap.size, 0, none⟩)) none (some (.int .i64 (Lib.nDigits u : Int))) none).run Tryd.prog W = .ok (.slice (some ⟨w.heap.size, 0, none⟩) (Lib.nDigits u) 24) W := fun W => by
      rw [run_sliceAt_array_h W 165 ⟨w.heap.size, 0, none⟩ (by kernel_rfl) .i64 (Lib.nDigits u : Int) (by omega) (by rw [hal]; omega)]
      have hel : Tryd.prog.elem 165 = 5 := by kernel_rfl
      rw [hel, Tryd.sizeOf5]
      simp [Result.andThen, hal, slicedAt]
      rfl
    have hH0 := Lib.holds_zero0 w 165 (Lib.nDigits u) (by omega)
    have hfmt := Tryd.internal_strconv_formatBase10 w.heap.size 0 24 u (Array.replicate (Lib.nDigits u) 0) (w.alloc (.cells Lib.zeros24 165)) hH0 (by rw [Array.size_replicate]; exact Lib.lt_pow_nDigits u) hu64 (by rw [Array.size_replicate]; omega)
    rw [Array.size_replicate] at hfmt
    have HH0 := Lib.hid hH0
    have HP := Lib.hid hp
    clear hH0 hal hp
    go_enter Tryd.func84, Tryd.ntmps84
    go_wp2_with (go_at_call 100; refine (Tryd.internal_strconv_numDigits u hu1 hu64 _ (Lib.tabIs_alloc HP.out.here _)).mono ?_; rintro e w' ⟨rfl, rfl⟩)
    refine hfmt.mono ?_
    rintro e w' ⟨rfl, k, v', dk, rfl, hF⟩
    have hcv : (convert 82 9 (.slice (some ⟨w.heap.size, 0, none⟩) (Lib.nDigits u) 24)).run Tryd.prog ((putRow (fun (b : UInt8) => Value.int .u8 (b.toNat : Int)) (w.alloc (.cells Lib.zeros24 165)) w.heap.size 0 dk).drewN k) = .ok (.string ⟨(Lib.decDigits u).toArray⟩) ((putRow (fun (b : UInt8) => Value.int .u8 (b.toNat : Int)) (w.alloc (.cells Lib.zeros24 165)) w.heap.size 0 dk).drewN k) := by
      have h := run_convert_bytes_back (P := Tryd.prog) ((putRow (fun (b : UInt8) => Value.int .u8 (b.toNat : Int)) (w.alloc (.cells Lib.zeros24 165)) w.heap.size 0 dk).drewN k) 82 9 5 ⟨w.heap.size, 0, none⟩ 24 (Lib.decDigits u) Tryd.underlying82 Tryd.underlying5 Tryd.underlying9 (fun j hj => by
        rw [Lib.row_is_numeral hF j hj, Lib.add_plain, World.cell?_drewN]
        exact cell?_putRow (fun (b : UInt8) => Value.int .u8 (b.toNat : Int)) _ w.heap.size 0 _ dk HH0.out (by rw [hF.size, Array.size_replicate]) j (by rw [hF.size]; rw [Lib.decDigits_length] at hj; exact hj))
      rw [Lib.decDigits_length] at h
      exact h
    go_wp2_with fail
    go_ret
    obtain ⟨os, eo⟩ := fin_zero w (.cells Lib.zeros24 165) dk k
    refine ⟨rfl, ?_⟩
    rw [eo]
    exact below_grow (bdn (Below.refl _ _) _) (Nat.le_refl _) os

set_option maxHeartbeats 2000000 in
set_option maxRecDepth 100000 in
theorem formatUint (u : Nat) (hu64 : u < 18446744073709551616) (w : World) (hp : Pow10 w) :
    Calls Tryd.prog 64 #[.int .u64 u, .int .i64 10] w fun e w' => e = .returned (.string ⟨(Lib.decDigits u).toArray⟩) ∧ Below w.heap.size w w' := by
  go_enter Tryd.func64, Tryd.ntmps64
  go_wp2_with fail
  refine (formatUint_in u hu64 w hp).mono ?_
  rintro e w' ⟨rfl, hb⟩
  go_wp2_with fail
  go_ret
  exact ⟨rfl, hb⟩
theorem formatInt (n : Int) (h0 : -9223372036854775808 ≤ n) (h1 : n ≤ 9223372036854775807) (w : World) (hp : Pow10 w) :
    Calls Tryd.prog 65 #[.int .i64 n, .int .i64 10] w fun e w' => e = .returned (.string ⟨(Lib.itoa n).toArray⟩) ∧ Below w.heap.size w w' :=
  (Tryd.strconv_FormatInt_10 n h0 h1 w hp.here).mono fun _ _ ⟨he, k, os, hw⟩ => ⟨he, by subst hw; exact below_grow (bdn (Below.refl _ _) _) (Nat.le_refl _) os⟩

/-- a number's text -/
def digits (n : Int) : List UInt8 := if n < 0 then 95 :: Lib.decDigits n.natAbs else Lib.decDigits n.toNat
theorem decDigits_len (u : Nat) (h : u < 18446744073709551616) : (Lib.decDigits u).length ≤ 20 := by
  rw [Lib.decDigits_length]
  rcases Nat.eq_zero_or_pos u with rfl | h1
  · have : Lib.nDigits 0 = 1 := by decide +kernel
    omega
  · have := Lib.numDigits_eq u h1 h
    split at this <;> omega
abbrev In64 (c : Int) : Prop := -9223372036854775808 ≤ c ∧ c ≤ 9223372036854775807
theorem digits_len (n : Int) (h : In64 n) : (digits n).length ≤ 21 := by
  unfold digits
  split
  · have := decDigits_len n.natAbs (by have := h.1; omega); simp; omega
  · have := decDigits_len n.toNat (by have := h.2; omega); omega
theorem digits_pos (n : Int) : 1 ≤ (digits n).length := by
  unfold digits
  split
  · simp
  · rw [Lib.decDigits_length]; exact Lib.nDigits_pos _

set_option maxHeartbeats 2000000 in
set_option maxRecDepth 100000 in
theorem digits_any (n : Int) (h : In64 n) (w : World) (hp : Pow10 w) :
    Calls Tryd.prog 34 #[.int .i64 n] w fun e w' => e = .returned (.string ⟨(digits n).toArray⟩) ∧ Below w.heap.size w w' := by
  have HP := Lib.hid hp
  have HN := Lib.hid h
  clear hp h
  by_cases hneg : n < 0
  · obtain ⟨u, rfl⟩ : ∃ u : Nat, n = -(u : Int) := ⟨n.natAbs, by omega⟩
    have hu64 : u < 18446744073709551616 := by have := HN.out.1; omega
    have hl := decDigits_len u hu64
    have hl1 : ¬ 9223372036854775807 < 1 + (Lib.decDigits u).length := by omega
    have hwr : IntKind.u64.wrap (-IntKind.u64.wrap (-(u : Int))) = (u : Int) := by rw [IntKind.wrap_u64, IntKind.wrap_u64]; have := HN.out.1; omega
    have hd : digits (-(u : Int)) = 95 :: Lib.decDigits u := by unfold digits; rw [if_pos hneg]; congr 2; omega
    clear hl
    go_enter Tryd.func34, Tryd.ntmps34
    go_wp2_with fail
    refine (formatUint u hu64 w HP.out).mono ?_
    rintro e w' ⟨rfl, hb⟩
    have HB := Lib.hid hb
    clear hb
    go_wp2_with fail
    go_ret
    refine ⟨?_, HB.out⟩
    rw [hd]
    rfl
  · have hge : ¬ n < 0 := hneg
    have hd : digits n = Lib.itoa n := by unfold digits Lib.itoa; rw [if_neg hneg, if_neg hneg]
    go_enter Tryd.func34, Tryd.ntmps34
    go_wp2_with fail
    refine (formatInt n HN.out.1 HN.out.2 w HP.out).mono ?_
    rintro e w' ⟨rfl, hb⟩
    have HB := Lib.hid hb
    clear hb
    go_wp2_with fail
    go_ret
    refine ⟨?_, HB.out⟩
    rw [hd]
    rfl
end Go.Proofs.YtpipcpjkfgdpcaaDoor
