/- show.Flat. Conditions: strconv's table of powers is as laid; at most 2^40 lengths and 2^40 numbers. -/
import Derived.Test.YtpipcpjkfgdpcaaDoorShMay
import Derived.Deep.CutBlock
namespace Go.Proofs.YtpipcpjkfgdpcaaDoor
open Go.RowKit

/-- show.Flat's text of an array that may be -/
def flat (s a : List Int) : List UInt8 := if s.length = 0 ∨ (s.length = 1 ∧ 1 < a.length) then joined a else joined s ++ [32, 36] ++ (if a.length = 0 then [] else 32 :: joined a)

theorem box2 (w : World) (x y : Value) (t : TypeId) : (w.alloc (.cells #[x, y] t)).cell? ⟨w.heap.size, 0, none⟩ = some x ∧ (w.alloc (.cells #[x, y] t)).cell? ⟨w.heap.size, 1, none⟩ = some y := by
  constructor <;> (rw [World.cell?_alloc_new]; rfl)

theorem mk_app (a b : List UInt8) : (⟨a.toArray⟩ ++ ⟨b.toArray⟩ : ByteArray) = ⟨(a ++ b).toArray⟩ := by rw [ByteArray.mk_append_mk]
theorem mk_app4 (a b c d : List UInt8) : (⟨a.toArray⟩ ++ ⟨b.toArray⟩ ++ (⟨c.toArray⟩ ++ ⟨d.toArray⟩) : ByteArray) = ⟨(a ++ b ++ (c ++ d)).toArray⟩ := by rw [mk_app, mk_app, mk_app]

set_option maxHeartbeats 8000000 in
set_option maxRecDepth 100000 in
theorem flat_may (A B : Option Addr) (cp cq : Nat) (s a : List Int) (w : World) (hA : IntsAt w A s) (hB : IntsAt w B a) (hl : All64 s) (hla : All64 a) (hn : s.length ≤ 1099511627776) (hm : a.length ≤ 1099511627776) (hp : Pow10 w) (h0 : arMay s a = 0) :
    Calls Tryd.prog 12 #[.agg #[.slice A s.length cp, .slice B a.length cq]] w fun e w' => e = .returned (.tuple #[.string ⟨(flat s a).toArray⟩, .int .i64 0]) ∧ Below w.heap.size w w' := by
  have HA := Lib.hid hA
  have HB := Lib.hid hB
  have HP := Lib.hid hp
  have HM := Lib.hid (fun w hA => arrMay_any A B cp cq s a w hA hl (by omega))
  have HRS := Lib.hid (fun w hA hp => rowInt A cp s w hA hl hn hp)
  have HRA := Lib.hid (fun w hB hp => rowInt64 B cq a w hB hla hm hp)
  have hjs := joined_len s hl
  have hja := joined_len a hla
  obtain ⟨n, hln⟩ : ∃ n, n = s.length := ⟨_, rfl⟩
  obtain ⟨m, hlm⟩ : ∃ m, m = a.length := ⟨_, rfl⟩
  have HN := Lib.hid (And.intro hln hlm)
  rw [← hln, ← hlm] at HM
  rw [← hln] at hn HRS hjs ⊢
  rw [← hlm] at hm HRA hja ⊢
  clear hA hB hl hla hp hln hlm
  go_enter Tryd.func12, Tryd.ntmps12
  go_wp2_with fail
  have hb1 : Below w.heap.size w (w.alloc (.cells #[.slice A n cp, .slice B m cq] 36)) := (Below.refl _ _).alloc (Nat.le_refl _) _
  have HB1 := Lib.hid hb1
  refine (HM.out _ (HA.out.on hb1)).mono ?_
  obtain ⟨q0, q1⟩ := box2 w (.slice A n cp) (.slice B m cq) 36
  have hlt : w.heap.size < (w.alloc (.cells #[.slice A n cp, .slice B m cq] 36)).heap.size := by simp
  rintro e w2 ⟨rfl, hb2⟩
  have k0 := (hb2.cell (p := ⟨w.heap.size, 0, none⟩) hlt).trans q0
  have k1 := (hb2.cell (p := ⟨w.heap.size, 1, none⟩) hlt).trans q1
  have hlt2 := Nat.lt_of_lt_of_le hlt hb2.size
  have HB2 := Lib.hid (HB1.out.then_ hb2)
  have HQ := Lib.hid (And.intro hlt2 (And.intro k0 k1))
  clear hb1 hb2 q0 q1 hlt hlt2
  rw [h0]
  have tailA : n = 0 ∨ (n = 1 ∧ 1 < m) → flat s a = joined a := fun h => by unfold flat; rw [← HN.out.1, ← HN.out.2, if_pos h]
  have tailB : ¬ (n = 0 ∨ (n = 1 ∧ 1 < m)) → flat s a = joined s ++ [32, 36] ++ (if m = 0 then [] else 32 :: joined a) := fun h => by unfold flat; rw [← HN.out.1, ← HN.out.2, if_neg h]
  have HT := Lib.hid (And.intro tailA tailB)
  clear tailA tailB
  by_cases hz : n = 0
  · subst hz
    have HE := Lib.hid (HT.out.1 (.inl rfl))
    go_wp2_with fail
    refine (HRA.out w2 (HB.out.on HB2.out) (HP.out.on HB2.out)).mono ?_
    rintro e w3 ⟨rfl, hb3⟩
    have HB3 := Lib.hid (HB2.out.then_ hb3)
    clear hb3
    go_wp2_with fail
    go_ret2
    exact ⟨by rw [HE.out]; rfl, HB3.out⟩
  · have hzb : ((n : Int) == 0) = false := by simpa using hz
    by_cases ho : n = 1 ∧ 1 < m
    · have HE := Lib.hid (HT.out.1 (.inr ho))
      obtain ⟨rfl, hm1⟩ := ho
      have hm1' : (1 : Int) < m := by omega
      go_wp2_with fail
      refine (HRA.out w2 (HB.out.on HB2.out) (HP.out.on HB2.out)).mono ?_
      rintro e w3 ⟨rfl, hb3⟩
      have HB3 := Lib.hid (HB2.out.then_ hb3)
      clear hb3
      go_wp2_with fail
      go_ret2
      exact ⟨by rw [HE.out]; rfl, HB3.out⟩
    · have HE := Lib.hid (HT.out.2 (fun h => h.elim hz ho))
      have hl1 : ¬ 9223372036854775807 < (joined s).length + 2 := by omega
      have hl2 : ¬ 9223372036854775807 < 1 + (joined a).length := by omega
      have hl3 : ¬ 9223372036854775807 < (joined s).length + 2 + (1 + (joined a).length) := by omega
      go_upto_region 3 with fail
      go_cut [23] from 8 (fun v wx => v = .bool false ∧ wx = w2)
      case first =>
        by_cases hn1 : n = 1
        · have hm1 : ¬ (1 : Int) < m := fun h => ho ⟨hn1, by omega⟩
          subst hn1
          go_wp2_with fail
          go_meet
          case rel => exact ⟨rfl, rfl⟩
        · have hn1b : ((n : Int) == 1) = false := by simp; omega
          go_wp2_with fail
          go_meet
          case rel => exact ⟨rfl, rfl⟩
      obtain ⟨rfl, rfl⟩ := hcut
      clear ho
      go_wp2_with fail
      refine (HRS.out wc (HA.out.on HB2.out) (HP.out.on HB2.out)).mono ?_
      rintro e w3 ⟨rfl, hb3⟩
      have HB3 := Lib.hid (HB2.out.then_ hb3)
      have j0 := (hb3.cell (p := ⟨w.heap.size, 0, none⟩) HQ.out.1).trans k0
      have j1 := (hb3.cell (p := ⟨w.heap.size, 1, none⟩) HQ.out.1).trans k1
      clear hb3 k0 k1
      by_cases hm0 : m = 0
      · subst hm0
        go_wp2_with fail
        go_ret2
        refine ⟨?_, HB3.out⟩
        rw [HE.out]
        simp only [if_true, List.append_nil]
        exact congrArg (fun z => Ending.returned (.tuple #[.string z, .int .i64 0])) (mk_app _ [32, 36])
      · have hmb : (0 : Int) < m := by omega
        go_wp2_with fail
        refine (HRA.out w3 (HB.out.on HB3.out) (HP.out.on HB3.out)).mono ?_
        rintro e w4 ⟨rfl, hb4⟩
        have HB4 := Lib.hid (HB3.out.then_ hb4)
        clear hb4
        go_wp2_with fail
        go_ret2
        refine ⟨?_, HB4.out⟩
        rw [HE.out, if_neg hm0]
        exact congrArg (fun z => Ending.returned (.tuple #[.string z, .int .i64 0])) (mk_app4 (joined s) [32, 36] [32] (joined a))

set_option maxHeartbeats 8000000 in
set_option maxRecDepth 100000 in
theorem flat_not (A B : Option Addr) (cp cq : Nat) (s a : List Int) (w : World) (hA : IntsAt w A s) (hl : All64 s) (hn : s.length ≤ 4611686018427387904) (h0 : arMay s a ≠ 0) :
    Calls Tryd.prog 12 #[.agg #[.slice A s.length cp, .slice B a.length cq]] w fun e w' => e = .returned (.tuple #[.string ⟨#[]⟩, .int .i64 1]) ∧ Below w.heap.size w w' := by
  have HA := Lib.hid hA
  have HM := Lib.hid (fun w hA => arrMay_any A B cp cq s a w hA hl hn)
  have hb : (arMay s a != 0) = true := by simpa using h0
  clear hA hl h0
  go_enter Tryd.func12, Tryd.ntmps12
  go_wp2_with fail
  have hb1 : Below w.heap.size w (w.alloc (.cells #[.slice A s.length cp, .slice B a.length cq] 36)) := (Below.refl _ _).alloc (Nat.le_refl _) _
  refine (HM.out _ (HA.out.on hb1)).mono ?_
  rintro e w2 ⟨rfl, hb2⟩
  have HB2 := Lib.hid (hb1.then_ hb2)
  clear hb1 hb2
  go_wp2_with fail
  go_ret2
  exact ⟨rfl, HB2.out⟩
end Go.Proofs.YtpipcpjkfgdpcaaDoor
