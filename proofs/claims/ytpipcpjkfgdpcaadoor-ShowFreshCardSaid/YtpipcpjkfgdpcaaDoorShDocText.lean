/- abacusref10.Number, numbers. Conditions: strconv's table of powers is as laid; at most 2^40 numbers. · abacusref10.Flat. Conditions: strconv's table of powers is as laid; at most 2^62 lengths. · The document's layout of lines: how many newlines stand ahead of a row. No condition. · A region that draws its order, outside every round: its head only reads and calls, its tail comes in one order. No condition. · abacusref10.Text, arrays of rank 2 and above. Conditions: strconv's table of powers is as laid; the array may be, and has numbers. · abacusref10.Text, all arrays. Conditions: strconv's table of powers is as laid; at most 2^62 lengths. -/
import Derived.Test.YtpipcpjkfgdpcaaDoorShDoc
import Derived.Lib.AppendStr
import Derived.Deep.AppendLies
import Derived.Deep.RegionLaw
import Derived.Deep.CutBlock
import Derived.Test.YtpipcpjkfgdpcaaDoorShTxtAll
import Derived.Test.YtpipcpjkfgdpcaaDoorShGrid
import Derived.Test.YtpipcpjkfgdpcaaDoorShTail
namespace Go.Proofs.YtpipcpjkfgdpcaaDoor
open Go.RowKit

theorem extract_tail (x : UInt8) (l : List UInt8) : (⟨(x :: l).toArray⟩ : ByteArray).extract 1 (x :: l).length = ⟨l.toArray⟩ := by
  apply ByteArray.ext
  apply Array.ext'
  rw [Lib.extract_data]
  simp

set_option maxHeartbeats 2000000 in
set_option maxRecDepth 100000 in
theorem number_any (n : Int) (h : In64 n) (w : World) (hp : Pow10 w) :
    Calls Tryd.prog 62 #[.int .i64 n] w fun e w' => e = .returned (.string ⟨(digits n).toArray⟩) ∧ Below w.heap.size w w' := by
  have HP := Lib.hid hp
  have HN := Lib.hid h
  clear hp h
  by_cases hneg : n < 0
  · obtain ⟨u, rfl⟩ : ∃ u : Nat, n = -(u : Int) := ⟨n.natAbs, by omega⟩
    have hu64 : u < 18446744073709551616 := by have := HN.out.1; omega
    have hl := decDigits_len u hu64
    have hl1 : ¬ 9223372036854775807 < 1 + (Lib.decDigits u).length := by omega
    have hl2 : ¬ ((⟨(45 :: Lib.decDigits u).toArray⟩ : ByteArray).size : Int) < 1 := by simp [ByteArray.size]; omega
    have hd : digits (-(u : Int)) = 95 :: Lib.decDigits u := by unfold digits; rw [if_pos hneg]; congr 2; omega
    have hi : Lib.itoa (-(u : Int)) = 45 :: Lib.decDigits u := Lib.itoa_neg u (by omega)
    have HF := Lib.hid (formatInt (-(u : Int)) HN.out.1 HN.out.2 w HP.out)
    rw [hi] at HF
    clear hl hi
    go_enter Tryd.func62, Tryd.ntmps62
    go_wp2_with fail
    refine HF.out.mono ?_
    rintro e w' ⟨rfl, hb⟩
    have HB := Lib.hid hb
    clear hb
    go_wp2_with fail
    go_ret
    refine ⟨?_, HB.out⟩
    rw [hd]
    exact congrArg (fun z => Ending.returned (.string z)) (by rw [show (Lib.decDigits u).length + 1 = (45 :: Lib.decDigits u).length from rfl, extract_tail]; exact mk_app [95] _)
  · have hge : ¬ n < 0 := hneg
    have hd : digits n = Lib.itoa n := by unfold digits Lib.itoa; rw [if_neg hneg, if_neg hneg]
    go_enter Tryd.func62, Tryd.ntmps62
    go_wp2_with fail
    refine (formatInt n HN.out.1 HN.out.2 w HP.out).mono ?_
    rintro e w' ⟨rfl, hb⟩
    have HB := Lib.hid hb
    clear hb
    go_wp2_with fail
    go_ret
    refine ⟨?_, HB.out⟩
    rw [hd]
    rfl

/-- a row of bytes of one's own -/
def OwnsB (w : World) (B : Nat) (v : Value) (l : List UInt8) : Prop := w.ownsRow B 5 1 v l.length (Lib.byteCells l)
theorem OwnsB.on {w w' : World} {B : Nat} {v : Value} {l : List UInt8} (h : OwnsB w B v l) (hb : Below w.heap.size w w') : OwnsB w' B v l := World.ownsRow.kept h (grown_below hb none) (by cases v.ownBlock <;> simp)
theorem OwnsB.form {w : World} {B : Nat} {v : Value} {l : List UInt8} (h : OwnsB w B v l) : ∃ A cp, v = .slice A l.length cp := by
  rcases h.2 with ⟨rfl, h0⟩ | ⟨g, cap, cur, rfl, _⟩
  · exact ⟨none, 0, by rw [h0]⟩
  · exact ⟨_, _, rfl⟩
theorem OwnsB.text {w : World} {B : Nat} {v : Value} {l : List UInt8} (h : OwnsB w B v l) : (convert 82 9 v).run Tryd.prog w = .ok (.string ⟨l.toArray⟩) w := by
  rcases h.2 with ⟨rfl, h0⟩ | ⟨g, cap, cur, rfl, hrest⟩
  · obtain rfl : l = [] := List.length_eq_zero_iff.1 h0
    rw [run_convert_bytes_string w _ _ 5 none 0 0 Tryd.underlying82 Tryd.underlying5 Tryd.underlying9]
    simp [Conv.bytesToString]
    rfl
  · refine run_convert_bytes_back (P := Tryd.prog) w 82 9 5 ⟨g, 0, none⟩ cap l Tryd.underlying82 Tryd.underlying5 Tryd.underlying9 (fun j hj => ?_)
    exact World.ownsRow.cells h (g := g) rfl j _ (by simp [Lib.byteCells, hj])
theorem byte_infos : ∃ i, Tryd.prog.info? 5 = some i ∧ i.zero = some (.int .u8 0) ∧ i.size = 1 ∧ i.bytes = 1 := info_parts infoByte

theorem ownsB_nil (w : World) (B : Nat) : OwnsB w B (.slice none 0 0) [] := World.ownsRow_nil _ _ _ _
/-- append(b, c): one byte more -/
theorem OwnsB.more {w' : World} {B : Nat} {v' : Value} {l m : List UInt8} (h : w'.ownsRow B 5 1 v' (l.length + m.length) (Lib.byteCells l ++ Lib.byteCells m)) : OwnsB w' B v' (l ++ m) := by
  unfold OwnsB
  rw [List.length_append, ← byteCells_append]
  exact h

theorem ownsB_byte {W wr w2 : World} {v v' : Value} {l : List UInt8} {c : UInt8} (o : Obj) (hB : Below W.heap.size W wr) (hO : OwnsB wr W.heap.size v l)
    (h : w2.ownsRow W.heap.size 5 1 v' (l.length + 1) (Lib.byteCells l ++ [Value.int .u8 c.toNat])) (hg : (wr.alloc o).grownBy w2 v.ownBlock) : Hid (OwnsB w2 W.heap.size v' (l ++ [c])) ∧ Hid (Below W.heap.size W w2) := by
  have hb1 : Below W.heap.size W (wr.alloc o) := hB.alloc hB.size _
  exact ⟨Lib.hid (OwnsB.more (m := [c]) h), Lib.hid (hb1.grown hg hb1.size (fun k hk => ((World.ownsRow.alloc hO o).lt k hk).1))⟩
theorem ownsB_str {W wr w2 : World} {v v' : Value} {l m : List UInt8} (hB : Below W.heap.size W wr) (hO : OwnsB wr W.heap.size v l)
    (h : w2.ownsRow W.heap.size 5 1 v' (l.length + (⟨m.toArray⟩ : ByteArray).size) (Lib.byteCells l ++ Lib.strCells ⟨m.toArray⟩)) (hg : wr.grownBy w2 v.ownBlock) : Hid (OwnsB w2 W.heap.size v' (l ++ m)) ∧ Hid (Below W.heap.size W w2) :=
  ⟨Lib.hid (OwnsB.more (m := m) h), Lib.hid (hB.grown hg hB.size (fun k hk => (hO.lt k hk).1))⟩

set_option maxHeartbeats 4000000 in
set_option maxRecDepth 100000 in
theorem numbers_any (A : Option Addr) (cp : Nat) (l : List Int) (w : World) (hA : IntsAt w A l) (hl : All64 l) (hn : l.length ≤ 1099511627776) (hp : Pow10 w) :
    Calls Tryd.prog 61 #[.slice A l.length cp] w fun e w' => e = .returned (.string ⟨(joined l).toArray⟩) ∧ Below w.heap.size w w' := by
  have HA := Lib.hid hA
  have HL := Lib.hid hl
  have HP := Lib.hid hp
  obtain ⟨i0, hi, hz0, hz1, hz2⟩ := byte_infos
  obtain ⟨n, hln⟩ : ∃ n, n = l.length := ⟨_, rfl⟩
  have HN := Lib.hid hln
  rw [← hln] at hn ⊢
  clear hA hl hp hln
  go_enter Tryd.func61, Tryd.ntmps61
  go_wp2_with fail
  go_loopw [3, 4] (fun v3 v4 wr => ∃ i : Nat, i ≤ n ∧ v4 = .int .i64 i ∧ Hid (OwnsB wr w.heap.size v3 (joined (l.take i))) ∧ Hid (Below w.heap.size w wr)) (fun _ v4 _ => n - (intOf v4).toNat)
  case atStart => exact ⟨0, Nat.zero_le _, rfl, Lib.hid (ownsB_nil _ _), Lib.hid (Below.refl _ _)⟩
  case round =>
    obtain ⟨i, hi2, rfl, HO, HB⟩ := hrel
    by_cases hlt : i < n
    · obtain ⟨x, hx⟩ : ∃ x, l[i]? = some x := ⟨_, List.getElem?_eq_getElem (by rw [← HN.out]; exact hlt)⟩
      obtain ⟨b, off, rfl, hbl, kc0⟩ := HA.out i x hx
      have KC : Hid (∀ w', Below w.heap.size w w' → w'.cell? ⟨b, off + i, none⟩ = some (.int .i64 x)) := Lib.hid fun w' h => (h.cell (p := ⟨b, _, none⟩) hbl).trans kc0
      have hx64 : In64 x := HL.out x (List.mem_of_getElem? hx)
      have htk : l.take (i + 1) = l.take i ++ [x] := by rw [List.take_add_one, hx]; rfl
      have hj := joined_snoc (l.take i) x
      rw [← htk] at hj
      have hlen := joined_len (l.take i) (fun y hy => HL.out y (List.mem_of_mem_take hy))
      have hlt2 : (l.take i).length = i := by rw [List.length_take, Nat.min_eq_left (by rw [← HN.out]; omega)]
      rw [hlt2] at hlen
      have hdx := digits_len x hx64
      have HX := Lib.hid hx64
      have HLN := Lib.hid (And.intro hlen hdx)
      have hj0 : 0 < i → joined (l.take (i + 1)) = joined (l.take i) ++ [32] ++ digits x := fun h => by
        rw [hj, if_neg (fun e => by rw [e] at hlt2; simp at hlt2; omega)]
      have hj1 : i = 0 → joined (l.take (i + 1)) = joined (l.take i) ++ digits x := fun h => by
        subst h; rw [hj]; rfl
      have HJ := Lib.hid (And.intro hj0 hj1)
      obtain ⟨c, hc⟩ : ∃ c : List UInt8, c = joined (l.take i) := ⟨_, rfl⟩
      rw [← hc] at HO HJ
      have hcl : c.length ≤ 22 * i := by rw [hc]; exact hlen
      clear hx64 hj hlen hdx hx htk hlt2 hj0 hj1 hc kc0 hbl
      go_upto_if 12 with fail
      go_cut [3] from 5 to 22 (fun v3 wx => ∃ d : List UInt8, Hid (d ++ digits x = joined (l.take (i + 1))) ∧ d.length ≤ 22 * i + 1 ∧ Hid (OwnsB wx w.heap.size v3 d) ∧ Hid (Below w.heap.size w wx))
      case first =>
        by_cases h0 : 0 < i
        · have hg0 : (0 : Int) < i := by omega
          have HJ1 := Lib.hid (HJ.out.1 h0)
          go_wp2_with (at_builtin; refine wpList_append_own _ rfl _ _ 82 rfl w.heap.size 5 i0 (.int .u8 0) 1 1 Tryd.underlying82 hi hz0 hz1 hz2 rfl (by decide) _ c.length (Lib.byteCells c) rfl (World.ownsRow.alloc HO.out _) ⟨wr.heap.size, 0, none⟩ 1 1 [.int .u8 32] rfl rfl (cell_one_new _ _ _) (by simp [Value.oneCell']) ?_ ?_ ?_ ?_)
          · unfold maxLen; omega
          · omega
          · have := HB.out.size; simp; omega
          intro v' w2 hown2 hgr2 _
          have HO2 : Hid (OwnsB w2 w.heap.size v' (c ++ [32])) := Lib.hid (OwnsB.more (m := [32]) hown2)
          have HB2 : Hid (Below w.heap.size w w2) := Lib.hid (by
            have hb1 : Below w.heap.size w (wr.alloc (.cells #[.int .u8 32] 5)) := HB.out.alloc HB.out.size _
            exact hb1.grown hgr2 hb1.size (fun k hk => ((World.ownsRow.alloc HO.out (.cells #[.int .u8 32] 5)).lt k hk).1))
          clear hown2 hgr2
          go_wp2_with fail
          go_meet
          case rel => exact ⟨c ++ [32], Lib.hid HJ1.out.symm, by rw [List.length_append]; simp only [List.length_cons, List.length_nil]; omega, HO2, HB2⟩
        · have hg0 : ¬ (0 : Int) < i := by omega
          have HJ2 := Lib.hid (HJ.out.2 (by omega))
          go_wp2_with fail
          go_meet
          case rel => exact ⟨c, Lib.hid HJ2.out.symm, by omega, HO, HB⟩
      obtain ⟨d, HD, hdl, HO2, HB2⟩ := hcut
      have kc := KC.out _ HB2.out
      have hsz : (⟨(digits x).toArray⟩ : ByteArray).size = (digits x).length := rfl
      have hd21 := HLN.out.2
      have HDL := Lib.hid (And.intro hdl hd21)
      clear hdl hd21
      go_wp2_with fail
      refine (number_any x HX.out wc (HP.out.on HB2.out)).mono ?_
      rintro e w3 ⟨rfl, hb3⟩
      have HB3 := Lib.hid (HB2.out.then_ hb3)
      have HO3 := Lib.hid (HO2.out.on hb3)
      clear hb3 kc
      go_wp2_with (at_builtin; refine Lib.wpList_append_own_string _ rfl _ _ 82 9 rfl w.heap.size 5 i0 Tryd.underlying82 Tryd.underlying9 hi hz0 hz1 hz2 _ d.length (Lib.byteCells d) rfl HO3.out ⟨(digits x).toArray⟩ rfl ?_ ?_ ?_ ?_)
      · have h1 := HDL.out; rw [hsz]; unfold maxLen; omega
      · have h1 := HDL.out; rw [hsz]; omega
      · exact HB3.out.size
      intro v' w4 hown4 hgr4 _
      have HO4 : Hid (OwnsB w4 w.heap.size v' (joined (l.take (i + 1)))) := Lib.hid (by rw [← HD.out]; exact OwnsB.more (m := digits x) hown4)
      have HB4 : Hid (Below w.heap.size w w4) := Lib.hid (HB3.out.grown hgr4 HB3.out.size (fun k hk => (HO3.out.lt k hk).1))
      clear hown4 hgr4
      go_wp2_with fail
      exact ⟨⟨i + 1, by omega, by go_num, HO4, HB4⟩, by simp [intOf]; omega⟩
    · obtain rfl : i = n := by omega
      have hge : ¬ (i : Int) < i := by omega
      have HT := Lib.hid (HO.out.text)
      rw [HN.out, List.take_length] at HT
      go_wp2_with (rw [HT.out])
      go_ret
      exact ⟨rfl, HB.out⟩
end Go.Proofs.YtpipcpjkfgdpcaaDoor

namespace Go.Proofs.YtpipcpjkfgdpcaaDoor
open Go.RowKit

theorem all64_take {l : List Int} (h : All64 l) (n : Nat) : All64 (l.take n) := fun x hx => h x (List.mem_of_mem_take hx)

set_option maxHeartbeats 8000000 in
set_option maxRecDepth 100000 in
theorem rflat_may (A B : Option Addr) (cp cq : Nat) (s a : List Int) (w : World) (hA : IntsAt w A s) (hB : IntsAt w B a) (hl : All64 s) (hla : All64 a) (hn : s.length ≤ 1099511627776) (hm : a.length ≤ 1099511627776) (hp : Pow10 w) (h0 : arMay s a = 0) :
    Calls Tryd.prog 31 #[.agg #[.slice A s.length cp, .slice B a.length cq]] w fun e w' => e = .returned (.tuple #[.string ⟨(flat s a).toArray⟩, .int .i64 0]) ∧ Below w.heap.size w w' := by
  have HA := Lib.hid hA
  have HB := Lib.hid hB
  have HP := Lib.hid hp
  have HL := Lib.hid hl
  have HM := Lib.hid (fun w hA => refMay4_any A B cp cq s a w hA hl (by omega))
  have HRA := Lib.hid (fun w hB hp => numbers_any B cq a w hB hla hm hp)
  have hjs := joined_len s hl
  have hja := joined_len a hla
  rw [h0, show decide ((0 : Int) = 0) = true from rfl] at HM
  obtain ⟨n, hln⟩ : ∃ n, n = s.length := ⟨_, rfl⟩
  obtain ⟨m, hlm⟩ : ∃ m, m = a.length := ⟨_, rfl⟩
  have HN := Lib.hid (And.intro hln hlm)
  rw [← hln, ← hlm] at HM
  rw [← hln] at hn hjs ⊢
  rw [← hlm] at hm HRA hja ⊢
  clear hA hB hl hla hp hln hlm h0
  go_enter Tryd.func31, Tryd.ntmps31
  go_wp2_with fail
  have hb1 : Below w.heap.size w (w.alloc (.cells #[.slice A n cp, .slice B m cq] 36)) := (Below.refl _ _).alloc (Nat.le_refl _) _
  have HB1 := Lib.hid hb1
  refine (HM.out _ (HA.out.on hb1)).mono ?_
  obtain ⟨q0, q1⟩ := box2 w (.slice A n cp) (.slice B m cq) 36
  have hlt : w.heap.size < (w.alloc (.cells #[.slice A n cp, .slice B m cq] 36)).heap.size := by simp
  rintro e w2 ⟨rfl, hb2⟩
  have k0 := (hb2.cell (p := ⟨w.heap.size, 0, none⟩) hlt).trans q0
  have k1 := (hb2.cell (p := ⟨w.heap.size, 1, none⟩) hlt).trans q1
  have hlt2 := Nat.lt_of_lt_of_le hlt hb2.size
  have HB2 := Lib.hid (HB1.out.then_ hb2)
  have HQ : Hid (∀ w', Below w2.heap.size w2 w' → w'.cell? ⟨w.heap.size, 0, none⟩ = some (.slice A n cp) ∧ w'.cell? ⟨w.heap.size, 1, none⟩ = some (.slice B m cq)) := Lib.hid fun w' h => ⟨(h.cell (p := ⟨w.heap.size, 0, none⟩) hlt2).trans k0, (h.cell (p := ⟨w.heap.size, 1, none⟩) hlt2).trans k1⟩
  clear hb1 hb2 q0 q1 hlt hlt2
  have tailA : n = 0 ∨ (n = 1 ∧ 1 < m) → flat s a = joined a := fun h => by unfold flat; rw [← HN.out.1, ← HN.out.2, if_pos h]
  have tailB : ¬ (n = 0 ∨ (n = 1 ∧ 1 < m)) → flat s a = joined s ++ [32, 36] ++ (if m = 0 then [] else 32 :: joined a) := fun h => by unfold flat; rw [← HN.out.1, ← HN.out.2, if_neg h]
  have HT := Lib.hid (And.intro tailA tailB)
  clear tailA tailB
  by_cases hz : n = 0
  · subst hz
    have HE := Lib.hid (HT.out.1 (.inl rfl))
    go_wp2_with fail
    refine (HRA.out w2 (HB.out.on HB2.out) (HP.out.on HB2.out)).mono ?_
    rintro e w3 ⟨rfl, hb3⟩
    have HB3 := Lib.hid (HB2.out.then_ hb3)
    clear hb3
    go_wp2_with fail
    go_ret2
    exact ⟨by rw [HE.out]; rfl, HB3.out⟩
  · have hzb : ((n : Int) == 0) = false := by simpa using hz
    by_cases ho : n = 1 ∧ 1 < m
    · have HE := Lib.hid (HT.out.1 (.inr ho))
      obtain ⟨rfl, hm1⟩ := ho
      have hm1' : (1 : Int) < m := by omega
      go_wp2_with fail
      refine (HRA.out w2 (HB.out.on HB2.out) (HP.out.on HB2.out)).mono ?_
      rintro e w3 ⟨rfl, hb3⟩
      have HB3 := Lib.hid (HB2.out.then_ hb3)
      clear hb3
      go_wp2_with fail
      go_ret2
      exact ⟨by rw [HE.out]; rfl, HB3.out⟩
    · have HE := Lib.hid (HT.out.2 (fun h => h.elim hz ho))
      have hl1 : ¬ 9223372036854775807 < (joined s).length + 2 := by omega
      have hl2 : ¬ 9223372036854775807 < 1 + (joined a).length := by omega
      have hl3 : ¬ 9223372036854775807 < (joined s).length + 2 + 1 := by omega
      have hl4 : ¬ 9223372036854775807 < (joined s).length + 2 + 1 + (joined a).length := by omega
      obtain ⟨j0, hj, hz0, hz1, hz2⟩ := info_parts info_int64
      go_upto_region 3 with fail
      go_cut [25] from 10 (fun v wx => v = .bool false ∧ wx = w2)
      case first =>
        by_cases hn1 : n = 1
        · have hm1 : ¬ (1 : Int) < m := fun h => ho ⟨hn1, by omega⟩
          subst hn1
          go_wp2_with fail
          go_meet
          case rel => exact ⟨rfl, rfl⟩
        · have hn1b : ((n : Int) == 1) = false := by simp; omega
          go_wp2_with fail
          go_meet
          case rel => exact ⟨rfl, rfl⟩
      obtain ⟨rfl, rfl⟩ := hcut
      clear ho
      go_wp2_with fail
      go_loopw [4, 5] (fun v4 v5 wr => ∃ i : Nat, i ≤ n ∧ v5 = .int .i64 i ∧ Hid (OwnsInts wr wc.heap.size v4 (s.take i)) ∧ Hid (Below wc.heap.size wc wr)) (fun _ v5 _ => n - (intOf v5).toNat)
      case atStart => exact ⟨0, Nat.zero_le _, rfl, Lib.hid (World.ownsRow_nil _ _ _ _), Lib.hid (Below.refl _ _)⟩
      case round =>
        obtain ⟨i, hi, rfl, HO, HBr⟩ := hrel
        obtain ⟨x0, x1⟩ := HQ.out wr HBr.out
        by_cases hlt : i < n
        · obtain ⟨x, hx⟩ : ∃ x, s[i]? = some x := ⟨_, List.getElem?_eq_getElem (by rw [← HN.out.1]; exact hlt)⟩
          obtain ⟨b, off, rfl, hbl, kc⟩ := (HA.out.on (HB2.out.then_ HBr.out)) i x hx
          have HTK := Lib.hid (take_snoc hx)
          have htl : (s.take i).length = i := by rw [List.length_take, Nat.min_eq_left (by rw [← HN.out.1]; omega)]
          have hos := HO.out
          unfold OwnsInts at hos
          rw [htl] at hos
          have HOWN := Lib.hid (World.ownsRow.alloc hos (.cells #[.int .i64 x] 2))
          clear hos hx hbl
          go_wp2_with (at_builtin; refine wpList_append_own _ rfl _ _ 28 rfl wc.heap.size 2 j0 (.int .i64 0) 1 8 Tryd.underlying28 hj hz0 hz1 hz2 rfl (by decide) _ i ((s.take i).map fun y => .int .i64 y) rfl HOWN.out ⟨wr.heap.size, 0, none⟩ 1 1 [.int .i64 x] rfl rfl (cell_one_new _ _ _) (by simp [Value.oneCell']) ?_ ?_ ?_ ?_)
          · unfold maxLen; omega
          · omega
          · have := HBr.out.size; simp; omega
          intro v' w5 hown5 hgr5 _
          have HO5 : Hid (OwnsInts w5 wc.heap.size v' (s.take (i + 1))) := Lib.hid (by
            rw [HTK.out]
            unfold OwnsInts
            rw [List.length_append, List.map_append, htl, List.map_take]
            exact hown5)
          have HB5 : Hid (Below wc.heap.size wc w5) := Lib.hid (by
            have hbb : Below wc.heap.size wc (wr.alloc (.cells #[.int .i64 x] 2)) := HBr.out.alloc HBr.out.size _
            exact hbb.grown hgr5 hbb.size (fun k hk => (HOWN.out.lt k hk).1))
          clear hown5 hgr5 htl
          go_wp2_with fail
          exact ⟨⟨i + 1, by omega, by go_num, HO5, HB5⟩, by simp [intOf]; omega⟩
        · obtain rfl : i = n := by omega
          have hge : ¬ (i : Int) < i := by omega
          have hos := HO.out
          have hti : s.take i = s := by rw [HN.out.1, List.take_length]
          rw [hti] at hos
          obtain ⟨A4, c4, hv⟩ := hos.form
          subst hv
          have HR := Lib.hid (numbers_any A4 c4 s wr (row_ints hos) HL.out (by rw [← HN.out.1]; exact hn) (HP.out.on (HB2.out.then_ HBr.out)))
          rw [← HN.out.1] at HR ⊢
          clear hos hti
          go_wp2_with fail
          refine HR.out.mono ?_
          rintro e w3 ⟨rfl, hb3⟩
          have HB3 := Lib.hid (HBr.out.then_ hb3)
          obtain ⟨y0, y1⟩ := HQ.out w3 HB3.out
          clear hb3 x0 x1
          by_cases hm0 : m = 0
          · subst hm0
            go_wp2_with fail
            go_ret2
            refine ⟨?_, HB2.out.then_ HB3.out⟩
            rw [HE.out]
            simp only [if_true, List.append_nil]
            exact congrArg (fun z => Ending.returned (.tuple #[.string z, .int .i64 0])) (mk_app _ [32, 36])
          · have hmb : (0 : Int) < m := by omega
            go_wp2_with fail
            refine (HRA.out w3 (HB.out.on (HB2.out.then_ HB3.out)) (HP.out.on (HB2.out.then_ HB3.out))).mono ?_
            rintro e w4 ⟨rfl, hb4⟩
            have HB4 := Lib.hid (HB3.out.then_ hb4)
            clear hb4
            go_wp2_with fail
            go_ret2
            refine ⟨?_, HB2.out.then_ HB4.out⟩
            rw [HE.out, if_neg hm0]
            refine congrArg (fun z => Ending.returned (.tuple #[.string z, .int .i64 0])) ?_
            show (⟨(joined s).toArray⟩ ++ ⟨#[32, 36]⟩ ++ ⟨#[32]⟩ ++ ⟨(joined a).toArray⟩ : ByteArray) = _
            rw [show (⟨#[32, 36]⟩ : ByteArray) = ⟨([32, 36] : List UInt8).toArray⟩ from rfl, show (⟨#[32]⟩ : ByteArray) = ⟨([32] : List UInt8).toArray⟩ from rfl, mk_app, mk_app, mk_app]
            simp

set_option maxHeartbeats 4000000 in
set_option maxRecDepth 100000 in
theorem rflat_not (A B : Option Addr) (cp cq : Nat) (s a : List Int) (w : World) (hA : IntsAt w A s) (hl : All64 s) (hn : s.length ≤ 4611686018427387904) (h0 : arMay s a ≠ 0) :
    Calls Tryd.prog 31 #[.agg #[.slice A s.length cp, .slice B a.length cq]] w fun e w' => e = .returned (.tuple #[.string ⟨#[]⟩, .int .i64 1]) ∧ Below w.heap.size w w' := by
  have HA := Lib.hid hA
  have HM := Lib.hid (fun w hA => refMay4_any A B cp cq s a w hA hl hn)
  rw [show decide (arMay s a = 0) = false by simpa using h0] at HM
  clear hA hl h0
  go_enter Tryd.func31, Tryd.ntmps31
  go_wp2_with fail
  have hb1 : Below w.heap.size w (w.alloc (.cells #[.slice A s.length cp, .slice B a.length cq] 36)) := (Below.refl _ _).alloc (Nat.le_refl _) _
  refine (HM.out _ (HA.out.on hb1)).mono ?_
  rintro e w2 ⟨rfl, hb2⟩
  have HB2 := Lib.hid (hb1.then_ hb2)
  clear hb1 hb2
  go_wp2_with fail
  go_ret2
  exact ⟨rfl, HB2.out⟩
theorem rflat_any (A B : Option Addr) (ca cb : Nat) (s a : List Int) (w : World) (hA : IntsAt w A s) (hB : IntsAt w B a) (hl : All64 s) (hla : All64 a) (hn : s.length ≤ 4611686018427387904) (hp : Pow10 w) :
    Calls Tryd.prog 31 #[.agg #[.slice A s.length ca, .slice B a.length cb]] w fun e w' => e = .returned (.tuple #[.string ⟨(flatOf s a).toArray⟩, .int .i64 (textErr s a)]) ∧ Below w.heap.size w w' := by
  unfold flatOf textErr
  by_cases h0 : arMay s a = 0
  · rw [if_pos h0, if_pos h0]
    exact rflat_may A B ca cb s a w hA hB hl hla (by have := (may_parts h0).2.2.1; omega) (by have := (may_parts h0).2.2.2; omega) hp h0
  · rw [if_neg h0, if_neg h0]
    exact rflat_not A B ca cb s a w hA hl hn h0
end Go.Proofs.YtpipcpjkfgdpcaaDoor

namespace Go.Proofs.YtpipcpjkfgdpcaaDoor
open Go.RowKit

/-- behind a row: the newlines counted axis by axis from the last but one, d the places of the axes gone over -/
structure TrailInv (s : List Int) (r d c t : Nat) : Prop where
  mul : (d : Int) * places (s.take (t + 1)) = places s
  inv : (r % d = 0 ∧ trail s ((r : Int) - 1) = c + trail (s.take (t + 1)) (((r / d : Nat) : Int) - 1)) ∨ (r % d ≠ 0 ∧ trail s ((r : Int) - 1) = c)
theorem TrailInv.start {s : List Int} {t : Nat} (r : Nat) (h : s.length = t + 1) : TrailInv s r 1 0 t := by
  refine ⟨?_, .inl ⟨Nat.mod_one r, ?_⟩⟩
  · rw [List.take_of_length_le (by omega)]; omega
  · rw [List.take_of_length_le (by omega), Nat.div_one]; omega
theorem pred_mod {q x : Nat} (hx : 1 ≤ x) : ((((q : Int) - 1) % (x : Int) = (x : Int) - 1) ↔ q % x = 0) ∧ (q % x = 0 → ((q : Int) - 1) / (x : Int) = ((q / x : Nat) : Int) - 1) := by
  have h1 := Nat.div_add_mod q x
  have h2 := Nat.mod_lt q (show x > 0 by omega)
  have key : q % x = 0 → ((q : Int) - 1) = ((q / x : Nat) : Int) * x - 1 := fun h => by
    rw [h] at h1
    have : ((q : Nat) : Int) = ((x * (q / x) : Nat) : Int) := by omega
    rw [this, Int.natCast_mul, Int.mul_comm]
  have hdm : q % x = 0 → ((q : Int) - 1) = ((x : Int) - 1) + (x : Int) * (((q / x : Nat) : Int) - 1) := fun h => by
    rw [key h, Int.mul_sub, Int.mul_comm]; omega
  refine ⟨⟨fun h => ?_, fun h => ?_⟩, fun h => ?_⟩
  · by_cases h0 : q % x = 0
    · exact h0
    · exfalso
      have e : ((q : Int) - 1) = (((q % x : Nat) : Int) - 1) + (x : Int) * ((q / x : Nat) : Int) := by
        have : ((q : Nat) : Int) = ((x * (q / x) + q % x : Nat) : Int) := by omega
        rw [this, Int.natCast_add, Int.natCast_mul]; omega
      rw [e, Int.add_mul_emod_self_left, Int.emod_eq_of_lt (by omega) (by omega)] at h
      omega
  · rw [hdm h, Int.add_mul_emod_self_left, Int.emod_eq_of_lt (by omega) (by omega)]
  · rw [hdm h, Int.add_mul_ediv_left _ _ (by omega), Int.ediv_eq_zero_of_lt (by omega) (by omega)]
    omega
theorem TrailInv.next {s : List Int} {r d c t x : Nat} (h : TrailInv s r d c (t + 1)) (hr : 1 ≤ r) (hd : 1 ≤ d) (hx : s[t + 1]? = some (x : Int)) (h1 : 1 ≤ x) : TrailInv s r (d * x) (if r % (d * x) = 0 then c + 1 else c) t := by
  have hm : ((d * x : Nat) : Int) * places (s.take (t + 1)) = places s := by
    rw [← h.mul, take_snoc hx, places_snoc, Int.natCast_mul, Int.mul_assoc, Int.mul_comm (x : Int)]
  refine ⟨hm, ?_⟩
  rcases h.inv with ⟨h2, h3⟩ | ⟨h2, h3⟩
  · have hq1 : 1 ≤ r / d := (Nat.one_le_div_iff (by omega)).2 (Nat.le_of_dvd (by omega) (Nat.dvd_of_mod_eq_zero h2))
    obtain ⟨p1, p2⟩ := pred_mod (q := r / d) h1
    have hdd : r % (d * x) = 0 ↔ r / d % x = 0 := by
      have h5 := Nat.div_add_mod r d
      rw [h2, Nat.add_zero] at h5
      rw [← Nat.dvd_iff_mod_eq_zero, ← Nat.dvd_iff_mod_eq_zero]
      constructor
      · rintro ⟨e, he⟩
        exact ⟨e, by rw [he, Nat.mul_assoc, Nat.mul_div_cancel_left _ (by omega)]⟩
      · rintro ⟨e, he⟩
        exact ⟨e, by rw [← h5, he, Nat.mul_assoc]⟩
    rw [take_snoc hx, trail_snoc] at h3
    by_cases h0 : r % (d * x) = 0
    · rw [if_pos h0]
      refine .inl ⟨h0, ?_⟩
      rw [if_pos (p1.2 (hdd.1 h0)), p2 (hdd.1 h0), Nat.div_div_eq_div_mul] at h3
      omega
    · rw [if_neg h0]
      refine .inr ⟨h0, ?_⟩
      rw [if_neg (fun e => h0 (hdd.2 (p1.1 e)))] at h3
      omega
  · have h0 : r % (d * x) ≠ 0 := fun e => h2 (Nat.mod_eq_zero_of_dvd (Nat.dvd_trans (Nat.dvd_mul_right d x) (Nat.dvd_of_mod_eq_zero e)))
    rw [if_neg h0]
    exact .inr ⟨h0, h3⟩
theorem TrailInv.done {s : List Int} {r d c : Nat} (h : TrailInv s r d c 0) (hr : 1 ≤ r) (hd : 1 ≤ d) (hlt : (r : Int) < places s) (hne : s ≠ []) : trail s ((r : Int) - 1) = c := by
  rcases h.inv with ⟨h2, h3⟩ | ⟨_, h3⟩
  · cases s with
    | nil => exact absurd rfl hne
    | cons y r0 =>
      have h1 := h.mul
      have e1 : List.take (0 + 1) (y :: r0) = [] ++ [y] := rfl
      rw [e1] at h1 h3
      rw [trail_snoc] at h3
      rw [places_snoc] at h1
      have ep : places [] = 1 := rfl
      rw [ep, Int.one_mul] at h1
      have h5 := Nat.div_add_mod r d
      rw [h2, Nat.add_zero] at h5
      have hq1 : 1 ≤ r / d := (Nat.one_le_div_iff (by omega)).2 (Nat.le_of_dvd (by omega) (Nat.dvd_of_mod_eq_zero h2))
      have hqy : ((r / d : Nat) : Int) < y := by
        rw [← h1] at hlt
        have : ((d * (r / d) : Nat) : Int) < (d : Int) * y := by rw [h5]; exact hlt
        rw [Int.natCast_mul] at this
        exact Int.lt_of_mul_lt_mul_left this (by omega)
      rw [if_neg (fun e => by rw [Int.emod_eq_of_lt (by omega) (by omega)] at e; omega)] at h3
      exact h3
  · exact h3
theorem places_pos : ∀ (l : List Int), (∀ x ∈ l, 1 ≤ x) → 1 ≤ places l := by
  have h : ∀ (l : List Int) (m : Int), 1 ≤ m → (∀ x ∈ l, 1 ≤ x) → 1 ≤ l.foldl (· * ·) m := by
    intro l
    induction l with
    | nil => intro m h _; exact h
    | cons x r ih =>
      intro m hm hx
      refine ih _ ?_ (fun y hy => hx y (by simp [hy]))
      have h1 := hx x (by simp)
      have := Int.mul_le_mul hm h1 (by omega) (by omega)
      show 1 ≤ m * x
      omega
  exact fun l hl => h l 1 (Int.le_refl _) hl
/-- how great the product is, axis by axis -/
theorem TrailInv.bound {s : List Int} {r d c t N m : Nat} (h : TrailInv s r d c t) (hs : ∀ x ∈ s, 1 ≤ x) (hN : places s * (m : Int) = N) : m * d ≤ N := by
  have h1 := places_pos (s.take (t + 1)) (fun x hx => hs x (List.mem_of_mem_take hx))
  have h2 : ((d : Int) * places (s.take (t + 1))) * (m : Int) = N := by rw [h.mul]; exact hN
  have h3 : ((m * d : Nat) : Int) * 1 ≤ ((m * d : Nat) : Int) * places (s.take (t + 1)) := Int.mul_le_mul_of_nonneg_left h1 (by omega)
  have h4 : ((m * d : Nat) : Int) * places (s.take (t + 1)) = N := by rw [← h2, Int.natCast_mul, Int.mul_comm (m : Int), Int.mul_assoc, Int.mul_comm (m : Int), Int.mul_assoc]
  omega
theorem over_mod {m r d p : Nat} (hm : 1 ≤ m) (hp : p = m * r) : p % (m * d) = 0 ↔ r % d = 0 := by
  rw [hp, Nat.mul_mod_mul_left]
  constructor
  · intro h
    rcases Nat.mul_eq_zero.1 h with h | h
    · omega
    · exact h
  · intro h; rw [h]; rfl
/-- the layout, its last separator yet lacking -/
def bodyT (s a : List Int) (m N : Nat) : Nat → List UInt8
  | 0 => []
  | p + 1 => grid s a m N p ++ Lib.repeatL [32] (wd a m N (p % m) - (digits (atomAt a p)).length) ++ digits (atomAt a p)
theorem grid_body (s a : List Int) (m N p : Nat) (h : 0 < p) : grid s a m N p = bodyT s a m N p ++ sepAt s m N (p - 1) := by
  obtain ⟨q, rfl⟩ : ∃ q, p = q + 1 := ⟨p - 1, by omega⟩
  rfl
theorem grid_zero (s a : List Int) (m N : Nat) : grid s a m N 0 = bodyT s a m N 0 := rfl
theorem pred_mod_nat {p m : Nat} (hm : 1 ≤ m) (hp : 0 < p) : (p % m ≠ 0 → (p - 1) % m = p % m - 1) ∧ (p % m = 0 → (p - 1) % m = m - 1 ∧ (p - 1) / m = p / m - 1 ∧ 1 ≤ p / m) := by
  have h1 := Nat.div_add_mod p m
  have h2 := Nat.mod_lt p (show m > 0 by omega)
  refine ⟨fun h => ?_, fun h => ?_⟩
  · have e : p - 1 = (p % m - 1) + m * (p / m) := by omega
    rw [e, Nat.add_mul_mod_self_left, Nat.mod_eq_of_lt (by omega)]
  · have hq : 1 ≤ p / m := (Nat.one_le_div_iff (by omega)).2 (Nat.le_of_dvd hp (Nat.dvd_of_mod_eq_zero h))
    have e : p - 1 = (m - 1) + m * (p / m - 1) := by
      rw [Nat.mul_sub, Nat.mul_one]
      have : m * 1 ≤ m * (p / m) := Nat.mul_le_mul_left _ hq
      omega
    refine ⟨?_, ?_, hq⟩
    · rw [e, Nat.add_mul_mod_self_left, Nat.mod_eq_of_lt (by omega)]
    · rw [e, Nat.add_mul_div_left _ _ (by omega), Nat.div_eq_of_lt (by omega)]
      omega
theorem sep_blank {s : List Int} {m N p : Nat} (hm : 1 ≤ m) (h : p % m ≠ 0) : sepAt s m N (p - 1) = [32] := by
  have hp : 0 < p := Nat.pos_of_ne_zero fun e => by rw [e, Nat.zero_mod] at h; exact h rfl
  have h1 := (pred_mod_nat hm hp).1 h
  have h2 := Nat.mod_lt p (show m > 0 by omega)
  unfold sepAt
  rw [if_pos (by omega)]
theorem sep_lines {s : List Int} {m N p : Nat} (hm : 1 ≤ m) (hp : 0 < p) (hN : p < N) (h : p % m = 0) : sepAt s m N (p - 1) = Lib.repeatL [10] (1 + trail (s.take (s.length - 1)) (((p / m : Nat) : Int) - 1)) := by
  obtain ⟨h1, h2, h3⟩ := (pred_mod_nat hm hp).2 h
  unfold sepAt
  rw [if_neg (by omega), if_pos (by omega), h2]
  congr 3
  omega
theorem body_all {s a : List Int} {m N : Nat} (hm : 1 ≤ m) (h : N % m = 0) : grid s a m N N = bodyT s a m N N := by
  rcases Nat.eq_zero_or_pos N with rfl | hp
  · rfl
  · obtain ⟨h1, h2, h3⟩ := (pred_mod_nat hm hp).2 h
    rw [grid_body _ _ _ _ _ hp]
    have : sepAt s m N (N - 1) = [] := by
      unfold sepAt
      rw [if_neg (by omega), if_neg (by omega)]
    rw [this, List.append_nil]
theorem body_len (s a : List Int) (m N p : Nat) (h : All64 a) (hs : s.length ≤ 64) : (bodyT s a m N p).length ≤ 130 * p := by
  cases p with
  | zero => simp [bodyT]
  | succ q =>
    have h1 := grid_len s a m N h hs (q + 1)
    rw [grid_body s a m N (q + 1) (Nat.succ_pos q), List.length_append] at h1
    omega
theorem rep_snoc (c : Nat) : Lib.repeatL [10] (c + 1) = Lib.repeatL [10] c ++ [10] := by rw [Lib.repeatL_add, Lib.repeatL_one]
end Go.Proofs.YtpipcpjkfgdpcaaDoor

namespace Go.Proofs.YtpipcpjkfgdpcaaDoor
open Go

section
variable {P : Program} {ops : Array Oper} {md : Region.Mode} {C : World → Prop} {m : Nat}
theorem wpOpW_of_qOp {i : Nat} {a : Act} {K : Act → Prop} {K' : Act → World → Prop} {Q' : Exit → Act → World → Prop} {w : World} (hd : noDefer ops = true) (hC : C w) (h : ∀ a w', C w' → K a → K' a w') (hh : qOp P ops C i K a) :
    wpOpIn (Fence.wide) m P ops Q' i K' a w := by
  unfold qOp at hh
  unfold wpOpIn
  split
  · rename_i ho; simp only [ho] at hh; exact h _ _ hC hh
  · rename_i o ho
    simp only [ho] at hh
    split
    · rename_i hw
      simp only [hw, if_true] at hh
      obtain ⟨v, h1, h2⟩ := hh
      have h3 := h1 w hC
      unfold Oper.quietAt at h3
      refine ⟨fun _ _ => trivial, ?_⟩
      rw [Oper.semAt_eq _ _ _ (noDefer_spec hd ho)]
      generalize (execOp a.eval o).run P w = r at *
      cases r with
      | ok n w' =>
        cases n <;> simp only [Oper.quietUpon] at h3 <;> simp only [Oper.uponIn]
        case value u =>
          obtain ⟨e1, e2⟩ := h3
          rw [e1, e2]
          exact h _ _ hC h2
        case skip =>
          obtain ⟨e1, e2⟩ := h3
          rw [e1, ← e2]
          exact h _ _ hC h2
        case enter f args =>
          obtain ⟨e1, hc⟩ := h3
          rw [e1]
          refine ⟨fun hh => (by cases hh), ?_⟩
          exact (callsIn_wide.2 (hc.mono fun e w'' ⟨he, hw''⟩ => by subst he; exact h _ _ hw'' h2))
      | halt x w' => simp only [Oper.quietUpon] at h3
    · rename_i hw; simp only [hw] at hh; exact ⟨fun _ _ => trivial, h _ _ hC hh⟩

theorem wpAnyW_of_head {n g : Nat} {L : Array Bool → Act → Prop} {Q' : Exit → Act → World → Prop} (hd : noDefer ops = true) (hL : ∀ listed a w, C w → L listed a → wpAnyIn (Fence.wide) m P md ops Q' g listed a w) :
    ∀ (f : Nat) (listed : Array Bool) (a : Act) (w : World), C w → qAnyL P md ops C n L f listed a → wpAnyIn (Fence.wide) m P md ops Q' (f + g) listed a w
  | 0, listed, a, w, hw, h => by rw [Nat.zero_add]; exact hL _ _ _ hw h
  | f + 1, listed, a, w, hw, h => by
    rw [show f + 1 + g = (f + g) + 1 by omega]
    exact ⟨fun h0 => absurd h0 h.1, fun i hi => wpOpW_of_qOp hd hw (fun a' w' hw' h' => wpAnyW_of_head hd hL f _ a' w' hw' h') (h.2 i hi).2⟩

/-- one walk of the head serves every order; then the tail, in every world of the class -/
theorem wpW_region_head_tail {id : Nat} {Q : Exit → Act → World → Prop} {a : Act} {w : World} {r : List Oper} (n : Nat) (hm : P.follows .mixedOrders = true) (hB : Region.lexTailB .any r.toArray n = true) (hd : noDefer r.toArray = true) (hC : C { w with drawn := w.drawn + 1 })
    (h : wpQuiet P r.toArray C (fun a' => ∀ w', C w' → wpListIn (Fence.wide) m P r.toArray Q (r.drop n) a' w') (r.take n) a) : (Code.region id r.toArray true).wpIn (Fence.wide) m P Q a w := by
  simp only [Region.lexTailB, Bool.and_eq_true, decide_eq_true_eq] at hB
  obtain ⟨⟨⟨⟨hsel, hn⟩, hs⟩, hc⟩, hlex⟩ := hB
  have hn' : n < r.length := by simpa using hn
  have htl : (r.take n).length = n := by simp; omega
  have hdl : (r.drop n).length = r.toArray.size - n := by simp
  have inv0 : HeadInv .any r.toArray n (Array.replicate r.toArray.size false) :=
    ⟨by simp, fun j oj _ hl => (by rw [getD_replicate_false] at hl; cases hl), fun t _ ht => getD_in (by simpa using ht) (getD_replicate_false _ _)⟩
  have H := qAnyL_lex (md := .any) (g := r.toArray.size - n) hsel hs hc hn (r.take n) 0 _ a (fun j hj => by
    have hj' : j < n := by rw [htl] at hj; exact hj
    simp [hj']) (by simpa using htl) inv0 (by rw [htl]; exact hlex) h
  refine wpIn_region_any hm ?_
  have := wpAnyW_of_head (m := m) (Q' := Q) (g := r.toArray.size - n) hd (fun listed a' w' hw' hL => by
    have := wpAnyIn_of_seq (F := Fence.wide) (m := m) (md := .any) (Q' := Q) (r.drop n) n listed a' w' (fun j => by simp [List.getElem?_drop]) (by rw [hdl]; exact hL.1) (hL.2 w' hw')
    rwa [hdl] at this) _ _ _ _ hC H
  rw [htl, show n + (r.toArray.size - n) = r.toArray.size by omega] at this
  exact this
end
end Go.Proofs.YtpipcpjkfgdpcaaDoor

namespace Go.Proofs.YtpipcpjkfgdpcaaDoor
open Go.RowKit
attribute [local go_sem] Oper.semAt_some

set_option maxHeartbeats 8000000 in
set_option maxRecDepth 100000 in
theorem rtext_grid (A B : Option Addr) (ca cb : Nat) (s0 a : List Int) (m : Nat) (w : World) (hA : IntsAt w A (s0 ++ [(m : Int)])) (hB : IntsAt w B a) (hl : All64 (s0 ++ [(m : Int)])) (hla : All64 a) (hp : Pow10 w) (h0 : arMay (s0 ++ [(m : Int)]) a = 0) (hne : a ≠ []) (hs0 : s0 ≠ []) :
    Calls Tryd.prog 29 #[.agg #[.slice A (s0 ++ [(m : Int)]).length ca, .slice B a.length cb]] w fun e w' => e = .returned (.tuple #[.string ⟨(grid (s0 ++ [(m : Int)]) a m a.length a.length).toArray⟩, .int .i64 0]) ∧ Below w.heap.size w w' := by
  obtain ⟨s, hs⟩ : ∃ s, s = s0 ++ [(m : Int)] := ⟨_, rfl⟩
  rw [← hs] at hA hl h0 ⊢
  have hM : shMay s = 0 ∧ places s = a.length := by
    unfold arMay at h0
    split at h0
    · cases h0
    · rename_i hh
      exact ⟨h0, Classical.byContradiction fun hc => hh ⟨h0, hc⟩⟩
  have hnn := may_nonneg hM.1
  have hpb := places_bound hM.1 s.length
  rw [List.take_length] at hpb
  have hal : a.length ≤ 4096 := by have := hM.2; unfold places at this; omega
  have hal0 : 0 < a.length := List.length_pos_iff.2 hne
  have hk : s.length = s0.length + 1 := by rw [hs]; simp
  have hs1 : 1 ≤ s0.length := List.length_pos_iff.2 hs0
  have hpos : ∀ x ∈ s, 1 ≤ x ∧ x ≤ 4096 := fun x hx => by
    have h1 := hnn.1 x hx
    have h2 := may_le s 1 hnn.2.2 x hx
    have h3 := fold_pos s 1 (by have := hM.2; unfold places at this; omega) x hx
    omega
  have hmm := hpos m (by rw [hs]; simp)
  have hm : 1 ≤ m := by omega
  have hm2 : m ≤ 4096 := by omega
  obtain ⟨k0, hk0⟩ : ∃ k0, k0 = s0.length := ⟨_, rfl⟩
  obtain ⟨N, hN⟩ : ∃ N, N = a.length := ⟨_, rfl⟩
  rw [← hk0] at hk hs1
  have hk8 : k0 ≤ 7 := by have := hnn.2.1; omega
  have hsm : s[k0]? = some (m : Int) := by rw [hs, hk0]; simp
  have hpl : places s0 * m = N := by rw [hN, ← hM.2, hs, places_snoc]
  have HA := Lib.hid (And.intro hA (And.intro hB (And.intro hl hla)))
  have HP := Lib.hid hp
  have HPOS := Lib.hid hpos
  have HS : Hid (s = s0 ++ [(m : Int)] ∧ s.length = k0 + 1 ∧ k0 = s0.length ∧ s[k0]? = some (m : Int) ∧ places s0 * m = N ∧ N = a.length) := Lib.hid ⟨hs, hk, hk0, hsm, hpl, hN⟩
  have HC := Lib.hid (refMay4_any A B ca cb s a (w.alloc (.cells #[.slice A s.length ca, .slice B a.length cb] 36)) (hA.on ((Below.refl _ _).alloc (Nat.le_refl _) _)) hl (by omega))
  rw [h0, show decide ((0 : Int) = 0) = true from rfl] at HC
  rw [← hN] at HC hal hal0 ⊢
  rw [hk] at HC ⊢
  have e1 : ((N : Int) == 0) = false := beq_eq_false_iff_ne.2 (by omega)
  have e2 : ¬ ((k0 : Int) + 1 < 2) := by omega
  clear hA hB hl hla hp h0 hpos hs hk hk0 hsm hM hnn hpb hne hs0 hN hpl hmm
  go_enter Tryd.func29, Tryd.ntmps29
  go_wp2_with fail
  refine HC.out.mono ?_
  rintro e w2 ⟨rfl, hb2⟩
  have hlt : w.heap.size < (w.alloc (.cells #[.slice A (k0 + 1) ca, .slice B N cb] 36)).heap.size := by simp
  obtain ⟨q0, q1⟩ := box2 w (.slice A (k0 + 1) ca) (.slice B N cb) 36
  have x0 := (hb2.cell (p := ⟨w.heap.size, 0, none⟩) hlt).trans q0
  have x1 := (hb2.cell (p := ⟨w.heap.size, 1, none⟩) hlt).trans q1
  have hlt2 := Nat.lt_of_lt_of_le hlt hb2.size
  have HB2 : Hid (Below w.heap.size w w2) := Lib.hid (((Below.refl _ w).alloc (Nat.le_refl _) _).then_ hb2)
  obtain ⟨bs, os, hAe, hbs, kcs⟩ := (HA.out.1.on (HB2.out)) k0 _ HS.out.2.2.2.1
  subst hAe
  have HQ : Hid (∀ w', Below w2.heap.size w2 w' → w'.cell? ⟨w.heap.size, 0, none⟩ = some (.slice (some ⟨bs, os, none⟩) (k0 + 1) ca) ∧ w'.cell? ⟨w.heap.size, 1, none⟩ = some (.slice B N cb)) := Lib.hid fun w' h => ⟨(h.cell (p := ⟨w.heap.size, 0, none⟩) hlt2).trans x0, (h.cell (p := ⟨w.heap.size, 1, none⟩) hlt2).trans x1⟩
  have hwk : IntKind.i64.wrap (k0 : Int) = k0 := by rw [IntKind.wrap_i64]; omega
  obtain ⟨j0, hj0, hz0, hz1, hz2⟩ := info_parts info_int
  have hsz2 := HB2.out.size
  clear hb2 hbs q0 q1 hlt hlt2
  go_wp2_with (at_make; refine wpList_make_full _ rfl _ _ 25 rfl w2.heap.size 3 j0 (.int .i64 0) 1 Tryd.underlying25 hj0 hz0 hz1 .i64 .i64 (m : Int) (m : Int) m rfl rfl rfl rfl (by rw [hz2]; omega) (by unfold maxLen; omega) (Nat.le_refl _) ?_)
  intro w4 hown hg4
  have hwide : Wide w4 w2.heap.size m (wd a m 0) := wide_new hown
  have hb4 : Below w2.heap.size w2 w4 := ⟨hg4.os, hg4.tape, hg4.output, hg4.size, fun k hk => hg4.block k hk (by simp)⟩
  have HW0 := Lib.hid (And.intro hb4 hwide)
  obtain ⟨y0, y1⟩ := HQ.out w4 hb4
  clear hown hg4 hwide hb4 x0 x1
  go_wp2_with fail
  go_loopw [7] (fun v7 wr => ∃ p : Nat, p ≤ N ∧ v7 = .int .i64 p ∧ Hid (Below w2.heap.size w2 wr ∧ Wide wr w2.heap.size m (wd a m p))) (fun v7 _ => N - (intOf v7).toNat)
  case atStart => exact ⟨0, Nat.zero_le _, rfl, HW0⟩
  case round =>
    obtain ⟨p, hpN, rfl, HW⟩ := hrel
    obtain ⟨z0, z1⟩ := HQ.out wr HW.out.1
    by_cases hlt : p < N
    · obtain ⟨x, hx⟩ : ∃ x, a[p]? = some x := ⟨_, List.getElem?_eq_getElem (by rw [← HS.out.2.2.2.2.2]; exact hlt)⟩
      have hx64 : In64 x := HA.out.2.2.2 x (List.mem_of_getElem? hx)
      have hxa : atomAt a p = x := by unfold atomAt; rw [hx]; rfl
      obtain ⟨b, off, rfl, hbl, kc⟩ := (HA.out.2.1.on (HB2.out.then_ HW.out.1)) p x hx
      obtain ⟨c, hc⟩ : ∃ c, c = p % m := ⟨_, rfl⟩
      have hcm : c < m := by rw [hc]; exact Nat.mod_lt _ (by omega)
      obtain ⟨wv, hwv⟩ : ∃ wv, wv = wd a m p c := ⟨_, rfl⟩
      obtain ⟨kw, kf⟩ := HW.out.2.cell hcm
      rw [← hwv] at kw
      have hlw : w2.heap.size < wr.heap.size := by obtain ⟨cur, h1, _⟩ := HW.out.2; exact (Array.getElem?_eq_some_iff.1 h1).1
      have hl0 : w.heap.size < wr.heap.size := by have := HB2.out.size; omega
      have HF : Hid (∀ W', Below wr.heap.size wr W' → W'.cell? ⟨w.heap.size, 1, none⟩ = some (.slice (some ⟨b, off, none⟩) N cb) ∧ W'.cell? ⟨w2.heap.size, c, none⟩ = some (.int .i64 wv) ∧ W'.frozen? ⟨w2.heap.size, c, none⟩ = false ∧ W'.cell? ⟨b, off + p, none⟩ = some (.int .i64 x)) := Lib.hid fun W' hbb =>
        ⟨(hbb.cell (p := ⟨w.heap.size, 1, none⟩) hl0).trans z1, (hbb.cell (p := ⟨w2.heap.size, c, none⟩) hlw).trans kw, (hbb.frozen (p := ⟨w2.heap.size, c, none⟩) hlw).trans kf, (hbb.cell (p := ⟨b, off + p, none⟩) hbl).trans kc⟩
      have HX := Lib.hid (And.intro hx64 hxa)
      have hrem : ((p : Int).tmod m) = c := by rw [hc]; rfl
      have hrem2 : ((p : Int) % m) = c := by rw [hc]; rfl
      have hm0 : ¬ m = 0 := by omega
      have hcmi : (c : Int) < m := by omega
      have HWV := Lib.hid (And.intro hwv hc)
      have HPW := Lib.hid (HP.out.on (HB2.out.then_ HW.out.1))
      go_upto_region 11 with fail
      clear hx hx64 hxa hbl kc kw kf hlw hl0 hwv hc z0 z1 y0 y1
      refine (wpIn_wide (n := 8)).1 ?_
      refine wpW_region_head_tail (C := fun W' => Below wr.heap.size wr W') 18 (by kernel_rfl) (by kernel_rfl) (by kernel_rfl) ((Below.refl _ _).drew) ?_
      simp only [List.take_succ_cons, List.take_zero, List.drop_succ_cons, List.drop_zero]
      repeat
        (refine wpQuiet_step (fun K hK => ?_)
         go_simp
         first
         | (refine hK _ ?_; clear hK K)
         | (apply Exists.intro
            refine ⟨fun W' hC => ?_, hK _ ?_⟩
            (obtain ⟨q1, q2, q3, q4⟩ := HF.out W' hC
             first
             | (go_simp; rfl)
             | (go_simp; done)
             | (refine (number_any x HX.out.1 W' (HPW.out.on hC)).mono ?_
                rintro e w' ⟨rfl, hb'⟩
                exact ⟨rfl, hC.then_ hb'⟩))
            clear hK K))
      refine wpQuiet_nil ?_
      intro w3 hC3
      obtain ⟨q1, q2, q3, q4⟩ := HF.out w3 hC3
      have HC3 := Lib.hid hC3
      clear hC3
      gi_wp2
      have HW' : Hid (Below w2.heap.size w2 (w3.setCell ⟨w2.heap.size, c, none⟩ (.int .i64 (max ↑wv ↑(digits x).length))) ∧ Wide (w3.setCell ⟨w2.heap.size, c, none⟩ (.int .i64 (max ↑wv ↑(digits x).length))) w2.heap.size m (wd a m (p + 1))) := Lib.hid (by
        have hwe : wd a m (p + 1) c = max wv (digits x).length := by
          show (if c = p % m then max (wd a m p c) (digits (atomAt a p)).length else wd a m p c) = _
          rw [if_pos HWV.out.2, ← HWV.out.1, HX.out.2]
        refine ⟨(HW.out.1.then_ HC3.out).setCell (p := ⟨w2.heap.size, c, none⟩) (Nat.le_refl _) _, (HW.out.2.on HC3.out).set _ ?_ (fun d hd => ?_)⟩
        · rw [hwe]
          congr 1
          omega
        · show (if d = p % m then max (wd a m p d) (digits (atomAt a p)).length else wd a m p d) = _
          rw [if_neg (fun e => hd (e.trans HWV.out.2.symm))])
      clear q1 q2 q3 q4 hrem hrem2 hm0 hcmi
      go_wp2_with fail
      exact ⟨⟨p + 1, by omega, by go_num, HW'⟩, by simp [intOf]; omega⟩
    · obtain rfl : p = N := by omega
      have hge : ¬ (p : Int) < p := by omega
      obtain ⟨W0, rfl⟩ : ∃ W0, W0 = wr := ⟨_, rfl⟩
      have HBW : Hid (Below w.heap.size w W0) := Lib.hid (HB2.out.then_ HW.out.1)
      have HQ0 : Hid (∀ w', Below W0.heap.size W0 w' → w'.cell? ⟨w.heap.size, 0, none⟩ = some (.slice (some ⟨bs, os, none⟩) (k0 + 1) ca) ∧ w'.cell? ⟨w.heap.size, 1, none⟩ = some (.slice B p cb) ∧ ∀ c, c < m → w'.cell? ⟨w2.heap.size, c, none⟩ = some (.int .i64 (wd a m p c))) := Lib.hid (by
        intro w' h
        obtain ⟨r0, r1⟩ := HQ.out w' (HW.out.1.then_ h)
        exact ⟨r0, r1, fun c hc => ((HW.out.2.on h).cell hc).1⟩)
      go_wp2_with fail
      go_loopw [8, 9] (fun v8 v9 wr => ∃ q : Nat, q ≤ p ∧ v9 = .int .i64 q ∧ Hid (OwnsB wr W0.heap.size v8 (bodyT s a m p q)) ∧ Hid (Below W0.heap.size W0 wr)) (fun _ v9 _ => p - (intOf v9).toNat)
      case atStart =>
        exact ⟨0, Nat.zero_le _, rfl, Lib.hid (ownsB_nil _ _), Lib.hid (Below.refl _ _)⟩
      case round =>
        obtain ⟨q, hqp, rfl, HO, HBq⟩ := hrel
        clear HW z0 z1 y0 y1 HW0
        obtain ⟨z0, z1, -⟩ := HQ0.out _ HBq.out
        by_cases hlt : q < p
        · obtain ⟨i0, hi, hy0, hy1, hy2⟩ := byte_infos
          obtain ⟨bt, hbt⟩ : ∃ bt, bt = bodyT s a m p q := ⟨_, rfl⟩
          have hbl : bt.length ≤ 130 * q := by rw [hbt]; exact body_len _ _ _ _ _ HA.out.2.2.2 (by rw [HS.out.2.1]; omega)
          have hrem : ((q : Int).tmod m) = ((q % m : Nat) : Int) := rfl
          have hrem2 : ((q : Int) % m) = ((q % m : Nat) : Int) := rfl
          have hmz : ¬ m = 0 := by omega
          have HG0 : Hid (q = 0 → grid s a m p q = bt) := Lib.hid fun h => by subst h; rw [hbt]; rfl
          have HG1 : Hid (q % m ≠ 0 → grid s a m p q = bt ++ [32]) := Lib.hid fun h => by
            rw [grid_body _ _ _ _ _ (Nat.pos_of_ne_zero fun e => by rw [e, Nat.zero_mod] at h; exact h rfl), sep_blank hm h, hbt]
          have HG2 : Hid (0 < q → q % m = 0 → grid s a m p q = bt ++ Lib.repeatL [10] (1 + trail s0 (((q / m : Nat) : Int) - 1))) := Lib.hid fun h h2 => by
            rw [grid_body _ _ _ _ _ h, sep_lines hm h hlt h2, hbt]
            congr 5
            rw [HS.out.1]; simp
          rw [← hbt] at HO
          obtain ⟨cq, hcq⟩ : ∃ cq, cq = q % m := ⟨_, rfl⟩
          rw [← hcq] at hrem hrem2 HG1 HG2
          have HCQ := Lib.hid hcq
          clear hbt hcq
          go_upto_region 16 with fail
          go_cut [78] from 64 to 134 (fun v wx => ∃ b : Bool, v = .bool b ∧ Hid (b = decide (cq ≠ 0)) ∧ wx = wr)
          case first =>
            by_cases hq0 : 0 < q
            · have x1 : (0 : Int) < q := by omega
              go_wp2_with fail
              go_meet
              case rel => exact ⟨_, rfl, Lib.hid (by simp [Nat.pos_iff_ne_zero]), rfl⟩
            · have x1 : ¬ (0 : Int) < q := by omega
              have HC0 : Hid (cq = 0) := Lib.hid (by rw [HCQ.out, show q = 0 by omega, Nat.zero_mod])
              go_wp2_with fail
              go_meet
              case rel => exact ⟨_, rfl, Lib.hid (by simp [HC0.out]), rfl⟩
          obtain ⟨b1, rfl, HBL, hwc⟩ := hcut
          subst hwc
          go_upto_if 78 with fail
          go_cut [8] from 64 to 134 (fun v8 wx => ∃ d : List UInt8, Hid (d = if cq = 0 then bt else bt ++ [32]) ∧ d.length ≤ 130 * q + 1 ∧ Hid (OwnsB wx W0.heap.size v8 d) ∧ Hid (Below W0.heap.size W0 wx))
          case first =>
            cases b1 with
            | false =>
              have HC0 : Hid (cq = 0) := Lib.hid (by have := HBL.out; simpa using this)
              go_wp2_with fail
              go_meet
              case rel => exact ⟨bt, Lib.hid (by rw [if_pos HC0.out]), by omega, HO, HBq⟩
            | true =>
              have HC0 : Hid (cq ≠ 0) := Lib.hid (by have := HBL.out; simpa using this)
              go_wp2_with (at_builtin; refine wpList_append_own _ rfl _ _ 82 rfl W0.heap.size 5 i0 (.int .u8 0) 1 1 Tryd.underlying82 hi hy0 hy1 hy2 rfl (by decide) _ bt.length (Lib.byteCells bt) rfl (World.ownsRow.alloc HO.out _) ⟨wc.heap.size, 0, none⟩ 1 1 [.int .u8 32] rfl rfl (cell_one_new _ _ _) (by simp [Value.oneCell']) ?_ ?_ ?_ ?_)
              · unfold maxLen; omega
              · omega
              · have := HBq.out.size; simp; omega
              intro v' w6 hown6 hgr6 _
              obtain ⟨HO6, HB6⟩ := ownsB_byte _ HBq.out HO.out (c := 32) hown6 hgr6
              clear hown6 hgr6
              go_wp2_with fail
              go_meet
              case rel => exact ⟨bt ++ [32], Lib.hid (by rw [if_neg HC0.out]), by rw [List.length_append]; simp only [List.length_cons, List.length_nil]; omega, HO6, HB6⟩
          clear HO HBq
          obtain ⟨d, HD, hdl, HO, HBd⟩ := hcut
          obtain ⟨W1, rfl⟩ : ∃ W1, W1 = wc := ⟨_, rfl⟩
          obtain ⟨z0, z1, -⟩ := HQ0.out _ HBd.out
          go_upto_region 18 with fail
          go_cut [89] from 64 to 134 (fun v wx => ∃ b : Bool, v = .bool b ∧ Hid (b = decide (0 < q ∧ cq = 0)) ∧ wx = W1)
          case first =>
            by_cases hq0 : 0 < q
            · have x1 : (0 : Int) < q := by omega
              by_cases hc0 : cq = 0
              · have x2 : ((cq : Int) == 0) = true := by simp [hc0]
                have HC0 := Lib.hid hc0
                clear hc0
                go_wp2_with fail
                go_meet
                case rel => exact ⟨true, by first | rfl | simp [HC0.out], Lib.hid (by simp [HC0.out]; omega), rfl⟩
              · have x2 : ((cq : Int) == 0) = false := by simp; omega
                have HC0 := Lib.hid hc0
                clear hc0
                go_wp2_with fail
                go_meet
                case rel => exact ⟨false, by first | rfl | simp [HC0.out], Lib.hid (by simp [HC0.out]), rfl⟩
            · have x1 : ¬ (0 : Int) < q := by omega
              go_wp2_with fail
              go_meet
              case rel => exact ⟨_, rfl, Lib.hid (by simp; omega), rfl⟩
          obtain ⟨b2, rfl, HB2L, hwc⟩ := hcut
          subst hwc
          go_upto_if 89 with fail
          go_cut [8] from 64 to 134 (fun v8 wx => ∃ f : List UInt8, Hid (f = grid s a m p q) ∧ f.length ≤ 130 * q + 70 ∧ Hid (OwnsB wx W0.heap.size v8 f) ∧ Hid (Below W0.heap.size W0 wx))
          case first =>
            cases b2 with
            | false =>
              have HE : Hid (d = grid s a m p q) := Lib.hid (by
                have h := HB2L.out
                by_cases hc0 : cq = 0
                · have hq0 : q = 0 := Classical.byContradiction fun hh => by simp [hc0] at h; omega
                  rw [HD.out, if_pos hc0, HG0.out hq0]
                · rw [HD.out, if_neg hc0, HG1.out hc0])
              go_wp2_with fail
              go_meet
              case rel => exact ⟨d, HE, by omega, HO, HBd⟩
            | true =>
              have hB2 : 0 < q ∧ cq = 0 := by have := HB2L.out; simpa using this
              have HB2C := Lib.hid hB2
              have hd : d = bt := by rw [HD.out, if_pos hB2.2]
              subst hd
              obtain ⟨t0, ht0⟩ : ∃ t0, k0 = t0 + 1 := ⟨k0 - 1, by omega⟩
              have hk2a : IntKind.i64.wrap ((k0 : Int) - 1) = (t0 : Int) := by rw [IntKind.wrap_i64]; omega
              have hk2b : IntKind.i64.wrap ((k0 : Int) + 1 - 2) = (t0 : Int) := by rw [IntKind.wrap_i64]; omega
              have HT0 := Lib.hid ht0
              have ht07 : t0 ≤ 7 := by omega
              obtain ⟨r, hr⟩ : ∃ r, r = q / m := ⟨_, rfl⟩
              have HR : Hid (q = m * r ∧ 1 ≤ r ∧ grid s a m p q = d ++ Lib.repeatL [10] (1 + trail s0 ((r : Int) - 1))) := Lib.hid (by
                have h1 := Nat.div_add_mod q m
                rw [← HCQ.out, HB2C.out.2, Nat.add_zero, ← hr] at h1
                refine ⟨h1.symm, ?_, by rw [hr]; exact HG2.out HB2C.out.1 HB2C.out.2⟩
                rcases Nat.eq_zero_or_pos r with h | h
                · rw [h, Nat.mul_zero] at h1; have := HB2C.out.1; omega
                · exact h)
              have HRL : Hid ((r : Int) < places s0) := Lib.hid (by
                have h := HS.out.2.2.2.2.1
                have h1 : ((m * r : Nat) : Int) < (p : Int) := by rw [← HR.out.1]; omega
                rw [← h, Int.natCast_mul, Int.mul_comm] at h1
                exact Int.lt_of_mul_lt_mul_right h1 (by omega))
              clear hB2 ht0 hr
              go_wp2_with (at_builtin; refine wpList_append_own _ rfl _ _ 82 rfl W0.heap.size 5 i0 (.int .u8 0) 1 1 Tryd.underlying82 hi hy0 hy1 hy2 rfl (by decide) _ d.length (Lib.byteCells d) rfl (World.ownsRow.alloc HO.out _) ⟨wc.heap.size, 0, none⟩ 1 1 [.int .u8 10] rfl rfl (cell_one_new _ _ _) (by simp [Value.oneCell']) ?_ ?_ ?_ ?_)
              · unfold maxLen; omega
              · omega
              · have := HBd.out.size; simp; omega
              intro v' w6 hown6 hgr6 _
              obtain ⟨HO6, HB6⟩ := ownsB_byte _ HBd.out HO.out (c := 10) hown6 hgr6
              clear hown6 hgr6
              go_wp2_with fail
              obtain ⟨W2, rfl⟩ : ∃ W2, W2 = wc := ⟨_, rfl⟩
              go_loopw [8, 10, 11] (fun v8 v10 v11 wr => ∃ (t D c ov : Nat), v11 = .int .i64 t ∧ v10 = .int .i64 ov ∧ ov = m * D ∧ 1 ≤ D ∧ c + t ≤ t0 ∧ Hid (TrailInv s0 r D c t) ∧ Hid (OwnsB wr W0.heap.size v8 (d ++ Lib.repeatL [10] (1 + c))) ∧ Hid (Below W0.heap.size W0 wr)) (fun _ _ v11 _ => (intOf v11).toNat)
              case atStart => exact ⟨t0, 1, 0, m, rfl, rfl, by omega, Nat.le_refl _, by omega, Lib.hid (TrailInv.start r (by rw [← HS.out.2.2.1]; exact HT0.out)), HO6, HB6⟩
              case round =>
                obtain ⟨t, D, c, ov, rfl, rfl, hov, hD, hct, HI, HO, HBt⟩ := hrel
                obtain ⟨y0, y1, -⟩ := HQ0.out _ HBt.out
                by_cases ht : 0 < t
                · obtain ⟨t', rfl⟩ : ∃ t', t = t' + 1 := ⟨t - 1, by omega⟩
                  have hti : (0 : Int) < ((t' + 1 : Nat) : Int) := by omega
                  have htl : t' + 1 < s0.length := by rw [← HS.out.2.2.1]; have := HT0.out; omega
                  obtain ⟨x, hx⟩ : ∃ x, s0[t' + 1]? = some x := ⟨_, List.getElem?_eq_getElem htl⟩
                  have hxs : s[t' + 1]? = some x := by rw [HS.out.1, List.getElem?_append_left htl, hx]
                  obtain ⟨hx1, hx2⟩ := HPOS.out x (List.mem_of_getElem? hxs)
                  obtain ⟨xn, rfl⟩ : ∃ xn : Nat, x = xn := ⟨x.toNat, by omega⟩
                  obtain ⟨b', off', he, -, kt⟩ := (HA.out.1.on (HBW.out.then_ HBt.out)) (t' + 1) _ hxs
                  simp only [Option.some.injEq, Addr.mk.injEq, and_true] at he
                  obtain ⟨rfl, rfl⟩ := he
                  have hnext := HI.out.next HR.out.2.1 hD hx (by omega)
                  have hbnd := hnext.bound (N := p) (m := m) (fun y hy => (HPOS.out y (by rw [HS.out.1]; simp [hy])).1) HS.out.2.2.2.2.1
                  obtain ⟨ov2, hov2⟩ : ∃ ov2, ov2 = m * (D * xn) := ⟨_, rfl⟩
                  have hmul : (ov : Int) * (xn : Int) = (ov2 : Int) := by rw [hov2, hov, ← Nat.mul_assoc]; exact (Int.natCast_mul _ _).symm
                  have hovb : ov2 ≤ p := by rw [hov2]; exact hbnd
                  have hw2 : IntKind.i64.wrap (ov2 : Int) = (ov2 : Int) := by rw [IntKind.wrap_i64]; omega
                  have hD1 : 1 ≤ D * xn := Nat.mul_le_mul hD (show 1 ≤ xn by omega)
                  have hov0 : ¬ ov2 = 0 := by have := Nat.mul_le_mul hm hD1; omega
                  obtain ⟨e, hee⟩ : ∃ e, e = q % ov2 := ⟨_, rfl⟩
                  have hre : ((q : Int).tmod ov2) = (e : Int) := by rw [hee]; rfl
                  have hre2 : ((q : Int) % ov2) = (e : Int) := by rw [hee]; rfl
                  have hE : e = 0 ↔ r % (D * xn) = 0 := by rw [hee, hov2]; exact over_mod hm HR.out.1
                  have htk : ((t' + 1 : Nat) : Int) < (k0 : Int) + 1 := by have := HT0.out; omega
                  have HNX := Lib.hid (And.intro hnext (And.intro hov2 (And.intro hE hD1)))
                  clear hx hxs hnext hbnd hov2 hov hee hE
                  by_cases he0 : e = 0
                  · have xe : ((e : Int) == 0) = true := by simp [he0]
                    have HE0 := Lib.hid he0
                    have hcl : (d ++ Lib.repeatL [10] (1 + c)).length ≤ 130 * q + 20 := by rw [List.length_append, rep_len]; omega
                    obtain ⟨g, hg⟩ : ∃ g, g = d ++ Lib.repeatL [10] (1 + c) := ⟨_, rfl⟩
                    have HGG := Lib.hid hg
                    rw [← hg] at HO hcl
                    clear he0 hg
                    go_wp2_with (at_builtin; refine wpList_append_own _ rfl _ _ 82 rfl W0.heap.size 5 i0 (.int .u8 0) 1 1 Tryd.underlying82 hi hy0 hy1 hy2 rfl (by decide) _ g.length (Lib.byteCells g) rfl (World.ownsRow.alloc HO.out _) ⟨wr.heap.size, 0, none⟩ 1 1 [.int .u8 10] rfl rfl (cell_one_new _ _ _) (by simp [Value.oneCell']) ?_ ?_ ?_ ?_)
                    · unfold maxLen; omega
                    · omega
                    · have := HBt.out.size; simp; omega
                    intro v' w7 hown7 hgr7 _
                    obtain ⟨HO7, HB7⟩ := ownsB_byte _ HBt.out HO.out (c := 10) hown7 hgr7
                    clear hown7 hgr7
                    go_wp2_with fail
                    refine ⟨⟨t', D * xn, c + 1, ov2, by go_num, rfl, HNX.out.2.1, HNX.out.2.2.2, by omega, Lib.hid (by have h := HNX.out.1; rw [if_pos (HNX.out.2.2.1.1 HE0.out)] at h; exact h), Lib.hid (by rw [show 1 + (c + 1) = (1 + c) + 1 by omega, rep_snoc, ← List.append_assoc, ← HGG.out]; exact HO7.out), HB7⟩, by simp [intOf]⟩
                  · have xe : ((e : Int) == 0) = false := by simp [he0]
                    have HE0 := Lib.hid he0
                    clear he0
                    go_wp2_with fail
                    refine ⟨⟨t', D * xn, c, ov2, by go_num, rfl, HNX.out.2.1, HNX.out.2.2.2, by omega, Lib.hid (by have h := HNX.out.1; rw [if_neg (fun h0 => HE0.out (HNX.out.2.2.1.2 h0))] at h; exact h), HO, HBt⟩, by simp [intOf]⟩
                · obtain rfl : t = 0 := by omega
                  have HFIN : Hid (d ++ Lib.repeatL [10] (1 + c) = grid s a m p q) := Lib.hid (by
                    rw [HR.out.2.2, HI.out.done HR.out.2.1 hD HRL.out (fun e => by have h := HS.out.2.2.1; have h2 := HT0.out; rw [e] at h; simp at h; omega)])
                  go_wp2_with fail
                  go_meet
                  case rel => exact ⟨_, HFIN, by rw [List.length_append, rep_len]; omega, HO, HBt⟩
          clear HO HBd HD hdl HB2L HBL z0 z1
          obtain ⟨f, HFE, hfl, HO, HBf⟩ := hcut
          obtain ⟨z0, z1, zw⟩ := HQ0.out _ HBf.out
          obtain ⟨x, hx⟩ : ∃ x, a[q]? = some x := ⟨_, List.getElem?_eq_getElem (by rw [← HS.out.2.2.2.2.2]; exact hlt)⟩
          have hx64 : In64 x := HA.out.2.2.2 x (List.mem_of_getElem? hx)
          have hxa : atomAt a q = x := by unfold atomAt; rw [hx]; rfl
          obtain ⟨b, off, rfl, hbl', kc⟩ := (HA.out.2.1.on (HBW.out.then_ HBf.out)) q x hx
          have hcm : cq < m := by rw [HCQ.out]; exact Nat.mod_lt _ (by omega)
          have hcmi : (cq : Int) < m := by omega
          have hqi : (q : Int) < p := by omega
          obtain ⟨wv, hwv⟩ : ∃ wv, wv = wd a m p cq := ⟨_, rfl⟩
          obtain ⟨dl, hdl⟩ : ∃ dl, dl = (digits x).length := ⟨_, rfl⟩
          have hdw : dl ≤ wv := by rw [hdl, hwv, HCQ.out, ← hxa]; exact wd_at a m p q hlt
          have hw21 : wv ≤ 21 := by rw [hwv]; exact wd_le a m cq HA.out.2.2.2 p
          have hwr : IntKind.i64.wrap ((wv : Int) - (dl : Int)) = ((wv - dl : Nat) : Int) := by rw [IntKind.wrap_i64]; omega
          have HX := Lib.hid (And.intro hx64 (And.intro hxa (And.intro hwv hdl)))
          have HZ : Hid (∀ w', Below W0.heap.size W0 w' → w'.cell? ⟨w2.heap.size, cq, none⟩ = some (.int .i64 wv)) := Lib.hid fun w' h => by rw [hwv]; exact (HQ0.out w' h).2.2 cq hcm
          have hdl' : (digits x).length = dl := hdl.symm
          clear hx hx64 hxa hbl' hdl hwv zw hcm
          go_wp2_with fail
          refine (number_any x HX.out.1 _ (HP.out.on (HBW.out.then_ HBf.out))).mono ?_
          rintro e w8 ⟨rfl, hb8⟩
          have HB8 := Lib.hid (HBf.out.then_ hb8)
          have HO8 := Lib.hid (HO.out.on hb8)
          have kw := HZ.out w8 HB8.out
          clear hb8 HO kc z0 z1
          go_wp2_with fail
          refine (Tryd.strings_Repeat ⟨#[32]⟩ (wv - dl) w8 (by omega) (by simp [ByteArray.size]; omega)).mono ?_
          rintro e w9 ⟨rfl, hb9⟩
          have HB9 := Lib.hid (HB8.out.then_ hb9)
          have HO9 := Lib.hid (HO8.out.on hb9)
          clear hb9 kw HO8
          obtain ⟨pd, hpd⟩ : ∃ pd, pd = Lib.repeatL [32] (wv - dl) := ⟨_, rfl⟩
          have hpl : pd.length = wv - dl := by rw [hpd, rep_len]
          have HPD := Lib.hid hpd
          have hpz : (⟨pd.toArray⟩ : ByteArray).size = pd.length := rfl
          rw [show (⟨#[32]⟩ : ByteArray).data.toList = [32] from rfl, ← hpd]
          clear hpd
          go_wp2_with (at_builtin; refine Lib.wpList_append_own_string _ rfl _ _ 82 9 rfl W0.heap.size 5 i0 Tryd.underlying82 Tryd.underlying9 hi hy0 hy1 hy2 _ f.length (Lib.byteCells f) rfl HO9.out ⟨pd.toArray⟩ rfl ?_ ?_ ?_ ?_)
          · rw [hpz]; unfold maxLen; omega
          · rw [hpz]; omega
          · exact HB9.out.size
          intro v' wa howna hgra _
          obtain ⟨HOa, HBa⟩ := ownsB_str (m := pd) HB9.out HO9.out (by rw [hpz, hpl]; exact howna) hgra
          have hfp : (f ++ pd).length ≤ 130 * q + 100 := by rw [List.length_append]; omega
          obtain ⟨g, hg⟩ : ∃ g, g = f ++ pd := ⟨_, rfl⟩
          have HGG := Lib.hid hg
          rw [← hg] at HOa hfp
          have hdz : (⟨(digits x).toArray⟩ : ByteArray).size = (digits x).length := rfl
          clear howna hgra hg
          go_wp2_with (at_builtin; refine Lib.wpList_append_own_string _ rfl _ _ 82 9 rfl W0.heap.size 5 i0 Tryd.underlying82 Tryd.underlying9 hi hy0 hy1 hy2 _ g.length (Lib.byteCells g) rfl HOa.out ⟨(digits x).toArray⟩ rfl ?_ ?_ ?_ ?_)
          · rw [hdz]; unfold maxLen; omega
          · rw [hdz]; omega
          · exact HBa.out.size
          intro v' wb hownb hgrb _
          obtain ⟨HOb, HBb⟩ := ownsB_str (m := digits x) HBa.out HOa.out (by first | exact hownb | (rw [hdz, hdl']; exact hownb)) hgrb
          clear hownb hgrb
          go_wp2_with fail
          refine ⟨⟨q + 1, by omega, by go_num, Lib.hid ?_, HBb⟩, by simp [intOf]; omega⟩
          have h := HOb.out
          rw [HGG.out, HPD.out, HFE.out, HX.out.2.2.1, HX.out.2.2.2, HCQ.out, ← HX.out.2.1] at h
          exact h
        · obtain rfl : q = p := by omega
          have hge : ¬ (q : Int) < q := by omega
          have HT := Lib.hid (HO.out.text)
          have hz : q % m = 0 := by
            have h := HS.out.2.2.2.2.1
            have h1 : (0 : Int) ≤ places s0 := by
              have := places_pos s0 (fun x hx => (HPOS.out x (by rw [HS.out.1]; simp [hx])).1)
              omega
            obtain ⟨n, hn⟩ := Int.eq_ofNat_of_zero_le h1
            rw [hn] at h
            have h2 : n * m = q := by exact_mod_cast h
            rw [← h2, Nat.mul_mod_left]
          rw [← body_all hm hz] at HT
          go_wp2_with (rw [HT.out])
          go_ret2
          exact ⟨rfl, HBW.out.then_ HBq.out⟩
end Go.Proofs.YtpipcpjkfgdpcaaDoor

namespace Go.Proofs.YtpipcpjkfgdpcaaDoor
open Go.RowKit

theorem text_few_eq {s a : List Int} (h0 : arMay s a = 0) (hf : a.length = 0 ∨ s.length ≤ 1) : text s a = joined a := by
  unfold text
  by_cases ha : a.length = 0
  · rw [if_pos ha, List.length_eq_zero_iff.1 ha]; rfl
  · rw [if_neg ha]
    by_cases hs : s.length = 0
    · rw [if_pos hs]
      have hs' := List.length_eq_zero_iff.1 hs
      subst hs'
      have h1 := (arMay_iff [] a).1 h0
      have h2 : places [] = 1 := rfl
      have h3 : a.length = 1 := by have := h1.2; omega
      match a, h3 with
      | [x], _ => simp [joined, atomAt]
    · rw [if_neg hs, if_pos (by omega)]

set_option maxHeartbeats 4000000 in
set_option maxRecDepth 100000 in
theorem rtext_few (A B : Option Addr) (cp cq : Nat) (s a : List Int) (w : World) (hA : IntsAt w A s) (hB : IntsAt w B a) (hl : All64 s) (hla : All64 a) (hn : s.length ≤ 1099511627776) (hm : a.length ≤ 1099511627776) (hp : Pow10 w) (h0 : arMay s a = 0) (hf : a.length = 0 ∨ s.length ≤ 1) :
    Calls Tryd.prog 29 #[.agg #[.slice A s.length cp, .slice B a.length cq]] w fun e w' => e = .returned (.tuple #[.string ⟨(text s a).toArray⟩, .int .i64 0]) ∧ Below w.heap.size w w' := by
  rw [text_few_eq h0 hf]
  have HA := Lib.hid hA
  have HB := Lib.hid hB
  have HP := Lib.hid hp
  have HM := Lib.hid (fun w hA => refMay4_any A B cp cq s a w hA hl (by omega))
  have HRA := Lib.hid (fun w hB hp => numbers_any B cq a w hB hla hm hp)
  rw [h0, show decide ((0 : Int) = 0) = true from rfl] at HM
  obtain ⟨n, hln⟩ : ∃ n, n = s.length := ⟨_, rfl⟩
  obtain ⟨m, hlm⟩ : ∃ m, m = a.length := ⟨_, rfl⟩
  rw [← hln, ← hlm] at HM hf
  rw [← hln] at hn ⊢
  rw [← hlm] at hm HRA ⊢
  clear hA hB hl hla hp hln hlm h0
  go_enter Tryd.func29, Tryd.ntmps29
  go_wp2_with fail
  have hb1 : Below w.heap.size w (w.alloc (.cells #[.slice A n cp, .slice B m cq] 36)) := (Below.refl _ _).alloc (Nat.le_refl _) _
  have HB1 := Lib.hid hb1
  refine (HM.out _ (HA.out.on hb1)).mono ?_
  obtain ⟨q0, q1⟩ := box2 w (.slice A n cp) (.slice B m cq) 36
  have hlt : w.heap.size < (w.alloc (.cells #[.slice A n cp, .slice B m cq] 36)).heap.size := by simp
  rintro e w2 ⟨rfl, hb2⟩
  have k0 := (hb2.cell (p := ⟨w.heap.size, 0, none⟩) hlt).trans q0
  have k1 := (hb2.cell (p := ⟨w.heap.size, 1, none⟩) hlt).trans q1
  have HB2 := Lib.hid (HB1.out.then_ hb2)
  have HF := Lib.hid hf
  clear hb1 hb2 q0 q1 hlt hf
  go_upto_region 4 with fail
  go_cut [26] from 16 (fun v wx => v = .bool true ∧ wx = w2)
  case first =>
    by_cases hn2 : n < 2
    · have x1 : (n : Int) < 2 := by omega
      clear hn2
      go_wp2_with fail
      go_meet
      case rel => exact ⟨rfl, rfl⟩
    · have x1 : ¬ (n : Int) < 2 := by omega
      have hm0 : m = 0 := by rcases HF.out with h | h <;> omega
      subst hm0
      clear hn2
      go_wp2_with fail
      go_meet
      case rel => exact ⟨rfl, rfl⟩
  obtain ⟨rfl, hwc⟩ := hcut
  subst hwc
  go_wp2_with fail
  refine (HRA.out _ (HB.out.on HB2.out) (HP.out.on HB2.out)).mono ?_
  rintro e w3 ⟨rfl, hb3⟩
  have HB3 := Lib.hid (HB2.out.then_ hb3)
  clear hb3
  go_wp2_with fail
  go_ret2
  exact ⟨rfl, HB3.out⟩

set_option maxHeartbeats 4000000 in
set_option maxRecDepth 100000 in
theorem rtext_not (A B : Option Addr) (cp cq : Nat) (s a : List Int) (w : World) (hA : IntsAt w A s) (hl : All64 s) (hn : s.length ≤ 4611686018427387904) (h0 : arMay s a ≠ 0) :
    Calls Tryd.prog 29 #[.agg #[.slice A s.length cp, .slice B a.length cq]] w fun e w' => e = .returned (.tuple #[.string ⟨#[]⟩, .int .i64 1]) ∧ Below w.heap.size w w' := by
  have HA := Lib.hid hA
  have HM := Lib.hid (fun w hA => refMay4_any A B cp cq s a w hA hl hn)
  rw [show decide (arMay s a = 0) = false by simpa using h0] at HM
  clear hA hl h0
  go_enter Tryd.func29, Tryd.ntmps29
  go_wp2_with fail
  have hb1 : Below w.heap.size w (w.alloc (.cells #[.slice A s.length cp, .slice B a.length cq] 36)) := (Below.refl _ _).alloc (Nat.le_refl _) _
  refine (HM.out _ (HA.out.on hb1)).mono ?_
  rintro e w2 ⟨rfl, hb2⟩
  have HB2 := Lib.hid (hb1.then_ hb2)
  clear hb1 hb2
  go_wp2_with fail
  go_ret2
  exact ⟨rfl, HB2.out⟩
theorem rtext_any (A B : Option Addr) (ca cb : Nat) (s a : List Int) (w : World) (hA : IntsAt w A s) (hB : IntsAt w B a) (hl : All64 s) (hla : All64 a) (hn : s.length ≤ 4611686018427387904) (hp : Pow10 w) :
    Calls Tryd.prog 29 #[.agg #[.slice A s.length ca, .slice B a.length cb]] w fun e w' => e = .returned (.tuple #[.string ⟨(textOf s a).toArray⟩, .int .i64 (textErr s a)]) ∧ Below w.heap.size w w' := by
  unfold textOf textErr
  by_cases h0 : arMay s a = 0
  · rw [if_pos h0, if_pos h0]
    by_cases hf : a.length = 0 ∨ s.length ≤ 1
    · exact rtext_few A B ca cb s a w hA hB hl hla (by have := (may_parts h0).2.2.1; omega) (by have := (may_parts h0).2.2.2; omega) hp h0 hf
    · have ha : a ≠ [] := fun e => hf (.inl (by rw [e]; rfl))
      have hs : s ≠ [] := fun e => hf (.inr (by rw [e]; exact Nat.zero_le _))
      have hM : shMay s = 0 := ((arMay_iff s a).1 h0).1
      have hlast : 0 ≤ s.getLast hs := (may_nonneg hM).1 _ (List.getLast_mem hs)
      obtain ⟨m, hmm⟩ : ∃ m : Nat, s.getLast hs = m := ⟨_, (Int.toNat_of_nonneg hlast).symm⟩
      have hsd : s = s.dropLast ++ [(m : Int)] := by rw [← hmm]; exact (List.dropLast_concat_getLast hs).symm
      have hd0 : s.dropLast ≠ [] := fun e => hf (.inr (by rw [hsd, e]; simp))
      have hla1 : lastOf s = m := by unfold lastOf; rw [List.getLast?_eq_some_getLast hs, Option.getD_some, hmm]; simp
      have ht : text s a = grid s a m a.length a.length := by
        unfold text
        rw [if_neg (fun e => hf (.inl e)), if_neg (fun e => hf (.inr (by omega))), if_neg (fun e => hf (.inr (by omega))), hla1]
      rw [ht]
      have := rtext_grid A B ca cb s.dropLast a m w (by rw [← hsd]; exact hA) hB (by rw [← hsd]; exact hl) hla hp (by rw [← hsd]; exact h0) ha hd0
      rwa [← hsd] at this
  · rw [if_neg h0, if_neg h0]
    exact rtext_not A B ca cb s a w hA hl hn h0
end Go.Proofs.YtpipcpjkfgdpcaaDoor
