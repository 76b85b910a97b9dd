/- show.row: numbers with a blank between each two. Conditions: strconv's table of powers is as laid; at most 2^40 numbers. -/
import Derived.Test.YtpipcpjkfgdpcaaDoorShDigits
namespace Go.Proofs.YtpipcpjkfgdpcaaDoor
open Go.RowKit

theorem grown_below {w w' : World} (h : Below w.heap.size w w') (row : Option Nat) : w.grownBy w' row := ⟨h.os, h.tape, h.output, h.size, fun k hk _ => h.block k hk⟩
theorem _root_.Go.Lib.BuilderAtF.on {T e : TypeId} {B b : Nat} {p : Value} {bs : List Value} {w w' : World} (h : Lib.BuilderAtF T e B b p bs w) (hb : Below w.heap.size w w') : Lib.BuilderAtF T e B b p bs w' := by
  have hlt := h.lt
  obtain ⟨hB, v, hbk, hown, hne⟩ := h
  exact ⟨hB, v, (hb.block b hlt).trans hbk, hown.kept (grown_below hb none) (by cases v.ownBlock <;> simp), hne⟩
theorem _root_.Go.Lib.IsBuilderF.on {T e : TypeId} {B b : Nat} {bs : List Value} {w w' : World} (h : Lib.IsBuilderF T e B b bs w) (hb : Below w.heap.size w w') : Lib.IsBuilderF T e B b bs w' :=
  h.elim (fun x => .inl (x.on hb)) (fun x => .inr (x.on hb))

/-- numbers with a blank between each two -/
def joined : List Int → List UInt8
  | [] => []
  | x :: r => digits x ++ r.flatMap fun y => 32 :: digits y
theorem joined_snoc (l : List Int) (x : Int) : joined (l ++ [x]) = (if l = [] then [] else joined l ++ [32]) ++ digits x := by
  cases l with
  | nil => simp [joined]
  | cons y r => simp [joined, List.append_assoc]
theorem flat_len : ∀ (l : List Int), (∀ x ∈ l, In64 x) → (l.flatMap fun y => 32 :: digits y).length ≤ 22 * l.length
  | [], _ => by simp
  | x :: r, h => by
    have h1 := digits_len x (h x (by simp))
    have h2 := flat_len r (fun y hy => h y (by simp [hy]))
    simp only [List.flatMap_cons, List.length_append, List.length_cons]
    omega
theorem joined_len (l : List Int) (h : ∀ x ∈ l, In64 x) : (joined l).length ≤ 22 * l.length := by
  cases l with
  | nil => simp [joined]
  | cons x r =>
    have h1 := digits_len x (h x (by simp))
    have h2 := flat_len r (fun y hy => h y (by simp [hy]))
    simp only [joined, List.length_append, List.length_cons]
    omega
/-- a slice of numbers that can be read -/
def IntsAt (w : World) (A : Option Addr) (l : List Int) : Prop := ∀ i x, l[i]? = some x → ∃ b off, A = some ⟨b, off, none⟩ ∧ b < w.heap.size ∧ w.cell? ⟨b, off + i, none⟩ = some (.int .i64 x)
theorem IntsAt.on {w w' : World} {A : Option Addr} {l : List Int} (h : IntsAt w A l) (hb : Below w.heap.size w w') : IntsAt w' A l := fun i x hx => by
  obtain ⟨b, off, h1, h2, h3⟩ := h i x hx
  exact ⟨b, off, h1, Nat.lt_of_lt_of_le h2 hb.size, (hb.cell (p := ⟨b, _, none⟩) h2).trans h3⟩
abbrev All64 (l : List Int) : Prop := ∀ x ∈ l, In64 x
def intOf : Value → Int | .int _ q => q | _ => 0
theorem byteCells_append (a b : List UInt8) : Lib.byteCells a ++ Lib.byteCells b = Lib.byteCells (a ++ b) := by simp [Lib.byteCells]

set_option maxHeartbeats 4000000 in
set_option maxRecDepth 100000 in
theorem rowInt64 (A : Option Addr) (cp : Nat) (l : List Int) (w : World) (hA : IntsAt w A l) (hl : All64 l) (hn : l.length ≤ 1099511627776) (hp : Pow10 w) :
    Calls Tryd.prog 32 #[.slice A l.length cp] w fun e w' => e = .returned (.string ⟨(joined l).toArray⟩) ∧ Below w.heap.size w w' := by
  have HA := Lib.hid hA
  have HL := Lib.hid hl
  have HP := Lib.hid hp
  obtain ⟨n, hln⟩ : ∃ n, n = l.length := ⟨_, rfl⟩
  have HN := Lib.hid hln
  rw [← hln] at hn ⊢
  clear hA hl hp hln
  go_enter Tryd.func32, Tryd.ntmps32
  go_wp2_with fail
  go_loopw [8] (fun v8 wr => ∃ i : Nat, i ≤ n ∧ v8 = .int .i64 i ∧ Lib.IsBuilderF TB TU8 w.heap.size w.heap.size (Lib.byteCells (joined (l.take i))) wr ∧ Below w.heap.size w wr) (fun v8 _ => n - (intOf v8).toNat)
  case atStart => exact ⟨0, Nat.zero_le _, rfl, Lib.IsBuilderF.of (Lib.fresh_isBuilder TB TU8 w), (Below.refl _ _).alloc (Nat.le_refl _) _⟩
  case round =>
    obtain ⟨i, hi, rfl, hI, hb⟩ := hrel
    have HI := Lib.hid hI
    have HB := Lib.hid hb
    clear hI hb
    by_cases hlt : i < n
    · obtain ⟨x, hx⟩ : ∃ x, l[i]? = some x := ⟨_, List.getElem?_eq_getElem (by rw [← HN.out]; exact hlt)⟩
      obtain ⟨b, off, rfl, hbl, kc⟩ := (HA.out.on HB.out) i x hx
      have hx64 : In64 x := HL.out x (List.mem_of_getElem? hx)
      have htk : l.take (i + 1) = l.take i ++ [x] := by rw [List.take_add_one, hx]; rfl
      have hj := joined_snoc (l.take i) x
      rw [← htk] at hj
      have hlen := joined_len (l.take i) (fun y hy => HL.out y (List.mem_of_mem_take hy))
      have hlt2 : (l.take i).length = i := by rw [List.length_take, Nat.min_eq_left (by rw [← HN.out]; omega)]
      rw [hlt2] at hlen
      have hdx := digits_len x hx64
      have HX := Lib.hid hx64
      have HJ := Lib.hid hj
      have HLN := Lib.hid (And.intro hlen hdx)
      have HE := Lib.hid hlt2
      clear hx64 hj hlen hdx hx htk hbl hlt2
      by_cases h0 : 0 < i
      · have hg0 : (0 : Int) < i := by omega
        go_wp2_with fail
        refine (writeByte_k w.heap.size w.heap.size (Lib.byteCells (joined (l.take i))) 32 wr HI.out (by have := HLN.out.1; simp [Lib.byteCells]; omega) HB.out.size).mono ?_
        rintro e w1 ⟨rfl, h1, hb1, _⟩
        have H1 := Lib.hid h1
        have HB1 := Lib.hid (HB.out.trans hb1)
        clear h1 hb1
        go_wp2_with fail
        refine (digits_any x HX.out w1 (HP.out.on HB1.out)).mono ?_
        rintro e w2 ⟨rfl, hb2⟩
        have HB2 := Lib.hid hb2
        clear hb2
        go_wp2_with fail
        refine (writeString_k w.heap.size w.heap.size _ ⟨(digits x).toArray⟩ w2 (.inr (H1.out.on HB2.out)) (by have h1 := HLN.out.1; have h2 := HLN.out.2; simp [Lib.byteCells, ByteArray.size]; omega) (Nat.le_trans HB1.out.size HB2.out.size)).mono ?_
        rintro e w3 ⟨rfl, h3, hb3, _⟩
        have H3 := Lib.hid h3
        have HB3 := Lib.hid ((HB1.out.then_ HB2.out).trans hb3)
        clear h3 hb3
        go_wp2_with fail
        refine ⟨⟨i + 1, by omega, by go_num, ?_, HB3.out⟩, by simp [intOf]; omega⟩
        have hne : ¬ l.take i = [] := fun e => by have := HE.out; rw [e] at this; simp at this; omega
        have h3 := H3.out
        rw [HJ.out, if_neg hne]
        have e3 : Lib.byteCells (joined (l.take i)) ++ [Value.int .u8 32] ++ Lib.strCells ⟨(digits x).toArray⟩ = Lib.byteCells (joined (l.take i) ++ [32] ++ digits x) := by
          rw [← byteCells_append, ← byteCells_append]; rfl
        rw [e3] at h3
        exact .inr h3
      · obtain rfl : i = 0 := by omega
        simp only [Nat.add_zero] at kc
        go_wp2_with fail
        refine (digits_any x HX.out wr (HP.out.on HB.out)).mono ?_
        rintro e w2 ⟨rfl, hb2⟩
        have HB2 := Lib.hid hb2
        clear hb2
        go_wp2_with fail
        refine (writeString_k w.heap.size w.heap.size _ ⟨(digits x).toArray⟩ w2 (HI.out.on HB2.out) (by have h0 : (joined []).length = 0 := rfl; have h1 := HLN.out.1; have h2 := HLN.out.2; simp [Lib.byteCells, ByteArray.size]; omega) (Nat.le_trans HB.out.size HB2.out.size)).mono ?_
        rintro e w3 ⟨rfl, h3, hb3, _⟩
        have H3 := Lib.hid h3
        have HB3 := Lib.hid ((HB.out.then_ HB2.out).trans hb3)
        clear h3 hb3
        go_wp2_with fail
        refine ⟨⟨1, by omega, by go_num, ?_, HB3.out⟩, by simp [intOf]; omega⟩
        have h3 := H3.out
        have hj := HJ.out
        simp only [List.take_zero, Nat.zero_add, if_true, List.nil_append] at hj
        rw [hj]
        exact .inr h3
    · obtain rfl : i = n := by omega
      have hge : ¬ (i : Int) < i := by omega
      go_wp2_with fail
      refine (Tryd.Builder_String_any_k w.heap.size w.heap.size (joined (l.take i)) wr HI.out HB.out.size).mono ?_
      rintro e w2 ⟨rfl, _, hb2, _⟩
      have HB2 := Lib.hid (HB.out.trans hb2)
      clear hb2
      go_wp2_with fail
      go_ret
      refine ⟨?_, HB2.out⟩
      rw [HN.out, List.take_length]
      rfl

set_option maxHeartbeats 4000000 in
set_option maxRecDepth 100000 in
theorem rowInt (A : Option Addr) (cp : Nat) (l : List Int) (w : World) (hA : IntsAt w A l) (hl : All64 l) (hn : l.length ≤ 1099511627776) (hp : Pow10 w) :
    Calls Tryd.prog 33 #[.slice A l.length cp] w fun e w' => e = .returned (.string ⟨(joined l).toArray⟩) ∧ Below w.heap.size w w' := by
  have HA := Lib.hid hA
  have HL := Lib.hid hl
  have HP := Lib.hid hp
  obtain ⟨n, hln⟩ : ∃ n, n = l.length := ⟨_, rfl⟩
  have HN := Lib.hid hln
  rw [← hln] at hn ⊢
  clear hA hl hp hln
  go_enter Tryd.func33, Tryd.ntmps33
  go_wp2_with fail
  go_loopw [8] (fun v8 wr => ∃ i : Nat, i ≤ n ∧ v8 = .int .i64 i ∧ Lib.IsBuilderF TB TU8 w.heap.size w.heap.size (Lib.byteCells (joined (l.take i))) wr ∧ Below w.heap.size w wr) (fun v8 _ => n - (intOf v8).toNat)
  case atStart => exact ⟨0, Nat.zero_le _, rfl, Lib.IsBuilderF.of (Lib.fresh_isBuilder TB TU8 w), (Below.refl _ _).alloc (Nat.le_refl _) _⟩
  case round =>
    obtain ⟨i, hi, rfl, hI, hb⟩ := hrel
    have HI := Lib.hid hI
    have HB := Lib.hid hb
    clear hI hb
    by_cases hlt : i < n
    · obtain ⟨x, hx⟩ : ∃ x, l[i]? = some x := ⟨_, List.getElem?_eq_getElem (by rw [← HN.out]; exact hlt)⟩
      obtain ⟨b, off, rfl, hbl, kc⟩ := (HA.out.on HB.out) i x hx
      have hx64 : In64 x := HL.out x (List.mem_of_getElem? hx)
      have htk : l.take (i + 1) = l.take i ++ [x] := by rw [List.take_add_one, hx]; rfl
      have hj := joined_snoc (l.take i) x
      rw [← htk] at hj
      have hlen := joined_len (l.take i) (fun y hy => HL.out y (List.mem_of_mem_take hy))
      have hlt2 : (l.take i).length = i := by rw [List.length_take, Nat.min_eq_left (by rw [← HN.out]; omega)]
      rw [hlt2] at hlen
      have hdx := digits_len x hx64
      have HX := Lib.hid hx64
      have HJ := Lib.hid hj
      have HLN := Lib.hid (And.intro hlen hdx)
      have HE := Lib.hid hlt2
      clear hx64 hj hlen hdx hx htk hbl hlt2
      by_cases h0 : 0 < i
      · have hg0 : (0 : Int) < i := by omega
        go_wp2_with fail
        refine (writeByte_k w.heap.size w.heap.size (Lib.byteCells (joined (l.take i))) 32 wr HI.out (by have := HLN.out.1; simp [Lib.byteCells]; omega) HB.out.size).mono ?_
        rintro e w1 ⟨rfl, h1, hb1, _⟩
        have H1 := Lib.hid h1
        have HB1 := Lib.hid (HB.out.trans hb1)
        clear h1 hb1
        go_wp2_with fail
        refine (digits_any x HX.out w1 (HP.out.on HB1.out)).mono ?_
        rintro e w2 ⟨rfl, hb2⟩
        have HB2 := Lib.hid hb2
        clear hb2
        go_wp2_with fail
        refine (writeString_k w.heap.size w.heap.size _ ⟨(digits x).toArray⟩ w2 (.inr (H1.out.on HB2.out)) (by have h1 := HLN.out.1; have h2 := HLN.out.2; simp [Lib.byteCells, ByteArray.size]; omega) (Nat.le_trans HB1.out.size HB2.out.size)).mono ?_
        rintro e w3 ⟨rfl, h3, hb3, _⟩
        have H3 := Lib.hid h3
        have HB3 := Lib.hid ((HB1.out.then_ HB2.out).trans hb3)
        clear h3 hb3
        go_wp2_with fail
        refine ⟨⟨i + 1, by omega, by go_num, ?_, HB3.out⟩, by simp [intOf]; omega⟩
        have hne : ¬ l.take i = [] := fun e => by have := HE.out; rw [e] at this; simp at this; omega
        have h3 := H3.out
        rw [HJ.out, if_neg hne]
        have e3 : Lib.byteCells (joined (l.take i)) ++ [Value.int .u8 32] ++ Lib.strCells ⟨(digits x).toArray⟩ = Lib.byteCells (joined (l.take i) ++ [32] ++ digits x) := by
          rw [← byteCells_append, ← byteCells_append]; rfl
        rw [e3] at h3
        exact .inr h3
      · obtain rfl : i = 0 := by omega
        simp only [Nat.add_zero] at kc
        go_wp2_with fail
        refine (digits_any x HX.out wr (HP.out.on HB.out)).mono ?_
        rintro e w2 ⟨rfl, hb2⟩
        have HB2 := Lib.hid hb2
        clear hb2
        go_wp2_with fail
        refine (writeString_k w.heap.size w.heap.size _ ⟨(digits x).toArray⟩ w2 (HI.out.on HB2.out) (by have h0 : (joined []).length = 0 := rfl; have h1 := HLN.out.1; have h2 := HLN.out.2; simp [Lib.byteCells, ByteArray.size]; omega) (Nat.le_trans HB.out.size HB2.out.size)).mono ?_
        rintro e w3 ⟨rfl, h3, hb3, _⟩
        have H3 := Lib.hid h3
        have HB3 := Lib.hid ((HB.out.then_ HB2.out).trans hb3)
        clear h3 hb3
        go_wp2_with fail
        refine ⟨⟨1, by omega, by go_num, ?_, HB3.out⟩, by simp [intOf]; omega⟩
        have h3 := H3.out
        have hj := HJ.out
        simp only [List.take_zero, Nat.zero_add, if_true, List.nil_append] at hj
        rw [hj]
        exact .inr h3
    · obtain rfl : i = n := by omega
      have hge : ¬ (i : Int) < i := by omega
      go_wp2_with fail
      refine (Tryd.Builder_String_any_k w.heap.size w.heap.size (joined (l.take i)) wr HI.out HB.out.size).mono ?_
      rintro e w2 ⟨rfl, _, hb2, _⟩
      have HB2 := Lib.hid (HB.out.trans hb2)
      clear hb2
      go_wp2_with fail
      go_ret
      refine ⟨?_, HB2.out⟩
      rw [HN.out, List.take_length]
      rfl
end Go.Proofs.YtpipcpjkfgdpcaaDoor
