/- slices.Clone at []int, []int64; slices.Clip at []api.Term. Condition: sizes within reach. -/
import Derived.Test.YteohoodfcgfkeaaGreatTeOwn
import Derived.Test.YteohoodfcgfkeaaGreatTeW1
import Derived.Maps.AppendAt
import Derived.WalkSpells
namespace Go.Proofs.YteohoodfcgfkeaaGreat
open Go.RowKit

theorem info_in : (Tryz.prog.info? TIn).map (fun i => (i.zero, i.size, i.bytes)) = some (some (.int .i64 0), 1, 8) := by kernel_rfl
theorem info_i6 : (Tryz.prog.info? TI6).map (fun i => (i.zero, i.size, i.bytes)) = some (some (.int .i64 0), 1, 8) := by kernel_rfl
theorem intVals_one (l : List Int) : ∀ u ∈ intVals l, u.oneCell' = true := fun u hu => by
  obtain ⟨x, _, rfl⟩ := List.mem_map.1 hu
  rfl
theorem intVals_len (l : List Int) : (intVals l).length = l.length := by simp [intVals]
/-- an owned row by append's words, by ours -/
theorem own_of_row {w : World} {B z : Nat} {t : TypeId} {v : Value} {n : Nat} {vs : List Value} (h : w.ownsRow B t z v n vs) : ∃ r : Rw, v = r.val ∧ r.n = n ∧ RowOwn w B t z r vs := by
  obtain ⟨h1, ⟨rfl, rfl⟩ | ⟨g, cap, cur, rfl, h2, h3, h4, h5, h6, h7⟩⟩ := h
  · exact ⟨⟨none, 0, 0⟩, rfl, rfl, h1, .inl ⟨rfl, rfl⟩⟩
  · refine ⟨⟨some ⟨g, 0, none⟩, n, cap⟩, rfl, rfl, h1, ?_⟩
    rcases Nat.eq_zero_or_pos cap with h0 | h0
    · exact .inl ⟨by show n = 0; omega, h0⟩
    · exact .inr ⟨g, cur, rfl, h4, h0, h5, h2, h3, by show cap * z ≤ cur.size; omega, h7⟩
theorem ints_news {w : World} {ad : Addr} {l : List Int} (h : IntsAt w (some ad) l) : ∀ j u, (intVals l)[j]? = some u → w.cell? (ad.add j) = some u := fun j u hu => by
  unfold intVals at hu
  rw [List.getElem?_map] at hu
  obtain ⟨x, hx, rfl⟩ := Option.map_eq_some_iff.1 hu
  obtain ⟨b, off, e, _, hc⟩ := h j x hx
  simp only [Option.some.injEq] at e
  subst e
  have e2 : (⟨b, off, none⟩ : Addr).add j = ⟨b, off + j, none⟩ := by unfold Addr.add; split <;> simp_all
  rw [e2]
  exact hc

set_option maxRecDepth 100000 in
set_option maxHeartbeats 4000000 in
theorem clone_int (l : List Int) (A : Option Addr) (ca : Nat) (w : World) (hA : IntsAt w A l) (hl : l.length * 8 ≤ 140737488351232) :
    Calls Tryz.prog 84 #[.slice A l.length ca] w fun e w' => ∃ r : Rw, e = .returned (.slice r.p r.n r.c) ∧ RowOwn w' w.heap.size TIn 1 r (intVals l) ∧ Below w.heap.size w w' := by
  obtain ⟨n, hn⟩ : ∃ n, n = l.length := ⟨_, rfl⟩
  have HN := Lib.hid hn
  rw [← hn] at hl ⊢
  cases A with
  | none =>
    have h0 : l = [] := by
      cases l with
      | nil => rfl
      | cons x r => obtain ⟨b, off, e, _⟩ := hA 0 x rfl; cases e
    have HL := Lib.hid h0
    have hnil : ∀ W, (binOp .eql 22 (.slice none n ca) (.slice none 0 0)).run Tryz.prog W = .ok (.bool true) W := fun W => Lib.run_eql_slice_nil W _ _ none n ca 0 0 Tryz.underlying22
    clear hA hn h0
    go_enter Tryz.func84, Tryz.ntmps84
    go_wp2_with fail
    go_ret
    rw [HL.out]
    exact ⟨⟨none, 0, 0⟩, rfl, ⟨rfl, .inl ⟨rfl, rfl⟩⟩, Below.refl _ _⟩
  | some ad =>
    obtain ⟨W1, hW1⟩ : ∃ W1, W1 = w.alloc (.cells #[] TIn) := ⟨_, rfl⟩
    have hb1 : Below w.heap.size w W1 := by rw [hW1]; exact (Below.refl _ _).alloc (Nat.le_refl _) _
    have HS1 : Hid (W1.heap.size = w.heap.size + 1) := Lib.hid (by rw [hW1]; simp)
    have HOWN : Hid (W1.ownsRow w.heap.size TIn 1 (.slice (some ⟨w.heap.size, 0, none⟩) 0 0) 0 []) := Lib.hid (by rw [hW1]; exact World.ownsRow_made w #[] 0 (Nat.le_refl _) (Nat.zero_le _) rfl)
    have HNEW := Lib.hid (ints_news (hA.on hb1))
    have HB1 := Lib.hid hb1
    have HW1 := Lib.hid hW1
    obtain ⟨j0, hj, hz0, hz1, hz2⟩ := info_parts info_in
    have hnil : ∀ W, (binOp .eql 22 (.slice (some ad) n ca) (.slice none 0 0)).run Tryz.prog W = .ok (.bool false) W := fun W => Lib.run_eql_slice_nil W _ _ (some ad) n ca 0 0 Tryz.underlying22
    clear hA hn hb1 hW1
    go_enter Tryz.func84, Tryz.ntmps84
    go_wp2_with (at_builtin; rw [← HW1.out]; refine wpList_append_own _ rfl (.tmp 5) (.tmp 6) 22 rfl w.heap.size TIn j0 (.int .i64 0) 1 8 Tryz.underlying22 hj hz0 hz1 hz2 rfl (by decide) (.slice (some ⟨w.heap.size, 0, none⟩) 0 0) 0 [] rfl HOWN.out ad n ca (intVals l) rfl (by rw [intVals_len, ← HN.out, Nat.mul_one]) HNEW.out (intVals_one l) (by unfold maxLen; omega) (by omega) (by rw [HS1.out]; omega) ?_)
    intro v' w' hown' hgr' _
    obtain ⟨r, rfl, hrn, hro⟩ := own_of_row hown'
    have HR : Hid (RowOwn w' w.heap.size TIn 1 r (intVals l) ∧ Below w.heap.size w w') := Lib.hid ⟨by simpa using hro, HB1.out.grown hgr' HB1.out.size (fun k hk => (HOWN.out.lt k hk).1)⟩
    clear hown' hgr' hrn hro
    go_wp2_with fail
    go_ret
    exact ⟨r, rfl, HR.out.1, HR.out.2⟩
set_option maxRecDepth 100000 in
set_option maxHeartbeats 4000000 in
theorem clone_i64 (l : List Int) (A : Option Addr) (ca : Nat) (w : World) (hA : IntsAt w A l) (hl : l.length * 8 ≤ 140737488351232) :
    Calls Tryz.prog 85 #[.slice A l.length ca] w fun e w' => ∃ r : Rw, e = .returned (.slice r.p r.n r.c) ∧ RowOwn w' w.heap.size TI6 1 r (intVals l) ∧ Below w.heap.size w w' := by
  obtain ⟨n, hn⟩ : ∃ n, n = l.length := ⟨_, rfl⟩
  have HN := Lib.hid hn
  rw [← hn] at hl ⊢
  cases A with
  | none =>
    have h0 : l = [] := by
      cases l with
      | nil => rfl
      | cons x r => obtain ⟨b, off, e, _⟩ := hA 0 x rfl; cases e
    have HL := Lib.hid h0
    have hnil : ∀ W, (binOp .eql 23 (.slice none n ca) (.slice none 0 0)).run Tryz.prog W = .ok (.bool true) W := fun W => Lib.run_eql_slice_nil W _ _ none n ca 0 0 Tryz.underlying23
    clear hA hn h0
    go_enter Tryz.func85, Tryz.ntmps85
    go_wp2_with fail
    go_ret
    rw [HL.out]
    exact ⟨⟨none, 0, 0⟩, rfl, ⟨rfl, .inl ⟨rfl, rfl⟩⟩, Below.refl _ _⟩
  | some ad =>
    obtain ⟨W1, hW1⟩ : ∃ W1, W1 = w.alloc (.cells #[] TI6) := ⟨_, rfl⟩
    have hb1 : Below w.heap.size w W1 := by rw [hW1]; exact (Below.refl _ _).alloc (Nat.le_refl _) _
    have HS1 : Hid (W1.heap.size = w.heap.size + 1) := Lib.hid (by rw [hW1]; simp)
    have HOWN : Hid (W1.ownsRow w.heap.size TI6 1 (.slice (some ⟨w.heap.size, 0, none⟩) 0 0) 0 []) := Lib.hid (by rw [hW1]; exact World.ownsRow_made w #[] 0 (Nat.le_refl _) (Nat.zero_le _) rfl)
    have HNEW := Lib.hid (ints_news (hA.on hb1))
    have HB1 := Lib.hid hb1
    have HW1 := Lib.hid hW1
    obtain ⟨j0, hj, hz0, hz1, hz2⟩ := info_parts info_i6
    have hnil : ∀ W, (binOp .eql 23 (.slice (some ad) n ca) (.slice none 0 0)).run Tryz.prog W = .ok (.bool false) W := fun W => Lib.run_eql_slice_nil W _ _ (some ad) n ca 0 0 Tryz.underlying23
    clear hA hn hb1 hW1
    go_enter Tryz.func85, Tryz.ntmps85
    go_wp2_with (at_builtin; rw [← HW1.out]; refine wpList_append_own _ rfl (.tmp 5) (.tmp 6) 23 rfl w.heap.size TI6 j0 (.int .i64 0) 1 8 Tryz.underlying23 hj hz0 hz1 hz2 rfl (by decide) (.slice (some ⟨w.heap.size, 0, none⟩) 0 0) 0 [] rfl HOWN.out ad n ca (intVals l) rfl (by rw [intVals_len, ← HN.out, Nat.mul_one]) HNEW.out (intVals_one l) (by unfold maxLen; omega) (by omega) (by rw [HS1.out]; omega) ?_)
    intro v' w' hown' hgr' _
    obtain ⟨r, rfl, hrn, hro⟩ := own_of_row hown'
    have HR : Hid (RowOwn w' w.heap.size TI6 1 r (intVals l) ∧ Below w.heap.size w w') := Lib.hid ⟨by simpa using hro, HB1.out.grown hgr' HB1.out.size (fun k hk => (HOWN.out.lt k hk).1)⟩
    clear hown' hgr' hrn hro
    go_wp2_with fail
    go_ret
    exact ⟨r, rfl, HR.out.1, HR.out.2⟩
set_option maxRecDepth 100000 in
theorem clip_any (p : Option Addr) (n c : Nat) (w : World) (hn : n ≤ c) :
    Calls Tryz.prog 86 #[.slice p n c] w fun e w' => e = .returned (.slice p n n) ∧ w' = w := by
  have h1 : (0 : Int) ≤ (n : Int) := by omega
  have h2 : (n : Int) ≤ (c : Int) := by omega
  go_enter Tryz.func86, Tryz.ntmps86
  go_wp2_with fail
  go_ret
  exact ⟨rfl, rfl⟩
end Go.Proofs.YteohoodfcgfkeaaGreat
