/- shape.indices: a place's indices, in new memory. Conditions: no length is 0, the place is not below 0, at most 64 lengths. -/
import Derived.Test.YtpipcpjkfgdpcaaDoorShRead
namespace Go.Proofs.YtpipcpjkfgdpcaaDoor
open Go.RowKit

/-- indices, from the last length on -/
def idxR : List Int → Int → List Int
  | [], _ => []
  | k :: r, p => p % k :: idxR r (p / k)
/-- a place's indices -/
def idx (s : List Int) (p : Int) : List Int := (idxR s.reverse p).reverse
theorem idx_snoc (s : List Int) (x p : Int) : idx (s ++ [x]) p = idx s (p / x) ++ [p % x] := by simp [idx, idxR]
theorem idx_len : ∀ (s : List Int) (p : Int), (idx s p).length = s.length := by
  have h : ∀ (r : List Int) (p : Int), (idxR r p).length = r.length := by
    intro r
    induction r with
    | nil => intro p; rfl
    | cons k r ih => intro p; simp [idxR, ih]
  intro s p
  simp [idx, h]
/-- a row of numbers, from index t on -/
structure Tail (w : World) (g k t : Nat) (done : List Int) : Prop where
  blk : ∃ cur, w.heap[g]? = some (.cells cur 3 (0, 0)) ∧ cur.size = k ∧ cur.toList.drop t = done.map fun x => .int .i64 x
theorem Tail.set {w : World} {g k t : Nat} {done : List Int} (h : Tail w g k (t + 1) done) (ht : t < k) (x : Int) : Tail (w.setCell ⟨g, t, none⟩ (.int .i64 x)) g k t (x :: done) := by
  obtain ⟨cur, h1, h2, h3⟩ := h.blk
  refine ⟨⟨cur.set! t (.int .i64 x), by simp [World.setCell, Array.getElem?_modify, h1], by simp [h2], ?_⟩⟩
  have hl : t < cur.toList.length := by rw [Array.length_toList, h2]; exact ht
  rw [Array.set!_eq_setIfInBounds, Array.toList_setIfInBounds, List.drop_set, if_neg (by omega), Nat.sub_self, List.drop_eq_getElem_cons hl, h3]
  rfl
theorem Tail.free {w : World} {g k t : Nat} {done : List Int} (h : Tail w g k t done) {j : Nat} (hj : j < k) : ∃ old, w.cell? ⟨g, j, none⟩ = some old ∧ w.frozen? ⟨g, j, none⟩ = false := by
  obtain ⟨cur, h1, h2, _⟩ := h.blk
  have hlt : j < cur.size := by omega
  exact ⟨cur[j], by simp [World.cell?, h1, hlt], by simp [World.frozen?, h1]⟩

set_option maxHeartbeats 8000000 in
set_option maxRecDepth 100000 in
theorem indices_any (A : Option Addr) (cp : Nat) (s : List Int) (p : Nat) (w : World) (hA : IntsAt w A s) (hs : ∀ x ∈ s, 1 ≤ x ∧ x ≤ 9223372036854775807) (hn : s.length ≤ 64) (hp : p ≤ 9223372036854775807) :
    Calls Tryd.prog 54 #[.slice A s.length cp, .int .i64 p] w fun e w' => ∃ g, e = .returned (.slice (some ⟨g, 0, none⟩) s.length s.length) ∧ Below w.heap.size w w' ∧ w.heap.size ≤ g ∧ Tail w' g s.length 0 (idx s p) := by
  have HA := Lib.hid hA
  have HSS := Lib.hid hs
  obtain ⟨n, hln⟩ : ∃ n, n = s.length := ⟨_, rfl⟩
  have HN := Lib.hid hln
  rw [← hln] at hn ⊢
  clear hA hs hln
  obtain ⟨j0, hj0, hz0, hz1, hz2⟩ := info_parts info_int
  go_enter Tryd.func54, Tryd.ntmps54
  go_wp2_with (at_make; refine wpList_make_full _ rfl _ _ 25 rfl w.heap.size 3 j0 (.int .i64 0) 1 Tryd.underlying25 hj0 hz0 hz1 .i64 .i64 (n : Int) (n : Int) n rfl rfl rfl rfl (by rw [hz2]; omega) (by unfold maxLen; omega) (Nat.le_refl _) ?_)
  intro w1 hown hg
  have hT : Tail w1 w.heap.size n n [] := by
    rcases hown.2 with ⟨h0, _⟩ | ⟨g, cap, cur, hv, _, hb, _, _, hsz, _⟩
    · cases h0
    · simp only [Value.slice.injEq, Option.some.injEq, Addr.mk.injEq, and_true, true_and] at hv
      obtain ⟨rfl, rfl⟩ := hv
      have hsz' : cur.size = n := by omega
      exact ⟨⟨cur, hb, hsz', List.drop_eq_nil_of_le (by rw [Array.length_toList]; omega)⟩⟩
  have hb1 : Below w.heap.size w w1 := ⟨hg.os, hg.tape, hg.output, hg.size, fun k hk => hg.block k hk (by simp)⟩
  have HT := Lib.hid hT
  have HB1 := Lib.hid hb1
  clear hown hg hT hb1 hj0 hz0 hz1 hz2
  go_wp2_with fail
  go_loopw [1, 6] (fun v1 v6 wr => ∃ (t q : Nat) (done : List Int), t ≤ n ∧ v6 = .int .i64 ((t : Int) - 1) ∧ v1 = .int .i64 q ∧ q ≤ 9223372036854775807 ∧ Hid (idx s p = idx (s.take t) q ++ done) ∧ Hid (Tail wr w.heap.size n t done) ∧ Hid (Below w.heap.size w wr)) (fun _ v6 _ => (intOf v6 + 1).toNat)
  case atStart => exact ⟨n, p, [], Nat.le_refl _, rfl, rfl, hp, Lib.hid (by rw [HN.out, List.take_length, List.append_nil]), HT, HB1⟩
  case round =>
    obtain ⟨t, q, done, ht, rfl, rfl, hq, HI, HTl, HB⟩ := hrel
    cases t with
    | zero =>
      have hneg : ¬ (0 : Int) ≤ ((0 : Nat) : Int) - 1 := by omega
      go_wp2_with fail
      go_ret
      refine ⟨w.heap.size, rfl, HB.out, Nat.le_refl _, ?_⟩
      have h := HI.out
      have h0 : idx (s.take 0) q = [] := rfl
      rw [h0, List.nil_append] at h
      rw [h]
      exact HTl.out
    | succ u =>
      have eu : (((u + 1 : Nat) : Int) - 1) = (u : Int) := by omega
      rw [eu]
      have hlt : u < s.length := by rw [← HN.out]; omega
      obtain ⟨x, hx⟩ : ∃ x, s[u]? = some x := ⟨_, List.getElem?_eq_getElem hlt⟩
      obtain ⟨b, off, rfl, hbl, kc⟩ := (HA.out.on HB.out) u x hx
      obtain ⟨hx1, hx2⟩ := HSS.out x (List.mem_of_getElem? hx)
      obtain ⟨old, kt, ft⟩ := HTl.out.free (show u < n by omega)
      have hxne : ¬ x = 0 := by omega
      have hlt' : (b : Nat) < w.heap.size := by
        obtain ⟨b', off', h1, h2, _⟩ := HA.out u x hx
        simp only [Option.some.injEq, Addr.mk.injEq, and_true] at h1
        obtain ⟨rfl, -⟩ := h1
        exact h2
      have hne : b ≠ w.heap.size := by omega
      have HX := Lib.hid (take_snoc hx)
      clear hx hbl eu
      go_wp2_with fail
      obtain ⟨m, rfl⟩ : ∃ m : Nat, x = m := ⟨x.toNat, by omega⟩
      have hqm : ((q : Int) / (m : Int)) = ((q / m : Nat) : Int) := by simp
      have hle : q / m ≤ q := Nat.div_le_self q m
      generalize q / m = d at hqm hle
      have hset := HTl.out.set (show u < n by omega) ((q : Int) % (m : Int))
      have hi : idx s p = idx (s.take u) (d : Int) ++ (((q : Int) % (m : Int)) :: done) := by
        rw [HI.out, HX.out, idx_snoc, hqm]
        simp
      refine ⟨⟨u, d, ((q : Int) % (m : Int)) :: done, by omega, rfl, ?_, by omega, Lib.hid hi, Lib.hid hset, Lib.hid (HB.out.setCell (p := ⟨w.heap.size, u, none⟩) (Nat.le_refl _) _)⟩, ?_⟩
      · rw [hqm, IntWalk.wrap64_in _ (by omega)]
      · simp only [intOf]
        omega
end Go.Proofs.YtpipcpjkfgdpcaaDoor
