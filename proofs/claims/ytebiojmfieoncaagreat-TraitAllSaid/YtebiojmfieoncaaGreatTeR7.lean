/- abacusref16: within, total, Total. Condition: sizes within reach. · abacusref16: total of two kinds, Total. Condition: sizes within reach. -/
import Derived.Test.YtebiojmfieoncaaGreatTeR4
import Derived.Test.YtebiojmfieoncaaGreatTeT8
import Derived.Test.YtebiojmfieoncaaGreatTeNt
namespace Go.Proofs.YtebiojmfieoncaaGreat
open Go.RowKit

set_option maxRecDepth 100000 in
set_option maxHeartbeats 8000000 in
theorem within_any (l : List ByteArray) (P : Option Addr) (c n : Nat) (s : ByteArray) (b : Bool) (w : World) (hl : StrsAt w P l) (hn : n = l.length) (hm : n ≤ 1000) (hb : b = true ↔ s ∈ l) :
    Calls Tryz.prog 116 #[.slice P n c, .string s] w fun e w' => e = .returned (.bool b) ∧ Below w.heap.size w w' := by
  have HL := Lib.hid (And.intro hl (And.intro hn hb))
  clear hl hn hb
  go_enter Tryz.func116, Tryz.ntmps116
  go_wp2_with fail
  go_loop [5] (fun v => ∃ i : Nat, i ≤ n ∧ v = .int .i64 i ∧ Hid (∀ j x, j < i → l[j]? = some x → x ≠ s)) (fun v => n - (intOf v).toNat)
  case atStart => exact ⟨0, Nat.zero_le _, rfl, Lib.hid fun j x h => absurd h (Nat.not_lt_zero _)⟩
  case round =>
    obtain ⟨i, hi, rfl, HI⟩ := hrel
    by_cases hlt : i < n
    · obtain ⟨x, hx⟩ : ∃ x, l[i]? = some x := ⟨_, List.getElem?_eq_getElem (by rw [← HL.out.2.1]; exact hlt)⟩
      obtain ⟨g, off, rfl, gl, kc⟩ := HL.out.1 i x hx
      have q1 : (0 : Int) ≤ (i : Int) := by omega
      have q2 : (i : Int) < (n : Int) := by omega
      have HX := Lib.hid hx
      clear hx
      by_cases he : x = s
      · have d := str_beq he
        have HB : Hid (b = true) := Lib.hid (HL.out.2.2.2 (he ▸ List.mem_of_getElem? HX.out))
        clear he
        go_wp2_with fail
        go_ret
        exact ⟨by rw [HB.out]; rfl, Below.refl _ _⟩
      · have d := str_bne he
        have HJ : Hid (∀ j y, j < i + 1 → l[j]? = some y → y ≠ s) := Lib.hid fun j y hj hy => by
          by_cases e : j = i
          · subst e
            rw [HX.out] at hy
            injection hy with hy
            rw [← hy]; exact he
          · exact HI.out j y (by omega) hy
        clear he
        go_wp2_with fail
        exact ⟨⟨i + 1, by omega, by go_num, HJ⟩, by simp [intOf]; omega⟩
    · obtain rfl : i = n := by omega
      have HB : Hid (b = false) := Lib.hid (by
        refine Bool.eq_false_iff.2 fun hb => ?_
        have h := HL.out.2.2.1 hb
        obtain ⟨j, hj⟩ := List.getElem?_of_mem h
        exact HI.out j s (by rw [HL.out.2.1]; exact (List.getElem?_eq_some_iff.1 hj).1) hj rfl)
      clear hlt
      go_wp2_with fail
      go_ret
      exact ⟨by rw [HB.out]; rfl, Below.refl _ _⟩
theorem strs_new (w : World) (l : List ByteArray) : StrsAt (w.alloc (.cells (l.map Value.string).toArray TSt)) (some ⟨w.heap.size, 0, none⟩) l := fun i s h => by
  refine ⟨w.heap.size, 0, rfl, by simp, ?_⟩
  rw [Nat.zero_add]
  exact cell_at (heap_alloc_new w _) (by simp [h])
theorem bytes_ext {a s : ByteArray} (h : a.data.toList = s.data.toList) : a = s := by
  cases a with
  | mk d =>
    cases s with
    | mk d' =>
      have e : d = d' := Array.toList_inj.1 h
      rw [e]
theorem in_tot1 (s : ByteArray) : andV (valM s.data.toList) 1 = true ↔ s ∈ tot1 := by
  have h1 : s ∈ tot1 ↔ s.data.toList ∈ lst1.take 20 := by
    rw [List.take_of_length_le (Nat.le_of_eq lst1_len)]
    unfold lst1
    rw [List.mem_map]
    exact ⟨fun h => ⟨s, h, rfl⟩, fun ⟨a, h, e⟩ => bytes_ext e ▸ h⟩
  rw [h1]
  unfold andV valM valIJ
  by_cases h : s.data.toList ∈ lst1.take 20 <;> by_cases h' : s.data.toList ∈ lst2.take 6 <;> simp [h, h']
theorem in_tot2 (s : ByteArray) : andV (valM s.data.toList) 2 = true ↔ s ∈ tot2 := by
  have h1 : s ∈ tot2 ↔ s.data.toList ∈ lst2.take 6 := by
    rw [List.take_of_length_le (Nat.le_of_eq lst2_len)]
    unfold lst2
    rw [List.mem_map]
    exact ⟨fun h => ⟨s, h, rfl⟩, fun ⟨a, h, e⟩ => bytes_ext e ▸ h⟩
  rw [h1]
  unfold andV valM valIJ
  by_cases h : s.data.toList ∈ lst1.take 20 <;> by_cases h' : s.data.toList ∈ lst2.take 6 <;> simp [h, h']
/-- 'total' of the document on terms of at most N nodes -/
def DTotN (N : Nat) : Prop := ∀ (t : Tm) (A : Option Addr) (ca : Nat) (B : Option Addr) (cb : Nat) (K : Option Addr) (ck : Nat) (v : Int) (w : World), cnt t ≤ N → TmAt w t A B K → WfT t → goodT false t = true → (v = 1 ∨ v = 2) → Calls Tryz.prog 71 #[tmVal t A ca B cb K ck, .int .i64 v] w fun e w' => e = .returned (.bool (totT t v)) ∧ Below w.heap.size w w'
set_option maxRecDepth 100000 in
set_option maxHeartbeats 16000000 in
theorem dtot_20 (N : Nat) (ih : DTotN N) (t : Tm) (A : Option Addr) (ca : Nat) (B : Option Addr) (cb : Nat) (K : Option Addr) (ck : Nat) (v : Int) (w : World) (hN : cnt t ≤ N + 1) (hat : TmAt w t A B K) (hwf : WfT t) (hgd : goodT false t = true) (hv : v = 1 ∨ v = 2) (hk : t.kind = 20) :
    Calls Tryz.prog 71 #[tmVal t A ca B cb K ck, .int .i64 v] w fun e w' => e = .returned (.bool (totT t v)) ∧ Below w.heap.size w w' := by
  obtain ⟨W1, hW1⟩ : ∃ W1, W1 = w.alloc (.cells (tmCells t A ca B cb K ck) TTm) := ⟨_, rfl⟩
  have hb1 : Below w.heap.size w W1 := by rw [hW1]; exact (Below.refl _ _).alloc (Nat.le_refl _) _
  have hx1 : W1.heap[w.heap.size]? = some (.cells (tmCells t A ca B cb K ck) TTm (0, 0)) := by rw [hW1]; exact heap_alloc_new w _
  have HW1 := Lib.hid hW1
  have H1 := Lib.hid hb1
  have HT := Lib.hid (And.intro (hat.on hb1) (And.intro hwf (And.intro hgd hN)))
  have HV := Lib.hid hv
  have IH := Lib.hid ih
  have KC : Hid (∀ W, Below W1.heap.size W1 W → W.cell? ⟨w.heap.size, 0, none⟩ = some (.int .i64 t.kind) ∧ W.cell? ⟨w.heap.size, 1, none⟩ = some (.string t.text) ∧ W.cell? ⟨w.heap.size, 2, none⟩ = some (.int .i64 t.n) ∧ W.cell? ⟨w.heap.size, 3, none⟩ = some (.slice A t.sh.length ca) ∧ W.cell? ⟨w.heap.size, 4, none⟩ = some (.slice B t.at_.length cb) ∧ W.cell? ⟨w.heap.size, 5, none⟩ = some (.slice K t.kids.length ck) ∧ w.heap.size < W.heap.size) := Lib.hid fun W h => by
    have hh := (h.block _ (heap_lt hx1)).trans hx1
    exact ⟨cell_at hh rfl, cell_at hh rfl, cell_at hh rfl, cell_at hh rfl, cell_at hh rfl, cell_at hh rfl, heap_lt hh⟩
  clear hW1 hx1 hb1
  obtain ⟨k0, k1, k2, k3, k4, k5, kl⟩ := KC.out W1 (Below.refl _ _)
  have HR : Hid (totT t v = andV (valM t.text.data.toList) v) := Lib.hid (by rw [totT_eq]; unfold totK; rw [if_pos (by omega)])
  have hsz : t.text.size ≤ 140737488351232 := hwf.node.text
  have kk20 : (t.kind == 20) = true := by rw [hk]; rfl
  clear hgd hwf hN hat ih hk hv
  rcases HV.out with rfl | rfl
  · go_enter Tryz.func71, Tryz.ntmps71
    go_upto_region 1 with fail
    rw [← HW1.out]
    go_wp2_with fail
    refine (within_any tot1 (some ⟨W1.heap.size, 0, none⟩) 20 20 t.text (andV (valM t.text.data.toList) 1) _ (strs_new W1 tot1) rfl (by decide) (in_tot1 _)).mono ?_
    rintro e w2 ⟨rfl, hb2⟩
    have HB2 := Lib.hid (((Below.refl W1.heap.size W1).alloc (Nat.le_refl _) _).then_ hb2)
    clear hb2 k0 k1 k2 k3 k4 k5 kl
    go_wp2_with fail
    go_ret
    exact ⟨by rw [HR.out]; rfl, H1.out.then_ HB2.out⟩
  · go_enter Tryz.func71, Tryz.ntmps71
    go_upto_region 1 with fail
    rw [← HW1.out]
    go_wp2_with fail
    refine (within_any tot2 (some ⟨W1.heap.size, 0, none⟩) 6 6 t.text (andV (valM t.text.data.toList) 2) _ (strs_new W1 tot2) rfl (by decide) (in_tot2 _)).mono ?_
    rintro e w2 ⟨rfl, hb2⟩
    have HB2 := Lib.hid (((Below.refl W1.heap.size W1).alloc (Nat.le_refl _) _).then_ hb2)
    clear hb2 k0 k1 k2 k3 k4 k5 kl
    go_wp2_with fail
    go_ret
    exact ⟨by rw [HR.out]; rfl, H1.out.then_ HB2.out⟩
set_option maxRecDepth 100000 in
set_option maxHeartbeats 16000000 in
theorem dtot_22 (N : Nat) (ih : DTotN N) (t : Tm) (A : Option Addr) (ca : Nat) (B : Option Addr) (cb : Nat) (K : Option Addr) (ck : Nat) (v : Int) (w : World) (hN : cnt t ≤ N + 1) (hat : TmAt w t A B K) (hwf : WfT t) (hgd : goodT false t = true) (hv : v = 1 ∨ v = 2) (hk : t.kind = 22) :
    Calls Tryz.prog 71 #[tmVal t A ca B cb K ck, .int .i64 v] w fun e w' => e = .returned (.bool (totT t v)) ∧ Below w.heap.size w w' := by
  obtain ⟨W1, hW1⟩ : ∃ W1, W1 = w.alloc (.cells (tmCells t A ca B cb K ck) TTm) := ⟨_, rfl⟩
  have hb1 : Below w.heap.size w W1 := by rw [hW1]; exact (Below.refl _ _).alloc (Nat.le_refl _) _
  have hx1 : W1.heap[w.heap.size]? = some (.cells (tmCells t A ca B cb K ck) TTm (0, 0)) := by rw [hW1]; exact heap_alloc_new w _
  have HW1 := Lib.hid hW1
  have H1 := Lib.hid hb1
  have HT := Lib.hid (And.intro (hat.on hb1) (And.intro hwf (And.intro hgd hN)))
  have HV := Lib.hid hv
  have IH := Lib.hid ih
  have KC : Hid (∀ W, Below W1.heap.size W1 W → W.cell? ⟨w.heap.size, 0, none⟩ = some (.int .i64 t.kind) ∧ W.cell? ⟨w.heap.size, 1, none⟩ = some (.string t.text) ∧ W.cell? ⟨w.heap.size, 2, none⟩ = some (.int .i64 t.n) ∧ W.cell? ⟨w.heap.size, 3, none⟩ = some (.slice A t.sh.length ca) ∧ W.cell? ⟨w.heap.size, 4, none⟩ = some (.slice B t.at_.length cb) ∧ W.cell? ⟨w.heap.size, 5, none⟩ = some (.slice K t.kids.length ck) ∧ w.heap.size < W.heap.size) := Lib.hid fun W h => by
    have hh := (h.block _ (heap_lt hx1)).trans hx1
    exact ⟨cell_at hh rfl, cell_at hh rfl, cell_at hh rfl, cell_at hh rfl, cell_at hh rfl, cell_at hh rfl, heap_lt hh⟩
  clear hW1 hx1 hb1
  obtain ⟨k0, k1, k2, k3, k4, k5, kl⟩ := KC.out W1 (Below.refl _ _)
  obtain ⟨x, hks, fx⟩ := one_kid hgd (c := 111) (by rw [hk]; decide) (by omega) (by omega) (by omega)
  have hkl : t.kids.length = 1 := by rw [hks]; rfl
  obtain ⟨bk, ok, hKe, px⟩ := HT.out.1.kids.get (i := 0) (t := x) (by rw [hks]; rfl)
  rw [Nat.zero_add, Nat.zero_mul, Nat.add_zero] at px
  subst hKe
  have SX : Hid (WfT x ∧ goodT false x = true ∧ cnt x ≤ N) := Lib.hid ⟨hwf.node.each x (by rw [hks]; simp), good_sub hgd (by omega) (i := 0) (by rw [hks]; rfl), by have h1 := cnt_kid (t := t) (i := 0) (k := x) (by rw [hks]; rfl); omega⟩
  obtain ⟨Ax, cax, Bx, cbx, Kx, ckx, xl, x0, x1, x2, x3, x4, x5, hatx⟩ := px.cells
  have HCX : Hid (∀ W, Below W1.heap.size W1 W → (W.cell? ⟨bk, ok, none⟩ = some (.int .i64 x.kind) ∧ W.cell? ⟨bk, ok + 1, none⟩ = some (.string x.text) ∧ W.cell? ⟨bk, ok + 2, none⟩ = some (.int .i64 x.n) ∧ W.cell? ⟨bk, ok + 3, none⟩ = some (.slice Ax x.sh.length cax) ∧ W.cell? ⟨bk, ok + 4, none⟩ = some (.slice Bx x.at_.length cbx) ∧ W.cell? ⟨bk, ok + 5, none⟩ = some (.slice Kx x.kids.length ckx)) ∧ W.cell? ⟨w.heap.size, 5, none⟩ = some (.slice (some ⟨bk, ok, none⟩) 1 ck) ∧ bk < W.heap.size ∧ w.heap.size < W.heap.size) := Lib.hid fun W h => by
    have key : ∀ g j v, g < W1.heap.size → W1.cell? ⟨g, j, none⟩ = some v → W.cell? ⟨g, j, none⟩ = some v := fun g j v hg hv => (h.cell (p := ⟨g, j, none⟩) hg).trans hv
    exact ⟨⟨key _ _ _ xl x0, key _ _ _ xl x1, key _ _ _ xl x2, key _ _ _ xl x3, key _ _ _ xl x4, key _ _ _ xl x5⟩, by rw [← hkl]; exact key _ _ _ kl k5, Nat.lt_of_lt_of_le xl h.size, Nat.lt_of_lt_of_le kl h.size⟩
  have HK0 : Hid (∀ v' W, (v' = 1 ∨ v' = 2) → Below W1.heap.size W1 W → Calls Tryz.prog 71 #[tmVal x Ax cax Bx cbx Kx ckx, .int .i64 v'] W fun e w' => e = .returned (.bool (totT x v')) ∧ Below W.heap.size W w') := Lib.hid fun v' W hv' hb =>
    ih x Ax cax Bx cbx Kx ckx v' W SX.out.2.2 (hatx.on hb) SX.out.1 SX.out.2.1 hv'
  clear x0 x1 x2 x3 x4 x5 xl px hatx
  have HR : Hid (totT t v = (x.kind == 1)) := Lib.hid (by rw [totT_eq]; unfold totK; rw [if_neg (by omega)]; rw [if_pos (by omega)]; rw [hks]; rfl)
  have kk20 : (t.kind == 20) = false := by rw [hk]; rfl
  have kk22 : (t.kind == 22) = true := by rw [hk]; rfl
  rw [hkl] at k5
  clear hgd hwf hN hat ih hk hks hkl hv fx
  obtain ⟨⟨x0, x1, x2, x3, x4, x5⟩, kk5, xl, kkl⟩ := HCX.out W1 (Below.refl _ _)
  go_enter Tryz.func71, Tryz.ntmps71
  go_upto_region 1 with fail
  rw [← HW1.out]
  go_wp2_with fail
  go_ret
  exact ⟨by rw [HR.out]; rfl, H1.out⟩
set_option maxRecDepth 100000 in
set_option maxHeartbeats 16000000 in
theorem dtot_27 (N : Nat) (ih : DTotN N) (t : Tm) (A : Option Addr) (ca : Nat) (B : Option Addr) (cb : Nat) (K : Option Addr) (ck : Nat) (v : Int) (w : World) (hN : cnt t ≤ N + 1) (hat : TmAt w t A B K) (hwf : WfT t) (hgd : goodT false t = true) (hv : v = 1 ∨ v = 2) (hk : t.kind = 27) :
    Calls Tryz.prog 71 #[tmVal t A ca B cb K ck, .int .i64 v] w fun e w' => e = .returned (.bool (totT t v)) ∧ Below w.heap.size w w' := by
  obtain ⟨W1, hW1⟩ : ∃ W1, W1 = w.alloc (.cells (tmCells t A ca B cb K ck) TTm) := ⟨_, rfl⟩
  have hb1 : Below w.heap.size w W1 := by rw [hW1]; exact (Below.refl _ _).alloc (Nat.le_refl _) _
  have hx1 : W1.heap[w.heap.size]? = some (.cells (tmCells t A ca B cb K ck) TTm (0, 0)) := by rw [hW1]; exact heap_alloc_new w _
  have HW1 := Lib.hid hW1
  have H1 := Lib.hid hb1
  have HT := Lib.hid (And.intro (hat.on hb1) (And.intro hwf (And.intro hgd hN)))
  have HV := Lib.hid hv
  have IH := Lib.hid ih
  have KC : Hid (∀ W, Below W1.heap.size W1 W → W.cell? ⟨w.heap.size, 0, none⟩ = some (.int .i64 t.kind) ∧ W.cell? ⟨w.heap.size, 1, none⟩ = some (.string t.text) ∧ W.cell? ⟨w.heap.size, 2, none⟩ = some (.int .i64 t.n) ∧ W.cell? ⟨w.heap.size, 3, none⟩ = some (.slice A t.sh.length ca) ∧ W.cell? ⟨w.heap.size, 4, none⟩ = some (.slice B t.at_.length cb) ∧ W.cell? ⟨w.heap.size, 5, none⟩ = some (.slice K t.kids.length ck) ∧ w.heap.size < W.heap.size) := Lib.hid fun W h => by
    have hh := (h.block _ (heap_lt hx1)).trans hx1
    exact ⟨cell_at hh rfl, cell_at hh rfl, cell_at hh rfl, cell_at hh rfl, cell_at hh rfl, cell_at hh rfl, heap_lt hh⟩
  clear hW1 hx1 hb1
  obtain ⟨k0, k1, k2, k3, k4, k5, kl⟩ := KC.out W1 (Below.refl _ _)
  obtain ⟨x, hks, fx⟩ := one_kid hgd (c := 118) (by rw [hk]; decide) (by omega) (by omega) (by omega)
  have hkl : t.kids.length = 1 := by rw [hks]; rfl
  obtain ⟨bk, ok, hKe, px⟩ := HT.out.1.kids.get (i := 0) (t := x) (by rw [hks]; rfl)
  rw [Nat.zero_add, Nat.zero_mul, Nat.add_zero] at px
  subst hKe
  have SX : Hid (WfT x ∧ goodT false x = true ∧ cnt x ≤ N) := Lib.hid ⟨hwf.node.each x (by rw [hks]; simp), good_sub hgd (by omega) (i := 0) (by rw [hks]; rfl), by have h1 := cnt_kid (t := t) (i := 0) (k := x) (by rw [hks]; rfl); omega⟩
  obtain ⟨Ax, cax, Bx, cbx, Kx, ckx, xl, x0, x1, x2, x3, x4, x5, hatx⟩ := px.cells
  have HCX : Hid (∀ W, Below W1.heap.size W1 W → (W.cell? ⟨bk, ok, none⟩ = some (.int .i64 x.kind) ∧ W.cell? ⟨bk, ok + 1, none⟩ = some (.string x.text) ∧ W.cell? ⟨bk, ok + 2, none⟩ = some (.int .i64 x.n) ∧ W.cell? ⟨bk, ok + 3, none⟩ = some (.slice Ax x.sh.length cax) ∧ W.cell? ⟨bk, ok + 4, none⟩ = some (.slice Bx x.at_.length cbx) ∧ W.cell? ⟨bk, ok + 5, none⟩ = some (.slice Kx x.kids.length ckx)) ∧ W.cell? ⟨w.heap.size, 5, none⟩ = some (.slice (some ⟨bk, ok, none⟩) 1 ck) ∧ bk < W.heap.size ∧ w.heap.size < W.heap.size) := Lib.hid fun W h => by
    have key : ∀ g j v, g < W1.heap.size → W1.cell? ⟨g, j, none⟩ = some v → W.cell? ⟨g, j, none⟩ = some v := fun g j v hg hv => (h.cell (p := ⟨g, j, none⟩) hg).trans hv
    exact ⟨⟨key _ _ _ xl x0, key _ _ _ xl x1, key _ _ _ xl x2, key _ _ _ xl x3, key _ _ _ xl x4, key _ _ _ xl x5⟩, by rw [← hkl]; exact key _ _ _ kl k5, Nat.lt_of_lt_of_le xl h.size, Nat.lt_of_lt_of_le kl h.size⟩
  have HK0 : Hid (∀ v' W, (v' = 1 ∨ v' = 2) → Below W1.heap.size W1 W → Calls Tryz.prog 71 #[tmVal x Ax cax Bx cbx Kx ckx, .int .i64 v'] W fun e w' => e = .returned (.bool (totT x v')) ∧ Below W.heap.size W w') := Lib.hid fun v' W hv' hb =>
    ih x Ax cax Bx cbx Kx ckx v' W SX.out.2.2 (hatx.on hb) SX.out.1 SX.out.2.1 hv'
  clear x0 x1 x2 x3 x4 x5 xl px hatx
  have HR : Hid (totT t v = totT x 2) := Lib.hid (by rw [totT_eq]; unfold totK; rw [if_neg (by omega)]; rw [if_neg (by omega)]; rw [if_pos (by omega)]; rw [hks]; rfl)
  have kk20 : (t.kind == 20) = false := by rw [hk]; rfl
  have kk22 : (t.kind == 22) = false := by rw [hk]; rfl
  have kk27 : (t.kind == 27) = true := by rw [hk]; rfl
  rw [hkl] at k5
  clear hgd hwf hN hat ih hk hks hkl hv fx
  obtain ⟨⟨x0, x1, x2, x3, x4, x5⟩, kk5, xl, kkl⟩ := HCX.out W1 (Below.refl _ _)
  go_enter Tryz.func71, Tryz.ntmps71
  go_upto_region 1 with fail
  rw [← HW1.out]
  go_wp2_with fail
  clear k0 k1 k2 k3 k4 k5 kl
  refine (HK0.out 2 W1 (.inr rfl) (Below.refl _ _)).mono ?_
  rintro e w1 ⟨rfl, hb⟩
  have HB1 := Lib.hid (((Below.refl _ _)).then_ hb)
  clear hb
  clear x0 x1 x2 x3 x4 x5 kk5 xl kkl
  go_wp2_with fail
  go_ret
  exact ⟨by rw [HR.out]; try rfl, H1.out.then_ (HB1.out)⟩
set_option maxRecDepth 100000 in
set_option maxHeartbeats 16000000 in
theorem dtot_29 (N : Nat) (ih : DTotN N) (t : Tm) (A : Option Addr) (ca : Nat) (B : Option Addr) (cb : Nat) (K : Option Addr) (ck : Nat) (v : Int) (w : World) (hN : cnt t ≤ N + 1) (hat : TmAt w t A B K) (hwf : WfT t) (hgd : goodT false t = true) (hv : v = 1 ∨ v = 2) (hk : t.kind = 29) :
    Calls Tryz.prog 71 #[tmVal t A ca B cb K ck, .int .i64 v] w fun e w' => e = .returned (.bool (totT t v)) ∧ Below w.heap.size w w' := by
  obtain ⟨W1, hW1⟩ : ∃ W1, W1 = w.alloc (.cells (tmCells t A ca B cb K ck) TTm) := ⟨_, rfl⟩
  have hb1 : Below w.heap.size w W1 := by rw [hW1]; exact (Below.refl _ _).alloc (Nat.le_refl _) _
  have hx1 : W1.heap[w.heap.size]? = some (.cells (tmCells t A ca B cb K ck) TTm (0, 0)) := by rw [hW1]; exact heap_alloc_new w _
  have HW1 := Lib.hid hW1
  have H1 := Lib.hid hb1
  have HT := Lib.hid (And.intro (hat.on hb1) (And.intro hwf (And.intro hgd hN)))
  have HV := Lib.hid hv
  have IH := Lib.hid ih
  have KC : Hid (∀ W, Below W1.heap.size W1 W → W.cell? ⟨w.heap.size, 0, none⟩ = some (.int .i64 t.kind) ∧ W.cell? ⟨w.heap.size, 1, none⟩ = some (.string t.text) ∧ W.cell? ⟨w.heap.size, 2, none⟩ = some (.int .i64 t.n) ∧ W.cell? ⟨w.heap.size, 3, none⟩ = some (.slice A t.sh.length ca) ∧ W.cell? ⟨w.heap.size, 4, none⟩ = some (.slice B t.at_.length cb) ∧ W.cell? ⟨w.heap.size, 5, none⟩ = some (.slice K t.kids.length ck) ∧ w.heap.size < W.heap.size) := Lib.hid fun W h => by
    have hh := (h.block _ (heap_lt hx1)).trans hx1
    exact ⟨cell_at hh rfl, cell_at hh rfl, cell_at hh rfl, cell_at hh rfl, cell_at hh rfl, cell_at hh rfl, heap_lt hh⟩
  clear hW1 hx1 hb1
  obtain ⟨k0, k1, k2, k3, k4, k5, kl⟩ := KC.out W1 (Below.refl _ _)
  obtain ⟨x, y, hks, fx, fy⟩ := two_kids hgd (c := 118) (d := 118) (by rw [hk]; decide) (by omega) (by omega) (by omega)
  have hkl : t.kids.length = 2 := by rw [hks]; rfl
  obtain ⟨bk, ok, hKe, px⟩ := HT.out.1.kids.get (i := 0) (t := x) (by rw [hks]; rfl)
  rw [Nat.zero_add, Nat.zero_mul, Nat.add_zero] at px
  obtain ⟨b', o', hKe', py⟩ := HT.out.1.kids.get (i := 1) (t := y) (by rw [hks]; rfl)
  rw [hKe] at hKe'
  simp only [Option.some.injEq, Addr.mk.injEq, and_true] at hKe'
  obtain ⟨rfl, rfl⟩ := hKe'
  rw [Nat.zero_add] at py
  subst hKe
  have SX : Hid (WfT x ∧ goodT false x = true ∧ cnt x ≤ N) := Lib.hid ⟨hwf.node.each x (by rw [hks]; simp), good_sub hgd (by omega) (i := 0) (by rw [hks]; rfl), by have h1 := cnt_kid (t := t) (i := 0) (k := x) (by rw [hks]; rfl); omega⟩
  obtain ⟨Ax, cax, Bx, cbx, Kx, ckx, xl, x0, x1, x2, x3, x4, x5, hatx⟩ := px.cells
  have HCX : Hid (∀ W, Below W1.heap.size W1 W → (W.cell? ⟨bk, ok, none⟩ = some (.int .i64 x.kind) ∧ W.cell? ⟨bk, ok + 1, none⟩ = some (.string x.text) ∧ W.cell? ⟨bk, ok + 2, none⟩ = some (.int .i64 x.n) ∧ W.cell? ⟨bk, ok + 3, none⟩ = some (.slice Ax x.sh.length cax) ∧ W.cell? ⟨bk, ok + 4, none⟩ = some (.slice Bx x.at_.length cbx) ∧ W.cell? ⟨bk, ok + 5, none⟩ = some (.slice Kx x.kids.length ckx)) ∧ W.cell? ⟨w.heap.size, 5, none⟩ = some (.slice (some ⟨bk, ok, none⟩) 2 ck) ∧ bk < W.heap.size ∧ w.heap.size < W.heap.size) := Lib.hid fun W h => by
    have key : ∀ g j v, g < W1.heap.size → W1.cell? ⟨g, j, none⟩ = some v → W.cell? ⟨g, j, none⟩ = some v := fun g j v hg hv => (h.cell (p := ⟨g, j, none⟩) hg).trans hv
    exact ⟨⟨key _ _ _ xl x0, key _ _ _ xl x1, key _ _ _ xl x2, key _ _ _ xl x3, key _ _ _ xl x4, key _ _ _ xl x5⟩, by rw [← hkl]; exact key _ _ _ kl k5, Nat.lt_of_lt_of_le xl h.size, Nat.lt_of_lt_of_le kl h.size⟩
  have HK0 : Hid (∀ v' W, (v' = 1 ∨ v' = 2) → Below W1.heap.size W1 W → Calls Tryz.prog 71 #[tmVal x Ax cax Bx cbx Kx ckx, .int .i64 v'] W fun e w' => e = .returned (.bool (totT x v')) ∧ Below W.heap.size W w') := Lib.hid fun v' W hv' hb =>
    ih x Ax cax Bx cbx Kx ckx v' W SX.out.2.2 (hatx.on hb) SX.out.1 SX.out.2.1 hv'
  have SY : Hid (WfT y ∧ goodT false y = true ∧ cnt y ≤ N) := Lib.hid ⟨hwf.node.each y (by rw [hks]; simp), good_sub hgd (by omega) (i := 1) (by rw [hks]; rfl), by have h1 := cnt_kid (t := t) (i := 1) (k := y) (by rw [hks]; rfl); omega⟩
  obtain ⟨Ay, cay, By, cby, Ky, cky, yl, y0, y1, y2, y3, y4, y5, haty⟩ := py.cells
  have Cy : W1.cell? ⟨bk, ok + 1 * 6, none⟩ = some (.int .i64 y.kind) ∧ W1.cell? ⟨bk, ok + 1 * 6 + 1, none⟩ = some (.string y.text) ∧ W1.cell? ⟨bk, ok + 1 * 6 + 2, none⟩ = some (.int .i64 y.n) ∧ W1.cell? ⟨bk, ok + 1 * 6 + 3, none⟩ = some (.slice Ay y.sh.length cay) ∧ W1.cell? ⟨bk, ok + 1 * 6 + 4, none⟩ = some (.slice By y.at_.length cby) ∧ W1.cell? ⟨bk, ok + 1 * 6 + 5, none⟩ = some (.slice Ky y.kids.length cky) := ⟨y0, y1, y2, y3, y4, y5⟩
  clear y0 y1 y2 y3 y4 y5
  obtain ⟨y0, y1, y2, y3, y4, y5⟩ : W1.cell? ⟨bk, (ok + 6), none⟩ = some (.int .i64 y.kind) ∧ W1.cell? ⟨bk, (ok + 6) + 1, none⟩ = some (.string y.text) ∧ W1.cell? ⟨bk, (ok + 6) + 2, none⟩ = some (.int .i64 y.n) ∧ W1.cell? ⟨bk, (ok + 6) + 3, none⟩ = some (.slice Ay y.sh.length cay) ∧ W1.cell? ⟨bk, (ok + 6) + 4, none⟩ = some (.slice By y.at_.length cby) ∧ W1.cell? ⟨bk, (ok + 6) + 5, none⟩ = some (.slice Ky y.kids.length cky) := Cy
  have HCY : Hid (∀ W, Below W1.heap.size W1 W → (W.cell? ⟨bk, (ok + 6), none⟩ = some (.int .i64 y.kind) ∧ W.cell? ⟨bk, (ok + 6) + 1, none⟩ = some (.string y.text) ∧ W.cell? ⟨bk, (ok + 6) + 2, none⟩ = some (.int .i64 y.n) ∧ W.cell? ⟨bk, (ok + 6) + 3, none⟩ = some (.slice Ay y.sh.length cay) ∧ W.cell? ⟨bk, (ok + 6) + 4, none⟩ = some (.slice By y.at_.length cby) ∧ W.cell? ⟨bk, (ok + 6) + 5, none⟩ = some (.slice Ky y.kids.length cky)) ∧ W.cell? ⟨w.heap.size, 5, none⟩ = some (.slice (some ⟨bk, ok, none⟩) 2 ck) ∧ bk < W.heap.size ∧ w.heap.size < W.heap.size) := Lib.hid fun W h => by
    have key : ∀ g j v, g < W1.heap.size → W1.cell? ⟨g, j, none⟩ = some v → W.cell? ⟨g, j, none⟩ = some v := fun g j v hg hv => (h.cell (p := ⟨g, j, none⟩) hg).trans hv
    exact ⟨⟨key _ _ _ yl y0, key _ _ _ yl y1, key _ _ _ yl y2, key _ _ _ yl y3, key _ _ _ yl y4, key _ _ _ yl y5⟩, by rw [← hkl]; exact key _ _ _ kl k5, Nat.lt_of_lt_of_le yl h.size, Nat.lt_of_lt_of_le kl h.size⟩
  have HK1 : Hid (∀ v' W, (v' = 1 ∨ v' = 2) → Below W1.heap.size W1 W → Calls Tryz.prog 71 #[tmVal y Ay cay By cby Ky cky, .int .i64 v'] W fun e w' => e = .returned (.bool (totT y v')) ∧ Below W.heap.size W w') := Lib.hid fun v' W hv' hb =>
    ih y Ay cay By cby Ky cky v' W SY.out.2.2 (haty.on hb) SY.out.1 SY.out.2.1 hv'
  clear x0 x1 x2 x3 x4 x5 xl px hatx y0 y1 y2 y3 y4 y5 yl py haty
  have HR : Hid (totT t v = (totT y v && totT x 1)) := Lib.hid (by rw [totT_eq]; unfold totK; rw [if_neg (by omega)]; rw [if_neg (by omega)]; rw [if_neg (by omega)]; rw [if_pos (by omega)]; rw [hks]; rfl)
  have kk20 : (t.kind == 20) = false := by rw [hk]; rfl
  have kk22 : (t.kind == 22) = false := by rw [hk]; rfl
  have kk27 : (t.kind == 27) = false := by rw [hk]; rfl
  have kk29 : (t.kind == 29) = true := by rw [hk]; rfl
  rw [hkl] at k5
  clear hgd hwf hN hat ih hk hks hkl hv fx fy
  obtain ⟨⟨y0, y1, y2, y3, y4, y5⟩, kk5, yl, kkl⟩ := HCY.out W1 (Below.refl _ _)
  go_enter Tryz.func71, Tryz.ntmps71
  go_upto_region 1 with fail
  rw [← HW1.out]
  go_wp2_with fail
  clear k0 k1 k2 k3 k4 k5 kl
  refine (HK1.out v W1 HV.out (Below.refl _ _)).mono ?_
  rintro e w2 ⟨rfl, hb⟩
  have HB2 := Lib.hid (((Below.refl _ _)).then_ hb)
  clear hb
  clear y0 y1 y2 y3 y4 y5 kk5 yl kkl
  cases hc : totT y v
  · have HC := Lib.hid hc
    clear hc
    go_wp2_with fail
    go_ret
    exact ⟨by rw [HR.out, HC.out]; try rfl, H1.out.then_ (HB2.out)⟩
  · have HC := Lib.hid hc
    clear hc
    obtain ⟨⟨x0, x1, x2, x3, x4, x5⟩, kk5, xl, kkl⟩ := HCX.out w2 HB2.out
    go_wp2_with fail
    refine (HK0.out 1 w2 (.inl rfl) HB2.out).mono ?_
    rintro e w3 ⟨rfl, hb⟩
    have HB3 := Lib.hid ((HB2.out).then_ hb)
    clear hb
    clear x0 x1 x2 x3 x4 x5 kk5 xl kkl
    go_wp2_with fail
    go_ret
    exact ⟨by rw [HR.out, HC.out, Bool.true_and]; try rfl, H1.out.then_ (HB3.out)⟩
set_option maxRecDepth 100000 in
set_option maxHeartbeats 16000000 in
theorem dtot_46 (N : Nat) (ih : DTotN N) (t : Tm) (A : Option Addr) (ca : Nat) (B : Option Addr) (cb : Nat) (K : Option Addr) (ck : Nat) (v : Int) (w : World) (hN : cnt t ≤ N + 1) (hat : TmAt w t A B K) (hwf : WfT t) (hgd : goodT false t = true) (hv : v = 1 ∨ v = 2) (hk : t.kind = 46) :
    Calls Tryz.prog 71 #[tmVal t A ca B cb K ck, .int .i64 v] w fun e w' => e = .returned (.bool (totT t v)) ∧ Below w.heap.size w w' := by
  obtain ⟨W1, hW1⟩ : ∃ W1, W1 = w.alloc (.cells (tmCells t A ca B cb K ck) TTm) := ⟨_, rfl⟩
  have hb1 : Below w.heap.size w W1 := by rw [hW1]; exact (Below.refl _ _).alloc (Nat.le_refl _) _
  have hx1 : W1.heap[w.heap.size]? = some (.cells (tmCells t A ca B cb K ck) TTm (0, 0)) := by rw [hW1]; exact heap_alloc_new w _
  have HW1 := Lib.hid hW1
  have H1 := Lib.hid hb1
  have HT := Lib.hid (And.intro (hat.on hb1) (And.intro hwf (And.intro hgd hN)))
  have HV := Lib.hid hv
  have IH := Lib.hid ih
  have KC : Hid (∀ W, Below W1.heap.size W1 W → W.cell? ⟨w.heap.size, 0, none⟩ = some (.int .i64 t.kind) ∧ W.cell? ⟨w.heap.size, 1, none⟩ = some (.string t.text) ∧ W.cell? ⟨w.heap.size, 2, none⟩ = some (.int .i64 t.n) ∧ W.cell? ⟨w.heap.size, 3, none⟩ = some (.slice A t.sh.length ca) ∧ W.cell? ⟨w.heap.size, 4, none⟩ = some (.slice B t.at_.length cb) ∧ W.cell? ⟨w.heap.size, 5, none⟩ = some (.slice K t.kids.length ck) ∧ w.heap.size < W.heap.size) := Lib.hid fun W h => by
    have hh := (h.block _ (heap_lt hx1)).trans hx1
    exact ⟨cell_at hh rfl, cell_at hh rfl, cell_at hh rfl, cell_at hh rfl, cell_at hh rfl, cell_at hh rfl, heap_lt hh⟩
  clear hW1 hx1 hb1
  obtain ⟨k0, k1, k2, k3, k4, k5, kl⟩ := KC.out W1 (Below.refl _ _)
  obtain ⟨x, y, hks, fx, fy⟩ := two_kids hgd (c := 118) (d := 118) (by rw [hk]; decide) (by omega) (by omega) (by omega)
  have hkl : t.kids.length = 2 := by rw [hks]; rfl
  obtain ⟨bk, ok, hKe, px⟩ := HT.out.1.kids.get (i := 0) (t := x) (by rw [hks]; rfl)
  rw [Nat.zero_add, Nat.zero_mul, Nat.add_zero] at px
  obtain ⟨b', o', hKe', py⟩ := HT.out.1.kids.get (i := 1) (t := y) (by rw [hks]; rfl)
  rw [hKe] at hKe'
  simp only [Option.some.injEq, Addr.mk.injEq, and_true] at hKe'
  obtain ⟨rfl, rfl⟩ := hKe'
  rw [Nat.zero_add] at py
  subst hKe
  have SX : Hid (WfT x ∧ goodT false x = true ∧ cnt x ≤ N) := Lib.hid ⟨hwf.node.each x (by rw [hks]; simp), good_sub hgd (by omega) (i := 0) (by rw [hks]; rfl), by have h1 := cnt_kid (t := t) (i := 0) (k := x) (by rw [hks]; rfl); omega⟩
  obtain ⟨Ax, cax, Bx, cbx, Kx, ckx, xl, x0, x1, x2, x3, x4, x5, hatx⟩ := px.cells
  have HCX : Hid (∀ W, Below W1.heap.size W1 W → (W.cell? ⟨bk, ok, none⟩ = some (.int .i64 x.kind) ∧ W.cell? ⟨bk, ok + 1, none⟩ = some (.string x.text) ∧ W.cell? ⟨bk, ok + 2, none⟩ = some (.int .i64 x.n) ∧ W.cell? ⟨bk, ok + 3, none⟩ = some (.slice Ax x.sh.length cax) ∧ W.cell? ⟨bk, ok + 4, none⟩ = some (.slice Bx x.at_.length cbx) ∧ W.cell? ⟨bk, ok + 5, none⟩ = some (.slice Kx x.kids.length ckx)) ∧ W.cell? ⟨w.heap.size, 5, none⟩ = some (.slice (some ⟨bk, ok, none⟩) 2 ck) ∧ bk < W.heap.size ∧ w.heap.size < W.heap.size) := Lib.hid fun W h => by
    have key : ∀ g j v, g < W1.heap.size → W1.cell? ⟨g, j, none⟩ = some v → W.cell? ⟨g, j, none⟩ = some v := fun g j v hg hv => (h.cell (p := ⟨g, j, none⟩) hg).trans hv
    exact ⟨⟨key _ _ _ xl x0, key _ _ _ xl x1, key _ _ _ xl x2, key _ _ _ xl x3, key _ _ _ xl x4, key _ _ _ xl x5⟩, by rw [← hkl]; exact key _ _ _ kl k5, Nat.lt_of_lt_of_le xl h.size, Nat.lt_of_lt_of_le kl h.size⟩
  have HK0 : Hid (∀ v' W, (v' = 1 ∨ v' = 2) → Below W1.heap.size W1 W → Calls Tryz.prog 71 #[tmVal x Ax cax Bx cbx Kx ckx, .int .i64 v'] W fun e w' => e = .returned (.bool (totT x v')) ∧ Below W.heap.size W w') := Lib.hid fun v' W hv' hb =>
    ih x Ax cax Bx cbx Kx ckx v' W SX.out.2.2 (hatx.on hb) SX.out.1 SX.out.2.1 hv'
  have SY : Hid (WfT y ∧ goodT false y = true ∧ cnt y ≤ N) := Lib.hid ⟨hwf.node.each y (by rw [hks]; simp), good_sub hgd (by omega) (i := 1) (by rw [hks]; rfl), by have h1 := cnt_kid (t := t) (i := 1) (k := y) (by rw [hks]; rfl); omega⟩
  obtain ⟨Ay, cay, By, cby, Ky, cky, yl, y0, y1, y2, y3, y4, y5, haty⟩ := py.cells
  have Cy : W1.cell? ⟨bk, ok + 1 * 6, none⟩ = some (.int .i64 y.kind) ∧ W1.cell? ⟨bk, ok + 1 * 6 + 1, none⟩ = some (.string y.text) ∧ W1.cell? ⟨bk, ok + 1 * 6 + 2, none⟩ = some (.int .i64 y.n) ∧ W1.cell? ⟨bk, ok + 1 * 6 + 3, none⟩ = some (.slice Ay y.sh.length cay) ∧ W1.cell? ⟨bk, ok + 1 * 6 + 4, none⟩ = some (.slice By y.at_.length cby) ∧ W1.cell? ⟨bk, ok + 1 * 6 + 5, none⟩ = some (.slice Ky y.kids.length cky) := ⟨y0, y1, y2, y3, y4, y5⟩
  clear y0 y1 y2 y3 y4 y5
  obtain ⟨y0, y1, y2, y3, y4, y5⟩ : W1.cell? ⟨bk, (ok + 6), none⟩ = some (.int .i64 y.kind) ∧ W1.cell? ⟨bk, (ok + 6) + 1, none⟩ = some (.string y.text) ∧ W1.cell? ⟨bk, (ok + 6) + 2, none⟩ = some (.int .i64 y.n) ∧ W1.cell? ⟨bk, (ok + 6) + 3, none⟩ = some (.slice Ay y.sh.length cay) ∧ W1.cell? ⟨bk, (ok + 6) + 4, none⟩ = some (.slice By y.at_.length cby) ∧ W1.cell? ⟨bk, (ok + 6) + 5, none⟩ = some (.slice Ky y.kids.length cky) := Cy
  have HCY : Hid (∀ W, Below W1.heap.size W1 W → (W.cell? ⟨bk, (ok + 6), none⟩ = some (.int .i64 y.kind) ∧ W.cell? ⟨bk, (ok + 6) + 1, none⟩ = some (.string y.text) ∧ W.cell? ⟨bk, (ok + 6) + 2, none⟩ = some (.int .i64 y.n) ∧ W.cell? ⟨bk, (ok + 6) + 3, none⟩ = some (.slice Ay y.sh.length cay) ∧ W.cell? ⟨bk, (ok + 6) + 4, none⟩ = some (.slice By y.at_.length cby) ∧ W.cell? ⟨bk, (ok + 6) + 5, none⟩ = some (.slice Ky y.kids.length cky)) ∧ W.cell? ⟨w.heap.size, 5, none⟩ = some (.slice (some ⟨bk, ok, none⟩) 2 ck) ∧ bk < W.heap.size ∧ w.heap.size < W.heap.size) := Lib.hid fun W h => by
    have key : ∀ g j v, g < W1.heap.size → W1.cell? ⟨g, j, none⟩ = some v → W.cell? ⟨g, j, none⟩ = some v := fun g j v hg hv => (h.cell (p := ⟨g, j, none⟩) hg).trans hv
    exact ⟨⟨key _ _ _ yl y0, key _ _ _ yl y1, key _ _ _ yl y2, key _ _ _ yl y3, key _ _ _ yl y4, key _ _ _ yl y5⟩, by rw [← hkl]; exact key _ _ _ kl k5, Nat.lt_of_lt_of_le yl h.size, Nat.lt_of_lt_of_le kl h.size⟩
  have HK1 : Hid (∀ v' W, (v' = 1 ∨ v' = 2) → Below W1.heap.size W1 W → Calls Tryz.prog 71 #[tmVal y Ay cay By cby Ky cky, .int .i64 v'] W fun e w' => e = .returned (.bool (totT y v')) ∧ Below W.heap.size W w') := Lib.hid fun v' W hv' hb =>
    ih y Ay cay By cby Ky cky v' W SY.out.2.2 (haty.on hb) SY.out.1 SY.out.2.1 hv'
  clear x0 x1 x2 x3 x4 x5 xl px hatx y0 y1 y2 y3 y4 y5 yl py haty
  have HR : Hid (totT t v = (totT y v && totT x 1)) := Lib.hid (by rw [totT_eq]; unfold totK; rw [if_neg (by omega)]; rw [if_neg (by omega)]; rw [if_neg (by omega)]; rw [if_pos (by omega)]; rw [hks]; rfl)
  have kk20 : (t.kind == 20) = false := by rw [hk]; rfl
  have kk22 : (t.kind == 22) = false := by rw [hk]; rfl
  have kk27 : (t.kind == 27) = false := by rw [hk]; rfl
  have kk29 : (t.kind == 29) = false := by rw [hk]; rfl
  have kk31 : (t.kind == 31) = false := by rw [hk]; rfl
  have kk44 : (t.kind == 44) = false := by rw [hk]; rfl
  have kk45 : (t.kind == 45) = false := by rw [hk]; rfl
  have kk46 : (t.kind == 46) = true := by rw [hk]; rfl
  rw [hkl] at k5
  clear hgd hwf hN hat ih hk hks hkl hv fx fy
  obtain ⟨⟨y0, y1, y2, y3, y4, y5⟩, kk5, yl, kkl⟩ := HCY.out W1 (Below.refl _ _)
  go_enter Tryz.func71, Tryz.ntmps71
  go_upto_region 1 with fail
  rw [← HW1.out]
  go_wp2_with fail
  clear k0 k1 k2 k3 k4 k5 kl
  refine (HK1.out v W1 HV.out (Below.refl _ _)).mono ?_
  rintro e w4 ⟨rfl, hb⟩
  have HB4 := Lib.hid (((Below.refl _ _)).then_ hb)
  clear hb
  clear y0 y1 y2 y3 y4 y5 kk5 yl kkl
  cases hc : totT y v
  · have HC := Lib.hid hc
    clear hc
    go_wp2_with fail
    go_ret
    exact ⟨by rw [HR.out, HC.out]; try rfl, H1.out.then_ (HB4.out)⟩
  · have HC := Lib.hid hc
    clear hc
    obtain ⟨⟨x0, x1, x2, x3, x4, x5⟩, kk5, xl, kkl⟩ := HCX.out w4 HB4.out
    go_wp2_with fail
    refine (HK0.out 1 w4 (.inl rfl) HB4.out).mono ?_
    rintro e w5 ⟨rfl, hb⟩
    have HB5 := Lib.hid ((HB4.out).then_ hb)
    clear hb
    clear x0 x1 x2 x3 x4 x5 kk5 xl kkl
    go_wp2_with fail
    go_ret
    exact ⟨by rw [HR.out, HC.out, Bool.true_and]; try rfl, H1.out.then_ (HB5.out)⟩
set_option maxRecDepth 100000 in
set_option maxHeartbeats 16000000 in
theorem dtot_31 (N : Nat) (ih : DTotN N) (t : Tm) (A : Option Addr) (ca : Nat) (B : Option Addr) (cb : Nat) (K : Option Addr) (ck : Nat) (v : Int) (w : World) (hN : cnt t ≤ N + 1) (hat : TmAt w t A B K) (hwf : WfT t) (hgd : goodT false t = true) (hv : v = 1 ∨ v = 2) (hk : t.kind = 31) :
    Calls Tryz.prog 71 #[tmVal t A ca B cb K ck, .int .i64 v] w fun e w' => e = .returned (.bool (totT t v)) ∧ Below w.heap.size w w' := by
  obtain ⟨W1, hW1⟩ : ∃ W1, W1 = w.alloc (.cells (tmCells t A ca B cb K ck) TTm) := ⟨_, rfl⟩
  have hb1 : Below w.heap.size w W1 := by rw [hW1]; exact (Below.refl _ _).alloc (Nat.le_refl _) _
  have hx1 : W1.heap[w.heap.size]? = some (.cells (tmCells t A ca B cb K ck) TTm (0, 0)) := by rw [hW1]; exact heap_alloc_new w _
  have HW1 := Lib.hid hW1
  have H1 := Lib.hid hb1
  have HT := Lib.hid (And.intro (hat.on hb1) (And.intro hwf (And.intro hgd hN)))
  have HV := Lib.hid hv
  have IH := Lib.hid ih
  have KC : Hid (∀ W, Below W1.heap.size W1 W → W.cell? ⟨w.heap.size, 0, none⟩ = some (.int .i64 t.kind) ∧ W.cell? ⟨w.heap.size, 1, none⟩ = some (.string t.text) ∧ W.cell? ⟨w.heap.size, 2, none⟩ = some (.int .i64 t.n) ∧ W.cell? ⟨w.heap.size, 3, none⟩ = some (.slice A t.sh.length ca) ∧ W.cell? ⟨w.heap.size, 4, none⟩ = some (.slice B t.at_.length cb) ∧ W.cell? ⟨w.heap.size, 5, none⟩ = some (.slice K t.kids.length ck) ∧ w.heap.size < W.heap.size) := Lib.hid fun W h => by
    have hh := (h.block _ (heap_lt hx1)).trans hx1
    exact ⟨cell_at hh rfl, cell_at hh rfl, cell_at hh rfl, cell_at hh rfl, cell_at hh rfl, cell_at hh rfl, heap_lt hh⟩
  clear hW1 hx1 hb1
  obtain ⟨k0, k1, k2, k3, k4, k5, kl⟩ := KC.out W1 (Below.refl _ _)
  obtain ⟨x, y, hks, fx, fy⟩ := two_kids hgd (c := 118) (d := 118) (by rw [hk]; decide) (by omega) (by omega) (by omega)
  have hkl : t.kids.length = 2 := by rw [hks]; rfl
  obtain ⟨bk, ok, hKe, px⟩ := HT.out.1.kids.get (i := 0) (t := x) (by rw [hks]; rfl)
  rw [Nat.zero_add, Nat.zero_mul, Nat.add_zero] at px
  obtain ⟨b', o', hKe', py⟩ := HT.out.1.kids.get (i := 1) (t := y) (by rw [hks]; rfl)
  rw [hKe] at hKe'
  simp only [Option.some.injEq, Addr.mk.injEq, and_true] at hKe'
  obtain ⟨rfl, rfl⟩ := hKe'
  rw [Nat.zero_add] at py
  subst hKe
  have SX : Hid (WfT x ∧ goodT false x = true ∧ cnt x ≤ N) := Lib.hid ⟨hwf.node.each x (by rw [hks]; simp), good_sub hgd (by omega) (i := 0) (by rw [hks]; rfl), by have h1 := cnt_kid (t := t) (i := 0) (k := x) (by rw [hks]; rfl); omega⟩
  obtain ⟨Ax, cax, Bx, cbx, Kx, ckx, xl, x0, x1, x2, x3, x4, x5, hatx⟩ := px.cells
  have HCX : Hid (∀ W, Below W1.heap.size W1 W → (W.cell? ⟨bk, ok, none⟩ = some (.int .i64 x.kind) ∧ W.cell? ⟨bk, ok + 1, none⟩ = some (.string x.text) ∧ W.cell? ⟨bk, ok + 2, none⟩ = some (.int .i64 x.n) ∧ W.cell? ⟨bk, ok + 3, none⟩ = some (.slice Ax x.sh.length cax) ∧ W.cell? ⟨bk, ok + 4, none⟩ = some (.slice Bx x.at_.length cbx) ∧ W.cell? ⟨bk, ok + 5, none⟩ = some (.slice Kx x.kids.length ckx)) ∧ W.cell? ⟨w.heap.size, 5, none⟩ = some (.slice (some ⟨bk, ok, none⟩) 2 ck) ∧ bk < W.heap.size ∧ w.heap.size < W.heap.size) := Lib.hid fun W h => by
    have key : ∀ g j v, g < W1.heap.size → W1.cell? ⟨g, j, none⟩ = some v → W.cell? ⟨g, j, none⟩ = some v := fun g j v hg hv => (h.cell (p := ⟨g, j, none⟩) hg).trans hv
    exact ⟨⟨key _ _ _ xl x0, key _ _ _ xl x1, key _ _ _ xl x2, key _ _ _ xl x3, key _ _ _ xl x4, key _ _ _ xl x5⟩, by rw [← hkl]; exact key _ _ _ kl k5, Nat.lt_of_lt_of_le xl h.size, Nat.lt_of_lt_of_le kl h.size⟩
  have HK0 : Hid (∀ v' W, (v' = 1 ∨ v' = 2) → Below W1.heap.size W1 W → Calls Tryz.prog 71 #[tmVal x Ax cax Bx cbx Kx ckx, .int .i64 v'] W fun e w' => e = .returned (.bool (totT x v')) ∧ Below W.heap.size W w') := Lib.hid fun v' W hv' hb =>
    ih x Ax cax Bx cbx Kx ckx v' W SX.out.2.2 (hatx.on hb) SX.out.1 SX.out.2.1 hv'
  have SY : Hid (WfT y ∧ goodT false y = true ∧ cnt y ≤ N) := Lib.hid ⟨hwf.node.each y (by rw [hks]; simp), good_sub hgd (by omega) (i := 1) (by rw [hks]; rfl), by have h1 := cnt_kid (t := t) (i := 1) (k := y) (by rw [hks]; rfl); omega⟩
  obtain ⟨Ay, cay, By, cby, Ky, cky, yl, y0, y1, y2, y3, y4, y5, haty⟩ := py.cells
  have Cy : W1.cell? ⟨bk, ok + 1 * 6, none⟩ = some (.int .i64 y.kind) ∧ W1.cell? ⟨bk, ok + 1 * 6 + 1, none⟩ = some (.string y.text) ∧ W1.cell? ⟨bk, ok + 1 * 6 + 2, none⟩ = some (.int .i64 y.n) ∧ W1.cell? ⟨bk, ok + 1 * 6 + 3, none⟩ = some (.slice Ay y.sh.length cay) ∧ W1.cell? ⟨bk, ok + 1 * 6 + 4, none⟩ = some (.slice By y.at_.length cby) ∧ W1.cell? ⟨bk, ok + 1 * 6 + 5, none⟩ = some (.slice Ky y.kids.length cky) := ⟨y0, y1, y2, y3, y4, y5⟩
  clear y0 y1 y2 y3 y4 y5
  obtain ⟨y0, y1, y2, y3, y4, y5⟩ : W1.cell? ⟨bk, (ok + 6), none⟩ = some (.int .i64 y.kind) ∧ W1.cell? ⟨bk, (ok + 6) + 1, none⟩ = some (.string y.text) ∧ W1.cell? ⟨bk, (ok + 6) + 2, none⟩ = some (.int .i64 y.n) ∧ W1.cell? ⟨bk, (ok + 6) + 3, none⟩ = some (.slice Ay y.sh.length cay) ∧ W1.cell? ⟨bk, (ok + 6) + 4, none⟩ = some (.slice By y.at_.length cby) ∧ W1.cell? ⟨bk, (ok + 6) + 5, none⟩ = some (.slice Ky y.kids.length cky) := Cy
  have HCY : Hid (∀ W, Below W1.heap.size W1 W → (W.cell? ⟨bk, (ok + 6), none⟩ = some (.int .i64 y.kind) ∧ W.cell? ⟨bk, (ok + 6) + 1, none⟩ = some (.string y.text) ∧ W.cell? ⟨bk, (ok + 6) + 2, none⟩ = some (.int .i64 y.n) ∧ W.cell? ⟨bk, (ok + 6) + 3, none⟩ = some (.slice Ay y.sh.length cay) ∧ W.cell? ⟨bk, (ok + 6) + 4, none⟩ = some (.slice By y.at_.length cby) ∧ W.cell? ⟨bk, (ok + 6) + 5, none⟩ = some (.slice Ky y.kids.length cky)) ∧ W.cell? ⟨w.heap.size, 5, none⟩ = some (.slice (some ⟨bk, ok, none⟩) 2 ck) ∧ bk < W.heap.size ∧ w.heap.size < W.heap.size) := Lib.hid fun W h => by
    have key : ∀ g j v, g < W1.heap.size → W1.cell? ⟨g, j, none⟩ = some v → W.cell? ⟨g, j, none⟩ = some v := fun g j v hg hv => (h.cell (p := ⟨g, j, none⟩) hg).trans hv
    exact ⟨⟨key _ _ _ yl y0, key _ _ _ yl y1, key _ _ _ yl y2, key _ _ _ yl y3, key _ _ _ yl y4, key _ _ _ yl y5⟩, by rw [← hkl]; exact key _ _ _ kl k5, Nat.lt_of_lt_of_le yl h.size, Nat.lt_of_lt_of_le kl h.size⟩
  have HK1 : Hid (∀ v' W, (v' = 1 ∨ v' = 2) → Below W1.heap.size W1 W → Calls Tryz.prog 71 #[tmVal y Ay cay By cby Ky cky, .int .i64 v'] W fun e w' => e = .returned (.bool (totT y v')) ∧ Below W.heap.size W w') := Lib.hid fun v' W hv' hb =>
    ih y Ay cay By cby Ky cky v' W SY.out.2.2 (haty.on hb) SY.out.1 SY.out.2.1 hv'
  clear x0 x1 x2 x3 x4 x5 xl px hatx y0 y1 y2 y3 y4 y5 yl py haty
  have HR : Hid (totT t v = (totT y 1 && totT x v)) := Lib.hid (by rw [totT_eq]; unfold totK; rw [if_neg (by omega)]; rw [if_neg (by omega)]; rw [if_neg (by omega)]; rw [if_neg (by omega)]; rw [if_pos (by omega)]; rw [hks]; rfl)
  have kk20 : (t.kind == 20) = false := by rw [hk]; rfl
  have kk22 : (t.kind == 22) = false := by rw [hk]; rfl
  have kk27 : (t.kind == 27) = false := by rw [hk]; rfl
  have kk29 : (t.kind == 29) = false := by rw [hk]; rfl
  have kk31 : (t.kind == 31) = true := by rw [hk]; rfl
  rw [hkl] at k5
  clear hgd hwf hN hat ih hk hks hkl hv fx fy
  obtain ⟨⟨y0, y1, y2, y3, y4, y5⟩, kk5, yl, kkl⟩ := HCY.out W1 (Below.refl _ _)
  go_enter Tryz.func71, Tryz.ntmps71
  go_upto_region 1 with fail
  rw [← HW1.out]
  go_wp2_with fail
  clear k0 k1 k2 k3 k4 k5 kl
  refine (HK1.out 1 W1 (.inl rfl) (Below.refl _ _)).mono ?_
  rintro e w6 ⟨rfl, hb⟩
  have HB6 := Lib.hid (((Below.refl _ _)).then_ hb)
  clear hb
  clear y0 y1 y2 y3 y4 y5 kk5 yl kkl
  cases hc : totT y 1
  · have HC := Lib.hid hc
    clear hc
    go_wp2_with fail
    go_ret
    exact ⟨by rw [HR.out, HC.out]; try rfl, H1.out.then_ (HB6.out)⟩
  · have HC := Lib.hid hc
    clear hc
    obtain ⟨⟨x0, x1, x2, x3, x4, x5⟩, kk5, xl, kkl⟩ := HCX.out w6 HB6.out
    go_wp2_with fail
    refine (HK0.out v w6 HV.out HB6.out).mono ?_
    rintro e w7 ⟨rfl, hb⟩
    have HB7 := Lib.hid ((HB6.out).then_ hb)
    clear hb
    clear x0 x1 x2 x3 x4 x5 kk5 xl kkl
    go_wp2_with fail
    go_ret
    exact ⟨by rw [HR.out, HC.out, Bool.true_and]; try rfl, H1.out.then_ (HB7.out)⟩
set_option maxRecDepth 100000 in
set_option maxHeartbeats 16000000 in
theorem dtot_44 (N : Nat) (ih : DTotN N) (t : Tm) (A : Option Addr) (ca : Nat) (B : Option Addr) (cb : Nat) (K : Option Addr) (ck : Nat) (v : Int) (w : World) (hN : cnt t ≤ N + 1) (hat : TmAt w t A B K) (hwf : WfT t) (hgd : goodT false t = true) (hv : v = 1 ∨ v = 2) (hk : t.kind = 44) :
    Calls Tryz.prog 71 #[tmVal t A ca B cb K ck, .int .i64 v] w fun e w' => e = .returned (.bool (totT t v)) ∧ Below w.heap.size w w' := by
  obtain ⟨W1, hW1⟩ : ∃ W1, W1 = w.alloc (.cells (tmCells t A ca B cb K ck) TTm) := ⟨_, rfl⟩
  have hb1 : Below w.heap.size w W1 := by rw [hW1]; exact (Below.refl _ _).alloc (Nat.le_refl _) _
  have hx1 : W1.heap[w.heap.size]? = some (.cells (tmCells t A ca B cb K ck) TTm (0, 0)) := by rw [hW1]; exact heap_alloc_new w _
  have HW1 := Lib.hid hW1
  have H1 := Lib.hid hb1
  have HT := Lib.hid (And.intro (hat.on hb1) (And.intro hwf (And.intro hgd hN)))
  have HV := Lib.hid hv
  have IH := Lib.hid ih
  have KC : Hid (∀ W, Below W1.heap.size W1 W → W.cell? ⟨w.heap.size, 0, none⟩ = some (.int .i64 t.kind) ∧ W.cell? ⟨w.heap.size, 1, none⟩ = some (.string t.text) ∧ W.cell? ⟨w.heap.size, 2, none⟩ = some (.int .i64 t.n) ∧ W.cell? ⟨w.heap.size, 3, none⟩ = some (.slice A t.sh.length ca) ∧ W.cell? ⟨w.heap.size, 4, none⟩ = some (.slice B t.at_.length cb) ∧ W.cell? ⟨w.heap.size, 5, none⟩ = some (.slice K t.kids.length ck) ∧ w.heap.size < W.heap.size) := Lib.hid fun W h => by
    have hh := (h.block _ (heap_lt hx1)).trans hx1
    exact ⟨cell_at hh rfl, cell_at hh rfl, cell_at hh rfl, cell_at hh rfl, cell_at hh rfl, cell_at hh rfl, heap_lt hh⟩
  clear hW1 hx1 hb1
  obtain ⟨k0, k1, k2, k3, k4, k5, kl⟩ := KC.out W1 (Below.refl _ _)
  obtain ⟨x, y, hks, fx, fy⟩ := two_kids hgd (c := 118) (d := 118) (by rw [hk]; decide) (by omega) (by omega) (by omega)
  have hkl : t.kids.length = 2 := by rw [hks]; rfl
  obtain ⟨bk, ok, hKe, px⟩ := HT.out.1.kids.get (i := 0) (t := x) (by rw [hks]; rfl)
  rw [Nat.zero_add, Nat.zero_mul, Nat.add_zero] at px
  obtain ⟨b', o', hKe', py⟩ := HT.out.1.kids.get (i := 1) (t := y) (by rw [hks]; rfl)
  rw [hKe] at hKe'
  simp only [Option.some.injEq, Addr.mk.injEq, and_true] at hKe'
  obtain ⟨rfl, rfl⟩ := hKe'
  rw [Nat.zero_add] at py
  subst hKe
  have SX : Hid (WfT x ∧ goodT false x = true ∧ cnt x ≤ N) := Lib.hid ⟨hwf.node.each x (by rw [hks]; simp), good_sub hgd (by omega) (i := 0) (by rw [hks]; rfl), by have h1 := cnt_kid (t := t) (i := 0) (k := x) (by rw [hks]; rfl); omega⟩
  obtain ⟨Ax, cax, Bx, cbx, Kx, ckx, xl, x0, x1, x2, x3, x4, x5, hatx⟩ := px.cells
  have HCX : Hid (∀ W, Below W1.heap.size W1 W → (W.cell? ⟨bk, ok, none⟩ = some (.int .i64 x.kind) ∧ W.cell? ⟨bk, ok + 1, none⟩ = some (.string x.text) ∧ W.cell? ⟨bk, ok + 2, none⟩ = some (.int .i64 x.n) ∧ W.cell? ⟨bk, ok + 3, none⟩ = some (.slice Ax x.sh.length cax) ∧ W.cell? ⟨bk, ok + 4, none⟩ = some (.slice Bx x.at_.length cbx) ∧ W.cell? ⟨bk, ok + 5, none⟩ = some (.slice Kx x.kids.length ckx)) ∧ W.cell? ⟨w.heap.size, 5, none⟩ = some (.slice (some ⟨bk, ok, none⟩) 2 ck) ∧ bk < W.heap.size ∧ w.heap.size < W.heap.size) := Lib.hid fun W h => by
    have key : ∀ g j v, g < W1.heap.size → W1.cell? ⟨g, j, none⟩ = some v → W.cell? ⟨g, j, none⟩ = some v := fun g j v hg hv => (h.cell (p := ⟨g, j, none⟩) hg).trans hv
    exact ⟨⟨key _ _ _ xl x0, key _ _ _ xl x1, key _ _ _ xl x2, key _ _ _ xl x3, key _ _ _ xl x4, key _ _ _ xl x5⟩, by rw [← hkl]; exact key _ _ _ kl k5, Nat.lt_of_lt_of_le xl h.size, Nat.lt_of_lt_of_le kl h.size⟩
  have HK0 : Hid (∀ v' W, (v' = 1 ∨ v' = 2) → Below W1.heap.size W1 W → Calls Tryz.prog 71 #[tmVal x Ax cax Bx cbx Kx ckx, .int .i64 v'] W fun e w' => e = .returned (.bool (totT x v')) ∧ Below W.heap.size W w') := Lib.hid fun v' W hv' hb =>
    ih x Ax cax Bx cbx Kx ckx v' W SX.out.2.2 (hatx.on hb) SX.out.1 SX.out.2.1 hv'
  have SY : Hid (WfT y ∧ goodT false y = true ∧ cnt y ≤ N) := Lib.hid ⟨hwf.node.each y (by rw [hks]; simp), good_sub hgd (by omega) (i := 1) (by rw [hks]; rfl), by have h1 := cnt_kid (t := t) (i := 1) (k := y) (by rw [hks]; rfl); omega⟩
  obtain ⟨Ay, cay, By, cby, Ky, cky, yl, y0, y1, y2, y3, y4, y5, haty⟩ := py.cells
  have Cy : W1.cell? ⟨bk, ok + 1 * 6, none⟩ = some (.int .i64 y.kind) ∧ W1.cell? ⟨bk, ok + 1 * 6 + 1, none⟩ = some (.string y.text) ∧ W1.cell? ⟨bk, ok + 1 * 6 + 2, none⟩ = some (.int .i64 y.n) ∧ W1.cell? ⟨bk, ok + 1 * 6 + 3, none⟩ = some (.slice Ay y.sh.length cay) ∧ W1.cell? ⟨bk, ok + 1 * 6 + 4, none⟩ = some (.slice By y.at_.length cby) ∧ W1.cell? ⟨bk, ok + 1 * 6 + 5, none⟩ = some (.slice Ky y.kids.length cky) := ⟨y0, y1, y2, y3, y4, y5⟩
  clear y0 y1 y2 y3 y4 y5
  obtain ⟨y0, y1, y2, y3, y4, y5⟩ : W1.cell? ⟨bk, (ok + 6), none⟩ = some (.int .i64 y.kind) ∧ W1.cell? ⟨bk, (ok + 6) + 1, none⟩ = some (.string y.text) ∧ W1.cell? ⟨bk, (ok + 6) + 2, none⟩ = some (.int .i64 y.n) ∧ W1.cell? ⟨bk, (ok + 6) + 3, none⟩ = some (.slice Ay y.sh.length cay) ∧ W1.cell? ⟨bk, (ok + 6) + 4, none⟩ = some (.slice By y.at_.length cby) ∧ W1.cell? ⟨bk, (ok + 6) + 5, none⟩ = some (.slice Ky y.kids.length cky) := Cy
  have HCY : Hid (∀ W, Below W1.heap.size W1 W → (W.cell? ⟨bk, (ok + 6), none⟩ = some (.int .i64 y.kind) ∧ W.cell? ⟨bk, (ok + 6) + 1, none⟩ = some (.string y.text) ∧ W.cell? ⟨bk, (ok + 6) + 2, none⟩ = some (.int .i64 y.n) ∧ W.cell? ⟨bk, (ok + 6) + 3, none⟩ = some (.slice Ay y.sh.length cay) ∧ W.cell? ⟨bk, (ok + 6) + 4, none⟩ = some (.slice By y.at_.length cby) ∧ W.cell? ⟨bk, (ok + 6) + 5, none⟩ = some (.slice Ky y.kids.length cky)) ∧ W.cell? ⟨w.heap.size, 5, none⟩ = some (.slice (some ⟨bk, ok, none⟩) 2 ck) ∧ bk < W.heap.size ∧ w.heap.size < W.heap.size) := Lib.hid fun W h => by
    have key : ∀ g j v, g < W1.heap.size → W1.cell? ⟨g, j, none⟩ = some v → W.cell? ⟨g, j, none⟩ = some v := fun g j v hg hv => (h.cell (p := ⟨g, j, none⟩) hg).trans hv
    exact ⟨⟨key _ _ _ yl y0, key _ _ _ yl y1, key _ _ _ yl y2, key _ _ _ yl y3, key _ _ _ yl y4, key _ _ _ yl y5⟩, by rw [← hkl]; exact key _ _ _ kl k5, Nat.lt_of_lt_of_le yl h.size, Nat.lt_of_lt_of_le kl h.size⟩
  have HK1 : Hid (∀ v' W, (v' = 1 ∨ v' = 2) → Below W1.heap.size W1 W → Calls Tryz.prog 71 #[tmVal y Ay cay By cby Ky cky, .int .i64 v'] W fun e w' => e = .returned (.bool (totT y v')) ∧ Below W.heap.size W w') := Lib.hid fun v' W hv' hb =>
    ih y Ay cay By cby Ky cky v' W SY.out.2.2 (haty.on hb) SY.out.1 SY.out.2.1 hv'
  clear x0 x1 x2 x3 x4 x5 xl px hatx y0 y1 y2 y3 y4 y5 yl py haty
  have HR : Hid (totT t v = (totT y 1 && totT x 2)) := Lib.hid (by rw [totT_eq]; unfold totK; rw [if_neg (by omega)]; rw [if_neg (by omega)]; rw [if_neg (by omega)]; rw [if_neg (by omega)]; rw [if_neg (by omega)]; rw [if_pos (by omega)]; rw [hks]; rfl)
  have kk20 : (t.kind == 20) = false := by rw [hk]; rfl
  have kk22 : (t.kind == 22) = false := by rw [hk]; rfl
  have kk27 : (t.kind == 27) = false := by rw [hk]; rfl
  have kk29 : (t.kind == 29) = false := by rw [hk]; rfl
  have kk31 : (t.kind == 31) = false := by rw [hk]; rfl
  have kk44 : (t.kind == 44) = true := by rw [hk]; rfl
  rw [hkl] at k5
  clear hgd hwf hN hat ih hk hks hkl hv fx fy
  obtain ⟨⟨y0, y1, y2, y3, y4, y5⟩, kk5, yl, kkl⟩ := HCY.out W1 (Below.refl _ _)
  go_enter Tryz.func71, Tryz.ntmps71
  go_upto_region 1 with fail
  rw [← HW1.out]
  go_wp2_with fail
  clear k0 k1 k2 k3 k4 k5 kl
  refine (HK1.out 1 W1 (.inl rfl) (Below.refl _ _)).mono ?_
  rintro e w8 ⟨rfl, hb⟩
  have HB8 := Lib.hid (((Below.refl _ _)).then_ hb)
  clear hb
  clear y0 y1 y2 y3 y4 y5 kk5 yl kkl
  cases hc : totT y 1
  · have HC := Lib.hid hc
    clear hc
    go_wp2_with fail
    go_ret
    exact ⟨by rw [HR.out, HC.out]; try rfl, H1.out.then_ (HB8.out)⟩
  · have HC := Lib.hid hc
    clear hc
    obtain ⟨⟨x0, x1, x2, x3, x4, x5⟩, kk5, xl, kkl⟩ := HCX.out w8 HB8.out
    go_wp2_with fail
    refine (HK0.out 2 w8 (.inr rfl) HB8.out).mono ?_
    rintro e w9 ⟨rfl, hb⟩
    have HB9 := Lib.hid ((HB8.out).then_ hb)
    clear hb
    clear x0 x1 x2 x3 x4 x5 kk5 xl kkl
    go_wp2_with fail
    go_ret
    exact ⟨by rw [HR.out, HC.out, Bool.true_and]; try rfl, H1.out.then_ (HB9.out)⟩
set_option maxRecDepth 100000 in
set_option maxHeartbeats 16000000 in
theorem dtot_45 (N : Nat) (ih : DTotN N) (t : Tm) (A : Option Addr) (ca : Nat) (B : Option Addr) (cb : Nat) (K : Option Addr) (ck : Nat) (v : Int) (w : World) (hN : cnt t ≤ N + 1) (hat : TmAt w t A B K) (hwf : WfT t) (hgd : goodT false t = true) (hv : v = 1 ∨ v = 2) (hk : t.kind = 45) :
    Calls Tryz.prog 71 #[tmVal t A ca B cb K ck, .int .i64 v] w fun e w' => e = .returned (.bool (totT t v)) ∧ Below w.heap.size w w' := by
  obtain ⟨W1, hW1⟩ : ∃ W1, W1 = w.alloc (.cells (tmCells t A ca B cb K ck) TTm) := ⟨_, rfl⟩
  have hb1 : Below w.heap.size w W1 := by rw [hW1]; exact (Below.refl _ _).alloc (Nat.le_refl _) _
  have hx1 : W1.heap[w.heap.size]? = some (.cells (tmCells t A ca B cb K ck) TTm (0, 0)) := by rw [hW1]; exact heap_alloc_new w _
  have HW1 := Lib.hid hW1
  have H1 := Lib.hid hb1
  have HT := Lib.hid (And.intro (hat.on hb1) (And.intro hwf (And.intro hgd hN)))
  have HV := Lib.hid hv
  have IH := Lib.hid ih
  have KC : Hid (∀ W, Below W1.heap.size W1 W → W.cell? ⟨w.heap.size, 0, none⟩ = some (.int .i64 t.kind) ∧ W.cell? ⟨w.heap.size, 1, none⟩ = some (.string t.text) ∧ W.cell? ⟨w.heap.size, 2, none⟩ = some (.int .i64 t.n) ∧ W.cell? ⟨w.heap.size, 3, none⟩ = some (.slice A t.sh.length ca) ∧ W.cell? ⟨w.heap.size, 4, none⟩ = some (.slice B t.at_.length cb) ∧ W.cell? ⟨w.heap.size, 5, none⟩ = some (.slice K t.kids.length ck) ∧ w.heap.size < W.heap.size) := Lib.hid fun W h => by
    have hh := (h.block _ (heap_lt hx1)).trans hx1
    exact ⟨cell_at hh rfl, cell_at hh rfl, cell_at hh rfl, cell_at hh rfl, cell_at hh rfl, cell_at hh rfl, heap_lt hh⟩
  clear hW1 hx1 hb1
  obtain ⟨k0, k1, k2, k3, k4, k5, kl⟩ := KC.out W1 (Below.refl _ _)
  obtain ⟨x, y, z, hks⟩ := three_kids hgd (c := 118) (d := 118) (e := 118) (by rw [hk]; decide) (by omega) (by omega) (by omega)
  have hkl : t.kids.length = 3 := by rw [hks]; rfl
  obtain ⟨bk, ok, hKe, px⟩ := HT.out.1.kids.get (i := 0) (t := x) (by rw [hks]; rfl)
  rw [Nat.zero_add, Nat.zero_mul, Nat.add_zero] at px
  obtain ⟨b', o', hKe', py⟩ := HT.out.1.kids.get (i := 1) (t := y) (by rw [hks]; rfl)
  rw [hKe] at hKe'
  simp only [Option.some.injEq, Addr.mk.injEq, and_true] at hKe'
  obtain ⟨rfl, rfl⟩ := hKe'
  rw [Nat.zero_add] at py
  obtain ⟨b', o', hKe', pz⟩ := HT.out.1.kids.get (i := 2) (t := z) (by rw [hks]; rfl)
  rw [hKe] at hKe'
  simp only [Option.some.injEq, Addr.mk.injEq, and_true] at hKe'
  obtain ⟨rfl, rfl⟩ := hKe'
  rw [Nat.zero_add] at pz
  subst hKe
  have SX : Hid (WfT x ∧ goodT false x = true ∧ cnt x ≤ N) := Lib.hid ⟨hwf.node.each x (by rw [hks]; simp), good_sub hgd (by omega) (i := 0) (by rw [hks]; rfl), by have h1 := cnt_kid (t := t) (i := 0) (k := x) (by rw [hks]; rfl); omega⟩
  obtain ⟨Ax, cax, Bx, cbx, Kx, ckx, xl, x0, x1, x2, x3, x4, x5, hatx⟩ := px.cells
  have HCX : Hid (∀ W, Below W1.heap.size W1 W → (W.cell? ⟨bk, ok, none⟩ = some (.int .i64 x.kind) ∧ W.cell? ⟨bk, ok + 1, none⟩ = some (.string x.text) ∧ W.cell? ⟨bk, ok + 2, none⟩ = some (.int .i64 x.n) ∧ W.cell? ⟨bk, ok + 3, none⟩ = some (.slice Ax x.sh.length cax) ∧ W.cell? ⟨bk, ok + 4, none⟩ = some (.slice Bx x.at_.length cbx) ∧ W.cell? ⟨bk, ok + 5, none⟩ = some (.slice Kx x.kids.length ckx)) ∧ W.cell? ⟨w.heap.size, 5, none⟩ = some (.slice (some ⟨bk, ok, none⟩) 3 ck) ∧ bk < W.heap.size ∧ w.heap.size < W.heap.size) := Lib.hid fun W h => by
    have key : ∀ g j v, g < W1.heap.size → W1.cell? ⟨g, j, none⟩ = some v → W.cell? ⟨g, j, none⟩ = some v := fun g j v hg hv => (h.cell (p := ⟨g, j, none⟩) hg).trans hv
    exact ⟨⟨key _ _ _ xl x0, key _ _ _ xl x1, key _ _ _ xl x2, key _ _ _ xl x3, key _ _ _ xl x4, key _ _ _ xl x5⟩, by rw [← hkl]; exact key _ _ _ kl k5, Nat.lt_of_lt_of_le xl h.size, Nat.lt_of_lt_of_le kl h.size⟩
  have HK0 : Hid (∀ v' W, (v' = 1 ∨ v' = 2) → Below W1.heap.size W1 W → Calls Tryz.prog 71 #[tmVal x Ax cax Bx cbx Kx ckx, .int .i64 v'] W fun e w' => e = .returned (.bool (totT x v')) ∧ Below W.heap.size W w') := Lib.hid fun v' W hv' hb =>
    ih x Ax cax Bx cbx Kx ckx v' W SX.out.2.2 (hatx.on hb) SX.out.1 SX.out.2.1 hv'
  have SY : Hid (WfT y ∧ goodT false y = true ∧ cnt y ≤ N) := Lib.hid ⟨hwf.node.each y (by rw [hks]; simp), good_sub hgd (by omega) (i := 1) (by rw [hks]; rfl), by have h1 := cnt_kid (t := t) (i := 1) (k := y) (by rw [hks]; rfl); omega⟩
  obtain ⟨Ay, cay, By, cby, Ky, cky, yl, y0, y1, y2, y3, y4, y5, haty⟩ := py.cells
  have Cy : W1.cell? ⟨bk, ok + 1 * 6, none⟩ = some (.int .i64 y.kind) ∧ W1.cell? ⟨bk, ok + 1 * 6 + 1, none⟩ = some (.string y.text) ∧ W1.cell? ⟨bk, ok + 1 * 6 + 2, none⟩ = some (.int .i64 y.n) ∧ W1.cell? ⟨bk, ok + 1 * 6 + 3, none⟩ = some (.slice Ay y.sh.length cay) ∧ W1.cell? ⟨bk, ok + 1 * 6 + 4, none⟩ = some (.slice By y.at_.length cby) ∧ W1.cell? ⟨bk, ok + 1 * 6 + 5, none⟩ = some (.slice Ky y.kids.length cky) := ⟨y0, y1, y2, y3, y4, y5⟩
  clear y0 y1 y2 y3 y4 y5
  obtain ⟨y0, y1, y2, y3, y4, y5⟩ : W1.cell? ⟨bk, (ok + 6), none⟩ = some (.int .i64 y.kind) ∧ W1.cell? ⟨bk, (ok + 6) + 1, none⟩ = some (.string y.text) ∧ W1.cell? ⟨bk, (ok + 6) + 2, none⟩ = some (.int .i64 y.n) ∧ W1.cell? ⟨bk, (ok + 6) + 3, none⟩ = some (.slice Ay y.sh.length cay) ∧ W1.cell? ⟨bk, (ok + 6) + 4, none⟩ = some (.slice By y.at_.length cby) ∧ W1.cell? ⟨bk, (ok + 6) + 5, none⟩ = some (.slice Ky y.kids.length cky) := Cy
  have HCY : Hid (∀ W, Below W1.heap.size W1 W → (W.cell? ⟨bk, (ok + 6), none⟩ = some (.int .i64 y.kind) ∧ W.cell? ⟨bk, (ok + 6) + 1, none⟩ = some (.string y.text) ∧ W.cell? ⟨bk, (ok + 6) + 2, none⟩ = some (.int .i64 y.n) ∧ W.cell? ⟨bk, (ok + 6) + 3, none⟩ = some (.slice Ay y.sh.length cay) ∧ W.cell? ⟨bk, (ok + 6) + 4, none⟩ = some (.slice By y.at_.length cby) ∧ W.cell? ⟨bk, (ok + 6) + 5, none⟩ = some (.slice Ky y.kids.length cky)) ∧ W.cell? ⟨w.heap.size, 5, none⟩ = some (.slice (some ⟨bk, ok, none⟩) 3 ck) ∧ bk < W.heap.size ∧ w.heap.size < W.heap.size) := Lib.hid fun W h => by
    have key : ∀ g j v, g < W1.heap.size → W1.cell? ⟨g, j, none⟩ = some v → W.cell? ⟨g, j, none⟩ = some v := fun g j v hg hv => (h.cell (p := ⟨g, j, none⟩) hg).trans hv
    exact ⟨⟨key _ _ _ yl y0, key _ _ _ yl y1, key _ _ _ yl y2, key _ _ _ yl y3, key _ _ _ yl y4, key _ _ _ yl y5⟩, by rw [← hkl]; exact key _ _ _ kl k5, Nat.lt_of_lt_of_le yl h.size, Nat.lt_of_lt_of_le kl h.size⟩
  have HK1 : Hid (∀ v' W, (v' = 1 ∨ v' = 2) → Below W1.heap.size W1 W → Calls Tryz.prog 71 #[tmVal y Ay cay By cby Ky cky, .int .i64 v'] W fun e w' => e = .returned (.bool (totT y v')) ∧ Below W.heap.size W w') := Lib.hid fun v' W hv' hb =>
    ih y Ay cay By cby Ky cky v' W SY.out.2.2 (haty.on hb) SY.out.1 SY.out.2.1 hv'
  have SZ : Hid (WfT z ∧ goodT false z = true ∧ cnt z ≤ N) := Lib.hid ⟨hwf.node.each z (by rw [hks]; simp), good_sub hgd (by omega) (i := 2) (by rw [hks]; rfl), by have h1 := cnt_kid (t := t) (i := 2) (k := z) (by rw [hks]; rfl); omega⟩
  obtain ⟨Az, caz, Bz, cbz, Kz, ckz, zl, z0, z1, z2, z3, z4, z5, hatz⟩ := pz.cells
  have Cz : W1.cell? ⟨bk, ok + 2 * 6, none⟩ = some (.int .i64 z.kind) ∧ W1.cell? ⟨bk, ok + 2 * 6 + 1, none⟩ = some (.string z.text) ∧ W1.cell? ⟨bk, ok + 2 * 6 + 2, none⟩ = some (.int .i64 z.n) ∧ W1.cell? ⟨bk, ok + 2 * 6 + 3, none⟩ = some (.slice Az z.sh.length caz) ∧ W1.cell? ⟨bk, ok + 2 * 6 + 4, none⟩ = some (.slice Bz z.at_.length cbz) ∧ W1.cell? ⟨bk, ok + 2 * 6 + 5, none⟩ = some (.slice Kz z.kids.length ckz) := ⟨z0, z1, z2, z3, z4, z5⟩
  clear z0 z1 z2 z3 z4 z5
  obtain ⟨z0, z1, z2, z3, z4, z5⟩ : W1.cell? ⟨bk, (ok + 12), none⟩ = some (.int .i64 z.kind) ∧ W1.cell? ⟨bk, (ok + 12) + 1, none⟩ = some (.string z.text) ∧ W1.cell? ⟨bk, (ok + 12) + 2, none⟩ = some (.int .i64 z.n) ∧ W1.cell? ⟨bk, (ok + 12) + 3, none⟩ = some (.slice Az z.sh.length caz) ∧ W1.cell? ⟨bk, (ok + 12) + 4, none⟩ = some (.slice Bz z.at_.length cbz) ∧ W1.cell? ⟨bk, (ok + 12) + 5, none⟩ = some (.slice Kz z.kids.length ckz) := Cz
  have HCZ : Hid (∀ W, Below W1.heap.size W1 W → (W.cell? ⟨bk, (ok + 12), none⟩ = some (.int .i64 z.kind) ∧ W.cell? ⟨bk, (ok + 12) + 1, none⟩ = some (.string z.text) ∧ W.cell? ⟨bk, (ok + 12) + 2, none⟩ = some (.int .i64 z.n) ∧ W.cell? ⟨bk, (ok + 12) + 3, none⟩ = some (.slice Az z.sh.length caz) ∧ W.cell? ⟨bk, (ok + 12) + 4, none⟩ = some (.slice Bz z.at_.length cbz) ∧ W.cell? ⟨bk, (ok + 12) + 5, none⟩ = some (.slice Kz z.kids.length ckz)) ∧ W.cell? ⟨w.heap.size, 5, none⟩ = some (.slice (some ⟨bk, ok, none⟩) 3 ck) ∧ bk < W.heap.size ∧ w.heap.size < W.heap.size) := Lib.hid fun W h => by
    have key : ∀ g j v, g < W1.heap.size → W1.cell? ⟨g, j, none⟩ = some v → W.cell? ⟨g, j, none⟩ = some v := fun g j v hg hv => (h.cell (p := ⟨g, j, none⟩) hg).trans hv
    exact ⟨⟨key _ _ _ zl z0, key _ _ _ zl z1, key _ _ _ zl z2, key _ _ _ zl z3, key _ _ _ zl z4, key _ _ _ zl z5⟩, by rw [← hkl]; exact key _ _ _ kl k5, Nat.lt_of_lt_of_le zl h.size, Nat.lt_of_lt_of_le kl h.size⟩
  have HK2 : Hid (∀ v' W, (v' = 1 ∨ v' = 2) → Below W1.heap.size W1 W → Calls Tryz.prog 71 #[tmVal z Az caz Bz cbz Kz ckz, .int .i64 v'] W fun e w' => e = .returned (.bool (totT z v')) ∧ Below W.heap.size W w') := Lib.hid fun v' W hv' hb =>
    ih z Az caz Bz cbz Kz ckz v' W SZ.out.2.2 (hatz.on hb) SZ.out.1 SZ.out.2.1 hv'
  clear x0 x1 x2 x3 x4 x5 xl px hatx y0 y1 y2 y3 y4 y5 yl py haty z0 z1 z2 z3 z4 z5 zl pz hatz
  have HR : Hid (totT t v = ((totT x v && totT z v) && totT y 2)) := Lib.hid (by rw [totT_eq]; unfold totK; rw [if_neg (by omega)]; rw [if_neg (by omega)]; rw [if_neg (by omega)]; rw [if_neg (by omega)]; rw [if_neg (by omega)]; rw [if_neg (by omega)]; rw [if_pos (by omega)]; rw [hks]; rfl)
  have kk20 : (t.kind == 20) = false := by rw [hk]; rfl
  have kk22 : (t.kind == 22) = false := by rw [hk]; rfl
  have kk27 : (t.kind == 27) = false := by rw [hk]; rfl
  have kk29 : (t.kind == 29) = false := by rw [hk]; rfl
  have kk31 : (t.kind == 31) = false := by rw [hk]; rfl
  have kk44 : (t.kind == 44) = false := by rw [hk]; rfl
  have kk45 : (t.kind == 45) = true := by rw [hk]; rfl
  rw [hkl] at k5
  clear hgd hwf hN hat ih hk hks hkl hv
  obtain ⟨⟨x0, x1, x2, x3, x4, x5⟩, kk5, xl, kkl⟩ := HCX.out W1 (Below.refl _ _)
  go_enter Tryz.func71, Tryz.ntmps71
  go_upto_region 1 with fail
  rw [← HW1.out]
  go_wp2_with fail
  clear k0 k1 k2 k3 k4 k5 kl
  refine (HK0.out v W1 HV.out (Below.refl _ _)).mono ?_
  rintro e w10 ⟨rfl, hb⟩
  have HB10 := Lib.hid (((Below.refl _ _)).then_ hb)
  clear hb
  clear x0 x1 x2 x3 x4 x5 kk5 xl kkl
  cases hc : totT x v
  · have HC := Lib.hid hc
    clear hc
    go_wp2_with fail
    go_ret
    exact ⟨by rw [HR.out, HC.out]; try rfl, H1.out.then_ (HB10.out)⟩
  · have HC := Lib.hid hc
    clear hc
    obtain ⟨⟨z0, z1, z2, z3, z4, z5⟩, kk5, zl, kkl⟩ := HCZ.out w10 HB10.out
    go_wp2_with fail
    refine (HK2.out v w10 HV.out HB10.out).mono ?_
    rintro e w11 ⟨rfl, hb⟩
    have HB11 := Lib.hid ((HB10.out).then_ hb)
    clear hb
    clear z0 z1 z2 z3 z4 z5 kk5 zl kkl
    cases hd : totT z v
    · have HD := Lib.hid hd
      clear hd
      go_wp2_with fail
      go_ret
      exact ⟨by rw [HR.out, HC.out, HD.out]; try rfl, H1.out.then_ (HB11.out)⟩
    · have HD := Lib.hid hd
      clear hd
      obtain ⟨⟨y0, y1, y2, y3, y4, y5⟩, kk5, yl, kkl⟩ := HCY.out w11 HB11.out
      go_wp2_with fail
      refine (HK1.out 2 w11 (.inr rfl) HB11.out).mono ?_
      rintro e w12 ⟨rfl, hb⟩
      have HB12 := Lib.hid ((HB11.out).then_ hb)
      clear hb
      clear y0 y1 y2 y3 y4 y5 kk5 yl kkl
      go_wp2_with fail
      go_ret
      exact ⟨by rw [HR.out, HC.out, HD.out, Bool.true_and, Bool.true_and]; try rfl, H1.out.then_ (HB12.out)⟩
set_option maxRecDepth 100000 in
set_option maxHeartbeats 16000000 in
theorem dtot_35 (N : Nat) (ih : DTotN N) (t : Tm) (A : Option Addr) (ca : Nat) (B : Option Addr) (cb : Nat) (K : Option Addr) (ck : Nat) (v : Int) (w : World) (hN : cnt t ≤ N + 1) (hat : TmAt w t A B K) (hwf : WfT t) (hgd : goodT false t = true) (hv : v = 1 ∨ v = 2) (hk : t.kind = 35) :
    Calls Tryz.prog 71 #[tmVal t A ca B cb K ck, .int .i64 v] w fun e w' => e = .returned (.bool (totT t v)) ∧ Below w.heap.size w w' := by
  obtain ⟨W1, hW1⟩ : ∃ W1, W1 = w.alloc (.cells (tmCells t A ca B cb K ck) TTm) := ⟨_, rfl⟩
  have hb1 : Below w.heap.size w W1 := by rw [hW1]; exact (Below.refl _ _).alloc (Nat.le_refl _) _
  have hx1 : W1.heap[w.heap.size]? = some (.cells (tmCells t A ca B cb K ck) TTm (0, 0)) := by rw [hW1]; exact heap_alloc_new w _
  have HW1 := Lib.hid hW1
  have H1 := Lib.hid hb1
  have HT := Lib.hid (And.intro (hat.on hb1) (And.intro hwf (And.intro hgd hN)))
  have HV := Lib.hid hv
  have IH := Lib.hid ih
  have KC : Hid (∀ W, Below W1.heap.size W1 W → W.cell? ⟨w.heap.size, 0, none⟩ = some (.int .i64 t.kind) ∧ W.cell? ⟨w.heap.size, 1, none⟩ = some (.string t.text) ∧ W.cell? ⟨w.heap.size, 2, none⟩ = some (.int .i64 t.n) ∧ W.cell? ⟨w.heap.size, 3, none⟩ = some (.slice A t.sh.length ca) ∧ W.cell? ⟨w.heap.size, 4, none⟩ = some (.slice B t.at_.length cb) ∧ W.cell? ⟨w.heap.size, 5, none⟩ = some (.slice K t.kids.length ck) ∧ w.heap.size < W.heap.size) := Lib.hid fun W h => by
    have hh := (h.block _ (heap_lt hx1)).trans hx1
    exact ⟨cell_at hh rfl, cell_at hh rfl, cell_at hh rfl, cell_at hh rfl, cell_at hh rfl, cell_at hh rfl, heap_lt hh⟩
  clear hW1 hx1 hb1
  obtain ⟨k0, k1, k2, k3, k4, k5, kl⟩ := KC.out W1 (Below.refl _ _)
  obtain ⟨x, y, hks, fx, fy⟩ := two_kids hgd (c := 118) (d := 118) (by rw [hk]; decide) (by omega) (by omega) (by omega)
  have hkl : t.kids.length = 2 := by rw [hks]; rfl
  obtain ⟨bk, ok, hKe, px⟩ := HT.out.1.kids.get (i := 0) (t := x) (by rw [hks]; rfl)
  rw [Nat.zero_add, Nat.zero_mul, Nat.add_zero] at px
  obtain ⟨b', o', hKe', py⟩ := HT.out.1.kids.get (i := 1) (t := y) (by rw [hks]; rfl)
  rw [hKe] at hKe'
  simp only [Option.some.injEq, Addr.mk.injEq, and_true] at hKe'
  obtain ⟨rfl, rfl⟩ := hKe'
  rw [Nat.zero_add] at py
  subst hKe
  have SX : Hid (WfT x ∧ goodT false x = true ∧ cnt x ≤ N) := Lib.hid ⟨hwf.node.each x (by rw [hks]; simp), good_sub hgd (by omega) (i := 0) (by rw [hks]; rfl), by have h1 := cnt_kid (t := t) (i := 0) (k := x) (by rw [hks]; rfl); omega⟩
  obtain ⟨Ax, cax, Bx, cbx, Kx, ckx, xl, x0, x1, x2, x3, x4, x5, hatx⟩ := px.cells
  have HCX : Hid (∀ W, Below W1.heap.size W1 W → (W.cell? ⟨bk, ok, none⟩ = some (.int .i64 x.kind) ∧ W.cell? ⟨bk, ok + 1, none⟩ = some (.string x.text) ∧ W.cell? ⟨bk, ok + 2, none⟩ = some (.int .i64 x.n) ∧ W.cell? ⟨bk, ok + 3, none⟩ = some (.slice Ax x.sh.length cax) ∧ W.cell? ⟨bk, ok + 4, none⟩ = some (.slice Bx x.at_.length cbx) ∧ W.cell? ⟨bk, ok + 5, none⟩ = some (.slice Kx x.kids.length ckx)) ∧ W.cell? ⟨w.heap.size, 5, none⟩ = some (.slice (some ⟨bk, ok, none⟩) 2 ck) ∧ bk < W.heap.size ∧ w.heap.size < W.heap.size) := Lib.hid fun W h => by
    have key : ∀ g j v, g < W1.heap.size → W1.cell? ⟨g, j, none⟩ = some v → W.cell? ⟨g, j, none⟩ = some v := fun g j v hg hv => (h.cell (p := ⟨g, j, none⟩) hg).trans hv
    exact ⟨⟨key _ _ _ xl x0, key _ _ _ xl x1, key _ _ _ xl x2, key _ _ _ xl x3, key _ _ _ xl x4, key _ _ _ xl x5⟩, by rw [← hkl]; exact key _ _ _ kl k5, Nat.lt_of_lt_of_le xl h.size, Nat.lt_of_lt_of_le kl h.size⟩
  have HK0 : Hid (∀ v' W, (v' = 1 ∨ v' = 2) → Below W1.heap.size W1 W → Calls Tryz.prog 71 #[tmVal x Ax cax Bx cbx Kx ckx, .int .i64 v'] W fun e w' => e = .returned (.bool (totT x v')) ∧ Below W.heap.size W w') := Lib.hid fun v' W hv' hb =>
    ih x Ax cax Bx cbx Kx ckx v' W SX.out.2.2 (hatx.on hb) SX.out.1 SX.out.2.1 hv'
  have SY : Hid (WfT y ∧ goodT false y = true ∧ cnt y ≤ N) := Lib.hid ⟨hwf.node.each y (by rw [hks]; simp), good_sub hgd (by omega) (i := 1) (by rw [hks]; rfl), by have h1 := cnt_kid (t := t) (i := 1) (k := y) (by rw [hks]; rfl); omega⟩
  obtain ⟨Ay, cay, By, cby, Ky, cky, yl, y0, y1, y2, y3, y4, y5, haty⟩ := py.cells
  have Cy : W1.cell? ⟨bk, ok + 1 * 6, none⟩ = some (.int .i64 y.kind) ∧ W1.cell? ⟨bk, ok + 1 * 6 + 1, none⟩ = some (.string y.text) ∧ W1.cell? ⟨bk, ok + 1 * 6 + 2, none⟩ = some (.int .i64 y.n) ∧ W1.cell? ⟨bk, ok + 1 * 6 + 3, none⟩ = some (.slice Ay y.sh.length cay) ∧ W1.cell? ⟨bk, ok + 1 * 6 + 4, none⟩ = some (.slice By y.at_.length cby) ∧ W1.cell? ⟨bk, ok + 1 * 6 + 5, none⟩ = some (.slice Ky y.kids.length cky) := ⟨y0, y1, y2, y3, y4, y5⟩
  clear y0 y1 y2 y3 y4 y5
  obtain ⟨y0, y1, y2, y3, y4, y5⟩ : W1.cell? ⟨bk, (ok + 6), none⟩ = some (.int .i64 y.kind) ∧ W1.cell? ⟨bk, (ok + 6) + 1, none⟩ = some (.string y.text) ∧ W1.cell? ⟨bk, (ok + 6) + 2, none⟩ = some (.int .i64 y.n) ∧ W1.cell? ⟨bk, (ok + 6) + 3, none⟩ = some (.slice Ay y.sh.length cay) ∧ W1.cell? ⟨bk, (ok + 6) + 4, none⟩ = some (.slice By y.at_.length cby) ∧ W1.cell? ⟨bk, (ok + 6) + 5, none⟩ = some (.slice Ky y.kids.length cky) := Cy
  have HCY : Hid (∀ W, Below W1.heap.size W1 W → (W.cell? ⟨bk, (ok + 6), none⟩ = some (.int .i64 y.kind) ∧ W.cell? ⟨bk, (ok + 6) + 1, none⟩ = some (.string y.text) ∧ W.cell? ⟨bk, (ok + 6) + 2, none⟩ = some (.int .i64 y.n) ∧ W.cell? ⟨bk, (ok + 6) + 3, none⟩ = some (.slice Ay y.sh.length cay) ∧ W.cell? ⟨bk, (ok + 6) + 4, none⟩ = some (.slice By y.at_.length cby) ∧ W.cell? ⟨bk, (ok + 6) + 5, none⟩ = some (.slice Ky y.kids.length cky)) ∧ W.cell? ⟨w.heap.size, 5, none⟩ = some (.slice (some ⟨bk, ok, none⟩) 2 ck) ∧ bk < W.heap.size ∧ w.heap.size < W.heap.size) := Lib.hid fun W h => by
    have key : ∀ g j v, g < W1.heap.size → W1.cell? ⟨g, j, none⟩ = some v → W.cell? ⟨g, j, none⟩ = some v := fun g j v hg hv => (h.cell (p := ⟨g, j, none⟩) hg).trans hv
    exact ⟨⟨key _ _ _ yl y0, key _ _ _ yl y1, key _ _ _ yl y2, key _ _ _ yl y3, key _ _ _ yl y4, key _ _ _ yl y5⟩, by rw [← hkl]; exact key _ _ _ kl k5, Nat.lt_of_lt_of_le yl h.size, Nat.lt_of_lt_of_le kl h.size⟩
  have HK1 : Hid (∀ v' W, (v' = 1 ∨ v' = 2) → Below W1.heap.size W1 W → Calls Tryz.prog 71 #[tmVal y Ay cay By cby Ky cky, .int .i64 v'] W fun e w' => e = .returned (.bool (totT y v')) ∧ Below W.heap.size W w') := Lib.hid fun v' W hv' hb =>
    ih y Ay cay By cby Ky cky v' W SY.out.2.2 (haty.on hb) SY.out.1 SY.out.2.1 hv'
  clear x0 x1 x2 x3 x4 x5 xl px hatx y0 y1 y2 y3 y4 y5 yl py haty
  have HR : Hid (totT t v = (totT x v || totT y v)) := Lib.hid (by rw [totT_eq]; unfold totK; rw [if_neg (by omega)]; rw [if_neg (by omega)]; rw [if_neg (by omega)]; rw [if_neg (by omega)]; rw [if_neg (by omega)]; rw [if_neg (by omega)]; rw [if_neg (by omega)]; rw [if_neg (by omega)]; rw [if_neg (by omega)]; rw [if_pos (by omega)]; rw [hks]; rfl)
  have kk20 : (t.kind == 20) = false := by rw [hk]; rfl
  have kk22 : (t.kind == 22) = false := by rw [hk]; rfl
  have kk27 : (t.kind == 27) = false := by rw [hk]; rfl
  have kk29 : (t.kind == 29) = false := by rw [hk]; rfl
  have kk31 : (t.kind == 31) = false := by rw [hk]; rfl
  have kk44 : (t.kind == 44) = false := by rw [hk]; rfl
  have kk45 : (t.kind == 45) = false := by rw [hk]; rfl
  have kk46 : (t.kind == 46) = false := by rw [hk]; rfl
  have kk42 : (t.kind == 42) = false := by rw [hk]; rfl
  have kk41 : (t.kind == 41) = false := by rw [hk]; rfl
  have kk35 : (t.kind == 35) = true := by rw [hk]; rfl
  rw [hkl] at k5
  clear hgd hwf hN hat ih hk hks hkl hv fx fy
  obtain ⟨⟨x0, x1, x2, x3, x4, x5⟩, kk5, xl, kkl⟩ := HCX.out W1 (Below.refl _ _)
  go_enter Tryz.func71, Tryz.ntmps71
  go_upto_region 1 with fail
  rw [← HW1.out]
  go_wp2_with fail
  clear k0 k1 k2 k3 k4 k5 kl
  refine (HK0.out v W1 HV.out (Below.refl _ _)).mono ?_
  rintro e w13 ⟨rfl, hb⟩
  have HB13 := Lib.hid (((Below.refl _ _)).then_ hb)
  clear hb
  clear x0 x1 x2 x3 x4 x5 kk5 xl kkl
  cases hc : totT x v
  · have HC := Lib.hid hc
    clear hc
    obtain ⟨⟨y0, y1, y2, y3, y4, y5⟩, kk5, yl, kkl⟩ := HCY.out w13 HB13.out
    go_wp2_with fail
    refine (HK1.out v w13 HV.out HB13.out).mono ?_
    rintro e w14 ⟨rfl, hb⟩
    have HB14 := Lib.hid ((HB13.out).then_ hb)
    clear hb
    clear y0 y1 y2 y3 y4 y5 kk5 yl kkl
    go_wp2_with fail
    go_ret
    exact ⟨by rw [HR.out, HC.out, Bool.false_or]; try rfl, H1.out.then_ (HB14.out)⟩
  · have HC := Lib.hid hc
    clear hc
    go_wp2_with fail
    go_ret
    exact ⟨by rw [HR.out, HC.out]; try rfl, H1.out.then_ (HB13.out)⟩
set_option maxRecDepth 100000 in
set_option maxHeartbeats 16000000 in
theorem dtot_36 (N : Nat) (ih : DTotN N) (t : Tm) (A : Option Addr) (ca : Nat) (B : Option Addr) (cb : Nat) (K : Option Addr) (ck : Nat) (v : Int) (w : World) (hN : cnt t ≤ N + 1) (hat : TmAt w t A B K) (hwf : WfT t) (hgd : goodT false t = true) (hv : v = 1 ∨ v = 2) (hk : t.kind = 36) :
    Calls Tryz.prog 71 #[tmVal t A ca B cb K ck, .int .i64 v] w fun e w' => e = .returned (.bool (totT t v)) ∧ Below w.heap.size w w' := by
  obtain ⟨W1, hW1⟩ : ∃ W1, W1 = w.alloc (.cells (tmCells t A ca B cb K ck) TTm) := ⟨_, rfl⟩
  have hb1 : Below w.heap.size w W1 := by rw [hW1]; exact (Below.refl _ _).alloc (Nat.le_refl _) _
  have hx1 : W1.heap[w.heap.size]? = some (.cells (tmCells t A ca B cb K ck) TTm (0, 0)) := by rw [hW1]; exact heap_alloc_new w _
  have HW1 := Lib.hid hW1
  have H1 := Lib.hid hb1
  have HT := Lib.hid (And.intro (hat.on hb1) (And.intro hwf (And.intro hgd hN)))
  have HV := Lib.hid hv
  have IH := Lib.hid ih
  have KC : Hid (∀ W, Below W1.heap.size W1 W → W.cell? ⟨w.heap.size, 0, none⟩ = some (.int .i64 t.kind) ∧ W.cell? ⟨w.heap.size, 1, none⟩ = some (.string t.text) ∧ W.cell? ⟨w.heap.size, 2, none⟩ = some (.int .i64 t.n) ∧ W.cell? ⟨w.heap.size, 3, none⟩ = some (.slice A t.sh.length ca) ∧ W.cell? ⟨w.heap.size, 4, none⟩ = some (.slice B t.at_.length cb) ∧ W.cell? ⟨w.heap.size, 5, none⟩ = some (.slice K t.kids.length ck) ∧ w.heap.size < W.heap.size) := Lib.hid fun W h => by
    have hh := (h.block _ (heap_lt hx1)).trans hx1
    exact ⟨cell_at hh rfl, cell_at hh rfl, cell_at hh rfl, cell_at hh rfl, cell_at hh rfl, cell_at hh rfl, heap_lt hh⟩
  clear hW1 hx1 hb1
  obtain ⟨k0, k1, k2, k3, k4, k5, kl⟩ := KC.out W1 (Below.refl _ _)
  obtain ⟨x, y, hks, fx, fy⟩ := two_kids hgd (c := 118) (d := 118) (by rw [hk]; decide) (by omega) (by omega) (by omega)
  have hkl : t.kids.length = 2 := by rw [hks]; rfl
  obtain ⟨bk, ok, hKe, px⟩ := HT.out.1.kids.get (i := 0) (t := x) (by rw [hks]; rfl)
  rw [Nat.zero_add, Nat.zero_mul, Nat.add_zero] at px
  obtain ⟨b', o', hKe', py⟩ := HT.out.1.kids.get (i := 1) (t := y) (by rw [hks]; rfl)
  rw [hKe] at hKe'
  simp only [Option.some.injEq, Addr.mk.injEq, and_true] at hKe'
  obtain ⟨rfl, rfl⟩ := hKe'
  rw [Nat.zero_add] at py
  subst hKe
  have SX : Hid (WfT x ∧ goodT false x = true ∧ cnt x ≤ N) := Lib.hid ⟨hwf.node.each x (by rw [hks]; simp), good_sub hgd (by omega) (i := 0) (by rw [hks]; rfl), by have h1 := cnt_kid (t := t) (i := 0) (k := x) (by rw [hks]; rfl); omega⟩
  obtain ⟨Ax, cax, Bx, cbx, Kx, ckx, xl, x0, x1, x2, x3, x4, x5, hatx⟩ := px.cells
  have HCX : Hid (∀ W, Below W1.heap.size W1 W → (W.cell? ⟨bk, ok, none⟩ = some (.int .i64 x.kind) ∧ W.cell? ⟨bk, ok + 1, none⟩ = some (.string x.text) ∧ W.cell? ⟨bk, ok + 2, none⟩ = some (.int .i64 x.n) ∧ W.cell? ⟨bk, ok + 3, none⟩ = some (.slice Ax x.sh.length cax) ∧ W.cell? ⟨bk, ok + 4, none⟩ = some (.slice Bx x.at_.length cbx) ∧ W.cell? ⟨bk, ok + 5, none⟩ = some (.slice Kx x.kids.length ckx)) ∧ W.cell? ⟨w.heap.size, 5, none⟩ = some (.slice (some ⟨bk, ok, none⟩) 2 ck) ∧ bk < W.heap.size ∧ w.heap.size < W.heap.size) := Lib.hid fun W h => by
    have key : ∀ g j v, g < W1.heap.size → W1.cell? ⟨g, j, none⟩ = some v → W.cell? ⟨g, j, none⟩ = some v := fun g j v hg hv => (h.cell (p := ⟨g, j, none⟩) hg).trans hv
    exact ⟨⟨key _ _ _ xl x0, key _ _ _ xl x1, key _ _ _ xl x2, key _ _ _ xl x3, key _ _ _ xl x4, key _ _ _ xl x5⟩, by rw [← hkl]; exact key _ _ _ kl k5, Nat.lt_of_lt_of_le xl h.size, Nat.lt_of_lt_of_le kl h.size⟩
  have HK0 : Hid (∀ v' W, (v' = 1 ∨ v' = 2) → Below W1.heap.size W1 W → Calls Tryz.prog 71 #[tmVal x Ax cax Bx cbx Kx ckx, .int .i64 v'] W fun e w' => e = .returned (.bool (totT x v')) ∧ Below W.heap.size W w') := Lib.hid fun v' W hv' hb =>
    ih x Ax cax Bx cbx Kx ckx v' W SX.out.2.2 (hatx.on hb) SX.out.1 SX.out.2.1 hv'
  have SY : Hid (WfT y ∧ goodT false y = true ∧ cnt y ≤ N) := Lib.hid ⟨hwf.node.each y (by rw [hks]; simp), good_sub hgd (by omega) (i := 1) (by rw [hks]; rfl), by have h1 := cnt_kid (t := t) (i := 1) (k := y) (by rw [hks]; rfl); omega⟩
  obtain ⟨Ay, cay, By, cby, Ky, cky, yl, y0, y1, y2, y3, y4, y5, haty⟩ := py.cells
  have Cy : W1.cell? ⟨bk, ok + 1 * 6, none⟩ = some (.int .i64 y.kind) ∧ W1.cell? ⟨bk, ok + 1 * 6 + 1, none⟩ = some (.string y.text) ∧ W1.cell? ⟨bk, ok + 1 * 6 + 2, none⟩ = some (.int .i64 y.n) ∧ W1.cell? ⟨bk, ok + 1 * 6 + 3, none⟩ = some (.slice Ay y.sh.length cay) ∧ W1.cell? ⟨bk, ok + 1 * 6 + 4, none⟩ = some (.slice By y.at_.length cby) ∧ W1.cell? ⟨bk, ok + 1 * 6 + 5, none⟩ = some (.slice Ky y.kids.length cky) := ⟨y0, y1, y2, y3, y4, y5⟩
  clear y0 y1 y2 y3 y4 y5
  obtain ⟨y0, y1, y2, y3, y4, y5⟩ : W1.cell? ⟨bk, (ok + 6), none⟩ = some (.int .i64 y.kind) ∧ W1.cell? ⟨bk, (ok + 6) + 1, none⟩ = some (.string y.text) ∧ W1.cell? ⟨bk, (ok + 6) + 2, none⟩ = some (.int .i64 y.n) ∧ W1.cell? ⟨bk, (ok + 6) + 3, none⟩ = some (.slice Ay y.sh.length cay) ∧ W1.cell? ⟨bk, (ok + 6) + 4, none⟩ = some (.slice By y.at_.length cby) ∧ W1.cell? ⟨bk, (ok + 6) + 5, none⟩ = some (.slice Ky y.kids.length cky) := Cy
  have HCY : Hid (∀ W, Below W1.heap.size W1 W → (W.cell? ⟨bk, (ok + 6), none⟩ = some (.int .i64 y.kind) ∧ W.cell? ⟨bk, (ok + 6) + 1, none⟩ = some (.string y.text) ∧ W.cell? ⟨bk, (ok + 6) + 2, none⟩ = some (.int .i64 y.n) ∧ W.cell? ⟨bk, (ok + 6) + 3, none⟩ = some (.slice Ay y.sh.length cay) ∧ W.cell? ⟨bk, (ok + 6) + 4, none⟩ = some (.slice By y.at_.length cby) ∧ W.cell? ⟨bk, (ok + 6) + 5, none⟩ = some (.slice Ky y.kids.length cky)) ∧ W.cell? ⟨w.heap.size, 5, none⟩ = some (.slice (some ⟨bk, ok, none⟩) 2 ck) ∧ bk < W.heap.size ∧ w.heap.size < W.heap.size) := Lib.hid fun W h => by
    have key : ∀ g j v, g < W1.heap.size → W1.cell? ⟨g, j, none⟩ = some v → W.cell? ⟨g, j, none⟩ = some v := fun g j v hg hv => (h.cell (p := ⟨g, j, none⟩) hg).trans hv
    exact ⟨⟨key _ _ _ yl y0, key _ _ _ yl y1, key _ _ _ yl y2, key _ _ _ yl y3, key _ _ _ yl y4, key _ _ _ yl y5⟩, by rw [← hkl]; exact key _ _ _ kl k5, Nat.lt_of_lt_of_le yl h.size, Nat.lt_of_lt_of_le kl h.size⟩
  have HK1 : Hid (∀ v' W, (v' = 1 ∨ v' = 2) → Below W1.heap.size W1 W → Calls Tryz.prog 71 #[tmVal y Ay cay By cby Ky cky, .int .i64 v'] W fun e w' => e = .returned (.bool (totT y v')) ∧ Below W.heap.size W w') := Lib.hid fun v' W hv' hb =>
    ih y Ay cay By cby Ky cky v' W SY.out.2.2 (haty.on hb) SY.out.1 SY.out.2.1 hv'
  clear x0 x1 x2 x3 x4 x5 xl px hatx y0 y1 y2 y3 y4 y5 yl py haty
  have HR : Hid (totT t v = totT x v) := Lib.hid (by rw [totT_eq]; unfold totK; rw [if_neg (by omega)]; rw [if_neg (by omega)]; rw [if_neg (by omega)]; rw [if_neg (by omega)]; rw [if_neg (by omega)]; rw [if_neg (by omega)]; rw [if_neg (by omega)]; rw [if_neg (by omega)]; rw [if_neg (by omega)]; rw [if_neg (by omega)]; rw [if_pos (by omega)]; rw [hks]; rfl)
  have kk20 : (t.kind == 20) = false := by rw [hk]; rfl
  have kk22 : (t.kind == 22) = false := by rw [hk]; rfl
  have kk27 : (t.kind == 27) = false := by rw [hk]; rfl
  have kk29 : (t.kind == 29) = false := by rw [hk]; rfl
  have kk31 : (t.kind == 31) = false := by rw [hk]; rfl
  have kk44 : (t.kind == 44) = false := by rw [hk]; rfl
  have kk45 : (t.kind == 45) = false := by rw [hk]; rfl
  have kk46 : (t.kind == 46) = false := by rw [hk]; rfl
  have kk42 : (t.kind == 42) = false := by rw [hk]; rfl
  have kk41 : (t.kind == 41) = false := by rw [hk]; rfl
  have kk35 : (t.kind == 35) = false := by rw [hk]; rfl
  have kk36 : (t.kind == 36) = true := by rw [hk]; rfl
  rw [hkl] at k5
  clear hgd hwf hN hat ih hk hks hkl hv fx fy
  obtain ⟨⟨x0, x1, x2, x3, x4, x5⟩, kk5, xl, kkl⟩ := HCX.out W1 (Below.refl _ _)
  go_enter Tryz.func71, Tryz.ntmps71
  go_upto_region 1 with fail
  rw [← HW1.out]
  go_wp2_with fail
  clear k0 k1 k2 k3 k4 k5 kl
  refine (HK0.out v W1 HV.out (Below.refl _ _)).mono ?_
  rintro e w15 ⟨rfl, hb⟩
  have HB15 := Lib.hid (((Below.refl _ _)).then_ hb)
  clear hb
  clear x0 x1 x2 x3 x4 x5 kk5 xl kkl
  go_wp2_with fail
  go_ret
  exact ⟨by rw [HR.out]; try rfl, H1.out.then_ (HB15.out)⟩
set_option maxRecDepth 100000 in
set_option maxHeartbeats 16000000 in
theorem dtot_37 (N : Nat) (ih : DTotN N) (t : Tm) (A : Option Addr) (ca : Nat) (B : Option Addr) (cb : Nat) (K : Option Addr) (ck : Nat) (v : Int) (w : World) (hN : cnt t ≤ N + 1) (hat : TmAt w t A B K) (hwf : WfT t) (hgd : goodT false t = true) (hv : v = 1 ∨ v = 2) (hk : t.kind = 37) :
    Calls Tryz.prog 71 #[tmVal t A ca B cb K ck, .int .i64 v] w fun e w' => e = .returned (.bool (totT t v)) ∧ Below w.heap.size w w' := by
  obtain ⟨W1, hW1⟩ : ∃ W1, W1 = w.alloc (.cells (tmCells t A ca B cb K ck) TTm) := ⟨_, rfl⟩
  have hb1 : Below w.heap.size w W1 := by rw [hW1]; exact (Below.refl _ _).alloc (Nat.le_refl _) _
  have hx1 : W1.heap[w.heap.size]? = some (.cells (tmCells t A ca B cb K ck) TTm (0, 0)) := by rw [hW1]; exact heap_alloc_new w _
  have HW1 := Lib.hid hW1
  have H1 := Lib.hid hb1
  have HT := Lib.hid (And.intro (hat.on hb1) (And.intro hwf (And.intro hgd hN)))
  have HV := Lib.hid hv
  have IH := Lib.hid ih
  have KC : Hid (∀ W, Below W1.heap.size W1 W → W.cell? ⟨w.heap.size, 0, none⟩ = some (.int .i64 t.kind) ∧ W.cell? ⟨w.heap.size, 1, none⟩ = some (.string t.text) ∧ W.cell? ⟨w.heap.size, 2, none⟩ = some (.int .i64 t.n) ∧ W.cell? ⟨w.heap.size, 3, none⟩ = some (.slice A t.sh.length ca) ∧ W.cell? ⟨w.heap.size, 4, none⟩ = some (.slice B t.at_.length cb) ∧ W.cell? ⟨w.heap.size, 5, none⟩ = some (.slice K t.kids.length ck) ∧ w.heap.size < W.heap.size) := Lib.hid fun W h => by
    have hh := (h.block _ (heap_lt hx1)).trans hx1
    exact ⟨cell_at hh rfl, cell_at hh rfl, cell_at hh rfl, cell_at hh rfl, cell_at hh rfl, cell_at hh rfl, heap_lt hh⟩
  clear hW1 hx1 hb1
  obtain ⟨k0, k1, k2, k3, k4, k5, kl⟩ := KC.out W1 (Below.refl _ _)
  obtain ⟨x, y, hks, fx, fy⟩ := two_kids hgd (c := 118) (d := 118) (by rw [hk]; decide) (by omega) (by omega) (by omega)
  have hkl : t.kids.length = 2 := by rw [hks]; rfl
  obtain ⟨bk, ok, hKe, px⟩ := HT.out.1.kids.get (i := 0) (t := x) (by rw [hks]; rfl)
  rw [Nat.zero_add, Nat.zero_mul, Nat.add_zero] at px
  obtain ⟨b', o', hKe', py⟩ := HT.out.1.kids.get (i := 1) (t := y) (by rw [hks]; rfl)
  rw [hKe] at hKe'
  simp only [Option.some.injEq, Addr.mk.injEq, and_true] at hKe'
  obtain ⟨rfl, rfl⟩ := hKe'
  rw [Nat.zero_add] at py
  subst hKe
  have SX : Hid (WfT x ∧ goodT false x = true ∧ cnt x ≤ N) := Lib.hid ⟨hwf.node.each x (by rw [hks]; simp), good_sub hgd (by omega) (i := 0) (by rw [hks]; rfl), by have h1 := cnt_kid (t := t) (i := 0) (k := x) (by rw [hks]; rfl); omega⟩
  obtain ⟨Ax, cax, Bx, cbx, Kx, ckx, xl, x0, x1, x2, x3, x4, x5, hatx⟩ := px.cells
  have HCX : Hid (∀ W, Below W1.heap.size W1 W → (W.cell? ⟨bk, ok, none⟩ = some (.int .i64 x.kind) ∧ W.cell? ⟨bk, ok + 1, none⟩ = some (.string x.text) ∧ W.cell? ⟨bk, ok + 2, none⟩ = some (.int .i64 x.n) ∧ W.cell? ⟨bk, ok + 3, none⟩ = some (.slice Ax x.sh.length cax) ∧ W.cell? ⟨bk, ok + 4, none⟩ = some (.slice Bx x.at_.length cbx) ∧ W.cell? ⟨bk, ok + 5, none⟩ = some (.slice Kx x.kids.length ckx)) ∧ W.cell? ⟨w.heap.size, 5, none⟩ = some (.slice (some ⟨bk, ok, none⟩) 2 ck) ∧ bk < W.heap.size ∧ w.heap.size < W.heap.size) := Lib.hid fun W h => by
    have key : ∀ g j v, g < W1.heap.size → W1.cell? ⟨g, j, none⟩ = some v → W.cell? ⟨g, j, none⟩ = some v := fun g j v hg hv => (h.cell (p := ⟨g, j, none⟩) hg).trans hv
    exact ⟨⟨key _ _ _ xl x0, key _ _ _ xl x1, key _ _ _ xl x2, key _ _ _ xl x3, key _ _ _ xl x4, key _ _ _ xl x5⟩, by rw [← hkl]; exact key _ _ _ kl k5, Nat.lt_of_lt_of_le xl h.size, Nat.lt_of_lt_of_le kl h.size⟩
  have HK0 : Hid (∀ v' W, (v' = 1 ∨ v' = 2) → Below W1.heap.size W1 W → Calls Tryz.prog 71 #[tmVal x Ax cax Bx cbx Kx ckx, .int .i64 v'] W fun e w' => e = .returned (.bool (totT x v')) ∧ Below W.heap.size W w') := Lib.hid fun v' W hv' hb =>
    ih x Ax cax Bx cbx Kx ckx v' W SX.out.2.2 (hatx.on hb) SX.out.1 SX.out.2.1 hv'
  have SY : Hid (WfT y ∧ goodT false y = true ∧ cnt y ≤ N) := Lib.hid ⟨hwf.node.each y (by rw [hks]; simp), good_sub hgd (by omega) (i := 1) (by rw [hks]; rfl), by have h1 := cnt_kid (t := t) (i := 1) (k := y) (by rw [hks]; rfl); omega⟩
  obtain ⟨Ay, cay, By, cby, Ky, cky, yl, y0, y1, y2, y3, y4, y5, haty⟩ := py.cells
  have Cy : W1.cell? ⟨bk, ok + 1 * 6, none⟩ = some (.int .i64 y.kind) ∧ W1.cell? ⟨bk, ok + 1 * 6 + 1, none⟩ = some (.string y.text) ∧ W1.cell? ⟨bk, ok + 1 * 6 + 2, none⟩ = some (.int .i64 y.n) ∧ W1.cell? ⟨bk, ok + 1 * 6 + 3, none⟩ = some (.slice Ay y.sh.length cay) ∧ W1.cell? ⟨bk, ok + 1 * 6 + 4, none⟩ = some (.slice By y.at_.length cby) ∧ W1.cell? ⟨bk, ok + 1 * 6 + 5, none⟩ = some (.slice Ky y.kids.length cky) := ⟨y0, y1, y2, y3, y4, y5⟩
  clear y0 y1 y2 y3 y4 y5
  obtain ⟨y0, y1, y2, y3, y4, y5⟩ : W1.cell? ⟨bk, (ok + 6), none⟩ = some (.int .i64 y.kind) ∧ W1.cell? ⟨bk, (ok + 6) + 1, none⟩ = some (.string y.text) ∧ W1.cell? ⟨bk, (ok + 6) + 2, none⟩ = some (.int .i64 y.n) ∧ W1.cell? ⟨bk, (ok + 6) + 3, none⟩ = some (.slice Ay y.sh.length cay) ∧ W1.cell? ⟨bk, (ok + 6) + 4, none⟩ = some (.slice By y.at_.length cby) ∧ W1.cell? ⟨bk, (ok + 6) + 5, none⟩ = some (.slice Ky y.kids.length cky) := Cy
  have HCY : Hid (∀ W, Below W1.heap.size W1 W → (W.cell? ⟨bk, (ok + 6), none⟩ = some (.int .i64 y.kind) ∧ W.cell? ⟨bk, (ok + 6) + 1, none⟩ = some (.string y.text) ∧ W.cell? ⟨bk, (ok + 6) + 2, none⟩ = some (.int .i64 y.n) ∧ W.cell? ⟨bk, (ok + 6) + 3, none⟩ = some (.slice Ay y.sh.length cay) ∧ W.cell? ⟨bk, (ok + 6) + 4, none⟩ = some (.slice By y.at_.length cby) ∧ W.cell? ⟨bk, (ok + 6) + 5, none⟩ = some (.slice Ky y.kids.length cky)) ∧ W.cell? ⟨w.heap.size, 5, none⟩ = some (.slice (some ⟨bk, ok, none⟩) 2 ck) ∧ bk < W.heap.size ∧ w.heap.size < W.heap.size) := Lib.hid fun W h => by
    have key : ∀ g j v, g < W1.heap.size → W1.cell? ⟨g, j, none⟩ = some v → W.cell? ⟨g, j, none⟩ = some v := fun g j v hg hv => (h.cell (p := ⟨g, j, none⟩) hg).trans hv
    exact ⟨⟨key _ _ _ yl y0, key _ _ _ yl y1, key _ _ _ yl y2, key _ _ _ yl y3, key _ _ _ yl y4, key _ _ _ yl y5⟩, by rw [← hkl]; exact key _ _ _ kl k5, Nat.lt_of_lt_of_le yl h.size, Nat.lt_of_lt_of_le kl h.size⟩
  have HK1 : Hid (∀ v' W, (v' = 1 ∨ v' = 2) → Below W1.heap.size W1 W → Calls Tryz.prog 71 #[tmVal y Ay cay By cby Ky cky, .int .i64 v'] W fun e w' => e = .returned (.bool (totT y v')) ∧ Below W.heap.size W w') := Lib.hid fun v' W hv' hb =>
    ih y Ay cay By cby Ky cky v' W SY.out.2.2 (haty.on hb) SY.out.1 SY.out.2.1 hv'
  clear x0 x1 x2 x3 x4 x5 xl px hatx y0 y1 y2 y3 y4 y5 yl py haty
  have HR : Hid (totT t v = if v = 1 then totT x v else totT y v) := Lib.hid (by rw [totT_eq]; unfold totK; rw [if_neg (by omega)]; rw [if_neg (by omega)]; rw [if_neg (by omega)]; rw [if_neg (by omega)]; rw [if_neg (by omega)]; rw [if_neg (by omega)]; rw [if_neg (by omega)]; rw [if_neg (by omega)]; rw [if_neg (by omega)]; rw [if_neg (by omega)]; rw [if_neg (by omega)]; rw [if_pos (by omega)]; rw [hks]; rfl)
  have kk20 : (t.kind == 20) = false := by rw [hk]; rfl
  have kk22 : (t.kind == 22) = false := by rw [hk]; rfl
  have kk27 : (t.kind == 27) = false := by rw [hk]; rfl
  have kk29 : (t.kind == 29) = false := by rw [hk]; rfl
  have kk31 : (t.kind == 31) = false := by rw [hk]; rfl
  have kk44 : (t.kind == 44) = false := by rw [hk]; rfl
  have kk45 : (t.kind == 45) = false := by rw [hk]; rfl
  have kk46 : (t.kind == 46) = false := by rw [hk]; rfl
  have kk42 : (t.kind == 42) = false := by rw [hk]; rfl
  have kk41 : (t.kind == 41) = false := by rw [hk]; rfl
  have kk35 : (t.kind == 35) = false := by rw [hk]; rfl
  have kk36 : (t.kind == 36) = false := by rw [hk]; rfl
  have kk37 : (t.kind == 37) = true := by rw [hk]; rfl
  rw [hkl] at k5
  clear hgd hwf hN hat ih hk hks hkl hv fx fy
  rcases HV.out with rfl | rfl
  · obtain ⟨⟨x0, x1, x2, x3, x4, x5⟩, kk5, xl, kkl⟩ := HCX.out W1 (Below.refl _ _)
    go_enter Tryz.func71, Tryz.ntmps71
    go_upto_region 1 with fail
    rw [← HW1.out]
    go_wp2_with fail
    clear k0 k1 k2 k3 k4 k5 kl
    refine (HK0.out 1 W1 (.inl rfl) (Below.refl _ _)).mono ?_
    rintro e w16 ⟨rfl, hb⟩
    have HB16 := Lib.hid (((Below.refl _ _)).then_ hb)
    clear hb
    clear x0 x1 x2 x3 x4 x5 kk5 xl kkl
    go_wp2_with fail
    go_ret
    exact ⟨by rw [HR.out]; try rfl, H1.out.then_ (HB16.out)⟩
  · obtain ⟨⟨y0, y1, y2, y3, y4, y5⟩, kk5, yl, kkl⟩ := HCY.out W1 (Below.refl _ _)
    go_enter Tryz.func71, Tryz.ntmps71
    go_upto_region 1 with fail
    rw [← HW1.out]
    go_wp2_with fail
    clear k0 k1 k2 k3 k4 k5 kl
    refine (HK1.out 2 W1 (.inr rfl) (Below.refl _ _)).mono ?_
    rintro e w17 ⟨rfl, hb⟩
    have HB17 := Lib.hid (((Below.refl _ _)).then_ hb)
    clear hb
    clear y0 y1 y2 y3 y4 y5 kk5 yl kkl
    go_wp2_with fail
    go_ret
    exact ⟨by rw [HR.out]; try rfl, H1.out.then_ (HB17.out)⟩
set_option maxRecDepth 100000 in
set_option maxHeartbeats 16000000 in
theorem dtot_no (N : Nat) (ih : DTotN N) (t : Tm) (A : Option Addr) (ca : Nat) (B : Option Addr) (cb : Nat) (K : Option Addr) (ck : Nat) (v : Int) (w : World) (hN : cnt t ≤ N + 1) (hat : TmAt w t A B K) (hwf : WfT t) (hgd : goodT false t = true) (hv : v = 1 ∨ v = 2) (hk : ¬ t.kind = 20 ∧ ¬ t.kind = 22 ∧ ¬ t.kind = 27 ∧ ¬ t.kind = 29 ∧ ¬ t.kind = 31 ∧ ¬ t.kind = 44 ∧ ¬ t.kind = 45 ∧ ¬ t.kind = 46 ∧ ¬ t.kind = 42 ∧ ¬ t.kind = 41 ∧ ¬ t.kind = 35 ∧ ¬ t.kind = 36 ∧ ¬ t.kind = 37) :
    Calls Tryz.prog 71 #[tmVal t A ca B cb K ck, .int .i64 v] w fun e w' => e = .returned (.bool (totT t v)) ∧ Below w.heap.size w w' := by
  obtain ⟨W1, hW1⟩ : ∃ W1, W1 = w.alloc (.cells (tmCells t A ca B cb K ck) TTm) := ⟨_, rfl⟩
  have hb1 : Below w.heap.size w W1 := by rw [hW1]; exact (Below.refl _ _).alloc (Nat.le_refl _) _
  have hx1 : W1.heap[w.heap.size]? = some (.cells (tmCells t A ca B cb K ck) TTm (0, 0)) := by rw [hW1]; exact heap_alloc_new w _
  have HW1 := Lib.hid hW1
  have H1 := Lib.hid hb1
  have HT := Lib.hid (And.intro (hat.on hb1) (And.intro hwf (And.intro hgd hN)))
  have HV := Lib.hid hv
  have IH := Lib.hid ih
  have KC : Hid (∀ W, Below W1.heap.size W1 W → W.cell? ⟨w.heap.size, 0, none⟩ = some (.int .i64 t.kind) ∧ W.cell? ⟨w.heap.size, 1, none⟩ = some (.string t.text) ∧ W.cell? ⟨w.heap.size, 2, none⟩ = some (.int .i64 t.n) ∧ W.cell? ⟨w.heap.size, 3, none⟩ = some (.slice A t.sh.length ca) ∧ W.cell? ⟨w.heap.size, 4, none⟩ = some (.slice B t.at_.length cb) ∧ W.cell? ⟨w.heap.size, 5, none⟩ = some (.slice K t.kids.length ck) ∧ w.heap.size < W.heap.size) := Lib.hid fun W h => by
    have hh := (h.block _ (heap_lt hx1)).trans hx1
    exact ⟨cell_at hh rfl, cell_at hh rfl, cell_at hh rfl, cell_at hh rfl, cell_at hh rfl, cell_at hh rfl, heap_lt hh⟩
  clear hW1 hx1 hb1
  obtain ⟨k0, k1, k2, k3, k4, k5, kl⟩ := KC.out W1 (Below.refl _ _)
  obtain ⟨g20, g22, g27, g29, g31, g44, g45, g46, g42, g41, g35, g36, g37⟩ := hk
  have HR : Hid (totT t v = false) := Lib.hid (by rw [totT_eq]; unfold totK; rw [if_neg g20, if_neg g22, if_neg g27, if_neg (by omega), if_neg g31, if_neg g44, if_neg g45, if_neg g42, if_neg g41, if_neg g35, if_neg g36, if_neg g37])
  have kk20 : (t.kind == 20) = false := beq_no g20
  have kk22 : (t.kind == 22) = false := beq_no g22
  have kk27 : (t.kind == 27) = false := beq_no g27
  have kk29 : (t.kind == 29) = false := beq_no g29
  have kk31 : (t.kind == 31) = false := beq_no g31
  have kk44 : (t.kind == 44) = false := beq_no g44
  have kk45 : (t.kind == 45) = false := beq_no g45
  have kk46 : (t.kind == 46) = false := beq_no g46
  have kk42 : (t.kind == 42) = false := beq_no g42
  have kk41 : (t.kind == 41) = false := beq_no g41
  have kk35 : (t.kind == 35) = false := beq_no g35
  have kk36 : (t.kind == 36) = false := beq_no g36
  have kk37 : (t.kind == 37) = false := beq_no g37
  clear g20 g22 g27 g29 g31 g44 g45 g46 g42 g41 g35 g36 g37 hgd hwf hN hat ih hv
  go_enter Tryz.func71, Tryz.ntmps71
  go_upto_region 1 with fail
  rw [← HW1.out]
  go_wp2_with fail
  go_ret
  exact ⟨by rw [HR.out]; try rfl, H1.out.then_ ((Below.refl _ _))⟩
end Go.Proofs.YtebiojmfieoncaaGreat

namespace Go.Proofs.YtebiojmfieoncaaGreat
open Go.RowKit

set_option maxRecDepth 100000 in
set_option maxHeartbeats 16000000 in
theorem dtot_42 (N : Nat) (ih : DTotN N) (t : Tm) (A : Option Addr) (ca : Nat) (B : Option Addr) (cb : Nat) (K : Option Addr) (ck : Nat) (v : Int) (w : World) (hN : cnt t ≤ N + 1) (hat : TmAt w t A B K) (hwf : WfT t) (hgd : goodT false t = true) (hv : v = 1 ∨ v = 2) (hk : t.kind = 42) :
    Calls Tryz.prog 71 #[tmVal t A ca B cb K ck, .int .i64 v] w fun e w' => e = .returned (.bool (totT t v)) ∧ Below w.heap.size w w' := by
  obtain ⟨W1, hW1⟩ : ∃ W1, W1 = w.alloc (.cells (tmCells t A ca B cb K ck) TTm) := ⟨_, rfl⟩
  have hb1 : Below w.heap.size w W1 := by rw [hW1]; exact (Below.refl _ _).alloc (Nat.le_refl _) _
  have hx1 : W1.heap[w.heap.size]? = some (.cells (tmCells t A ca B cb K ck) TTm (0, 0)) := by rw [hW1]; exact heap_alloc_new w _
  have HW1 := Lib.hid hW1
  have H1 := Lib.hid hb1
  have HT := Lib.hid (And.intro (hat.on hb1) (And.intro hwf (And.intro hgd hN)))
  have HV := Lib.hid hv
  have IH := Lib.hid ih
  have KC : Hid (∀ W, Below W1.heap.size W1 W → W.cell? ⟨w.heap.size, 0, none⟩ = some (.int .i64 t.kind) ∧ W.cell? ⟨w.heap.size, 1, none⟩ = some (.string t.text) ∧ W.cell? ⟨w.heap.size, 2, none⟩ = some (.int .i64 t.n) ∧ W.cell? ⟨w.heap.size, 3, none⟩ = some (.slice A t.sh.length ca) ∧ W.cell? ⟨w.heap.size, 4, none⟩ = some (.slice B t.at_.length cb) ∧ W.cell? ⟨w.heap.size, 5, none⟩ = some (.slice K t.kids.length ck) ∧ w.heap.size < W.heap.size) := Lib.hid fun W h => by
    have hh := (h.block _ (heap_lt hx1)).trans hx1
    exact ⟨cell_at hh rfl, cell_at hh rfl, cell_at hh rfl, cell_at hh rfl, cell_at hh rfl, cell_at hh rfl, heap_lt hh⟩
  clear hW1 hx1 hb1
  obtain ⟨k0, k1, k2, k3, k4, k5, kl⟩ := KC.out W1 (Below.refl _ _)
  obtain ⟨x, hks, fx⟩ := one_kid hgd (c := 118) (by rw [hk]; decide) (by omega) (by omega) (by omega)
  have hkl : t.kids.length = 1 := by rw [hks]; rfl
  obtain ⟨bk, ok, hKe, px⟩ := HT.out.1.kids.get (i := 0) (t := x) (by rw [hks]; rfl)
  rw [Nat.zero_add, Nat.zero_mul, Nat.add_zero] at px
  subst hKe
  have SX : Hid (WfT x ∧ goodT false x = true ∧ cnt x ≤ N) := Lib.hid ⟨hwf.node.each x (by rw [hks]; simp), good_sub hgd (by omega) (i := 0) (by rw [hks]; rfl), by have h1 := cnt_kid (t := t) (i := 0) (k := x) (by rw [hks]; rfl); omega⟩
  obtain ⟨Ax, cax, Bx, cbx, Kx, ckx, xl, x0, x1, x2, x3, x4, x5, hatx⟩ := px.cells
  have HCX : Hid (∀ W, Below W1.heap.size W1 W → (W.cell? ⟨bk, ok, none⟩ = some (.int .i64 x.kind) ∧ W.cell? ⟨bk, ok + 1, none⟩ = some (.string x.text) ∧ W.cell? ⟨bk, ok + 2, none⟩ = some (.int .i64 x.n) ∧ W.cell? ⟨bk, ok + 3, none⟩ = some (.slice Ax x.sh.length cax) ∧ W.cell? ⟨bk, ok + 4, none⟩ = some (.slice Bx x.at_.length cbx) ∧ W.cell? ⟨bk, ok + 5, none⟩ = some (.slice Kx x.kids.length ckx)) ∧ W.cell? ⟨w.heap.size, 5, none⟩ = some (.slice (some ⟨bk, ok, none⟩) 1 ck) ∧ bk < W.heap.size ∧ w.heap.size < W.heap.size) := Lib.hid fun W h => by
    have key : ∀ g j v, g < W1.heap.size → W1.cell? ⟨g, j, none⟩ = some v → W.cell? ⟨g, j, none⟩ = some v := fun g j v hg hv => (h.cell (p := ⟨g, j, none⟩) hg).trans hv
    exact ⟨⟨key _ _ _ xl x0, key _ _ _ xl x1, key _ _ _ xl x2, key _ _ _ xl x3, key _ _ _ xl x4, key _ _ _ xl x5⟩, by rw [← hkl]; exact key _ _ _ kl k5, Nat.lt_of_lt_of_le xl h.size, Nat.lt_of_lt_of_le kl h.size⟩
  have HK0 : Hid (∀ v' W, (v' = 1 ∨ v' = 2) → Below W1.heap.size W1 W → Calls Tryz.prog 71 #[tmVal x Ax cax Bx cbx Kx ckx, .int .i64 v'] W fun e w' => e = .returned (.bool (totT x v')) ∧ Below W.heap.size W w') := Lib.hid fun v' W hv' hb =>
    ih x Ax cax Bx cbx Kx ckx v' W SX.out.2.2 (hatx.on hb) SX.out.1 SX.out.2.1 hv'
  clear x0 x1 x2 x3 x4 x5 xl px hatx
  obtain ⟨ra, rb, rc, hr⟩ : ∃ a b c, listed3 t.at_ = ⟨a, b, c⟩ := ⟨_, _, _, rfl⟩
  have HR : Hid (totT t v = if (v = 1 ∧ ra ≠ 64) ∨ (v = 2 ∧ (rb ≠ 64 ∨ rc ≠ 64)) then false else totT x v) := Lib.hid (by rw [totT_eq]; unfold totK; rw [if_neg (by omega)]; rw [if_neg (by omega)]; rw [if_neg (by omega)]; rw [if_neg (by omega)]; rw [if_neg (by omega)]; rw [if_neg (by omega)]; rw [if_neg (by omega)]; rw [if_pos (by omega)]; rw [hks, hr]; rfl)
  have HL := Lib.hid (drk_any (cnt t) t A ca B cb (some ⟨bk, ok, none⟩) ck W1 (Nat.le_refl _) HT.out.1 hwf hgd)
  have hrk : rkT t = ⟨ra, rb, rc⟩ := by rw [rkT_eq, ← hr]; unfold rkK; rw [if_neg (by omega), if_neg (by omega), if_neg (by omega), if_neg (by omega), if_neg (by omega), if_pos (by omega)]
  rw [hrk] at HL
  unfold tmVal at HL
  rw [hkl] at HL
  have kk20 : (t.kind == 20) = false := by rw [hk]; rfl
  have kk22 : (t.kind == 22) = false := by rw [hk]; rfl
  have kk27 : (t.kind == 27) = false := by rw [hk]; rfl
  have kk29 : (t.kind == 29) = false := by rw [hk]; rfl
  have kk31 : (t.kind == 31) = false := by rw [hk]; rfl
  have kk44 : (t.kind == 44) = false := by rw [hk]; rfl
  have kk45 : (t.kind == 45) = false := by rw [hk]; rfl
  have kk46 : (t.kind == 46) = false := by rw [hk]; rfl
  have kk42 : (t.kind == 42) = true := by rw [hk]; rfl
  rw [hkl] at k5
  clear hgd hwf hN hat ih hk hks hkl hv fx
  clear hr hrk
  have HAL : Hid (∀ w2, Below W1.heap.size W1 w2 → Below W1.heap.size W1 (w2.alloc (.cells #[.int .i64 ra, .int .i64 rb, .int .i64 rc] TR3))) := Lib.hid fun w2 h => h.alloc h.size _
  have hkids : W1.cell? ⟨w.heap.size, 5, none⟩ = some (.slice (some ⟨bk, ok, none⟩) 1 ck) := k5
  rcases HV.out with rfl | rfl
  · by_cases h1 : ra = 64
    · have HRV : Hid (totT t 1 = totT x 1) := Lib.hid (by rw [HR.out]; exact if_neg (by rintro (⟨_, h⟩ | ⟨h, _⟩); exact h h1; exact absurd h (by decide)))
      have d1 : (ra == 64) = true := by rw [h1]; rfl
      clear h1
      go_enter Tryz.func71, Tryz.ntmps71
      go_upto_region 1 with fail
      rw [← HW1.out]
      go_wp2_with fail
      refine HL.out.mono ?_
      rintro e w2 ⟨rfl, hb2⟩
      have HB2 := Lib.hid hb2
      clear hb2 k0 k1 k2 k3 k4 k5 kl hkids
      go_upto_region 23 with fail
      obtain ⟨w3, hw3⟩ : ∃ w3, w3 = w2.alloc (.cells #[.int .i64 ra, .int .i64 rb, .int .i64 rc] TR3) := ⟨_, rfl⟩
      have hr3 : w3.heap[w2.heap.size]? = some (.cells #[.int .i64 ra, .int .i64 rb, .int .i64 rc] TR3 (0, 0)) := by rw [hw3]; exact heap_alloc_new _ _
      have HB3 : Hid (Below W1.heap.size W1 w3) := Lib.hid (by rw [hw3]; exact HAL.out _ HB2.out)
      rw [← hw3]
      have c0 := cell_at hr3 (j := 0) rfl
      have c1 := cell_at hr3 (j := 1) rfl
      have c2 := cell_at hr3 (j := 2) rfl
      have cl := heap_lt hr3
      clear hw3 hr3
      obtain ⟨⟨x0, x1, x2, x3, x4, x5⟩, kk5, xl, kkl⟩ := HCX.out w3 HB3.out
      go_wp2_with fail
      refine (HK0.out 1 _ (.inl rfl) HB3.out).mono ?_
      rintro e w4 ⟨rfl, hb4⟩
      have HB4 := Lib.hid (HB3.out.then_ hb4)
      clear hb4
      go_wp2_with fail
      go_ret
      exact ⟨by rw [HRV.out]; try rfl, H1.out.then_ HB4.out⟩
    · have HRV : Hid (totT t 1 = false) := Lib.hid (by rw [HR.out]; exact if_pos (.inl ⟨rfl, h1⟩))
      have d1 : (ra == 64) = false := by simpa using h1
      clear h1
      go_enter Tryz.func71, Tryz.ntmps71
      go_upto_region 1 with fail
      rw [← HW1.out]
      go_wp2_with fail
      refine HL.out.mono ?_
      rintro e w2 ⟨rfl, hb2⟩
      have HB2 := Lib.hid hb2
      clear hb2 k0 k1 k2 k3 k4 k5 kl hkids
      go_upto_region 23 with fail
      obtain ⟨w3, hw3⟩ : ∃ w3, w3 = w2.alloc (.cells #[.int .i64 ra, .int .i64 rb, .int .i64 rc] TR3) := ⟨_, rfl⟩
      have hr3 : w3.heap[w2.heap.size]? = some (.cells #[.int .i64 ra, .int .i64 rb, .int .i64 rc] TR3 (0, 0)) := by rw [hw3]; exact heap_alloc_new _ _
      have HB3 : Hid (Below W1.heap.size W1 w3) := Lib.hid (by rw [hw3]; exact HAL.out _ HB2.out)
      rw [← hw3]
      have c0 := cell_at hr3 (j := 0) rfl
      have c1 := cell_at hr3 (j := 1) rfl
      have c2 := cell_at hr3 (j := 2) rfl
      have cl := heap_lt hr3
      clear hw3 hr3
      go_wp2_with fail
      go_ret
      exact ⟨by rw [HRV.out]; rfl, H1.out.then_ HB3.out⟩
  · by_cases h1 : rb = 64
    · have d1 : (rb == 64) = true := by rw [h1]; rfl
      by_cases h2 : rc = 64
      · have HRV : Hid (totT t 2 = totT x 2) := Lib.hid (by rw [HR.out]; exact if_neg (by rintro (⟨h, _⟩ | ⟨_, h | h⟩); exact absurd h (by decide); exact h h1; exact h h2))
        have d2 : (rc == 64) = true := by rw [h2]; rfl
        clear h1 h2
        go_enter Tryz.func71, Tryz.ntmps71
        go_upto_region 1 with fail
        rw [← HW1.out]
        go_wp2_with fail
        refine HL.out.mono ?_
        rintro e w2 ⟨rfl, hb2⟩
        have HB2 := Lib.hid hb2
        clear hb2 k0 k1 k2 k3 k4 k5 kl hkids
        go_upto_region 23 with fail
        obtain ⟨w3, hw3⟩ : ∃ w3, w3 = w2.alloc (.cells #[.int .i64 ra, .int .i64 rb, .int .i64 rc] TR3) := ⟨_, rfl⟩
        have hr3 : w3.heap[w2.heap.size]? = some (.cells #[.int .i64 ra, .int .i64 rb, .int .i64 rc] TR3 (0, 0)) := by rw [hw3]; exact heap_alloc_new _ _
        have HB3 : Hid (Below W1.heap.size W1 w3) := Lib.hid (by rw [hw3]; exact HAL.out _ HB2.out)
        rw [← hw3]
        have c0 := cell_at hr3 (j := 0) rfl
        have c1 := cell_at hr3 (j := 1) rfl
        have c2 := cell_at hr3 (j := 2) rfl
        have cl := heap_lt hr3
        clear hw3 hr3
        obtain ⟨⟨x0, x1, x2, x3, x4, x5⟩, kk5, xl, kkl⟩ := HCX.out w3 HB3.out
        go_wp2_with fail
        refine (HK0.out 2 _ (.inr rfl) HB3.out).mono ?_
        rintro e w4 ⟨rfl, hb4⟩
        have HB4 := Lib.hid (HB3.out.then_ hb4)
        clear hb4
        go_wp2_with fail
        go_ret
        exact ⟨by rw [HRV.out]; try rfl, H1.out.then_ HB4.out⟩
      · have HRV : Hid (totT t 2 = false) := Lib.hid (by rw [HR.out]; exact if_pos (.inr ⟨rfl, .inr h2⟩))
        have d2 : (rc == 64) = false := by simpa using h2
        clear h1 h2
        go_enter Tryz.func71, Tryz.ntmps71
        go_upto_region 1 with fail
        rw [← HW1.out]
        go_wp2_with fail
        refine HL.out.mono ?_
        rintro e w2 ⟨rfl, hb2⟩
        have HB2 := Lib.hid hb2
        clear hb2 k0 k1 k2 k3 k4 k5 kl hkids
        go_upto_region 23 with fail
        obtain ⟨w3, hw3⟩ : ∃ w3, w3 = w2.alloc (.cells #[.int .i64 ra, .int .i64 rb, .int .i64 rc] TR3) := ⟨_, rfl⟩
        have hr3 : w3.heap[w2.heap.size]? = some (.cells #[.int .i64 ra, .int .i64 rb, .int .i64 rc] TR3 (0, 0)) := by rw [hw3]; exact heap_alloc_new _ _
        have HB3 : Hid (Below W1.heap.size W1 w3) := Lib.hid (by rw [hw3]; exact HAL.out _ HB2.out)
        rw [← hw3]
        have c0 := cell_at hr3 (j := 0) rfl
        have c1 := cell_at hr3 (j := 1) rfl
        have c2 := cell_at hr3 (j := 2) rfl
        have cl := heap_lt hr3
        clear hw3 hr3
        go_wp2_with fail
        go_ret
        exact ⟨by rw [HRV.out]; rfl, H1.out.then_ HB3.out⟩
    · have HRV : Hid (totT t 2 = false) := Lib.hid (by rw [HR.out]; exact if_pos (.inr ⟨rfl, .inl h1⟩))
      have d1 : (rb == 64) = false := by simpa using h1
      clear h1
      go_enter Tryz.func71, Tryz.ntmps71
      go_upto_region 1 with fail
      rw [← HW1.out]
      go_wp2_with fail
      refine HL.out.mono ?_
      rintro e w2 ⟨rfl, hb2⟩
      have HB2 := Lib.hid hb2
      clear hb2 k0 k1 k2 k3 k4 k5 kl hkids
      go_upto_region 23 with fail
      obtain ⟨w3, hw3⟩ : ∃ w3, w3 = w2.alloc (.cells #[.int .i64 ra, .int .i64 rb, .int .i64 rc] TR3) := ⟨_, rfl⟩
      have hr3 : w3.heap[w2.heap.size]? = some (.cells #[.int .i64 ra, .int .i64 rb, .int .i64 rc] TR3 (0, 0)) := by rw [hw3]; exact heap_alloc_new _ _
      have HB3 : Hid (Below W1.heap.size W1 w3) := Lib.hid (by rw [hw3]; exact HAL.out _ HB2.out)
      rw [← hw3]
      have c0 := cell_at hr3 (j := 0) rfl
      have c1 := cell_at hr3 (j := 1) rfl
      have c2 := cell_at hr3 (j := 2) rfl
      have cl := heap_lt hr3
      clear hw3 hr3
      go_wp2_with fail
      go_ret
      exact ⟨by rw [HRV.out]; rfl, H1.out.then_ HB3.out⟩
set_option maxRecDepth 100000 in
set_option maxHeartbeats 16000000 in
theorem dtot_41 (N : Nat) (ih : DTotN N) (t : Tm) (A : Option Addr) (ca : Nat) (B : Option Addr) (cb : Nat) (K : Option Addr) (ck : Nat) (v : Int) (w : World) (hN : cnt t ≤ N + 1) (hat : TmAt w t A B K) (hwf : WfT t) (hgd : goodT false t = true) (hv : v = 1 ∨ v = 2) (hk : t.kind = 41) :
    Calls Tryz.prog 71 #[tmVal t A ca B cb K ck, .int .i64 v] w fun e w' => e = .returned (.bool (totT t v)) ∧ Below w.heap.size w w' := by
  obtain ⟨W1, hW1⟩ : ∃ W1, W1 = w.alloc (.cells (tmCells t A ca B cb K ck) TTm) := ⟨_, rfl⟩
  have hb1 : Below w.heap.size w W1 := by rw [hW1]; exact (Below.refl _ _).alloc (Nat.le_refl _) _
  have hx1 : W1.heap[w.heap.size]? = some (.cells (tmCells t A ca B cb K ck) TTm (0, 0)) := by rw [hW1]; exact heap_alloc_new w _
  have HW1 := Lib.hid hW1
  have H1 := Lib.hid hb1
  have HT := Lib.hid (And.intro (hat.on hb1) (And.intro hwf (And.intro hgd hN)))
  have HV := Lib.hid hv
  have IH := Lib.hid ih
  have KC : Hid (∀ W, Below W1.heap.size W1 W → W.cell? ⟨w.heap.size, 0, none⟩ = some (.int .i64 t.kind) ∧ W.cell? ⟨w.heap.size, 1, none⟩ = some (.string t.text) ∧ W.cell? ⟨w.heap.size, 2, none⟩ = some (.int .i64 t.n) ∧ W.cell? ⟨w.heap.size, 3, none⟩ = some (.slice A t.sh.length ca) ∧ W.cell? ⟨w.heap.size, 4, none⟩ = some (.slice B t.at_.length cb) ∧ W.cell? ⟨w.heap.size, 5, none⟩ = some (.slice K t.kids.length ck) ∧ w.heap.size < W.heap.size) := Lib.hid fun W h => by
    have hh := (h.block _ (heap_lt hx1)).trans hx1
    exact ⟨cell_at hh rfl, cell_at hh rfl, cell_at hh rfl, cell_at hh rfl, cell_at hh rfl, cell_at hh rfl, heap_lt hh⟩
  clear hW1 hx1 hb1
  obtain ⟨k0, k1, k2, k3, k4, k5, kl⟩ := KC.out W1 (Below.refl _ _)
  obtain ⟨x, y, hks, fx, fy⟩ := two_kids hgd (c := 118) (d := 111) (by rw [hk]; decide) (by omega) (by omega) (by omega)
  have hkl : t.kids.length = 2 := by rw [hks]; rfl
  obtain ⟨bk, ok, hKe, px⟩ := HT.out.1.kids.get (i := 0) (t := x) (by rw [hks]; rfl)
  rw [Nat.zero_add, Nat.zero_mul, Nat.add_zero] at px
  obtain ⟨b', o', hKe', py⟩ := HT.out.1.kids.get (i := 1) (t := y) (by rw [hks]; rfl)
  rw [hKe] at hKe'
  simp only [Option.some.injEq, Addr.mk.injEq, and_true] at hKe'
  obtain ⟨rfl, rfl⟩ := hKe'
  rw [Nat.zero_add] at py
  subst hKe
  have SX : Hid (WfT x ∧ goodT false x = true ∧ cnt x ≤ N) := Lib.hid ⟨hwf.node.each x (by rw [hks]; simp), good_sub hgd (by omega) (i := 0) (by rw [hks]; rfl), by have h1 := cnt_kid (t := t) (i := 0) (k := x) (by rw [hks]; rfl); omega⟩
  obtain ⟨Ax, cax, Bx, cbx, Kx, ckx, xl, x0, x1, x2, x3, x4, x5, hatx⟩ := px.cells
  have HCX : Hid (∀ W, Below W1.heap.size W1 W → (W.cell? ⟨bk, ok, none⟩ = some (.int .i64 x.kind) ∧ W.cell? ⟨bk, ok + 1, none⟩ = some (.string x.text) ∧ W.cell? ⟨bk, ok + 2, none⟩ = some (.int .i64 x.n) ∧ W.cell? ⟨bk, ok + 3, none⟩ = some (.slice Ax x.sh.length cax) ∧ W.cell? ⟨bk, ok + 4, none⟩ = some (.slice Bx x.at_.length cbx) ∧ W.cell? ⟨bk, ok + 5, none⟩ = some (.slice Kx x.kids.length ckx)) ∧ W.cell? ⟨w.heap.size, 5, none⟩ = some (.slice (some ⟨bk, ok, none⟩) 2 ck) ∧ bk < W.heap.size ∧ w.heap.size < W.heap.size) := Lib.hid fun W h => by
    have key : ∀ g j v, g < W1.heap.size → W1.cell? ⟨g, j, none⟩ = some v → W.cell? ⟨g, j, none⟩ = some v := fun g j v hg hv => (h.cell (p := ⟨g, j, none⟩) hg).trans hv
    exact ⟨⟨key _ _ _ xl x0, key _ _ _ xl x1, key _ _ _ xl x2, key _ _ _ xl x3, key _ _ _ xl x4, key _ _ _ xl x5⟩, by rw [← hkl]; exact key _ _ _ kl k5, Nat.lt_of_lt_of_le xl h.size, Nat.lt_of_lt_of_le kl h.size⟩
  have HK0 : Hid (∀ v' W, (v' = 1 ∨ v' = 2) → Below W1.heap.size W1 W → Calls Tryz.prog 71 #[tmVal x Ax cax Bx cbx Kx ckx, .int .i64 v'] W fun e w' => e = .returned (.bool (totT x v')) ∧ Below W.heap.size W w') := Lib.hid fun v' W hv' hb =>
    ih x Ax cax Bx cbx Kx ckx v' W SX.out.2.2 (hatx.on hb) SX.out.1 SX.out.2.1 hv'
  have SY : Hid (WfT y ∧ goodT false y = true ∧ cnt y ≤ N) := Lib.hid ⟨hwf.node.each y (by rw [hks]; simp), good_sub hgd (by omega) (i := 1) (by rw [hks]; rfl), by have h1 := cnt_kid (t := t) (i := 1) (k := y) (by rw [hks]; rfl); omega⟩
  obtain ⟨Ay, cay, By, cby, Ky, cky, yl, y0, y1, y2, y3, y4, y5, haty⟩ := py.cells
  have Cy : W1.cell? ⟨bk, ok + 1 * 6, none⟩ = some (.int .i64 y.kind) ∧ W1.cell? ⟨bk, ok + 1 * 6 + 1, none⟩ = some (.string y.text) ∧ W1.cell? ⟨bk, ok + 1 * 6 + 2, none⟩ = some (.int .i64 y.n) ∧ W1.cell? ⟨bk, ok + 1 * 6 + 3, none⟩ = some (.slice Ay y.sh.length cay) ∧ W1.cell? ⟨bk, ok + 1 * 6 + 4, none⟩ = some (.slice By y.at_.length cby) ∧ W1.cell? ⟨bk, ok + 1 * 6 + 5, none⟩ = some (.slice Ky y.kids.length cky) := ⟨y0, y1, y2, y3, y4, y5⟩
  clear y0 y1 y2 y3 y4 y5
  obtain ⟨y0, y1, y2, y3, y4, y5⟩ : W1.cell? ⟨bk, (ok + 6), none⟩ = some (.int .i64 y.kind) ∧ W1.cell? ⟨bk, (ok + 6) + 1, none⟩ = some (.string y.text) ∧ W1.cell? ⟨bk, (ok + 6) + 2, none⟩ = some (.int .i64 y.n) ∧ W1.cell? ⟨bk, (ok + 6) + 3, none⟩ = some (.slice Ay y.sh.length cay) ∧ W1.cell? ⟨bk, (ok + 6) + 4, none⟩ = some (.slice By y.at_.length cby) ∧ W1.cell? ⟨bk, (ok + 6) + 5, none⟩ = some (.slice Ky y.kids.length cky) := Cy
  have HCY : Hid (∀ W, Below W1.heap.size W1 W → (W.cell? ⟨bk, (ok + 6), none⟩ = some (.int .i64 y.kind) ∧ W.cell? ⟨bk, (ok + 6) + 1, none⟩ = some (.string y.text) ∧ W.cell? ⟨bk, (ok + 6) + 2, none⟩ = some (.int .i64 y.n) ∧ W.cell? ⟨bk, (ok + 6) + 3, none⟩ = some (.slice Ay y.sh.length cay) ∧ W.cell? ⟨bk, (ok + 6) + 4, none⟩ = some (.slice By y.at_.length cby) ∧ W.cell? ⟨bk, (ok + 6) + 5, none⟩ = some (.slice Ky y.kids.length cky)) ∧ W.cell? ⟨w.heap.size, 5, none⟩ = some (.slice (some ⟨bk, ok, none⟩) 2 ck) ∧ bk < W.heap.size ∧ w.heap.size < W.heap.size) := Lib.hid fun W h => by
    have key : ∀ g j v, g < W1.heap.size → W1.cell? ⟨g, j, none⟩ = some v → W.cell? ⟨g, j, none⟩ = some v := fun g j v hg hv => (h.cell (p := ⟨g, j, none⟩) hg).trans hv
    exact ⟨⟨key _ _ _ yl y0, key _ _ _ yl y1, key _ _ _ yl y2, key _ _ _ yl y3, key _ _ _ yl y4, key _ _ _ yl y5⟩, by rw [← hkl]; exact key _ _ _ kl k5, Nat.lt_of_lt_of_le yl h.size, Nat.lt_of_lt_of_le kl h.size⟩
  have HK1 : Hid (∀ v' W, (v' = 1 ∨ v' = 2) → Below W1.heap.size W1 W → Calls Tryz.prog 71 #[tmVal y Ay cay By cby Ky cky, .int .i64 v'] W fun e w' => e = .returned (.bool (totT y v')) ∧ Below W.heap.size W w') := Lib.hid fun v' W hv' hb =>
    ih y Ay cay By cby Ky cky v' W SY.out.2.2 (haty.on hb) SY.out.1 SY.out.2.1 hv'
  have HAT := Lib.hid haty
  clear x0 x1 x2 x3 x4 x5 xl px hatx y0 y1 y2 y3 y4 y5 yl py haty
  have HR : Hid (totT t v = (if scalarB y = true then (if y.at_.getD 0 0 = 0 then true else if 0 < y.at_.getD 0 0 then totT x v else false) else false)) := Lib.hid (by rw [totT_eq]; unfold totK; rw [if_neg (by omega)]; rw [if_neg (by omega)]; rw [if_neg (by omega)]; rw [if_neg (by omega)]; rw [if_neg (by omega)]; rw [if_neg (by omega)]; rw [if_neg (by omega)]; rw [if_neg (by omega)]; rw [if_pos (by omega)]; rw [hks]; rfl)
  have hgy : goodT false y = true := good_sub hgd (by omega) (i := 1) (by rw [hks]; rfl)
  have hly : scalarB y = true → y.at_.length = 1 := good_litT hgy
  have hsh : y.sh.length ≤ 140737488351232 := (hwf.node.each y (by rw [hks]; simp)).node.sh
  have kk20 : (t.kind == 20) = false := by rw [hk]; rfl
  have kk22 : (t.kind == 22) = false := by rw [hk]; rfl
  have kk27 : (t.kind == 27) = false := by rw [hk]; rfl
  have kk29 : (t.kind == 29) = false := by rw [hk]; rfl
  have kk31 : (t.kind == 31) = false := by rw [hk]; rfl
  have kk44 : (t.kind == 44) = false := by rw [hk]; rfl
  have kk45 : (t.kind == 45) = false := by rw [hk]; rfl
  have kk46 : (t.kind == 46) = false := by rw [hk]; rfl
  have kk42 : (t.kind == 42) = false := by rw [hk]; rfl
  have kk41 : (t.kind == 41) = true := by rw [hk]; rfl
  rw [hkl] at k5
  clear hgd hwf hN hat ih hk hks hkl hv fx fy
  clear hgy
  have HAL : Hid (∀ o, Below W1.heap.size W1 (W1.alloc o)) := Lib.hid fun o => (Below.refl _ _).alloc (Nat.le_refl _) o
  obtain ⟨⟨y0, y1, y2, y3, y4, y5⟩, kk5, yl, kkl⟩ := HCY.out W1 (Below.refl _ _)
  by_cases hk1 : y.kind = 1
  · have d1 : (y.kind == 1) = true := by rw [hk1]; rfl
    by_cases hs : y.sh.length = 0
    · have hsc : scalarB y = true := by
        unfold scalarB
        rw [decide_eq_true hk1, List.length_eq_zero_iff.1 hs]
        rfl
      have HSC := Lib.hid hsc
      obtain ⟨v0, hv0⟩ : ∃ v0, y.at_ = [v0] := by
        match y.at_, hly hsc with
        | [v0], _ => exact ⟨v0, rfl⟩
      have HV0 : Hid (y.at_.getD 0 0 = v0) := Lib.hid (by rw [hv0]; rfl)
      have hpos : 0 < y.at_.length := by rw [hv0]; exact Nat.zero_lt_one
      obtain ⟨b3, o3, hB, l3, c9⟩ := HAT.out.at_ 0 v0 (by rw [hv0]; rfl)
      subst hB
      rw [Nat.add_zero] at c9
      have hal : y.at_.length = 1 := by rw [hv0]; rfl
      rw [hs] at y3
      rw [hal] at y4
      clear hv0 hk1 hly hsc hs hsh hpos hal
      by_cases hz : v0 = 0
      · have HZ := Lib.hid hz
        have HRV : Hid (totT t v = true) := Lib.hid (by rw [HR.out, if_pos HSC.out, HV0.out, if_pos hz])
        have d2 : (v0 == 0) = true := by rw [hz]; rfl
        clear hz
        go_enter Tryz.func71, Tryz.ntmps71
        go_upto_region 1 with fail
        rw [← HW1.out]
        go_wp2_with fail
        go_ret
        exact ⟨by rw [HRV.out]; try rfl, H1.out.then_ (HAL.out _)⟩
      · have HZ := Lib.hid hz
        have d2 : (v0 == 0) = false := beq_no hz
        by_cases hp0 : 0 < v0
        · have HP := Lib.hid hp0
          have HRV : Hid (totT t v = totT x v) := Lib.hid (by rw [HR.out, if_pos HSC.out, HV0.out, if_neg hz, if_pos hp0])
          clear hz
          obtain ⟨⟨x0, x1, x2, x3, x4, x5⟩, _, xl, _⟩ := HCX.out W1 (Below.refl _ _)
          go_enter Tryz.func71, Tryz.ntmps71
          go_upto_region 1 with fail
          rw [← HW1.out]
          go_wp2_with fail
          refine (HK0.out v _ HV.out (HAL.out _)).mono ?_
          rintro e w18 ⟨rfl, hb⟩
          have HB18 := Lib.hid ((HAL.out _).then_ hb)
          clear hb
          go_wp2_with fail
          go_ret
          exact ⟨by rw [HRV.out]; try rfl, H1.out.then_ HB18.out⟩
        · have HP := Lib.hid hp0
          have HRV : Hid (totT t v = false) := Lib.hid (by rw [HR.out, if_pos HSC.out, HV0.out, if_neg hz, if_neg hp0])
          clear hz
          go_enter Tryz.func71, Tryz.ntmps71
          go_upto_region 1 with fail
          rw [← HW1.out]
          go_wp2_with fail
          go_ret
          exact ⟨by rw [HRV.out]; try rfl, H1.out.then_ (HAL.out _)⟩
    · have hsc : scalarB y = false := by
        unfold scalarB
        cases hl : y.sh with
        | nil => rw [hl] at hs; exact absurd rfl hs
        | cons a r => simp
      have HSC := Lib.hid hsc
      have d2 : ((y.sh.length : Int) == 0) = false := beq_no (by omega)
      have HRV : Hid (totT t v = false) := Lib.hid (by rw [HR.out, if_neg (by rw [hsc]; decide)])
      clear hk1 hly hsc hs hsh
      go_enter Tryz.func71, Tryz.ntmps71
      go_upto_region 1 with fail
      rw [← HW1.out]
      go_wp2_with fail
      go_ret
      exact ⟨by rw [HRV.out]; try rfl, H1.out.then_ (HAL.out _)⟩
  · have d1 : (y.kind == 1) = false := beq_no hk1
    have hsc : scalarB y = false := by
      unfold scalarB
      rw [decide_eq_false hk1]
      rfl
    have HSC := Lib.hid hsc
    have HRV : Hid (totT t v = false) := Lib.hid (by rw [HR.out, if_neg (by rw [hsc]; decide)])
    clear hk1 hly hsc hsh
    go_enter Tryz.func71, Tryz.ntmps71
    go_upto_region 1 with fail
    rw [← HW1.out]
    go_wp2_with fail
    go_ret
    exact ⟨by rw [HRV.out]; try rfl, H1.out.then_ (HAL.out _)⟩
theorem dtot_any (N : Nat) : DTotN N := by
  induction N with
  | zero => intro t A ca B cb K ck v w h; have := cnt_pos t; omega
  | succ N ih =>
    intro t A ca B cb K ck v w hN hat hwf hgd hv
    have kd : t.kind = 20 ∨ t.kind = 22 ∨ t.kind = 27 ∨ t.kind = 29 ∨ t.kind = 31 ∨ t.kind = 44 ∨ t.kind = 45 ∨ t.kind = 46 ∨ t.kind = 42 ∨ t.kind = 41 ∨ t.kind = 35 ∨ t.kind = 36 ∨ t.kind = 37 ∨ (¬ t.kind = 20 ∧ ¬ t.kind = 22 ∧ ¬ t.kind = 27 ∧ ¬ t.kind = 29 ∧ ¬ t.kind = 31 ∧ ¬ t.kind = 44 ∧ ¬ t.kind = 45 ∧ ¬ t.kind = 46 ∧ ¬ t.kind = 42 ∧ ¬ t.kind = 41 ∧ ¬ t.kind = 35 ∧ ¬ t.kind = 36 ∧ ¬ t.kind = 37) := by omega
    rcases kd with hk | hk | hk | hk | hk | hk | hk | hk | hk | hk | hk | hk | hk | hk
    · exact dtot_20 N ih t A ca B cb K ck v w hN hat hwf hgd hv hk
    · exact dtot_22 N ih t A ca B cb K ck v w hN hat hwf hgd hv hk
    · exact dtot_27 N ih t A ca B cb K ck v w hN hat hwf hgd hv hk
    · exact dtot_29 N ih t A ca B cb K ck v w hN hat hwf hgd hv hk
    · exact dtot_31 N ih t A ca B cb K ck v w hN hat hwf hgd hv hk
    · exact dtot_44 N ih t A ca B cb K ck v w hN hat hwf hgd hv hk
    · exact dtot_45 N ih t A ca B cb K ck v w hN hat hwf hgd hv hk
    · exact dtot_46 N ih t A ca B cb K ck v w hN hat hwf hgd hv hk
    · exact dtot_42 N ih t A ca B cb K ck v w hN hat hwf hgd hv hk
    · exact dtot_41 N ih t A ca B cb K ck v w hN hat hwf hgd hv hk
    · exact dtot_35 N ih t A ca B cb K ck v w hN hat hwf hgd hv hk
    · exact dtot_36 N ih t A ca B cb K ck v w hN hat hwf hgd hv hk
    · exact dtot_37 N ih t A ca B cb K ck v w hN hat hwf hgd hv hk
    · exact dtot_no N ih t A ca B cb K ck v w hN hat hwf hgd hv hk
set_option maxRecDepth 100000 in
set_option maxHeartbeats 8000000 in
theorem dtotal_any (t : Tm) (A : Option Addr) (ca : Nat) (B : Option Addr) (cb : Nat) (K : Option Addr) (ck : Nat) (v : Int) (w : World) (hat : TmAt w t A B K) (hwf : WfT t) :
    Calls Tryz.prog 29 #[tmVal t A ca B cb K ck, .int .i64 v] w fun e w' => e = .returned (.bool (totalT t v)) ∧ Below w.heap.size w w' := by
  obtain ⟨W1, hW1⟩ : ∃ W1, W1 = w.alloc (.cells (tmCells t A ca B cb K ck) TTm) := ⟨_, rfl⟩
  have hb1 : Below w.heap.size w W1 := by rw [hW1]; exact (Below.refl _ _).alloc (Nat.le_refl _) _
  have hx1 : W1.heap[w.heap.size]? = some (.cells (tmCells t A ca B cb K ck) TTm (0, 0)) := by rw [hW1]; exact heap_alloc_new w _
  have HX := Lib.hid (And.intro hb1 (And.intro hx1 (hat.on hb1)))
  have HWF := Lib.hid hwf
  have HW1 := Lib.hid hW1
  have k0 := cell_at hx1 (j := 0) rfl
  have k1 := cell_at hx1 (j := 1) rfl
  have k2 := cell_at hx1 (j := 2) rfl
  have k3 := cell_at hx1 (j := 3) rfl
  have k4 := cell_at hx1 (j := 4) rfl
  have k5 := cell_at hx1 (j := 5) rfl
  have HM := Lib.hid (dmay_any t A ca B cb K ck 3 W1 HX.out.2.2 HWF.out)
  have HC : Hid (∀ W, Below W1.heap.size W1 W → W.heap[w.heap.size]? = some (.cells (tmCells t A ca B cb K ck) TTm (0, 0))) := Lib.hid fun W h => (h.block _ (heap_lt HX.out.2.1)).trans HX.out.2.1
  have hc : (mayT t 3 = 0 ∧ v = 1) ∨ (mayT t 3 = 0 ∧ v = 2) ∨ (mayT t 3 = 0 ∧ ¬ v = 1 ∧ ¬ v = 2) ∨ ¬ mayT t 3 = 0 := by omega
  have HG : Hid (mayT t 3 = 0 → goodT false t = true) := Lib.hid fun h => (may_goodT h).1
  clear hat hwf hb1 hx1 hW1
  rcases hc with ⟨hm, rfl⟩ | ⟨hm, rfl⟩ | ⟨hm, h1, h2⟩ | hm
  · have HR : Hid (totalT t 1 = totT t 1) := Lib.hid (by unfold totalT; rw [if_pos ⟨by omega, hm⟩])
    have HG2 := Lib.hid (HG.out hm)
    have dm : (mayT t 3 != 0) = false := by rw [hm]; rfl
    clear hm
    go_enter Tryz.func29, Tryz.ntmps29
    go_upto_region 1 with fail
    rw [← HW1.out]
    go_wp2_with fail
    refine HM.out.mono ?_
    rintro e w2 ⟨rfl, hb2⟩
    have HB2 := Lib.hid hb2
    clear hb2 k0 k1 k2 k3 k4 k5
    have hx := HC.out w2 HB2.out
    have k0 := cell_at hx (j := 0) rfl
    have k1 := cell_at hx (j := 1) rfl
    have k2 := cell_at hx (j := 2) rfl
    have k3 := cell_at hx (j := 3) rfl
    have k4 := cell_at hx (j := 4) rfl
    have k5 := cell_at hx (j := 5) rfl
    have hxl := heap_lt hx
    clear hx
    go_wp2_with fail
    refine (dtot_any (cnt t) t A ca B cb K ck 1 w2 (Nat.le_refl _) (HX.out.2.2.on HB2.out) HWF.out HG2.out (by omega)).mono ?_
    rintro e w3 ⟨rfl, hb3⟩
    have HB3 := Lib.hid (HB2.out.then_ hb3)
    clear hb3 k0 k1 k2 k3 k4 k5 hxl
    go_wp2_with fail
    go_ret
    exact ⟨by rw [HR.out]; rfl, HX.out.1.then_ HB3.out⟩
  · have HR : Hid (totalT t 2 = totT t 2) := Lib.hid (by unfold totalT; rw [if_pos ⟨by omega, hm⟩])
    have HG2 := Lib.hid (HG.out hm)
    have dm : (mayT t 3 != 0) = false := by rw [hm]; rfl
    clear hm
    go_enter Tryz.func29, Tryz.ntmps29
    go_upto_region 1 with fail
    rw [← HW1.out]
    go_wp2_with fail
    refine HM.out.mono ?_
    rintro e w2 ⟨rfl, hb2⟩
    have HB2 := Lib.hid hb2
    clear hb2 k0 k1 k2 k3 k4 k5
    have hx := HC.out w2 HB2.out
    have k0 := cell_at hx (j := 0) rfl
    have k1 := cell_at hx (j := 1) rfl
    have k2 := cell_at hx (j := 2) rfl
    have k3 := cell_at hx (j := 3) rfl
    have k4 := cell_at hx (j := 4) rfl
    have k5 := cell_at hx (j := 5) rfl
    have hxl := heap_lt hx
    clear hx
    go_wp2_with fail
    refine (dtot_any (cnt t) t A ca B cb K ck 2 w2 (Nat.le_refl _) (HX.out.2.2.on HB2.out) HWF.out HG2.out (by omega)).mono ?_
    rintro e w3 ⟨rfl, hb3⟩
    have HB3 := Lib.hid (HB2.out.then_ hb3)
    clear hb3 k0 k1 k2 k3 k4 k5 hxl
    go_wp2_with fail
    go_ret
    exact ⟨by rw [HR.out]; rfl, HX.out.1.then_ HB3.out⟩
  · have HR : Hid (totalT t v = false) := Lib.hid (by unfold totalT; rw [if_neg (by omega)])
    have dm : (mayT t 3 != 0) = false := by rw [hm]; rfl
    have d1 : (v != 1) = true := by simpa using h1
    have d2 : (v != 2) = true := by simpa using h2
    clear hm h1 h2
    go_enter Tryz.func29, Tryz.ntmps29
    go_upto_region 1 with fail
    rw [← HW1.out]
    go_wp2_with fail
    refine HM.out.mono ?_
    rintro e w2 ⟨rfl, hb2⟩
    have HB2 := Lib.hid hb2
    clear hb2 k0 k1 k2 k3 k4 k5
    go_wp2_with fail
    go_ret
    exact ⟨by rw [HR.out]; rfl, HX.out.1.then_ HB2.out⟩
  · have HR : Hid (totalT t v = false) := Lib.hid (by unfold totalT; rw [if_neg (fun h => hm h.2)])
    have dm : (mayT t 3 != 0) = true := by simpa using hm
    clear hm
    go_enter Tryz.func29, Tryz.ntmps29
    go_upto_region 1 with fail
    rw [← HW1.out]
    go_wp2_with fail
    refine HM.out.mono ?_
    rintro e w2 ⟨rfl, hb2⟩
    have HB2 := Lib.hid hb2
    clear hb2 k0 k1 k2 k3 k4 k5
    go_wp2_with fail
    go_ret
    exact ⟨by rw [HR.out]; rfl, HX.out.1.then_ HB2.out⟩
end Go.Proofs.YtebiojmfieoncaaGreat
