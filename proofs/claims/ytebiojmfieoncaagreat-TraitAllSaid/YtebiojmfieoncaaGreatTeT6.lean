/- trait.Total: by kinds. Condition: sizes within reach. -/
import Derived.Test.YtebiojmfieoncaaGreatTeT5
namespace Go.Proofs.YtebiojmfieoncaaGreat
open Go.RowKit Go.WideMaps Go.Maps

theorem three_kids {t : Tm} {b : Bool} (h : goodT b t = true) {c d e : UInt8} (hp : patOf t.kind = [c, d, e]) (h14 : ¬ t.kind = 14) (h5 : ¬ t.kind = 5) (h43 : ¬ t.kind = 43) : ∃ x y z, t.kids = [x, y, z] := by
  rw [goodT_node, Bool.and_eq_true] at h
  have h1 := h.1
  unfold nodeB kidsB at h1
  rw [if_neg h14, if_neg h5, if_neg h43, hp] at h1
  simp only [Bool.and_eq_true] at h1
  obtain ⟨⟨_, h2⟩, _⟩ := h1
  match hk : t.kids, h2 with
  | [], h2 => simp [zipFits] at h2
  | [x], h2 => simp [zipFits] at h2
  | [x, y], h2 => simp [zipFits] at h2
  | [x, y, z], _ => exact ⟨x, y, z, rfl⟩
  | _ :: _ :: _ :: _ :: _, h2 => simp [zipFits] at h2
theorem valM_cases (s : List UInt8) : valM s = 0 ∨ valM s = 1 ∨ valM s = 2 ∨ valM s = 3 := by
  unfold valM valIJ
  by_cases h1 : s ∈ lst1.take 20 <;> by_cases h2 : s ∈ lst2.take 6 <;> simp [h1, h2]
set_option maxRecDepth 100000 in
set_option maxHeartbeats 16000000 in
theorem tot_20 (N : Nat) (ih : TotN N) (t : Tm) (b off : Nat) (v : Int) (w : World) (B Gm Gl n : Nat) (D : DataW Unit) (hN : cnt t ≤ N + 1) (hp : PtrAt w b off t) (hwf : WfT t) (hgd : goodT false t = true) (hv : v = 1 ∨ v = 2) (hT : TotW w B Gm Gl n D) (hk : t.kind = 20) :
    Calls Tryz.prog 68 #[.pointer (some ⟨b, off, none⟩), .int .i64 v, .pointer (some ⟨Gl, 0, none⟩), .pointer (some ⟨Gm, 0, none⟩)] w fun e w' => e = .returned (.bool (totT t v)) ∧ Below w.heap.size w w' := by
  obtain ⟨A, ca, B0, cb, K, ck, hlt, p0, p1, p2, p3, p4, p5, hat⟩ := hp.cells
  obtain ⟨W1, hW1⟩ : ∃ W1, W1 = w.alloc (.cells #[.pointer (some ⟨b, off, none⟩)] TPt) := ⟨_, rfl⟩
  have hq1 : W1.heap[w.heap.size]? = some (.cells #[.pointer (some ⟨b, off, none⟩)] TPt (0, 0)) := by rw [hW1]; exact heap_alloc_new w _
  have hb1 : Below w.heap.size w W1 := by rw [hW1]; exact (Below.refl _ _).alloc (Nat.le_refl _) _
  have HW1 := Lib.hid hW1
  have H1 := Lib.hid (And.intro hq1 hb1)
  have HT := Lib.hid (And.intro hat (And.intro hwf (And.intro hgd (And.intro hN hp))))
  have HV := Lib.hid hv
  have HTW := Lib.hid hT
  have IH := Lib.hid ih
  have KC : Hid (∀ W, Below w.heap.size w W → W.cell? ⟨b, off, none⟩ = some (.int .i64 t.kind) ∧ W.cell? ⟨b, off + 1, none⟩ = some (.string t.text) ∧ W.cell? ⟨b, off + 3, none⟩ = some (.slice A t.sh.length ca) ∧ W.cell? ⟨b, off + 4, none⟩ = some (.slice B0 t.at_.length cb) ∧ W.cell? ⟨b, off + 5, none⟩ = some (.slice K t.kids.length ck) ∧ b < W.heap.size) := Lib.hid fun W h => by
    have key : ∀ j v, w.cell? ⟨b, j, none⟩ = some v → W.cell? ⟨b, j, none⟩ = some v := fun j v hv => (h.cell (p := ⟨b, j, none⟩) hlt).trans hv
    exact ⟨key _ _ p0, key _ _ p1, key _ _ p3, key _ _ p4, key _ _ p5, Nat.lt_of_lt_of_le hlt h.size⟩
  clear hW1 hb1 p0 p1 p2 p3 p4 p5 hat hlt
  obtain ⟨k0, k1, k3, k4, k5, kl⟩ := KC.out W1 H1.out.2
  have q0 := cell_at hq1 (j := 0) rfl
  have ql := heap_lt hq1
  have HR : Hid (totT t v = andV (valM t.text.data.toList) v) := Lib.hid (by rw [totT_eq]; unfold totK; rw [if_pos (by omega)])
  have HKE : Hid (keyOf Tryz.prog TSt (.string t.text) = some (keyL t.text)) := Lib.hid (key_of t.text (by have := hwf.node.text; unfold maxLen; omega))
  obtain ⟨c, hrun, hat, _⟩ := (hT.on H1.out.2).map.drew.lookup_int lawS Tryz.underlying91 Tryz.underlying3 (zeroI _) HKE.out
  have hcc : valM t.text.data.toList = c := by
    have h := hT.is t.text.data.toList
    rw [hat] at h
    injection h with h
    injection h with _ h
    exact h.symm
  have cm := cell_at (hT.on H1.out.2).gm (j := 0) rfl
  have an01 : bits BinOp.and IntKind.i64 0 1 = 0 := by decide
  have an02 : bits BinOp.and IntKind.i64 0 2 = 0 := by decide
  have an11 : bits BinOp.and IntKind.i64 1 1 = 1 := by decide
  have an12 : bits BinOp.and IntKind.i64 1 2 = 0 := by decide
  have an21 : bits BinOp.and IntKind.i64 2 1 = 0 := by decide
  have an22 : bits BinOp.and IntKind.i64 2 2 = 2 := by decide
  have an31 : bits BinOp.and IntKind.i64 3 1 = 1 := by decide
  have an32 : bits BinOp.and IntKind.i64 3 2 = 2 := by decide
  have kk20 : (t.kind == 20) = true := by rw [hk]; rfl
  rw [hcc] at HR
  have HCC : Hid (c = 0 ∨ c = 1 ∨ c = 2 ∨ c = 3) := Lib.hid (by rw [← hcc]; exact valM_cases _)
  clear hgd hwf hN hp hT ih hk hcc hat hv hq1
  rcases HCC.out with rfl | rfl | rfl | rfl <;> rcases HV.out with rfl | rfl
  all_goals
    go_enter Tryz.func68, Tryz.ntmps68
    go_upto_region 1 with fail
    rw [← HW1.out]
    go_upto_region 4 with fail
    go_region
    go_wp2_with fail
    go_ret
    exact ⟨by rw [HR.out]; rfl, H1.out.2.drew⟩
set_option maxRecDepth 100000 in
set_option maxHeartbeats 16000000 in
theorem tot_22 (N : Nat) (ih : TotN N) (t : Tm) (b off : Nat) (v : Int) (w : World) (B Gm Gl n : Nat) (D : DataW Unit) (hN : cnt t ≤ N + 1) (hp : PtrAt w b off t) (hwf : WfT t) (hgd : goodT false t = true) (hv : v = 1 ∨ v = 2) (hT : TotW w B Gm Gl n D) (hk : t.kind = 22) :
    Calls Tryz.prog 68 #[.pointer (some ⟨b, off, none⟩), .int .i64 v, .pointer (some ⟨Gl, 0, none⟩), .pointer (some ⟨Gm, 0, none⟩)] w fun e w' => e = .returned (.bool (totT t v)) ∧ Below w.heap.size w w' := by
  obtain ⟨A, ca, B0, cb, K, ck, hlt, p0, p1, p2, p3, p4, p5, hat⟩ := hp.cells
  obtain ⟨W1, hW1⟩ : ∃ W1, W1 = w.alloc (.cells #[.pointer (some ⟨b, off, none⟩)] TPt) := ⟨_, rfl⟩
  have hq1 : W1.heap[w.heap.size]? = some (.cells #[.pointer (some ⟨b, off, none⟩)] TPt (0, 0)) := by rw [hW1]; exact heap_alloc_new w _
  have hb1 : Below w.heap.size w W1 := by rw [hW1]; exact (Below.refl _ _).alloc (Nat.le_refl _) _
  have HW1 := Lib.hid hW1
  have H1 := Lib.hid (And.intro hq1 hb1)
  have HT := Lib.hid (And.intro hat (And.intro hwf (And.intro hgd (And.intro hN hp))))
  have HV := Lib.hid hv
  have HTW := Lib.hid hT
  have IH := Lib.hid ih
  have KC : Hid (∀ W, Below w.heap.size w W → W.cell? ⟨b, off, none⟩ = some (.int .i64 t.kind) ∧ W.cell? ⟨b, off + 1, none⟩ = some (.string t.text) ∧ W.cell? ⟨b, off + 3, none⟩ = some (.slice A t.sh.length ca) ∧ W.cell? ⟨b, off + 4, none⟩ = some (.slice B0 t.at_.length cb) ∧ W.cell? ⟨b, off + 5, none⟩ = some (.slice K t.kids.length ck) ∧ b < W.heap.size) := Lib.hid fun W h => by
    have key : ∀ j v, w.cell? ⟨b, j, none⟩ = some v → W.cell? ⟨b, j, none⟩ = some v := fun j v hv => (h.cell (p := ⟨b, j, none⟩) hlt).trans hv
    exact ⟨key _ _ p0, key _ _ p1, key _ _ p3, key _ _ p4, key _ _ p5, Nat.lt_of_lt_of_le hlt h.size⟩
  clear hW1 hb1 p0 p1 p2 p3 p4 p5 hat hlt
  obtain ⟨k0, k1, k3, k4, k5, kl⟩ := KC.out W1 H1.out.2
  have q0 := cell_at hq1 (j := 0) rfl
  have ql := heap_lt hq1
  obtain ⟨x, hks, fx⟩ := one_kid hgd (c := 111) (by rw [hk]; decide) (by omega) (by omega) (by omega)
  have hkl : t.kids.length = 1 := by rw [hks]; rfl
  have HR : Hid (totT t v = (x.kind == 1)) := Lib.hid (by rw [totT_eq]; unfold totK; rw [if_neg (by omega)]; rw [if_pos (by omega)]; rw [hks]; rfl)
  obtain ⟨bk, ok, hKe, px⟩ := HT.out.1.kids.get (i := 0) (t := x) (by rw [hks]; rfl)
  subst hKe
  rw [Nat.zero_add, Nat.zero_mul, Nat.add_zero] at px
  obtain ⟨_, _, _, _, _, _, xl, x0, _⟩ := (px.on H1.out.2).cells
  have kk20 : (t.kind == 20) = false := by rw [hk]; rfl
  have kk22 : (t.kind == 22) = true := by rw [hk]; rfl
  rw [hkl] at k5
  clear hgd hwf hN hp hT ih hk hks hkl hv hq1 fx
  clear px
  go_enter Tryz.func68, Tryz.ntmps68
  go_upto_region 1 with fail
  rw [← HW1.out]
  go_wp2_with fail
  go_ret
  exact ⟨by rw [HR.out]; rfl, H1.out.2⟩
set_option maxRecDepth 100000 in
set_option maxHeartbeats 16000000 in
theorem tot_27 (N : Nat) (ih : TotN N) (t : Tm) (b off : Nat) (v : Int) (w : World) (B Gm Gl n : Nat) (D : DataW Unit) (hN : cnt t ≤ N + 1) (hp : PtrAt w b off t) (hwf : WfT t) (hgd : goodT false t = true) (hv : v = 1 ∨ v = 2) (hT : TotW w B Gm Gl n D) (hk : t.kind = 27) :
    Calls Tryz.prog 68 #[.pointer (some ⟨b, off, none⟩), .int .i64 v, .pointer (some ⟨Gl, 0, none⟩), .pointer (some ⟨Gm, 0, none⟩)] w fun e w' => e = .returned (.bool (totT t v)) ∧ Below w.heap.size w w' := by
  obtain ⟨A, ca, B0, cb, K, ck, hlt, p0, p1, p2, p3, p4, p5, hat⟩ := hp.cells
  obtain ⟨W1, hW1⟩ : ∃ W1, W1 = w.alloc (.cells #[.pointer (some ⟨b, off, none⟩)] TPt) := ⟨_, rfl⟩
  have hq1 : W1.heap[w.heap.size]? = some (.cells #[.pointer (some ⟨b, off, none⟩)] TPt (0, 0)) := by rw [hW1]; exact heap_alloc_new w _
  have hb1 : Below w.heap.size w W1 := by rw [hW1]; exact (Below.refl _ _).alloc (Nat.le_refl _) _
  have HW1 := Lib.hid hW1
  have H1 := Lib.hid (And.intro hq1 hb1)
  have HT := Lib.hid (And.intro hat (And.intro hwf (And.intro hgd (And.intro hN hp))))
  have HV := Lib.hid hv
  have HTW := Lib.hid hT
  have IH := Lib.hid ih
  have KC : Hid (∀ W, Below w.heap.size w W → W.cell? ⟨b, off, none⟩ = some (.int .i64 t.kind) ∧ W.cell? ⟨b, off + 1, none⟩ = some (.string t.text) ∧ W.cell? ⟨b, off + 3, none⟩ = some (.slice A t.sh.length ca) ∧ W.cell? ⟨b, off + 4, none⟩ = some (.slice B0 t.at_.length cb) ∧ W.cell? ⟨b, off + 5, none⟩ = some (.slice K t.kids.length ck) ∧ b < W.heap.size) := Lib.hid fun W h => by
    have key : ∀ j v, w.cell? ⟨b, j, none⟩ = some v → W.cell? ⟨b, j, none⟩ = some v := fun j v hv => (h.cell (p := ⟨b, j, none⟩) hlt).trans hv
    exact ⟨key _ _ p0, key _ _ p1, key _ _ p3, key _ _ p4, key _ _ p5, Nat.lt_of_lt_of_le hlt h.size⟩
  clear hW1 hb1 p0 p1 p2 p3 p4 p5 hat hlt
  obtain ⟨k0, k1, k3, k4, k5, kl⟩ := KC.out W1 H1.out.2
  have q0 := cell_at hq1 (j := 0) rfl
  have ql := heap_lt hq1
  obtain ⟨x, hks, fx⟩ := one_kid hgd (c := 118) (by rw [hk]; decide) (by omega) (by omega) (by omega)
  have hkl : t.kids.length = 1 := by rw [hks]; rfl
  have HR : Hid (totT t v = totT x 2) := Lib.hid (by rw [totT_eq]; unfold totK; rw [if_neg (by omega)]; rw [if_neg (by omega)]; rw [if_pos (by omega)]; rw [hks]; rfl)
  have HK0 : Hid (∀ v' W, (v' = 1 ∨ v' = 2) → Below W1.heap.size W1 W → Calls Tryz.prog 69 #[.int .i64 0, .int .i64 v', .pointer (some ⟨Gl, 0, none⟩), .pointer (some ⟨w.heap.size, 0, none⟩)] W fun e w' => e = .returned (.bool (totT x v')) ∧ Below W.heap.size W w') := Lib.hid fun v' W hv' hb =>
    tkid_any N ih t x 0 b off v' W B Gm Gl n w.heap.size D (hp.on (H1.out.2.then_ hb)) hwf (by rw [hks]; rfl) (by have h1 := cnt_kid (t := t) (i := 0) (k := x) (by rw [hks]; rfl); omega) (hwf.node.each x (by rw [hks]; simp)) (good_sub hgd (by omega) (i := 0) (by rw [hks]; rfl)) hv' (hT.on (H1.out.2.then_ hb)) ((hb.block _ (heap_lt H1.out.1)).trans H1.out.1)
  have kk20 : (t.kind == 20) = false := by rw [hk]; rfl
  have kk22 : (t.kind == 22) = false := by rw [hk]; rfl
  have kk27 : (t.kind == 27) = true := by rw [hk]; rfl
  rw [hkl] at k5
  clear hgd hwf hN hp hT ih hk hks hkl hv hq1 fx
  go_enter Tryz.func68, Tryz.ntmps68
  go_upto_region 1 with fail
  rw [← HW1.out]
  go_wp2_with fail
  refine (HK0.out 2 W1 (.inr rfl) (Below.refl _ _)).mono ?_
  rintro e w1 ⟨rfl, hb⟩
  have HB1 := Lib.hid (((Below.refl _ _)).then_ hb)
  clear hb
  go_wp2_with fail
  go_ret
  exact ⟨by rw [HR.out]; try rfl, H1.out.2.then_ (HB1.out)⟩
set_option maxRecDepth 100000 in
set_option maxHeartbeats 16000000 in
theorem tot_29 (N : Nat) (ih : TotN N) (t : Tm) (b off : Nat) (v : Int) (w : World) (B Gm Gl n : Nat) (D : DataW Unit) (hN : cnt t ≤ N + 1) (hp : PtrAt w b off t) (hwf : WfT t) (hgd : goodT false t = true) (hv : v = 1 ∨ v = 2) (hT : TotW w B Gm Gl n D) (hk : t.kind = 29) :
    Calls Tryz.prog 68 #[.pointer (some ⟨b, off, none⟩), .int .i64 v, .pointer (some ⟨Gl, 0, none⟩), .pointer (some ⟨Gm, 0, none⟩)] w fun e w' => e = .returned (.bool (totT t v)) ∧ Below w.heap.size w w' := by
  obtain ⟨A, ca, B0, cb, K, ck, hlt, p0, p1, p2, p3, p4, p5, hat⟩ := hp.cells
  obtain ⟨W1, hW1⟩ : ∃ W1, W1 = w.alloc (.cells #[.pointer (some ⟨b, off, none⟩)] TPt) := ⟨_, rfl⟩
  have hq1 : W1.heap[w.heap.size]? = some (.cells #[.pointer (some ⟨b, off, none⟩)] TPt (0, 0)) := by rw [hW1]; exact heap_alloc_new w _
  have hb1 : Below w.heap.size w W1 := by rw [hW1]; exact (Below.refl _ _).alloc (Nat.le_refl _) _
  have HW1 := Lib.hid hW1
  have H1 := Lib.hid (And.intro hq1 hb1)
  have HT := Lib.hid (And.intro hat (And.intro hwf (And.intro hgd (And.intro hN hp))))
  have HV := Lib.hid hv
  have HTW := Lib.hid hT
  have IH := Lib.hid ih
  have KC : Hid (∀ W, Below w.heap.size w W → W.cell? ⟨b, off, none⟩ = some (.int .i64 t.kind) ∧ W.cell? ⟨b, off + 1, none⟩ = some (.string t.text) ∧ W.cell? ⟨b, off + 3, none⟩ = some (.slice A t.sh.length ca) ∧ W.cell? ⟨b, off + 4, none⟩ = some (.slice B0 t.at_.length cb) ∧ W.cell? ⟨b, off + 5, none⟩ = some (.slice K t.kids.length ck) ∧ b < W.heap.size) := Lib.hid fun W h => by
    have key : ∀ j v, w.cell? ⟨b, j, none⟩ = some v → W.cell? ⟨b, j, none⟩ = some v := fun j v hv => (h.cell (p := ⟨b, j, none⟩) hlt).trans hv
    exact ⟨key _ _ p0, key _ _ p1, key _ _ p3, key _ _ p4, key _ _ p5, Nat.lt_of_lt_of_le hlt h.size⟩
  clear hW1 hb1 p0 p1 p2 p3 p4 p5 hat hlt
  obtain ⟨k0, k1, k3, k4, k5, kl⟩ := KC.out W1 H1.out.2
  have q0 := cell_at hq1 (j := 0) rfl
  have ql := heap_lt hq1
  obtain ⟨x, y, hks, fx, fy⟩ := two_kids hgd (c := 118) (d := 118) (by rw [hk]; decide) (by omega) (by omega) (by omega)
  have hkl : t.kids.length = 2 := by rw [hks]; rfl
  have HR : Hid (totT t v = (totT y v && totT x 1)) := Lib.hid (by rw [totT_eq]; unfold totK; rw [if_neg (by omega)]; rw [if_neg (by omega)]; rw [if_neg (by omega)]; rw [if_pos (by omega)]; rw [hks]; rfl)
  have HK0 : Hid (∀ v' W, (v' = 1 ∨ v' = 2) → Below W1.heap.size W1 W → Calls Tryz.prog 69 #[.int .i64 0, .int .i64 v', .pointer (some ⟨Gl, 0, none⟩), .pointer (some ⟨w.heap.size, 0, none⟩)] W fun e w' => e = .returned (.bool (totT x v')) ∧ Below W.heap.size W w') := Lib.hid fun v' W hv' hb =>
    tkid_any N ih t x 0 b off v' W B Gm Gl n w.heap.size D (hp.on (H1.out.2.then_ hb)) hwf (by rw [hks]; rfl) (by have h1 := cnt_kid (t := t) (i := 0) (k := x) (by rw [hks]; rfl); omega) (hwf.node.each x (by rw [hks]; simp)) (good_sub hgd (by omega) (i := 0) (by rw [hks]; rfl)) hv' (hT.on (H1.out.2.then_ hb)) ((hb.block _ (heap_lt H1.out.1)).trans H1.out.1)
  have HK1 : Hid (∀ v' W, (v' = 1 ∨ v' = 2) → Below W1.heap.size W1 W → Calls Tryz.prog 69 #[.int .i64 1, .int .i64 v', .pointer (some ⟨Gl, 0, none⟩), .pointer (some ⟨w.heap.size, 0, none⟩)] W fun e w' => e = .returned (.bool (totT y v')) ∧ Below W.heap.size W w') := Lib.hid fun v' W hv' hb =>
    tkid_any N ih t y 1 b off v' W B Gm Gl n w.heap.size D (hp.on (H1.out.2.then_ hb)) hwf (by rw [hks]; rfl) (by have h1 := cnt_kid (t := t) (i := 1) (k := y) (by rw [hks]; rfl); omega) (hwf.node.each y (by rw [hks]; simp)) (good_sub hgd (by omega) (i := 1) (by rw [hks]; rfl)) hv' (hT.on (H1.out.2.then_ hb)) ((hb.block _ (heap_lt H1.out.1)).trans H1.out.1)
  have kk20 : (t.kind == 20) = false := by rw [hk]; rfl
  have kk22 : (t.kind == 22) = false := by rw [hk]; rfl
  have kk27 : (t.kind == 27) = false := by rw [hk]; rfl
  have kk29 : (t.kind == 29) = true := by rw [hk]; rfl
  rw [hkl] at k5
  clear hgd hwf hN hp hT ih hk hks hkl hv hq1 fx fy
  go_enter Tryz.func68, Tryz.ntmps68
  go_upto_region 1 with fail
  rw [← HW1.out]
  go_wp2_with fail
  refine (HK1.out v W1 HV.out (Below.refl _ _)).mono ?_
  rintro e w2 ⟨rfl, hb⟩
  have HB2 := Lib.hid (((Below.refl _ _)).then_ hb)
  clear hb
  cases hc : totT y v
  · have HC := Lib.hid hc
    clear hc
    go_wp2_with fail
    go_ret
    exact ⟨by rw [HR.out, HC.out]; try rfl, H1.out.2.then_ (HB2.out)⟩
  · have HC := Lib.hid hc
    clear hc
    go_wp2_with fail
    refine (HK0.out 1 w2 (.inl rfl) HB2.out).mono ?_
    rintro e w3 ⟨rfl, hb⟩
    have HB3 := Lib.hid ((HB2.out).then_ hb)
    clear hb
    go_wp2_with fail
    go_ret
    exact ⟨by rw [HR.out, HC.out, Bool.true_and]; try rfl, H1.out.2.then_ (HB3.out)⟩
set_option maxRecDepth 100000 in
set_option maxHeartbeats 16000000 in
theorem tot_46 (N : Nat) (ih : TotN N) (t : Tm) (b off : Nat) (v : Int) (w : World) (B Gm Gl n : Nat) (D : DataW Unit) (hN : cnt t ≤ N + 1) (hp : PtrAt w b off t) (hwf : WfT t) (hgd : goodT false t = true) (hv : v = 1 ∨ v = 2) (hT : TotW w B Gm Gl n D) (hk : t.kind = 46) :
    Calls Tryz.prog 68 #[.pointer (some ⟨b, off, none⟩), .int .i64 v, .pointer (some ⟨Gl, 0, none⟩), .pointer (some ⟨Gm, 0, none⟩)] w fun e w' => e = .returned (.bool (totT t v)) ∧ Below w.heap.size w w' := by
  obtain ⟨A, ca, B0, cb, K, ck, hlt, p0, p1, p2, p3, p4, p5, hat⟩ := hp.cells
  obtain ⟨W1, hW1⟩ : ∃ W1, W1 = w.alloc (.cells #[.pointer (some ⟨b, off, none⟩)] TPt) := ⟨_, rfl⟩
  have hq1 : W1.heap[w.heap.size]? = some (.cells #[.pointer (some ⟨b, off, none⟩)] TPt (0, 0)) := by rw [hW1]; exact heap_alloc_new w _
  have hb1 : Below w.heap.size w W1 := by rw [hW1]; exact (Below.refl _ _).alloc (Nat.le_refl _) _
  have HW1 := Lib.hid hW1
  have H1 := Lib.hid (And.intro hq1 hb1)
  have HT := Lib.hid (And.intro hat (And.intro hwf (And.intro hgd (And.intro hN hp))))
  have HV := Lib.hid hv
  have HTW := Lib.hid hT
  have IH := Lib.hid ih
  have KC : Hid (∀ W, Below w.heap.size w W → W.cell? ⟨b, off, none⟩ = some (.int .i64 t.kind) ∧ W.cell? ⟨b, off + 1, none⟩ = some (.string t.text) ∧ W.cell? ⟨b, off + 3, none⟩ = some (.slice A t.sh.length ca) ∧ W.cell? ⟨b, off + 4, none⟩ = some (.slice B0 t.at_.length cb) ∧ W.cell? ⟨b, off + 5, none⟩ = some (.slice K t.kids.length ck) ∧ b < W.heap.size) := Lib.hid fun W h => by
    have key : ∀ j v, w.cell? ⟨b, j, none⟩ = some v → W.cell? ⟨b, j, none⟩ = some v := fun j v hv => (h.cell (p := ⟨b, j, none⟩) hlt).trans hv
    exact ⟨key _ _ p0, key _ _ p1, key _ _ p3, key _ _ p4, key _ _ p5, Nat.lt_of_lt_of_le hlt h.size⟩
  clear hW1 hb1 p0 p1 p2 p3 p4 p5 hat hlt
  obtain ⟨k0, k1, k3, k4, k5, kl⟩ := KC.out W1 H1.out.2
  have q0 := cell_at hq1 (j := 0) rfl
  have ql := heap_lt hq1
  obtain ⟨x, y, hks, fx, fy⟩ := two_kids hgd (c := 118) (d := 118) (by rw [hk]; decide) (by omega) (by omega) (by omega)
  have hkl : t.kids.length = 2 := by rw [hks]; rfl
  have HR : Hid (totT t v = (totT y v && totT x 1)) := Lib.hid (by rw [totT_eq]; unfold totK; rw [if_neg (by omega)]; rw [if_neg (by omega)]; rw [if_neg (by omega)]; rw [if_pos (by omega)]; rw [hks]; rfl)
  have HK0 : Hid (∀ v' W, (v' = 1 ∨ v' = 2) → Below W1.heap.size W1 W → Calls Tryz.prog 69 #[.int .i64 0, .int .i64 v', .pointer (some ⟨Gl, 0, none⟩), .pointer (some ⟨w.heap.size, 0, none⟩)] W fun e w' => e = .returned (.bool (totT x v')) ∧ Below W.heap.size W w') := Lib.hid fun v' W hv' hb =>
    tkid_any N ih t x 0 b off v' W B Gm Gl n w.heap.size D (hp.on (H1.out.2.then_ hb)) hwf (by rw [hks]; rfl) (by have h1 := cnt_kid (t := t) (i := 0) (k := x) (by rw [hks]; rfl); omega) (hwf.node.each x (by rw [hks]; simp)) (good_sub hgd (by omega) (i := 0) (by rw [hks]; rfl)) hv' (hT.on (H1.out.2.then_ hb)) ((hb.block _ (heap_lt H1.out.1)).trans H1.out.1)
  have HK1 : Hid (∀ v' W, (v' = 1 ∨ v' = 2) → Below W1.heap.size W1 W → Calls Tryz.prog 69 #[.int .i64 1, .int .i64 v', .pointer (some ⟨Gl, 0, none⟩), .pointer (some ⟨w.heap.size, 0, none⟩)] W fun e w' => e = .returned (.bool (totT y v')) ∧ Below W.heap.size W w') := Lib.hid fun v' W hv' hb =>
    tkid_any N ih t y 1 b off v' W B Gm Gl n w.heap.size D (hp.on (H1.out.2.then_ hb)) hwf (by rw [hks]; rfl) (by have h1 := cnt_kid (t := t) (i := 1) (k := y) (by rw [hks]; rfl); omega) (hwf.node.each y (by rw [hks]; simp)) (good_sub hgd (by omega) (i := 1) (by rw [hks]; rfl)) hv' (hT.on (H1.out.2.then_ hb)) ((hb.block _ (heap_lt H1.out.1)).trans H1.out.1)
  have kk20 : (t.kind == 20) = false := by rw [hk]; rfl
  have kk22 : (t.kind == 22) = false := by rw [hk]; rfl
  have kk27 : (t.kind == 27) = false := by rw [hk]; rfl
  have kk29 : (t.kind == 29) = false := by rw [hk]; rfl
  have kk46 : (t.kind == 46) = true := by rw [hk]; rfl
  rw [hkl] at k5
  clear hgd hwf hN hp hT ih hk hks hkl hv hq1 fx fy
  go_enter Tryz.func68, Tryz.ntmps68
  go_upto_region 1 with fail
  rw [← HW1.out]
  go_wp2_with fail
  refine (HK1.out v W1 HV.out (Below.refl _ _)).mono ?_
  rintro e w4 ⟨rfl, hb⟩
  have HB4 := Lib.hid (((Below.refl _ _)).then_ hb)
  clear hb
  cases hc : totT y v
  · have HC := Lib.hid hc
    clear hc
    go_wp2_with fail
    go_ret
    exact ⟨by rw [HR.out, HC.out]; try rfl, H1.out.2.then_ (HB4.out)⟩
  · have HC := Lib.hid hc
    clear hc
    go_wp2_with fail
    refine (HK0.out 1 w4 (.inl rfl) HB4.out).mono ?_
    rintro e w5 ⟨rfl, hb⟩
    have HB5 := Lib.hid ((HB4.out).then_ hb)
    clear hb
    go_wp2_with fail
    go_ret
    exact ⟨by rw [HR.out, HC.out, Bool.true_and]; try rfl, H1.out.2.then_ (HB5.out)⟩
set_option maxRecDepth 100000 in
set_option maxHeartbeats 16000000 in
theorem tot_31 (N : Nat) (ih : TotN N) (t : Tm) (b off : Nat) (v : Int) (w : World) (B Gm Gl n : Nat) (D : DataW Unit) (hN : cnt t ≤ N + 1) (hp : PtrAt w b off t) (hwf : WfT t) (hgd : goodT false t = true) (hv : v = 1 ∨ v = 2) (hT : TotW w B Gm Gl n D) (hk : t.kind = 31) :
    Calls Tryz.prog 68 #[.pointer (some ⟨b, off, none⟩), .int .i64 v, .pointer (some ⟨Gl, 0, none⟩), .pointer (some ⟨Gm, 0, none⟩)] w fun e w' => e = .returned (.bool (totT t v)) ∧ Below w.heap.size w w' := by
  obtain ⟨A, ca, B0, cb, K, ck, hlt, p0, p1, p2, p3, p4, p5, hat⟩ := hp.cells
  obtain ⟨W1, hW1⟩ : ∃ W1, W1 = w.alloc (.cells #[.pointer (some ⟨b, off, none⟩)] TPt) := ⟨_, rfl⟩
  have hq1 : W1.heap[w.heap.size]? = some (.cells #[.pointer (some ⟨b, off, none⟩)] TPt (0, 0)) := by rw [hW1]; exact heap_alloc_new w _
  have hb1 : Below w.heap.size w W1 := by rw [hW1]; exact (Below.refl _ _).alloc (Nat.le_refl _) _
  have HW1 := Lib.hid hW1
  have H1 := Lib.hid (And.intro hq1 hb1)
  have HT := Lib.hid (And.intro hat (And.intro hwf (And.intro hgd (And.intro hN hp))))
  have HV := Lib.hid hv
  have HTW := Lib.hid hT
  have IH := Lib.hid ih
  have KC : Hid (∀ W, Below w.heap.size w W → W.cell? ⟨b, off, none⟩ = some (.int .i64 t.kind) ∧ W.cell? ⟨b, off + 1, none⟩ = some (.string t.text) ∧ W.cell? ⟨b, off + 3, none⟩ = some (.slice A t.sh.length ca) ∧ W.cell? ⟨b, off + 4, none⟩ = some (.slice B0 t.at_.length cb) ∧ W.cell? ⟨b, off + 5, none⟩ = some (.slice K t.kids.length ck) ∧ b < W.heap.size) := Lib.hid fun W h => by
    have key : ∀ j v, w.cell? ⟨b, j, none⟩ = some v → W.cell? ⟨b, j, none⟩ = some v := fun j v hv => (h.cell (p := ⟨b, j, none⟩) hlt).trans hv
    exact ⟨key _ _ p0, key _ _ p1, key _ _ p3, key _ _ p4, key _ _ p5, Nat.lt_of_lt_of_le hlt h.size⟩
  clear hW1 hb1 p0 p1 p2 p3 p4 p5 hat hlt
  obtain ⟨k0, k1, k3, k4, k5, kl⟩ := KC.out W1 H1.out.2
  have q0 := cell_at hq1 (j := 0) rfl
  have ql := heap_lt hq1
  obtain ⟨x, y, hks, fx, fy⟩ := two_kids hgd (c := 118) (d := 118) (by rw [hk]; decide) (by omega) (by omega) (by omega)
  have hkl : t.kids.length = 2 := by rw [hks]; rfl
  have HR : Hid (totT t v = (totT y 1 && totT x v)) := Lib.hid (by rw [totT_eq]; unfold totK; rw [if_neg (by omega)]; rw [if_neg (by omega)]; rw [if_neg (by omega)]; rw [if_neg (by omega)]; rw [if_pos (by omega)]; rw [hks]; rfl)
  have HK0 : Hid (∀ v' W, (v' = 1 ∨ v' = 2) → Below W1.heap.size W1 W → Calls Tryz.prog 69 #[.int .i64 0, .int .i64 v', .pointer (some ⟨Gl, 0, none⟩), .pointer (some ⟨w.heap.size, 0, none⟩)] W fun e w' => e = .returned (.bool (totT x v')) ∧ Below W.heap.size W w') := Lib.hid fun v' W hv' hb =>
    tkid_any N ih t x 0 b off v' W B Gm Gl n w.heap.size D (hp.on (H1.out.2.then_ hb)) hwf (by rw [hks]; rfl) (by have h1 := cnt_kid (t := t) (i := 0) (k := x) (by rw [hks]; rfl); omega) (hwf.node.each x (by rw [hks]; simp)) (good_sub hgd (by omega) (i := 0) (by rw [hks]; rfl)) hv' (hT.on (H1.out.2.then_ hb)) ((hb.block _ (heap_lt H1.out.1)).trans H1.out.1)
  have HK1 : Hid (∀ v' W, (v' = 1 ∨ v' = 2) → Below W1.heap.size W1 W → Calls Tryz.prog 69 #[.int .i64 1, .int .i64 v', .pointer (some ⟨Gl, 0, none⟩), .pointer (some ⟨w.heap.size, 0, none⟩)] W fun e w' => e = .returned (.bool (totT y v')) ∧ Below W.heap.size W w') := Lib.hid fun v' W hv' hb =>
    tkid_any N ih t y 1 b off v' W B Gm Gl n w.heap.size D (hp.on (H1.out.2.then_ hb)) hwf (by rw [hks]; rfl) (by have h1 := cnt_kid (t := t) (i := 1) (k := y) (by rw [hks]; rfl); omega) (hwf.node.each y (by rw [hks]; simp)) (good_sub hgd (by omega) (i := 1) (by rw [hks]; rfl)) hv' (hT.on (H1.out.2.then_ hb)) ((hb.block _ (heap_lt H1.out.1)).trans H1.out.1)
  have kk20 : (t.kind == 20) = false := by rw [hk]; rfl
  have kk22 : (t.kind == 22) = false := by rw [hk]; rfl
  have kk27 : (t.kind == 27) = false := by rw [hk]; rfl
  have kk29 : (t.kind == 29) = false := by rw [hk]; rfl
  have kk46 : (t.kind == 46) = false := by rw [hk]; rfl
  have kk31 : (t.kind == 31) = true := by rw [hk]; rfl
  rw [hkl] at k5
  clear hgd hwf hN hp hT ih hk hks hkl hv hq1 fx fy
  go_enter Tryz.func68, Tryz.ntmps68
  go_upto_region 1 with fail
  rw [← HW1.out]
  go_wp2_with fail
  refine (HK1.out 1 W1 (.inl rfl) (Below.refl _ _)).mono ?_
  rintro e w6 ⟨rfl, hb⟩
  have HB6 := Lib.hid (((Below.refl _ _)).then_ hb)
  clear hb
  cases hc : totT y 1
  · have HC := Lib.hid hc
    clear hc
    go_wp2_with fail
    go_ret
    exact ⟨by rw [HR.out, HC.out]; try rfl, H1.out.2.then_ (HB6.out)⟩
  · have HC := Lib.hid hc
    clear hc
    go_wp2_with fail
    refine (HK0.out v w6 HV.out HB6.out).mono ?_
    rintro e w7 ⟨rfl, hb⟩
    have HB7 := Lib.hid ((HB6.out).then_ hb)
    clear hb
    go_wp2_with fail
    go_ret
    exact ⟨by rw [HR.out, HC.out, Bool.true_and]; try rfl, H1.out.2.then_ (HB7.out)⟩
set_option maxRecDepth 100000 in
set_option maxHeartbeats 16000000 in
theorem tot_44 (N : Nat) (ih : TotN N) (t : Tm) (b off : Nat) (v : Int) (w : World) (B Gm Gl n : Nat) (D : DataW Unit) (hN : cnt t ≤ N + 1) (hp : PtrAt w b off t) (hwf : WfT t) (hgd : goodT false t = true) (hv : v = 1 ∨ v = 2) (hT : TotW w B Gm Gl n D) (hk : t.kind = 44) :
    Calls Tryz.prog 68 #[.pointer (some ⟨b, off, none⟩), .int .i64 v, .pointer (some ⟨Gl, 0, none⟩), .pointer (some ⟨Gm, 0, none⟩)] w fun e w' => e = .returned (.bool (totT t v)) ∧ Below w.heap.size w w' := by
  obtain ⟨A, ca, B0, cb, K, ck, hlt, p0, p1, p2, p3, p4, p5, hat⟩ := hp.cells
  obtain ⟨W1, hW1⟩ : ∃ W1, W1 = w.alloc (.cells #[.pointer (some ⟨b, off, none⟩)] TPt) := ⟨_, rfl⟩
  have hq1 : W1.heap[w.heap.size]? = some (.cells #[.pointer (some ⟨b, off, none⟩)] TPt (0, 0)) := by rw [hW1]; exact heap_alloc_new w _
  have hb1 : Below w.heap.size w W1 := by rw [hW1]; exact (Below.refl _ _).alloc (Nat.le_refl _) _
  have HW1 := Lib.hid hW1
  have H1 := Lib.hid (And.intro hq1 hb1)
  have HT := Lib.hid (And.intro hat (And.intro hwf (And.intro hgd (And.intro hN hp))))
  have HV := Lib.hid hv
  have HTW := Lib.hid hT
  have IH := Lib.hid ih
  have KC : Hid (∀ W, Below w.heap.size w W → W.cell? ⟨b, off, none⟩ = some (.int .i64 t.kind) ∧ W.cell? ⟨b, off + 1, none⟩ = some (.string t.text) ∧ W.cell? ⟨b, off + 3, none⟩ = some (.slice A t.sh.length ca) ∧ W.cell? ⟨b, off + 4, none⟩ = some (.slice B0 t.at_.length cb) ∧ W.cell? ⟨b, off + 5, none⟩ = some (.slice K t.kids.length ck) ∧ b < W.heap.size) := Lib.hid fun W h => by
    have key : ∀ j v, w.cell? ⟨b, j, none⟩ = some v → W.cell? ⟨b, j, none⟩ = some v := fun j v hv => (h.cell (p := ⟨b, j, none⟩) hlt).trans hv
    exact ⟨key _ _ p0, key _ _ p1, key _ _ p3, key _ _ p4, key _ _ p5, Nat.lt_of_lt_of_le hlt h.size⟩
  clear hW1 hb1 p0 p1 p2 p3 p4 p5 hat hlt
  obtain ⟨k0, k1, k3, k4, k5, kl⟩ := KC.out W1 H1.out.2
  have q0 := cell_at hq1 (j := 0) rfl
  have ql := heap_lt hq1
  obtain ⟨x, y, hks, fx, fy⟩ := two_kids hgd (c := 118) (d := 118) (by rw [hk]; decide) (by omega) (by omega) (by omega)
  have hkl : t.kids.length = 2 := by rw [hks]; rfl
  have HR : Hid (totT t v = (totT y 1 && totT x 2)) := Lib.hid (by rw [totT_eq]; unfold totK; rw [if_neg (by omega)]; rw [if_neg (by omega)]; rw [if_neg (by omega)]; rw [if_neg (by omega)]; rw [if_neg (by omega)]; rw [if_pos (by omega)]; rw [hks]; rfl)
  have HK0 : Hid (∀ v' W, (v' = 1 ∨ v' = 2) → Below W1.heap.size W1 W → Calls Tryz.prog 69 #[.int .i64 0, .int .i64 v', .pointer (some ⟨Gl, 0, none⟩), .pointer (some ⟨w.heap.size, 0, none⟩)] W fun e w' => e = .returned (.bool (totT x v')) ∧ Below W.heap.size W w') := Lib.hid fun v' W hv' hb =>
    tkid_any N ih t x 0 b off v' W B Gm Gl n w.heap.size D (hp.on (H1.out.2.then_ hb)) hwf (by rw [hks]; rfl) (by have h1 := cnt_kid (t := t) (i := 0) (k := x) (by rw [hks]; rfl); omega) (hwf.node.each x (by rw [hks]; simp)) (good_sub hgd (by omega) (i := 0) (by rw [hks]; rfl)) hv' (hT.on (H1.out.2.then_ hb)) ((hb.block _ (heap_lt H1.out.1)).trans H1.out.1)
  have HK1 : Hid (∀ v' W, (v' = 1 ∨ v' = 2) → Below W1.heap.size W1 W → Calls Tryz.prog 69 #[.int .i64 1, .int .i64 v', .pointer (some ⟨Gl, 0, none⟩), .pointer (some ⟨w.heap.size, 0, none⟩)] W fun e w' => e = .returned (.bool (totT y v')) ∧ Below W.heap.size W w') := Lib.hid fun v' W hv' hb =>
    tkid_any N ih t y 1 b off v' W B Gm Gl n w.heap.size D (hp.on (H1.out.2.then_ hb)) hwf (by rw [hks]; rfl) (by have h1 := cnt_kid (t := t) (i := 1) (k := y) (by rw [hks]; rfl); omega) (hwf.node.each y (by rw [hks]; simp)) (good_sub hgd (by omega) (i := 1) (by rw [hks]; rfl)) hv' (hT.on (H1.out.2.then_ hb)) ((hb.block _ (heap_lt H1.out.1)).trans H1.out.1)
  have kk20 : (t.kind == 20) = false := by rw [hk]; rfl
  have kk22 : (t.kind == 22) = false := by rw [hk]; rfl
  have kk27 : (t.kind == 27) = false := by rw [hk]; rfl
  have kk29 : (t.kind == 29) = false := by rw [hk]; rfl
  have kk46 : (t.kind == 46) = false := by rw [hk]; rfl
  have kk31 : (t.kind == 31) = false := by rw [hk]; rfl
  have kk44 : (t.kind == 44) = true := by rw [hk]; rfl
  rw [hkl] at k5
  clear hgd hwf hN hp hT ih hk hks hkl hv hq1 fx fy
  go_enter Tryz.func68, Tryz.ntmps68
  go_upto_region 1 with fail
  rw [← HW1.out]
  go_wp2_with fail
  refine (HK1.out 1 W1 (.inl rfl) (Below.refl _ _)).mono ?_
  rintro e w8 ⟨rfl, hb⟩
  have HB8 := Lib.hid (((Below.refl _ _)).then_ hb)
  clear hb
  cases hc : totT y 1
  · have HC := Lib.hid hc
    clear hc
    go_wp2_with fail
    go_ret
    exact ⟨by rw [HR.out, HC.out]; try rfl, H1.out.2.then_ (HB8.out)⟩
  · have HC := Lib.hid hc
    clear hc
    go_wp2_with fail
    refine (HK0.out 2 w8 (.inr rfl) HB8.out).mono ?_
    rintro e w9 ⟨rfl, hb⟩
    have HB9 := Lib.hid ((HB8.out).then_ hb)
    clear hb
    go_wp2_with fail
    go_ret
    exact ⟨by rw [HR.out, HC.out, Bool.true_and]; try rfl, H1.out.2.then_ (HB9.out)⟩
set_option maxRecDepth 100000 in
set_option maxHeartbeats 16000000 in
theorem tot_45 (N : Nat) (ih : TotN N) (t : Tm) (b off : Nat) (v : Int) (w : World) (B Gm Gl n : Nat) (D : DataW Unit) (hN : cnt t ≤ N + 1) (hp : PtrAt w b off t) (hwf : WfT t) (hgd : goodT false t = true) (hv : v = 1 ∨ v = 2) (hT : TotW w B Gm Gl n D) (hk : t.kind = 45) :
    Calls Tryz.prog 68 #[.pointer (some ⟨b, off, none⟩), .int .i64 v, .pointer (some ⟨Gl, 0, none⟩), .pointer (some ⟨Gm, 0, none⟩)] w fun e w' => e = .returned (.bool (totT t v)) ∧ Below w.heap.size w w' := by
  obtain ⟨A, ca, B0, cb, K, ck, hlt, p0, p1, p2, p3, p4, p5, hat⟩ := hp.cells
  obtain ⟨W1, hW1⟩ : ∃ W1, W1 = w.alloc (.cells #[.pointer (some ⟨b, off, none⟩)] TPt) := ⟨_, rfl⟩
  have hq1 : W1.heap[w.heap.size]? = some (.cells #[.pointer (some ⟨b, off, none⟩)] TPt (0, 0)) := by rw [hW1]; exact heap_alloc_new w _
  have hb1 : Below w.heap.size w W1 := by rw [hW1]; exact (Below.refl _ _).alloc (Nat.le_refl _) _
  have HW1 := Lib.hid hW1
  have H1 := Lib.hid (And.intro hq1 hb1)
  have HT := Lib.hid (And.intro hat (And.intro hwf (And.intro hgd (And.intro hN hp))))
  have HV := Lib.hid hv
  have HTW := Lib.hid hT
  have IH := Lib.hid ih
  have KC : Hid (∀ W, Below w.heap.size w W → W.cell? ⟨b, off, none⟩ = some (.int .i64 t.kind) ∧ W.cell? ⟨b, off + 1, none⟩ = some (.string t.text) ∧ W.cell? ⟨b, off + 3, none⟩ = some (.slice A t.sh.length ca) ∧ W.cell? ⟨b, off + 4, none⟩ = some (.slice B0 t.at_.length cb) ∧ W.cell? ⟨b, off + 5, none⟩ = some (.slice K t.kids.length ck) ∧ b < W.heap.size) := Lib.hid fun W h => by
    have key : ∀ j v, w.cell? ⟨b, j, none⟩ = some v → W.cell? ⟨b, j, none⟩ = some v := fun j v hv => (h.cell (p := ⟨b, j, none⟩) hlt).trans hv
    exact ⟨key _ _ p0, key _ _ p1, key _ _ p3, key _ _ p4, key _ _ p5, Nat.lt_of_lt_of_le hlt h.size⟩
  clear hW1 hb1 p0 p1 p2 p3 p4 p5 hat hlt
  obtain ⟨k0, k1, k3, k4, k5, kl⟩ := KC.out W1 H1.out.2
  have q0 := cell_at hq1 (j := 0) rfl
  have ql := heap_lt hq1
  obtain ⟨x, y, z, hks⟩ := three_kids hgd (c := 118) (d := 118) (e := 118) (by rw [hk]; decide) (by omega) (by omega) (by omega)
  have hkl : t.kids.length = 3 := by rw [hks]; rfl
  have HR : Hid (totT t v = ((totT x v && totT z v) && totT y 2)) := Lib.hid (by rw [totT_eq]; unfold totK; rw [if_neg (by omega)]; rw [if_neg (by omega)]; rw [if_neg (by omega)]; rw [if_neg (by omega)]; rw [if_neg (by omega)]; rw [if_neg (by omega)]; rw [if_pos (by omega)]; rw [hks]; rfl)
  have HK0 : Hid (∀ v' W, (v' = 1 ∨ v' = 2) → Below W1.heap.size W1 W → Calls Tryz.prog 69 #[.int .i64 0, .int .i64 v', .pointer (some ⟨Gl, 0, none⟩), .pointer (some ⟨w.heap.size, 0, none⟩)] W fun e w' => e = .returned (.bool (totT x v')) ∧ Below W.heap.size W w') := Lib.hid fun v' W hv' hb =>
    tkid_any N ih t x 0 b off v' W B Gm Gl n w.heap.size D (hp.on (H1.out.2.then_ hb)) hwf (by rw [hks]; rfl) (by have h1 := cnt_kid (t := t) (i := 0) (k := x) (by rw [hks]; rfl); omega) (hwf.node.each x (by rw [hks]; simp)) (good_sub hgd (by omega) (i := 0) (by rw [hks]; rfl)) hv' (hT.on (H1.out.2.then_ hb)) ((hb.block _ (heap_lt H1.out.1)).trans H1.out.1)
  have HK1 : Hid (∀ v' W, (v' = 1 ∨ v' = 2) → Below W1.heap.size W1 W → Calls Tryz.prog 69 #[.int .i64 1, .int .i64 v', .pointer (some ⟨Gl, 0, none⟩), .pointer (some ⟨w.heap.size, 0, none⟩)] W fun e w' => e = .returned (.bool (totT y v')) ∧ Below W.heap.size W w') := Lib.hid fun v' W hv' hb =>
    tkid_any N ih t y 1 b off v' W B Gm Gl n w.heap.size D (hp.on (H1.out.2.then_ hb)) hwf (by rw [hks]; rfl) (by have h1 := cnt_kid (t := t) (i := 1) (k := y) (by rw [hks]; rfl); omega) (hwf.node.each y (by rw [hks]; simp)) (good_sub hgd (by omega) (i := 1) (by rw [hks]; rfl)) hv' (hT.on (H1.out.2.then_ hb)) ((hb.block _ (heap_lt H1.out.1)).trans H1.out.1)
  have HK2 : Hid (∀ v' W, (v' = 1 ∨ v' = 2) → Below W1.heap.size W1 W → Calls Tryz.prog 69 #[.int .i64 2, .int .i64 v', .pointer (some ⟨Gl, 0, none⟩), .pointer (some ⟨w.heap.size, 0, none⟩)] W fun e w' => e = .returned (.bool (totT z v')) ∧ Below W.heap.size W w') := Lib.hid fun v' W hv' hb =>
    tkid_any N ih t z 2 b off v' W B Gm Gl n w.heap.size D (hp.on (H1.out.2.then_ hb)) hwf (by rw [hks]; rfl) (by have h1 := cnt_kid (t := t) (i := 2) (k := z) (by rw [hks]; rfl); omega) (hwf.node.each z (by rw [hks]; simp)) (good_sub hgd (by omega) (i := 2) (by rw [hks]; rfl)) hv' (hT.on (H1.out.2.then_ hb)) ((hb.block _ (heap_lt H1.out.1)).trans H1.out.1)
  have kk20 : (t.kind == 20) = false := by rw [hk]; rfl
  have kk22 : (t.kind == 22) = false := by rw [hk]; rfl
  have kk27 : (t.kind == 27) = false := by rw [hk]; rfl
  have kk29 : (t.kind == 29) = false := by rw [hk]; rfl
  have kk46 : (t.kind == 46) = false := by rw [hk]; rfl
  have kk31 : (t.kind == 31) = false := by rw [hk]; rfl
  have kk44 : (t.kind == 44) = false := by rw [hk]; rfl
  have kk45 : (t.kind == 45) = true := by rw [hk]; rfl
  rw [hkl] at k5
  clear hgd hwf hN hp hT ih hk hks hkl hv hq1
  go_enter Tryz.func68, Tryz.ntmps68
  go_upto_region 1 with fail
  rw [← HW1.out]
  go_wp2_with fail
  refine (HK0.out v W1 HV.out (Below.refl _ _)).mono ?_
  rintro e w10 ⟨rfl, hb⟩
  have HB10 := Lib.hid (((Below.refl _ _)).then_ hb)
  clear hb
  cases hc : totT x v
  · have HC := Lib.hid hc
    clear hc
    go_wp2_with fail
    go_ret
    exact ⟨by rw [HR.out, HC.out]; try rfl, H1.out.2.then_ (HB10.out)⟩
  · have HC := Lib.hid hc
    clear hc
    go_wp2_with fail
    refine (HK2.out v w10 HV.out HB10.out).mono ?_
    rintro e w11 ⟨rfl, hb⟩
    have HB11 := Lib.hid ((HB10.out).then_ hb)
    clear hb
    cases hd : totT z v
    · have HD := Lib.hid hd
      clear hd
      go_wp2_with fail
      go_ret
      exact ⟨by rw [HR.out, HC.out, HD.out]; try rfl, H1.out.2.then_ (HB11.out)⟩
    · have HD := Lib.hid hd
      clear hd
      go_wp2_with fail
      refine (HK1.out 2 w11 (.inr rfl) HB11.out).mono ?_
      rintro e w12 ⟨rfl, hb⟩
      have HB12 := Lib.hid ((HB11.out).then_ hb)
      clear hb
      go_wp2_with fail
      go_ret
      exact ⟨by rw [HR.out, HC.out, HD.out, Bool.true_and, Bool.true_and]; try rfl, H1.out.2.then_ (HB12.out)⟩
set_option maxRecDepth 100000 in
set_option maxHeartbeats 16000000 in
theorem tot_35 (N : Nat) (ih : TotN N) (t : Tm) (b off : Nat) (v : Int) (w : World) (B Gm Gl n : Nat) (D : DataW Unit) (hN : cnt t ≤ N + 1) (hp : PtrAt w b off t) (hwf : WfT t) (hgd : goodT false t = true) (hv : v = 1 ∨ v = 2) (hT : TotW w B Gm Gl n D) (hk : t.kind = 35) :
    Calls Tryz.prog 68 #[.pointer (some ⟨b, off, none⟩), .int .i64 v, .pointer (some ⟨Gl, 0, none⟩), .pointer (some ⟨Gm, 0, none⟩)] w fun e w' => e = .returned (.bool (totT t v)) ∧ Below w.heap.size w w' := by
  obtain ⟨A, ca, B0, cb, K, ck, hlt, p0, p1, p2, p3, p4, p5, hat⟩ := hp.cells
  obtain ⟨W1, hW1⟩ : ∃ W1, W1 = w.alloc (.cells #[.pointer (some ⟨b, off, none⟩)] TPt) := ⟨_, rfl⟩
  have hq1 : W1.heap[w.heap.size]? = some (.cells #[.pointer (some ⟨b, off, none⟩)] TPt (0, 0)) := by rw [hW1]; exact heap_alloc_new w _
  have hb1 : Below w.heap.size w W1 := by rw [hW1]; exact (Below.refl _ _).alloc (Nat.le_refl _) _
  have HW1 := Lib.hid hW1
  have H1 := Lib.hid (And.intro hq1 hb1)
  have HT := Lib.hid (And.intro hat (And.intro hwf (And.intro hgd (And.intro hN hp))))
  have HV := Lib.hid hv
  have HTW := Lib.hid hT
  have IH := Lib.hid ih
  have KC : Hid (∀ W, Below w.heap.size w W → W.cell? ⟨b, off, none⟩ = some (.int .i64 t.kind) ∧ W.cell? ⟨b, off + 1, none⟩ = some (.string t.text) ∧ W.cell? ⟨b, off + 3, none⟩ = some (.slice A t.sh.length ca) ∧ W.cell? ⟨b, off + 4, none⟩ = some (.slice B0 t.at_.length cb) ∧ W.cell? ⟨b, off + 5, none⟩ = some (.slice K t.kids.length ck) ∧ b < W.heap.size) := Lib.hid fun W h => by
    have key : ∀ j v, w.cell? ⟨b, j, none⟩ = some v → W.cell? ⟨b, j, none⟩ = some v := fun j v hv => (h.cell (p := ⟨b, j, none⟩) hlt).trans hv
    exact ⟨key _ _ p0, key _ _ p1, key _ _ p3, key _ _ p4, key _ _ p5, Nat.lt_of_lt_of_le hlt h.size⟩
  clear hW1 hb1 p0 p1 p2 p3 p4 p5 hat hlt
  obtain ⟨k0, k1, k3, k4, k5, kl⟩ := KC.out W1 H1.out.2
  have q0 := cell_at hq1 (j := 0) rfl
  have ql := heap_lt hq1
  obtain ⟨x, y, hks, fx, fy⟩ := two_kids hgd (c := 118) (d := 118) (by rw [hk]; decide) (by omega) (by omega) (by omega)
  have hkl : t.kids.length = 2 := by rw [hks]; rfl
  have HR : Hid (totT t v = (totT x v || totT y v)) := Lib.hid (by rw [totT_eq]; unfold totK; rw [if_neg (by omega)]; rw [if_neg (by omega)]; rw [if_neg (by omega)]; rw [if_neg (by omega)]; rw [if_neg (by omega)]; rw [if_neg (by omega)]; rw [if_neg (by omega)]; rw [if_neg (by omega)]; rw [if_neg (by omega)]; rw [if_pos (by omega)]; rw [hks]; rfl)
  have HK0 : Hid (∀ v' W, (v' = 1 ∨ v' = 2) → Below W1.heap.size W1 W → Calls Tryz.prog 69 #[.int .i64 0, .int .i64 v', .pointer (some ⟨Gl, 0, none⟩), .pointer (some ⟨w.heap.size, 0, none⟩)] W fun e w' => e = .returned (.bool (totT x v')) ∧ Below W.heap.size W w') := Lib.hid fun v' W hv' hb =>
    tkid_any N ih t x 0 b off v' W B Gm Gl n w.heap.size D (hp.on (H1.out.2.then_ hb)) hwf (by rw [hks]; rfl) (by have h1 := cnt_kid (t := t) (i := 0) (k := x) (by rw [hks]; rfl); omega) (hwf.node.each x (by rw [hks]; simp)) (good_sub hgd (by omega) (i := 0) (by rw [hks]; rfl)) hv' (hT.on (H1.out.2.then_ hb)) ((hb.block _ (heap_lt H1.out.1)).trans H1.out.1)
  have HK1 : Hid (∀ v' W, (v' = 1 ∨ v' = 2) → Below W1.heap.size W1 W → Calls Tryz.prog 69 #[.int .i64 1, .int .i64 v', .pointer (some ⟨Gl, 0, none⟩), .pointer (some ⟨w.heap.size, 0, none⟩)] W fun e w' => e = .returned (.bool (totT y v')) ∧ Below W.heap.size W w') := Lib.hid fun v' W hv' hb =>
    tkid_any N ih t y 1 b off v' W B Gm Gl n w.heap.size D (hp.on (H1.out.2.then_ hb)) hwf (by rw [hks]; rfl) (by have h1 := cnt_kid (t := t) (i := 1) (k := y) (by rw [hks]; rfl); omega) (hwf.node.each y (by rw [hks]; simp)) (good_sub hgd (by omega) (i := 1) (by rw [hks]; rfl)) hv' (hT.on (H1.out.2.then_ hb)) ((hb.block _ (heap_lt H1.out.1)).trans H1.out.1)
  have kk20 : (t.kind == 20) = false := by rw [hk]; rfl
  have kk22 : (t.kind == 22) = false := by rw [hk]; rfl
  have kk27 : (t.kind == 27) = false := by rw [hk]; rfl
  have kk29 : (t.kind == 29) = false := by rw [hk]; rfl
  have kk46 : (t.kind == 46) = false := by rw [hk]; rfl
  have kk31 : (t.kind == 31) = false := by rw [hk]; rfl
  have kk44 : (t.kind == 44) = false := by rw [hk]; rfl
  have kk45 : (t.kind == 45) = false := by rw [hk]; rfl
  have kk42 : (t.kind == 42) = false := by rw [hk]; rfl
  have kk41 : (t.kind == 41) = false := by rw [hk]; rfl
  have kk35 : (t.kind == 35) = true := by rw [hk]; rfl
  rw [hkl] at k5
  clear hgd hwf hN hp hT ih hk hks hkl hv hq1 fx fy
  go_enter Tryz.func68, Tryz.ntmps68
  go_upto_region 1 with fail
  rw [← HW1.out]
  go_wp2_with fail
  refine (HK0.out v W1 HV.out (Below.refl _ _)).mono ?_
  rintro e w13 ⟨rfl, hb⟩
  have HB13 := Lib.hid (((Below.refl _ _)).then_ hb)
  clear hb
  cases hc : totT x v
  · have HC := Lib.hid hc
    clear hc
    go_wp2_with fail
    refine (HK1.out v w13 HV.out HB13.out).mono ?_
    rintro e w14 ⟨rfl, hb⟩
    have HB14 := Lib.hid ((HB13.out).then_ hb)
    clear hb
    go_wp2_with fail
    go_ret
    exact ⟨by rw [HR.out, HC.out, Bool.false_or]; try rfl, H1.out.2.then_ (HB14.out)⟩
  · have HC := Lib.hid hc
    clear hc
    go_wp2_with fail
    go_ret
    exact ⟨by rw [HR.out, HC.out]; try rfl, H1.out.2.then_ (HB13.out)⟩
set_option maxRecDepth 100000 in
set_option maxHeartbeats 16000000 in
theorem tot_36 (N : Nat) (ih : TotN N) (t : Tm) (b off : Nat) (v : Int) (w : World) (B Gm Gl n : Nat) (D : DataW Unit) (hN : cnt t ≤ N + 1) (hp : PtrAt w b off t) (hwf : WfT t) (hgd : goodT false t = true) (hv : v = 1 ∨ v = 2) (hT : TotW w B Gm Gl n D) (hk : t.kind = 36) :
    Calls Tryz.prog 68 #[.pointer (some ⟨b, off, none⟩), .int .i64 v, .pointer (some ⟨Gl, 0, none⟩), .pointer (some ⟨Gm, 0, none⟩)] w fun e w' => e = .returned (.bool (totT t v)) ∧ Below w.heap.size w w' := by
  obtain ⟨A, ca, B0, cb, K, ck, hlt, p0, p1, p2, p3, p4, p5, hat⟩ := hp.cells
  obtain ⟨W1, hW1⟩ : ∃ W1, W1 = w.alloc (.cells #[.pointer (some ⟨b, off, none⟩)] TPt) := ⟨_, rfl⟩
  have hq1 : W1.heap[w.heap.size]? = some (.cells #[.pointer (some ⟨b, off, none⟩)] TPt (0, 0)) := by rw [hW1]; exact heap_alloc_new w _
  have hb1 : Below w.heap.size w W1 := by rw [hW1]; exact (Below.refl _ _).alloc (Nat.le_refl _) _
  have HW1 := Lib.hid hW1
  have H1 := Lib.hid (And.intro hq1 hb1)
  have HT := Lib.hid (And.intro hat (And.intro hwf (And.intro hgd (And.intro hN hp))))
  have HV := Lib.hid hv
  have HTW := Lib.hid hT
  have IH := Lib.hid ih
  have KC : Hid (∀ W, Below w.heap.size w W → W.cell? ⟨b, off, none⟩ = some (.int .i64 t.kind) ∧ W.cell? ⟨b, off + 1, none⟩ = some (.string t.text) ∧ W.cell? ⟨b, off + 3, none⟩ = some (.slice A t.sh.length ca) ∧ W.cell? ⟨b, off + 4, none⟩ = some (.slice B0 t.at_.length cb) ∧ W.cell? ⟨b, off + 5, none⟩ = some (.slice K t.kids.length ck) ∧ b < W.heap.size) := Lib.hid fun W h => by
    have key : ∀ j v, w.cell? ⟨b, j, none⟩ = some v → W.cell? ⟨b, j, none⟩ = some v := fun j v hv => (h.cell (p := ⟨b, j, none⟩) hlt).trans hv
    exact ⟨key _ _ p0, key _ _ p1, key _ _ p3, key _ _ p4, key _ _ p5, Nat.lt_of_lt_of_le hlt h.size⟩
  clear hW1 hb1 p0 p1 p2 p3 p4 p5 hat hlt
  obtain ⟨k0, k1, k3, k4, k5, kl⟩ := KC.out W1 H1.out.2
  have q0 := cell_at hq1 (j := 0) rfl
  have ql := heap_lt hq1
  obtain ⟨x, y, hks, fx, fy⟩ := two_kids hgd (c := 118) (d := 118) (by rw [hk]; decide) (by omega) (by omega) (by omega)
  have hkl : t.kids.length = 2 := by rw [hks]; rfl
  have HR : Hid (totT t v = totT x v) := Lib.hid (by rw [totT_eq]; unfold totK; rw [if_neg (by omega)]; rw [if_neg (by omega)]; rw [if_neg (by omega)]; rw [if_neg (by omega)]; rw [if_neg (by omega)]; rw [if_neg (by omega)]; rw [if_neg (by omega)]; rw [if_neg (by omega)]; rw [if_neg (by omega)]; rw [if_neg (by omega)]; rw [if_pos (by omega)]; rw [hks]; rfl)
  have HK0 : Hid (∀ v' W, (v' = 1 ∨ v' = 2) → Below W1.heap.size W1 W → Calls Tryz.prog 69 #[.int .i64 0, .int .i64 v', .pointer (some ⟨Gl, 0, none⟩), .pointer (some ⟨w.heap.size, 0, none⟩)] W fun e w' => e = .returned (.bool (totT x v')) ∧ Below W.heap.size W w') := Lib.hid fun v' W hv' hb =>
    tkid_any N ih t x 0 b off v' W B Gm Gl n w.heap.size D (hp.on (H1.out.2.then_ hb)) hwf (by rw [hks]; rfl) (by have h1 := cnt_kid (t := t) (i := 0) (k := x) (by rw [hks]; rfl); omega) (hwf.node.each x (by rw [hks]; simp)) (good_sub hgd (by omega) (i := 0) (by rw [hks]; rfl)) hv' (hT.on (H1.out.2.then_ hb)) ((hb.block _ (heap_lt H1.out.1)).trans H1.out.1)
  have HK1 : Hid (∀ v' W, (v' = 1 ∨ v' = 2) → Below W1.heap.size W1 W → Calls Tryz.prog 69 #[.int .i64 1, .int .i64 v', .pointer (some ⟨Gl, 0, none⟩), .pointer (some ⟨w.heap.size, 0, none⟩)] W fun e w' => e = .returned (.bool (totT y v')) ∧ Below W.heap.size W w') := Lib.hid fun v' W hv' hb =>
    tkid_any N ih t y 1 b off v' W B Gm Gl n w.heap.size D (hp.on (H1.out.2.then_ hb)) hwf (by rw [hks]; rfl) (by have h1 := cnt_kid (t := t) (i := 1) (k := y) (by rw [hks]; rfl); omega) (hwf.node.each y (by rw [hks]; simp)) (good_sub hgd (by omega) (i := 1) (by rw [hks]; rfl)) hv' (hT.on (H1.out.2.then_ hb)) ((hb.block _ (heap_lt H1.out.1)).trans H1.out.1)
  have kk20 : (t.kind == 20) = false := by rw [hk]; rfl
  have kk22 : (t.kind == 22) = false := by rw [hk]; rfl
  have kk27 : (t.kind == 27) = false := by rw [hk]; rfl
  have kk29 : (t.kind == 29) = false := by rw [hk]; rfl
  have kk46 : (t.kind == 46) = false := by rw [hk]; rfl
  have kk31 : (t.kind == 31) = false := by rw [hk]; rfl
  have kk44 : (t.kind == 44) = false := by rw [hk]; rfl
  have kk45 : (t.kind == 45) = false := by rw [hk]; rfl
  have kk42 : (t.kind == 42) = false := by rw [hk]; rfl
  have kk41 : (t.kind == 41) = false := by rw [hk]; rfl
  have kk35 : (t.kind == 35) = false := by rw [hk]; rfl
  have kk36 : (t.kind == 36) = true := by rw [hk]; rfl
  rw [hkl] at k5
  clear hgd hwf hN hp hT ih hk hks hkl hv hq1 fx fy
  go_enter Tryz.func68, Tryz.ntmps68
  go_upto_region 1 with fail
  rw [← HW1.out]
  go_wp2_with fail
  refine (HK0.out v W1 HV.out (Below.refl _ _)).mono ?_
  rintro e w15 ⟨rfl, hb⟩
  have HB15 := Lib.hid (((Below.refl _ _)).then_ hb)
  clear hb
  go_wp2_with fail
  go_ret
  exact ⟨by rw [HR.out]; try rfl, H1.out.2.then_ (HB15.out)⟩
set_option maxRecDepth 100000 in
set_option maxHeartbeats 16000000 in
theorem tot_37 (N : Nat) (ih : TotN N) (t : Tm) (b off : Nat) (v : Int) (w : World) (B Gm Gl n : Nat) (D : DataW Unit) (hN : cnt t ≤ N + 1) (hp : PtrAt w b off t) (hwf : WfT t) (hgd : goodT false t = true) (hv : v = 1 ∨ v = 2) (hT : TotW w B Gm Gl n D) (hk : t.kind = 37) :
    Calls Tryz.prog 68 #[.pointer (some ⟨b, off, none⟩), .int .i64 v, .pointer (some ⟨Gl, 0, none⟩), .pointer (some ⟨Gm, 0, none⟩)] w fun e w' => e = .returned (.bool (totT t v)) ∧ Below w.heap.size w w' := by
  obtain ⟨A, ca, B0, cb, K, ck, hlt, p0, p1, p2, p3, p4, p5, hat⟩ := hp.cells
  obtain ⟨W1, hW1⟩ : ∃ W1, W1 = w.alloc (.cells #[.pointer (some ⟨b, off, none⟩)] TPt) := ⟨_, rfl⟩
  have hq1 : W1.heap[w.heap.size]? = some (.cells #[.pointer (some ⟨b, off, none⟩)] TPt (0, 0)) := by rw [hW1]; exact heap_alloc_new w _
  have hb1 : Below w.heap.size w W1 := by rw [hW1]; exact (Below.refl _ _).alloc (Nat.le_refl _) _
  have HW1 := Lib.hid hW1
  have H1 := Lib.hid (And.intro hq1 hb1)
  have HT := Lib.hid (And.intro hat (And.intro hwf (And.intro hgd (And.intro hN hp))))
  have HV := Lib.hid hv
  have HTW := Lib.hid hT
  have IH := Lib.hid ih
  have KC : Hid (∀ W, Below w.heap.size w W → W.cell? ⟨b, off, none⟩ = some (.int .i64 t.kind) ∧ W.cell? ⟨b, off + 1, none⟩ = some (.string t.text) ∧ W.cell? ⟨b, off + 3, none⟩ = some (.slice A t.sh.length ca) ∧ W.cell? ⟨b, off + 4, none⟩ = some (.slice B0 t.at_.length cb) ∧ W.cell? ⟨b, off + 5, none⟩ = some (.slice K t.kids.length ck) ∧ b < W.heap.size) := Lib.hid fun W h => by
    have key : ∀ j v, w.cell? ⟨b, j, none⟩ = some v → W.cell? ⟨b, j, none⟩ = some v := fun j v hv => (h.cell (p := ⟨b, j, none⟩) hlt).trans hv
    exact ⟨key _ _ p0, key _ _ p1, key _ _ p3, key _ _ p4, key _ _ p5, Nat.lt_of_lt_of_le hlt h.size⟩
  clear hW1 hb1 p0 p1 p2 p3 p4 p5 hat hlt
  obtain ⟨k0, k1, k3, k4, k5, kl⟩ := KC.out W1 H1.out.2
  have q0 := cell_at hq1 (j := 0) rfl
  have ql := heap_lt hq1
  obtain ⟨x, y, hks, fx, fy⟩ := two_kids hgd (c := 118) (d := 118) (by rw [hk]; decide) (by omega) (by omega) (by omega)
  have hkl : t.kids.length = 2 := by rw [hks]; rfl
  have HR : Hid (totT t v = if v = 1 then totT x v else totT y v) := Lib.hid (by rw [totT_eq]; unfold totK; rw [if_neg (by omega)]; rw [if_neg (by omega)]; rw [if_neg (by omega)]; rw [if_neg (by omega)]; rw [if_neg (by omega)]; rw [if_neg (by omega)]; rw [if_neg (by omega)]; rw [if_neg (by omega)]; rw [if_neg (by omega)]; rw [if_neg (by omega)]; rw [if_neg (by omega)]; rw [if_pos (by omega)]; rw [hks]; rfl)
  have HK0 : Hid (∀ v' W, (v' = 1 ∨ v' = 2) → Below W1.heap.size W1 W → Calls Tryz.prog 69 #[.int .i64 0, .int .i64 v', .pointer (some ⟨Gl, 0, none⟩), .pointer (some ⟨w.heap.size, 0, none⟩)] W fun e w' => e = .returned (.bool (totT x v')) ∧ Below W.heap.size W w') := Lib.hid fun v' W hv' hb =>
    tkid_any N ih t x 0 b off v' W B Gm Gl n w.heap.size D (hp.on (H1.out.2.then_ hb)) hwf (by rw [hks]; rfl) (by have h1 := cnt_kid (t := t) (i := 0) (k := x) (by rw [hks]; rfl); omega) (hwf.node.each x (by rw [hks]; simp)) (good_sub hgd (by omega) (i := 0) (by rw [hks]; rfl)) hv' (hT.on (H1.out.2.then_ hb)) ((hb.block _ (heap_lt H1.out.1)).trans H1.out.1)
  have HK1 : Hid (∀ v' W, (v' = 1 ∨ v' = 2) → Below W1.heap.size W1 W → Calls Tryz.prog 69 #[.int .i64 1, .int .i64 v', .pointer (some ⟨Gl, 0, none⟩), .pointer (some ⟨w.heap.size, 0, none⟩)] W fun e w' => e = .returned (.bool (totT y v')) ∧ Below W.heap.size W w') := Lib.hid fun v' W hv' hb =>
    tkid_any N ih t y 1 b off v' W B Gm Gl n w.heap.size D (hp.on (H1.out.2.then_ hb)) hwf (by rw [hks]; rfl) (by have h1 := cnt_kid (t := t) (i := 1) (k := y) (by rw [hks]; rfl); omega) (hwf.node.each y (by rw [hks]; simp)) (good_sub hgd (by omega) (i := 1) (by rw [hks]; rfl)) hv' (hT.on (H1.out.2.then_ hb)) ((hb.block _ (heap_lt H1.out.1)).trans H1.out.1)
  have kk20 : (t.kind == 20) = false := by rw [hk]; rfl
  have kk22 : (t.kind == 22) = false := by rw [hk]; rfl
  have kk27 : (t.kind == 27) = false := by rw [hk]; rfl
  have kk29 : (t.kind == 29) = false := by rw [hk]; rfl
  have kk46 : (t.kind == 46) = false := by rw [hk]; rfl
  have kk31 : (t.kind == 31) = false := by rw [hk]; rfl
  have kk44 : (t.kind == 44) = false := by rw [hk]; rfl
  have kk45 : (t.kind == 45) = false := by rw [hk]; rfl
  have kk42 : (t.kind == 42) = false := by rw [hk]; rfl
  have kk41 : (t.kind == 41) = false := by rw [hk]; rfl
  have kk35 : (t.kind == 35) = false := by rw [hk]; rfl
  have kk36 : (t.kind == 36) = false := by rw [hk]; rfl
  have kk37 : (t.kind == 37) = true := by rw [hk]; rfl
  rw [hkl] at k5
  clear hgd hwf hN hp hT ih hk hks hkl hv hq1 fx fy
  rcases HV.out with rfl | rfl
  · go_enter Tryz.func68, Tryz.ntmps68
    go_upto_region 1 with fail
    rw [← HW1.out]
    go_wp2_with fail
    refine (HK0.out 1 W1 (.inl rfl) (Below.refl _ _)).mono ?_
    rintro e w16 ⟨rfl, hb⟩
    have HB16 := Lib.hid (((Below.refl _ _)).then_ hb)
    clear hb
    go_wp2_with fail
    go_ret
    exact ⟨by rw [HR.out]; try rfl, H1.out.2.then_ (HB16.out)⟩
  · go_enter Tryz.func68, Tryz.ntmps68
    go_upto_region 1 with fail
    rw [← HW1.out]
    go_wp2_with fail
    refine (HK1.out 2 W1 (.inr rfl) (Below.refl _ _)).mono ?_
    rintro e w17 ⟨rfl, hb⟩
    have HB17 := Lib.hid (((Below.refl _ _)).then_ hb)
    clear hb
    go_wp2_with fail
    go_ret
    exact ⟨by rw [HR.out]; try rfl, H1.out.2.then_ (HB17.out)⟩
set_option maxRecDepth 100000 in
set_option maxHeartbeats 16000000 in
theorem tot_no (N : Nat) (ih : TotN N) (t : Tm) (b off : Nat) (v : Int) (w : World) (B Gm Gl n : Nat) (D : DataW Unit) (hN : cnt t ≤ N + 1) (hp : PtrAt w b off t) (hwf : WfT t) (hgd : goodT false t = true) (hv : v = 1 ∨ v = 2) (hT : TotW w B Gm Gl n D) (hk : ¬ t.kind = 20 ∧ ¬ t.kind = 22 ∧ ¬ t.kind = 27 ∧ ¬ t.kind = 29 ∧ ¬ t.kind = 46 ∧ ¬ t.kind = 31 ∧ ¬ t.kind = 44 ∧ ¬ t.kind = 45 ∧ ¬ t.kind = 42 ∧ ¬ t.kind = 41 ∧ ¬ t.kind = 35 ∧ ¬ t.kind = 36 ∧ ¬ t.kind = 37) :
    Calls Tryz.prog 68 #[.pointer (some ⟨b, off, none⟩), .int .i64 v, .pointer (some ⟨Gl, 0, none⟩), .pointer (some ⟨Gm, 0, none⟩)] w fun e w' => e = .returned (.bool (totT t v)) ∧ Below w.heap.size w w' := by
  obtain ⟨A, ca, B0, cb, K, ck, hlt, p0, p1, p2, p3, p4, p5, hat⟩ := hp.cells
  obtain ⟨W1, hW1⟩ : ∃ W1, W1 = w.alloc (.cells #[.pointer (some ⟨b, off, none⟩)] TPt) := ⟨_, rfl⟩
  have hq1 : W1.heap[w.heap.size]? = some (.cells #[.pointer (some ⟨b, off, none⟩)] TPt (0, 0)) := by rw [hW1]; exact heap_alloc_new w _
  have hb1 : Below w.heap.size w W1 := by rw [hW1]; exact (Below.refl _ _).alloc (Nat.le_refl _) _
  have HW1 := Lib.hid hW1
  have H1 := Lib.hid (And.intro hq1 hb1)
  have HT := Lib.hid (And.intro hat (And.intro hwf (And.intro hgd (And.intro hN hp))))
  have HV := Lib.hid hv
  have HTW := Lib.hid hT
  have IH := Lib.hid ih
  have KC : Hid (∀ W, Below w.heap.size w W → W.cell? ⟨b, off, none⟩ = some (.int .i64 t.kind) ∧ W.cell? ⟨b, off + 1, none⟩ = some (.string t.text) ∧ W.cell? ⟨b, off + 3, none⟩ = some (.slice A t.sh.length ca) ∧ W.cell? ⟨b, off + 4, none⟩ = some (.slice B0 t.at_.length cb) ∧ W.cell? ⟨b, off + 5, none⟩ = some (.slice K t.kids.length ck) ∧ b < W.heap.size) := Lib.hid fun W h => by
    have key : ∀ j v, w.cell? ⟨b, j, none⟩ = some v → W.cell? ⟨b, j, none⟩ = some v := fun j v hv => (h.cell (p := ⟨b, j, none⟩) hlt).trans hv
    exact ⟨key _ _ p0, key _ _ p1, key _ _ p3, key _ _ p4, key _ _ p5, Nat.lt_of_lt_of_le hlt h.size⟩
  clear hW1 hb1 p0 p1 p2 p3 p4 p5 hat hlt
  obtain ⟨k0, k1, k3, k4, k5, kl⟩ := KC.out W1 H1.out.2
  have q0 := cell_at hq1 (j := 0) rfl
  have ql := heap_lt hq1
  obtain ⟨g20, g22, g27, g29, g46, g31, g44, g45, g42, g41, g35, g36, g37⟩ := hk
  have HR : Hid (totT t v = false) := Lib.hid (by rw [totT_eq]; unfold totK; rw [if_neg g20, if_neg g22, if_neg g27, if_neg (by omega), if_neg g31, if_neg g44, if_neg g45, if_neg g42, if_neg g41, if_neg g35, if_neg g36, if_neg g37])
  have kk20 : (t.kind == 20) = false := beq_no g20
  have kk22 : (t.kind == 22) = false := beq_no g22
  have kk27 : (t.kind == 27) = false := beq_no g27
  have kk29 : (t.kind == 29) = false := beq_no g29
  have kk46 : (t.kind == 46) = false := beq_no g46
  have kk31 : (t.kind == 31) = false := beq_no g31
  have kk44 : (t.kind == 44) = false := beq_no g44
  have kk45 : (t.kind == 45) = false := beq_no g45
  have kk42 : (t.kind == 42) = false := beq_no g42
  have kk41 : (t.kind == 41) = false := beq_no g41
  have kk35 : (t.kind == 35) = false := beq_no g35
  have kk36 : (t.kind == 36) = false := beq_no g36
  have kk37 : (t.kind == 37) = false := beq_no g37
  clear g20 g22 g27 g29 g46 g31 g44 g45 g42 g41 g35 g36 g37 hgd hwf hN hp hT ih hv hq1
  go_enter Tryz.func68, Tryz.ntmps68
  go_upto_region 1 with fail
  rw [← HW1.out]
  go_wp2_with fail
  go_ret
  exact ⟨by rw [HR.out]; try rfl, H1.out.2.then_ ((Below.refl _ _))⟩
end Go.Proofs.YtebiojmfieoncaaGreat
