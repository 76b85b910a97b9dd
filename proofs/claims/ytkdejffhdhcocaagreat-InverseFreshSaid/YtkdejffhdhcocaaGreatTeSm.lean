/- abacuslaw13.smear: all lists of a term in memory of its own are written over; nothing else is. Condition: sizes within reach. -/
import Derived.Test.YtkdejffhdhcocaaGreatTeML
import Derived.Test.YtkdejffhdhcocaaGreatTeNt
namespace Go.Proofs.YtkdejffhdhcocaaGreat
open Go.RowKit

/-- nothing that was there has turned but some blocks -/
structure Only (w w' : World) (l : List Nat) : Prop where
  os : w'.os = w.os
  tape : w'.tape = w.tape
  output : w'.output = w.output
  size : w.heap.size ≤ w'.heap.size
  block : ∀ k, k < w.heap.size → k ∉ l → w'.heap[k]? = w.heap[k]?
theorem Only.refl (w : World) (l : List Nat) : Only w w l := ⟨rfl, rfl, rfl, Nat.le_refl _, fun _ _ _ => rfl⟩
theorem Only.trans {a b c : World} {l : List Nat} (h : Only a b l) (k : Only b c l) : Only a c l :=
  ⟨k.os.trans h.os, k.tape.trans h.tape, k.output.trans h.output, Nat.le_trans h.size k.size, fun j hj hn => (k.block j (Nat.lt_of_lt_of_le hj h.size) hn).trans (h.block j hj hn)⟩
theorem Only.mono {a b : World} {l m : List Nat} (h : Only a b l) (hs : ∀ g ∈ l, g ∈ m) : Only a b m := ⟨h.os, h.tape, h.output, h.size, fun j hj hn => h.block j hj fun e => hn (hs j e)⟩
theorem Only.set {a b : World} {l : List Nat} (h : Only a b l) {g j : Nat} (hg : g ∈ l) (u : Value) : Only a (b.setCell ⟨g, j, none⟩ u) l :=
  h.trans ⟨rfl, rfl, rfl, by simp [World.setCell], fun k _ hn => Below.heap_setCell _ _ _ _ (fun e => hn (by rw [e]; exact hg))⟩
theorem Only.below {a b : World} {B : Nat} {l : List Nat} (h : Only a b l) (hl : ∀ g ∈ l, B ≤ g) (hB : B ≤ a.heap.size) : Below B a b := ⟨h.os, h.tape, h.output, h.size, fun k hk => h.block k (Nat.lt_of_lt_of_le hk hB) fun e => by have := hl k e; omega⟩
theorem Only.of_below {a b : World} (h : Below a.heap.size a b) (l : List Nat) : Only a b l := ⟨h.os, h.tape, h.output, h.size, fun k hk _ => h.block k hk⟩
theorem blksL_drop {rs : List Rt} {i : Nat} {q : Rt} (h : rs[i]? = some q) : blksL (rs.drop i) = blksT q ++ blksL (rs.drop (i + 1)) := by
  obtain ⟨hl, rfl⟩ := List.getElem?_eq_some_iff.1 h
  rw [List.drop_eq_getElem_cons hl]
  simp only [blksL]
theorem blksL_split (rs : List Rt) (i : Nat) : blksL rs = blksL (rs.take i) ++ blksL (rs.drop i) := by rw [← blksL_app, List.take_append_drop]
theorem blksT_eq (r : Rt) : blksT r = r.s.blk.toList ++ r.a.blk.toList ++ r.k.blk.toList ++ blksL r.kids := by cases r; simp only [blksT]; rfl

/-- a row's block, as the row is not empty -/
theorem RowOwn.some {w : World} {B z : Nat} {t : TypeId} {r : Rw} {vs : List Value} (h : RowOwn w B t z r vs) (hn : 0 < r.n) : ∃ g cur, r.p = some ⟨g, 0, none⟩ ∧ r.blk = some g ∧ w.heap[g]? = some (.cells cur t (0, 0)) ∧ r.n * z ≤ cur.size ∧ cur.toList.take (r.n * z) = vs := by
  obtain ⟨h1, ⟨h2, _⟩ | ⟨g, cur, e, h3, h4, h5, h6, h7, h8, h9⟩⟩ := h
  · omega
  · refine ⟨g, cur, e, ?_, h7, Nat.le_trans (Nat.mul_le_mul_right _ h3) h8, h9⟩
    unfold Rw.blk
    rw [if_neg (by omega), e]
    rfl
/-- a row of cells of a type: some are still as they were -/
def RowIs (W : World) (g : Nat) (t : TypeId) (cur : Array Value) (m : Nat) : Prop := ∃ cur' : Array Value, W.heap[g]? = some (.cells cur' t (0, 0)) ∧ cur'.size = cur.size ∧ ∀ j, m ≤ j → cur'[j]? = cur[j]?
theorem RowIs.set {W : World} {g : Nat} {t : TypeId} {cur : Array Value} {m j : Nat} (h : RowIs W g t cur m) (hj : j < m) (u : Value) : RowIs (W.setCell ⟨g, j, none⟩ u) g t cur m := by
  obtain ⟨c, h1, h2, h3⟩ := h
  refine ⟨c.setIfInBounds j u, Go.heap_setCell_same W g j c t u h1, by simp [h2], fun k hk => ?_⟩
  rw [Array.getElem?_setIfInBounds, if_neg (by omega)]
  exact h3 k hk
theorem RowIs.more {W : World} {g : Nat} {t : TypeId} {cur : Array Value} {m m' : Nat} (h : RowIs W g t cur m) (hm : m ≤ m') : RowIs W g t cur m' := by
  obtain ⟨c, h1, h2, h3⟩ := h
  exact ⟨c, h1, h2, fun j hj => h3 j (Nat.le_trans hm hj)⟩
theorem RowIs.cell {W : World} {g : Nat} {t : TypeId} {cur : Array Value} {m j : Nat} (h : RowIs W g t cur m) (hm : m ≤ j) {u : Value} (hu : cur[j]? = some u) : W.cell? ⟨g, j, none⟩ = some u := by
  obtain ⟨c, h1, h2, h3⟩ := h
  exact cell_at h1 ((h3 j hm).trans hu)
theorem RowIs.some {W : World} {g : Nat} {t : TypeId} {cur : Array Value} {m j : Nat} (h : RowIs W g t cur m) (hj : j < cur.size) : (∃ u, W.cell? ⟨g, j, none⟩ = some u) ∧ W.frozen? ⟨g, j, none⟩ = false := by
  obtain ⟨c, h1, h2, h3⟩ := h
  exact ⟨⟨c[j]'(by omega), cell_at h1 (Array.getElem?_eq_getElem (by omega))⟩, unfrozen h1 j⟩
theorem RowIs.kept {W W' : World} {g : Nat} {t : TypeId} {cur : Array Value} {m : Nat} (h : RowIs W g t cur m) (hk : W'.heap[g]? = W.heap[g]?) : RowIs W' g t cur m := by
  obtain ⟨c, h1, h2, h3⟩ := h
  exact ⟨c, hk.trans h1, h2, h3⟩
theorem RowIs.lt {W : World} {g : Nat} {t : TypeId} {cur : Array Value} {m : Nat} (h : RowIs W g t cur m) : g < W.heap.size := by
  obtain ⟨c, h1, _⟩ := h
  exact heap_lt h1
set_option maxRecDepth 100000 in
set_option maxHeartbeats 16000000 in
theorem smear_any (N : Nat) : ∀ (t : Tm) (r : Rt) (B : Nat) (w : World), cnt t ≤ N → OwnT w B t r → (blksT r).Nodup → WfT t → Calls Tryz.prog 47 #[rtVal t r] w fun e w' => e = .returned (.tuple #[]) ∧ Only w w' (blksT r) := by
  induction N with
  | zero => intro t r B w h; cases t; simp [cnt] at h
  | succ N ih =>
    intro t r B w hN ho hnd hwf
    obtain ⟨W1, hW1⟩ : ∃ W1, W1 = w.alloc (.cells #[.int .i64 t.kind, .string t.text, .int .i64 t.n, .slice r.s.p r.s.n r.s.c, .slice r.a.p r.a.n r.a.c, .slice r.k.p r.k.n r.k.c] TTm) := ⟨_, rfl⟩
    have hb1 : Below w.heap.size w W1 := by rw [hW1]; exact (Below.refl _ _).alloc (Nat.le_refl _) _
    have hx1 : W1.heap[w.heap.size]? = some (.cells #[.int .i64 t.kind, .string t.text, .int .i64 t.n, .slice r.s.p r.s.n r.s.c, .slice r.a.p r.a.n r.a.c, .slice r.k.p r.k.n r.k.c] TTm (0, 0)) := by rw [hW1]; exact heap_alloc_new w _
    have hblk : ∀ g ∈ blksT r, g < w.heap.size := fun g hg => (ho.blk g hg).2
    have HK : Hid (∀ W, Only W1 W (blksT r) → W.cell? ⟨w.heap.size, 3, none⟩ = some (.slice r.s.p r.s.n r.s.c) ∧ W.cell? ⟨w.heap.size, 4, none⟩ = some (.slice r.a.p r.a.n r.a.c) ∧ W.cell? ⟨w.heap.size, 5, none⟩ = some (.slice r.k.p r.k.n r.k.c)) := Lib.hid fun W h => by
      have hh := (h.block _ (heap_lt hx1) (fun e => by have := hblk _ e; omega)).trans hx1
      exact ⟨cell_at hh rfl, cell_at hh rfl, cell_at hh rfl⟩
    obtain ⟨p1, p2, p3, p4, p5⟩ := (ho.on hb1).parts
    obtain ⟨_, e1, e2, e3⟩ := ho.read
    have hrn : r.s.n ≤ 140737488351232 ∧ r.a.n ≤ 140737488351232 ∧ r.k.n ≤ 140737488351232 := ⟨by rw [e1]; exact hwf.node.sh, by rw [e2]; exact hwf.node.at_, by rw [e3]; exact hwf.node.kids⟩
    obtain ⟨hr1, hr2, hr3⟩ := hrn
    have HO := Lib.hid (And.intro (ho.on hb1) (And.intro hnd (And.intro hwf hN)))
    have HP := Lib.hid (And.intro p1 (And.intro p2 (And.intro p3 (And.intro p4 p5))))
    have HE := Lib.hid e3
    have HW1 := Lib.hid (And.intro hW1 hb1)
    have IH := Lib.hid ih
    -- what the kids' blocks are to the others
    have hnd' := hnd
    rw [blksT_eq] at hnd'
    obtain ⟨q1, _, q2⟩ := List.nodup_append.1 hnd'
    have HD : Hid (∀ g ∈ r.s.blk.toList ++ r.a.blk.toList ++ r.k.blk.toList, ∀ h ∈ blksL r.kids, g ≠ h) := Lib.hid q2
    obtain ⟨q3, _, q4⟩ := List.nodup_append.1 q1
    obtain ⟨_, _, q5⟩ := List.nodup_append.1 q3
    have HNE : Hid ((∀ g, (g ∈ r.s.blk.toList ∨ g ∈ r.a.blk.toList) → ∀ gk, r.k.blk = some gk → g ≠ gk) ∧ ∀ gs ga, r.s.blk = some gs → r.a.blk = some ga → gs ≠ ga) := Lib.hid ⟨fun g hg gk hgk => q4 g (List.mem_append.2 hg) gk (Option.mem_toList.2 hgk), fun gs ga h1 h2 => q5 gs (Option.mem_toList.2 h1) ga (Option.mem_toList.2 h2)⟩
    have HKN : Hid ((blksL r.kids).Nodup) := Lib.hid (List.nodup_append.1 hnd').2.1
    clear q3 q4 q5
    have HIN : Hid (∀ g, (g ∈ r.s.blk.toList ∨ g ∈ r.a.blk.toList ∨ g ∈ r.k.blk.toList ∨ g ∈ blksL r.kids) → g ∈ blksT r) := Lib.hid fun g h => by
      rw [blksT_eq]
      simp only [List.mem_append]
      rcases h with h | h | h | h
      · exact .inl (.inl (.inl h))
      · exact .inl (.inl (.inr h))
      · exact .inl (.inr h)
      · exact .inr h
    clear ho hnd hnd' hwf hN hb1 hx1 hblk p1 p2 p3 p4 p5 e1 e2 e3 ih hW1 q1 q2
    obtain ⟨k3, k4, k5⟩ := HK.out W1 (Only.refl _ _)
    unfold rtVal
    go_enter Tryz.func47, Tryz.ntmps47
    go_upto_region 1 with fail
    rw [← HW1.out.1]
    go_wp2_with fail
    clear k3 k4 k5
    go_loopw [2] (fun v W => ∃ i : Nat, i ≤ r.k.n ∧ v = .int .i64 i ∧ Hid (Only W1 W (blksT r) ∧ (∀ g ∈ blksL (r.kids.drop i), W.heap[g]? = W1.heap[g]?) ∧ (∀ g cur, r.k.blk = some g → W1.heap[g]? = some (.cells cur TTm (0, 0)) → RowIs W g TTm cur (i * 6)) ∧ (∀ g, (g ∈ r.s.blk.toList ∨ g ∈ r.a.blk.toList) → W.heap[g]? = W1.heap[g]?))) (fun v _ => r.k.n - (intOf v).toNat)
    case atStart => exact ⟨0, Nat.zero_le _, rfl, Lib.hid ⟨Only.refl _ _, fun _ _ => rfl, fun g cur _ h => ⟨cur, h, rfl, fun _ _ => rfl⟩, fun _ _ => rfl⟩⟩
    case round =>
      obtain ⟨i, hi, rfl, HI⟩ := hrel
      obtain ⟨k3, k4, k5⟩ := HK.out wr HI.out.1
      by_cases hlt : i < r.k.n
      · obtain ⟨k, hk⟩ : ∃ k, t.kids[i]? = some k := ⟨_, List.getElem?_eq_getElem (by rw [← HE.out]; exact hlt)⟩
        obtain ⟨q, hq, hoq⟩ := HP.out.2.2.2.2.get hk
        obtain ⟨g, cur, hgp, hgb, hgc, hgl, hgt⟩ := HP.out.2.2.1.some (by omega)
        have hrow := HI.out.2.2.1 g cur hgb hgc
        have hcell : ∀ j v, (rtCells k q)[j]? = some v → wr.cell? ⟨g, i * 6 + j, none⟩ = some v := fun j v hv => by
          refine hrow.cell (Nat.le_add_right _ _) ?_
          have h1 := rtCells_get hk hq hv
          rw [← hgt, List.getElem?_take] at h1
          split at h1
          · simpa using h1
          · cases h1
        have c0 : wr.cell? ⟨g, i * 6, none⟩ = some (.int .i64 k.kind) := hcell 0 _ rfl
        have c1 : wr.cell? ⟨g, i * 6 + 1, none⟩ = some (.string k.text) := hcell 1 _ rfl
        have c2 : wr.cell? ⟨g, i * 6 + 2, none⟩ = some (.int .i64 k.n) := hcell 2 _ rfl
        have c3 : wr.cell? ⟨g, i * 6 + 3, none⟩ = some (.slice q.s.p q.s.n q.s.c) := hcell 3 _ rfl
        have c4 : wr.cell? ⟨g, i * 6 + 4, none⟩ = some (.slice q.a.p q.a.n q.a.c) := hcell 4 _ rfl
        have c5 : wr.cell? ⟨g, i * 6 + 5, none⟩ = some (.slice q.k.p q.k.n q.k.c) := hcell 5 _ rfl
        have hlg := hrow.lt
        have hsub : ∀ b ∈ blksT q, b ∈ blksL (r.kids.drop i) := fun b hb => by rw [blksL_drop hq]; exact List.mem_append_left _ hb
        have hsubk : ∀ b ∈ blksL (r.kids.drop i), b ∈ blksL r.kids := fun b hb => by rw [blksL_split r.kids i]; exact List.mem_append_right _ hb
        have hndi : (blksL (r.kids.drop i)).Nodup := (List.nodup_append.1 (by rw [← blksL_split r.kids i]; exact HKN.out)).2.1
        rw [blksL_drop hq] at hndi
        obtain ⟨n1, n2, n3⟩ := List.nodup_append.1 hndi
        have HS := Lib.hid (IH.out k q B wr (by have h1 := cnt_kid hk; have h2 := HO.out.2.2.2; omega) (hoq.kept fun b hb => HI.out.2.1 b (hsub b hb)) n1 (HO.out.2.2.1.node.each k (List.mem_of_getElem? hk)))
        have hgk : g ∈ blksT r := HIN.out g (.inr (.inr (.inl (Option.mem_toList.2 hgb))))
        have hgkid : ∀ b ∈ blksL r.kids, b ≠ g := fun b hb e => HD.out g (List.mem_append_right _ (Option.mem_toList.2 hgb)) b hb e.symm
        have HG := Lib.hid (And.intro hgk (And.intro hgkid (And.intro hrow (And.intro hgb (And.intro hgc (And.intro hgl n3))))))
        have HSUB := Lib.hid (And.intro hsub (And.intro hsubk hq))
        rw [hgp] at k5
        have HGP := Lib.hid hgp
        have b1 : (0 : Int) ≤ (i : Int) := by omega
        have b2 : (i : Int) < (r.k.n : Int) := by omega
        clear hk hq hoq hgp hgb hgc hgl hgt hrow hcell hsub hsubk hndi n1 n2 n3 hgk hgkid
        unfold rtVal at HS
        go_wp2_with fail
        refine HS.out.mono ?_
        rintro e w7 ⟨rfl, ho7⟩
        have hrow7 := HG.out.2.2.1.kept (ho7.block g hlg (fun e => HG.out.2.1 g (HSUB.out.2.1 g (HSUB.out.1 g e)) rfl))
        have ho17 : Only W1 w7 (blksT r) := HI.out.1.trans (ho7.mono fun b hb => HIN.out b (.inr (.inr (.inr (HSUB.out.2.1 b (HSUB.out.1 b hb))))))
        have hsz : i * 6 + 5 < Array.size cur := by have := HG.out.2.2.2.2.2.1; omega
        have H7 := Lib.hid (And.intro ho7 (And.intro ho17 hrow7))
        obtain ⟨⟨v0, d0⟩, g0⟩ := hrow7.some (j := i * 6) (by omega)
        obtain ⟨⟨v1, d1⟩, g1⟩ := hrow7.some (j := i * 6 + 1) (by omega)
        obtain ⟨⟨v2, d2⟩, g2⟩ := hrow7.some (j := i * 6 + 2) (by omega)
        obtain ⟨⟨v3, d3⟩, g3⟩ := hrow7.some (j := i * 6 + 3) (by omega)
        obtain ⟨⟨v4, d4⟩, g4⟩ := hrow7.some (j := i * 6 + 4) (by omega)
        obtain ⟨⟨v5, d5⟩, g5⟩ := hrow7.some (j := i * 6 + 5) (by omega)
        clear k3 k4 k5 c0 c1 c2 c3 c4 c5 ho7 ho17 hrow7 hsz
        obtain ⟨k3, k4, k5⟩ := HK.out w7 H7.out.2.1
        rw [HGP.out] at k5
        go_wp2_with fail
        refine ⟨⟨i + 1, by omega, by go_num, Lib.hid ⟨?_, fun b hb => ?_, fun b cur2 hb hc => ?_, fun b hb => ?_⟩⟩, by simp [intOf]; omega⟩
        · exact ((((((H7.out.2.1.set HG.out.1 _).set HG.out.1 _).set HG.out.1 _).set HG.out.1 _).set HG.out.1 _).set HG.out.1 _)
        · have hb0 : b ∈ blksL (r.kids.drop i) := by rw [blksL_drop HSUB.out.2.2]; exact List.mem_append_right _ hb
          have hne : b ≠ g := HG.out.2.1 b (HSUB.out.2.1 b hb0)
          rw [Below.heap_setCell _ _ _ _ hne, Below.heap_setCell _ _ _ _ hne, Below.heap_setCell _ _ _ _ hne, Below.heap_setCell _ _ _ _ hne, Below.heap_setCell _ _ _ _ hne, Below.heap_setCell _ _ _ _ hne]
          have hold := HI.out.2.1 b hb0
          refine (H7.out.1.block b ?_ fun e => HG.out.2.2.2.2.2.2 b e b hb rfl).trans hold
          have hbl := (HP.out.2.2.2.2.blk b (HSUB.out.2.1 b hb0)).2
          exact Nat.lt_of_lt_of_le hbl HI.out.1.size
        · obtain rfl : b = g := by rw [HG.out.2.2.2.1] at hb; exact (Option.some.inj hb).symm
          obtain rfl : cur2 = cur := by rw [HG.out.2.2.2.2.1] at hc; simpa using hc.symm
          exact ((((((((H7.out.2.2.more (m' := (i + 1) * 6) (by omega)).set (by omega) _).set (by omega) _).set (by omega) _).set (by omega) _).set (by omega) _).set (by omega) _))
        · have hne : b ≠ g := HNE.out.1 b hb g HG.out.2.2.2.1
          rw [Below.heap_setCell _ _ _ _ hne, Below.heap_setCell _ _ _ _ hne, Below.heap_setCell _ _ _ _ hne, Below.heap_setCell _ _ _ _ hne, Below.heap_setCell _ _ _ _ hne, Below.heap_setCell _ _ _ _ hne]
          have hold := HI.out.2.2.2 b hb
          have hbl : b < W1.heap.size := (HO.out.1.blk b (HIN.out b (by rcases hb with hb | hb; exact .inl hb; exact .inr (.inl hb)))).2
          refine (H7.out.1.block b (Nat.lt_of_lt_of_le hbl HI.out.1.size) fun e => ?_).trans hold
          exact HD.out b (List.mem_append_left _ (List.mem_append.2 hb)) b (HSUB.out.2.1 b (HSUB.out.1 b e)) rfl
      · obtain rfl : i = r.k.n := by omega
        have HI2 : Hid (Only W1 wr (blksT r) ∧ ∀ g, (g ∈ r.s.blk.toList ∨ g ∈ r.a.blk.toList) → wr.heap[g]? = W1.heap[g]?) := Lib.hid ⟨HI.out.1, HI.out.2.2.2⟩
        clear hlt HI
        go_wp2_with fail
        clear k3 k4 k5
        obtain ⟨W4, rfl⟩ : ∃ W4, W4 = wr := ⟨_, rfl⟩
        go_loopw [3] (fun v W => ∃ i : Nat, i ≤ r.s.n ∧ v = .int .i64 i ∧ Hid (Only W1 W (blksT r) ∧ (∀ g cur, r.s.blk = some g → W1.heap[g]? = some (.cells cur TIn (0, 0)) → RowIs W g TIn cur r.s.n) ∧ (∀ g, g ∈ r.a.blk.toList → W.heap[g]? = W1.heap[g]?))) (fun v _ => r.s.n - (intOf v).toNat)
        case atStart => exact ⟨0, Nat.zero_le _, rfl, Lib.hid ⟨HI2.out.1, fun g cur hg hc => ⟨cur, (HI2.out.2 g (.inl (Option.mem_toList.2 hg))).trans hc, rfl, fun _ _ => rfl⟩, fun g hg => HI2.out.2 g (.inr hg)⟩⟩
        case round =>
          obtain ⟨i, hi, rfl, HJ⟩ := hrel
          obtain ⟨k3, k4, k5⟩ := HK.out wr HJ.out.1
          by_cases hlt : i < r.s.n
          · obtain ⟨g, cur, hgp, hgb, hgc, hgl, _⟩ := HP.out.1.some (by omega)
            have hrow := HJ.out.2.1 g cur hgb hgc
            obtain ⟨⟨v0, d0⟩, g0⟩ := hrow.some (j := i) (by omega)
            have HG := Lib.hid (And.intro hrow (And.intro hgb hgc))
            rw [hgp] at k3
            have b1 : (0 : Int) ≤ (i : Int) := by omega
            have b2 : (i : Int) < (r.s.n : Int) := by omega
            clear hgp hgb hgc hgl hrow
            go_wp2_with fail
            refine ⟨⟨i + 1, by omega, by go_num, Lib.hid ⟨HJ.out.1.set (HIN.out g (.inl (Option.mem_toList.2 HG.out.2.1))) _, fun b cur2 hb hc => ?_, fun b hb => ?_⟩⟩, by simp [intOf]; omega⟩
            · obtain rfl : b = g := by rw [HG.out.2.1] at hb; exact (Option.some.inj hb).symm
              obtain rfl : cur2 = cur := by rw [HG.out.2.2] at hc; simpa using hc.symm
              exact HG.out.1.set hlt _
            · rw [Below.heap_setCell _ _ _ _ (fun e => HNE.out.2 g b HG.out.2.1 (Option.mem_toList.1 hb) e.symm)]
              exact HJ.out.2.2 b hb
          · obtain rfl : i = r.s.n := by omega
            have HJ2 : Hid (Only W1 wr (blksT r) ∧ ∀ g, g ∈ r.a.blk.toList → wr.heap[g]? = W1.heap[g]?) := Lib.hid ⟨HJ.out.1, HJ.out.2.2⟩
            clear hlt HJ
            go_wp2_with fail
            clear k3 k4 k5
            obtain ⟨W5, rfl⟩ : ∃ W5, W5 = wr := ⟨_, rfl⟩
            go_loopw [4] (fun v W => ∃ i : Nat, i ≤ r.a.n ∧ v = .int .i64 i ∧ Hid (Only W1 W (blksT r) ∧ (∀ g cur, r.a.blk = some g → W1.heap[g]? = some (.cells cur TI6 (0, 0)) → RowIs W g TI6 cur r.a.n))) (fun v _ => r.a.n - (intOf v).toNat)
            case atStart => exact ⟨0, Nat.zero_le _, rfl, Lib.hid ⟨HJ2.out.1, fun g cur hg hc => ⟨cur, (HJ2.out.2 g (Option.mem_toList.2 hg)).trans hc, rfl, fun _ _ => rfl⟩⟩⟩
            case round =>
              obtain ⟨i, hi, rfl, HL⟩ := hrel
              obtain ⟨k3, k4, k5⟩ := HK.out wr HL.out.1
              by_cases hlt : i < r.a.n
              · obtain ⟨g, cur, hgp, hgb, hgc, hgl, _⟩ := HP.out.2.1.some (by omega)
                have hrow := HL.out.2 g cur hgb hgc
                obtain ⟨⟨v0, d0⟩, g0⟩ := hrow.some (j := i) (by omega)
                have HG := Lib.hid (And.intro hrow (And.intro hgb hgc))
                rw [hgp] at k4
                have b1 : (0 : Int) ≤ (i : Int) := by omega
                have b2 : (i : Int) < (r.a.n : Int) := by omega
                clear hgp hgb hgc hgl hrow
                go_wp2_with fail
                refine ⟨⟨i + 1, by omega, by go_num, Lib.hid ⟨HL.out.1.set (HIN.out g (.inr (.inl (Option.mem_toList.2 HG.out.2.1)))) _, fun b cur2 hb hc => ?_⟩⟩, by simp [intOf]; omega⟩
                obtain rfl : b = g := by rw [HG.out.2.1] at hb; exact (Option.some.inj hb).symm
                obtain rfl : cur2 = cur := by rw [HG.out.2.2] at hc; simpa using hc.symm
                exact HG.out.1.set hlt _
              · obtain rfl : i = r.a.n := by omega
                clear hlt
                go_wp2_with fail
                refine bodyPost_end (results_none rfl _ _ _) rfl ⟨rfl, ?_⟩
                exact (Only.of_below HW1.out.2 _).trans HL.out.1
end Go.Proofs.YtkdejffhdhcocaaGreat
