/- slices.Clone at []int, []int64; slices.Clip at []api.Term. Condition: sizes within reach. · term: twin, Copy: a term in memory of its own. Condition: sizes within reach. · term: Copy. Condition: sizes within reach. · append of numbers, none or some, onto nothing or a row of one's own. No condition. · Terms by append: what stands while a term is copied. No condition. -/
import Derived.Test.YtkdejffhdhcocaaGreatTeM1
import Derived.Test.YtkdejffhdhcocaaGreatTeW1
import Derived.Maps.AppendAt
import Derived.WalkSpells
import Derived.Test.YtkdejffhdhcocaaGreatTeMP
import Derived.Test.YtkdejffhdhcocaaGreatTeMW
import Derived.Deep.AppendLies
import Derived.Deep.RegionLaw
import Derived.Deep.RegionWith
import Derived.Deep.Upon
import Derived.Deep.Cut
namespace Go.Proofs.YtkdejffhdhcocaaGreat
open Go.RowKit

theorem info_in : (Tryz.prog.info? TIn).map (fun i => (i.zero, i.size, i.bytes)) = some (some (.int .i64 0), 1, 8) := by kernel_rfl
theorem info_i6 : (Tryz.prog.info? TI6).map (fun i => (i.zero, i.size, i.bytes)) = some (some (.int .i64 0), 1, 8) := by kernel_rfl
theorem intVals_one (l : List Int) : ∀ u ∈ intVals l, u.oneCell' = true := fun u hu => by
  obtain ⟨x, _, rfl⟩ := List.mem_map.1 hu
  rfl
theorem intVals_len (l : List Int) : (intVals l).length = l.length := by simp [intVals]
/-- an owned row by append's words, by ours -/
theorem own_of_row {w : World} {B z : Nat} {t : TypeId} {v : Value} {n : Nat} {vs : List Value} (h : w.ownsRow B t z v n vs) : ∃ r : Rw, v = r.val ∧ r.n = n ∧ RowOwn w B t z r vs := by
  obtain ⟨h1, ⟨rfl, rfl⟩ | ⟨g, cap, cur, rfl, h2, h3, h4, h5, h6, h7⟩⟩ := h
  · exact ⟨⟨none, 0, 0⟩, rfl, rfl, h1, .inl ⟨rfl, rfl⟩⟩
  · refine ⟨⟨some ⟨g, 0, none⟩, n, cap⟩, rfl, rfl, h1, ?_⟩
    rcases Nat.eq_zero_or_pos cap with h0 | h0
    · exact .inl ⟨by show n = 0; omega, h0⟩
    · exact .inr ⟨g, cur, rfl, h4, h0, h5, h2, h3, by show cap * z ≤ cur.size; omega, h7⟩
theorem ints_news {w : World} {ad : Addr} {l : List Int} (h : IntsAt w (some ad) l) : ∀ j u, (intVals l)[j]? = some u → w.cell? (ad.add j) = some u := fun j u hu => by
  unfold intVals at hu
  rw [List.getElem?_map] at hu
  obtain ⟨x, hx, rfl⟩ := Option.map_eq_some_iff.1 hu
  obtain ⟨b, off, e, _, hc⟩ := h j x hx
  simp only [Option.some.injEq] at e
  subst e
  have e2 : (⟨b, off, none⟩ : Addr).add j = ⟨b, off + j, none⟩ := by unfold Addr.add; split <;> simp_all
  rw [e2]
  exact hc

set_option maxRecDepth 100000 in
set_option maxHeartbeats 4000000 in
theorem clone_int (l : List Int) (A : Option Addr) (ca : Nat) (w : World) (hA : IntsAt w A l) (hl : l.length * 8 ≤ 140737488351232) :
    Calls Tryz.prog 99 #[.slice A l.length ca] w fun e w' => ∃ r : Rw, e = .returned (.slice r.p r.n r.c) ∧ RowOwn w' w.heap.size TIn 1 r (intVals l) ∧ Below w.heap.size w w' := by
  obtain ⟨n, hn⟩ : ∃ n, n = l.length := ⟨_, rfl⟩
  have HN := Lib.hid hn
  rw [← hn] at hl ⊢
  cases A with
  | none =>
    have h0 : l = [] := by
      cases l with
      | nil => rfl
      | cons x r => obtain ⟨b, off, e, _⟩ := hA 0 x rfl; cases e
    have HL := Lib.hid h0
    have hnil : ∀ W, (binOp .eql 33 (.slice none n ca) (.slice none 0 0)).run Tryz.prog W = .ok (.bool true) W := fun W => Lib.run_eql_slice_nil W _ _ none n ca 0 0 Tryz.underlying33
    clear hA hn h0
    go_enter Tryz.func99, Tryz.ntmps99
    go_wp2_with fail
    go_ret
    rw [HL.out]
    exact ⟨⟨none, 0, 0⟩, rfl, ⟨rfl, .inl ⟨rfl, rfl⟩⟩, Below.refl _ _⟩
  | some ad =>
    obtain ⟨W1, hW1⟩ : ∃ W1, W1 = w.alloc (.cells #[] TIn) := ⟨_, rfl⟩
    have hb1 : Below w.heap.size w W1 := by rw [hW1]; exact (Below.refl _ _).alloc (Nat.le_refl _) _
    have HS1 : Hid (W1.heap.size = w.heap.size + 1) := Lib.hid (by rw [hW1]; simp)
    have HOWN : Hid (W1.ownsRow w.heap.size TIn 1 (.slice (some ⟨w.heap.size, 0, none⟩) 0 0) 0 []) := Lib.hid (by rw [hW1]; exact World.ownsRow_made w #[] 0 (Nat.le_refl _) (Nat.zero_le _) rfl)
    have HNEW := Lib.hid (ints_news (hA.on hb1))
    have HB1 := Lib.hid hb1
    have HW1 := Lib.hid hW1
    obtain ⟨j0, hj, hz0, hz1, hz2⟩ := info_parts info_in
    have hnil : ∀ W, (binOp .eql 33 (.slice (some ad) n ca) (.slice none 0 0)).run Tryz.prog W = .ok (.bool false) W := fun W => Lib.run_eql_slice_nil W _ _ (some ad) n ca 0 0 Tryz.underlying33
    clear hA hn hb1 hW1
    go_enter Tryz.func99, Tryz.ntmps99
    go_wp2_with (at_builtin; rw [← HW1.out]; refine wpList_append_own _ rfl (.tmp 5) (.tmp 6) 33 rfl w.heap.size TIn j0 (.int .i64 0) 1 8 Tryz.underlying33 hj hz0 hz1 hz2 rfl (by decide) (.slice (some ⟨w.heap.size, 0, none⟩) 0 0) 0 [] rfl HOWN.out ad n ca (intVals l) rfl (by rw [intVals_len, ← HN.out, Nat.mul_one]) HNEW.out (intVals_one l) (by unfold maxLen; omega) (by omega) (by rw [HS1.out]; omega) ?_)
    intro v' w' hown' hgr' _
    obtain ⟨r, rfl, hrn, hro⟩ := own_of_row hown'
    have HR : Hid (RowOwn w' w.heap.size TIn 1 r (intVals l) ∧ Below w.heap.size w w') := Lib.hid ⟨by simpa using hro, HB1.out.grown hgr' HB1.out.size (fun k hk => (HOWN.out.lt k hk).1)⟩
    clear hown' hgr' hrn hro
    go_wp2_with fail
    go_ret
    exact ⟨r, rfl, HR.out.1, HR.out.2⟩
set_option maxRecDepth 100000 in
set_option maxHeartbeats 4000000 in
theorem clone_i64 (l : List Int) (A : Option Addr) (ca : Nat) (w : World) (hA : IntsAt w A l) (hl : l.length * 8 ≤ 140737488351232) :
    Calls Tryz.prog 100 #[.slice A l.length ca] w fun e w' => ∃ r : Rw, e = .returned (.slice r.p r.n r.c) ∧ RowOwn w' w.heap.size TI6 1 r (intVals l) ∧ Below w.heap.size w w' := by
  obtain ⟨n, hn⟩ : ∃ n, n = l.length := ⟨_, rfl⟩
  have HN := Lib.hid hn
  rw [← hn] at hl ⊢
  cases A with
  | none =>
    have h0 : l = [] := by
      cases l with
      | nil => rfl
      | cons x r => obtain ⟨b, off, e, _⟩ := hA 0 x rfl; cases e
    have HL := Lib.hid h0
    have hnil : ∀ W, (binOp .eql 34 (.slice none n ca) (.slice none 0 0)).run Tryz.prog W = .ok (.bool true) W := fun W => Lib.run_eql_slice_nil W _ _ none n ca 0 0 Tryz.underlying34
    clear hA hn h0
    go_enter Tryz.func100, Tryz.ntmps100
    go_wp2_with fail
    go_ret
    rw [HL.out]
    exact ⟨⟨none, 0, 0⟩, rfl, ⟨rfl, .inl ⟨rfl, rfl⟩⟩, Below.refl _ _⟩
  | some ad =>
    obtain ⟨W1, hW1⟩ : ∃ W1, W1 = w.alloc (.cells #[] TI6) := ⟨_, rfl⟩
    have hb1 : Below w.heap.size w W1 := by rw [hW1]; exact (Below.refl _ _).alloc (Nat.le_refl _) _
    have HS1 : Hid (W1.heap.size = w.heap.size + 1) := Lib.hid (by rw [hW1]; simp)
    have HOWN : Hid (W1.ownsRow w.heap.size TI6 1 (.slice (some ⟨w.heap.size, 0, none⟩) 0 0) 0 []) := Lib.hid (by rw [hW1]; exact World.ownsRow_made w #[] 0 (Nat.le_refl _) (Nat.zero_le _) rfl)
    have HNEW := Lib.hid (ints_news (hA.on hb1))
    have HB1 := Lib.hid hb1
    have HW1 := Lib.hid hW1
    obtain ⟨j0, hj, hz0, hz1, hz2⟩ := info_parts info_i6
    have hnil : ∀ W, (binOp .eql 34 (.slice (some ad) n ca) (.slice none 0 0)).run Tryz.prog W = .ok (.bool false) W := fun W => Lib.run_eql_slice_nil W _ _ (some ad) n ca 0 0 Tryz.underlying34
    clear hA hn hb1 hW1
    go_enter Tryz.func100, Tryz.ntmps100
    go_wp2_with (at_builtin; rw [← HW1.out]; refine wpList_append_own _ rfl (.tmp 5) (.tmp 6) 34 rfl w.heap.size TI6 j0 (.int .i64 0) 1 8 Tryz.underlying34 hj hz0 hz1 hz2 rfl (by decide) (.slice (some ⟨w.heap.size, 0, none⟩) 0 0) 0 [] rfl HOWN.out ad n ca (intVals l) rfl (by rw [intVals_len, ← HN.out, Nat.mul_one]) HNEW.out (intVals_one l) (by unfold maxLen; omega) (by omega) (by rw [HS1.out]; omega) ?_)
    intro v' w' hown' hgr' _
    obtain ⟨r, rfl, hrn, hro⟩ := own_of_row hown'
    have HR : Hid (RowOwn w' w.heap.size TI6 1 r (intVals l) ∧ Below w.heap.size w w') := Lib.hid ⟨by simpa using hro, HB1.out.grown hgr' HB1.out.size (fun k hk => (HOWN.out.lt k hk).1)⟩
    clear hown' hgr' hrn hro
    go_wp2_with fail
    go_ret
    exact ⟨r, rfl, HR.out.1, HR.out.2⟩
set_option maxRecDepth 100000 in
theorem clip_any (p : Option Addr) (n c : Nat) (w : World) (hn : n ≤ c) :
    Calls Tryz.prog 101 #[.slice p n c] w fun e w' => e = .returned (.slice p n n) ∧ w' = w := by
  have h1 : (0 : Int) ≤ (n : Int) := by omega
  have h2 : (n : Int) ≤ (c : Int) := by omega
  go_enter Tryz.func101, Tryz.ntmps101
  go_wp2_with fail
  go_ret
  exact ⟨rfl, rfl⟩
end Go.Proofs.YtkdejffhdhcocaaGreat

namespace Go.Proofs.YtkdejffhdhcocaaGreat
open Go.RowKit

theorem blk_own {r : Rw} {k : Nat} (h : r.blk = some k) : r.val.ownBlock = some k := by
  obtain ⟨p, n, c⟩ := r
  unfold Rw.blk at h
  split at h
  · cases h
  · obtain ⟨a, ha, rfl⟩ := Option.map_eq_some_iff.1 h
    simp only at ha
    subst ha
    rfl
abbrev rtVal (t : Tm) (r : Rt) : Value := .agg #[.int .i64 t.kind, .string t.text, .int .i64 t.n, .slice r.s.p r.s.n r.s.c, .slice r.a.p r.a.n r.a.c, .slice r.k.p r.k.n r.k.c]
abbrev tm0 : Array Value := #[.int .i64 0, .string ⟨#[]⟩, .int .i64 0, .slice none 0 0, .slice none 0 0, .slice none 0 0]
theorem info_tm : (Tryz.prog.info? TTm).map (fun i => (i.zero, i.size, i.bytes)) = some (some (.agg tm0), 6, 104) := by kernel_rfl
theorem OwnT.mk_ {w : World} {B : Nat} {t : Tm} {s a k : Rw} {rs : List Rt} (h1 : RowOwn w B TIn 1 s (intVals t.sh)) (h2 : RowOwn w B TI6 1 a (intVals t.at_)) (h3 : RowOwn w B TTm 6 k (rtCellsL t.kids rs)) (h4 : t.kids.length = rs.length) (h5 : OwnL w B t.kids rs) : OwnT w B t (.mk s a k rs) := by
  cases t
  simp only [OwnT]
  exact ⟨h1, h2, h3, h4, h5⟩
/-- what stands while a term is copied: the first kids lie in a row -/
structure TwinW (w : World) (B : Nat) (ks : List Tm) (W : World) (rs : List Rt) (i : Nat) (v : Value) : Prop where
  row : W.ownsRow B TTm 6 v i (rtCellsL (ks.take i) rs)
  own : OwnL W B (ks.take i) rs
  nd : (blksL rs).Nodup
  ap : ∀ k, v.ownBlock = some k → k ∉ blksL rs
  le : w.heap.size ≤ B
  be : Below w.heap.size w W
section
variable {w W W' : World} {B i : Nat} {ks : List Tm} {rs : List Rt} {v : Value}
theorem TwinW.below (h : TwinW w B ks W rs i v) (hb : Below W.heap.size W W') : TwinW w B ks W' rs i v :=
  ⟨h.row.kept (row := none) (grown_below hb none) (by cases v.ownBlock <;> simp), h.own.on hb, h.nd, h.ap, h.le, h.be.then_ hb⟩
theorem TwinW.take {t : Tm} {r : Rt} {W1 W2 W3 W4 : World} {v' : Value} (h : TwinW w B ks W1 rs i v) (hB : B ≤ W1.heap.size) (ht : ks[i]? = some t) (hb : Below W1.heap.size W1 W2) (ho : OwnT W2 W1.heap.size t r) (hn : (blksT r).Nodup)
    (hb3 : Below W2.heap.size W2 W3) (hown : W4.ownsRow B TTm 6 v' (i + 1) (rtCellsL (ks.take i) rs ++ rtCells t r)) (hgr : W3.grownBy W4 v.ownBlock) (hor : v'.ownBlock = v.ownBlock ∨ v'.ownBlock = some W3.heap.size) : TwinW w B ks W4 (rs ++ [r]) (i + 1) v' := by
  have h13 : Below W1.heap.size W1 W3 := hb.then_ hb3
  have hlen : (ks.take i).length = rs.length := h.own.len
  have htk : ks.take (i + 1) = ks.take i ++ [t] := by rw [List.take_add_one, ht]; rfl
  have hold : ∀ g ∈ blksL rs, B ≤ g ∧ g < W1.heap.size := h.own.blk
  have hnew : ∀ g ∈ blksT r, W1.heap.size ≤ g ∧ g < W2.heap.size := ho.blk
  have hvlt : ∀ k, v.ownBlock = some k → k < W1.heap.size := fun k hk => (h.row.lt k hk).2
  have keepO : ∀ g ∈ blksL rs, W4.heap[g]? = W1.heap[g]? := fun g hg => (hgr.block g (Nat.lt_of_lt_of_le (hold g hg).2 h13.size) (fun e => h.ap g e.symm hg)).trans (h13.block g (hold g hg).2)
  have keepN : ∀ g ∈ blksT r, W4.heap[g]? = W2.heap[g]? := fun g hg => (hgr.block g (Nat.lt_of_lt_of_le (hnew g hg).2 hb3.size) (fun e => by have := hvlt g e.symm; have := (hnew g hg).1; omega)).trans (hb3.block g (hnew g hg).2)
  refine ⟨?_, ?_, ?_, ?_, h.le, ?_⟩
  · rw [htk, rtCellsL_app hlen]
    simp only [rtCellsL, List.append_nil]
    exact hown
  · rw [htk]
    refine (h.own.kept keepO).app ?_
    simp only [OwnL, and_true]
    exact (ho.kept keepN).mono hB
  · rw [blksL_app]
    simp only [blksL, List.append_nil]
    refine List.nodup_append.2 ⟨h.nd, hn, fun a ha b hb' e => ?_⟩
    subst e
    have := (hold a ha).2
    have := (hnew a hb').1
    omega
  · intro k hk hm
    rw [blksL_app] at hm
    simp only [blksL, List.append_nil, List.mem_append] at hm
    rcases hor with e | e
    · rw [e] at hk
      rcases hm with hm | hm
      · exact h.ap k hk hm
      · have := hvlt k hk; have := (hnew k hm).1; omega
    · rw [e] at hk
      injection hk with hk
      have := hb3.size
      have := h13.size
      rcases hm with hm | hm
      · have := (hold k hm).2; omega
      · have := (hnew k hm).2; omega
  · refine (h.be.then_ h13).grown hgr (Nat.le_trans h.be.size h13.size) fun k hk => ?_
    have := (h.row.lt k hk).1
    have := h.le
    omega
end
theorem row_clip {w : World} {B z : Nat} {t : TypeId} {v : Value} {n : Nat} {vs : List Value} (h : w.ownsRow B t z v n vs) : ∃ p c, v = .slice p n c ∧ n ≤ c ∧ RowOwn w B t z ⟨p, n, n⟩ vs ∧ ∀ g, (⟨p, n, n⟩ : Rw).blk = some g → v.ownBlock = some g := by
  obtain ⟨h1, ⟨rfl, rfl⟩ | ⟨g, cap, cur, rfl, h2, h3, h4, h5, h6, h7⟩⟩ := h
  · exact ⟨none, 0, rfl, Nat.le_refl _, ⟨h1, .inl ⟨rfl, rfl⟩⟩, fun g hg => (by simp [Rw.blk] at hg)⟩
  · refine ⟨some ⟨g, 0, none⟩, cap, rfl, h4, ⟨h1, ?_⟩, fun k hk => ?_⟩
    · rcases Nat.eq_zero_or_pos n with h0 | h0
      · exact .inl ⟨h0, h0⟩
      · exact .inr ⟨g, cur, rfl, Nat.le_refl _, h0, Nat.le_trans h4 h5, h2, h3, by rw [h6]; exact Nat.mul_le_mul_right _ h4, h7⟩
    · unfold Rw.blk at hk
      split at hk
      · cases hk
      · exact hk
/-- what twin leaves -/
def TwinPost (t : Tm) (w : World) (e : Ending) (w' : World) : Prop := ∃ r : Rt, e = .returned (rtVal t r) ∧ OwnT w' w.heap.size t r ∧ (blksT r).Nodup ∧ Below w.heap.size w w'
set_option maxRecDepth 100000 in
set_option maxHeartbeats 8000000 in
theorem twin_any (N : Nat) : ∀ (t : Tm) (A : Option Addr) (ca : Nat) (B : Option Addr) (cb : Nat) (K : Option Addr) (ck : Nat) (w : World), cnt t ≤ N → TmAt w t A B K → WfT t → Calls Tryz.prog 69 #[tmVal t A ca B cb K ck] w (TwinPost t w) := by
  induction N with
  | zero => intro t A ca B cb K ck w h; cases t; simp [cnt] at h
  | succ N ih =>
    intro t A ca B cb K ck w hN hat hwf
    obtain ⟨W2, hW2⟩ : ∃ W2, W2 = (w.alloc (.cells (tmCells t A ca B cb K ck) TTm)).alloc (.cells tm0 TTm) := ⟨_, rfl⟩
    have hb1 : Below w.heap.size w (w.alloc (.cells (tmCells t A ca B cb K ck) TTm)) := (Below.refl _ _).alloc (Nat.le_refl _) _
    have hb2 : Below w.heap.size w W2 := by rw [hW2]; exact hb1.alloc hb1.size _
    have hc1 : W2.heap[w.heap.size]? = some (.cells (tmCells t A ca B cb K ck) TTm (0, 0)) := by rw [hW2]; exact (Below.heap_alloc _ _ _ (by simp)).trans (heap_alloc_new w _)
    have hc2 : W2.heap[w.heap.size + 1]? = some (.cells tm0 TTm (0, 0)) := by rw [hW2]; exact heap_new2 _ _ _
    have HS : Hid (W2.heap.size = w.heap.size + 2) := Lib.hid (by rw [hW2]; simp)
    have HX := Lib.hid (And.intro hb2 (And.intro hc1 (And.intro hc2 (hat.on hb2))))
    have HWF := Lib.hid hwf
    have HW2 := Lib.hid hW2
    have HNN := Lib.hid hN
    have HAT := Lib.hid hat
    have IH := Lib.hid ih
    obtain ⟨j0, hj, hz0, hz1, hz2⟩ := info_parts info_tm
    clear hat hwf hb1 hb2 hc1 hc2 hW2 hN ih
    go_enter Tryz.func69, Tryz.ntmps69
    go_wp2_with fail
    rw [← HW2.out]
    refine (clone_int t.sh A ca W2 HX.out.2.2.2.sh HWF.out.node.sh8).mono ?_
    rintro e w3 ⟨rs, rfl, hso, hb3⟩
    have HSO := Lib.hid hso
    have HB3 := Lib.hid hb3
    have hd1 := (hb3.block _ (heap_lt HX.out.2.1)).trans HX.out.2.1
    have f3 := unfrozen hd1 3
    have x0 := cell_at hd1 (j := 3) rfl
    have x1 := cell_at hd1 (j := 4) rfl
    clear hso hb3 hd1
    go_wp2_with fail
    obtain ⟨W4, hW4⟩ : ∃ W4, W4 = w3.setCell ⟨w.heap.size, 3, none⟩ (.slice rs.p rs.n rs.c) := ⟨_, rfl⟩
    have hb4 : Below w.heap.size w W4 := by rw [hW4]; exact (HX.out.1.then_ HB3.out).setCell (Nat.le_refl _) _
    have hs4 : W4.heap.size = w3.heap.size := by rw [hW4]; simp [World.setCell]
    have hd4 : W4.heap[w.heap.size]? = some (.cells #[.int .i64 t.kind, .string t.text, .int .i64 t.n, .slice rs.p rs.n rs.c, .slice B t.at_.length cb, .slice K t.kids.length ck] TTm (0, 0)) := by
      rw [hW4, Go.heap_setCell_same w3 _ 3 _ TTm _ ((HB3.out.block _ (heap_lt HX.out.2.1)).trans HX.out.2.1)]
      rfl
    have ho4 : ∀ k, k ≠ w.heap.size → W4.heap[k]? = w3.heap[k]? := fun k hk => by rw [hW4]; exact Below.heap_setCell _ _ _ _ hk
    have H4 := Lib.hid (And.intro hb4 (And.intro hs4 (And.intro hd4 ho4)))
    have HW4 := Lib.hid hW4
    clear hb4 hs4 hd4 ho4 hW4 x0 x1 f3
    rw [← HW4.out]
    refine (clone_i64 t.at_ B cb W4 (HAT.out.at_.on H4.out.1) HWF.out.node.at8).mono ?_
    rintro e w5 ⟨ra, rfl, hao, hb5⟩
    have HAO := Lib.hid hao
    have HB5 := Lib.hid hb5
    have hd5 := (hb5.block _ (heap_lt H4.out.2.2.1)).trans H4.out.2.2.1
    have f4 := unfrozen hd5 4
    have x1 := cell_at hd5 (j := 4) rfl
    have x2 := cell_at hd5 (j := 5) rfl
    have HD5 := Lib.hid hd5
    clear hao hb5 hd5
    obtain ⟨W6, hW6⟩ : ∃ W6, W6 = w5.setCell ⟨w.heap.size, 4, none⟩ (.slice ra.p ra.n ra.c) := ⟨_, rfl⟩
    have hb6 : Below w.heap.size w W6 := by rw [hW6]; exact (H4.out.1.then_ HB5.out).setCell (Nat.le_refl _) _
    have hs6 : W6.heap.size = w5.heap.size := by rw [hW6]; simp [World.setCell]
    have hd6 : W6.heap[w.heap.size]? = some (.cells #[.int .i64 t.kind, .string t.text, .int .i64 t.n, .slice rs.p rs.n rs.c, .slice ra.p ra.n ra.c, .slice K t.kids.length ck] TTm (0, 0)) := by
      rw [hW6, Go.heap_setCell_same w5 _ 4 _ TTm _ HD5.out]
      rfl
    have ho6 : ∀ k, k ≠ w.heap.size → W6.heap[k]? = w5.heap[k]? := fun k hk => by rw [hW6]; exact Below.heap_setCell _ _ _ _ hk
    have hsz6 : w.heap.size + 2 ≤ W6.heap.size := by have h1 := HS.out; have h2 := HB3.out.size; have h3 := H4.out.2.1; have h4 := HB5.out.size; omega
    have hz6 : W6.heap[w.heap.size + 1]? = some (.cells tm0 TTm (0, 0)) := by
      rw [ho6 _ (by omega), HB5.out.block _ (by have h1 := HS.out; have h2 := HB3.out.size; have h3 := H4.out.2.1; omega), H4.out.2.2.2 _ (by omega), HB3.out.block _ (by have h1 := HS.out; omega)]
      exact HX.out.2.2.1
    have hso6 : RowOwn W6 (w.heap.size + 2) TIn 1 rs (intVals t.sh) := by
      have h1 : RowOwn w3 (w.heap.size + 2) TIn 1 rs (intVals t.sh) := HSO.out.mono (by have h1 := HS.out; omega)
      refine h1.kept fun g hg => ?_
      obtain ⟨hge, cur, hc⟩ := h1.blk_lt hg
      have hl := heap_lt hc
      rw [ho6 g (by omega), HB5.out.block g (by have h3 := H4.out.2.1; omega), H4.out.2.2.2 g (by omega)]
    have hao6 : RowOwn W6 (w.heap.size + 2) TI6 1 ra (intVals t.at_) := by
      have h1 : RowOwn w5 (w.heap.size + 2) TI6 1 ra (intVals t.at_) := HAO.out.mono (by have h1 := HS.out; have h2 := HB3.out.size; have h3 := H4.out.2.1; omega)
      refine h1.kept fun g hg => ?_
      obtain ⟨hge, cur, hc⟩ := h1.blk_lt hg
      exact ho6 g (by omega)
    have H6 := Lib.hid (And.intro hb6 (And.intro hd6 (And.intro hz6 (And.intro hso6 (And.intro hao6 hsz6)))))
    have HW6 := Lib.hid hW6
    have HK : Hid (∀ W, Below W6.heap.size W6 W → W.heap[w.heap.size]? = some (.cells #[.int .i64 t.kind, .string t.text, .int .i64 t.n, .slice rs.p rs.n rs.c, .slice ra.p ra.n ra.c, .slice K t.kids.length ck] TTm (0, 0)) ∧ W.heap[w.heap.size + 1]? = some (.cells tm0 TTm (0, 0))) := Lib.hid fun W h => ⟨(h.block _ (heap_lt H6.out.2.1)).trans H6.out.2.1, (h.block _ (heap_lt H6.out.2.2.1)).trans H6.out.2.2.1⟩
    have HKA : Hid (KidsAt W6 K t.kids 0) := Lib.hid (HAT.out.kids.on H6.out.1)
    have HT0 : Hid (TwinW W6 W6.heap.size t.kids W6 [] 0 (.slice none 0 0)) := Lib.hid ⟨World.ownsRow_nil _ _ _ _, by simp only [List.take_zero, OwnL], by simp only [blksL]; exact List.nodup_nil, fun k hk => (by cases hk), Nat.le_refl _, Below.refl _ _⟩
    have q5 := cell_at H6.out.2.1 (j := 5) rfl
    obtain ⟨n, hn⟩ : ∃ n, n = t.kids.length := ⟨_, rfl⟩
    have HN := Lib.hid hn
    have hk104 : n * 104 ≤ 140737488351232 := by rw [hn]; exact HWF.out.node.kids104
    rw [← hn] at x2 q5 HK
    clear hb6 hs6 hd6 ho6 hsz6 hz6 hso6 hao6 hW6 hn
    go_wp2_with fail
    rw [← HW6.out]
    clear x1 x2 f4 q5
    go_loopw [3, 21] (fun v3 v W => ∃ (i : Nat) (rl : List Rt), i ≤ n ∧ v = .int .i64 i ∧ Hid (TwinW W6 W6.heap.size t.kids W rl i v3)) (fun _ v _ => n - (intOf v).toNat)
    case atStart => exact ⟨0, [], Nat.zero_le _, rfl, HT0⟩
    case round =>
      obtain ⟨i, rl, hi, rfl, HI⟩ := hrel
      by_cases hlt : i < n
      · obtain ⟨k, hk2⟩ : ∃ k, t.kids[i]? = some k := ⟨_, List.getElem?_eq_getElem (by rw [← HN.out]; exact hlt)⟩
        obtain ⟨b', off', rfl, hpk⟩ := (HKA.out.on HI.out.be).get hk2
        rw [Nat.zero_add] at hpk
        obtain ⟨A', ca', B', cb', K', ck', hlt', q0, q1, q2, q3, q4, q5, hat'⟩ := hpk.cells
        have HC : Hid (cnt k ≤ N) := Lib.hid (by have := cnt_kid hk2; have := HNN.out; omega)
        have HKW : Hid (WfT k) := Lib.hid (HWF.out.node.each k (List.mem_of_getElem? hk2))
        have HKT := Lib.hid hk2
        have HAT' := Lib.hid hat'
        have HOB : Hid (∀ o : Obj, Below wr.heap.size wr (wr.alloc o)) := Lib.hid fun o => (Below.refl _ _).alloc (Nat.le_refl _) o
        clear hk2 hpk hat'
        go_wp2_with fail
        refine (IH.out k A' ca' B' cb' K' ck' _ HC.out (HAT'.out.on (HOB.out _)) HKW.out).mono ?_
        rintro e w7 ⟨r, rfl, ho7, hn7, hb7⟩
        have H7 := Lib.hid (And.intro ho7 (And.intro hn7 (And.intro hb7 (HI.out.below ((HOB.out _).then_ hb7)))))
        clear ho7 hn7 hb7 q0 q1 q2 q3 q4 q5
        obtain ⟨W8, hW8⟩ : ∃ W8, W8 = w7.alloc (.cells #[.int .i64 k.kind, .string k.text, .int .i64 k.n, .slice r.s.p r.s.n r.s.c, .slice r.a.p r.a.n r.a.c, .slice r.k.p r.k.n r.k.c] TTm) := ⟨_, rfl⟩
        have hb8 : Below w7.heap.size w7 W8 := by rw [hW8]; exact (Below.refl _ _).alloc (Nat.le_refl _) _
        have HT8 := Lib.hid (H7.out.2.2.2.below hb8)
        have HNEWS : Hid (∀ j u, (rtCells k r)[j]? = some u → W8.cell? ((⟨w7.heap.size, 0, none⟩ : Addr).add j) = some u) := Lib.hid fun j u hu => by
          have e2 : (⟨w7.heap.size, 0, none⟩ : Addr).add j = ⟨w7.heap.size, j, none⟩ := by unfold Addr.add; split <;> simp_all
          rw [e2, hW8]
          exact cell_at (heap_alloc_new w7 _) (by rw [← Array.getElem?_toList]; exact hu)
        have HS8 : Hid (W8.heap.size = w7.heap.size + 1) := Lib.hid (by rw [hW8]; simp)
        have HB8 := Lib.hid hb8
        have HW8 := Lib.hid hW8
        have HBASE : Hid (W6.heap.size ≤ W8.heap.size) := Lib.hid HT8.out.be.size
        clear hb8 hW8
        go_wp2_with (at_builtin; rw [← HW8.out]; refine wpList_append_own_at _ rfl (.tmp 25) (.tmp 28) 22 rfl W6.heap.size TTm j0 (.agg tm0) 6 104 Tryz.underlying22 hj hz0 hz1 hz2 rfl (by decide) u3 i (rtCellsL (t.kids.take i) rl) rfl HT8.out.row ⟨w7.heap.size, 0, none⟩ 1 1 (rtCells k r) rfl rfl HNEWS.out (by intro u hu; simp only [rtCells, List.mem_cons, List.not_mem_nil, or_false] at hu; rcases hu with rfl | rfl | rfl | rfl | rfl | rfl <;> rfl) (by unfold maxLen; omega) (by omega) HBASE.out ?_)
        intro v' w9 hown9 hgr9 _ hor9
        have HT9 : Hid (TwinW W6 W6.heap.size t.kids w9 (rl ++ [r]) (i + 1) v') := Lib.hid (HI.out.below (HOB.out _) |>.take (by have h1 := HI.out.be.size; simp; omega) HKT.out H7.out.2.2.1 H7.out.1 H7.out.2.1 HB8.out hown9 hgr9 hor9)
        clear hown9 hgr9 hor9
        go_wp2_with fail
        exact ⟨⟨i + 1, rl ++ [r], by omega, by go_num, HT9⟩, by simp [intOf]; omega⟩
      · obtain rfl : i = n := by omega
        obtain ⟨p, c, rfl, hnc, hko, hkb⟩ := row_clip HI.out.row
        have HKO := Lib.hid (And.intro hko hkb)
        obtain ⟨hd, hz⟩ := HK.out _ HI.out.be
        have f5 := unfrozen hd 5
        have fz := unfrozen hz
        have y0 := cell_at hd (j := 0) rfl
        have y1 := cell_at hd (j := 1) rfl
        have y2 := cell_at hd (j := 2) rfl
        have y3 := cell_at hd (j := 3) rfl
        have y4 := cell_at hd (j := 4) rfl
        have y5 := cell_at hd (j := 5) rfl
        have z0 := cell_at hz (j := 0) rfl
        have z1 := cell_at hz (j := 1) rfl
        have z2 := cell_at hz (j := 2) rfl
        have z3 := cell_at hz (j := 3) rfl
        have z4 := cell_at hz (j := 4) rfl
        have z5 := cell_at hz (j := 5) rfl
        have HDZ := Lib.hid (And.intro hd hz)
        clear hlt hko hkb hd hz
        go_wp2_with fail
        refine (clip_any p i c wr hnc).mono ?_
        rintro e w7 ⟨rfl, rfl⟩
        go_wp2_with fail
        generalize hW9 : World.setCell _ _ _ = W9
        have hz9 : W9.heap[w.heap.size + 1]? = some (.cells #[.int .i64 t.kind, .string t.text, .int .i64 t.n, .slice rs.p rs.n rs.c, .slice ra.p ra.n ra.c, .slice p i i] TTm (0, 0)) := by
          have e0 := (Below.heap_setCell w7 ⟨w.heap.size, 5, none⟩ (.slice p i i) (w.heap.size + 1) (by show w.heap.size + 1 ≠ w.heap.size; omega)).trans HDZ.out.2
          have e1 := Go.heap_setCell_same _ _ 0 _ TTm (.int .i64 t.kind) e0
          have e2 := Go.heap_setCell_same _ _ 1 _ TTm (.string t.text) e1
          have e3 := Go.heap_setCell_same _ _ 2 _ TTm (.int .i64 t.n) e2
          have e4 := Go.heap_setCell_same _ _ 3 _ TTm (.slice rs.p rs.n rs.c) e3
          have e5 := Go.heap_setCell_same _ _ 4 _ TTm (.slice ra.p ra.n ra.c) e4
          have e6 := Go.heap_setCell_same _ _ 5 _ TTm (.slice p i i) e5
          rw [← hW9, e6]
          rfl
        have ho9 : ∀ g, w.heap.size + 2 ≤ g → W9.heap[g]? = w7.heap[g]? := fun g hg => by
          rw [← hW9]
          repeat rw [Below.heap_setCell _ _ _ _ (by first | (show g ≠ w.heap.size + 1; omega) | (show g ≠ w.heap.size; omega))]
        have hb9 : Below w.heap.size w W9 := by
          have hb := H6.out.1.trans (HI.out.be.mono H6.out.1.size)
          rw [← hW9]
          exact ((((((hb.setCell (Nat.le_refl _) _).setCell (Nat.le_succ _) _).setCell (Nat.le_succ _) _).setCell (Nat.le_succ _) _).setCell (Nat.le_succ _) _).setCell (Nat.le_succ _) _).setCell (Nat.le_succ _) _
        have v0 := cell_at hz9 (j := 0) rfl
        have v1 := cell_at hz9 (j := 1) rfl
        have v2 := cell_at hz9 (j := 2) rfl
        have v3 := cell_at hz9 (j := 3) rfl
        have v4 := cell_at hz9 (j := 4) rfl
        have v5 := cell_at hz9 (j := 5) rfl
        have hsz := H6.out.2.2.2.2.2
        have hso := H6.out.2.2.2.1
        have hao := H6.out.2.2.2.2.1
        have hown := HI.out.own
        have hkk := HKO.out.1
        have htk : t.kids.take i = t.kids := by rw [HN.out]; exact List.take_length
        rw [htk] at hown hkk
        have hnd : ((rs.blk.toList ++ ra.blk.toList ++ (⟨p, i, i⟩ : Rw).blk.toList) ++ blksL rl).Nodup := by
          have hs1 : ∀ g, rs.blk = some g → g < W6.heap.size ∧ ∃ cur, W6.heap[g]? = some (.cells cur TIn (0, 0)) := fun g hg => by
            obtain ⟨_, cur, hc⟩ := hso.blk_lt hg; exact ⟨heap_lt hc, cur, hc⟩
          have ha1 : ∀ g, ra.blk = some g → g < W6.heap.size ∧ ∃ cur, W6.heap[g]? = some (.cells cur TI6 (0, 0)) := fun g hg => by
            obtain ⟨_, cur, hc⟩ := hao.blk_lt hg; exact ⟨heap_lt hc, cur, hc⟩
          have hk1 : ∀ g, (⟨p, i, i⟩ : Rw).blk = some g → W6.heap.size ≤ g := fun g hg => (hkk.blk_lt hg).1
          have hl1 : ∀ g ∈ blksL rl, W6.heap.size ≤ g := fun g hg => (hown.blk g hg).1
          have ntl : ∀ o : Option Nat, o.toList.Nodup := fun o => by cases o <;> simp
          refine List.nodup_append.2 ⟨List.nodup_append.2 ⟨List.nodup_append.2 ⟨ntl _, ntl _, fun a ha b hb e => ?_⟩, ntl _, fun a ha b hb e => ?_⟩, HI.out.nd, fun a ha b hb e => ?_⟩
          · subst e
            rw [Option.mem_toList] at ha hb
            obtain ⟨_, c1, e1⟩ := hs1 a ha
            obtain ⟨_, c2, e2⟩ := ha1 a hb
            exact absurd (types_apart e1 e2) (by decide)
          · subst e
            rw [Option.mem_toList] at hb
            have := hk1 a hb
            rcases List.mem_append.1 ha with ha | ha
            · rw [Option.mem_toList] at ha; have := (hs1 a ha).1; omega
            · rw [Option.mem_toList] at ha; have := (ha1 a ha).1; omega
          · subst e
            have := hl1 a hb
            rcases List.mem_append.1 ha with ha | ha
            · rcases List.mem_append.1 ha with ha | ha
              · rw [Option.mem_toList] at ha; have := (hs1 a ha).1; omega
              · rw [Option.mem_toList] at ha; have := (ha1 a ha).1; omega
            · rw [Option.mem_toList] at ha
              exact HI.out.ap a (HKO.out.2 a ha) hb
        have hfin : OwnT W9 w.heap.size t (.mk rs ra ⟨p, i, i⟩ rl) := by
          refine OwnT.mk_ ?_ ?_ ?_ hown.len ?_
          · refine (((hso.on HI.out.be).kept fun g hg => ?_)).mono (by omega)
            exact ho9 g ((hso.blk_lt hg).1)
          · refine (((hao.on HI.out.be).kept fun g hg => ?_)).mono (by omega)
            exact ho9 g ((hao.blk_lt hg).1)
          · refine (hkk.kept fun g hg => ?_).mono (by omega)
            exact ho9 g (by have := (hkk.blk_lt hg).1; omega)
          · refine (hown.kept fun g hg => ?_).mono (by omega)
            exact ho9 g (by have := (hown.blk g hg).1; omega)
        have HFIN := Lib.hid (And.intro hfin (And.intro hnd hb9))
        clear hW9 hz9 ho9 hb9 hso hao hown hkk hnd hfin htk
        refine bodyPost_ret (v := rtVal t (.mk rs ra ⟨p, i, i⟩ rl)) (by simp [results, Tryz.results69, go_sem, v0, v1, v2, v3, v4, v5, Rt.s, Rt.a, Rt.k]) rfl ⟨_, rfl, HFIN.out.1, ?_, HFIN.out.2.2⟩
        simp only [blksT]
        exact HFIN.out.2.1
end Go.Proofs.YtkdejffhdhcocaaGreat

namespace Go.Proofs.YtkdejffhdhcocaaGreat
open Go.RowKit

/-- what Copy leaves: new memory, or an error where the term is too great -/
def CopyPost (t : Tm) (w : World) (e : Ending) (w' : World) : Prop :=
  (greatT t = true ∧ e = .returned (.tuple #[.agg tm0, .int .i64 2]) ∧ Below w.heap.size w w') ∨
  (greatT t = false ∧ ∃ r : Rt, e = .returned (.tuple #[rtVal t r, .int .i64 0]) ∧ OwnT w' w.heap.size t r ∧ (blksT r).Nodup ∧ Below w.heap.size w w')
/-- six cells of a block are written -/
theorem six {w : World} {g : Nat} {a0 a1 a2 a3 a4 a5 : Value} (v0 v1 v2 v3 v4 v5 : Value) (h : w.heap[g]? = some (.cells #[a0, a1, a2, a3, a4, a5] TTm (0, 0))) {B : Nat} {w0 : World} (hb : Below B w0 w) (hB : B ≤ g) :
    ((((((w.setCell ⟨g, 0, none⟩ v0).setCell ⟨g, 1, none⟩ v1).setCell ⟨g, 2, none⟩ v2).setCell ⟨g, 3, none⟩ v3).setCell ⟨g, 4, none⟩ v4).setCell ⟨g, 5, none⟩ v5).heap[g]? = some (.cells #[v0, v1, v2, v3, v4, v5] TTm (0, 0)) ∧
    (∀ k, k ≠ g → ((((((w.setCell ⟨g, 0, none⟩ v0).setCell ⟨g, 1, none⟩ v1).setCell ⟨g, 2, none⟩ v2).setCell ⟨g, 3, none⟩ v3).setCell ⟨g, 4, none⟩ v4).setCell ⟨g, 5, none⟩ v5).heap[k]? = w.heap[k]?) ∧
    Below B w0 ((((((w.setCell ⟨g, 0, none⟩ v0).setCell ⟨g, 1, none⟩ v1).setCell ⟨g, 2, none⟩ v2).setCell ⟨g, 3, none⟩ v3).setCell ⟨g, 4, none⟩ v4).setCell ⟨g, 5, none⟩ v5) := by
  have e1 := Go.heap_setCell_same _ _ 0 _ TTm v0 h
  have e2 := Go.heap_setCell_same _ _ 1 _ TTm v1 e1
  have e3 := Go.heap_setCell_same _ _ 2 _ TTm v2 e2
  have e4 := Go.heap_setCell_same _ _ 3 _ TTm v3 e3
  have e5 := Go.heap_setCell_same _ _ 4 _ TTm v4 e4
  have e6 := Go.heap_setCell_same _ _ 5 _ TTm v5 e5
  refine ⟨by rw [e6]; rfl, fun k hk => ?_, (((((hb.setCell hB _).setCell hB _).setCell hB _).setCell hB _).setCell hB _).setCell hB _⟩
  rw [Below.heap_setCell _ _ _ _ hk, Below.heap_setCell _ _ _ _ hk, Below.heap_setCell _ _ _ _ hk, Below.heap_setCell _ _ _ _ hk, Below.heap_setCell _ _ _ _ hk, Below.heap_setCell _ _ _ _ hk]
theorem results_tm2 {fn : Func} {p t : Tmp} (h : fn.results = #[.cell p TTm, .tmp t]) {tmps : Array Value} {w : World} {g : Nat} (hp : tmps.getD p undef = .pointer (some ⟨g, 0, none⟩)) {v0 v1 v2 v3 v4 v5 : Value}
    (hg : w.heap[g]? = some (.cells #[v0, v1, v2, v3, v4, v5] TTm (0, 0))) : (results fn tmps).run Tryz.prog w = .ok (.tuple #[.agg #[v0, v1, v2, v3, v4, v5], tmps.getD t undef]) w := by
  have k0 := cell_at hg (j := 0) rfl
  have k1 := cell_at hg (j := 1) rfl
  have k2 := cell_at hg (j := 2) rfl
  have k3 := cell_at hg (j := 3) rfl
  have k4 := cell_at hg (j := 4) rfl
  have k5 := cell_at hg (j := 5) rfl
  rw [Array.getD_eq_getD_getElem?] at hp
  simp only [results, h]
  simp [go_sem, hp, k0, k1, k2, k3, k4, k5]
set_option maxRecDepth 100000 in
set_option maxHeartbeats 8000000 in
theorem copy_any (t : Tm) (A : Option Addr) (ca : Nat) (B : Option Addr) (cb : Nat) (K : Option Addr) (ck : Nat) (w : World) (hat : TmAt w t A B K) (hwf : WfT t) : Calls Tryz.prog 30 #[tmVal t A ca B cb K ck] w (CopyPost t w) := by
  obtain ⟨W2, hW2⟩ : ∃ W2, W2 = (w.alloc (.cells (tmCells t A ca B cb K ck) TTm)).alloc (.cells tm0 TTm) := ⟨_, rfl⟩
  have hb1 : Below w.heap.size w (w.alloc (.cells (tmCells t A ca B cb K ck) TTm)) := (Below.refl _ _).alloc (Nat.le_refl _) _
  have hb2 : Below w.heap.size w W2 := by rw [hW2]; exact hb1.alloc hb1.size _
  have hc1 : W2.heap[w.heap.size]? = some (.cells (tmCells t A ca B cb K ck) TTm (0, 0)) := by rw [hW2]; exact (Below.heap_alloc _ _ _ (by simp)).trans (heap_alloc_new w _)
  have hc2 : W2.heap[w.heap.size + 1]? = some (.cells tm0 TTm (0, 0)) := by rw [hW2]; exact heap_new2 _ _ _
  have HX := Lib.hid (And.intro hb2 (And.intro hc1 (And.intro hc2 (hat.on hb2))))
  have HWF := Lib.hid hwf
  have HW2 := Lib.hid hW2
  have HS : Hid (W2.heap.size = w.heap.size + 2) := Lib.hid (by rw [hW2]; simp)
  clear hat hwf hb1 hb2 hc1 hc2 hW2
  cases hg : greatT t with
  | true =>
    have HG := Lib.hid hg
    go_enter Tryz.func30, Tryz.ntmps30
    go_wp2_with fail
    rw [← HW2.out]
    refine (great_any t A ca B cb K ck W2 HX.out.2.2.2 HWF.out).mono ?_
    rintro e w3 ⟨rfl, hb3⟩
    have hz := (hb3.block _ (heap_lt HX.out.2.2.1)).trans HX.out.2.2.1
    have fz := unfrozen hz
    have z0 := cell_at hz (j := 0) rfl
    have z1 := cell_at hz (j := 1) rfl
    have z2 := cell_at hz (j := 2) rfl
    have z3 := cell_at hz (j := 3) rfl
    have z4 := cell_at hz (j := 4) rfl
    have z5 := cell_at hz (j := 5) rfl
    have HZ := Lib.hid hz
    have HB3 := Lib.hid (HX.out.1.then_ hb3)
    rw [hg]
    clear hg hb3 hz
    go_wp2_with fail
    obtain ⟨e1, _, e3⟩ := six (.int .i64 0) (.string ⟨#[]⟩) (.int .i64 0) (.slice none 0 0) (.slice none 0 0) (.slice none 0 0) HZ.out HB3.out (Nat.le_succ _)
    exact bodyPost_ret (results_tm2 rfl rfl e1) rfl (.inl ⟨HG.out, rfl, e3⟩)
  | false =>
    have HG := Lib.hid hg
    go_enter Tryz.func30, Tryz.ntmps30
    go_wp2_with fail
    rw [← HW2.out]
    refine (great_any t A ca B cb K ck W2 HX.out.2.2.2 HWF.out).mono ?_
    rintro e w3 ⟨rfl, hb3⟩
    have hd := (hb3.block _ (heap_lt HX.out.2.1)).trans HX.out.2.1
    have y0 := cell_at hd (j := 0) rfl
    have y1 := cell_at hd (j := 1) rfl
    have y2 := cell_at hd (j := 2) rfl
    have y3 := cell_at hd (j := 3) rfl
    have y4 := cell_at hd (j := 4) rfl
    have y5 := cell_at hd (j := 5) rfl
    have HB3 := Lib.hid hb3
    rw [hg]
    clear hg hb3 hd
    go_wp2_with fail
    refine (twin_any (cnt t) t A ca B cb K ck w3 (Nat.le_refl _) (HX.out.2.2.2.on HB3.out) HWF.out).mono ?_
    rintro e w4 ⟨r, rfl, ho, hn, hb4⟩
    have hz := ((HB3.out.then_ hb4).block _ (heap_lt HX.out.2.2.1)).trans HX.out.2.2.1
    have fz := unfrozen hz
    have z0 := cell_at hz (j := 0) rfl
    have z1 := cell_at hz (j := 1) rfl
    have z2 := cell_at hz (j := 2) rfl
    have z3 := cell_at hz (j := 3) rfl
    have z4 := cell_at hz (j := 4) rfl
    have z5 := cell_at hz (j := 5) rfl
    have HZ := Lib.hid hz
    have HO := Lib.hid (And.intro ho (And.intro hn (HX.out.1.then_ (HB3.out.then_ hb4))))
    have HS3 : Hid (w.heap.size + 2 ≤ w3.heap.size) := Lib.hid (by rw [← HS.out]; exact HB3.out.size)
    clear ho hn hb4 hz y0 y1 y2 y3 y4 y5
    go_wp2_with fail
    obtain ⟨e1, e2, e3⟩ := six (.int .i64 t.kind) (.string t.text) (.int .i64 t.n) (.slice r.s.p r.s.n r.s.c) (.slice r.a.p r.a.n r.a.c) (.slice r.k.p r.k.n r.k.c) HZ.out HO.out.2.2 (Nat.le_succ _)
    refine bodyPost_ret (results_tm2 rfl rfl e1) rfl (.inr ⟨HG.out, r, rfl, ?_, HO.out.2.1, e3⟩)
    refine (HO.out.1.kept fun g hg => e2 g ?_).mono ?_
    · have h1 := (HO.out.1.blk g hg).1
      have h2 := HS3.out
      omega
    · have h2 := HS3.out
      omega
end Go.Proofs.YtkdejffhdhcocaaGreat

namespace Go.Proofs.YtkdejffhdhcocaaGreat
open Go.RowKit

section
variable {P : Program}
/-- numbers are appended, none or some -/
theorem run_append_ints (w : World) (t ty : TypeId) (base : Nat) (e : TypeId) (i : TypeInfo) (ht : P.underlying t = some (.slice e)) (hi : P.info? e = some i) (hz : i.zero = some (.int .i64 0)) (hsize : i.size = 1) (hby : i.bytes = 8)
    (v : Value) (n : Nat) (xs : List Value) (hown : w.ownsRow base e 1 v n xs) (Q : Option Addr) (cq : Nat) (l : List Int) (hl : IntsAt w Q l) (hbytes : (n + l.length) * 8 ≤ 140737488355328) (hbase : base ≤ w.heap.size) :
    ∃ v' w', (Builtin.append_ #[t, t] ty #[v, .slice Q l.length cq]).run P w = .ok v' w' ∧ w'.ownsRow base e 1 v' (n + l.length) (xs ++ l.map fun x => .int .i64 x) ∧ w.grownBy w' v.ownBlock ∧ (v'.ownBlock = v.ownBlock ∨ v'.ownBlock = some w.heap.size) := by
  cases l with
  | nil =>
    have hs : Src P i.size t (.slice Q 0 cq) 0 [] w := by
      cases Q with
      | none => exact Src.ofNil w ht cq
      | some a => exact Src.ofSlice w ht a 0 cq [] (by simp) (fun j u hu => by simp at hu) (fun u hu => by simp at hu)
    have key : ∀ A c, v = .slice A n c → n ≤ c → (Builtin.append_ #[t, t] ty #[v, .slice Q 0 cq]).run P w = .ok v w := by
      rintro A c rfl hc
      exact run_append_nothing (P := P) w t t ty e i ht hi A n c hc _ hs
    refine ⟨v, w, ?_, by simpa using hown, ⟨rfl, rfl, rfl, Nat.le_refl _, fun _ _ _ => rfl⟩, .inl rfl⟩
    rcases hown.2 with ⟨rfl, rfl⟩ | ⟨g, cap, cur, rfl, _, _, hc, _⟩
    · exact key none 0 rfl (Nat.le_refl _)
    · exact key _ cap rfl hc
  | cons x r =>
    obtain ⟨b, off, rfl, hb, _⟩ := hl 0 x rfl
    obtain ⟨v', w', h1, h2, h3, _, h5⟩ := run_append_own_at (P := P) w base t ty e i (.int .i64 0) 1 8 ht hi hz hsize hby rfl (by decide) v n xs hown ⟨b, off, none⟩ (x :: r).length cq ((x :: r).map fun x => Value.int .i64 x) (by simp) (fun j u hu => by
      rw [List.getElem?_map] at hu
      obtain ⟨y, hy, rfl⟩ := Option.map_eq_some_iff.1 hu
      obtain ⟨b', off', e, _, hc⟩ := hl j y hy
      simp only [Option.some.injEq, Addr.mk.injEq, and_true] at e
      obtain ⟨rfl, rfl⟩ := e
      have e2 : (⟨b, off, none⟩ : Addr).add j = ⟨b, off + j, none⟩ := by unfold Addr.add; split <;> simp_all
      rw [e2]
      exact hc) (fun u hu => by
      obtain ⟨y, _, rfl⟩ := List.mem_map.1 hu
      rfl) (by unfold maxLen; omega) hbytes hbase
    exact ⟨v', w', h1, h2, h3, h5⟩
theorem wp_append_ints {o : Oper} {a : Act} {K : Act → World → Prop} {Q' : Exit → Act → World → Prop} (w : World) (s x : Operand) (t : TypeId)
    (ho : o.op = .call { callee := .builtin .append, args := #[s, x], argTypes := #[t, t] })
    (base : Nat) (e : TypeId) (i : TypeInfo) (ht : P.underlying t = some (.slice e)) (hi : P.info? e = some i) (hz : i.zero = some (.int .i64 0)) (hsize : i.size = 1) (hby : i.bytes = 8)
    (v : Value) (n : Nat) (xs : List Value) (hs : a.eval s = v) (hown : w.ownsRow base e 1 v n xs) (Q : Option Addr) (cq : Nat) (l : List Int) (m : Nat) (hm : m = l.length) (hx : a.eval x = .slice Q m cq) (hl : IntsAt w Q l) (hbytes : (n + m) * 8 ≤ 140737488355328) (hbase : base ≤ w.heap.size)
    (h : ∀ v' w', w'.ownsRow base e 1 v' (n + m) (xs ++ l.map fun x => .int .i64 x) → w.grownBy w' v.ownBlock → (v'.ownBlock = v.ownBlock ∨ v'.ownBlock = some w.heap.size) → K (a.put o.dst v') w') : o.wp P a w K Q' := by
  subst hm
  obtain ⟨v', w', hr, h2, h3, h4⟩ := run_append_ints (P := P) w t o.type base e i ht hi hz hsize hby v n xs hown Q cq l hl hbytes hbase
  unfold Oper.wp execOp
  simp only [ho, resolve, invoke, builtin, Sem.run_bind, Sem.run_pure, Result.andThen_ok, List.map_toArray, List.map_cons, List.map_nil, hs, hx, hr]
  exact h v' w' h2 h3 h4
theorem wpList_append_ints {ops : Array Oper} {rest : List Oper} {o : Oper} {a : Act} {Q' : Exit → Act → World → Prop} (w : World) (hgd : o.guard = none) (s x : Operand) (t : TypeId)
    (ho : o.op = .call { callee := .builtin .append, args := #[s, x], argTypes := #[t, t] })
    (base : Nat) (e : TypeId) (i : TypeInfo) (ht : P.underlying t = some (.slice e)) (hi : P.info? e = some i) (hz : i.zero = some (.int .i64 0)) (hsize : i.size = 1) (hby : i.bytes = 8)
    (v : Value) (n : Nat) (xs : List Value) (hs : a.eval s = v) (hown : w.ownsRow base e 1 v n xs) (Q : Option Addr) (cq : Nat) (l : List Int) (m : Nat) (hm : m = l.length) (hx : a.eval x = .slice Q m cq) (hl : IntsAt w Q l) (hbytes : (n + m) * 8 ≤ 140737488355328) (hbase : base ≤ w.heap.size)
    (h : ∀ v' w', w'.ownsRow base e 1 v' (n + m) (xs ++ l.map fun x => .int .i64 x) → w.grownBy w' v.ownBlock → (v'.ownBlock = v.ownBlock ∨ v'.ownBlock = some w.heap.size) → wpList P ops Q' rest (a.put o.dst v') w') : wpList P ops Q' (o :: rest) a w :=
  wpList_plain hgd fun _ hK => wp_append_ints w s x t ho base e i ht hi hz hsize hby v n xs hs hown Q cq l m hm hx hl hbytes hbase fun v' w' h2 h3 h4 => hK _ _ (h v' w' h2 h3 h4)
theorem step_append_ints {ops : Array Oper} {o : Oper} {a : Act} {K : Act → World → Prop} {Q' : Exit → Act → World → Prop} {E : Prop} (w : World) (hgd : o.guard = none) (s x : Operand) (t : TypeId)
    (ho : o.op = .call { callee := .builtin .append, args := #[s, x], argTypes := #[t, t] })
    (base : Nat) (e : TypeId) (i : TypeInfo) (ht : P.underlying t = some (.slice e)) (hi : P.info? e = some i) (hz : i.zero = some (.int .i64 0)) (hsize : i.size = 1) (hby : i.bytes = 8)
    (v : Value) (n : Nat) (xs : List Value) (hs : a.eval s = v) (hown : w.ownsRow base e 1 v n xs) (Q : Option Addr) (cq : Nat) (l : List Int) (m : Nat) (hm : m = l.length) (hx : a.eval x = .slice Q m cq) (hl : IntsAt w Q l) (hbytes : (n + m) * 8 ≤ 140737488355328) (hbase : base ≤ w.heap.size)
    (h : ∀ v' w', w'.ownsRow base e 1 v' (n + m) (xs ++ l.map fun x => .int .i64 x) → w.grownBy w' v.ownBlock → (v'.ownBlock = v.ownBlock ∨ v'.ownBlock = some w.heap.size) → K (a.put o.dst v') w') :
    if Region.wanted o (yielded ops a.tmps) = true then Oper.wp P o a w K Q' else E := by
  have hw : Region.wanted o (yielded ops a.tmps) = true := by simp [Region.wanted, hgd]
  rw [if_pos hw]
  exact wp_append_ints w s x t ho base e i ht hi hz hsize hby v n xs hs hown Q cq l m hm hx hl hbytes hbase h
end
end Go.Proofs.YtkdejffhdhcocaaGreat

namespace Go.Proofs.YtkdejffhdhcocaaGreat
open Go.RowKit

theorem TwinW.put {w W : World} {B i : Nat} {ks : List Tm} {rs : List Rt} {v : Value} (h : TwinW w B ks W rs i v) {a : Addr} (h1 : w.heap.size ≤ a.block) (h2 : a.block < B) (u : Value) : TwinW w B ks (W.setCell a u) rs i v := by
  have hk : ∀ g, B ≤ g → (W.setCell a u).heap[g]? = W.heap[g]? := fun g hg => Below.heap_setCell _ _ _ _ (by omega)
  refine ⟨?_, h.own.kept fun g hg => hk g (h.own.blk g hg).1, h.nd, h.ap, h.le, h.be.setCell h1 _⟩
  obtain ⟨e, hr⟩ := h.row
  refine ⟨e, ?_⟩
  rcases hr with hr | ⟨g, cap, cur, rfl, hg, hc, hrest⟩
  · exact .inl hr
  · exact .inr ⟨g, cap, cur, rfl, hg, (hk g hg).trans hc, hrest⟩
theorem row_keep {w w' : World} {B z : Nat} {t : TypeId} {v : Value} {n : Nat} {vs : List Value} (h : w.ownsRow B t z v n vs) (hk : ∀ g, v.ownBlock = some g → w'.heap[g]? = w.heap[g]?) : w'.ownsRow B t z v n vs := by
  obtain ⟨e, hr⟩ := h
  refine ⟨e, ?_⟩
  rcases hr with hr | ⟨g, cap, cur, rfl, hg, hc, hrest⟩
  · exact .inl hr
  · exact .inr ⟨g, cap, cur, rfl, hg, (hk g rfl).trans hc, hrest⟩
theorem row_on {w w' : World} {B z : Nat} {t : TypeId} {v : Value} {n : Nat} {vs : List Value} (h : w.ownsRow B t z v n vs) (hb : Below w.heap.size w w') : w'.ownsRow B t z v n vs := row_keep h fun g hg => hb.block g (h.lt g hg).2
theorem row_low {w : World} {B B' z : Nat} {t : TypeId} {v : Value} {n : Nat} {vs : List Value} (h : w.ownsRow B t z v n vs) (hB : B' ≤ B) : w.ownsRow B' t z v n vs := by
  obtain ⟨e, hr⟩ := h
  refine ⟨e, ?_⟩
  rcases hr with hr | ⟨g, cap, cur, rfl, hg, hrest⟩
  · exact .inl hr
  · exact .inr ⟨g, cap, cur, rfl, Nat.le_trans hB hg, hrest⟩
/-- an owned row by append's words, by ours -/
theorem row_ours {w : World} {B z : Nat} {t : TypeId} {r : Rw} {n : Nat} {vs : List Value} (h : w.ownsRow B t z r.val n vs) : r.n = n ∧ RowOwn w B t z r vs := by
  obtain ⟨q, hq, hn, ho⟩ := own_of_row h
  obtain ⟨p, n', c⟩ := r
  obtain ⟨p', n'', c'⟩ := q
  simp only [Rw.val, Value.slice.injEq] at hq
  obtain ⟨rfl, rfl, rfl⟩ := hq
  exact ⟨hn, ho⟩
theorem row_type' {w : World} {B z : Nat} {t : TypeId} {v : Value} {n : Nat} {vs : List Value} (h : w.ownsRow B t z v n vs) (g : Nat) (hg : v.ownBlock = some g) : ∃ cur, w.heap[g]? = some (.cells cur t (0, 0)) := by
  obtain ⟨_, ⟨rfl, _⟩ | ⟨g', cap, cur, rfl, _, hc, _⟩⟩ := h
  · cases hg
  · simp only [Value.ownBlock, Option.some.injEq] at hg
    subst hg
    exact ⟨cur, hc⟩
/-- the blocks of a term's own rows, and of its kids -/
def topBlks (r : Rt) : List Nat := (r.s.val.ownBlock.toList ++ r.a.val.ownBlock.toList ++ r.k.val.ownBlock.toList) ++ blksL r.kids
/-- what own leaves: a term in memory of its own, whose first rows are whole blocks -/
def OwnPost (t : Tm) (w : World) (e : Ending) (w' : World) : Prop := ∃ r : Rt, e = .returned (rtVal t r) ∧ OwnT w' w.heap.size t r ∧ (blksT r).Nodup ∧ Below w.heap.size w w' ∧
  w'.ownsRow w.heap.size TIn 1 r.s.val t.sh.length (intVals t.sh) ∧ w'.ownsRow w.heap.size TI6 1 r.a.val t.at_.length (intVals t.at_) ∧ w'.ownsRow w.heap.size TTm 6 r.k.val t.kids.length (rtCellsL t.kids r.kids) ∧ (topBlks r).Nodup
theorem results_tm1 {fn : Func} {p : Tmp} (h : fn.results = #[.cell p TTm]) {tmps : Array Value} {w : World} {g : Nat} (hp : tmps.getD p undef = .pointer (some ⟨g, 0, none⟩)) {v0 v1 v2 v3 v4 v5 : Value}
    (hg : w.heap[g]? = some (.cells #[v0, v1, v2, v3, v4, v5] TTm (0, 0))) : (results fn tmps).run Tryz.prog w = .ok (.agg #[v0, v1, v2, v3, v4, v5]) w := by
  have k0 := cell_at hg (j := 0) rfl
  have k1 := cell_at hg (j := 1) rfl
  have k2 := cell_at hg (j := 2) rfl
  have k3 := cell_at hg (j := 3) rfl
  have k4 := cell_at hg (j := 4) rfl
  have k5 := cell_at hg (j := 5) rfl
  rw [Array.getD_eq_getD_getElem?] at hp
  simp only [results, h]
  simp [go_sem, hp, k0, k1, k2, k3, k4, k5]
end Go.Proofs.YtkdejffhdhcocaaGreat
