/- abacuslaw13.Lay: a term in memory of its own, with marks behind its lists. Condition: sizes within reach. -/
import Derived.Test.YtkdejffhdhcocaaGreatTeLy0
import Derived.Test.YtkdejffhdhcocaaGreatTeMa
namespace Go.Proofs.YtkdejffhdhcocaaGreat
open Go.RowKit

/-- the two terms behind a term's kids -/
def marksK : List Value := [.int .i64 (-75), .string ⟨#[]⟩, .int .i64 0, .slice none 0 0, .slice none 0 0, .slice none 0 0, .int .i64 (-76), .string ⟨#[]⟩, .int .i64 0, .slice none 0 0, .slice none 0 0, .slice none 0 0]
theorem laid_of {w : World} {B gs gl gk : Nat} {t : Tm} {rl : List Rt} {ns na n : Nat} (e1 : ns = t.sh.length) (e2 : na = t.at_.length) (e3 : n = t.kids.length)
    (h1 : w.ownsRow B TIn 1 (.slice (some ⟨gs, 0, none⟩) (ns + 2) (ns + 2)) (ns + 2) (intVals t.sh ++ intVals [-71, -72])) (h2 : w.ownsRow B TI6 1 (.slice (some ⟨gl, 0, none⟩) (na + 2) (na + 2)) (na + 2) (intVals t.at_ ++ intVals [-73, -74]))
    (h3 : w.ownsRow gk TTm 6 (.slice (some ⟨gk, 0, none⟩) (n + 2) (n + 2)) (n + 2) (rtCellsL t.kids rl ++ marksK)) (hlen : (rtCellsL t.kids rl).length = n * 6) (ho : OwnL w gk t.kids rl) (hm : MarkL w t.kids rl) (hnd : (blksL rl).Nodup) (hap : gk ∉ blksL rl) (hl1 : gs < gl) (hl2 : gl < gk) (hB : B ≤ gk) :
    OwnT w B t (.mk ⟨some ⟨gs, 0, none⟩, ns, ns + 2⟩ ⟨some ⟨gl, 0, none⟩, na, na + 2⟩ ⟨some ⟨gk, 0, none⟩, n, n + 2⟩ rl) ∧ MarkT w t (.mk ⟨some ⟨gs, 0, none⟩, ns, ns + 2⟩ ⟨some ⟨gl, 0, none⟩, na, na + 2⟩ ⟨some ⟨gk, 0, none⟩, n, n + 2⟩ rl) ∧ (blksT (.mk ⟨some ⟨gs, 0, none⟩, ns, ns + 2⟩ ⟨some ⟨gl, 0, none⟩, na, na + 2⟩ ⟨some ⟨gk, 0, none⟩, n, n + 2⟩ rl)).Nodup := by
  obtain ⟨a1, a2, a3, a4, a5⟩ := row_marked h1 (by rw [e1]; simp [intVals]) (by omega)
  obtain ⟨b1, b2, b3, b4, b5⟩ := row_marked h2 (by rw [e2]; simp [intVals]) (by omega)
  obtain ⟨c1, c2, c3, c4, c5⟩ := row_marked h3 hlen (by omega)
  have k1 := a5 0 _ rfl
  have k2 := a5 1 _ rfl
  have k3 := b5 0 _ rfl
  have k4 := b5 1 _ rfl
  have k5 := c5 0 _ rfl
  have k6 := c5 5 _ rfl
  have k7 := c5 6 _ rfl
  have k8 := c5 11 _ rfl
  rw [Nat.mul_one] at k1 k2 k3 k4
  refine ⟨OwnT.mk_ a1 b1 (c1.mono hB) ho.len (OwnL.mono hB ho), ?_, ?_⟩
  · cases t with
    | mk kind text nn sh at_ kids =>
      simp only [Tm.sh, Tm.at_, Tm.kids] at *
      simp only [MarkT]
      refine ⟨⟨gs, rfl, ?_, a3, ?_, ?_⟩, ⟨gl, rfl, ?_, b3, ?_, ?_⟩, ⟨gk, rfl, ?_, c3, ?_, ?_, ?_, ?_⟩, hm⟩
      · show sh.length + 2 ≤ ns + 2; omega
      · rw [← e1]; exact k1
      · rw [← e1]; exact k2
      · show at_.length + 2 ≤ na + 2; omega
      · rw [← e2]; exact k3
      · rw [← e2]; exact k4
      · show kids.length + 2 ≤ n + 2; omega
      · rw [← e3]; exact k5
      · rw [← e3]; exact k6
      · rw [← e3, Nat.add_mul, Nat.one_mul]; exact k7
      · rw [← e3, Nat.add_mul, Nat.one_mul]; exact k8
  · have l1 : ∀ g ∈ blksL rl, gk ≤ g := fun g hg => (ho.blk g hg).1
    have u1 : (⟨some ⟨gs, 0, none⟩, ns, ns + 2⟩ : Rw).blk = some gs := by unfold Rw.blk; rw [if_neg (by show ¬ ns + 2 = 0; omega)]; rfl
    have u2 : (⟨some ⟨gl, 0, none⟩, na, na + 2⟩ : Rw).blk = some gl := by unfold Rw.blk; rw [if_neg (by show ¬ na + 2 = 0; omega)]; rfl
    have u3 : (⟨some ⟨gk, 0, none⟩, n, n + 2⟩ : Rw).blk = some gk := by unfold Rw.blk; rw [if_neg (by show ¬ n + 2 = 0; omega)]; rfl
    simp only [blksT, u1, u2, u3, Option.toList_some, List.cons_append, List.nil_append, List.nodup_cons, List.mem_cons, not_or]
    refine ⟨⟨by omega, by omega, fun h => ?_⟩, ⟨by omega, fun h => ?_⟩, hap, hnd⟩
    · have := l1 _ h; omega
    · have := l1 _ h; omega
/-- what Lay leaves -/
def LayPost (t : Tm) (w : World) (e : Ending) (w' : World) : Prop := ∃ r : Rt, e = .returned (rtVal t r) ∧ OwnT w' w.heap.size t r ∧ MarkT w' t r ∧ (blksT r).Nodup ∧ Below w.heap.size w w'
set_option maxRecDepth 100000 in
set_option maxHeartbeats 16000000 in
theorem lay_any (N : Nat) : ∀ (t : Tm) (A : Option Addr) (ca : Nat) (B : Option Addr) (cb : Nat) (K : Option Addr) (ck : Nat) (w : World), cnt t ≤ N → TmAt w t A B K → WfT t → Calls Tryz.prog 8 #[tmVal t A ca B cb K ck] w (LayPost t w) := by
  induction N with
  | zero => intro t A ca B cb K ck w h; cases t; simp [cnt] at h
  | succ N ih =>
    intro t A ca B cb K ck w hN hat hwf
    obtain ⟨W2, hW2⟩ : ∃ W2, W2 = (w.alloc (.cells (tmCells t A ca B cb K ck) TTm)).alloc (.cells tm0 TTm) := ⟨_, rfl⟩
    have hb1 : Below w.heap.size w (w.alloc (.cells (tmCells t A ca B cb K ck) TTm)) := (Below.refl _ _).alloc (Nat.le_refl _) _
    have hb2 : Below w.heap.size w W2 := by rw [hW2]; exact hb1.alloc hb1.size _
    have hc1 : W2.heap[w.heap.size]? = some (.cells (tmCells t A ca B cb K ck) TTm (0, 0)) := by rw [hW2]; exact (Below.heap_alloc _ _ _ (by simp)).trans (heap_alloc_new w _)
    have hc2 : W2.heap[w.heap.size + 1]? = some (.cells tm0 TTm (0, 0)) := by rw [hW2]; exact heap_new2 _ _ _
    have HS : Hid (W2.heap.size = w.heap.size + 2) := Lib.hid (by rw [hW2]; simp)
    have HX := Lib.hid (And.intro hb2 (And.intro hc1 (And.intro hc2 (hat.on hb2))))
    have HWF := Lib.hid hwf
    have HW2 := Lib.hid hW2
    have HNN := Lib.hid hN
    have HAT := Lib.hid hat
    have IH := Lib.hid ih
    obtain ⟨j0, hj, hz0, hz1, hz2⟩ := info_parts info_tm
    obtain ⟨ji, hji, hi0, hi1, hi2⟩ := info_parts info_in
    obtain ⟨j6, hj6, h60, h61, h62⟩ := info_parts info_i6
    obtain ⟨ns, hns⟩ : ∃ n, n = t.sh.length := ⟨_, rfl⟩
    obtain ⟨na, hna⟩ : ∃ n, n = t.at_.length := ⟨_, rfl⟩
    obtain ⟨n, hn⟩ : ∃ n, n = t.kids.length := ⟨_, rfl⟩
    have HNS := Lib.hid hns
    have HNA := Lib.hid hna
    have HN := Lib.hid hn
    have hs8 : ns * 8 ≤ 140737488351232 := by rw [hns]; exact hwf.node.sh8
    have ha8 : na * 8 ≤ 140737488351232 := by rw [hna]; exact hwf.node.at8
    have hk104 : n * 104 ≤ 140737488351232 := by rw [hn]; exact hwf.node.kids104
    have HKC : Hid (∀ W, Below W2.heap.size W2 W → (W.cell? ⟨w.heap.size, 3, none⟩ = some (.slice A ns ca) ∧ W.cell? ⟨w.heap.size, 4, none⟩ = some (.slice B na cb) ∧ W.cell? ⟨w.heap.size, 5, none⟩ = some (.slice K n ck)) ∧ (W.frozen? ⟨w.heap.size, 3, none⟩ = false ∧ W.frozen? ⟨w.heap.size, 4, none⟩ = false)) := Lib.hid fun W h => by
      have hh := (h.block _ (heap_lt hc1)).trans hc1
      rw [hns, hna, hn]
      exact ⟨⟨cell_at hh rfl, cell_at hh rfl, cell_at hh rfl⟩, unfrozen hh 3, unfrozen hh 4⟩
    clear hat hwf hb1 hb2 hc1 hc2 hW2 hns hna hn hN ih
    have mk1 : ∀ W : World, (Instr.makeSlice 33 (.int .i64 0) (.int .i64 ((ns : Int) + 2))).run Tryz.prog W = .ok (.slice (some ⟨W.heap.size, 0, none⟩) 0 (ns + 2)) (W.alloc (.cells (madeCells (Value.int .i64 0).cells ((ns + 2) * 1)) TIn)) := fun W => by
      have h := run_make (P := Tryz.prog) (w := W) 33 TIn ji (.int .i64 0) Tryz.underlying33 hji hi0 .i64 .i64 0 ((ns : Int) + 2) (Int.le_refl _) (by omega) (by rw [hi2]; omega) (by omega)
      rw [hi1, show ((ns : Int) + 2).toNat = ns + 2 by omega] at h
      exact h
    have mk2 : ∀ W : World, (Instr.makeSlice 34 (.int .i64 0) (.int .i64 ((na : Int) + 2))).run Tryz.prog W = .ok (.slice (some ⟨W.heap.size, 0, none⟩) 0 (na + 2)) (W.alloc (.cells (madeCells (Value.int .i64 0).cells ((na + 2) * 1)) TI6)) := fun W => by
      have h := run_make (P := Tryz.prog) (w := W) 34 TI6 j6 (.int .i64 0) Tryz.underlying34 hj6 h60 .i64 .i64 0 ((na : Int) + 2) (Int.le_refl _) (by omega) (by rw [h62]; omega) (by omega)
      rw [h61, show ((na : Int) + 2).toNat = na + 2 by omega] at h
      exact h
    have wr1 : IntKind.i64.wrap ((ns : Int) + 2) = (ns : Int) + 2 := by rw [IntKind.wrap_i64]; omega
    have wr2 : IntKind.i64.wrap ((na : Int) + 2) = (na : Int) + 2 := by rw [IntKind.wrap_i64]; omega
    have wr3 : IntKind.i64.wrap ((n : Int) + 2) = (n : Int) + 2 := by rw [IntKind.wrap_i64]; omega
    have hlt2 : w.heap.size < W2.heap.size := heap_lt HX.out.2.1
    go_enter Tryz.func8, Tryz.ntmps8
    go_upto_region 1 with fail
    rw [← HW2.out]
    go_cut [3] from 7 (fun v wx => ∃ gs : Nat, v = .slice (some ⟨gs, 0, none⟩) (ns + 2) (ns + 2) ∧ Hid (wx.ownsRow W2.heap.size TIn 1 (.slice (some ⟨gs, 0, none⟩) (ns + 2) (ns + 2)) (ns + 2) (intVals t.sh ++ intVals [-71, -72]) ∧ Below W2.heap.size W2 wx))
    case first =>
      have HSI : Hid (IntsAt W2 A t.sh) := Lib.hid HX.out.2.2.2.sh
      obtain ⟨⟨q3, q4, q5⟩, f3, f4⟩ := HKC.out W2 (Below.refl _ _)
      have HD2 : Hid (Below W2.heap.size W2 W2.drew) := Lib.hid (Below.refl _ _).drew
      have HBa : Hid (Below W2.heap.size W2 ((W2.alloc (.cells #[.int .i64 (-71), .int .i64 (-72)] TIn)).alloc (.cells (madeCells #[Value.int .i64 0] (ns + 2)) TIn)).drew) := Lib.hid (((Below.refl _ _).alloc (Nat.le_refl _) _).alloc (by simp) _).drew
      have HBb : Hid (Below W2.heap.size W2 ((W2.alloc (.cells (madeCells #[Value.int .i64 0] (ns + 2)) TIn)).alloc (.cells #[.int .i64 (-71), .int .i64 (-72)] TIn)).drew) := Lib.hid (((Below.refl _ _).alloc (Nat.le_refl _) _).alloc (by simp) _).drew
      have HBc : Hid (Below W2.heap.size W2 (W2.alloc (.cells (madeCells #[Value.int .i64 0] (ns + 2)) TIn)).drew) := Lib.hid ((Below.refl _ _).alloc (Nat.le_refl _) _).drew
      have hsa : (W2.alloc (.cells #[.int .i64 (-71), .int .i64 (-72)] TIn)).heap.size = W2.heap.size + 1 := by simp
      have HRa : Hid (((W2.alloc (.cells #[.int .i64 (-71), .int .i64 (-72)] TIn)).alloc (.cells (madeCells #[Value.int .i64 0] (ns + 2)) TIn)).drew.ownsRow W2.heap.size TIn 1 (.slice (some ⟨W2.heap.size + 1, 0, none⟩) 0 (ns + 2)) 0 []) := Lib.hid (by
        have h := row_new (W2.alloc (.cells #[.int .i64 (-71), .int .i64 (-72)] TIn)) (.int .i64 0) (ns + 2) 1 TIn (B := W2.heap.size) (by simp) (by unfold maxLen; omega)
        rw [hsa, Nat.mul_one] at h
        exact h.drew)
      have HRc : Hid ((W2.alloc (.cells (madeCells #[Value.int .i64 0] (ns + 2)) TIn)).drew.ownsRow W2.heap.size TIn 1 (.slice (some ⟨W2.heap.size, 0, none⟩) 0 (ns + 2)) 0 []) := Lib.hid (by
        have h := row_new W2 (.int .i64 0) (ns + 2) 1 TIn (B := W2.heap.size) (Nat.le_refl _) (by unfold maxLen; omega)
        rw [Nat.mul_one] at h
        exact h.drew)
      have HRb : Hid (((W2.alloc (.cells (madeCells #[Value.int .i64 0] (ns + 2)) TIn)).alloc (.cells #[.int .i64 (-71), .int .i64 (-72)] TIn)).drew.ownsRow W2.heap.size TIn 1 (.slice (some ⟨W2.heap.size, 0, none⟩) 0 (ns + 2)) 0 []) := Lib.hid (by
        have h := row_new W2 (.int .i64 0) (ns + 2) 1 TIn (B := W2.heap.size) (Nat.le_refl _) (by unfold maxLen; omega)
        rw [Nat.mul_one] at h
        exact (h.alloc _).drew)
      have HMa : Hid (IntsAt ((W2.alloc (.cells #[.int .i64 (-71), .int .i64 (-72)] TIn)).alloc (.cells (madeCells #[Value.int .i64 0] (ns + 2)) TIn)).drew (some ⟨W2.heap.size, 0, none⟩) [-71, -72]) := Lib.hid ((pair_at W2 (-71) (-72) TIn).on ((Below.refl _ _).alloc (Nat.le_refl _) _).drew)
      have HMb : Hid (IntsAt ((W2.alloc (.cells (madeCells #[Value.int .i64 0] (ns + 2)) TIn)).alloc (.cells #[.int .i64 (-71), .int .i64 (-72)] TIn)).drew (some ⟨W2.heap.size + 1, 0, none⟩) [-71, -72]) := Lib.hid (by
        have h := pair_at (W2.alloc (.cells (madeCells #[Value.int .i64 0] (ns + 2)) TIn)) (-71) (-72) TIn
        rw [show (W2.alloc (.cells (madeCells #[Value.int .i64 0] (ns + 2)) TIn)).heap.size = W2.heap.size + 1 by simp] at h
        exact h.on (Below.refl _ _).drew)
      clear hsa
      go_region_law (first
        | (refine step_append_into _ rfl (.tmp 12) (.tmp 15) 33 rfl W2.heap.size TIn ji Tryz.underlying33 hji hi1 W2.heap.size 0 (ns + 2) [] (by simp [Act.eval]) HRc.out A ca t.sh ns HNS.out (by simp [Act.eval]) (HSI.out.on HBc.out) (by omega) ?_; intro w8 hown8 hgr8; rw [Nat.zero_add, List.nil_append] at hown8; have HB8 : Hid (Below W2.heap.size W2 w8) := Lib.hid (HBc.out.grown hgr8 HBc.out.size (fun k hk => (by injection hk with hk; omega))); have HO8 := Lib.hid hown8; obtain ⟨⟨q3, q4, q5⟩, f3, f4⟩ := HKC.out w8 ((Below.refl _ _).then_ HB8.out); have hlt8 := Nat.lt_of_lt_of_le hlt2 HB8.out.size; clear hown8 hgr8)
        | (refine step_append_into _ rfl (.tmp 12) (.tmp 15) 33 rfl W2.heap.size TIn ji Tryz.underlying33 hji hi1 (W2.heap.size + 1) 0 (ns + 2) [] (by simp [Act.eval]) HRa.out A ca t.sh ns HNS.out (by simp [Act.eval]) (HSI.out.on HBa.out) (by omega) ?_; intro w8 hown8 hgr8; rw [Nat.zero_add, List.nil_append] at hown8; have HB8 : Hid (Below W2.heap.size W2 w8) := Lib.hid (HBa.out.grown hgr8 HBa.out.size (fun k hk => (by injection hk with hk; omega))); have HO8 := Lib.hid hown8; have HM8 : Hid (IntsAt w8 (some ⟨W2.heap.size, 0, none⟩) [-71, -72]) := Lib.hid (ints_grown HMa.out hgr8 (by simp)); obtain ⟨⟨q3, q4, q5⟩, f3, f4⟩ := HKC.out w8 ((Below.refl _ _).then_ HB8.out); have hlt8 := Nat.lt_of_lt_of_le hlt2 HB8.out.size; clear hown8 hgr8)
        | (refine step_append_into _ rfl (.tmp 12) (.tmp 15) 33 rfl W2.heap.size TIn ji Tryz.underlying33 hji hi1 W2.heap.size 0 (ns + 2) [] (by simp [Act.eval]) HRb.out A ca t.sh ns HNS.out (by simp [Act.eval]) (HSI.out.on HBb.out) (by omega) ?_; intro w8 hown8 hgr8; rw [Nat.zero_add, List.nil_append] at hown8; have HB8 : Hid (Below W2.heap.size W2 w8) := Lib.hid (HBb.out.grown hgr8 HBb.out.size (fun k hk => (by injection hk with hk; omega))); have HO8 := Lib.hid hown8; have HM8 : Hid (IntsAt w8 (some ⟨W2.heap.size + 1, 0, none⟩) [-71, -72]) := Lib.hid (ints_grown HMb.out hgr8 (by simp)); obtain ⟨⟨q3, q4, q5⟩, f3, f4⟩ := HKC.out w8 ((Below.refl _ _).then_ HB8.out); have hlt8 := Nat.lt_of_lt_of_le hlt2 HB8.out.size; clear hown8 hgr8)
        | (refine step_append_into _ rfl (.tmp 16) (.tmp 17) 33 rfl W2.heap.size TIn ji Tryz.underlying33 hji hi1 (W2.heap.size + 1) ns (ns + 2) (intVals t.sh) (by simp [Act.eval]) HO8.out (some ⟨W2.heap.size, 0, none⟩) 2 [-71, -72] 2 rfl (by simp [Act.eval]) HM8.out (by omega) ?_; intro w9 hown9 hgr9; have HB9 : Hid (Below W2.heap.size W2 w9) := Lib.hid (by first | exact HB8.out.grown hgr9 HB8.out.size (fun k hk => (by injection hk with hk; omega)) | exact (HB8.out.alloc HB8.out.size _).grown hgr9 (Nat.le_trans HB8.out.size (by simp)) (fun k hk => (by injection hk with hk; omega))); have HO9 := Lib.hid hown9; clear hown9 hgr9)
        | (refine step_append_into _ rfl (.tmp 16) (.tmp 17) 33 rfl W2.heap.size TIn ji Tryz.underlying33 hji hi1 W2.heap.size ns (ns + 2) (intVals t.sh) (by simp [Act.eval]) HO8.out (some ⟨W2.heap.size + 1, 0, none⟩) 2 [-71, -72] 2 rfl (by simp [Act.eval]) HM8.out (by omega) ?_; intro w9 hown9 hgr9; have HB9 : Hid (Below W2.heap.size W2 w9) := Lib.hid (by first | exact HB8.out.grown hgr9 HB8.out.size (fun k hk => (by injection hk with hk; omega)) | exact (HB8.out.alloc HB8.out.size _).grown hgr9 (Nat.le_trans HB8.out.size (by simp)) (fun k hk => (by injection hk with hk; omega))); have HO9 := Lib.hid hown9; clear hown9 hgr9)
        | (refine step_append_into _ rfl (.tmp 16) (.tmp 17) 33 rfl W2.heap.size TIn ji Tryz.underlying33 hji hi1 W2.heap.size ns (ns + 2) (intVals t.sh) (by simp [Act.eval]) (HO8.out.alloc _) (some ⟨w8.heap.size, 0, none⟩) 2 [-71, -72] 2 rfl (by simp [Act.eval]) (pair_at _ _ _ _) (by omega) ?_; intro w9 hown9 hgr9; have HB9 : Hid (Below W2.heap.size W2 w9) := Lib.hid (by first | exact HB8.out.grown hgr9 HB8.out.size (fun k hk => (by injection hk with hk; omega)) | exact (HB8.out.alloc HB8.out.size _).grown hgr9 (Nat.le_trans HB8.out.size (by simp)) (fun k hk => (by injection hk with hk; omega))); have HO9 := Lib.hid hown9; clear hown9 hgr9))
      all_goals
        go_wp2_with fail
        go_meet
        case rel => exact ⟨_, rfl, Lib.hid ⟨HO9.out, HB9.out⟩⟩
    obtain ⟨gs, rfl, HC⟩ := hcut
    obtain ⟨W3, rfl⟩ : ∃ W3, W3 = wc := ⟨_, rfl⟩
    go_upto_region 2 with fail
    go_cut [4] from 7 (fun v wx => ∃ gs : Nat, v = .slice (some ⟨gs, 0, none⟩) (na + 2) (na + 2) ∧ Hid (wx.ownsRow W3.heap.size TI6 1 (.slice (some ⟨gs, 0, none⟩) (na + 2) (na + 2)) (na + 2) (intVals t.at_ ++ intVals [-73, -74]) ∧ Below W3.heap.size W3 wx))
    case first =>
      have HSI : Hid (IntsAt W3 B t.at_) := Lib.hid (HX.out.2.2.2.at_.on HC.out.2)
      have hlt2 : w.heap.size < W3.heap.size := Nat.lt_of_lt_of_le hlt2 HC.out.2.size
      obtain ⟨⟨q3, q4, q5⟩, f3, f4⟩ := HKC.out W3 HC.out.2
      have HD2 : Hid (Below W3.heap.size W3 W3.drew) := Lib.hid (Below.refl _ _).drew
      have HBa : Hid (Below W3.heap.size W3 ((W3.alloc (.cells #[.int .i64 (-73), .int .i64 (-74)] TI6)).alloc (.cells (madeCells #[Value.int .i64 0] (na + 2)) TI6)).drew) := Lib.hid (((Below.refl _ _).alloc (Nat.le_refl _) _).alloc (by simp) _).drew
      have HBb : Hid (Below W3.heap.size W3 ((W3.alloc (.cells (madeCells #[Value.int .i64 0] (na + 2)) TI6)).alloc (.cells #[.int .i64 (-73), .int .i64 (-74)] TI6)).drew) := Lib.hid (((Below.refl _ _).alloc (Nat.le_refl _) _).alloc (by simp) _).drew
      have HBc : Hid (Below W3.heap.size W3 (W3.alloc (.cells (madeCells #[Value.int .i64 0] (na + 2)) TI6)).drew) := Lib.hid ((Below.refl _ _).alloc (Nat.le_refl _) _).drew
      have hsa : (W3.alloc (.cells #[.int .i64 (-73), .int .i64 (-74)] TI6)).heap.size = W3.heap.size + 1 := by simp
      have HRa : Hid (((W3.alloc (.cells #[.int .i64 (-73), .int .i64 (-74)] TI6)).alloc (.cells (madeCells #[Value.int .i64 0] (na + 2)) TI6)).drew.ownsRow W3.heap.size TI6 1 (.slice (some ⟨W3.heap.size + 1, 0, none⟩) 0 (na + 2)) 0 []) := Lib.hid (by
        have h := row_new (W3.alloc (.cells #[.int .i64 (-73), .int .i64 (-74)] TI6)) (.int .i64 0) (na + 2) 1 TI6 (B := W3.heap.size) (by simp) (by unfold maxLen; omega)
        rw [hsa, Nat.mul_one] at h
        exact h.drew)
      have HRc : Hid ((W3.alloc (.cells (madeCells #[Value.int .i64 0] (na + 2)) TI6)).drew.ownsRow W3.heap.size TI6 1 (.slice (some ⟨W3.heap.size, 0, none⟩) 0 (na + 2)) 0 []) := Lib.hid (by
        have h := row_new W3 (.int .i64 0) (na + 2) 1 TI6 (B := W3.heap.size) (Nat.le_refl _) (by unfold maxLen; omega)
        rw [Nat.mul_one] at h
        exact h.drew)
      have HRb : Hid (((W3.alloc (.cells (madeCells #[Value.int .i64 0] (na + 2)) TI6)).alloc (.cells #[.int .i64 (-73), .int .i64 (-74)] TI6)).drew.ownsRow W3.heap.size TI6 1 (.slice (some ⟨W3.heap.size, 0, none⟩) 0 (na + 2)) 0 []) := Lib.hid (by
        have h := row_new W3 (.int .i64 0) (na + 2) 1 TI6 (B := W3.heap.size) (Nat.le_refl _) (by unfold maxLen; omega)
        rw [Nat.mul_one] at h
        exact (h.alloc _).drew)
      have HMa : Hid (IntsAt ((W3.alloc (.cells #[.int .i64 (-73), .int .i64 (-74)] TI6)).alloc (.cells (madeCells #[Value.int .i64 0] (na + 2)) TI6)).drew (some ⟨W3.heap.size, 0, none⟩) [-73, -74]) := Lib.hid ((pair_at W3 (-73) (-74) TI6).on ((Below.refl _ _).alloc (Nat.le_refl _) _).drew)
      have HMb : Hid (IntsAt ((W3.alloc (.cells (madeCells #[Value.int .i64 0] (na + 2)) TI6)).alloc (.cells #[.int .i64 (-73), .int .i64 (-74)] TI6)).drew (some ⟨W3.heap.size + 1, 0, none⟩) [-73, -74]) := Lib.hid (by
        have h := pair_at (W3.alloc (.cells (madeCells #[Value.int .i64 0] (na + 2)) TI6)) (-73) (-74) TI6
        rw [show (W3.alloc (.cells (madeCells #[Value.int .i64 0] (na + 2)) TI6)).heap.size = W3.heap.size + 1 by simp] at h
        exact h.on (Below.refl _ _).drew)
      clear hsa
      go_region_law (first
        | (refine step_append_into _ rfl (.tmp 24) (.tmp 27) 34 rfl W3.heap.size TI6 j6 Tryz.underlying34 hj6 h61 W3.heap.size 0 (na + 2) [] (by simp [Act.eval]) HRc.out B cb t.at_ na HNA.out (by simp [Act.eval]) (HSI.out.on HBc.out) (by omega) ?_; intro w8 hown8 hgr8; rw [Nat.zero_add, List.nil_append] at hown8; have HB8 : Hid (Below W3.heap.size W3 w8) := Lib.hid (HBc.out.grown hgr8 HBc.out.size (fun k hk => (by injection hk with hk; omega))); have HO8 := Lib.hid hown8; obtain ⟨⟨q3, q4, q5⟩, f3, f4⟩ := HKC.out w8 (HC.out.2.then_ HB8.out); have hlt8 := Nat.lt_of_lt_of_le hlt2 HB8.out.size; clear hown8 hgr8)
        | (refine step_append_into _ rfl (.tmp 24) (.tmp 27) 34 rfl W3.heap.size TI6 j6 Tryz.underlying34 hj6 h61 (W3.heap.size + 1) 0 (na + 2) [] (by simp [Act.eval]) HRa.out B cb t.at_ na HNA.out (by simp [Act.eval]) (HSI.out.on HBa.out) (by omega) ?_; intro w8 hown8 hgr8; rw [Nat.zero_add, List.nil_append] at hown8; have HB8 : Hid (Below W3.heap.size W3 w8) := Lib.hid (HBa.out.grown hgr8 HBa.out.size (fun k hk => (by injection hk with hk; omega))); have HO8 := Lib.hid hown8; have HM8 : Hid (IntsAt w8 (some ⟨W3.heap.size, 0, none⟩) [-73, -74]) := Lib.hid (ints_grown HMa.out hgr8 (by simp)); obtain ⟨⟨q3, q4, q5⟩, f3, f4⟩ := HKC.out w8 (HC.out.2.then_ HB8.out); have hlt8 := Nat.lt_of_lt_of_le hlt2 HB8.out.size; clear hown8 hgr8)
        | (refine step_append_into _ rfl (.tmp 24) (.tmp 27) 34 rfl W3.heap.size TI6 j6 Tryz.underlying34 hj6 h61 W3.heap.size 0 (na + 2) [] (by simp [Act.eval]) HRb.out B cb t.at_ na HNA.out (by simp [Act.eval]) (HSI.out.on HBb.out) (by omega) ?_; intro w8 hown8 hgr8; rw [Nat.zero_add, List.nil_append] at hown8; have HB8 : Hid (Below W3.heap.size W3 w8) := Lib.hid (HBb.out.grown hgr8 HBb.out.size (fun k hk => (by injection hk with hk; omega))); have HO8 := Lib.hid hown8; have HM8 : Hid (IntsAt w8 (some ⟨W3.heap.size + 1, 0, none⟩) [-73, -74]) := Lib.hid (ints_grown HMb.out hgr8 (by simp)); obtain ⟨⟨q3, q4, q5⟩, f3, f4⟩ := HKC.out w8 (HC.out.2.then_ HB8.out); have hlt8 := Nat.lt_of_lt_of_le hlt2 HB8.out.size; clear hown8 hgr8)
        | (refine step_append_into _ rfl (.tmp 28) (.tmp 29) 34 rfl W3.heap.size TI6 j6 Tryz.underlying34 hj6 h61 (W3.heap.size + 1) na (na + 2) (intVals t.at_) (by simp [Act.eval]) HO8.out (some ⟨W3.heap.size, 0, none⟩) 2 [-73, -74] 2 rfl (by simp [Act.eval]) HM8.out (by omega) ?_; intro w9 hown9 hgr9; have HB9 : Hid (Below W3.heap.size W3 w9) := Lib.hid (by first | exact HB8.out.grown hgr9 HB8.out.size (fun k hk => (by injection hk with hk; omega)) | exact (HB8.out.alloc HB8.out.size _).grown hgr9 (Nat.le_trans HB8.out.size (by simp)) (fun k hk => (by injection hk with hk; omega))); have HO9 := Lib.hid hown9; clear hown9 hgr9)
        | (refine step_append_into _ rfl (.tmp 28) (.tmp 29) 34 rfl W3.heap.size TI6 j6 Tryz.underlying34 hj6 h61 W3.heap.size na (na + 2) (intVals t.at_) (by simp [Act.eval]) HO8.out (some ⟨W3.heap.size + 1, 0, none⟩) 2 [-73, -74] 2 rfl (by simp [Act.eval]) HM8.out (by omega) ?_; intro w9 hown9 hgr9; have HB9 : Hid (Below W3.heap.size W3 w9) := Lib.hid (by first | exact HB8.out.grown hgr9 HB8.out.size (fun k hk => (by injection hk with hk; omega)) | exact (HB8.out.alloc HB8.out.size _).grown hgr9 (Nat.le_trans HB8.out.size (by simp)) (fun k hk => (by injection hk with hk; omega))); have HO9 := Lib.hid hown9; clear hown9 hgr9)
        | (refine step_append_into _ rfl (.tmp 28) (.tmp 29) 34 rfl W3.heap.size TI6 j6 Tryz.underlying34 hj6 h61 W3.heap.size na (na + 2) (intVals t.at_) (by simp [Act.eval]) (HO8.out.alloc _) (some ⟨w8.heap.size, 0, none⟩) 2 [-73, -74] 2 rfl (by simp [Act.eval]) (pair_at _ _ _ _) (by omega) ?_; intro w9 hown9 hgr9; have HB9 : Hid (Below W3.heap.size W3 w9) := Lib.hid (by first | exact HB8.out.grown hgr9 HB8.out.size (fun k hk => (by injection hk with hk; omega)) | exact (HB8.out.alloc HB8.out.size _).grown hgr9 (Nat.le_trans HB8.out.size (by simp)) (fun k hk => (by injection hk with hk; omega))); have HO9 := Lib.hid hown9; clear hown9 hgr9))
      all_goals
        go_wp2_with fail
        go_meet
        case rel => exact ⟨_, rfl, Lib.hid ⟨HO9.out, HB9.out⟩⟩
    obtain ⟨gl, rfl, HE⟩ := hcut
    obtain ⟨W4, rfl⟩ : ∃ W4, W4 = wc := ⟨_, rfl⟩
    have HB4 : Hid (Below W2.heap.size W2 W4) := Lib.hid (HC.out.2.then_ HE.out.2)
    have HS4 : Hid (W4.ownsRow (w.heap.size + 2) TIn 1 (.slice (some ⟨gs, 0, none⟩) (ns + 2) (ns + 2)) (ns + 2) (intVals t.sh ++ intVals [-71, -72]) ∧ W4.ownsRow (w.heap.size + 2) TI6 1 (.slice (some ⟨gl, 0, none⟩) (na + 2) (na + 2)) (na + 2) (intVals t.at_ ++ intVals [-73, -74]) ∧ gs < gl) := Lib.hid ⟨row_low (row_on HC.out.1 HE.out.2) (by have := HS.out; omega), row_low HE.out.1 (by have := HS.out; have := HC.out.2.size; omega), by
      have h1 := (HC.out.1.lt gs rfl).2
      have h2 := (HE.out.1.lt gl rfl).1
      omega⟩
    clear HC HE mk1 mk2 wr1 wr2
    obtain ⟨W5, hW5⟩ : ∃ W5, W5 = W4.alloc (.cells (madeCells tm0 ((n + 2) * 6)) TTm) := ⟨_, rfl⟩
    have mk3 : (Instr.makeSlice 22 (.int .i64 0) (.int .i64 ((n : Int) + 2))).run Tryz.prog W4 = .ok (.slice (some ⟨W4.heap.size, 0, none⟩) 0 (n + 2)) W5 := by
      have h := run_make (P := Tryz.prog) (w := W4) 22 TTm j0 (.agg tm0) Tryz.underlying22 hj hz0 .i64 .i64 0 ((n : Int) + 2) (Int.le_refl _) (by omega) (by rw [hz2]; omega) (by omega)
      rw [hz1, show ((n : Int) + 2).toNat = n + 2 by omega] at h
      rw [hW5]
      exact h
    have hrow5 : W5.ownsRow W4.heap.size TTm 6 (.slice (some ⟨W4.heap.size, 0, none⟩) 0 (n + 2)) 0 [] := by
      rw [hW5]
      exact row_new W4 (.agg tm0) (n + 2) 6 TTm (Nat.le_refl _) (by unfold maxLen; omega)
    have hb5 : Below W4.heap.size W4 W5 := by rw [hW5]; exact (Below.refl _ _).alloc (Nat.le_refl _) _
    have HT0 : Hid (TwinW W4 W4.heap.size t.kids W5 [] 0 (.slice (some ⟨W4.heap.size, 0, none⟩) 0 (n + 2))) := Lib.hid ⟨hrow5, by simp only [List.take_zero, OwnL], by simp only [blksL]; exact List.nodup_nil, fun k _ h => (by simp only [blksL] at h; cases h), Nat.le_refl _, hb5⟩
    clear hrow5 hb5 hW5
    obtain ⟨⟨q3, q4, q5⟩, f3, f4⟩ := HKC.out W4 HB4.out
    go_wp2_with fail
    clear q3 q4 q5 f3 f4 mk3
    go_loopw [5, 6] (fun v5 v6 W => ∃ (i : Nat) (rl : List Rt), i ≤ n ∧ v6 = .int .i64 i ∧ v5 = .slice (some ⟨W4.heap.size, 0, none⟩) i (n + 2) ∧ Hid (TwinW W4 W4.heap.size t.kids W rl i (.slice (some ⟨W4.heap.size, 0, none⟩) i (n + 2)) ∧ MarkL W (t.kids.take i) rl)) (fun _ v _ => n - (intOf v).toNat)
    case atStart => exact ⟨0, [], Nat.zero_le _, rfl, rfl, Lib.hid ⟨HT0.out, by simp only [List.take_zero, MarkL]⟩⟩
    case round =>
      obtain ⟨i, rl, hi, rfl, rfl, HI⟩ := hrel
      have HBR : Hid (Below W2.heap.size W2 wr) := Lib.hid (HB4.out.then_ HI.out.1.be)
      obtain ⟨⟨q3, q4, q5⟩, f3, f4⟩ := HKC.out wr HBR.out
      by_cases hlt : i < n
      · obtain ⟨k, hk2⟩ : ∃ k, t.kids[i]? = some k := ⟨_, List.getElem?_eq_getElem (by rw [← HN.out]; exact hlt)⟩
        obtain ⟨b', off', rfl, hpk⟩ := (HAT.out.kids.on (HX.out.1.then_ HBR.out)).get hk2
        rw [Nat.zero_add] at hpk
        obtain ⟨A', ca', B', cb', K', ck', hlt', p0, p1, p2, p3, p4, p5, hat'⟩ := hpk.cells
        have HC2 : Hid (cnt k ≤ N) := Lib.hid (by have := cnt_kid hk2; have := HNN.out; omega)
        have HKW : Hid (WfT k) := Lib.hid (HWF.out.node.each k (List.mem_of_getElem? hk2))
        have HKT := Lib.hid hk2
        have HAT' := Lib.hid hat'
        have HLE : Hid (W4.heap.size ≤ wr.heap.size) := Lib.hid HI.out.1.be.size
        have b1 : (0 : Int) ≤ (i : Int) := by omega
        have b2 : (i : Int) < (n : Int) := by omega
        clear hk2 hpk hat'
        go_wp2_with fail
        refine (IH.out k A' ca' B' cb' K' ck' wr HC2.out HAT'.out HKW.out).mono ?_
        rintro e w7 ⟨r, rfl, ho7, hm7, hn7, hb7⟩
        have HB8 : Hid (Below w7.heap.size w7 (w7.alloc (.cells #[.int .i64 k.kind, .string k.text, .int .i64 k.n, .slice r.s.p r.s.n r.s.c, .slice r.a.p r.a.n r.a.c, .slice r.k.p r.k.n r.k.c] TTm))) := Lib.hid ((Below.refl _ _).alloc (Nat.le_refl _) _)
        have HT8 := Lib.hid (HI.out.1.below (hb7.then_ HB8.out))
        have HNEWS : Hid (∀ j u, (rtCells k r)[j]? = some u → (w7.alloc (.cells #[.int .i64 k.kind, .string k.text, .int .i64 k.n, .slice r.s.p r.s.n r.s.c, .slice r.a.p r.a.n r.a.c, .slice r.k.p r.k.n r.k.c] TTm)).cell? ((⟨w7.heap.size, 0, none⟩ : Addr).add j) = some u) := Lib.hid (World.news_of_block (heap_alloc_new w7 _))
        have H7 := Lib.hid (And.intro ho7 (And.intro hn7 (And.intro hb7 hm7)))
        clear ho7 hm7 hn7 hb7 q3 q4 q5 f3 f4 p0 p1 p2 p3 p4 p5 hlt'
        go_wp2_with (at_builtin; refine wpList_append_fits _ rfl (.tmp 43) (.tmp 50) 22 rfl W4.heap.size TTm j0 6 Tryz.underlying22 hj hz1 W4.heap.size i (n + 2) (rtCellsL (t.kids.take i) rl) rfl HT8.out.row ⟨w7.heap.size, 0, none⟩ 1 1 (rtCells k r) rfl rfl HNEWS.out ?o1 (by omega) ?_)
        case o1 =>
          intro u hu
          simp only [rtCells, List.mem_cons, List.not_mem_nil, or_false] at hu
          rcases hu with rfl | rfl | rfl | rfl | rfl | rfl <;> rfl
        intro w9 hown9 hgr9
        have HT9 := Lib.hid (HI.out.1.take HLE.out HKT.out H7.out.2.2.1 H7.out.1 H7.out.2.1 HB8.out hown9 hgr9 (.inl rfl))
        have HM9 : Hid (MarkL w9 (t.kids.take (i + 1)) (rl ++ [r])) := Lib.hid (by
          rw [List.take_add_one, HKT.out]
          have hb78 := H7.out.2.2.1.then_ HB8.out
          have hs9 : wr.heap.size ≤ w9.heap.size := Nat.le_trans hb78.size hgr9.size
          have hs79 : w7.heap.size ≤ w9.heap.size := Nat.le_trans HB8.out.size hgr9.size
          refine MarkL.more ?_ HI.out.1.own.len ?_
          · refine MarkT.kept hs79 H7.out.2.2.2 fun g hg => ?_
            have h1 := H7.out.1.blk g hg
            have h2 := HLE.out
            have h3 := (HI.out.1.row.lt W4.heap.size rfl).2
            exact (hgr9.block g (Nat.lt_of_lt_of_le h1.2 HB8.out.size) (fun e => by injection e with e; omega)).trans (HB8.out.block g h1.2)
          · refine MarkL.kept hs9 HI.out.2 fun g hg => ?_
            have h1 := HI.out.1.own.blk g hg
            exact (hgr9.block g (Nat.lt_of_lt_of_le h1.2 hb78.size) (fun e => HI.out.1.ap g e.symm hg)).trans (hb78.block g h1.2))
        clear hown9 hgr9
        go_wp2_with fail
        exact ⟨⟨i + 1, rl ++ [r], by omega, by go_num, rfl, Lib.hid ⟨HT9.out, HM9.out⟩⟩, by simp [intOf]; omega⟩
      · obtain rfl : i = n := by omega
        have htk : t.kids.take i = t.kids := by rw [HN.out]; exact List.take_length
        have hI1 := HI.out.1
        have hI2 := HI.out.2
        rw [htk] at hI2
        have hrw := hI1.row
        have how := hI1.own
        rw [htk] at hrw how
        have HR := Lib.hid (And.intro hrw (And.intro how (And.intro hI1.nd (And.intro hI1.ap (And.intro hI1.be hI2)))))
        clear hlt HI htk hI1 hI2 hrw how
        have HNEW : Hid (∀ j u, (marksK)[j]? = some u → (wr.alloc (.cells marksK.toArray TTm)).cell? ((⟨wr.heap.size, 0, none⟩ : Addr).add j) = some u) := Lib.hid (World.news_of_block (heap_alloc_new wr _))
        have HB8 : Hid (Below wr.heap.size wr (wr.alloc (.cells marksK.toArray TTm))) := Lib.hid ((Below.refl _ _).alloc (Nat.le_refl _) _)
        have HRA : Hid ((wr.alloc (.cells marksK.toArray TTm)).ownsRow W4.heap.size TTm 6 (.slice (some ⟨W4.heap.size, 0, none⟩) i (i + 2)) i (rtCellsL t.kids rl)) := Lib.hid (HR.out.1.alloc _)
        have hm1 : (i : Int) + 2 ≤ (i : Int) + 2 := Int.le_refl _
        go_wp2_with (at_builtin; refine wpList_append_fits _ rfl (.tmp 52) (.tmp 55) 22 rfl W4.heap.size TTm j0 6 Tryz.underlying22 hj hz1 W4.heap.size i (i + 2) (rtCellsL t.kids rl) rfl HRA.out ⟨wr.heap.size, 0, none⟩ 2 2 marksK rfl rfl HNEW.out ?o1 (Nat.le_refl _) ?_)
        case o1 =>
          intro u hu
          simp only [marksK, List.mem_cons, List.not_mem_nil, or_false] at hu
          rcases hu with rfl | rfl | rfl | rfl | rfl | rfl | rfl | rfl | rfl | rfl | rfl | rfl <;> rfl
        intro w9 hown9 hgr9
        have HB9 : Hid (Below W4.heap.size W4 w9) := Lib.hid ((HR.out.2.2.2.2.1.then_ HB8.out).grown hgr9 (Nat.le_trans HR.out.2.2.2.2.1.size HB8.out.size) (fun k hk => by injection hk with hk; omega))
        have HB29 : Hid (Below W2.heap.size W2 w9) := Lib.hid (HB4.out.then_ HB9.out)
        have HO9 := Lib.hid hown9
        have HK9 : Hid (OwnL w9 W4.heap.size t.kids rl ∧ MarkL w9 t.kids rl) := Lib.hid (by
          have key : ∀ g ∈ blksL rl, w9.heap[g]? = wr.heap[g]? := fun g hg => by
            have h1 := HR.out.2.1.blk g hg
            exact (hgr9.block g (Nat.lt_of_lt_of_le h1.2 HB8.out.size) (fun e => HR.out.2.2.2.1 g e.symm hg)).trans (HB8.out.block g h1.2)
          exact ⟨HR.out.2.1.kept key, MarkL.kept (Nat.le_trans HB8.out.size hgr9.size) HR.out.2.2.2.2.2 key⟩)
        clear hown9 hgr9 q3 q4 q5 f3 f4 hm1
        have hd : w9.heap[w.heap.size]? = some (.cells #[.int .i64 t.kind, .string t.text, .int .i64 t.n, .slice A ns ca, .slice B na cb, .slice K i ck] TTm (0, 0)) := by
          rw [HNS.out, HNA.out, HN.out]
          exact (HB29.out.block _ (heap_lt HX.out.2.1)).trans HX.out.2.1
        have hz := (HB29.out.block _ (heap_lt HX.out.2.2.1)).trans HX.out.2.2.1
        have q0 := cell_at hd (j := 0) rfl
        have q1 := cell_at hd (j := 1) rfl
        have q2 := cell_at hd (j := 2) rfl
        have q3 := cell_at hd (j := 3) rfl
        have q4 := cell_at hd (j := 4) rfl
        have q5 := cell_at hd (j := 5) rfl
        have z0 := cell_at hz (j := 0) rfl
        have z1 := cell_at hz (j := 1) rfl
        have z2 := cell_at hz (j := 2) rfl
        have z3 := cell_at hz (j := 3) rfl
        have z4 := cell_at hz (j := 4) rfl
        have z5 := cell_at hz (j := 5) rfl
        have fd := unfrozen hd
        have fz := unfrozen hz
        have HDZ := Lib.hid (And.intro hd hz)
        have i1 : (ns : Int) ≤ (ns : Int) + 2 := by omega
        have i2 : (na : Int) ≤ (na : Int) + 2 := by omega
        have i3 : (i : Int) ≤ (i : Int) + 2 := by omega
        clear hd hz
        go_wp2_with fail
        go_region
        all_goals
          go_wp2_with fail
          obtain ⟨ho, hm, hnd⟩ := laid_of (t := t) HNS.out HNA.out HN.out (row_on HS4.out.1 HB9.out) (row_on HS4.out.2.1 HB9.out) HO9.out HR.out.1.1 HK9.out.1 HK9.out.2 HR.out.2.2.1 (HR.out.2.2.2.1 _ rfl) HS4.out.2.2 (HS4.out.2.1.lt gl rfl).2 (by have := HS.out; have := HB4.out.size; omega)
          obtain ⟨W7, hW7⟩ : ∃ W7, W7 = ((w9.setCell ⟨w.heap.size, 3, none⟩ (.slice (some ⟨gs, 0, none⟩) ns (ns + 2))).setCell ⟨w.heap.size, 4, none⟩ (.slice (some ⟨gl, 0, none⟩) na (na + 2))).setCell ⟨w.heap.size, 5, none⟩ (.slice (some ⟨W4.heap.size, 0, none⟩) i (i + 2)) := ⟨_, rfl⟩
          have hk7 : ∀ g, g ≠ w.heap.size → W7.heap[g]? = w9.heap[g]? := fun g hg => by rw [hW7, Below.heap_setCell _ _ _ _ hg, Below.heap_setCell _ _ _ _ hg, Below.heap_setCell _ _ _ _ hg]
          have hb7 : Below w.heap.size w W7 := by rw [hW7]; exact (((HX.out.1.then_ HB29.out).setCell (Nat.le_refl _) _).setCell (Nat.le_refl _) _).setCell (Nat.le_refl _) _
          have hs7 : W7.heap.size = w9.heap.size := by rw [hW7]; simp [World.setCell]
          rw [← hW7]
          obtain ⟨e1, e2, e3⟩ := six (.int .i64 t.kind) (.string t.text) (.int .i64 t.n) (.slice (some ⟨gs, 0, none⟩) ns (ns + 2)) (.slice (some ⟨gl, 0, none⟩) na (na + 2)) (.slice (some ⟨W4.heap.size, 0, none⟩) i (i + 2)) ((hk7 _ (by omega)).trans HDZ.out.2) hb7 (Nat.le_succ _)
          obtain ⟨W8, hW8⟩ : ∃ W8, W8 = ((((((W7.setCell ⟨w.heap.size + 1, 0, none⟩ (.int .i64 t.kind)).setCell ⟨w.heap.size + 1, 1, none⟩ (.string t.text)).setCell ⟨w.heap.size + 1, 2, none⟩ (.int .i64 t.n)).setCell ⟨w.heap.size + 1, 3, none⟩ (.slice (some ⟨gs, 0, none⟩) ns (ns + 2))).setCell ⟨w.heap.size + 1, 4, none⟩ (.slice (some ⟨gl, 0, none⟩) na (na + 2))).setCell ⟨w.heap.size + 1, 5, none⟩ (.slice (some ⟨W4.heap.size, 0, none⟩) i (i + 2))) := ⟨_, rfl⟩
          have hs8 : W8.heap.size = w9.heap.size := by rw [hW8]; simp [World.setCell, hs7]
          rw [← hW8] at e1 e2 e3 ⊢
          clear hW8 hW7
          have e4 : W8.drew.heap[w.heap.size + 1]? = some (.cells #[.int .i64 t.kind, .string t.text, .int .i64 t.n, .slice (some ⟨gs, 0, none⟩) ns (ns + 2), .slice (some ⟨gl, 0, none⟩) na (na + 2), .slice (some ⟨W4.heap.size, 0, none⟩) i (i + 2)] TTm (0, 0)) := e1
          have key : ∀ g ∈ blksT (.mk ⟨some ⟨gs, 0, none⟩, ns, ns + 2⟩ ⟨some ⟨gl, 0, none⟩, na, na + 2⟩ ⟨some ⟨W4.heap.size, 0, none⟩, i, i + 2⟩ rl), W8.drew.heap[g]? = w9.heap[g]? := fun g hg => by
            have h1 := (ho.blk g hg).1
            exact (e2 g (by omega)).trans (hk7 g (by omega))
          have f1 := OwnT.mono (show w.heap.size ≤ w.heap.size + 2 by omega) (ho.kept key)
          have f2 := hm.kept (w' := W8.drew) (Nat.le_of_eq hs8.symm) key
          have f3 := e3.drew
          refine bodyPost_ret (results_tm1 rfl rfl e4) rfl ?_
          exact ⟨.mk ⟨some ⟨gs, 0, none⟩, ns, ns + 2⟩ ⟨some ⟨gl, 0, none⟩, na, na + 2⟩ ⟨some ⟨W4.heap.size, 0, none⟩, i, i + 2⟩ rl, rfl, f1, f2, hnd, f3⟩
end Go.Proofs.YtkdejffhdhcocaaGreat

