/- inverse: prim, twin, scalar, bonds. Condition: sizes within reach. -/
import Derived.Test.YteohoodfcgfkeaaGreatTeIp
import Derived.Test.YteohoodfcgfkeaaGreatTeNt
namespace Go.Proofs.YteohoodfcgfkeaaGreat
open Go.RowKit

/-- what a function leaves that answers a term in memory of its own, and a bool -/
def TbPost (t : Tm) (ok : Bool) (w : World) (e : Ending) (w' : World) : Prop := ∃ r : Rt, e = .returned (.tuple #[rtVal t r, .bool ok]) ∧ OwnT w' w.heap.size t r ∧ (blksT r).Nodup ∧ Below w.heap.size w w'
abbrev rt0 : Rt := .mk nil0 nil0 nil0 []
theorem row0 (w : World) (B z : Nat) (t : TypeId) : RowOwn w B t z nil0 [] := ⟨by simp, .inl ⟨rfl, rfl⟩⟩
theorem own_prim (w : World) (B : Nat) (s : ByteArray) : OwnT w B (tPrim s) rt0 := by
  simp only [tPrim, OwnT, OwnL]
  exact ⟨row0 _ _ _ _, row0 _ _ _ _, row0 _ _ _ _, rfl, trivial⟩
theorem own_nil (w : World) (B : Nat) : OwnT w B tNil rt0 := by
  simp only [tNil, OwnT, OwnL]
  exact ⟨row0 _ _ _ _, row0 _ _ _ _, row0 _ _ _ _, rfl, trivial⟩
theorem blks0 : blksT rt0 = [] := by simp [blksT, blksL, Rw.blk]
/-- a term of two kids whose row is a new block -/
theorem own_two {w : World} {B g : Nat} {x y : Tm} {p q : Rt} (k : Int) (hx : OwnT w B x p) (hy : OwnT w B y q) (hB : B ≤ g) (hg : w.heap[g]? = some (.cells (rtCellsL [x, y] [p, q]).toArray TTm (0, 0))) (hn : (blksT p ++ blksT q).Nodup) (h1 : ∀ b ∈ blksT p, b ≠ g) (h2 : ∀ b ∈ blksT q, b ≠ g) :
    OwnT w B (tOf k [x, y]) (.mk nil0 nil0 ⟨some ⟨g, 0, none⟩, 2, 2⟩ [p, q]) ∧ (blksT (.mk nil0 nil0 ⟨some ⟨g, 0, none⟩, 2, 2⟩ [p, q])).Nodup := by
  constructor
  · simp only [tOf, OwnT, OwnL, and_true]
    refine ⟨row0 _ _ _ _, row0 _ _ _ _, ⟨by simp [rtCellsL, rtCells], .inr ⟨g, _, rfl, Nat.le_refl _, (by decide : 0 < 2), (by unfold maxLen; omega : 2 ≤ maxLen), hB, hg, by simp [rtCellsL, rtCells], ?_⟩⟩, rfl, hx, hy⟩
    simp [rtCellsL, rtCells]
  · have e : blksT (.mk nil0 nil0 ⟨some ⟨g, 0, none⟩, 2, 2⟩ [p, q]) = g :: (blksT p ++ blksT q) := by simp [blksT, blksL, Rw.blk]
    rw [e]
    refine List.nodup_cons.2 ⟨fun hm => ?_, hn⟩
    rcases List.mem_append.1 hm with h | h
    · exact h1 g h rfl
    · exact h2 g h rfl
/-- the result's cell holds a term in memory of its own -/
def ResAt (w W : World) (t : Tm) : Prop := ∃ r : Rt, W.heap[w.heap.size]? = some (.cells #[.int .i64 t.kind, .string t.text, .int .i64 t.n, .slice r.s.p r.s.n r.s.c, .slice r.a.p r.a.n r.a.c, .slice r.k.p r.k.n r.k.c] TTm (0, 0)) ∧ OwnT W w.heap.size t r ∧ (blksT r).Nodup ∧ Below w.heap.size w W
set_option maxRecDepth 100000 in
theorem iprim_any (s : ByteArray) (w : World) : Calls Tryz.prog 100 #[.string s] w fun e w' => e = .returned (rtVal (tPrim s) rt0) ∧ Below w.heap.size w w' := by
  go_enter Tryz.func100, Tryz.ntmps100
  go_wp2_with fail
  refine ret_agg ?_ rfl ?_
  · simp [results, Tryz.results100, go_sem]
    exact ⟨rfl, rfl, rfl, ⟨rfl, rfl, rfl⟩, ⟨rfl, rfl, rfl⟩, rfl, rfl, rfl⟩
  · repeat (first | exact Below.refl _ _ | refine Below.alloc ?_ (by simp) _ | refine Below.setCell ?_ (by simp) _)
set_option maxRecDepth 100000 in
set_option maxHeartbeats 4000000 in
theorem itwin_any (t : Tm) (A : Option Addr) (ca : Nat) (B : Option Addr) (cb : Nat) (K : Option Addr) (ck : Nat) (w : World) (hat : TmAt w t A B K) (hwf : WfT t) (hg : greatT t = false) : Calls Tryz.prog 104 #[tmVal t A ca B cb K ck] w (TwinPost t w) := by
  obtain ⟨W2, hW2⟩ : ∃ W2, W2 = (w.alloc (.cells (tmCells t A ca B cb K ck) TTm)).alloc (.cells tm0 TTm) := ⟨_, rfl⟩
  have hb1 : Below w.heap.size w (w.alloc (.cells (tmCells t A ca B cb K ck) TTm)) := (Below.refl _ _).alloc (Nat.le_refl _) _
  have hb2 : Below w.heap.size w W2 := by rw [hW2]; exact hb1.alloc hb1.size _
  have hc1 : W2.heap[w.heap.size]? = some (.cells (tmCells t A ca B cb K ck) TTm (0, 0)) := by rw [hW2]; exact (Below.heap_alloc _ _ _ (by simp)).trans (heap_alloc_new w _)
  have hc2 : W2.heap[w.heap.size + 1]? = some (.cells tm0 TTm (0, 0)) := by rw [hW2]; exact heap_new2 _ _ _
  have HX := Lib.hid (And.intro hb2 (And.intro hc1 (And.intro hc2 (hat.on hb2))))
  have HWF := Lib.hid (And.intro hwf hg)
  have HW2 := Lib.hid hW2
  have HS : Hid (W2.heap.size = w.heap.size + 2) := Lib.hid (by rw [hW2]; simp)
  clear hat hwf hb1 hb2 hc1 hc2 hW2 hg
  go_enter Tryz.func104, Tryz.ntmps104
  go_wp2_with fail
  rw [← HW2.out]
  refine (copy_any t A ca B cb K ck W2 HX.out.2.2.2 HWF.out.1).mono ?_
  rintro e w3 hp
  rcases hp with ⟨h0, _⟩ | ⟨_, r, rfl, ho, hn, hb3⟩
  · rw [HWF.out.2] at h0; cases h0
  have hz := (hb3.block _ (heap_lt HX.out.2.2.1)).trans HX.out.2.2.1
  have fz := unfrozen hz
  have z0 := cell_at hz (j := 0) rfl
  have z1 := cell_at hz (j := 1) rfl
  have z2 := cell_at hz (j := 2) rfl
  have z3 := cell_at hz (j := 3) rfl
  have z4 := cell_at hz (j := 4) rfl
  have z5 := cell_at hz (j := 5) rfl
  have HZ := Lib.hid hz
  have hlz : w.heap.size + 1 < w3.heap.size := heap_lt hz
  have HB3 := Lib.hid (HX.out.1.then_ hb3)
  have HO := Lib.hid (And.intro ho (And.intro hn hb3))
  clear ho hn hb3 hz
  go_wp2_with fail
  obtain ⟨e1, e2, e3⟩ := six (.int .i64 t.kind) (.string t.text) (.int .i64 t.n) (.slice r.s.p r.s.n r.s.c) (.slice r.a.p r.a.n r.a.c) (.slice r.k.p r.k.n r.k.c) HZ.out HB3.out (Nat.le_succ _)
  refine bodyPost_ret (results_tm1 rfl rfl ((Below.heap_alloc _ _ _ (heap_lt e1)).trans e1)) rfl ⟨r, rfl, ?_, HO.out.2.1, e3.alloc e3.size _⟩
  refine OwnT.on (w := _) ?_ ((Below.refl _ _).alloc (Nat.le_refl _) _)
  refine (HO.out.1.kept fun g hg => e2 g ?_).mono ?_
  · have h1 := (HO.out.1.blk g hg).1
    have h2 := HS.out
    omega
  · have h2 := HS.out
    omega
set_option maxRecDepth 100000 in
set_option maxHeartbeats 4000000 in
theorem scalar_any (t : Tm) (b off : Nat) (w : World) (hp : PtrAt w b off t) : Calls Tryz.prog 103 #[.pointer (some ⟨b, off, none⟩)] w fun e w' => e = .returned (.bool (scalarB t)) ∧ w = w' := by
  obtain ⟨A, ca, B, cb, K, ck, hlt, r0, r1, r2, r3, r4, r5, hat⟩ := hp.cells
  obtain ⟨n, hn⟩ : ∃ n, n = t.sh.length := ⟨_, rfl⟩
  rw [← hn] at r3
  have HE : Hid (scalarB t = (decide (t.kind = 1) && decide (n = 0))) := Lib.hid (by unfold scalarB; rw [hn]; cases t.sh <;> simp)
  clear hn hp hat
  by_cases h1 : t.kind = 1
  · have d1 : (t.kind == 1) = true := beq_yes h1
    by_cases h2 : n = 0
    · have d2 : ((n : Int) == 0) = true := beq_yes (by omega)
      have HF : Hid (scalarB t = true) := Lib.hid (by rw [HE.out]; simp [h1, h2])
      subst h2
      clear h1
      go_enter Tryz.func103, Tryz.ntmps103
      go_wp2_with fail
      go_ret
      rw [HF.out]
      exact ⟨rfl, rfl⟩
    · have d2 : ((n : Int) == 0) = false := beq_no (by omega)
      have HF : Hid (scalarB t = false) := Lib.hid (by rw [HE.out]; simp [h2])
      clear h1 h2
      go_enter Tryz.func103, Tryz.ntmps103
      go_wp2_with fail
      go_ret
      rw [HF.out]
      exact ⟨rfl, rfl⟩
  · have d1 : (t.kind == 1) = false := beq_no h1
    have HF : Hid (scalarB t = false) := Lib.hid (by rw [HE.out]; simp [h1])
    clear h1
    go_enter Tryz.func103, Tryz.ntmps103
    go_wp2_with fail
    go_ret
    rw [HF.out]
    exact ⟨rfl, rfl⟩
end Go.Proofs.YteohoodfcgfkeaaGreat
