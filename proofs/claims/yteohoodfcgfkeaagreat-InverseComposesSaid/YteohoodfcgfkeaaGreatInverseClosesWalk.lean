/- The walk of InverseCloses: it returns true. Condition: sizes within reach. -/
import Derived.Test.YteohoodfcgfkeaaGreatTeIw
namespace Go.Proofs.YteohoodfcgfkeaaGreat
open Go.RowKit

/-- a boxed term: its cells, its lists, from this world on -/
structure BoxAt (W : World) (g : Nat) (t : Tm) (A : Option Addr) (ca : Nat) (B : Option Addr) (cb : Nat) (K : Option Addr) (ck : Nat) : Prop where
  cells : W.heap[g]? = some (.cells (tmCells t A ca B cb K ck) TTm (0, 0))
  at_ : TmAt W t A B K
theorem BoxAt.on {W W' : World} {g : Nat} {t : Tm} {A : Option Addr} {ca : Nat} {B : Option Addr} {cb : Nat} {K : Option Addr} {ck : Nat} (h : BoxAt W g t A ca B cb K ck) (hb : Below W.heap.size W W') : BoxAt W' g t A ca B cb K ck := ⟨(hb.block _ (heap_lt h.cells)).trans h.cells, h.at_.on hb⟩
theorem BoxAt.six {W : World} {g : Nat} {t : Tm} {A : Option Addr} {ca : Nat} {B : Option Addr} {cb : Nat} {K : Option Addr} {ck : Nat} (h : BoxAt W g t A ca B cb K ck) : (W.cell? ⟨g, 0, none⟩ = some (.int .i64 t.kind) ∧ W.cell? ⟨g, 1, none⟩ = some (.string t.text) ∧ W.cell? ⟨g, 2, none⟩ = some (.int .i64 t.n) ∧ W.cell? ⟨g, 3, none⟩ = some (.slice A t.sh.length ca) ∧ W.cell? ⟨g, 4, none⟩ = some (.slice B t.at_.length cb) ∧ W.cell? ⟨g, 5, none⟩ = some (.slice K t.kids.length ck)) ∧ g < W.heap.size :=
  ⟨⟨cell_at h.cells rfl, cell_at h.cells rfl, cell_at h.cells rfl, cell_at h.cells rfl, cell_at h.cells rfl, cell_at h.cells rfl⟩, heap_lt h.cells⟩
/-- a term in memory of its own that is boxed -/
theorem box_own {w W : World} {t : Tm} {r : Rt} {B : Nat} (hW : W = w.alloc (.cells #[.int .i64 t.kind, .string t.text, .int .i64 t.n, .slice r.s.p r.s.n r.s.c, .slice r.a.p r.a.n r.a.c, .slice r.k.p r.k.n r.k.c] TTm)) (ho : OwnT w B t r) : BoxAt W w.heap.size t r.s.p r.s.c r.a.p r.a.c r.k.p r.k.c ∧ Below w.heap.size w W := by
  have hb : Below w.heap.size w W := by rw [hW]; exact (Below.refl _ _).alloc (Nat.le_refl _) _
  obtain ⟨hta, f1, f2, f3⟩ := ho.read
  refine ⟨⟨?_, hta.on hb⟩, hb⟩
  rw [hW, f1, f2, f3]
  exact heap_alloc_new w _
theorem own_val {w : World} {t : Tm} {r : Rt} {B : Nat} (ho : OwnT w B t r) : rtVal t r = tmVal t r.s.p r.s.c r.a.p r.a.c r.k.p r.k.c := by
  obtain ⟨_, f1, f2, f3⟩ := ho.read
  unfold rtVal
  rw [f1, f2, f3]
set_option maxRecDepth 100000 in
set_option maxHeartbeats 32000000 in
theorem inverseCloses_any (t : Tm) (A : Option Addr) (ca : Nat) (B : Option Addr) (cb : Nat) (K : Option Addr) (ck : Nat) (w : World) (hat : TmAt w t A B K) (hwf : WfT t) :
    Calls Tryz.prog 11 #[tmVal t A ca B cb K ck] w fun e w' => e = .returned (.bool true) ∧ Below w.heap.size w w' := by
  obtain ⟨W1, hW1⟩ : ∃ W1, W1 = w.alloc (.cells (tmCells t A ca B cb K ck) TTm) := ⟨_, rfl⟩
  have hb1 : Below w.heap.size w W1 := by rw [hW1]; exact (Below.refl _ _).alloc (Nat.le_refl _) _
  have hc1 : W1.heap[w.heap.size]? = some (.cells (tmCells t A ca B cb K ck) TTm (0, 0)) := by rw [hW1]; exact heap_alloc_new w _
  have HB1 := Lib.hid hb1
  have HT : Hid (BoxAt W1 w.heap.size t A ca B cb K ck) := Lib.hid ⟨hc1, hat.on hb1⟩
  have HWF := Lib.hid hwf
  have HW1 := Lib.hid hW1
  clear hat hwf hb1 hc1 hW1
  go_enter Tryz.func11, Tryz.ntmps11
  go_wp2_with fail
  rw [← HW1.out]
  refine (begun17_any W1).mono ?_
  rintro e w2 ⟨rfl, hb2⟩
  have HT2 := Lib.hid (HT.out.on hb2)
  have HB2 := Lib.hid (HB1.out.then_ hb2)
  clear hb2
  obtain ⟨⟨t0, t1, t2, t3, t4, t5⟩, hlt⟩ := HT2.out.six
  go_wp2_with fail
  refine (iof_any t A ca B cb K ck w2 HT2.out.at_ HWF.out).mono ?_
  clear t0 t1 t2 t3 t4 t5 hlt
  obtain ⟨u, m, hum⟩ : ∃ u m, obvT t = (u, m) := ⟨_, _, rfl⟩
  rw [hum]
  rintro e w3 ⟨r, rfl, ho, _, hb3⟩
  have HUM := Lib.hid hum
  have HO := Lib.hid ho
  have HT3 := Lib.hid (HT2.out.on hb3)
  have HB3 := Lib.hid (HB2.out.then_ hb3)
  clear hum ho hb3 HT2 HB2 HT
  go_upto_region 4 with fail
  obtain ⟨W3, hW3⟩ : ∃ W3, W3 = w3.alloc (.cells #[.int .i64 u.kind, .string u.text, .int .i64 u.n, .slice r.s.p r.s.n r.s.c, .slice r.a.p r.a.n r.a.c, .slice r.k.p r.k.n r.k.c] TTm) := ⟨_, rfl⟩
  have HU : Hid (BoxAt W3 w3.heap.size u r.s.p r.s.c r.a.p r.a.c r.k.p r.k.c ∧ Below w3.heap.size w3 W3) := Lib.hid (box_own hW3 HO.out)
  have HW3 := Lib.hid hW3
  clear hW3
  refine HW3.out ▸ ?_
  have HT4 := Lib.hid (HT3.out.on HU.out.2)
  have HB4 := Lib.hid (HB3.out.then_ HU.out.2)
  clear HT3 HB3
  obtain ⟨⟨t0, t1, t2, t3, t4, t5⟩, hlt⟩ := HT4.out.six
  rcases obvT_cases t with ⟨hm, h⟩ | ⟨hm, h2, h⟩ | ⟨hm, u', h2, h⟩
  · obtain ⟨rfl, rfl⟩ : tNil = u ∧ mayT t 3 = m := by rw [HUM.out] at h; exact ⟨(Prod.mk.inj h).1.symm, (Prod.mk.inj h).2.symm⟩
    have d1 : (mayT t 3 != 0) = true := by simpa using hm
    clear hm h
    go_wp2_with fail
    refine (may_any t A ca B cb K ck 3 W3 HT4.out.at_ HWF.out).mono ?_
    rintro e w4 ⟨rfl, hb4⟩
    have HBF := Lib.hid (HB4.out.then_ hb4)
    clear hb4 t0 t1 t2 t3 t4 t5 hlt
    go_wp2_with fail
    go_ret
    exact ⟨rfl, HBF.out⟩
  · obtain ⟨rfl, rfl⟩ : tNil = u ∧ 18 = m := by rw [HUM.out] at h; exact ⟨(Prod.mk.inj h).1.symm, (Prod.mk.inj h).2.symm⟩
    have HM := Lib.hid hm
    clear hm h h2
    go_wp2_with fail
    refine (may_any t A ca B cb K ck 3 W3 HT4.out.at_ HWF.out).mono ?_
    rintro e w4 ⟨rfl, hb4⟩
    rw [HM.out]
    have HT5 := Lib.hid (HT4.out.on hb4)
    have HB5 := Lib.hid (HB4.out.then_ hb4)
    clear hb4 t0 t1 t2 t3 t4 t5 hlt
    obtain ⟨⟨t0, t1, t2, t3, t4, t5⟩, hlt⟩ := HT5.out.six
    go_wp2_with fail
    refine (may_any t A ca B cb K ck 3 w4 HT5.out.at_ HWF.out).mono ?_
    rintro e w5 ⟨rfl, hb5⟩
    rw [HM.out]
    have HBF := Lib.hid (HB5.out.then_ hb5)
    clear hb5 t0 t1 t2 t3 t4 t5 hlt
    go_wp2_with fail
    go_ret
    exact ⟨rfl, HBF.out⟩
  · obtain ⟨rfl, rfl⟩ : u' = u ∧ 0 = m := by rw [HUM.out] at h; exact ⟨(Prod.mk.inj h).1.symm, (Prod.mk.inj h).2.symm⟩
    have HM := Lib.hid (And.intro hm h2)
    have HA := Lib.hid (obv_all hm HWF.out h2)
    obtain ⟨hsz, _, _⟩ := size_small (may_good hm).2.1
    obtain ⟨hsu, _, _⟩ := size_small HA.out.great
    have HSZ := Lib.hid (And.intro hsz hsu)
    have c1 := HA.out.cnt
    have c2 := HA.out.dep
    have g1 : ¬ ((cnt t : Int) < (cnt u' : Int)) := by omega
    have g2 : ¬ ((dep t : Int) < (dep u' : Int)) := by omega
    have g3 : decide ((cnt t : Int) < (cnt u' : Int)) = false := by simpa using g1
    have g4 : decide ((dep t : Int) < (dep u' : Int)) = false := by simpa using g2
    clear hm h h2 hsz hsu
    go_wp2_with fail
    refine (size_any t A ca B cb K ck W3 HT4.out.at_ HWF.out).mono ?_
    rintro e w5 ⟨rfl, hb5⟩
    rw [HSZ.out.1]
    have HU5 := Lib.hid (HU.out.1.on hb5)
    have HB5 := Lib.hid (HB4.out.then_ hb5)
    clear hb5 t0 t1 t2 t3 t4 t5 hlt
    obtain ⟨⟨u0, u1, u2, u3, u4, u5⟩, hlu⟩ := HU5.out.six
    go_wp2_with fail
    refine (size_any u' r.s.p r.s.c r.a.p r.a.c r.k.p r.k.c w5 HU5.out.at_ HA.out.wf).mono ?_
    rintro e w6 ⟨rfl, hb6⟩
    rw [HSZ.out.2]
    have HU6 := Lib.hid (HU5.out.on hb6)
    have HB6 := Lib.hid (HB5.out.then_ hb6)
    clear hb6 u0 u1 u2 u3 u4 u5 hlu HU5 HB5
    obtain ⟨⟨u0, u1, u2, u3, u4, u5⟩, hlu⟩ := HU6.out.six
    go_wp2_with fail
    refine (may_any u' r.s.p r.s.c r.a.p r.a.c r.k.p r.k.c 3 w6 HU6.out.at_ HA.out.wf).mono ?_
    rintro e w7 ⟨rfl, hb7⟩
    rw [HA.out.may]
    have HU7 := Lib.hid (HU6.out.on hb7)
    have HB7 := Lib.hid (HB6.out.then_ hb7)
    clear hb7 u0 u1 u2 u3 u4 u5 hlu HU6 HB6
    obtain ⟨⟨u0, u1, u2, u3, u4, u5⟩, hlu⟩ := HU7.out.six
    go_wp2_with fail
    refine (iof_any u' r.s.p r.s.c r.a.p r.a.c r.k.p r.k.c w7 HU7.out.at_ HA.out.wf).mono ?_
    clear u0 u1 u2 u3 u4 u5 hlu
    obtain ⟨x, m2, hxm⟩ : ∃ x m2, obvT u' = (x, m2) := ⟨_, _, rfl⟩
    rw [hxm]
    rintro e w8 ⟨r8, rfl, ho8, _, hb8⟩
    have HXM := Lib.hid hxm
    have HO8 := Lib.hid ho8
    have HU8 := Lib.hid (HU7.out.on hb8)
    have HB8 := Lib.hid (HB7.out.then_ hb8)
    clear hxm ho8 hb8 HU7 HB7
    go_upto_region 11 with fail
    obtain ⟨W8, hW8⟩ : ∃ W8, W8 = w8.alloc (.cells #[.int .i64 x.kind, .string x.text, .int .i64 x.n, .slice r8.s.p r8.s.n r8.s.c, .slice r8.a.p r8.a.n r8.a.c, .slice r8.k.p r8.k.n r8.k.c] TTm) := ⟨_, rfl⟩
    have HX : Hid (BoxAt W8 w8.heap.size x r8.s.p r8.s.c r8.a.p r8.a.c r8.k.p r8.k.c ∧ Below w8.heap.size w8 W8) := Lib.hid (box_own hW8 HO8.out)
    have HW8 := Lib.hid hW8
    clear hW8
    refine HW8.out ▸ ?_
    have HU9 := Lib.hid (HU8.out.on HX.out.2)
    have HB9 := Lib.hid (HB8.out.then_ HX.out.2)
    clear HU8 HB8
    rcases obvT_cases u' with ⟨hm, h⟩ | ⟨hm, h2, h⟩ | ⟨hm, x', h2, h⟩
    · exact absurd HA.out.may hm
    · obtain ⟨rfl, rfl⟩ : tNil = x ∧ 18 = m2 := by rw [HXM.out] at h; exact ⟨(Prod.mk.inj h).1.symm, (Prod.mk.inj h).2.symm⟩
      clear hm h h2
      go_wp2_with fail
      go_ret
      exact ⟨rfl, HB9.out⟩
    · obtain ⟨rfl, rfl⟩ : x' = x ∧ 0 = m2 := by rw [HXM.out] at h; exact ⟨(Prod.mk.inj h).1.symm, (Prod.mk.inj h).2.symm⟩
      have HM2 := Lib.hid h2
      have HA2 := Lib.hid (obv_all hm HA.out.wf h2)
      clear hm h h2
      obtain ⟨⟨x0, x1, x2, x3, x4, x5⟩, hlx⟩ := HX.out.1.six
      go_wp2_with fail
      refine (iof_any x' r8.s.p r8.s.c r8.a.p r8.a.c r8.k.p r8.k.c W8 HX.out.1.at_ HA2.out.wf).mono ?_
      clear x0 x1 x2 x3 x4 x5 hlx
      obtain ⟨y, m3, hym⟩ : ∃ y m3, obvT x' = (y, m3) := ⟨_, _, rfl⟩
      rw [hym]
      rintro e w10 ⟨r10, rfl, ho10, _, hb10⟩
      have HYM := Lib.hid hym
      have HO10 := Lib.hid ho10
      have HU10 := Lib.hid (HU9.out.on hb10)
      have HB10 := Lib.hid (HB9.out.then_ hb10)
      clear hym ho10 hb10 HU9 HB9
      go_upto_region 14 with fail
      obtain ⟨W10, hW10⟩ : ∃ W10, W10 = w10.alloc (.cells #[.int .i64 y.kind, .string y.text, .int .i64 y.n, .slice r10.s.p r10.s.n r10.s.c, .slice r10.a.p r10.a.n r10.a.c, .slice r10.k.p r10.k.n r10.k.c] TTm) := ⟨_, rfl⟩
      have HY : Hid (BoxAt W10 w10.heap.size y r10.s.p r10.s.c r10.a.p r10.a.c r10.k.p r10.k.c ∧ Below w10.heap.size w10 W10) := Lib.hid (box_own hW10 HO10.out)
      have HW10 := Lib.hid hW10
      clear hW10
      refine HW10.out ▸ ?_
      have HU11 := Lib.hid (HU10.out.on HY.out.2)
      have HB11 := Lib.hid (HB10.out.then_ HY.out.2)
      clear HU10 HB10
      rcases obvT_cases x' with ⟨hm, h⟩ | ⟨hm, h2, h⟩ | ⟨hm, y', h2, h⟩
      · exact absurd HA2.out.may hm
      · obtain ⟨rfl, rfl⟩ : tNil = y ∧ 18 = m3 := by rw [HYM.out] at h; exact ⟨(Prod.mk.inj h).1.symm, (Prod.mk.inj h).2.symm⟩
        clear hm h h2
        go_wp2_with fail
        go_ret
        exact ⟨rfl, HB11.out⟩
      · obtain ⟨rfl, rfl⟩ : y' = y ∧ 0 = m3 := by rw [HYM.out] at h; exact ⟨(Prod.mk.inj h).1.symm, (Prod.mk.inj h).2.symm⟩
        have HS : Hid (sameT y' u' = true) := Lib.hid (by
          rw [obv_circle HM.out.1 HM.out.2 HM2.out h2]
          unfold sameT
          rw [HA.out.great, (eqT_iff u' u').2 rfl]
          rfl)
        have HWY := Lib.hid (obv_all hm HA2.out.wf h2)
        clear hm h h2
        obtain ⟨⟨u0, u1, u2, u3, u4, u5⟩, hlu⟩ := HU11.out.six
        obtain ⟨⟨y0, y1, y2, y3, y4, y5⟩, hly⟩ := HY.out.1.six
        go_wp2_with fail
        refine (sameV_any y' u' r10.s.p r10.s.c r10.a.p r10.a.c r10.k.p r10.k.c r.s.p r.s.c r.a.p r.a.c r.k.p r.k.c W10 HY.out.1.at_ HU11.out.at_ HWY.out.wf HA.out.wf).mono ?_
        rintro e w12 ⟨rfl, hb12⟩
        rw [HS.out]
        have HBF := Lib.hid (HB11.out.then_ hb12)
        clear hb12 u0 u1 u2 u3 u4 u5 hlu y0 y1 y2 y3 y4 y5 hly
        go_wp2_with fail
        go_ret
        exact ⟨rfl, HBF.out⟩
end Go.Proofs.YteohoodfcgfkeaaGreat
