/- The walk of InverseAll: it returns true. Condition: sizes within reach. -/
import Derived.Test.YtebiojmfieoncaaGreatTeBx
import Derived.Test.YtebiojmfieoncaaGreatTe1o
import Derived.Test.YtebiojmfieoncaaGreatTe1g
import Derived.Test.YtebiojmfieoncaaGreatTeLay
import Derived.Test.YtebiojmfieoncaaGreatTeMk
import Derived.StillTailTactics
namespace Go.Proofs.YtebiojmfieoncaaGreat
open Go.RowKit

theorem nil_wf : WfT tNil := by
  simp only [tNil, WfT, WfL]
  exact ⟨⟨by decide, by decide⟩, ⟨by decide, by decide⟩, fun x hx => (by cases hx), fun x hx => (by cases hx), by decide, by decide, by decide, by decide, trivial⟩
/-- what the obverse of a term answers is within reach, and not too great -/
theorem obvT_fine {t : Tm} (hwf : WfT t) : WfT (obvT t).1 ∧ greatT (obvT t).1 = false := by
  rcases obvT_cases t with ⟨_, h⟩ | ⟨_, _, h⟩ | ⟨hm, u, h1, h⟩
  · rw [h]; exact ⟨nil_wf, rfl⟩
  · rw [h]; exact ⟨nil_wf, rfl⟩
  · rw [h]
    have := obv_all hm hwf h1
    exact ⟨this.wf, this.great⟩
set_option maxRecDepth 100000 in
set_option maxHeartbeats 32000000 in
theorem inverseAll_any (X : Option Addr) (l : List Tm) (c : Nat) (w : World) (h : KidsAt w X l 0) (hwf : ∀ t ∈ l, WfT t) (hl : l.length * 104 ≤ 140737488351232) :
    Calls Tryz.prog 3 #[.slice X l.length c] w fun e w' => e = .returned (.bool true) ∧ Below w.heap.size w w' := by
  have HH := Lib.hid h
  have HWL := Lib.hid hwf
  obtain ⟨n, hn⟩ : ∃ n, n = l.length := ⟨_, rfl⟩
  rw [← hn] at hl ⊢
  have HN := Lib.hid hn
  clear h hwf hn
  go_enter Tryz.func3, Tryz.ntmps3
  go_wp2_with fail
  refine (begun17_any w).mono ?_
  rintro e w2 ⟨rfl, hb2⟩
  have HB2 := Lib.hid hb2
  clear hb2
  go_wp2_with fail
  go_loopw [3] (fun v W => ∃ i : Nat, i ≤ n ∧ v = .int .i64 i ∧ Hid (Below w.heap.size w W)) (fun v _ => n - (intOf v).toNat)
  case atStart => exact ⟨0, Nat.zero_le _, rfl, HB2⟩
  case round =>
    obtain ⟨i, hi, rfl, HI⟩ := hrel
    by_cases hlt : i < n
    · obtain ⟨t, ht⟩ : ∃ t, l[i]? = some t := ⟨_, List.getElem?_eq_getElem (by rw [← HN.out]; exact hlt)⟩
      obtain ⟨b, off, rfl, hp⟩ := (HH.out.on HI.out).get ht
      rw [Nat.zero_add] at hp
      have HWF := Lib.hid (HWL.out t (List.mem_of_getElem? ht))
      obtain ⟨A, ca, B, cb, K, ck, hltb, q0, q1, q2, q3, q4, q5, hat⟩ := hp.cells
      have PTF : Hid (∀ W, Below wr.heap.size wr W → W.cell? ⟨b, off + i * 6, none⟩ = some (.int .i64 t.kind) ∧ W.cell? ⟨b, off + i * 6 + 1, none⟩ = some (.string t.text) ∧ W.cell? ⟨b, off + i * 6 + 2, none⟩ = some (.int .i64 t.n) ∧ W.cell? ⟨b, off + i * 6 + 3, none⟩ = some (.slice A t.sh.length ca) ∧ W.cell? ⟨b, off + i * 6 + 4, none⟩ = some (.slice B t.at_.length cb) ∧ W.cell? ⟨b, off + i * 6 + 5, none⟩ = some (.slice K t.kids.length ck) ∧ b < W.heap.size ∧ TmAt W t A B K) := Lib.hid fun W h => by
        have key : ∀ j v, wr.cell? ⟨b, j, none⟩ = some v → W.cell? ⟨b, j, none⟩ = some v := fun j v hv => (h.cell (p := ⟨b, j, none⟩) hltb).trans hv
        exact ⟨key _ _ q0, key _ _ q1, key _ _ q2, key _ _ q3, key _ _ q4, key _ _ q5, Nat.lt_of_lt_of_le hltb h.size, hat.on h⟩
      have HUW := Lib.hid (obvT_fine HWF.out)
      have b1 : (0 : Int) ≤ (i : Int) := by omega
      have b2 : (i : Int) < (n : Int) := by omega
      clear ht hp hltb q0 q1 q2 q3 q4 q5 hat
      obtain ⟨p0, p1, p2, p3, p4, p5, pl, pt⟩ := PTF.out wr (Below.refl _ _)
      go_wp2_with fail
      refine (dOf_any dof_any t A ca B cb K ck wr pt HWF.out).mono ?_
      rintro e w4 ⟨P, p, Q, q, R, r, rfl, hu, hb4⟩
      have HU4 := Lib.hid hu
      have HB4 := Lib.hid hb4
      clear hu hb4 pt p0 p1 p2 p3 p4 p5 pl
      go_upto_region 7 with fail
      obtain ⟨W5, hW5⟩ : ∃ V, V = w4.alloc (.cells (tmCells (obvT t).1 P p Q q R r) TTm) := ⟨_, rfl⟩
      have hb5 : Below w4.heap.size w4 W5 := by rw [hW5]; exact (Below.refl _ _).alloc (Nat.le_refl _) _
      have HU5 : Hid (BoxAt W5 w4.heap.size (obvT t).1 P p Q q R r) := Lib.hid ⟨by rw [hW5]; exact heap_alloc_new w4 _, HU4.out.on hb5⟩
      have HB5 := Lib.hid (HB4.out.then_ hb5)
      rw [← hW5]
      clear hb5 hW5
      obtain ⟨p0, p1, p2, p3, p4, p5, pl, _⟩ := PTF.out W5 HB5.out
      obtain ⟨⟨u0, u1, u2, u3, u4, u5⟩, ul⟩ := HU5.out.six
      by_cases hc : (obvT t).2 = 2
      · have kc : ((obvT t).2 == 2) = true := by rw [hc]; rfl
        clear hc
        have pt := (PTF.out W5 HB5.out).2.2.2.2.2.2.2
        go_wp2_with fail
        refine (iof_any t A ca B cb K ck W5 pt HWF.out).mono ?_
        rintro e v6 ⟨r6, rfl, ho6, _, hb6⟩
        have HBv := Lib.hid (HB5.out.then_ hb6)
        have HUv := Lib.hid (HU5.out.on hb6)
        have HO6 := Lib.hid ho6
        clear pt hb6 ho6 p0 p1 p2 p3 p4 p5 pl u0 u1 u2 u3 u4 u5 ul
        go_upto_region 9 with fail
        obtain ⟨V, hV⟩ : ∃ V, V = v6.alloc (.cells #[.int .i64 (obvT t).1.kind, .string (obvT t).1.text, .int .i64 (obvT t).1.n, .slice r6.s.p r6.s.n r6.s.c, .slice r6.a.p r6.a.n r6.a.c, .slice r6.k.p r6.k.n r6.k.c] TTm) := ⟨_, rfl⟩
        have HT : Hid (BoxAt V v6.heap.size (obvT t).1 r6.s.p r6.s.c r6.a.p r6.a.c r6.k.p r6.k.c ∧ Below v6.heap.size v6 V) := Lib.hid (box_own hV HO6.out)
        rw [← hV]
        clear hV
        have HTB := Lib.hid HT.out.1
        have HUV := Lib.hid (HUv.out.on HT.out.2)
        have HBV := Lib.hid (HBv.out.then_ HT.out.2)
        obtain ⟨⟨t0, t1, t2, t3, t4, t5⟩, tl⟩ := HTB.out.six
        obtain ⟨⟨u0, u1, u2, u3, u4, u5⟩, ul⟩ := HUV.out.six
        go_wp2_with fail
        refine (eq_any (obvT t).1 r6.s.p r6.s.c r6.a.p r6.a.c r6.k.p r6.k.c P p Q q R r V HTB.out.at_ HUV.out.at_ HUW.out.1 HUW.out.2).mono ?_
        rintro e v8 ⟨rfl, hb8⟩
        have HB8 := Lib.hid (HI.out.then_ (HBV.out.then_ hb8))
        clear hb8 t0 t1 t2 t3 t4 t5 tl u0 u1 u2 u3 u4 u5 ul
        go_wp2_with fail
        exact ⟨⟨i + 1, by omega, by go_num, HB8⟩, by simp [intOf]; omega⟩
      · have kc : ((obvT t).2 == 2) = false := beq_no hc
        have HC := Lib.hid kc
        have pt := (PTF.out W5 HB5.out).2.2.2.2.2.2.2
        clear hc
        go_wp2_with fail
        refine (light_any t A ca B cb K ck W5 pt HWF.out).mono ?_
        rintro e w6 ⟨⟨bl, rfl, hbl⟩, hb6⟩
        have HB6 := Lib.hid (HB5.out.then_ hb6)
        have HU6 := Lib.hid (HU5.out.on hb6)
        clear pt hb6 p0 p1 p2 p3 p4 p5 pl u0 u1 u2 u3 u4 u5 ul
        obtain ⟨p0, p1, p2, p3, p4, p5, pl, _⟩ := PTF.out w6 HB6.out
        obtain ⟨⟨u0, u1, u2, u3, u4, u5⟩, ul⟩ := HU6.out.six
        cases bl
        · clear hbl
          have pt := (PTF.out w6 HB6.out).2.2.2.2.2.2.2
          go_wp2_with fail
          refine (iof_any t A ca B cb K ck w6 pt HWF.out).mono ?_
          rintro e v6 ⟨r6, rfl, ho6, _, hb6⟩
          have HBv := Lib.hid (HB6.out.then_ hb6)
          have HUv := Lib.hid (HU6.out.on hb6)
          have HO6 := Lib.hid ho6
          clear pt hb6 ho6 p0 p1 p2 p3 p4 p5 pl u0 u1 u2 u3 u4 u5 ul
          go_upto_region 9 with fail
          obtain ⟨V, hV⟩ : ∃ V, V = v6.alloc (.cells #[.int .i64 (obvT t).1.kind, .string (obvT t).1.text, .int .i64 (obvT t).1.n, .slice r6.s.p r6.s.n r6.s.c, .slice r6.a.p r6.a.n r6.a.c, .slice r6.k.p r6.k.n r6.k.c] TTm) := ⟨_, rfl⟩
          have HT : Hid (BoxAt V v6.heap.size (obvT t).1 r6.s.p r6.s.c r6.a.p r6.a.c r6.k.p r6.k.c ∧ Below v6.heap.size v6 V) := Lib.hid (box_own hV HO6.out)
          rw [← hV]
          clear hV
          have HTB := Lib.hid HT.out.1
          have HUV := Lib.hid (HUv.out.on HT.out.2)
          have HBV := Lib.hid (HBv.out.then_ HT.out.2)
          obtain ⟨⟨t0, t1, t2, t3, t4, t5⟩, tl⟩ := HTB.out.six
          obtain ⟨⟨u0, u1, u2, u3, u4, u5⟩, ul⟩ := HUV.out.six
          go_wp2_with fail
          refine (eq_any (obvT t).1 r6.s.p r6.s.c r6.a.p r6.a.c r6.k.p r6.k.c P p Q q R r V HTB.out.at_ HUV.out.at_ HUW.out.1 HUW.out.2).mono ?_
          rintro e v8 ⟨rfl, hb8⟩
          have HB8 := Lib.hid (HI.out.then_ (HBV.out.then_ hb8))
          clear hb8 t0 t1 t2 t3 t4 t5 tl u0 u1 u2 u3 u4 u5 ul
          go_wp2_with fail
          exact ⟨⟨i + 1, by omega, by go_num, HB8⟩, by simp [intOf]; omega⟩
        · have HGT := Lib.hid (hbl rfl)
          clear hbl
          have pt := (PTF.out w6 HB6.out).2.2.2.2.2.2.2
          go_wp2_with fail
          refine (lay_any (cnt t) t A ca B cb K ck w6 (Nat.le_refl _) pt HWF.out).mono ?_
          rintro e w7 ⟨x, rfl, hox, hmx, hnx, hb7⟩
          have HX7 := Lib.hid (And.intro hox (And.intro hmx (And.intro hnx hb7)))
          have HU7 := Lib.hid (HU6.out.on hb7)
          have HB7 := Lib.hid (HB6.out.then_ hb7)
          clear pt hox hmx hnx hb7 p0 p1 p2 p3 p4 p5 pl u0 u1 u2 u3 u4 u5 ul
          go_upto_region 12 with fail
          obtain ⟨W8, hW8⟩ : ∃ V, V = w7.alloc (.cells #[.int .i64 t.kind, .string t.text, .int .i64 t.n, .slice x.s.p x.s.n x.s.c, .slice x.a.p x.a.n x.a.c, .slice x.k.p x.k.n x.k.c] TTm) := ⟨_, rfl⟩
          have hbx := box_own hW8 HX7.out.1
          rw [← hW8]
          clear hW8
          have HXB := Lib.hid hbx.1
          have HX8 := Lib.hid hbx.2
          have HU8 := Lib.hid (HU7.out.on HX8.out)
          have HB8 := Lib.hid (HB7.out.then_ HX8.out)
          clear hbx
          obtain ⟨⟨x0, x1, x2, x3, x4, x5⟩, xl⟩ := HXB.out.six
          go_wp2_with fail
          refine (iof_any t x.s.p x.s.c x.a.p x.a.c x.k.p x.k.c W8 HXB.out.at_ HWF.out).mono ?_
          rintro e w9 ⟨r6, rfl, ho6, hn6, hb9⟩
          have HO6 := Lib.hid ho6
          have HX9 := Lib.hid (HX8.out.then_ hb9)
          have HXB9 := Lib.hid (HXB.out.on hb9)
          have HU9 := Lib.hid (HU8.out.on hb9)
          have HB9 := Lib.hid (HB8.out.then_ hb9)
          have HS9 : Hid (W8.heap.size ≤ w9.heap.size ∧ w7.heap.size < W8.heap.size) := Lib.hid ⟨hb9.size, heap_lt HXB.out.cells⟩
          clear ho6 hn6 hb9 x0 x1 x2 x3 x4 x5 xl
          go_upto_region 13 with fail
          obtain ⟨V, hV⟩ : ∃ V, V = w9.alloc (.cells #[.int .i64 (obvT t).1.kind, .string (obvT t).1.text, .int .i64 (obvT t).1.n, .slice r6.s.p r6.s.n r6.s.c, .slice r6.a.p r6.a.n r6.a.c, .slice r6.k.p r6.k.n r6.k.c] TTm) := ⟨_, rfl⟩
          have HT : Hid (BoxAt V w9.heap.size (obvT t).1 r6.s.p r6.s.c r6.a.p r6.a.c r6.k.p r6.k.c ∧ Below w9.heap.size w9 V) := Lib.hid (box_own hV HO6.out)
          have HOV : Hid (OwnT V W8.heap.size (obvT t).1 r6) := Lib.hid (HO6.out.on HT.out.2)
          have HCV : Hid (V.heap[w9.heap.size]? = some (.cells #[.int .i64 (obvT t).1.kind, .string (obvT t).1.text, .int .i64 (obvT t).1.n, .slice r6.s.p r6.s.n r6.s.c, .slice r6.a.p r6.a.n r6.a.c, .slice r6.k.p r6.k.n r6.k.c] TTm (0, 0))) := Lib.hid (by rw [hV]; exact heap_alloc_new w9 _)
          rw [← hV]
          clear hV
          have HXV := Lib.hid (HX9.out.then_ HT.out.2)
          have HXBV := Lib.hid (HXB9.out.on HT.out.2)
          have HUV := Lib.hid (HU9.out.on HT.out.2)
          have HBV := Lib.hid (HB9.out.then_ HT.out.2)
          obtain ⟨⟨x0, x1, x2, x3, x4, x5⟩, xl⟩ := HXBV.out.six
          obtain ⟨p0, p1, p2, p3, p4, p5, pl, pt⟩ := PTF.out V HBV.out
          have HOX := Lib.hid (HX7.out.1.on (HXV.out.drew))
          have HMX := Lib.hid (HX7.out.2.1.on (HXV.out.drew))
          have HPT := Lib.hid (pt.on (Below.refl _ _).drew)
          have HVX := Lib.hid (own_val HX7.out.1)
          clear pt
          go_still_tail 5, (by kernel_rfl)
          change wpList _ _ _ _ _ V.drew
          go_wp2_with fail
          have HKP : Hid (Calls Tryz.prog 17 #[tmVal t x.s.p x.s.c x.a.p x.a.c x.k.p x.k.c, tmVal t A ca B cb K ck] V.drew fun e w' => e = .returned (.bool true) ∧ Only V.drew w' (blksT x)) := Lib.hid (by
            rw [← HVX.out]
            exact kept_any t x A ca B cb K ck w6.heap.size V.drew HOX.out HX7.out.2.2.1 HMX.out HPT.out HWF.out HGT.out)
          refine HKP.out.mono ?_
          rintro e v8 ⟨rfl, ho8⟩
          have hge : ∀ g ∈ blksT x, w6.heap.size ≤ g ∧ g < w7.heap.size := HX7.out.1.blk
          have hbw : Below w6.heap.size V.drew v8 := ho8.below (fun g hg => (hge g hg).1) (Nat.le_trans HX7.out.2.2.2.size HXV.out.size)
          have HUL := Lib.hid (HU6.out.on ((HX7.out.2.2.2.then_ HXV.out).drew.trans hbw))
          have HBL := Lib.hid (HB6.out.then_ ((HX7.out.2.2.2.then_ HXV.out).drew.trans hbw))
          have HTL : Hid (BoxAt v8 w9.heap.size (obvT t).1 r6.s.p r6.s.c r6.a.p r6.a.c r6.k.p r6.k.c) := Lib.hid (by
            have h1 := HS9.out
            have hk : ∀ g, W8.heap.size ≤ g → g < V.heap.size → v8.heap[g]? = V.heap[g]? := fun g h2 h3 => ho8.block g h3 (fun e => by have := hge g e; omega)
            have ho := HOV.out.kept (w' := v8) fun g hg => hk g (HOV.out.blk g hg).1 (HOV.out.blk g hg).2
            exact ⟨(hk _ h1.1 (heap_lt HCV.out)).trans HT.out.1.cells, ho.read.1⟩)
          clear ho8 hge hbw x0 x1 x2 x3 x4 x5 xl p0 p1 p2 p3 p4 p5 pl
          obtain ⟨⟨t0, t1, t2, t3, t4, t5⟩, tl⟩ := HTL.out.six
          obtain ⟨⟨u0, u1, u2, u3, u4, u5⟩, ul⟩ := HUL.out.six
          go_wp2_with fail
          refine (eq_any (obvT t).1 r6.s.p r6.s.c r6.a.p r6.a.c r6.k.p r6.k.c P p Q q R r v8 HTL.out.at_ HUL.out.at_ HUW.out.1 HUW.out.2).mono ?_
          rintro e va ⟨rfl, hba⟩
          have HBA := Lib.hid (HI.out.then_ (HBL.out.then_ hba))
          clear hba t0 t1 t2 t3 t4 t5 tl u0 u1 u2 u3 u4 u5 ul
          go_wp2_with fail
          exact ⟨⟨i + 1, by omega, by go_num, HBA⟩, by simp [intOf]; omega⟩
    · obtain rfl : i = n := by omega
      clear hlt
      go_wp2_with fail
      go_ret
      exact ⟨rfl, HI.out⟩
end Go.Proofs.YtebiojmfieoncaaGreat

