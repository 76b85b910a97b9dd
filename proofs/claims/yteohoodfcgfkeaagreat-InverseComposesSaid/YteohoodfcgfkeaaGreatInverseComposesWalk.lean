/- The walk of InverseComposes: it returns true. Condition: sizes within reach. -/
import Derived.Test.YteohoodfcgfkeaaGreatInverseClosesWalk
namespace Go.Proofs.YteohoodfcgfkeaaGreat
open Go.RowKit

theorem may_two {k : Int} {u v : Tm} (hk : k = 29 ∨ k = 31 ∨ k = 46 ∨ k = 36) (hu : mayT u 3 = 0) (hv : mayT v 3 = 0) : mayT (tOf k [u, v]) 3 = if greatT (tOf k [u, v]) = true then 2 else 0 := by
  obtain ⟨g1, _, c1⟩ := may_good hu
  obtain ⟨g2, _, c2⟩ := may_good hv
  have hg : goodT false (tOf k [u, v]) = true := by
    rcases hk with rfl | rfl | rfl | rfl
    all_goals exact good_two (by decide) (by decide) (by decide) (by decide) (by decide) (by decide) (by decide) g1 g2 (fits_v.2 c1) (fits_v.2 c2)
  have hc : cls k = 3 := by rcases hk with rfl | rfl | rfl | rfl <;> decide
  unfold mayT
  rw [if_neg (by omega), hg, show cls (tOf k [u, v]).kind = 3 from hc]
  split
  · rfl
  · rfl
theorem great_two_same {k k' : Int} {u v u' v' : Tm} (h : greatT (tOf k [u, v]) = false) (h1 : cnt u' + cnt v' ≤ cnt u + cnt v) (h2 : max (dep u') (dep v') ≤ max (dep u) (dep v)) : greatT (tOf k' [u', v']) = false := by
  obtain ⟨_, h3, h4⟩ := size_small h
  rw [cnt_two] at h3
  rw [dep_two] at h4
  unfold greatT
  rw [cnt_two, dep_two]
  simp only [decide_eq_false_iff_not]
  omega
theorem obv_at {k : Int} {u v : Tm} (hk : k = 29 ∨ k = 31 ∨ k = 46) : obv (tOf k [u, v]) = (tOf 29 [(obv v).1, (obv u).1], (obv u).2 && (obv v).2) := by
  rw [obv_eq]
  rcases hk with rfl | rfl | rfl <;> rfl
theorem obv_obv {u v : Tm} : obv (tOf 36 [u, v]) = (tOf 36 [v, u], true) := by rw [obv_eq]; rfl
theorem obv_pow {u : Tm} {n : Int} : obv (tOf 41 [u, tNum n]) = if (obv u).2 = false ∨ n < 0 then (tNil, false) else (tOf 41 [(obv u).1, tNum n], true) := by
  rw [obv_eq]
  show (if (obv u).2 = false ∨ scalarB (tNum n) = false ∨ n < 0 then (tNil, false) else (tOf 41 [(obv u).1, tNum n], true)) = _
  have : scalarB (tNum n) = true := rfl
  simp [this]
theorem may_pow {u v : Tm} {n : Int} (hu : mayT u 3 = 0) (h : greatT (tOf 36 [u, v]) = false) : mayT (tOf 41 [u, tNum n]) 3 = 0 := by
  obtain ⟨g1, _, c1⟩ := may_good hu
  have hn : goodT false (tNum n) = true := by
    rw [goodT_node, Bool.and_eq_true]
    refine ⟨?_, rfl⟩
    show (!decide (cls 1 = 0) && (textB 1 [] && nB 1 0 && numB 1 [] [n]) && kidsB 1 [] && !(false && (decide ((1 : Int) = 2) || decide ((1 : Int) = 11)) && ([] : List UInt8) == [120])) = true
    rw [show numB 1 [] [n] = true by unfold numB; rw [if_pos rfl]; rfl, show textB 1 [] = true by decide +kernel, show nB 1 0 = true by decide +kernel, show kidsB 1 [] = true by decide +kernel, show decide (cls 1 = 0) = false by decide +kernel]
    rfl
  have hg : goodT false (tOf 41 [u, tNum n]) = true := good_two (by decide) (by decide) (by decide) (by decide) (by decide) (by decide) (by decide) g1 hn (fits_v.2 c1) (fits_o.2 rfl)
  have hgr : greatT (tOf 41 [u, tNum n]) = false := great_two_same h (by have := cnt_pos v; show cnt u + 1 ≤ _; omega) (by have := dep_pos v; show max (dep u) 1 ≤ _; omega)
  unfold mayT
  rw [if_neg (by omega), hgr, hg, if_neg (by decide), if_neg (by decide), if_neg (by show ¬ cls 41 ≠ 3; decide)]
theorem same_self {t : Tm} (h : greatT t = false) : sameT t t = true := by
  unfold sameT
  rw [h, (eqT_iff t t).2 rfl]
  rfl
abbrev twoCells (u v : Tm) (A : Option Addr) (ca : Nat) (B : Option Addr) (cb : Nat) (K : Option Addr) (ck : Nat) (A' : Option Addr) (ca' : Nat) (B' : Option Addr) (cb' : Nat) (K' : Option Addr) (ck' : Nat) : Array Value := #[.int .i64 u.kind, .string u.text, .int .i64 u.n, .slice A u.sh.length ca, .slice B u.at_.length cb, .slice K u.kids.length ck, .int .i64 v.kind, .string v.text, .int .i64 v.n, .slice A' v.sh.length ca', .slice B' v.at_.length cb', .slice K' v.kids.length ck']
abbrev ofCells (k : Int) (g : Nat) : Array Value := #[.int .i64 k, .string ⟨#[]⟩, .int .i64 0, .slice none 0 0, .slice none 0 0, .slice (some ⟨g, 0, none⟩) 2 2]
section
variable {w : World} {u v : Tm} {A B K A' B' K' : Option Addr} {ca cb ck ca' cb' ck' : Nat}
/-- a verb of two, its kids laid ahead of it -/
theorem box_two1 (k : Int) (hu : TmAt w u A B K) (hv : TmAt w v A' B' K') : BoxAt ((w.alloc (.cells (twoCells u v A ca B cb K ck A' ca' B' cb' K' ck') TTm)).alloc (.cells (ofCells k w.heap.size) TTm)).drew (w.heap.size + 1) (tOf k [u, v]) none 0 none 0 (some ⟨w.heap.size, 0, none⟩) 2 ∧
    Below w.heap.size w ((w.alloc (.cells (twoCells u v A ca B cb K ck A' ca' B' cb' K' ck') TTm)).alloc (.cells (ofCells k w.heap.size) TTm)).drew := by
  have hb : Below w.heap.size w ((w.alloc (.cells (twoCells u v A ca B cb K ck A' ca' B' cb' K' ck') TTm)).alloc (.cells (ofCells k w.heap.size) TTm)).drew := (((Below.refl _ _).alloc (Nat.le_refl _) _).alloc (by simp) _).drew
  refine ⟨⟨heap_new2 w _ _, two_at k (hu.on hb) (hv.on hb) ((Below.heap_alloc _ _ _ (by simp)).trans (heap_alloc_new w _))⟩, hb⟩
theorem box_two2 (k : Int) (hu : TmAt w u A B K) (hv : TmAt w v A' B' K') : BoxAt ((w.alloc (.cells (ofCells k (w.heap.size + 1)) TTm)).alloc (.cells (twoCells u v A ca B cb K ck A' ca' B' cb' K' ck') TTm)).drew w.heap.size (tOf k [u, v]) none 0 none 0 (some ⟨w.heap.size + 1, 0, none⟩) 2 ∧
    Below w.heap.size w ((w.alloc (.cells (ofCells k (w.heap.size + 1)) TTm)).alloc (.cells (twoCells u v A ca B cb K ck A' ca' B' cb' K' ck') TTm)).drew := by
  have hb : Below w.heap.size w ((w.alloc (.cells (ofCells k (w.heap.size + 1)) TTm)).alloc (.cells (twoCells u v A ca B cb K ck A' ca' B' cb' K' ck') TTm)).drew := (((Below.refl _ _).alloc (Nat.le_refl _) _).alloc (by simp) _).drew
  exact ⟨⟨(Below.heap_alloc _ _ _ (by simp)).trans (heap_alloc_new w _), two_at k (hu.on hb) (hv.on hb) (heap_new2 w _ _)⟩, hb⟩
/-- a verb of two whose kids are laid last -/
theorem two_new (k : Int) (hu : TmAt w u A B K) (hv : TmAt w v A' B' K') : TmAt (w.alloc (.cells (twoCells u v A ca B cb K ck A' ca' B' cb' K' ck') TTm)) (tOf k [u, v]) none none (some ⟨w.heap.size, 0, none⟩) ∧ Below w.heap.size w (w.alloc (.cells (twoCells u v A ca B cb K ck A' ca' B' cb' K' ck') TTm)) := by
  have hb : Below w.heap.size w (w.alloc (.cells (twoCells u v A ca B cb K ck A' ca' B' cb' K' ck') TTm)) := (Below.refl _ _).alloc (Nat.le_refl _) _
  exact ⟨two_at k (hu.on hb) (hv.on hb) (heap_alloc_new w _), hb⟩
end
theorem great_two {k k' : Int} {u v : Tm} : greatT (tOf k [u, v]) = greatT (tOf k' [u, v]) := by
  unfold greatT
  rw [cnt_two, cnt_two, dep_two, dep_two]
/-- what Of answers of a verb that may be: none, or its obverse -/
theorem obvT_may {t a : Tm} {e : Int} (hm : mayT t 3 = 0) (h : obvT t = (a, e)) : (e = 18 ∧ (obv t).2 = false) ∨ (e = 0 ∧ obv t = (a, true)) := by
  rcases obvT_cases t with ⟨h1, _⟩ | ⟨_, h2, h3⟩ | ⟨_, u, h2, h3⟩
  · exact absurd hm h1
  · rw [h3] at h
    exact .inl ⟨(Prod.mk.inj h).2.symm, h2⟩
  · rw [h3] at h
    obtain ⟨rfl, rfl⟩ := Prod.mk.inj h
    exact .inr ⟨rfl, h2⟩
/-- a term in memory of its own that is stored into a block -/
theorem box_six {w W : World} {t : Tm} {r : Rt} {g B : Nat} {a0 a1 a2 a3 a4 a5 : Value} (hz : W.heap[g]? = some (.cells #[a0, a1, a2, a3, a4, a5] TTm (0, 0))) (ho : OwnT W B t r) (hB : g < B) (hb : Below w.heap.size w W) (hg : w.heap.size ≤ g) :
    BoxAt ((((((W.setCell ⟨g, 0, none⟩ (.int .i64 t.kind)).setCell ⟨g, 1, none⟩ (.string t.text)).setCell ⟨g, 2, none⟩ (.int .i64 t.n)).setCell ⟨g, 3, none⟩ (.slice r.s.p r.s.n r.s.c)).setCell ⟨g, 4, none⟩ (.slice r.a.p r.a.n r.a.c)).setCell ⟨g, 5, none⟩ (.slice r.k.p r.k.n r.k.c)) g t r.s.p r.s.c r.a.p r.a.c r.k.p r.k.c ∧
    Below w.heap.size w ((((((W.setCell ⟨g, 0, none⟩ (.int .i64 t.kind)).setCell ⟨g, 1, none⟩ (.string t.text)).setCell ⟨g, 2, none⟩ (.int .i64 t.n)).setCell ⟨g, 3, none⟩ (.slice r.s.p r.s.n r.s.c)).setCell ⟨g, 4, none⟩ (.slice r.a.p r.a.n r.a.c)).setCell ⟨g, 5, none⟩ (.slice r.k.p r.k.n r.k.c)) := by
  obtain ⟨e1, e2, e3⟩ := six (.int .i64 t.kind) (.string t.text) (.int .i64 t.n) (.slice r.s.p r.s.n r.s.c) (.slice r.a.p r.a.n r.a.c) (.slice r.k.p r.k.n r.k.c) hz hb hg
  obtain ⟨hta, f1, f2, f3⟩ := (ho.kept fun b hb' => e2 b (by have := (ho.blk b hb').1; omega)).read
  refine ⟨⟨?_, hta⟩, e3⟩
  rw [e1, f1, f2, f3]
theorem two_new' {w X : World} {u v : Tm} {A B K A' B' K' : Option Addr} {ca cb ck ca' cb' ck' g : Nat} (k : Int) (hb : Below w.heap.size w X) (hg : X.heap.size = g) (hu : TmAt w u A B K) (hv : TmAt w v A' B' K') :
    TmAt (X.alloc (.cells (twoCells u v A ca B cb K ck A' ca' B' cb' K' ck') TTm)) (tOf k [u, v]) none none (some ⟨g, 0, none⟩) := by
  subst hg
  exact (two_new k (hu.on hb) (hv.on hb)).1
set_option maxRecDepth 100000 in
set_option maxHeartbeats 64000000 in
theorem inverseComposes_any (u v : Tm) (A : Option Addr) (ca : Nat) (B : Option Addr) (cb : Nat) (K : Option Addr) (ck : Nat) (A' : Option Addr) (ca' : Nat) (B' : Option Addr) (cb' : Nat) (K' : Option Addr) (ck' : Nat) (n : Int) (w : World) (hat : TmAt w u A B K) (hat' : TmAt w v A' B' K') (hwf : WfT u) (hwf' : WfT v) (hn : In64 n) :
    Calls Tryz.prog 12 #[tmVal u A ca B cb K ck, tmVal v A' ca' B' cb' K' ck', .int .i64 n] w fun e w' => e = .returned (.bool true) ∧ Below w.heap.size w w' := by
  obtain ⟨W1, hW1⟩ : ∃ W1, W1 = (w.alloc (.cells (tmCells u A ca B cb K ck) TTm)).alloc (.cells (tmCells v A' ca' B' cb' K' ck') TTm) := ⟨_, rfl⟩
  have hb0 : Below w.heap.size w (w.alloc (.cells (tmCells u A ca B cb K ck) TTm)) := (Below.refl _ _).alloc (Nat.le_refl _) _
  have hb1 : Below w.heap.size w W1 := by rw [hW1]; exact hb0.alloc hb0.size _
  have hc1 : W1.heap[w.heap.size]? = some (.cells (tmCells u A ca B cb K ck) TTm (0, 0)) := by rw [hW1]; exact (Below.heap_alloc _ _ _ (by simp)).trans (heap_alloc_new w _)
  have hc2 : W1.heap[w.heap.size + 1]? = some (.cells (tmCells v A' ca' B' cb' K' ck') TTm (0, 0)) := by rw [hW1]; exact heap_new2 _ _ _
  have HB1 := Lib.hid hb1
  have HU1 : Hid (BoxAt W1 w.heap.size u A ca B cb K ck) := Lib.hid ⟨hc1, hat.on hb1⟩
  have HV1 : Hid (BoxAt W1 (w.heap.size + 1) v A' ca' B' cb' K' ck') := Lib.hid ⟨hc2, hat'.on hb1⟩
  have HWF := Lib.hid (And.intro hwf (And.intro hwf' hn))
  have HW1 := Lib.hid hW1
  obtain ⟨n1, n2⟩ := hn
  clear hat hat' hwf hwf' hb0 hb1 hc1 hc2 hW1
  go_enter Tryz.func12, Tryz.ntmps12
  go_wp2_with fail
  rw [← HW1.out]
  refine (begun17_any W1).mono ?_
  rintro e w2 ⟨rfl, hb2⟩
  have HB2 := Lib.hid hb2
  clear hb2
  obtain ⟨⟨u0, u1, u2, u3, u4, u5⟩, ul⟩ := (HU1.out.on HB2.out).six
  go_wp2_with fail
  refine (may_any u A ca B cb K ck 3 w2 (HU1.out.on HB2.out).at_ HWF.out.1).mono ?_
  rintro e w3 ⟨rfl, hb3⟩
  have HB3 := Lib.hid (HB2.out.then_ hb3)
  clear hb3 u0 u1 u2 u3 u4 u5 ul
  by_cases hmu : mayT u 3 = 0
  · by_cases hmv : mayT v 3 = 0
    · have HMU := Lib.hid hmu
      have HMV := Lib.hid hmv
      rw [hmu]
      clear hmu hmv
      obtain ⟨⟨v0, v1, v2, v3, v4, v5⟩, vl⟩ := (HV1.out.on HB3.out).six
      go_wp2_with fail
      refine (may_any v A' ca' B' cb' K' ck' 3 w3 (HV1.out.on HB3.out).at_ HWF.out.2.1).mono ?_
      rintro e w4 ⟨rfl, hb4⟩
      rw [HMV.out]
      have HB4 := Lib.hid (HB3.out.then_ hb4)
      clear hb4 v0 v1 v2 v3 v4 v5 vl
      obtain ⟨⟨u0, u1, u2, u3, u4, u5⟩, ul⟩ := (HU1.out.on HB4.out).six
      go_wp2_with fail
      refine (iof_any u A ca B cb K ck w4 (HU1.out.on HB4.out).at_ HWF.out.1).mono ?_
      clear u0 u1 u2 u3 u4 u5 ul
      obtain ⟨a, e1, hae⟩ : ∃ a e1, obvT u = (a, e1) := ⟨_, _, rfl⟩
      rw [hae]
      rintro e w5 ⟨ra, rfl, ho5, _, hb5⟩
      have HAE := Lib.hid hae
      have HOA := Lib.hid ho5
      have HB5 := Lib.hid (HB4.out.then_ hb5)
      clear hae ho5 hb5
      go_upto_region 6 with fail
      obtain ⟨W5, hW5⟩ : ∃ W5, W5 = w5.alloc (.cells #[.int .i64 a.kind, .string a.text, .int .i64 a.n, .slice ra.s.p ra.s.n ra.s.c, .slice ra.a.p ra.a.n ra.a.c, .slice ra.k.p ra.k.n ra.k.c] TTm) := ⟨_, rfl⟩
      have HA5 : Hid (BoxAt W5 w5.heap.size a ra.s.p ra.s.c ra.a.p ra.a.c ra.k.p ra.k.c ∧ Below w5.heap.size w5 W5) := Lib.hid (box_own hW5 HOA.out)
      have HW5 := Lib.hid hW5
      clear hW5
      refine HW5.out ▸ ?_
      have HB5' := Lib.hid (HB5.out.then_ HA5.out.2)
      obtain ⟨⟨v0, v1, v2, v3, v4, v5⟩, vl⟩ := (HV1.out.on HB5'.out).six
      go_wp2_with fail
      refine (iof_any v A' ca' B' cb' K' ck' W5 (HV1.out.on HB5'.out).at_ HWF.out.2.1).mono ?_
      clear v0 v1 v2 v3 v4 v5 vl
      obtain ⟨b, e2, hbe⟩ : ∃ b e2, obvT v = (b, e2) := ⟨_, _, rfl⟩
      rw [hbe]
      rintro e w6 ⟨rb, rfl, ho6, _, hb6⟩
      have HBE := Lib.hid hbe
      have HOB := Lib.hid ho6
      have HB6 := Lib.hid hb6
      clear hbe ho6 hb6
      go_upto_region 7 with fail
      obtain ⟨W6, hW6⟩ : ∃ W6, W6 = w6.alloc (.cells #[.int .i64 b.kind, .string b.text, .int .i64 b.n, .slice rb.s.p rb.s.n rb.s.c, .slice rb.a.p rb.a.n rb.a.c, .slice rb.k.p rb.k.n rb.k.c] TTm) := ⟨_, rfl⟩
      have HB6b : Hid (BoxAt W6 w6.heap.size b rb.s.p rb.s.c rb.a.p rb.a.c rb.k.p rb.k.c ∧ Below w6.heap.size w6 W6) := Lib.hid (box_own hW6 HOB.out)
      have HW6 := Lib.hid hW6
      clear hW6
      refine HW6.out ▸ ?_
      have HA6 := Lib.hid (HA5.out.1.on (HB6.out.then_ HB6b.out.2))
      have HB6' := Lib.hid (HB5'.out.then_ (HB6.out.then_ HB6b.out.2))
      have HE1 := Lib.hid (obvT_may HMU.out HAE.out)
      have HE2 := Lib.hid (obvT_may HMV.out HBE.out)
      go_upto_region 8 with fail
      obtain ⟨W7, hW7⟩ : ∃ W7, W7 = W6.alloc (.cells #[.int .i64 29, .int .i64 31, .int .i64 46] 62) := ⟨_, rfl⟩
      have hb7 : Below W6.heap.size W6 W7 := by rw [hW7]; exact (Below.refl _ _).alloc (Nat.le_refl _) _
      have hx7 : W7.heap[W6.heap.size]? = some (.cells #[.int .i64 29, .int .i64 31, .int .i64 46] 62 (0, 0)) := by rw [hW7]; exact heap_alloc_new W6 _
      have HW7 := Lib.hid hW7
      have HK7 := Lib.hid hx7
      have HA7 := Lib.hid (HA6.out.on hb7)
      have HB7 := Lib.hid (HB6b.out.1.on hb7)
      have HL7 := Lib.hid (HB6'.out.then_ hb7)
      have HU7 := Lib.hid (HU1.out.on HL7.out)
      have HV7 := Lib.hid (HV1.out.on HL7.out)
      clear hW7 hb7 hx7
      refine HW7.out ▸ ?_
      go_wp2_with fail
      go_loopw [12] (fun v12 W => ∃ i : Nat, i ≤ 3 ∧ v12 = .int .i64 i ∧ Hid (Below W7.heap.size W7 W ∧ (0 < i → greatT (tOf 36 [u, v]) = false))) (fun v12 _ => 3 - (intOf v12).toNat)
      case atStart => exact ⟨0, Nat.zero_le _, rfl, Lib.hid ⟨Below.refl _ _, fun h => absurd h (Nat.lt_irrefl _)⟩⟩
      case round =>
        obtain ⟨i, hi, rfl, HI⟩ := hrel
        have HLR := Lib.hid (HL7.out.then_ HI.out.1)
        have HUR := Lib.hid (HU7.out.on HI.out.1)
        have HVR := Lib.hid (HV7.out.on HI.out.1)
        by_cases hlt : i < 3
        · obtain ⟨k, hk, hck⟩ : ∃ k : Int, (k = 29 ∨ k = 31 ∨ k = 46) ∧ (#[Value.int .i64 29, .int .i64 31, .int .i64 46] : Array Value)[i]? = some (.int .i64 k) := by
            match i, hlt with
            | 0, _ => exact ⟨29, .inl rfl, rfl⟩
            | 1, _ => exact ⟨31, .inr (.inl rfl), rfl⟩
            | 2, _ => exact ⟨46, .inr (.inr rfl), rfl⟩
          have ck7 := cell_at ((HI.out.1.block _ (heap_lt HK7.out)).trans HK7.out) hck
          have hl7 : W6.heap.size < wr.heap.size := Nat.lt_of_lt_of_le (heap_lt HK7.out) HI.out.1.size
          have q1 : (0 : Int) ≤ (i : Int) := by omega
          have q2 : (i : Int) < 3 := by omega
          have HKK := Lib.hid hk
          clear hk hck
          obtain ⟨⟨u0, u1, u2, u3, u4, u5⟩, ul⟩ := HUR.out.six
          obtain ⟨⟨v0, v1, v2, v3, v4, v5⟩, vl⟩ := HVR.out.six
          have HRR : Hid (∀ W, wr.heap.size ≤ wr.heap.size → Below wr.heap.size wr W → BoxAt W w.heap.size u A ca B cb K ck ∧ BoxAt W (w.heap.size + 1) v A' ca' B' cb' K' ck') := Lib.hid fun W _ h => ⟨HUR.out.on h, HVR.out.on h⟩
          go_upto_region 11 with fail
          go_cut [13] from 45 to 81 (fun v13 wx => ∃ gT gK : Nat, v13 = .pointer (some ⟨gT, 0, none⟩) ∧ Hid (BoxAt wx gT (tOf k [u, v]) none 0 none 0 (some ⟨gK, 0, none⟩) 2 ∧ Below wr.heap.size wr wx))
          case first =>
            go_region
            all_goals
              go_wp2_with fail
              go_meet
              case rel =>
                first
                  | exact ⟨_, _, rfl, Lib.hid (box_two1 k HUR.out.at_ HVR.out.at_)⟩
                  | exact ⟨_, _, rfl, Lib.hid (box_two2 k HUR.out.at_ HVR.out.at_)⟩
          obtain ⟨gT, gK, rfl, HC⟩ := hcut
          clear u0 u1 u2 u3 u4 u5 ul v0 v1 v2 v3 v4 v5 vl ck7 hl7 q1 q2
          obtain ⟨⟨t0, t1, t2, t3, t4, t5⟩, tl⟩ := HC.out.1.six
          have HWT : Hid (WfT (tOf k [u, v])) := Lib.hid (wf_tOf (by rcases HKK.out with rfl | rfl | rfl <;> exact ⟨by decide, by decide⟩) HWF.out.1 HWF.out.2.1)
          have HBC := Lib.hid (HI.out.1.then_ HC.out.2)
          go_wp2_with fail
          refine (may_any (tOf k [u, v]) none 0 none 0 (some ⟨gK, 0, none⟩) 2 3 wc HC.out.1.at_ HWT.out).mono ?_
          rintro e w8 ⟨rfl, hb8⟩
          rw [may_two (by have := HKK.out; omega) HMU.out HMV.out]
          have HC8 := Lib.hid (HC.out.1.on hb8)
          have HB8 := Lib.hid (HBC.out.then_ hb8)
          clear hb8 t0 t1 t2 t3 t4 t5 tl
          by_cases hgr : greatT (tOf k [u, v]) = true
          · rw [if_pos hgr]
            clear hgr
            go_wp2_with fail
            go_ret
            exact ⟨rfl, HB1.out.then_ (HL7.out.then_ HB8.out)⟩
          · rw [if_neg hgr]
            have HGR : Hid (greatT (tOf k [u, v]) = false) := Lib.hid (by simpa using hgr)
            have HG36 : Hid (greatT (tOf 36 [u, v]) = false) := Lib.hid (by rw [great_two (k' := k)]; exact HGR.out)
            have HM8 : Hid (mayT (tOf k [u, v]) 3 = 0) := Lib.hid (by rw [may_two (by have := HKK.out; omega) HMU.out HMV.out, if_neg hgr])
            clear hgr
            obtain ⟨⟨t0, t1, t2, t3, t4, t5⟩, tl⟩ := HC8.out.six
            go_wp2_with fail
            refine (iof_any (tOf k [u, v]) none 0 none 0 (some ⟨gK, 0, none⟩) 2 w8 HC8.out.at_ HWT.out).mono ?_
            clear t0 t1 t2 t3 t4 t5 tl
            have hcs : (e1 = 18 ∧ obvT (tOf k [u, v]) = (tNil, 18)) ∨ (e1 = 0 ∧ e2 = 18 ∧ obvT (tOf k [u, v]) = (tNil, 18)) ∨ (e1 = 0 ∧ e2 = 0 ∧ obvT (tOf k [u, v]) = (tOf 29 [b, a], 0)) := by
              unfold obvT
              rw [HM8.out, if_neg (by decide), obv_at HKK.out]
              rcases HE1.out with ⟨h1, h2⟩ | ⟨h1, h2⟩
              · exact .inl ⟨h1, by rw [h2]; rfl⟩
              · rcases HE2.out with ⟨h3, h4⟩ | ⟨h3, h4⟩
                · exact .inr (.inl ⟨h1, h3, by rw [h4, Bool.and_false]; rfl⟩)
                · exact .inr (.inr ⟨h1, h3, by rw [h2, h4]; rfl⟩)
            rcases hcs with ⟨h1, h3⟩ | ⟨h1, h2, h3⟩ | ⟨h1, h2, h3⟩
            · rw [h3]
              have d1 : (e1 == 0) = false := beq_no (by omega)
              clear h1 h3
              rintro e w9 ⟨r9, rfl, _, _, hb9⟩
              have HB9 := Lib.hid (HB8.out.then_ hb9)
              clear hb9
              go_wp2_with fail
              exact ⟨⟨i + 1, by omega, by go_num, Lib.hid ⟨HB9.out.alloc HB9.out.size _, fun _ => HG36.out⟩⟩, by simp [intOf]; omega⟩
            · rw [h3]
              have d1 : (e1 == 0) = true := beq_yes h1
              have d2 : (e2 == 0) = false := beq_no (by omega)
              clear h1 h2 h3
              rintro e w9 ⟨r9, rfl, _, _, hb9⟩
              have HB9 := Lib.hid (HB8.out.then_ hb9)
              clear hb9
              go_wp2_with fail
              exact ⟨⟨i + 1, by omega, by go_num, Lib.hid ⟨HB9.out.alloc HB9.out.size _, fun _ => HG36.out⟩⟩, by simp [intOf]; omega⟩
            · have HBA : Hid (greatT (tOf 29 [b, a]) = false ∧ WfT (tOf 29 [b, a])) := Lib.hid (by
                rcases HE1.out with ⟨h, _⟩ | ⟨_, g1⟩
                · omega
                rcases HE2.out with ⟨h, _⟩ | ⟨_, g2⟩
                · omega
                have o1 := obv_all HMU.out HWF.out.1 g1
                have o2 := obv_all HMV.out HWF.out.2.1 g2
                exact ⟨great_two_same HGR.out (by have := o1.cnt; have := o2.cnt; omega) (by have := o1.dep; have := o2.dep; omega), wf_tOf ⟨by decide, by decide⟩ o2.wf o1.wf⟩)
              have d1 : (e1 == 0) = true := beq_yes h1
              have d2 : (e2 == 0) = true := beq_yes h2
              rw [h3]
              clear h1 h2 h3
              rintro e w9 ⟨r9, rfl, ho9, _, hb9⟩
              have HO9 := Lib.hid ho9
              have HB9 := Lib.hid (HB8.out.then_ hb9)
              clear ho9 hb9
              go_upto_region 15 with fail
              obtain ⟨W9, hW9⟩ : ∃ W9, W9 = w9.alloc (.cells #[.int .i64 (tOf 29 [b, a]).kind, .string (tOf 29 [b, a]).text, .int .i64 (tOf 29 [b, a]).n, .slice r9.s.p r9.s.n r9.s.c, .slice r9.a.p r9.a.n r9.a.c, .slice r9.k.p r9.k.n r9.k.c] TTm) := ⟨_, rfl⟩
              have HX9 : Hid (BoxAt W9 w9.heap.size (tOf 29 [b, a]) r9.s.p r9.s.c r9.a.p r9.a.c r9.k.p r9.k.c ∧ Below w9.heap.size w9 W9) := Lib.hid (box_own hW9 HO9.out)
              have HW9 := Lib.hid hW9
              clear hW9
              refine HW9.out ▸ ?_
              have HL9 := Lib.hid (HB9.out.then_ HX9.out.2)
              have HA9 := Lib.hid (HA7.out.on HL9.out)
              have HBB9 := Lib.hid (HB7.out.on HL9.out)
              obtain ⟨⟨x0, x1, x2, x3, x4, x5⟩, xl⟩ := HX9.out.1.six
              obtain ⟨⟨a0, a1, a2, a3, a4, a5⟩, al⟩ := HA9.out.six
              obtain ⟨⟨b0, b1, b2, b3, b4, b5⟩, bl⟩ := HBB9.out.six
              go_wp2_with fail
              have H29 := Lib.hid (two_new (ca := rb.s.c) (cb := rb.a.c) (ck := rb.k.c) (ca' := ra.s.c) (cb' := ra.a.c) (ck' := ra.k.c) 29 HBB9.out.at_ HA9.out.at_)
              have HSM : Hid (sameT (tOf 29 [b, a]) (tOf 29 [b, a]) = true) := Lib.hid (same_self HBA.out.1)
              refine (sameV_any (tOf 29 [b, a]) (tOf 29 [b, a]) r9.s.p r9.s.c r9.a.p r9.a.c r9.k.p r9.k.c none 0 none 0 (some ⟨W9.heap.size, 0, none⟩) 2 _ (HX9.out.1.at_.on H29.out.2) H29.out.1 HBA.out.2 HBA.out.2).mono ?_
              rintro e w10 ⟨rfl, hb10⟩
              rw [HSM.out]
              have HB10 := Lib.hid (HL9.out.then_ (H29.out.2.then_ hb10))
              clear hb10 x0 x1 x2 x3 x4 x5 xl a0 a1 a2 a3 a4 a5 al b0 b1 b2 b3 b4 b5 bl
              go_wp2_with fail
              exact ⟨⟨i + 1, by omega, by go_num, Lib.hid ⟨HB10.out, fun _ => HG36.out⟩⟩, by simp [intOf]; omega⟩
        · obtain rfl : i = 3 := by omega
          have HG36 := Lib.hid (HI.out.2 (by omega))
          have HM36 : Hid (mayT (tOf 36 [u, v]) 3 = 0) := Lib.hid (by rw [may_two (by omega) HMU.out HMV.out, HG36.out]; rfl)
          have HO36 : Hid (obvT (tOf 36 [u, v]) = (tOf 36 [v, u], 0)) := Lib.hid (by unfold obvT; rw [HM36.out, if_neg (by decide), obv_obv]; rfl)
          have HG36' : Hid (greatT (tOf 36 [v, u]) = false) := Lib.hid (great_two_same HG36.out (by omega) (by omega))
          have HW36 : Hid (WfT (tOf 36 [u, v]) ∧ WfT (tOf 36 [v, u])) := Lib.hid ⟨wf_tOf ⟨by decide, by decide⟩ HWF.out.1 HWF.out.2.1, wf_tOf ⟨by decide, by decide⟩ HWF.out.2.1 HWF.out.1⟩
          obtain ⟨⟨u0, u1, u2, u3, u4, u5⟩, ul⟩ := HUR.out.six
          obtain ⟨⟨v0, v1, v2, v3, v4, v5⟩, vl⟩ := HVR.out.six
          go_wp2_with fail
          have H36 := Lib.hid (two_new 36 (ca := ca) (cb := cb) (ck := ck) (ca' := ca') (cb' := cb') (ck' := ck') HUR.out.at_ HVR.out.at_)
          refine (iof_any (tOf 36 [u, v]) none 0 none 0 (some ⟨wr.heap.size, 0, none⟩) 2 _ H36.out.1 HW36.out.1).mono ?_
          clear u0 u1 u2 u3 u4 u5 ul v0 v1 v2 v3 v4 v5 vl
          rw [HO36.out]
          rintro e w10 ⟨r10, rfl, ho10, _, hb10⟩
          have HO10 := Lib.hid ho10
          have HB10 := Lib.hid (H36.out.2.then_ hb10)
          clear ho10 hb10
          go_upto_region 18 with fail
          obtain ⟨W10, hW10⟩ : ∃ W10, W10 = w10.alloc (.cells #[.int .i64 (tOf 36 [v, u]).kind, .string (tOf 36 [v, u]).text, .int .i64 (tOf 36 [v, u]).n, .slice r10.s.p r10.s.n r10.s.c, .slice r10.a.p r10.a.n r10.a.c, .slice r10.k.p r10.k.n r10.k.c] TTm) := ⟨_, rfl⟩
          have HX10 : Hid (BoxAt W10 w10.heap.size (tOf 36 [v, u]) r10.s.p r10.s.c r10.a.p r10.a.c r10.k.p r10.k.c ∧ Below w10.heap.size w10 W10) := Lib.hid (box_own hW10 HO10.out)
          have HW10 := Lib.hid hW10
          clear hW10
          refine HW10.out ▸ ?_
          have HL10 := Lib.hid (HB10.out.then_ HX10.out.2)
          have HU10 := Lib.hid (HUR.out.on HL10.out)
          have HV10 := Lib.hid (HVR.out.on HL10.out)
          obtain ⟨⟨x0, x1, x2, x3, x4, x5⟩, xl⟩ := HX10.out.1.six
          obtain ⟨⟨u0, u1, u2, u3, u4, u5⟩, ul⟩ := HU10.out.six
          obtain ⟨⟨v0, v1, v2, v3, v4, v5⟩, vl⟩ := HV10.out.six
          go_wp2_with fail
          have H37 := Lib.hid (two_new 36 (ca := ca') (cb := cb') (ck := ck') (ca' := ca) (cb' := cb) (ck' := ck) HV10.out.at_ HU10.out.at_)
          have HSM : Hid (sameT (tOf 36 [v, u]) (tOf 36 [v, u]) = true) := Lib.hid (same_self HG36'.out)
          refine (sameV_any (tOf 36 [v, u]) (tOf 36 [v, u]) r10.s.p r10.s.c r10.a.p r10.a.c r10.k.p r10.k.c none 0 none 0 (some ⟨W10.heap.size, 0, none⟩) 2 _ (HX10.out.1.at_.on H37.out.2) H37.out.1 HW36.out.2 HW36.out.2).mono ?_
          rintro e w11 ⟨rfl, hb11⟩
          rw [HSM.out]
          have HB11 := Lib.hid (HI.out.1.then_ (HL10.out.then_ (H37.out.2.then_ hb11)))
          clear hb11 x0 x1 x2 x3 x4 x5 xl u0 u1 u2 u3 u4 u5 ul v0 v1 v2 v3 v4 v5 vl
          have HU11 := Lib.hid (HU7.out.on HB11.out)
          have HA11 := Lib.hid (HA7.out.on HB11.out)
          obtain ⟨p, m4, hpm⟩ : ∃ p m4, obvT (tOf 41 [u, tNum n]) = (p, m4) := ⟨_, _, rfl⟩
          have HPM := Lib.hid hpm
          have HM41 : Hid (mayT (tOf 41 [u, tNum n]) 3 = 0) := Lib.hid (may_pow HMU.out HG36.out)
          have HW41 : Hid (WfT (tOf 41 [u, tNum n])) := Lib.hid (wf_tOf ⟨by decide, by decide⟩ HWF.out.1 (num_wf HWF.out.2.2))
          have IOF : Hid (∀ (K2 : Nat) (W : World), TmAt W (tOf 41 [u, tNum n]) none none (some ⟨K2, 0, none⟩) → Calls Tryz.prog 35 #[.agg #[.int .i64 41, .string ⟨#[]⟩, .int .i64 0, .slice none 0 0, .slice none 0 0, .slice (some ⟨K2, 0, none⟩) 2 2]] W (TnPost p m4 W)) := Lib.hid fun K2 W h => by
            have h1 := iof_any (tOf 41 [u, tNum n]) none 0 none 0 (some ⟨K2, 0, none⟩) 2 W h HW41.out
            rw [hpm] at h1
            exact h1
          clear hpm
          obtain ⟨⟨u0, u1, u2, u3, u4, u5⟩, ul⟩ := HU11.out.six
          go_upto_region 20 with fail
          go_cut [18, 19] from 101 to 109 (fun v18 v19 wx => ∃ (g18 : Nat) (rp : Rt), v18 = .pointer (some ⟨g18, 0, none⟩) ∧ v19 = .int .i64 m4 ∧ Hid (BoxAt wx g18 p rp.s.p rp.s.c rp.a.p rp.a.c rp.k.p rp.k.c ∧ Below w11.heap.size w11 wx))
          case first =>
            go_region_law (first
              | (go_simp; go_at_call 36; refine (number_any n _).mono ?_; rintro e w12 ⟨g12, rfl, hg12, hn12, hb12⟩; have HB12 : Hid (Below w11.heap.size w11 w12) := Lib.hid (by first | exact (Below.refl _ _).drew.then_ hb12 | exact (((Below.refl _ _).alloc (Nat.le_refl _) _).drew).then_ hb12); obtain ⟨⟨u0, u1, u2, u3, u4, u5⟩, ul⟩ := (HU11.out.on HB12.out).six; (try have HZ12 : Hid (w12.heap[w11.heap.size]? = some (.cells tm0 TTm (0, 0))) := Lib.hid ((hb12.block w11.heap.size (by simp)).trans (heap_alloc_new w11 _))); have H12 := Lib.hid hn12; clear hg12 hn12 hb12)
              | (go_simp; go_at_call 35; refine (IOF.out _ _ (by first | exact two_new' 41 (Below.refl _ _) rfl (HU11.out.on HB12.out).at_ H12.out.tm | exact two_new' 41 ((Below.refl _ _).alloc (Nat.le_refl _) _) (by simp) (HU11.out.on HB12.out).at_ H12.out.tm | exact (two_new' 41 (Below.refl _ _) rfl (HU11.out.on HB12.out).at_ H12.out.tm).on ((Below.refl _ _).alloc (Nat.le_refl _) _))).mono ?_; rintro e w13 ⟨r13, rfl, ho13, _, hb13⟩; have HB13 : Hid (Below w12.heap.size w12 w13) := Lib.hid (by first | exact ((Below.refl _ _).alloc (Nat.le_refl _) _).then_ hb13 | exact (((Below.refl _ _).alloc (Nat.le_refl _) _).alloc (by simp) _).then_ hb13); have HO13 : Hid (OwnT w13 (w12.heap.size + 1) p r13) := Lib.hid (ho13.mono (by simp)); (try (have hz13 := (HB13.out.block _ (heap_lt HZ12.out)).trans HZ12.out; have fz := unfrozen hz13; have z0 := cell_at hz13 (j := 0) rfl; have z1 := cell_at hz13 (j := 1) rfl; have z2 := cell_at hz13 (j := 2) rfl; have z3 := cell_at hz13 (j := 3) rfl; have z4 := cell_at hz13 (j := 4) rfl; have z5 := cell_at hz13 (j := 5) rfl; have hlz := heap_lt hz13; have HZ13 := Lib.hid hz13; clear hz13)); (try (have hz13 : w13.heap[w12.heap.size]? = some (.cells tm0 TTm (0, 0)) := (hb13.block _ (by simp <;> omega)).trans ((Below.heap_alloc _ _ _ (by simp)).trans (heap_alloc_new w12 _)); have HO14 : Hid (OwnT w13 (w12.heap.size + 2) p r13) := Lib.hid (ho13.mono (by simp)); have fz := unfrozen hz13; have z0 := cell_at hz13 (j := 0) rfl; have z1 := cell_at hz13 (j := 1) rfl; have z2 := cell_at hz13 (j := 2) rfl; have z3 := cell_at hz13 (j := 3) rfl; have z4 := cell_at hz13 (j := 4) rfl; have z5 := cell_at hz13 (j := 5) rfl; have hlz := heap_lt hz13; have HZ13 := Lib.hid hz13; clear hz13)); (try (have hz13 : w13.heap[w12.heap.size + 1]? = some (.cells tm0 TTm (0, 0)) := (hb13.block _ (by simp <;> omega)).trans (heap_new2 w12 _ _); have HO14 : Hid (OwnT w13 (w12.heap.size + 2) p r13) := Lib.hid (ho13.mono (by simp)); have fz := unfrozen hz13; have z0 := cell_at hz13 (j := 0) rfl; have z1 := cell_at hz13 (j := 1) rfl; have z2 := cell_at hz13 (j := 2) rfl; have z3 := cell_at hz13 (j := 3) rfl; have z4 := cell_at hz13 (j := 4) rfl; have z5 := cell_at hz13 (j := 5) rfl; have hlz := heap_lt hz13; have HZ13 := Lib.hid hz13; clear hz13)); clear ho13 hb13))
            all_goals
              go_wp2_with fail
              go_meet
              case rel =>
                have s12 := HB12.out.size
                first
                  | (refine ⟨w13.heap.size, r13, rfl, rfl, ?_⟩; have h := box_own (W := w13.alloc (.cells #[.int .i64 p.kind, .string p.text, .int .i64 p.n, .slice r13.s.p r13.s.n r13.s.c, .slice r13.a.p r13.a.n r13.a.c, .slice r13.k.p r13.k.n r13.k.c] TTm)) rfl HO13.out; have h2 := HB12.out.then_ (HB13.out.then_ h.2); exact Lib.hid ⟨h.1, h2⟩)
                  | (refine ⟨w11.heap.size, r13, rfl, rfl, ?_⟩; have h := box_six (w := w11) HZ13.out HO13.out (by omega) (HB12.out.then_ HB13.out) (by omega); exact Lib.hid h)
                  | (refine ⟨w12.heap.size, r13, rfl, rfl, ?_⟩; have h := box_six (w := w11) HZ13.out HO13.out (by omega) (HB12.out.then_ HB13.out) (by omega); exact Lib.hid h)
                  | (refine ⟨w12.heap.size + 1, r13, rfl, rfl, ?_⟩; have h := box_six (w := w11) HZ13.out HO14.out (by omega) (HB12.out.then_ HB13.out) (by omega); exact Lib.hid h)
          obtain ⟨g18, rp, rfl, rfl, HC⟩ := hcut
          have HBC := Lib.hid (HL7.out.then_ (HB11.out.then_ HC.out.2))
          have hcs : (n < 0 ∧ m4 = 18) ∨ (¬ n < 0 ∧ e1 = 18 ∧ m4 = 18) ∨ (¬ n < 0 ∧ e1 = 0 ∧ obv u = (a, true) ∧ p = tOf 41 [a, tNum n] ∧ m4 = 0) := by
            have h1 := HPM.out
            unfold obvT at h1
            rw [HM41.out, if_neg (by decide)] at h1
            by_cases hn : n < 0
            · have e : obv (tOf 41 [u, tNum n]) = (tNil, false) := by rw [obv_pow, if_pos (.inr hn)]
              rw [e] at h1
              exact .inl ⟨hn, (Prod.mk.inj h1).2.symm⟩
            · rcases HE1.out with ⟨g1, g2⟩ | ⟨g1, g2⟩
              · have e : obv (tOf 41 [u, tNum n]) = (tNil, false) := by rw [obv_pow, if_pos (.inl g2)]
                rw [e] at h1
                exact .inr (.inl ⟨hn, g1, (Prod.mk.inj h1).2.symm⟩)
              · have e : obv (tOf 41 [u, tNum n]) = (tOf 41 [a, tNum n], true) := by rw [obv_pow, g2, if_neg (by rintro (h | h); cases h; exact hn h)]
                rw [e] at h1
                exact .inr (.inr ⟨hn, g1, g2, (Prod.mk.inj h1).1.symm, (Prod.mk.inj h1).2.symm⟩)
          clear u0 u1 u2 u3 u4 u5 ul
          rcases hcs with ⟨h1, h2⟩ | ⟨h1, h2, h3⟩ | ⟨h1, h2, h3, h4, h5⟩
          · obtain rfl : 18 = m4 := h2.symm
            have d1 : decide (n < 0) = true := by simpa using h1
            clear h2
            go_wp2_with fail
            go_ret
            exact ⟨rfl, HB1.out.then_ HBC.out⟩
          · obtain rfl : 18 = m4 := h3.symm
            have d1 : decide (n < 0) = false := by simpa using h1
            have d0 : (0 : Int) ≤ n := by omega
            have d2 : (e1 != 0) = true := by simp [h2]
            clear h1 h2 h3
            go_wp2_with fail
            go_ret
            exact ⟨rfl, HB1.out.then_ HBC.out⟩
          · obtain rfl : 0 = m4 := h5.symm
            have d1 : decide (n < 0) = false := by simpa using h1
            have d0 : (0 : Int) ≤ n := by omega
            have d2 : (e1 != 0) = false := by simp [h2]
            have OA := Lib.hid (obv_all HMU.out HWF.out.1 h3)
            have HP := Lib.hid h4
            have HGP : Hid (greatT (tOf 41 [a, tNum n]) = false ∧ WfT (tOf 41 [a, tNum n])) := Lib.hid ⟨great_two_same HG36.out (by have := cnt_pos v; have := OA.out.cnt; show cnt a + 1 ≤ _; omega) (by have := dep_pos v; have := OA.out.dep; show max (dep a) 1 ≤ _; omega), wf_tOf ⟨by decide, by decide⟩ OA.out.wf (num_wf HWF.out.2.2)⟩
            have HSM : Hid (sameT p (tOf 41 [a, tNum n]) = true) := Lib.hid (by rw [HP.out]; exact same_self HGP.out.1)
            have HWP : Hid (WfT p) := Lib.hid (by rw [HP.out]; exact HGP.out.2)
            clear h1 h2 h3 h4 h5
            have HAC := Lib.hid (HA11.out.on HC.out.2)
            obtain ⟨⟨x0, x1, x2, x3, x4, x5⟩, xl⟩ := HC.out.1.six
            obtain ⟨⟨a0, a1, a2, a3, a4, a5⟩, al⟩ := HAC.out.six
            go_upto_region 23 with fail
            go_region_law (first
              | (go_simp; go_at_call 36; refine (number_any n _).mono ?_; rintro e w14 ⟨g14, rfl, _, hn14, hb14⟩; have HB14 : Hid (Below wc.heap.size wc w14) := Lib.hid ((Below.refl _ _).drew.then_ hb14); have H14 := Lib.hid hn14; clear hn14 hb14; obtain ⟨⟨x0, x1, x2, x3, x4, x5⟩, xl⟩ := (HC.out.1.on HB14.out).six; obtain ⟨⟨a0, a1, a2, a3, a4, a5⟩, al⟩ := (HAC.out.on HB14.out).six)
              | (go_simp; go_at_call 20; refine (sameV_any p (tOf 41 [a, tNum n]) rp.s.p rp.s.c rp.a.p rp.a.c rp.k.p rp.k.c none 0 none 0 (some ⟨w14.heap.size, 0, none⟩) 2 _ ((HC.out.1.on HB14.out).at_.on ((Below.refl _ _).alloc (Nat.le_refl _) _)) (two_new' 41 (Below.refl _ _) rfl (HAC.out.on HB14.out).at_ H14.out.tm) HWP.out HGP.out.2).mono ?_; rintro e w15 ⟨rfl, hb15⟩; rw [HSM.out]; have HB15 : Hid (Below w14.heap.size w14 w15) := Lib.hid (((Below.refl _ _).alloc (Nat.le_refl _) _).then_ hb15); clear hb15))
            all_goals
              go_wp2_with fail
              go_ret
              exact ⟨rfl, HB1.out.then_ (HBC.out.then_ (HB14.out.then_ HB15.out))⟩
    · rw [hmu]
      have d1 : (mayT v 3 != 0) = true := by simpa using hmv
      clear hmu hmv
      obtain ⟨⟨v0, v1, v2, v3, v4, v5⟩, vl⟩ := (HV1.out.on HB3.out).six
      go_wp2_with fail
      refine (may_any v A' ca' B' cb' K' ck' 3 w3 (HV1.out.on HB3.out).at_ HWF.out.2.1).mono ?_
      rintro e w4 ⟨rfl, hb4⟩
      have HB4 := Lib.hid (HB3.out.then_ hb4)
      clear hb4 v0 v1 v2 v3 v4 v5 vl
      go_wp2_with fail
      go_ret
      exact ⟨rfl, HB1.out.then_ HB4.out⟩
  · have d1 : (mayT u 3 != 0) = true := by simpa using hmu
    clear hmu
    go_wp2_with fail
    go_ret
    exact ⟨rfl, HB1.out.then_ HB3.out⟩
end Go.Proofs.YteohoodfcgfkeaaGreat
