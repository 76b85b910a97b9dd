/- What the obverse of a term answers is within reach. Plain laws. No condition. · abacusref17.Of: the document's obverse of any term, in memory of its own, where 'of' is walked. Condition: sizes within reach. -/
import Derived.Test.YtkdejffhdhcocaaGreatTeMD
import Derived.Test.YtkdejffhdhcocaaGreatTe1c
import Derived.Test.YtkdejffhdhcocaaGreatTeD2
namespace Go.Proofs.YtkdejffhdhcocaaGreat
open Go.RowKit

theorem nil_wf : WfT tNil := by
  simp only [tNil, WfT, WfL]
  exact ⟨⟨by decide, by decide⟩, ⟨by decide, by decide⟩, fun x hx => (by cases hx), fun x hx => (by cases hx), by decide, by decide, by decide, by decide, trivial⟩
/-- what the obverse of a term answers is within reach, and not too great -/
theorem obvT_fine {t : Tm} (hwf : WfT t) : WfT (obvT t).1 ∧ greatT (obvT t).1 = false := by
  rcases obvT_cases t with ⟨_, h⟩ | ⟨_, _, h⟩ | ⟨hm, u, h1, h⟩
  · rw [h]; exact ⟨nil_wf, rfl⟩
  · rw [h]; exact ⟨nil_wf, rfl⟩
  · rw [h]
    have := obv_all hm hwf h1
    exact ⟨this.wf, this.great⟩
end Go.Proofs.YtkdejffhdhcocaaGreat

namespace Go.Proofs.YtkdejffhdhcocaaGreat
open Go.RowKit

set_option maxRecDepth 100000 in
set_option maxHeartbeats 16000000 in
theorem dOfN_any (hdof : ∀ N, DofN N) (t : Tm) (A : Option Addr) (ca : Nat) (B : Option Addr) (cb : Nat) (K : Option Addr) (ck : Nat) (w : World) (hat : TmAt w t A B K) (hwf : WfT t) :
    Calls Tryz.prog 7 #[tmVal t A ca B cb K ck] w (TnPost (obvT t).1 (obvT t).2 w) := by
  obtain ⟨W1, hW1⟩ : ∃ W1, W1 = (w.alloc (.cells (tmCells t A ca B cb K ck) TTm)).alloc (.cells tm0 TTm) := ⟨_, rfl⟩
  have hb1 : Below w.heap.size w W1 := by rw [hW1]; exact ((Below.refl _ _).alloc (Nat.le_refl _) _).alloc (by simp) _
  have hx1 : W1.heap[w.heap.size]? = some (.cells (tmCells t A ca B cb K ck) TTm (0, 0)) := by rw [hW1]; exact (Below.heap_alloc _ _ _ (by simp)).trans (heap_alloc_new w _)
  have hz1 : W1.heap[w.heap.size + 1]? = some (.cells tm0 TTm (0, 0)) := by rw [hW1]; exact heap_new2 _ _ _
  have hs1 : W1.heap.size = w.heap.size + 2 := by rw [hW1]; simp
  have HX := Lib.hid (And.intro hb1 (And.intro hx1 (And.intro hz1 (And.intro hs1 (hat.on hb1)))))
  have HT := Lib.hid (And.intro hat hwf)
  have HW1 := Lib.hid hW1
  have HDOF := Lib.hid hdof
  have HK : Hid (∀ W, Below W1.heap.size W1 W → W.cell? ⟨w.heap.size, 0, none⟩ = some (.int .i64 t.kind) ∧ W.cell? ⟨w.heap.size, 1, none⟩ = some (.string t.text) ∧ W.cell? ⟨w.heap.size, 2, none⟩ = some (.int .i64 t.n) ∧ W.cell? ⟨w.heap.size, 3, none⟩ = some (.slice A t.sh.length ca) ∧ W.cell? ⟨w.heap.size, 4, none⟩ = some (.slice B t.at_.length cb) ∧ W.cell? ⟨w.heap.size, 5, none⟩ = some (.slice K t.kids.length ck)) := Lib.hid fun W h => by
    have hh := (h.block _ (heap_lt hx1)).trans hx1
    exact ⟨cell_at hh rfl, cell_at hh rfl, cell_at hh rfl, cell_at hh rfl, cell_at hh rfl, cell_at hh rfl⟩
  obtain ⟨k0, k1, k2, k3, k4, k5⟩ := HK.out W1 (Below.refl _ _)
  have HC := Lib.hid (obvT_cases t)
  clear hat hwf hb1 hx1 hz1 hs1 hW1 hdof
  go_enter Tryz.func7, Tryz.ntmps7
  go_upto_region 1 with fail
  rw [← HW1.out]
  go_wp2_with fail
  refine (dmay_any t A ca B cb K ck 3 W1 HX.out.2.2.2.2 HT.out.2).mono ?_
  rintro e w2 ⟨rfl, hb2⟩
  have HB2 := Lib.hid hb2
  have HZ2 : Hid (∀ W, Below W1.heap.size W1 W → W.heap[w.heap.size + 1]? = some (.cells tm0 TTm (0, 0))) := Lib.hid fun W h => (h.block _ (heap_lt HX.out.2.2.1)).trans HX.out.2.2.1
  clear hb2 k0 k1 k2 k3 k4 k5
  rcases HC.out with ⟨hm, ht⟩ | ⟨hm, hf, ht⟩ | ⟨hm, u, hu, ht⟩
  · have HR := Lib.hid ht
    have d0 : (mayT t 3 != 0) = true := by simp [hm]
    have hz := HZ2.out w2 HB2.out
    have z0 := cell_at hz (j := 0) rfl
    have z1 := cell_at hz (j := 1) rfl
    have z2 := cell_at hz (j := 2) rfl
    have z3 := cell_at hz (j := 3) rfl
    have z4 := cell_at hz (j := 4) rfl
    have z5 := cell_at hz (j := 5) rfl
    have fz := unfrozen hz
    have HZ := Lib.hid hz
    clear hm ht hz
    go_wp2_with fail
    obtain ⟨e1, e2, e3⟩ := six (.int .i64 0) (.string ⟨#[]⟩) (.int .i64 0) (.slice none 0 0) (.slice none 0 0) (.slice none 0 0) HZ.out (HX.out.1.then_ HB2.out) (Nat.le_succ _)
    rw [HR.out]
    exact bodyPost_ret (results_tm2 (p := 2) (t := 3) rfl rfl e1) rfl (tn_nil e3)
  · have HR := Lib.hid ht
    have HF := Lib.hid hf
    have HM := Lib.hid hm
    rw [hm]
    obtain ⟨k0, k1, k2, k3, k4, k5⟩ := HK.out w2 HB2.out
    clear hm ht hf
    go_wp2_with fail
    refine (HDOF.out (cnt t) t A ca B cb K ck w w2 (Nat.le_refl _) HT.out.1 (HX.out.1.then_ HB2.out) HT.out.2 (may_good HM.out).1).mono ?_
    rintro e w3 ⟨u, P, p, Q, q, R, r, rfl, _, hu, hb3⟩
    rw [HF.out]
    have HB3 := Lib.hid (HB2.out.then_ hb3)
    have hz := HZ2.out w3 HB3.out
    have z0 := cell_at hz (j := 0) rfl
    have z1 := cell_at hz (j := 1) rfl
    have z2 := cell_at hz (j := 2) rfl
    have z3 := cell_at hz (j := 3) rfl
    have z4 := cell_at hz (j := 4) rfl
    have z5 := cell_at hz (j := 5) rfl
    have fz := unfrozen hz
    have hlz := heap_lt hz
    clear hb3 hu k0 k1 k2 k3 k4 k5 hz
    go_upto_region 5 with fail
    obtain ⟨W4, hW4⟩ : ∃ W4, W4 = w3.alloc (.cells (tmCells u P p Q q R r) TTm) := ⟨_, rfl⟩
    have hb4 : Below w3.heap.size w3 W4 := by rw [hW4]; exact (Below.refl _ _).alloc (Nat.le_refl _) _
    rw [← hW4]
    have HB4 := Lib.hid (HB3.out.then_ hb4)
    clear hb4 hW4 z0 z1 z2 z3 z4 z5 fz hlz
    have hz := HZ2.out W4 HB4.out
    have z0 := cell_at hz (j := 0) rfl
    have z1 := cell_at hz (j := 1) rfl
    have z2 := cell_at hz (j := 2) rfl
    have z3 := cell_at hz (j := 3) rfl
    have z4 := cell_at hz (j := 4) rfl
    have z5 := cell_at hz (j := 5) rfl
    have fz := unfrozen hz
    have HZ := Lib.hid hz
    clear hz
    go_wp2_with fail
    obtain ⟨e1, e2, e3⟩ := six (.int .i64 0) (.string ⟨#[]⟩) (.int .i64 0) (.slice none 0 0) (.slice none 0 0) (.slice none 0 0) HZ.out (HX.out.1.then_ HB4.out) (Nat.le_succ _)
    rw [HR.out]
    exact bodyPost_ret (results_tm2 (p := 2) (t := 3) rfl rfl e1) rfl (tn_nil e3)
  · have HR := Lib.hid ht
    have HALL := Lib.hid (obv_all hm HT.out.2 hu)
    have HU := Lib.hid hu
    have HM := Lib.hid hm
    rw [hm]
    obtain ⟨k0, k1, k2, k3, k4, k5⟩ := HK.out w2 HB2.out
    clear hm ht hu
    go_wp2_with fail
    refine (HDOF.out (cnt t) t A ca B cb K ck w w2 (Nat.le_refl _) HT.out.1 (HX.out.1.then_ HB2.out) HT.out.2 (may_good HM.out).1).mono ?_
    rintro e w3 ⟨u', P, p, Q, q, R, r, rfl, hu1, hu2, hb3⟩
    obtain rfl : u' = u := by
      have := hu1 (by rw [HU.out])
      rw [this, HU.out]
    rw [show (obv t).2 = true by rw [HU.out]]
    have HB3 := Lib.hid (HB2.out.then_ hb3)
    have HAT3 := Lib.hid (mask_out hu2)
    have hz := HZ2.out w3 HB3.out
    have z0 := cell_at hz (j := 0) rfl
    have hlz := heap_lt hz
    clear hb3 hu1 hu2 k0 k1 k2 k3 k4 k5 hz
    go_upto_region 5 with fail
    obtain ⟨W4, hW4⟩ : ∃ W4, W4 = w3.alloc (.cells (tmCells u' P p Q q R r) TTm) := ⟨_, rfl⟩
    have hb4 : Below w3.heap.size w3 W4 := by rw [hW4]; exact (Below.refl _ _).alloc (Nat.le_refl _) _
    have hx4 : W4.heap[w3.heap.size]? = some (.cells (tmCells u' P p Q q R r) TTm (0, 0)) := by rw [hW4]; exact heap_alloc_new w3 _
    rw [← hW4]
    have HB4 := Lib.hid (And.intro (HB3.out.then_ hb4) (HAT3.out.on hb4))
    have c0 := cell_at hx4 (j := 0) rfl
    have c1 := cell_at hx4 (j := 1) rfl
    have c2 := cell_at hx4 (j := 2) rfl
    have c3 := cell_at hx4 (j := 3) rfl
    have c4 := cell_at hx4 (j := 4) rfl
    have c5 := cell_at hx4 (j := 5) rfl
    clear hb4 hW4 hx4 z0 hlz
    go_wp2_with fail
    refine (dcopy_any u' P p Q q R r W4 HB4.out.2 HALL.out.wf).mono ?_
    rintro e w5 hpost
    rcases hpost with ⟨hg, _⟩ | ⟨_, s, rfl, ho, hn, hb5⟩
    · rw [HALL.out.great] at hg; cases hg
    have HO := Lib.hid (And.intro ho (And.intro hn hb5))
    have HB5 := Lib.hid (HB4.out.1.then_ hb5)
    clear ho hn hb5 c0 c1 c2 c3 c4 c5
    have hz := HZ2.out w5 HB5.out
    have z0 := cell_at hz (j := 0) rfl
    have hlz := heap_lt hz
    clear hz
    go_upto_region 8 with fail
    obtain ⟨W6, hW6⟩ : ∃ W6, W6 = w5.alloc (.cells #[.int .i64 u'.kind, .string u'.text, .int .i64 u'.n, .slice s.s.p s.s.n s.s.c, .slice s.a.p s.a.n s.a.c, .slice s.k.p s.k.n s.k.c] TTm) := ⟨_, rfl⟩
    have hb6 : Below w5.heap.size w5 W6 := by rw [hW6]; exact (Below.refl _ _).alloc (Nat.le_refl _) _
    have hx6 : W6.heap[w5.heap.size]? = some (.cells #[.int .i64 u'.kind, .string u'.text, .int .i64 u'.n, .slice s.s.p s.s.n s.s.c, .slice s.a.p s.a.n s.a.c, .slice s.k.p s.k.n s.k.c] TTm (0, 0)) := by rw [hW6]; exact heap_alloc_new w5 _
    rw [← hW6]
    have HB6 := Lib.hid (And.intro (HB5.out.then_ hb6) (HO.out.1.on hb6))
    have c0 := cell_at hx6 (j := 0) rfl
    have c1 := cell_at hx6 (j := 1) rfl
    have c2 := cell_at hx6 (j := 2) rfl
    have c3 := cell_at hx6 (j := 3) rfl
    have c4 := cell_at hx6 (j := 4) rfl
    have c5 := cell_at hx6 (j := 5) rfl
    clear hb6 hW6 hx6 z0 hlz
    have hz := HZ2.out W6 HB6.out.1
    have z0 := cell_at hz (j := 0) rfl
    have z1 := cell_at hz (j := 1) rfl
    have z2 := cell_at hz (j := 2) rfl
    have z3 := cell_at hz (j := 3) rfl
    have z4 := cell_at hz (j := 4) rfl
    have z5 := cell_at hz (j := 5) rfl
    have fz := unfrozen hz
    have HZ := Lib.hid hz
    have HSZ : Hid (w.heap.size + 2 ≤ W4.heap.size) := Lib.hid (by rw [← HX.out.2.2.2.1]; exact HB4.out.1.size)
    clear hz
    go_wp2_with fail
    obtain ⟨e1, e2, e3⟩ := six (.int .i64 u'.kind) (.string u'.text) (.int .i64 u'.n) (.slice s.s.p s.s.n s.s.c) (.slice s.a.p s.a.n s.a.c) (.slice s.k.p s.k.n s.k.c) HZ.out (HX.out.1.then_ HB6.out.1) (Nat.le_succ _)
    have ho9 := HB6.out.2.kept (fun g hg => e2 g (by have h1 := (HB6.out.2.blk g hg).1; have h2 := HSZ.out; omega))
    rw [HR.out]
    have s1 := HSZ.out
    exact bodyPost_ret (results_tm2 (p := 2) (t := 3) rfl rfl e1) rfl ⟨s, rfl, ho9.mono (by omega), HO.out.2.1, e3⟩
end Go.Proofs.YtkdejffhdhcocaaGreat
