/- The walk of FaultFinds: it returns true. Conditions: the listed variables of Go's library are as laid; each step's text is at most 2^47 bytes. -/
import Derived.Test.YtcohinfpcafcpaaDoorFaultIs
import Derived.Deep.RegionWith
namespace Go.Proofs.YtcohinfpcafcpaaDoor
open Go.RowKit Go.Extern.Stop Go.Stop Go.Extern Go.Sort

set_option maxRecDepth 100000 in
set_option maxHeartbeats 4000000 in
theorem faultFinds_any (c z a : Int) (A : Option Addr) (n cp : Nat) (ks : Nat → Int) (ss : Nat → ByteArray) (w : World) (hp : Pow10 w) (hg : ErrTy w) (hc : In64 c) (_hz : In64 z) (ha : In64 a) (hs : StepsAt w A n ks ss) (hn : n ≤ 140737488355328) :
    Calls Tryd.prog 7 #[.int .i64 c, .int .i64 z, .int .i64 a, .slice A n cp] w fun e w' => e = .returned (.bool true) ∧ Below w.heap.size w w' := by
  have HP := Lib.hid hp
  have HG := Lib.hid hg
  have HS := Lib.hid hs
  clear hp hg hs
  go_enter Tryd.func7, Tryd.ntmps7
  go_wp2_with fail
  refine (awake_any w HP.out HG.out).mono ?_
  rintro r w1 ⟨rfl, hb1⟩
  have HB1 := Lib.hid hb1
  clear hb1
  go_wp2_with fail
  refine (begun_any 1 c a ⟨#[]⟩ w.heap.size w1 (HP.out.on HB1.out) hc ha).mono ?_
  rintro r w2 ⟨o, bk, rfl, hS, hb2, hrel⟩
  have HB2 := Lib.hid (HB1.out.then_ hb2)
  have HST := Lib.hid hS
  have HR := Lib.hid hrel
  clear hb2 hS hrel
  obtain ⟨th, bc, bp, bn, bt⟩ := bk
  simp only [Bk.val]
  go_wp2_with fail
  go_loopw [10, 12, 13] (fun v10 v12 v13 wr => ∃ (i sz : Nat) (o : Option Err) (bk : Bk) (nv : Value), i ≤ n ∧ v10 = oval o ∧ v12 = .int .i64 sz ∧ v13 = .int .i64 i ∧ StAt w.heap.size wr o bk nv ∧
    wr.heap[w2.heap.size]? = some (.cells #[.bool bk.there, .int .i64 bk.code, .int .i64 bk.place, nv, .string ⟨bk.text.toArray⟩] 32 (0, 0)) ∧ Below w.heap.size w wr ∧ Inv sz bk ∧ Rooted c a o) (fun _ _ v13 _ => n - (intOf v13).toNat)
  case atStart =>
    refine ⟨0, 0, o, ⟨th, bc, bp, bn, bt⟩, .slice none 0 0, Nat.zero_le _, rfl, rfl, rfl, HST.out.keptBelow ((Below.refl _ _).alloc (Nat.le_refl _) _), heap_alloc_new w2 _, HB2.out.alloc HB2.out.size _, ?_, ?_⟩
    · have hsm := begun_small HR.out hc ha
      refine Inv.start 0 _ hsm.1 ?_ (Nat.zero_le _)
      have h2 : bt.length ≤ 52 + 0 := hsm.2
      show bt.length ≤ _
      omega
    · exact begun_rooted HR.out
  case round =>
    obtain ⟨i, sz, o, bk, nv, hi, rfl, rfl, rfl, hS, hbk, hb, hinv, hrt⟩ := hrel
    have hSt := HS.out.on hb
    by_cases hlt : i < n
    · by_cases hsz : sz < 65536
      · obtain ⟨b, off, rfl, hbl, k0, k1, hss⟩ := hSt i hlt
        obtain ⟨q0, q1, q2, q3, q4⟩ := cells5 hbk
        have hrm := hinv.room hsz
        obtain ⟨hrm1, hrm2⟩ := hrm
        have HSt := Lib.hid hS
        have HBK := Lib.hid hbk
        have HIN := Lib.hid hinv
        have HRT := Lib.hid hrt
        clear hS hbk hinv hrt hSt
        obtain ⟨th', bc', bp', bn', bt'⟩ := bk
        obtain ⟨A', n', cp', rfl⟩ := HSt.out.names.form
        simp only at q0 q1 q2 q3 q4 hrm1 hrm2
        have HM1 := Lib.hid hrm1
        have HM2 := Lib.hid hrm2
        have HSS := Lib.hid hss
        have HSZ := Lib.hid hsz
        have hszb : decide ((sz : Int) < 65536) = true := by simp; omega
        clear hrm1 hrm2 hss hsz
        go_upto_region 8 with fail
        go_region_with (go_at_call 13; refine (more_at (ks i) (ss i) o ⟨th', bc', bp', bn', bt'⟩ A' n' cp' w.heap.size w2.heap.size #[.bool th', .int .i64 bc', .int .i64 bp', .slice A' n' cp', .string ⟨bt'.toArray⟩] w _ ?_ ?_ ?_ ?_ ?_ ?_).mono ?_; exact HSt.out.keptBelow (Below.refl _ _).drew; exact hb.size; exact hb.drew; exact HBK.out; (have := HM1.out; have := HSS.out; simp only; omega); exact HM2.out; rintro r w3 ⟨o', bk', A2, n2, cp2, rfl, hX⟩; obtain ⟨x0, x1, x2, x3, x4⟩ := cells5 (hX.2.2.2.2.1.trans HBK.out); have xf := frozen5 (hX.2.2.2.2.1.trans HBK.out); have HX := Lib.hid hX; clear hX)
        all_goals
          go_wp2_with fail
          obtain ⟨hS3, hr3, hn3, hb3, hg3, hl3⟩ := HX.out
          have hge : w.heap.size ≤ w2.heap.size := HB2.out.size
          have hlen : bt'.length ≤ 140737488420866 := HM1.out
          have hz := HSZ.out
          have hbk3 := hg3.trans HBK.out
          refine ⟨⟨i + 1, sz + bt'.length, o', bk', .slice A2 n2 cp2, by omega, rfl, ?_, by go_num, hS3.chain5 hbk3 _ _ _ _ _, chain5_at hbk3 _ _ _ _ _, chain5_below hb3 hge _ _ _ _ _, ?_, ?_⟩, ?_⟩
          · exact sum_slot sz bt'.length (by omega)
          · exact HIN.out.step HSZ.out HSS.out HSt.out hS3 hr3 hn3
          · exact HRT.out.step hr3
          · simp [intOf]; omega
      · have HSZ := Lib.hid hsz
        have hszb : decide ((sz : Int) < 65536) = false := by simp; omega
        clear hsz
        obtain ⟨q0, q1, q2, q3, q4⟩ := cells5 hbk
        have HSt := Lib.hid hS
        have HBK := Lib.hid hbk
        have HB := Lib.hid hb
        clear hS hbk hb hinv hSt
        rcases hrt with ⟨h0, rfl⟩ | ⟨h0, e, b, rfl, hroot⟩
        · have hth := HSt.out.none_ rfl
          rw [hth] at q0
          clear hth h0
          simp only [oval_none]
          go_wp2_with fail
          go_ret
          exact ⟨rfl, HB.out⟩
        · have hth := book_there HSt.out
          rw [hth] at q0
          have h1 := is_any e (.errno c) wr (HSt.out.some_ e rfl).1 trivial
          have h2 := is_any e (.errno z) wr (HSt.out.some_ e rfl).1 trivial
          rw [has_root hroot] at h1 h2
          rw [beq_self_eq_true] at h1
          have H1 := Lib.hid h1
          have H2 := Lib.hid h2
          clear hth hroot h0 h1 h2
          simp only [oval_some]
          go_wp2_with fail
          refine H1.out.mono ?_
          rintro r w3 ⟨rfl, rfl⟩
          go_wp2_with fail
          refine H2.out.mono ?_
          rintro r w3 ⟨rfl, rfl⟩
          go_wp2_with fail
          go_ret
          exact ⟨by rw [show (c == z) = (z == c) from Bool.beq_comm ..]; simp, HB.out⟩
    ·
      obtain ⟨q0, q1, q2, q3, q4⟩ := cells5 hbk
      have HSt := Lib.hid hS
      have HBK := Lib.hid hbk
      have HB := Lib.hid hb
      clear hS hbk hb hinv hSt
      rcases hrt with ⟨h0, rfl⟩ | ⟨h0, e, b, rfl, hroot⟩
      · have hth := HSt.out.none_ rfl
        rw [hth] at q0
        clear hth h0
        simp only [oval_none]
        go_wp2_with fail
        go_ret
        exact ⟨rfl, HB.out⟩
      · have hth := book_there HSt.out
        rw [hth] at q0
        have h1 := is_any e (.errno c) wr (HSt.out.some_ e rfl).1 trivial
        have h2 := is_any e (.errno z) wr (HSt.out.some_ e rfl).1 trivial
        rw [has_root hroot] at h1 h2
        rw [beq_self_eq_true] at h1
        have H1 := Lib.hid h1
        have H2 := Lib.hid h2
        clear hth hroot h0 h1 h2
        simp only [oval_some]
        go_wp2_with fail
        refine H1.out.mono ?_
        rintro r w3 ⟨rfl, rfl⟩
        go_wp2_with fail
        refine H2.out.mono ?_
        rintro r w3 ⟨rfl, rfl⟩
        go_wp2_with fail
        go_ret
        exact ⟨by rw [show (c == z) = (z == c) from Bool.beq_comm ..]; simp, HB.out⟩
end Go.Proofs.YtcohinfpcafcpaaDoor
