/- The walk of FaultNumber: it returns true. Conditions: the listed variables of Go's library are as laid; each step's text is at most 2^47 bytes. -/
import Derived.Test.YtcohinfpcafcpaaDoorFaultStep
import Derived.Deep.RegionWith
namespace Go.Proofs.YtcohinfpcafcpaaDoor
open Go.RowKit Go.Extern.Stop Go.Stop Go.Extern Go.Sort

set_option maxRecDepth 100000 in
set_option maxHeartbeats 4000000 in
theorem faultNumber_any (c a : Int) (A : Option Addr) (n cp : Nat) (ks : Nat → Int) (ss : Nat → ByteArray) (w : World) (hp : Pow10 w) (hg : ErrTy w) (hc : In64 c) (ha : In64 a) (hs : StepsAt w A n ks ss) (hn : n ≤ 140737488355328) :
    Calls Tryd.prog 4 #[.int .i64 c, .int .i64 a, .slice A n cp] w fun e w' => e = .returned (.bool true) ∧ Below w.heap.size w w' := by
  have HP := Lib.hid hp
  have HG := Lib.hid hg
  have HS := Lib.hid hs
  clear hp hg hs
  go_enter Tryd.func4, Tryd.ntmps4
  go_wp2_with fail
  refine (awake_any w HP.out HG.out).mono ?_
  rintro r w1 ⟨rfl, hb1⟩
  have HB1 := Lib.hid hb1
  clear hb1
  go_wp2_with fail
  refine (begun_any 1 c a ⟨#[]⟩ w.heap.size w1 (HP.out.on HB1.out) hc ha).mono ?_
  rintro r w2 ⟨o, bk, rfl, hS, hb2, hrel⟩
  have HB2 := Lib.hid (HB1.out.then_ hb2)
  have HST := Lib.hid hS
  have HR := Lib.hid hrel
  clear hb2 hS hrel
  obtain ⟨th, bc, bp, bn, bt⟩ := bk
  simp only [Bk.val]
  go_wp2_with fail
  go_loopw [8, 10, 11] (fun v8 v10 v11 wr => ∃ (i sz : Nat) (o : Option Err) (bk : Bk) (nv : Value), i ≤ n ∧ v8 = oval o ∧ v10 = .int .i64 sz ∧ v11 = .int .i64 i ∧ StAt w.heap.size wr o bk nv ∧
    wr.heap[w2.heap.size]? = some (.cells #[.bool bk.there, .int .i64 bk.code, .int .i64 bk.place, nv, .string ⟨bk.text.toArray⟩] 32 (0, 0)) ∧ Below w.heap.size w wr ∧ Inv sz bk ∧ Rooted c a o) (fun _ _ v11 _ => n - (intOf v11).toNat)
  case atStart =>
    refine ⟨0, 0, o, ⟨th, bc, bp, bn, bt⟩, .slice none 0 0, Nat.zero_le _, rfl, rfl, rfl, HST.out.keptBelow ((Below.refl _ _).alloc (Nat.le_refl _) _), heap_alloc_new w2 _, HB2.out.alloc HB2.out.size _, ?_, ?_⟩
    · have hsm := begun_small HR.out hc ha
      refine Inv.start 0 _ hsm.1 ?_ (Nat.zero_le _)
      have h2 : bt.length ≤ 52 + 0 := hsm.2
      show bt.length ≤ _
      omega
    · exact begun_rooted HR.out
  case round =>
    obtain ⟨i, sz, o, bk, nv, hi, rfl, rfl, rfl, hS, hbk, hb, hinv, hrt⟩ := hrel
    have hSt := HS.out.on hb
    by_cases hlt : i < n
    · by_cases hsz : sz < 65536
      · obtain ⟨b, off, rfl, hbl, k0, k1, hss⟩ := hSt i hlt
        obtain ⟨q0, q1, q2, q3, q4⟩ := cells5 hbk
        have hrm := hinv.room hsz
        obtain ⟨hrm1, hrm2⟩ := hrm
        have HSt := Lib.hid hS
        have HBK := Lib.hid hbk
        have HIN := Lib.hid hinv
        have HRT := Lib.hid hrt
        clear hS hbk hinv hrt hSt
        obtain ⟨th', bc', bp', bn', bt'⟩ := bk
        obtain ⟨A', n', cp', rfl⟩ := HSt.out.names.form
        simp only at q0 q1 q2 q3 q4 hrm1 hrm2
        have HM1 := Lib.hid hrm1
        have HM2 := Lib.hid hrm2
        have HSS := Lib.hid hss
        have HSZ := Lib.hid hsz
        have hszb : decide ((sz : Int) < 65536) = true := by simp; omega
        clear hrm1 hrm2 hss hsz
        go_upto_region 8 with fail
        go_region_with (go_at_call 13; refine (more_at (ks i) (ss i) o ⟨th', bc', bp', bn', bt'⟩ A' n' cp' w.heap.size w2.heap.size #[.bool th', .int .i64 bc', .int .i64 bp', .slice A' n' cp', .string ⟨bt'.toArray⟩] w _ ?_ ?_ ?_ ?_ ?_ ?_).mono ?_; exact HSt.out.keptBelow (Below.refl _ _).drew; exact hb.size; exact hb.drew; exact HBK.out; (have := HM1.out; have := HSS.out; simp only; omega); exact HM2.out; rintro r w3 ⟨o', bk', A2, n2, cp2, rfl, hX⟩; obtain ⟨x0, x1, x2, x3, x4⟩ := cells5 (hX.2.2.2.2.1.trans HBK.out); have xf := frozen5 (hX.2.2.2.2.1.trans HBK.out); have HX := Lib.hid hX; clear hX)
        all_goals
          go_wp2_with fail
          obtain ⟨hS3, hr3, hn3, hb3, hg3, hl3⟩ := HX.out
          have hge : w.heap.size ≤ w2.heap.size := HB2.out.size
          have hlen : bt'.length ≤ 140737488420866 := HM1.out
          have hz := HSZ.out
          have hbk3 := hg3.trans HBK.out
          refine ⟨⟨i + 1, sz + bt'.length, o', bk', .slice A2 n2 cp2, by omega, rfl, ?_, by go_num, hS3.chain5 hbk3 _ _ _ _ _, chain5_at hbk3 _ _ _ _ _, chain5_below hb3 hge _ _ _ _ _, ?_, ?_⟩, ?_⟩
          · exact sum_slot sz bt'.length (by omega)
          · exact HIN.out.step HSZ.out HSS.out HSt.out hS3 hr3 hn3
          · exact HRT.out.step hr3
          · simp [intOf]; omega
      · have HSZ := Lib.hid hsz
        have hszb : decide ((sz : Int) < 65536) = false := by simp; omega
        clear hsz
        obtain ⟨q0, q1, q2, q3, q4⟩ := cells5 hbk
        have HSt := Lib.hid hS
        have HBK := Lib.hid hbk
        have HB := Lib.hid hb
        clear hS hbk hb hinv hSt
        rcases hrt with ⟨h0, rfl⟩ | ⟨h0, e, b, rfl, hroot⟩
        · have hth := HSt.out.none_ rfl
          rw [hth] at q0
          have H0 := Lib.hid h0
          have q0' : (wr.alloc (.cells #[.int .i64 0] 24)).cell? ⟨w2.heap.size, 0, none⟩ = some (.bool false) := (World.cell?_of_block (Below.heap_alloc wr _ w2.heap.size (at_lt HBK.out))).trans q0
          clear hth h0
          simp only [oval_none]
          go_wp2_with fail
          refine (as_nil _ _).mono ?_
          rintro r w3 ⟨rfl, rfl⟩
          go_wp2_with fail
          go_ret
          exact ⟨rfl, HB.out.alloc HB.out.size _⟩
        · have hth := book_there HSt.out
          rw [hth] at q0
          have HRo := Lib.hid hroot
          have hb0 : Below wr.heap.size wr (wr.alloc (.cells #[.int .i64 0] 24)) := (Below.refl _ _).alloc (Nat.le_refl _) _
          have hA := as_any errno_tgt fits_errno e wr.heap.size (.int .i64 0) (wr.alloc (.cells #[.int .i64 0] 24)) ((HSt.out.some_ e rfl).1.on hb0) ((HG.out.on HB.out).on hb0) (heap_alloc_new wr _)
          rw [find_root hroot] at hA
          have HA := Lib.hid hA
          have H0 := Lib.hid h0
          clear hth hroot hA hb0 h0
          simp only [oval_some]
          go_wp2_with fail
          refine HA.out.mono ?_
          rintro r w3 ⟨rfl, h1, hgr⟩
          have k0 : w3.cell? ⟨wr.heap.size, 0, none⟩ = some (.int .i64 c) := by simp [World.cell?, h1]
          have q0' : w3.cell? ⟨w2.heap.size, 0, none⟩ = some (.bool true) := (World.cell?_of_block (hgr.block w2.heap.size (by have := at_lt HBK.out; simp; omega) (fun h => by injection h with h; have := at_lt HBK.out; omega))).trans ((World.cell?_of_block (Below.heap_alloc wr _ w2.heap.size (at_lt HBK.out))).trans q0)
          have HF := Lib.hid ((HB.out.alloc HB.out.size _).grown hgr (by simp; have := HB.out.size; omega) (fun k hk => by cases hk; exact HB.out.size))
          clear h1 hgr
          go_wp2_with fail
          go_ret
          exact ⟨rfl, HF.out⟩
    ·
      obtain ⟨q0, q1, q2, q3, q4⟩ := cells5 hbk
      have HSt := Lib.hid hS
      have HBK := Lib.hid hbk
      have HB := Lib.hid hb
      clear hS hbk hb hinv hSt
      rcases hrt with ⟨h0, rfl⟩ | ⟨h0, e, b, rfl, hroot⟩
      · have hth := HSt.out.none_ rfl
        rw [hth] at q0
        have H0 := Lib.hid h0
        have q0' : (wr.alloc (.cells #[.int .i64 0] 24)).cell? ⟨w2.heap.size, 0, none⟩ = some (.bool false) := (World.cell?_of_block (Below.heap_alloc wr _ w2.heap.size (at_lt HBK.out))).trans q0
        clear hth h0
        simp only [oval_none]
        go_wp2_with fail
        refine (as_nil _ _).mono ?_
        rintro r w3 ⟨rfl, rfl⟩
        go_wp2_with fail
        go_ret
        exact ⟨rfl, HB.out.alloc HB.out.size _⟩
      · have hth := book_there HSt.out
        rw [hth] at q0
        have HRo := Lib.hid hroot
        have hb0 : Below wr.heap.size wr (wr.alloc (.cells #[.int .i64 0] 24)) := (Below.refl _ _).alloc (Nat.le_refl _) _
        have hA := as_any errno_tgt fits_errno e wr.heap.size (.int .i64 0) (wr.alloc (.cells #[.int .i64 0] 24)) ((HSt.out.some_ e rfl).1.on hb0) ((HG.out.on HB.out).on hb0) (heap_alloc_new wr _)
        rw [find_root hroot] at hA
        have HA := Lib.hid hA
        have H0 := Lib.hid h0
        clear hth hroot hA hb0 h0
        simp only [oval_some]
        go_wp2_with fail
        refine HA.out.mono ?_
        rintro r w3 ⟨rfl, h1, hgr⟩
        have k0 : w3.cell? ⟨wr.heap.size, 0, none⟩ = some (.int .i64 c) := by simp [World.cell?, h1]
        have q0' : w3.cell? ⟨w2.heap.size, 0, none⟩ = some (.bool true) := (World.cell?_of_block (hgr.block w2.heap.size (by have := at_lt HBK.out; simp; omega) (fun h => by injection h with h; have := at_lt HBK.out; omega))).trans ((World.cell?_of_block (Below.heap_alloc wr _ w2.heap.size (at_lt HBK.out))).trans q0)
        have HF := Lib.hid ((HB.out.alloc HB.out.size _).grown hgr (by simp; have := HB.out.size; omega) (fun k hk => by cases hk; exact HB.out.size))
        clear h1 hgr
        go_wp2_with fail
        go_ret
        exact ⟨rfl, HF.out⟩
end Go.Proofs.YtcohinfpcafcpaaDoor
