/- The walk of FaultTold: it returns true. Conditions: the listed variables of Go's library are as laid; the text and each step's text are at most 2^47 bytes. -/
import Derived.Test.YtcohinfpcafcpaaDoorFaultTold0
namespace Go.Proofs.YtcohinfpcafcpaaDoor
open Go.RowKit Go.Extern.Stop Go.Stop Go.Extern Go.Sort

set_option maxRecDepth 100000 in
set_option maxHeartbeats 4000000 in
theorem faultTold_any (k c a : Int) (t : ByteArray) (A : Option Addr) (n cp : Nat) (ks : Nat → Int) (ss : Nat → ByteArray) (w : World) (hp : Pow10 w) (hg : ErrTy w) (hc : In64 c) (ha : In64 a) (ht : t.size ≤ 140737488351232) (hs : StepsAt w A n ks ss) (hn : n ≤ 140737488355328) :
    Calls Tryd.prog 5 #[.int .i64 k, .int .i64 c, .int .i64 a, .string t, .slice A n cp] w fun e w' => e = .returned (.bool true) ∧ Below w.heap.size w w' := by
  have HP := Lib.hid hp
  have HG := Lib.hid hg
  have HS := Lib.hid hs
  clear hp hg hs
  go_enter Tryd.func5, Tryd.ntmps5
  go_wp2_with fail
  refine (awake_any w HP.out HG.out).mono ?_
  rintro r w1 ⟨rfl, hb1⟩
  have HB1 := Lib.hid hb1
  clear hb1
  go_wp2_with fail
  refine (begun_any k c a t w.heap.size w1 (HP.out.on HB1.out) hc ha).mono ?_
  rintro r w2 ⟨o, bk, rfl, hS, hb2, hrel⟩
  have HB2 := Lib.hid (HB1.out.then_ hb2)
  have HST := Lib.hid hS
  have HR := Lib.hid hrel
  clear hb2 hS hrel
  obtain ⟨th, bc, bp, bn, bt⟩ := bk
  simp only [Bk.val]
  go_wp2_with fail
  have hsm := begun_small HR.out hc ha
  simp only at hsm
  obtain ⟨rfl, hbt⟩ := hsm
  obtain ⟨w3, hw3⟩ : ∃ w3, w3 = w2.alloc (.cells #[.bool th, .int .i64 bc, .int .i64 bp, .slice none 0 0, .string ⟨bt.toArray⟩] 32) := ⟨_, rfl⟩
  have hb3 : Below w2.heap.size w2 w3 := by rw [hw3]; exact (Below.refl _ _).alloc (Nat.le_refl _) _
  have hk3 : w3.heap[w2.heap.size]? = some (.cells #[.bool th, .int .i64 bc, .int .i64 bp, .slice none 0 0, .string ⟨bt.toArray⟩] 32 (0, 0)) := by rw [hw3]; exact heap_alloc_new w2 _
  rw [← hw3]
  have hS3 := HST.out.keptBelow hb3
  have hb3' := HB2.out.then_ hb3
  refine (told_any o ⟨th, bc, bp, [], bt⟩ (.slice none 0 0) w.heap.size w3 hS3 (HP.out.on hb3') (HG.out.on hb3') (Nat.zero_le _)).mono ?_
  rintro r w4 ⟨rfl, hb4⟩
  have hS4 := hS3.keptBelow hb4
  have hk4 := (hb4.block _ (at_lt hk3)).trans hk3
  have H4 := Lib.hid (hb3'.then_ hb4)
  have HS4 := Lib.hid hS4
  have HK4 := Lib.hid hk4
  obtain ⟨q0, q1, q2, q3, q4⟩ := cells5 hk4
  have hgl : w2.heap.size < w4.heap.size := at_lt hk4
  have HBT := Lib.hid hbt
  have HH : Hid (w.heap.size ≤ w2.heap.size) := Lib.hid HB2.out.size
  clear hw3 hb3 hk3 hS3 hb3' hb4 hS4 hk4 HB1 HB2 HST w3 hbt
  go_wp2_with fail
  go_loopw [12, 14, 17, 18] (fun v12 v14 v17 v18 wr => ∃ (i sz : Nat) (o' : Option Err) (bk : Bk) (nv : Value), i ≤ n ∧ v12 = oval o' ∧ v14 = .bool true ∧ v17 = .int .i64 sz ∧ v18 = .int .i64 i ∧ StAt w.heap.size wr o' bk nv ∧
    wr.heap[w2.heap.size]? = some (.cells #[.bool bk.there, .int .i64 bk.code, .int .i64 bk.place, nv, .string ⟨bk.text.toArray⟩] 32 (0, 0)) ∧ wr.heap[w4.heap.size]? = some (.cells #[.bool th, .int .i64 bc, .int .i64 bp, .slice none 0 0, .string ⟨bt.toArray⟩] 32 (0, 0)) ∧
    (∀ e0, o = some e0 → ErrAt wr e0) ∧ Below w.heap.size w wr ∧ Inv sz bk ∧ bk.names.length ≤ 65536) (fun _ _ _ v18 _ => n - (intOf v18).toNat)
  case atStart =>
    have hb5 : Below w4.heap.size w4 (w4.alloc (.cells #[.bool th, .int .i64 bc, .int .i64 bp, .slice none 0 0, .string ⟨bt.toArray⟩] 32)) := (Below.refl _ _).alloc (Nat.le_refl _) _
    refine ⟨0, t.size, o, ⟨th, bc, bp, [], bt⟩, .slice none 0 0, Nat.zero_le _, rfl, rfl, rfl, rfl, HS4.out.keptBelow hb5, (hb5.block _ hgl).trans HK4.out, heap_alloc_new w4 _, fun e0 h0 => (HS4.out.some_ e0 h0).1.on hb5, H4.out.then_ hb5, ?_, Nat.zero_le _⟩
    have hbt := HBT.out
    exact Inv.start t.size _ rfl (by show bt.length ≤ _; omega) (by omega)
  case round =>
    obtain ⟨i, sz, o1, bk, nv, hi, rfl, rfl, rfl, rfl, hS, hbk, hfirst, hold, hb, hinv, hfew⟩ := hrel
    have hSt := HS.out.on hb
    have HFI := Lib.hid hfirst
    have HOL := Lib.hid hold
    by_cases hgo : i < n ∧ sz < 65536
    · obtain ⟨hlt, hsz⟩ := hgo
      obtain ⟨b, off, rfl, hbl, k0, k1, hss⟩ := hSt i hlt
      obtain ⟨p0, p1, p2, p3, p4⟩ := cells5 hbk
      have hrm := hinv.room hsz
      obtain ⟨hrm1, hrm2⟩ := hrm
      have HFEW := Lib.hid (hinv.few hsz)
      have HSt := Lib.hid hS
      have HBK := Lib.hid hbk
      have HIN := Lib.hid hinv
      clear hS hbk hinv hSt hfew hfirst hold q0 q1 q2 q3 q4
      obtain ⟨th', bc', bp', bn', bt'⟩ := bk
      obtain ⟨A', n', cp', rfl⟩ := HSt.out.names.form
      simp only at p0 p1 p2 p3 p4 hrm1 hrm2
      have HM1 := Lib.hid hrm1
      have HM2 := Lib.hid hrm2
      have HSS := Lib.hid hss
      have HSZ := Lib.hid hsz
      have hszb : decide ((sz : Int) < 65536) = true := by simp; omega
      clear hrm1 hrm2 hss hsz
      go_upto_region 11 with fail
      go_region_with (go_at_call 13; refine (more_at2 (ks i) (ss i) o1 ⟨th', bc', bp', bn', bt'⟩ A' n' cp' w.heap.size w _ ?_ ?_ ?_ ?_ ?_).mono ?_; exact HSt.out.keptBelow (Below.refl _ _).drew; exact hb.size; exact hb.drew; (have := HM1.out; have := HSS.out; simp only; omega); exact HM2.out; rintro r w3 ⟨o', bk', A2, n2, cp2, rfl, hX⟩; have hkk := (hX.2.2.2.2.1 _ _ HBK.out).trans HBK.out; obtain ⟨x0, x1, x2, x3, x4⟩ := cells5 hkk; have xf := frozen5 hkk; have HX := Lib.hid hX; clear hX hkk)
      all_goals
        obtain ⟨hS3, hr3, hn3, hb3, hbooks, herr, hsz3⟩ := HX.out
        have hbk3 := (hbooks _ _ HBK.out).trans HBK.out
        have hfi3 := (hbooks _ _ HFI.out).trans HFI.out
        have hge : w.heap.size ≤ w2.heap.size := HH.out
        have hlen : bt'.length ≤ 140737488420866 := HM1.out
        have hz := HSZ.out
        have hbdr : Below wr.heap.size wr wr.drew := (Below.refl _ _).drew
        obtain ⟨wn, hwn⟩ : ∃ wn, wn = put5 w3 w2.heap.size (.bool bk'.there) (.int .i64 bk'.code) (.int .i64 bk'.place) (.slice A2 n2 cp2) (.string ⟨bk'.text.toArray⟩) := ⟨_, rfl⟩
        have hgn := chain5_grown w3 w2.heap.size (.bool bk'.there) (.int .i64 bk'.code) (.int .i64 bk'.place) (.slice A2 n2 cp2) (.string ⟨bk'.text.toArray⟩)
        have hSn := hS3.chain5 hbk3 (.bool bk'.there) (.int .i64 bk'.code) (.int .i64 bk'.place) (.slice A2 n2 cp2) (.string ⟨bk'.text.toArray⟩)
        have hkn := chain5_at hbk3 (.bool bk'.there) (.int .i64 bk'.code) (.int .i64 bk'.place) (.slice A2 n2 cp2) (.string ⟨bk'.text.toArray⟩)
        have hbn := chain5_below hb3 hge (.bool bk'.there) (.int .i64 bk'.code) (.int .i64 bk'.place) (.slice A2 n2 cp2) (.string ⟨bk'.text.toArray⟩)
        have hfn : wn.heap[w4.heap.size]? = some (.cells #[.bool th, .int .i64 bc, .int .i64 bp, .slice none 0 0, .string ⟨bt.toArray⟩] 32 (0, 0)) := by rw [hwn]; exact (hgn.block _ (at_lt hfi3) (fun h => by injection h with h; omega)).trans hfi3
        have hon : ∀ e0, o = some e0 → ErrAt wn e0 := fun e0 h0 => by rw [hwn]; exact (herr e0 ((HOL.out e0 h0).on hbdr)).bookGrown hgn hbk3
        have hin := HIN.out.step HSZ.out HSS.out HSt.out hS3 hr3 hn3
        have hfew' := step_few HSt.out hS3 hr3 hn3
        have hf0 : bn'.length ≤ 65535 := HFEW.out
        have hfew : bk'.names.length ≤ 65536 := Nat.le_trans hfew' (Nat.succ_le_succ hf0)
        rw [← hwn] at hSn hkn hbn
        unfold put5 at hwn
        rw [← hwn]
        have HT := Lib.hid (told_any o' bk' (.slice A2 n2 cp2) w.heap.size wn hSn (HP.out.on hbn) (HG.out.on hbn) hfew)
        obtain ⟨y0, y1, y2, y3, y4⟩ := cells5 hkn
        have HSN := Lib.hid hSn
        have HKN := Lib.hid hkn
        have HBN := Lib.hid hbn
        have HFN := Lib.hid hfn
        have HON := Lib.hid hon
        have HINN := Lib.hid hin
        have HFW := Lib.hid hfew
        clear hS3 hr3 hn3 hb3 hbooks herr hsz3 hbk3 hfi3 hwn hgn hSn hkn hbn hfn hon hin hfew' hf0 hfew x0 x1 x2 x3 x4 xf HX hbdr
        go_wp2_with fail
        refine HT.out.mono ?_
        rintro r w5 ⟨rfl, hb5⟩
        have HB5 := Lib.hid hb5
        clear hb5 y0 y1 y2 y3 y4
        go_wp2_with fail
        refine ⟨⟨i + 1, sz + bt'.length, o', bk', .slice A2 n2 cp2, by omega, rfl, rfl, ?_, by go_num, HSN.out.keptBelow HB5.out, (HB5.out.block _ (at_lt HKN.out)).trans HKN.out, (HB5.out.block _ (at_lt HFN.out)).trans HFN.out, fun e0 h0 => (HON.out e0 h0).on HB5.out, HBN.out.then_ HB5.out, HINN.out, HFW.out⟩, ?_⟩
        · exact sum_slot sz bt'.length (by omega)
        · simp [intOf]; omega
    · by_cases hlt : i < n
      · have hsz : ¬ sz < 65536 := fun h => hgo ⟨hlt, h⟩
        have hszb : decide ((sz : Int) < 65536) = false := by simp; omega
        clear hsz hgo
        have hSf : StAt w.heap.size wr o ⟨th, bc, bp, [], bt⟩ (.slice none 0 0) := ⟨fun e0 h0 => ⟨HOL.out e0 h0, (HS4.out.some_ e0 h0).2⟩, HS4.out.none_, ⟨rfl, .inl ⟨rfl, rfl⟩⟩⟩
        obtain ⟨f0, f1, f2, f3, f4⟩ := cells5 hfirst
        have hT := told_any o ⟨th, bc, bp, [], bt⟩ (.slice none 0 0) w.heap.size wr hSf (HP.out.on hb) (HG.out.on hb) (Nat.zero_le _)
        have HT := Lib.hid hT
        have HB := Lib.hid hb
        clear hSf hT hS hbk hinv hSt hfew hfirst hold hb q0 q1 q2 q3 q4
        go_wp2_with fail
        refine HT.out.mono ?_
        rintro r w5 ⟨rfl, hb5⟩
        have HF := Lib.hid (HB.out.then_ hb5)
        clear hb5
        go_wp2_with fail
        go_ret
        exact ⟨rfl, HF.out⟩
      · have hge : ¬ (i : Int) < n := by omega
        clear hgo
        have hSf : StAt w.heap.size wr o ⟨th, bc, bp, [], bt⟩ (.slice none 0 0) := ⟨fun e0 h0 => ⟨HOL.out e0 h0, (HS4.out.some_ e0 h0).2⟩, HS4.out.none_, ⟨rfl, .inl ⟨rfl, rfl⟩⟩⟩
        obtain ⟨f0, f1, f2, f3, f4⟩ := cells5 hfirst
        have hT := told_any o ⟨th, bc, bp, [], bt⟩ (.slice none 0 0) w.heap.size wr hSf (HP.out.on hb) (HG.out.on hb) (Nat.zero_le _)
        have HT := Lib.hid hT
        have HB := Lib.hid hb
        clear hSf hT hS hbk hinv hSt hfew hfirst hold hb q0 q1 q2 q3 q4
        go_wp2_with fail
        refine HT.out.mono ?_
        rintro r w5 ⟨rfl, hb5⟩
        have HF := Lib.hid (HB.out.then_ hb5)
        clear hb5
        go_wp2_with fail
        go_ret
        exact ⟨rfl, HF.out⟩
end Go.Proofs.YtcohinfpcafcpaaDoor
