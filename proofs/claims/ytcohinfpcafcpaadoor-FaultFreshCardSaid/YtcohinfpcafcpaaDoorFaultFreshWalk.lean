/- The walk of FaultFresh: it returns true. Conditions: the listed variables of Go's library are as laid; each step's text is at most 2^47 bytes. -/
import Derived.Test.YtcohinfpcafcpaaDoorFaultLast
import Derived.Deep.RegionLaw
import Derived.Deep.CutBlock
namespace Go.Proofs.YtcohinfpcafcpaaDoor
open Go.RowKit Go.Extern.Stop Go.Stop Go.Extern Go.Sort

/-- what holds ahead of each round of the first loop -/
structure F1 (w w2 wr : World) (i sz : Nat) (e : Err) (nv lv : Value) (rs : List Rw) : Prop where
  st : StAt w.heap.size wr (some e) e.book nv
  bk : wr.heap[w2.heap.size]? = some (.cells #[.bool true, .int .i64 e.code, .int .i64 e.place, nv, .string ⟨e.text.toArray⟩] 32 (0, 0))
  be : Below w.heap.size w wr
  inv : Inv sz e.book
  big : 6 ≤ e.text.length
  cnt : 6 * i ≤ sz
  few : e.names.length ≤ 65536
  ls : Lists wr w.heap.size lv nv rs
  len : rs.length = 2 * i
  lim : i ≤ 65536
  small : ∀ r ∈ rs, r.n ≤ 65536
theorem cell_two_new (w : World) (x y : Value) (t : TypeId) : ∀ j u, [x, y][j]? = some u → (w.alloc (.cells #[x, y] t)).cell? ((⟨w.heap.size, 0, none⟩ : Addr).add j) = some u := by
  intro j u h
  match j, h with
  | 0, h => simpa [Addr.add, World.cell?_alloc_new] using h
  | 1, h => simpa [Addr.add, World.cell?_alloc_new] using h
  | j + 2, h => simp at h
theorem info_list : (Tryd.prog.info? 30).map (fun i => (i.zero, i.size, i.bytes)) = some (some (.slice none 0 0), 1, 24) := by kernel_rfl
theorem sum_slot2 (a b c : Nat) (h : a + (b + c * 100) ≤ 4611686018427387904) : Value.int .i64 (wrap64 ((a : Int) + wrap64 ((b : Int) + wrap64 (100 * (c : Int))))) = .int .i64 ((a + (b + c * 100) : Nat) : Int) := by
  rw [IntWalk.wrap64_in (100 * (c : Int)) (by omega), IntWalk.wrap64_in ((b : Int) + 100 * (c : Int)) (by omega), IntWalk.wrap64_in ((a : Int) + ((b : Int) + 100 * (c : Int))) (by omega)]
  congr 1
  omega

set_option maxRecDepth 100000 in
set_option maxHeartbeats 4000000 in
theorem faultFresh_any (c0 a : Int) (A : Option Addr) (n cp : Nat) (ks : Nat → Int) (ss : Nat → ByteArray) (w : World) (hp : Pow10 w) (hg : ErrTy w) (hcc : In64 c0) (ha : In64 a) (hs : StepsAt w A n ks ss) (hn : n ≤ 140737488355328) :
    Calls Tryd.prog 6 #[.int .i64 c0, .int .i64 a, .slice A n cp] w fun e w' => e = .returned (.bool true) ∧ Below w.heap.size w w' := by
  have HP := Lib.hid hp
  have HG := Lib.hid hg
  have HS := Lib.hid hs
  clear hp hg hs
  go_enter Tryd.func6, Tryd.ntmps6
  go_wp2_with fail
  refine (awake_any w HP.out HG.out).mono ?_
  rintro r w1 ⟨rfl, hb1⟩
  go_upto_if 22 with fail
  go_cut [0] from 20 (fun v0 wx => ∃ c : Int, v0 = .int .i64 c ∧ In64 c ∧ (c == 0) = false ∧ Below w.heap.size w wx)
  case first =>
    by_cases hc1 : c0 = 0
    · subst hc1
      go_wp2_with fail
      go_meet
      case rel => exact ⟨17, rfl, ⟨by decide, by decide⟩, rfl, hb1⟩
    · have hcb : (c0 == 0) = false := by simpa using hc1
      go_wp2_with fail
      go_meet
      case rel => exact ⟨c0, rfl, hcc, hcb, hb1⟩
  clear hb1 hcc w1
  obtain ⟨c, rfl, hc, hc0, hb1⟩ := hcut
  obtain ⟨w1, rfl⟩ : ∃ w1, w1 = wc := ⟨_, rfl⟩
  have HB1 := Lib.hid hb1
  clear hb1
  go_wp2_with fail
  refine (begun_any 1 c a ⟨#[]⟩ w.heap.size w1 (HP.out.on HB1.out) hc ha).mono ?_
  rintro r w2 ⟨o, bk, rfl, hS, hb2, hrel⟩
  have HB2 := Lib.hid (HB1.out.then_ hb2)
  have HST := Lib.hid hS
  have HR := Lib.hid hrel
  clear hb2 hS hrel
  obtain ⟨e, hoe, hroot, rfl⟩ : ∃ e, o = some e ∧ (∃ b, e = .met b c a) ∧ bk = e.book := by
    rcases HR.out with ⟨_, h0, _⟩ | ⟨_, _, b, h1, h2⟩ | ⟨h, _⟩ | ⟨h, _⟩ | ⟨h, _⟩
    · subst h0; cases hc0
    · exact ⟨_, h1, ⟨b, rfl⟩, h2⟩
    · cases h
    · cases h
    · exact absurd rfl h
  subst hoe
  have HRoot := Lib.hid hroot
  clear hroot HR
  simp only [Err.book, Bk.val, oval_some]
  go_upto_block 0 with fail
  go_cut [8, 10] from 20 (fun v8 v10 wx => ∃ (i sz : Nat) (e : Err) (nv lv : Value) (rs : List Rw), v8 = .iface e.ty e.dat ∧ v10 = lv ∧ F1 w w2 wx i sz e nv lv rs)
  case first =>
    go_wp2_with fail
    go_loopw [8, 10, 11, 12] (fun v8 v10 v11 v12 wr => ∃ (i sz : Nat) (e : Err) (nv lv : Value) (rs : List Rw), i ≤ n ∧ v8 = .iface e.ty e.dat ∧ v10 = lv ∧ v11 = .int .i64 sz ∧ v12 = .int .i64 i ∧ F1 w w2 wr i sz e nv lv rs) (fun _ _ _ v12 _ => n - (intOf v12).toNat)
    case atStart =>
      obtain ⟨b, rfl⟩ := HRoot.out
      have l0 := itoa_len c hc.1 hc.2
      have l1 := itoa_len a ha.1 ha.2
      have hb5 : Below w2.heap.size w2 (w2.alloc (.cells #[.bool true, .int .i64 (Err.met b c a).code, .int .i64 (Err.met b c a).place, .slice none 0 0, .string ⟨(Err.met b c a).text.toArray⟩] 32)) := (Below.refl _ _).alloc (Nat.le_refl _) _
      refine ⟨0, 0, .met b c a, .slice none 0 0, .slice none 0 0, [], Nat.zero_le _, rfl, rfl, rfl, rfl, ⟨HST.out.keptBelow hb5, heap_alloc_new w2 _, HB2.out.then_ hb5, Inv.start 0 _ rfl ?_ (Nat.zero_le _), ?_, Nat.le_refl _, Nat.zero_le _, lists_nil _ _ _, rfl, Nat.zero_le _, fun r hr => (by cases hr)⟩⟩
      · simp [Err.book, Err.text, tErr, tAt]; omega
      · simp [Err.text, tErr, tAt]
    case round =>
      obtain ⟨i, sz, e1, nv, lv, rs, hi, rfl, rfl, rfl, rfl, hF⟩ := hrel
      have HF := Lib.hid hF
      have hN : OwnsTexts wr w.heap.size nv e1.names := hF.st.names
      obtain ⟨A', cp', rfl⟩ := hN.len
      clear hN
      have hSt := HS.out.on hF.be
      have hbk := hF.bk
      clear hF
      by_cases hgo : i < n ∧ sz < 65536
      · obtain ⟨hlt, hsz⟩ := hgo
        obtain ⟨b, off, rfl, hbl, k0, k1, hss⟩ := hSt i hlt
        obtain ⟨p0, p1, p2, p3, p4⟩ := cells5 hbk
        have HSS := Lib.hid hss
        have HSZ := Lib.hid hsz
        have hszb : decide ((sz : Int) < 65536) = true := by simp; omega
        clear hss hsz hSt hbk
        go_upto_region 11 with fail
        have hln : (ss i).size + 9 + e1.text.length ≤ 9223372036854775807 := by
          have h1 := (HF.out.inv.room HSZ.out).1
          have h2 : e1.book.text.length = e1.text.length := rfl
          have h3 := HSS.out
          omega
        have HM := Lib.hid (more_at3 (ks i) (ss i) e1 A' e1.names.length cp' u10 rs w.heap.size w wr.drew (HF.out.st.keptBelow (Below.refl _ _).drew) HF.out.be.size HF.out.be.drew (HF.out.ls.on (Below.refl _ _).drew) hln HF.out.few)
        clear hln
        go_region_with (go_at_call 13; refine HM.out.mono ?_; rintro r w3 ⟨e2, A2, n2, cp2, rfl, hX⟩; have hkk := (hX.2.2.2.1 _ _ HF.out.bk).trans HF.out.bk; obtain ⟨x0, x1, x2, x3, x4⟩ := cells5 hkk; have xf := frozen5 hkk; have HX := Lib.hid hX; clear hX hkk)
        all_goals
          obtain ⟨hS3, hr3, hb3, hbooks, hL3, hsz3⟩ := HX.out
          have hbk3 := (hbooks _ _ HF.out.bk).trans HF.out.bk
          have hge : w.heap.size ≤ w2.heap.size := HB2.out.size
          obtain ⟨wn, hwn⟩ : ∃ wn, wn = put5 w3 w2.heap.size (.bool true) (.int .i64 e2.code) (.int .i64 e2.place) (.slice A2 n2 cp2) (.string ⟨e2.text.toArray⟩) := ⟨_, rfl⟩
          have hgn := chain5_grown w3 w2.heap.size (.bool true) (.int .i64 e2.code) (.int .i64 e2.place) (.slice A2 n2 cp2) (.string ⟨e2.text.toArray⟩)
          have hSn := hS3.chain5 hbk3 (.bool true) (.int .i64 e2.code) (.int .i64 e2.place) (.slice A2 n2 cp2) (.string ⟨e2.text.toArray⟩)
          have hkn := chain5_at hbk3 (.bool true) (.int .i64 e2.code) (.int .i64 e2.place) (.slice A2 n2 cp2) (.string ⟨e2.text.toArray⟩)
          have hbn := chain5_below hb3 hge (.bool true) (.int .i64 e2.code) (.int .i64 e2.place) (.slice A2 n2 cp2) (.string ⟨e2.text.toArray⟩)
          have hLn : Lists wn w.heap.size u10 (.slice A2 n2 cp2) rs := by rw [hwn]; exact hL3.book hgn hbk3
          have hin := HF.out.inv.step HSZ.out HSS.out HF.out.st hS3 hr3 (fun h => by cases h)
          have hfew' := step_few HF.out.st hS3 hr3 (fun h => by cases h)
          have hf0 : e1.book.names.length ≤ 65535 := HF.out.inv.few HSZ.out
          have hfew : e2.names.length ≤ 65536 := Nat.le_trans hfew' (Nat.succ_le_succ hf0)
          have hbig := step_big hr3 HF.out.big
          rw [← hwn] at hSn hkn hbn
          unfold put5 at hwn
          rw [← hwn]
          have HSN := Lib.hid hSn
          have HKN := Lib.hid hkn
          have HBN := Lib.hid hbn
          have HLN := Lib.hid hLn
          have HIN := Lib.hid hin
          have HFW := Lib.hid hfew
          have HBG := Lib.hid hbig
          have HE2 := Lib.hid (hSn.some_ e2 rfl).1
          clear hS3 hr3 hb3 hbooks hL3 hsz3 hbk3 hwn hgn hSn hkn hbn hLn hin hfew' hf0 hfew hbig x0 x1 x2 x3 x4 xf HX HM p0 p1 p2 p3 p4 k0 k1
          go_wp2_with fail
          refine (trail_any e2 wn HE2.out (HG.out.on HBN.out) HFW.out).mono ?_
          rintro r wa ⟨va, rfl, hva, hba⟩
          have HVA := Lib.hid hva
          have HBA := Lib.hid hba
          clear hva hba
          go_wp2_with fail
          refine (trail_any e2 wa (HE2.out.on HBA.out) ((HG.out.on HBN.out).on HBA.out) HFW.out).mono ?_
          rintro r wb ⟨vb, rfl, hvb, hbb⟩
          have HVB := Lib.hid hvb
          have HBB := Lib.hid hbb
          clear hvb hbb
          obtain ⟨ra, rfl, hra, hga, hna⟩ := rowOf HVA.out
          obtain ⟨rb, rfl, hrb, hgb, hnb⟩ := rowOf HVB.out
          have HRA := Lib.hid (And.intro hra (And.intro hga hna))
          have HRB := Lib.hid (And.intro hrb (And.intro hgb hnb))
          clear hra hrb hga hgb hna hnb
          have hwb := (HBA.out.then_ HBB.out)
          have HOWN := Lib.hid ((HLN.out.on hwb).own.alloc (.cells #[ra.val, rb.val] 30))
          have hlen : rs.length ≤ 65536 := by have h1 := HF.out.len; have h2 := HF.out.cnt; have h3 := HSZ.out; omega
          clear hwb
          simp only [Rw.val] at HOWN ⊢
          obtain ⟨j0, hj, hz0, hz1, hz2⟩ := info_parts info_list
          go_wp2_with (at_builtin; refine wpList_append_own _ rfl (.tmp 59) (.tmp 64) 43 rfl w.heap.size 30 j0 (.slice none 0 0) 1 24 Tryd.underlying43 hj hz0 hz1 hz2 rfl (by decide) u10 rs.length (rs.map Rw.val) rfl HOWN.out ⟨wb.heap.size, 0, none⟩ 2 2 [.slice (ra.g.map fun b => ⟨b, 0, none⟩) ra.n ra.c, .slice (rb.g.map fun b => ⟨b, 0, none⟩) rb.n rb.c] rfl rfl (cell_two_new _ _ _ _) (by simp [Value.oneCell']) ?_ ?_ ?_ ?_)
          · unfold maxLen; omega
          · omega
          · have h1 := HBN.out.size; have h2 := HBA.out.size; have h3 := HBB.out.size; simp; omega
          intro lv' wc hown2 hgr2 _
          have HO2 := Lib.hid hown2
          have HG2 := Lib.hid hgr2
          clear hown2 hgr2
          go_wp2_with fail
          have hwd : Below wn.heap.size wn (wb.alloc (.cells #[.slice (ra.g.map fun b => ⟨b, 0, none⟩) ra.n ra.c, .slice (rb.g.map fun b => ⟨b, 0, none⟩) rb.n rb.c] 30)) := (HBA.out.then_ HBB.out).alloc (by have h2 := HBA.out.size; have h3 := HBB.out.size; omega) _
          have hLd := HLN.out.on hwd
          have hrow := hLd.block
          have hbb1 : Below wb.heap.size wb (wb.alloc (.cells #[.slice (ra.g.map fun b => ⟨b, 0, none⟩) ra.n ra.c, .slice (rb.g.map fun b => ⟨b, 0, none⟩) rb.n rb.c] 30)) := (Below.refl _ _).alloc (Nat.le_refl _) _
          have hB : w.heap.size ≤ wn.heap.size := HBN.out.size
          have hra := ((HRA.out.1.on HBB.out).on hbb1).mono hB
          have hrb := (HRB.out.1.on hbb1).mono (Nat.le_trans hB HBA.out.size)
          have hda : ∀ b, ra.g = some b → wn.heap.size ≤ b ∧ b < wa.heap.size := fun b hb => ⟨(HRA.out.1.at_ b hb).1, HRA.out.1.lt hb⟩
          have hdb : ∀ b, rb.g = some b → wa.heap.size ≤ b := fun b hb => (HRB.out.1.at_ b hb).1
          have hadd := HLN.out.add (fun k hk => (HSN.out.names.lt k hk).2) hra hrb hwd (fun b hb => (hda b hb).1) (fun b hb => Nat.le_trans HBA.out.size (hdb b hb)) (by
            cases hg : ra.g with
            | none => exact .inl rfl
            | some b => exact .inr fun e => by have h1 := (hda b hg).2; have h2 := hdb b e.symm; omega) HG2.out HO2.out
          have hz := HSZ.out
          have hf1 : e1.names.length ≤ 65536 := HF.out.few
          have ht1 : e1.text.length ≤ 140737488420866 := (HF.out.inv.room hz).1
          have hbg := HF.out.big
          have hcn := HF.out.cnt
          have hle : rs.length = 2 * i := HF.out.len
          have hsm : ∀ r ∈ rs ++ [ra, rb], r.n ≤ 65536 := fun r hr => by
            rcases List.mem_append.1 hr with hr | hr
            · exact HF.out.small r hr
            · simp only [List.mem_cons, List.not_mem_nil, or_false] at hr
              rcases hr with rfl | rfl
              · rw [HRA.out.2.2]; exact HFW.out
              · rw [HRB.out.2.2]; exact HFW.out
          refine ⟨⟨i + 1, sz + (e1.text.length + e1.names.length * 100), e2, .slice A2 n2 cp2, lv', rs ++ [ra, rb], by omega, rfl, rfl, sum_slot2 _ _ _ (by omega), by simp, ⟨(HSN.out.keptBelow hwd).listGrown HG2.out hrow, book_listGrown HG2.out hrow ((hwd.block _ (at_lt HKN.out)).trans HKN.out), (HBN.out.then_ hwd).grown HG2.out (Nat.le_trans hB hwd.size) (fun k hk => (hLd.own.lt k hk).1), HIN.out.more (by have : e1.book.text.length = e1.text.length := rfl; omega) (by omega), HBG.out, by omega, HFW.out, hadd, by simp [hle]; omega, by omega, hsm⟩⟩, ?_⟩
          simp [intOf]
          omega
      · by_cases hlt : i < n
        · have hsz : ¬ sz < 65536 := fun h => hgo ⟨hlt, h⟩
          have hszb : decide ((sz : Int) < 65536) = false := by simp; omega
          have HSZ := Lib.hid hsz
          clear hsz hgo hbk hSt
          go_wp2_with fail
          go_meet
          case rel => exact ⟨i, sz, e1, _, _, rs, rfl, rfl, HF.out⟩
        · have hge : ¬ (i : Int) < n := by omega
          clear hgo hbk hSt
          go_wp2_with fail
          go_meet
          case rel => exact ⟨i, sz, e1, _, _, rs, rfl, rfl, HF.out⟩
  case rest =>
    obtain ⟨i, sz, e1, nv, lv, rs, rfl, rfl, hF⟩ := hcut
    have HF := Lib.hid hF
    have hN : OwnsTexts wc w.heap.size nv e1.names := hF.st.names
    obtain ⟨A', cp', rfl⟩ := hN.len
    clear hN hF
    obtain ⟨W0, rfl⟩ : ∃ W0, W0 = wc := ⟨_, rfl⟩
    have HBW := Lib.hid HF.out.be
    obtain ⟨LA, LC, rfl⟩ := HF.out.ls.len
    obtain ⟨m, hm⟩ : ∃ m, m = rs.length := ⟨_, rfl⟩
    have HM := Lib.hid hm
    have hml : m ≤ 131072 := by have h1 := HF.out.len; have h2 := HF.out.lim; omega
    have HL := Lib.hid HF.out.ls
    rw [← hm] at HL ⊢
    clear hm
    go_wp2_with fail
    go_loopw [13] (fun v13 W => ∃ (q : Nat) (M : Nat → Nat), q ≤ m ∧ v13 = .int .i64 q ∧ FR w.heap.size W0 W rs M ∧ ∀ j, j < q → nOf rs j ≤ M j) (fun v13 _ => m - (intOf v13).toNat)
    case atStart => exact ⟨0, fun _ => 0, Nat.zero_le _, rfl, FR.start HL.out, fun j hj => absurd hj (Nat.not_lt_zero j)⟩
    case round =>
      obtain ⟨q, M, hq, rfl, hFR, hMq⟩ := hrel
      obtain ⟨W1, rfl⟩ : ∃ W1, W1 = wr := ⟨_, rfl⟩
      by_cases hlq : q < m
      · obtain ⟨r, hr⟩ : ∃ r, rs[q]? = some r := ⟨_, List.getElem?_eq_getElem (by rw [← HM.out]; exact hlq)⟩
        obtain ⟨g, rfl, hgl, hgc, hgr⟩ := HL.out.cell hr
        have HFR := Lib.hid hFR
        have HMQ := Lib.hid hMq
        have HGC := Lib.hid (And.intro hgl (And.intro hgc hgr))
        have HR' := Lib.hid hr
        clear hFR hMq hgl hgc hgr hr
        go_wp2_with fail
        go_loopw [14] (fun v14 W' => ∃ (k : Nat) (M' : Nat → Nat), k ≤ r.n ∧ v14 = .int .i64 k ∧ FR w.heap.size W0 W' rs M' ∧ (∀ j, j < q → nOf rs j ≤ M' j) ∧ k ≤ M' q) (fun v14 _ => r.n - (intOf v14).toNat)
        case atStart => exact ⟨0, M, Nat.zero_le _, rfl, HFR.out, HMQ.out, Nat.zero_le _⟩
        case round =>
          obtain ⟨k, M', hk, rfl, hFR, hMq, hkM⟩ := hrel
          have kc := hFR.cell HGC.out.2.1 HGC.out.1 HGC.out.2.2
          have hBw := hFR.below HBW.out (Nat.le_refl _)
          have HPW := Lib.hid (HP.out.on hBw)
          have hgw : g < wr.heap.size := Nat.lt_of_lt_of_le HGC.out.1 hFR.size
          have HF' := Lib.hid hFR
          have HMQ' := Lib.hid hMq
          have HKM := Lib.hid hkM
          clear hFR hMq hkM hBw
          by_cases hlk : k < r.n
          · have hkc : k < r.c := Nat.lt_of_lt_of_le hlk (HF'.out.row r (List.mem_of_getElem? HR'.out)).le
            obtain ⟨b, hb⟩ := (HF'.out.row r (List.mem_of_getElem? HR'.out)).some hkc
            rw [Rw.val_some hb] at kc
            obtain ⟨old, hold⟩ := HF'.out.cell_row HR'.out hb hkc
            have HOL := Lib.hid hold
            have HB := Lib.hid hb
            have hlt := itoa_len q (by omega) (by omega)
            have hl1 : ¬ 9223372036854775807 < 5 + (Lib.itoa q).length := by omega
            have HKC := Lib.hid hkc
            have hnc : r.n ≤ r.c := (HF'.out.row r (List.mem_of_getElem? HR'.out)).le
            have hmx : r.c ≤ 9223372036854775807 := (HF'.out.row r (List.mem_of_getElem? HR'.out)).max
            clear hold hb hlt hkc
            go_wp2_with fail
            go_region_with (go_at_call 17; refine (itoa_any q (by omega) (by omega) _ (HPW.out.on (Below.refl _ _).drew)).mono ?_; rintro r' w' ⟨rfl, hb'⟩; have hbb := Below.then_ (Below.refl wr.heap.size wr).drew hb'; obtain ⟨ko, kf⟩ := HOL.out w' hbb; have kc' := (hbb.cell (p := ⟨g, q, none⟩) hgw).trans kc; have HX := Lib.hid hbb; clear hbb hb')
            all_goals
              go_wp2_with fail
              refine ⟨⟨k + 1, _, by omega, by simp, by rw [mark_text]; exact (HF'.out.on HX.out).store HR'.out HB.out HKC.out HKM.out, fun j hj => ?_, by simp⟩, by simp [intOf]; omega⟩
              rw [if_neg (by omega)]
              exact HMQ'.out j hj
          · have hge : ¬ (k : Int) < r.n := by omega
            have hkn : r.n ≤ M' q := Nat.le_trans (by omega) HKM.out
            have HKN := Lib.hid hkn
            clear hkn hlk
            simp only [Rw.val] at kc
            go_wp2_with fail
            refine ⟨⟨q + 1, M', by omega, by simp, HF'.out, fun j hj => ?_⟩, by simp [intOf]; omega⟩
            by_cases hjq : j = q
            · rw [hjq, nOf_some HR'.out]; exact HKN.out
            · exact HMQ'.out j (by omega)
      · have hge : ¬ (q : Int) < m := by omega
        obtain rfl : q = m := by omega
        have HFR := Lib.hid hFR
        have HMQ := Lib.hid hMq
        have hBw := hFR.below HBW.out (Nat.le_refl _)
        have hsw := hBw.size
        obtain ⟨j0, hj0, hz0, hz1, hz2⟩ := info_parts info_list
        clear hFR hMq hBw hlq
        go_wp2_with (at_make; refine wpList_make_full _ rfl _ _ 43 rfl w.heap.size 30 j0 (.slice none 0 0) 1 Tryd.underlying43 hj0 hz0 hz1 .i64 .i64 (q : Int) (q : Int) q rfl rfl rfl rfl (by rw [hz2]; omega) (by unfold maxLen; omega) hsw ?_)
        intro w4 hown4 hg4
        obtain ⟨G, hG⟩ : ∃ G, G = W1.heap.size := ⟨_, rfl⟩
        rw [← hG] at hown4 ⊢
        have hGW : W0.heap.size ≤ G := by rw [hG]; exact HFR.out.size
        have hb4 : Below W1.heap.size W1 w4 := ⟨hg4.os, hg4.tape, hg4.output, hg4.size, fun k hk => hg4.block k hk (by simp)⟩
        have HGR := Lib.hid (GR.start (M := M) hown4 HM.out)
        have HFR4 := Lib.hid (HFR.out.on hb4)
        have HGW := Lib.hid hGW
        clear hown4 hg4 hG hb4 hGW HFR
        go_wp2_with fail
        go_loopw [16] (fun v16 W => ∃ (p : Nat) (M L : Nat → Nat), p ≤ q ∧ v16 = .int .i64 p ∧ FR w.heap.size W0 W rs M ∧ GR W G rs M L p ∧ ∀ j, j < q → nOf rs j ≤ M j) (fun v16 _ => q - (intOf v16).toNat)
        case atStart => exact ⟨0, M, fun _ => 0, Nat.zero_le _, rfl, HFR4.out, HGR.out, HMQ.out⟩
        case round =>
          obtain ⟨p, M2, L2, hpq, rfl, hFR, hGR, hMq⟩ := hrel
          obtain ⟨W2, rfl⟩ : ∃ W2, W2 = wr := ⟨_, rfl⟩
          by_cases hlp : p < q
          · have hplen : p < rs.length := by rw [← HM.out]; exact hlp
            obtain ⟨r, hr⟩ : ∃ r, rs[p]? = some r := ⟨_, List.getElem?_eq_getElem hplen⟩
            obtain ⟨g, rfl, hgl, hgc, hgr⟩ := HL.out.cell hr
            have kc := hFR.cell hgc hgl hgr
            obtain ⟨old, hold⟩ := hGR.free hplen
            obtain ⟨ko, kf⟩ := hold W2 rfl
            have hrn : r.n ≤ M2 p := by have := hMq p hlp; rw [nOf_some hr] at this; exact this
            have hrc := (hFR.row r (List.mem_of_getElem? hr)).le
            have hGR1 := hGR.set (p' := p + 1) hr (fun j hj => by omega) hrn hrc
            have hFR1 := hFR.off (grown_set W2 G p (r.val' r.n)) HGW.out
            have HF1 := Lib.hid hFR1
            have HG1 := Lib.hid hGR1
            have HMQ2 := Lib.hid hMq
            have HGC := Lib.hid (And.intro hgl (And.intro hgc hgr))
            have HR' := Lib.hid hr
            have HRN := Lib.hid hrn
            clear hFR1 hGR1 hMq hgl hgc hgr hr hold hrn hrc hFR hGR
            simp only [Rw.val] at kc
            go_wp2_with fail
            have hv : (Value.slice (Option.map (fun b => (⟨b, 0, none⟩ : Addr)) r.g) r.n r.c) = r.val' r.n := rfl
            rw [hv]
            obtain ⟨W3, hW3⟩ : ∃ W3, W3 = W2.setCell ⟨G, p, none⟩ (r.val' r.n) := ⟨_, rfl⟩
            rw [← hW3] at HF1 HG1 ⊢
            clear hv hW3 kc ko kf
            go_loopg [106] r.c (fun nn _ wr => ∃ (k : Nat) (M L : Nat → Nat), FR w.heap.size W0 wr rs M ∧ GR wr G rs M L (p + 1) ∧ L p = k ∧ r.n ≤ k ∧ (∀ j, j < q → nOf rs j ≤ M j) ∧ r.c - k ≤ nn)
            case atStart => exact ⟨r.n, M2, _, HF1.out, HG1.out, by simp, Nat.le_refl _, HMQ2.out, by omega⟩
            case round =>
              obtain ⟨k, M3, L3, hFR, hGR, hLk, hnk, hMq, hnn⟩ := hrel
              have kc := hFR.cell HGC.out.2.1 HGC.out.1 HGC.out.2.2
              have kG := hGR.cell HR'.out (Nat.lt_succ_self p)
              rw [hLk] at kG
              simp only [Rw.val, Rw.val'] at kc kG
              have hBw := hFR.below HBW.out (Nat.le_refl _)
              have HPW := Lib.hid (HP.out.on hBw)
              have hgw : g < wr.heap.size := Nat.lt_of_lt_of_le HGC.out.1 hFR.size
              have hkM := (hGR.lens p r HR'.out (Nat.lt_succ_self p)).1
              have hkc := (hGR.lens p r HR'.out (Nat.lt_succ_self p)).2
              rw [hLk] at hkM hkc
              have HF3 := Lib.hid hFR
              have HG3 := Lib.hid hGR
              have HMQ3 := Lib.hid hMq
              have HKM := Lib.hid hkM
              have HKC := Lib.hid hkc
              have HLK := Lib.hid hLk
              have HNK := Lib.hid hnk
              have hmx : r.c ≤ 9223372036854775807 := (hFR.row r (List.mem_of_getElem? HR'.out)).max
              clear hFR hGR hMq hBw hkM hkc hLk hnk
              by_cases hgo : k < r.c ∧ k < r.n + 3000
              · obtain ⟨hk1, hk2⟩ := hgo
                have hnl : r.n ≤ 65536 := HF.out.small r (List.mem_of_getElem? HR'.out)
                have e1' : (k : Int) < r.c := by omega
                have e2' : (k : Int) < r.n + 3000 := by omega
                go_wp2_with fail
                go_quiet (fail)
                go_wp2_with fail
                generalize hx : World.drewN wr _ = W5
                have hb5 : Below wr.heap.size wr W5 := by rw [← hx]; exact bdn (Below.refl _ _) _
                have hFR5 := HF3.out.on hb5
                have hGR5 := HG3.out.keep (M' := M3) (hb5.block _ HG3.out.lt) (fun j r hj hq => (HG3.out.lens j r hj hq).1)
                obtain ⟨b, hb⟩ := (hFR5.row r (List.mem_of_getElem? HR'.out)).some hk1
                have kG5 := hGR5.cell HR'.out (Nat.lt_succ_self p)
                rw [HLK.out] at kG5
                simp only [Rw.val', hb, Option.map_some] at kG5
                obtain ⟨old, hold⟩ := hFR5.cell_row HR'.out hb hk1
                have hGlt : G < W5.heap.size := hGR5.lt
                have hbG : b ≠ G := fun e => by
                  have h1 := hFR5.old r (List.mem_of_getElem? HR'.out) b hb
                  have h2 := HGW.out
                  omega
                have hlt := itoa_len p (by omega) (by omega)
                have hl1 : ¬ 9223372036854775807 < 5 + (Lib.itoa p).length := by omega
                have HPW5 := Lib.hid (HPW.out.on hb5)
                obtain ⟨i0, hi0, hy0, hy1, hy2⟩ := info_parts info_string
                have HOL := Lib.hid hold
                have HF5 := Lib.hid hFR5
                have HG5 := Lib.hid hGR5
                have HB := Lib.hid hb
                have HBG := Lib.hid hbG
                clear hb5 hFR5 hGR5 hold hb hbG hlt hx kc kG e1' e2' hgw
                obtain ⟨oldG, hfG⟩ := HG5.out.free hplen
                have HFG := Lib.hid hfG
                have HGL := Lib.hid hGlt
                clear hfG
                go_region_law (first | (refine step_append_room rfl (.tmp 136) (.tmp 140) 30 rfl 9 i0 1 Tryd.underlying30 hi0 hy1 b 0 k r.c (by simp [Act.eval]) ⟨w'.heap.size, 0, none⟩ 1 1 [(.string (⟨#[109, 97, 114, 107, 32]⟩ ++ ⟨(Lib.itoa p).toArray⟩))] (by simp [Act.eval]) rfl (cell_one_new _ _ _) (by simp [Value.oneCell']) (by omega) (room1 HOL.out HX.out _) ?_; rw [setCells_one]; obtain ⟨kGz, fGz⟩ := after1 b k (.string (⟨#[109, 97, 114, 107, 32]⟩ ++ ⟨(Lib.itoa p).toArray⟩)) (fun e => HBG.out e.symm) (Nat.lt_of_lt_of_le HGL.out HX.out.size) kGw fGw) | (go_simp; go_at_call 17; refine (itoa_any p (by omega) (by omega) _ (HPW5.out.on (Below.refl _ _).drew)).mono ?_; rintro r' w' ⟨rfl, hb'⟩; have hbb := Below.then_ (Below.refl W5.heap.size W5).drew hb'; have kGw := (hbb.cell (p := ⟨G, p, none⟩) HGL.out).trans kG5; have fGw := (HFG.out w' (hbb.block G HGL.out)).2; have kGa := (World.cell?_of_block (a := ⟨G, p, none⟩) (Below.heap_alloc w' (.cells #[(.string (⟨#[109, 97, 114, 107, 32]⟩ ++ ⟨(Lib.itoa p).toArray⟩))] 9) G (Nat.lt_of_lt_of_le HGL.out hbb.size))).trans kGw; have HX := Lib.hid hbb; clear hbb hb'))
                all_goals
                  have hwa : Below W5.heap.size W5 (w'.alloc (.cells #[.string (⟨#[109, 97, 114, 107, 32]⟩ ++ ⟨(Lib.itoa p).toArray⟩)] 9)) := HX.out.alloc HX.out.size _
                  have hFa := (HF5.out.on hwa).store HR'.out HB.out hk1 HKM.out
                  rw [← mark_text] at hFa
                  have hGG : G ≠ b := fun e => HBG.out e.symm
                  have hGa := HG5.out.keep (M' := fun j => if j = p then k + 1 else M3 j) ((Below.heap_setCell _ ⟨b, k, none⟩ (.string (⟨#[109, 97, 114, 107, 32]⟩ ++ ⟨(Lib.itoa p).toArray⟩)) G hGG).trans (hwa.block G HGL.out)) (fun j s hj hq => by
                    by_cases hjp : j = p
                    · rw [if_pos hjp, hjp, HLK.out]; omega
                    · rw [if_neg hjp]; exact (HG5.out.lens j s hj hq).1)
                  have hGb := hGa.set (p' := p + 1) (n := k + 1) HR'.out (fun j hj => .inl hj) (by simp) hk1
                  have hFb := hFa.off (grown_set _ G p (r.val' (k + 1))) HGW.out
                  simp only [Rw.val', HB.out, Option.map_some] at hGb hFb
                  have HGb := Lib.hid hGb
                  have HFb := Lib.hid hFb
                  clear hwa hFa hGG hGa hGb hFb
                  go_wp2_with fail
                  go_roundg (r.c - (k + 1))
                  case rel =>
                    refine ⟨k + 1, _, _, HFb.out, HGb.out, by simp, by have := HNK.out; omega, fun j hj => ?_, Nat.le_refl _⟩
                    by_cases hjp : j = p
                    · rw [if_pos hjp, hjp, nOf_some HR'.out]; have := HNK.out; omega
                    · rw [if_neg hjp]; exact HMQ3.out j hj
                  case measure => omega
              · have hnl0 : r.n ≤ 65536 := HF.out.small r (List.mem_of_getElem? HR'.out)
                by_cases hk1 : k < r.c
                · have hk2 : ¬ k < r.n + 3000 := fun h => hgo ⟨hk1, h⟩
                  have e1' : (k : Int) < r.c := by omega
                  have e2' : ¬ (k : Int) < r.n + 3000 := by omega
                  go_wp2_with fail
                  go_quiet (fail)
                  go_wp2_with fail
                  exact ⟨⟨p + 1, M3, L3, by omega, by simp, HF3.out.on (bdn (Below.refl _ _) _), HG3.out.keep ((bdn (Below.refl _ _) _).block _ HG3.out.lt) (fun j r hj hq => (HG3.out.lens j r hj hq).1), HMQ3.out⟩, by simp [intOf]; omega⟩
                · have e1' : ¬ (k : Int) < r.c := by omega
                  go_wp2_with fail
                  go_quiet (fail)
                  go_wp2_with fail
                  exact ⟨⟨p + 1, M3, L3, by omega, by simp, HF3.out.on (bdn (Below.refl _ _) _), HG3.out.keep ((bdn (Below.refl _ _) _).block _ HG3.out.lt) (fun j r hj hq => (HG3.out.lens j r hj hq).1), HMQ3.out⟩, by simp [intOf]; omega⟩
          · have hge : ¬ (p : Int) < q := by omega
            obtain rfl : p = q := by omega
            have HF2 := Lib.hid hFR
            have HG2 := Lib.hid hGR
            clear hFR hGR hMq hlp
            go_wp2_with fail
            go_wp2_with fail
            go_loopw [17] (fun v17 W => ∃ s : Nat, s ≤ p ∧ v17 = .int .i64 s ∧ Below W2.heap.size W2 W) (fun v17 _ => p - (intOf v17).toNat)
            case atStart => exact ⟨0, Nat.zero_le _, rfl, Below.refl _ _⟩
            case round =>
              obtain ⟨s, hs, rfl, hb⟩ := hrel
              obtain ⟨W3, rfl⟩ : ∃ W3, W3 = wr := ⟨_, rfl⟩
              have HB3 := Lib.hid hb
              clear hb
              by_cases hls : s < p
              · obtain ⟨r, hr⟩ : ∃ r, rs[s]? = some r := ⟨_, List.getElem?_eq_getElem (by rw [← HM.out]; exact hls)⟩
                have kG0 := HG2.out.cell hr hls
                obtain ⟨hlm, hlc⟩ := HG2.out.lens s r hr hls
                have hGl : G < W2.heap.size := HG2.out.lt
                have hmx : r.c ≤ 9223372036854775807 := (HF2.out.row r (List.mem_of_getElem? hr)).max
                obtain ⟨l, hl⟩ : ∃ l, l = L2 s := ⟨_, rfl⟩
                rw [← hl] at kG0 hlm hlc
                have kG := (HB3.out.cell (p := ⟨G, s, none⟩) hGl).trans kG0
                have HR' := Lib.hid hr
                have HKG := Lib.hid kG0
                have HGL := Lib.hid hGl
                have HLM := Lib.hid hlm
                have HLC := Lib.hid hlc
                clear hr kG0 hGl hlm hl
                simp only [Rw.val'] at kG
                go_wp2_with fail
                clear kG
                go_loopw [18] (fun v18 W => ∃ k : Nat, k ≤ l ∧ v18 = .int .i64 k ∧ Below W2.heap.size W2 W) (fun v18 _ => l - (intOf v18).toNat)
                case atStart => exact ⟨0, Nat.zero_le _, rfl, HB3.out⟩
                case round =>
                  obtain ⟨k, hk, rfl, hb⟩ := hrel
                  have HBK := Lib.hid hb
                  have kc := (hb.cell (p := ⟨G, s, none⟩) HGL.out).trans HKG.out
                  clear hb
                  by_cases hlk : k < l
                  · obtain ⟨b, hb'⟩ := (HF2.out.row r (List.mem_of_getElem? HR'.out)).some (Nat.lt_of_lt_of_le hlk HLC.out)
                    have hbl : b < W2.heap.size := (HF2.out.row r (List.mem_of_getElem? HR'.out)).lt hb'
                    have kb := (HBK.out.cell (p := ⟨b, k, none⟩) hbl).trans (HF2.out.marks s r HR'.out k (Nat.lt_of_lt_of_le hlk HLM.out) b hb')
                    rw [← mark_text] at kb
                    simp only [Rw.val', hb', Option.map_some] at kc
                    have hBw := (HF2.out.below HBW.out (Nat.le_refl _)).then_ HBK.out
                    have HPW := Lib.hid (HP.out.on hBw)
                    have hGk : G < wr.heap.size := Nat.lt_of_lt_of_le HGL.out HBK.out.size
                    have hbk : b < wr.heap.size := Nat.lt_of_lt_of_le hbl HBK.out.size
                    have hlt := itoa_len s (by omega) (by omega)
                    have hl1 : ¬ 9223372036854775807 < 5 + (Lib.itoa s).length := by omega
                    clear hb' hBw hbl hlt
                    go_wp2_with fail
                    go_region_held3 (fun w' => (w'.cell? ⟨G, s, none⟩ = some (.slice (some ⟨b, 0, none⟩) l r.c) ∧ w'.cell? ⟨b, k, none⟩ = some (.string (⟨#[109, 97, 114, 107, 32]⟩ ++ ⟨(Lib.itoa s).toArray⟩))) ∧ Hid (Below wr.heap.size wr w'))
                      (first | exact ⟨⟨kc, kb⟩, keep_start _⟩ | exact keep_pair hb' hH kc kb hGk hbk)
                      (first | (rename_i hH _ _; refine (itoa_any s (by omega) (by omega) _ (HPW.out.on hH.2.out)).mono ?_; rintro r' w' ⟨rfl, hb'⟩))
                    all_goals
                      rename_i hH
                      go_wp2_with fail
                      exact ⟨⟨k + 1, by omega, by simp, HBK.out.then_ hH.2.out⟩, by simp [intOf]; omega⟩
                  · have hge : ¬ (k : Int) < l := by omega
                    simp only [Rw.val'] at kc
                    go_wp2_with fail
                    exact ⟨⟨s + 1, by omega, by simp, HBK.out⟩, by simp [intOf]; omega⟩
              · have hge : ¬ (s : Int) < p := by omega
                have hSl := (HF.out.st.rows HF2.out HL.out).keptBelow HB3.out
                have hbl := (HF2.out.typed HL.out HF.out.bk (by decide)).trans HF.out.bk
                have hb3 := (HB3.out.block _ (at_lt hbl)).trans hbl
                obtain ⟨p0, p1, p2, p3, p4⟩ := cells5 hb3
                have HSl := Lib.hid hSl
                have hBw := (HF2.out.below HBW.out (Nat.le_refl _)).then_ HB3.out
                have HBE := Lib.hid hBw
                clear hSl hbl hb3 hBw hls
                go_wp2_with fail
                refine (told_any (some e1) e1.book _ w.heap.size W3 HSl.out (HP.out.on HBE.out) (HG.out.on HBE.out) HF.out.few).mono ?_
                rintro r wz ⟨rfl, hz⟩
                have HZ := Lib.hid hz
                clear hz
                go_wp2_with fail
                go_ret
                exact ⟨rfl, HBE.out.then_ HZ.out⟩
end Go.Proofs.YtcohinfpcafcpaaDoor
