/- The walk of TermFresh: it returns true. Condition: sizes within reach. -/
import Derived.Test.YtkdejffhdhcocaaGreatTeJ8
import Derived.Test.YtkdejffhdhcocaaGreatTeLay
import Derived.Test.YtkdejffhdhcocaaGreatTeJ9
import Derived.Test.YtkdejffhdhcocaaGreatTeJ6
import Derived.Deep.RegionLaw
namespace Go.Proofs.YtkdejffhdhcocaaGreat
open Go.RowKit

theorem row_size {w : World} {B z g n c : Nat} {t : TypeId} {xs : List Value} (h : w.ownsRow B t z (.slice (some ⟨g, 0, none⟩) n c) n xs) : ∃ cur, w.heap[g]? = some (.cells cur t (0, 0)) ∧ n * z ≤ cur.size := by
  rcases h.2 with ⟨h', _⟩ | ⟨g', cap, cur, hv, _, h3, h4, _, h5, _⟩
  · simp at h'
  · simp only [Value.slice.injEq, Option.some.injEq, Addr.mk.injEq, and_true, true_and] at hv
    obtain ⟨rfl, rfl⟩ := hv
    exact ⟨cur, h3, by rw [h5]; exact Nat.mul_le_mul_right _ h4⟩
abbrev bxCells (t : Tm) (r : Rt) : Array Value := #[.int .i64 t.kind, .string t.text, .int .i64 t.n, .slice r.s.p r.s.n r.s.c, .slice r.a.p r.a.n r.a.c, .slice r.k.p r.k.n r.k.c]
set_option maxRecDepth 100000 in
set_option maxHeartbeats 64000000 in
theorem termFresh_any (X : Option Addr) (l : List Tm) (c : Nat) (w : World) (h : KidsAt w X l 0) (hwf : ∀ t ∈ l, WfT t) (hl : l.length * 104 ≤ 140737488351232) :
    Calls Tryz.prog 5 #[.slice X l.length c] w fun e w' => e = .returned (.bool true) ∧ Below w.heap.size w w' := by
  have HH := Lib.hid h
  have HWL := Lib.hid hwf
  obtain ⟨n, hn⟩ : ∃ n, n = l.length := ⟨_, rfl⟩
  rw [← hn] at hl ⊢
  have HN := Lib.hid hn
  clear h hwf hn
  go_enter Tryz.func5, Tryz.ntmps5
  go_wp2_with fail
  refine (begun_any w).mono ?_
  rintro e wb ⟨rfl, hb2⟩
  have HB2 := Lib.hid hb2
  clear hb2
  go_upto_region 4 with fail
  obtain ⟨V1, hV1⟩ : ∃ V, V = (wb.alloc (.cells #[.slice none 0 0, .slice none 0 0, .slice none 0 0, .int .i64 0] TB3)).alloc (.cells #[.slice none 0 0, .slice none 0 0, .int .i64 0] TShf) := ⟨_, rfl⟩
  have hbv : Below wb.heap.size wb V1 := by rw [hV1]; exact ((Below.refl _ _).alloc (Nat.le_refl _) _).alloc (by simp) _
  have HF1 : Hid (FrI w V1 wb.heap.size (wb.heap.size + 1) (fun x => x = wb.heap.size) (fun x => x = wb.heap.size + 1)) := Lib.hid (by
    have hs := HB2.out.size
    have h1 : V1.heap[wb.heap.size]? = some (.cells #[.slice none 0 0, .slice none 0 0, .slice none 0 0, .int .i64 0] TB3 (0, 0)) := by rw [hV1]; exact (Below.heap_alloc _ _ _ (by simp)).trans (heap_alloc_new wb _)
    have h2 : V1.heap[wb.heap.size + 1]? = some (.cells #[.slice none 0 0, .slice none 0 0, .int .i64 0] TShf (0, 0)) := by rw [hV1]; exact heap_new2 _ _ _
    have h3 := heap_lt h2
    exact ⟨HB2.out.then_ hbv, BkF.new h1 rfl hs, ShX.new h2 rfl (by omega), fun x hx hy => by omega, fun x hx => by omega, fun x hx => by omega⟩)
  rw [← hV1]
  obtain ⟨ps, hps⟩ : ∃ p, p = wb.heap.size + 1 := ⟨_, rfl⟩
  try rw [← hps]
  obtain ⟨pb, hpb⟩ : ∃ p, p = wb.heap.size := ⟨_, rfl⟩
  have HF2 : Hid (∃ P Q : Nat → Prop, FrI w V1 pb ps P Q) := Lib.hid ⟨_, _, by rw [hpb, hps]; exact HF1.out⟩
  rw [← hpb]
  clear hV1 hbv HF1 hps hpb
  go_wp2_with fail
  go_loopw [5] (fun v W => ∃ i : Nat, i ≤ n ∧ v = .int .i64 i ∧ Hid (∃ P Q : Nat → Prop, FrI w W pb ps P Q)) (fun v _ => n - (intOf v).toNat)
  case atStart => exact ⟨0, Nat.zero_le _, rfl, HF2⟩
  case round =>
    clear HF2 HB2
    obtain ⟨i, hi, rfl, HI⟩ := hrel
    obtain ⟨P, Q, hfr⟩ := HI.out
    have HFR := Lib.hid hfr
    obtain ⟨W0, rfl⟩ : ∃ V, V = wr := ⟨_, rfl⟩
    clear hfr HI
    by_cases hlt : i < n
    · obtain ⟨t, ht⟩ : ∃ t, l[i]? = some t := ⟨_, List.getElem?_eq_getElem (by rw [← HN.out]; exact hlt)⟩
      obtain ⟨b, off, rfl, hp⟩ := HH.out.get ht
      rw [Nat.zero_add] at hp
      have HWF := Lib.hid (HWL.out t (List.mem_of_getElem? ht))
      obtain ⟨A, ca, B, cb, K, ck, hltb, q0, q1, q2, q3, q4, q5, hat⟩ := hp.cells
      have PTF : Hid (∀ W, Below w.heap.size w W → W.cell? ⟨b, off + i * 6, none⟩ = some (.int .i64 t.kind) ∧ W.cell? ⟨b, off + i * 6 + 1, none⟩ = some (.string t.text) ∧ W.cell? ⟨b, off + i * 6 + 2, none⟩ = some (.int .i64 t.n) ∧ W.cell? ⟨b, off + i * 6 + 3, none⟩ = some (.slice A t.sh.length ca) ∧ W.cell? ⟨b, off + i * 6 + 4, none⟩ = some (.slice B t.at_.length cb) ∧ W.cell? ⟨b, off + i * 6 + 5, none⟩ = some (.slice K t.kids.length ck) ∧ b < W.heap.size ∧ TmAt W t A B K) := Lib.hid fun W h => by
        have key : ∀ j v, w.cell? ⟨b, j, none⟩ = some v → W.cell? ⟨b, j, none⟩ = some v := fun j v hv => (h.cell (p := ⟨b, j, none⟩) hltb).trans hv
        exact ⟨key _ _ q0, key _ _ q1, key _ _ q2, key _ _ q3, key _ _ q4, key _ _ q5, Nat.lt_of_lt_of_le hltb h.size, hat.on h⟩
      have b1 : (0 : Int) ≤ (i : Int) := by omega
      have b2 : (i : Int) < (n : Int) := by omega
      clear ht hp hltb q0 q1 q2 q3 q4 q5 hat
      obtain ⟨p0, p1, p2, p3, p4, p5, pl, pt⟩ := PTF.out W0 HFR.out.be
      go_wp2_with fail
      refine (light_any t A ca B cb K ck W0 pt HWF.out).mono ?_
      rintro e w1 ⟨⟨bl, rfl, hbl⟩, hb1⟩
      have HB1 := Lib.hid hb1
      clear hb1 p0 p1 p2 p3 p4 p5 pl pt
      cases bl
      · clear hbl
        go_wp2_with fail
        exact ⟨⟨i + 1, by omega, by go_num, Lib.hid ⟨P, Q, HFR.out.below HB1.out⟩⟩, by simp [intOf]; omega⟩
      · have HGT := Lib.hid (hbl rfl)
        clear hbl
        obtain ⟨p0, p1, p2, p3, p4, p5, pl, pt⟩ := PTF.out w1 (HFR.out.be.then_ HB1.out)
        go_wp2_with fail
        refine (lay_any (cnt t) t A ca B cb K ck w1 (Nat.le_refl _) pt HWF.out).mono ?_
        rintro e w2 ⟨r0, rfl, o0, m0, n0, hb2⟩
        have HB2 := Lib.hid (HB1.out.then_ hb2)
        have HS12 := Lib.hid (And.intro HB1.out.size hb2.size)
        go_upto_region 9 with fail
        obtain ⟨V2, hV2⟩ : ∃ V, V = w2.alloc (.cells (bxCells t r0) TTm) := ⟨_, rfl⟩
        have hbx := BxO.new hV2 o0 n0 hb2.size
        have HT2 : Hid (BxO V2 w1.heap.size w2.heap.size t r0 ∧ MarkT V2 t r0 ∧ ∀ g ∈ blksT r0, w1.heap.size ≤ g ∧ g < w2.heap.size) := Lib.hid ⟨hbx.1, m0.on hbx.2, fun g hg => o0.blk g hg⟩
        have HBV2 := Lib.hid (HB2.out.then_ hbx.2)
        have HSV2 : Hid (w2.heap.size < V2.heap.size) := Lib.hid (heap_lt hbx.1.bx)
        rw [← hV2]
        obtain ⟨g6, hg6⟩ : ∃ g, g = w2.heap.size := ⟨_, rfl⟩
        rw [← hg6] at HT2 HSV2 ⊢
        clear hV2 hbx o0 m0 n0 hb2 hg6 p0 p1 p2 p3 p4 p5 pl pt
        obtain ⟨x0, x1, x2, x3, x4, x5, xl⟩ := HT2.out.1.six
        go_wp2_with fail
        refine (copy_rt HT2.out.1.own HWF.out).mono ?_
        rintro e w3 (⟨h0, _⟩ | ⟨_, rx, rfl, ox, nx, hb3⟩)
        · rw [HGT.out] at h0; cases h0
        go_upto_region 10 with fail
        obtain ⟨V3, hV3⟩ : ∃ V, V = w3.alloc (.cells (bxCells t rx) TTm) := ⟨_, rfl⟩
        have hbx := BxO.new hV3 ox nx hb3.size
        have HX3 := Lib.hid hbx.1
        have HB23 := Lib.hid (hb3.then_ hbx.2)
        have HR3 : Hid (∀ g ∈ blksT rx, V2.heap.size ≤ g ∧ g < V3.heap.size) := Lib.hid fun g hg => hbx.1.own.blk g hg
        rw [← hV3]
        obtain ⟨g7, hg7⟩ : ∃ g, g = w3.heap.size := ⟨_, rfl⟩
        rw [← hg7] at HX3 ⊢
        clear hV3 hbx ox nx hb3 hg7 x0 x1 x2 x3 x4 x5 xl
        have HT3 := Lib.hid (HT2.out.1.below HB23.out)
        obtain ⟨x0, x1, x2, x3, x4, x5, xl⟩ := HT3.out.six
        go_wp2_with fail
        refine (copy_rt HT3.out.own HWF.out).mono ?_
        rintro e w4 (⟨h0, _⟩ | ⟨_, ry, rfl, oy, ny, hb4⟩)
        · rw [HGT.out] at h0; cases h0
        go_upto_region 11 with fail
        obtain ⟨V4, hV4⟩ : ∃ V, V = w4.alloc (.cells (bxCells t ry) TTm) := ⟨_, rfl⟩
        have hbx := BxO.new hV4 oy ny hb4.size
        have HY4 := Lib.hid hbx.1
        have HB34 := Lib.hid (hb4.then_ hbx.2)
        have HR4 : Hid (∀ g ∈ blksT ry, V3.heap.size ≤ g ∧ g < V4.heap.size) := Lib.hid fun g hg => hbx.1.own.blk g hg
        rw [← hV4]
        obtain ⟨g9, hg9⟩ : ∃ g, g = w4.heap.size := ⟨_, rfl⟩
        rw [← hg9] at HY4 ⊢
        clear hV4 hbx oy ny hb4 hg9 x0 x1 x2 x3 x4 x5 xl
        have HT4 := Lib.hid (HT3.out.below HB34.out)
        obtain ⟨x0, x1, x2, x3, x4, x5, xl⟩ := HT4.out.six
        go_wp2_with fail
        refine (copy_rt HT4.out.own HWF.out).mono ?_
        rintro e w5 (⟨h0, _⟩ | ⟨_, rz, rfl, oz, nz, hb5⟩)
        · rw [HGT.out] at h0; cases h0
        go_upto_region 12 with fail
        obtain ⟨V5, hV5⟩ : ∃ V, V = w5.alloc (.cells (bxCells t rz) TTm) := ⟨_, rfl⟩
        have hbx := BxO.new hV5 oz nz hb5.size
        have HZ5 := Lib.hid hbx.1
        have HB45 := Lib.hid (hb5.then_ hbx.2)
        have HR5 : Hid (∀ g ∈ blksT rz, V4.heap.size ≤ g ∧ g < V5.heap.size) := Lib.hid fun g hg => hbx.1.own.blk g hg
        rw [← hV5]
        obtain ⟨g11, hg11⟩ : ∃ g, g = w5.heap.size := ⟨_, rfl⟩
        rw [← hg11] at HZ5 ⊢
        clear hV5 hbx oz nz hb5 hg11 x0 x1 x2 x3 x4 x5 xl
        have HT5 := Lib.hid (HT4.out.below HB45.out)
        have HXYZ : Hid (BxO V5 V2.heap.size g7 t rx ∧ BxO V5 V2.heap.size g9 t ry ∧ BxO V5 V2.heap.size g11 t rz) := Lib.hid ⟨(HX3.out.below HB34.out).below HB45.out, (HY4.out.lo HB23.out.size).below HB45.out, HZ5.out.lo (Nat.le_trans HB23.out.size HB34.out.size)⟩
        have HB25 := Lib.hid ((HB23.out.then_ HB34.out).then_ HB45.out)
        have HR : Hid ((∀ g ∈ blksT rx, V2.heap.size ≤ g ∧ g < V5.heap.size) ∧ (∀ g ∈ blksT ry, V2.heap.size ≤ g ∧ g < V5.heap.size) ∧ (∀ g ∈ blksT rz, V2.heap.size ≤ g ∧ g < V5.heap.size) ∧ (∀ x ∈ blksT rx, x ∉ blksT ry) ∧ (∀ x ∈ blksT rx, x ∉ blksT rz) ∧ (∀ x ∈ blksT ry, x ∉ blksT rz) ∧ g9 ∉ blksT rx) := Lib.hid (by
          have s3 := HB23.out.size
          have s4 := HB34.out.size
          have s5 := HB45.out.size
          refine ⟨fun g hg => ?_, fun g hg => ?_, fun g hg => ?_, fun g h1 h2 => ?_, fun g h1 h2 => ?_, fun g h1 h2 => ?_, fun e => ?_⟩
          · have := HR3.out g hg; omega
          · have := HR4.out g hg; omega
          · have := HR5.out g hg; omega
          · have := HR3.out g h1; have := HR4.out g h2; omega
          · have := HR3.out g h1; have := HR5.out g h2; omega
          · have := HR4.out g h1; have := HR5.out g h2; omega
          · have := HR3.out _ e; have := HY4.out.le; omega)
        clear HX3 HY4 HZ5 HR3 HR4 HR5 HT3 HT4
        obtain ⟨x0, x1, x2, x3, x4, x5, xl⟩ := HT5.out.six
        go_wp2_with fail
        refine (names_rt HT5.out.own HWF.out).mono ?_
        rintro e w6 (⟨h0, _⟩ | ⟨_, gl, cl, ln, rfl, lrise, lmem, llen, lrow, hb6⟩)
        · rw [HGT.out] at h0; cases h0
        have HLN := Lib.hid (And.intro lrise (And.intro lmem (And.intro llen lrow)))
        have HB56 := Lib.hid hb6
        have HT6 := Lib.hid (HT5.out.below hb6)
        clear lrise lmem lrow hb6 x0 x1 x2 x3 x4 x5 xl
        obtain ⟨x0, x1, x2, x3, x4, x5, xl⟩ := HT6.out.six
        go_wp2_with fail
        refine (may_rt HT6.out.own HWF.out _).mono ?_
        rintro e w7 ⟨rfl, hb7⟩
        have HB67 := Lib.hid hb7
        have HT7 := Lib.hid (HT6.out.below hb7)
        clear hb7 x0 x1 x2 x3 x4 x5 xl
        have HBW7 := Lib.hid (HBV2.out.then_ (HB25.out.then_ (HB56.out.then_ HB67.out)))
        obtain ⟨x0, x1, x2, x3, x4, x5, xl⟩ := HT7.out.six
        obtain ⟨p0, p1, p2, p3, p4, p5, pl, _⟩ := PTF.out w7 (HFR.out.be.then_ HBW7.out)
        have HSM : Hid (Calls Tryz.prog 33 #[rtVal t r0, tmVal t A ca B cb K ck] w7.drew fun e w' => e = .returned (.bool true) ∧ Below w7.drew.heap.size w7.drew w') := Lib.hid (same_rt (HT7.out.below (Below.refl _ _).drew).own (PTF.out w7.drew (HFR.out.be.then_ (HBW7.out.then_ (Below.refl _ _).drew))).2.2.2.2.2.2.2 HWF.out HGT.out)
        unfold rtVal tmVal at HSM
        go_upto_region 14 with fail
        go_still_tail 5, (by kernel_rfl)
        change wpList _ _ _ _ _ w7.drew
        go_wp2_with fail
        refine HSM.out.mono ?_
        rintro e w8 ⟨rfl, hb8⟩
        have HB78 := Lib.hid ((Below.refl w7.heap.size w7).drew.then_ hb8)
        have HBW8 := Lib.hid (HBW7.out.then_ HB78.out)
        have HT8 := Lib.hid (HT7.out.below HB78.out)
        clear hb8 x0 x1 x2 x3 x4 x5 xl p0 p1 p2 p3 p4 p5 pl
        obtain ⟨x0, x1, x2, x3, x4, x5, xl⟩ := HT8.out.six
        obtain ⟨p0, p1, p2, p3, p4, p5, pl, _⟩ := PTF.out w8 (HFR.out.be.then_ HBW8.out)
        have HKP : Hid (Calls Tryz.prog 12 #[rtVal t r0, tmVal t A ca B cb K ck] w8.drew fun e w' => e = .returned (.bool true) ∧ Only w8.drew w' (blksT r0)) := Lib.hid (
          kept_any t r0 A ca B cb K ck w1.heap.size w8.drew (HT8.out.below (Below.refl _ _).drew).own HT2.out.1.nd (HT2.out.2.1.on ((HB25.out.then_ (HB56.out.then_ HB67.out)).then_ (HB78.out.then_ (Below.refl _ _).drew))) (PTF.out w8.drew (HFR.out.be.then_ (HBW8.out.then_ (Below.refl _ _).drew))).2.2.2.2.2.2.2 HWF.out HGT.out)
        unfold rtVal tmVal at HKP
        go_upto_region 15 with fail
        go_still_tail 5, (by kernel_rfl)
        change wpList _ _ _ _ _ w8.drew
        go_wp2_with fail
        refine HKP.out.mono ?_
        rintro e w9 ⟨rfl, ho9⟩
        have HBW9 : Hid (Below W0.heap.size W0 w9) := Lib.hid ((HBW8.out.then_ (Below.refl _ _).drew).trans (ho9.below (fun g hg => Nat.le_trans HB1.out.size (HT2.out.2.2 g hg).1) (HBW8.out.size)))
        have HK9 : Hid (∀ x, V2.heap.size ≤ x → x < w8.heap.size → w9.heap[x]? = w8.heap[x]?) := Lib.hid fun x h1 h2 => ho9.block x h2 fun e => by have := HT2.out.2.2 x e; have := HSV2.out; omega
        have HB58 := Lib.hid ((HB56.out.then_ HB67.out).then_ HB78.out)
        have HX9 : Hid (BxO w9 V2.heap.size g7 t rx ∧ BxO w9 V2.heap.size g9 t ry ∧ BxO w9 V2.heap.size g11 t rz) := Lib.hid (by
          obtain ⟨h1, h2, h3⟩ := HXYZ.out
          have h1 := h1.below HB58.out
          have h2 := h2.below HB58.out
          have h3 := h3.below HB58.out
          exact ⟨h1.kept fun x hx he => HK9.out x (h1.ge x he).1 hx, h2.kept fun x hx he => HK9.out x (h2.ge x he).1 hx, h3.kept fun x hx he => HK9.out x (h3.ge x he).1 hx⟩)
        have HL9 : Hid (w9.ownsRow V5.heap.size TSt 1 (.slice (some ⟨gl, 0, none⟩) ln.length cl) ln.length (ln.map Value.string)) := Lib.hid (by
          have h1 := row_on HLN.out.2.2.2 (HB67.out.then_ HB78.out)
          exact row_keep h1 fun g hg => HK9.out g (Nat.le_trans HB25.out.size (h1.lt g hg).1) (h1.lt g hg).2)
        have HS89 : Hid (V5.heap.size ≤ w9.heap.size) := Lib.hid (Nat.le_trans HB58.out.size ho9.size)
        clear ho9 x0 x1 x2 x3 x4 x5 xl p0 p1 p2 p3 p4 p5 pl HXYZ HT5 HT6 HT7 HT8 HK9 HSM HKP HBW7 HBW8
        have HWB : Hid (∀ W, Below w9.heap.size w9 W → Below w.heap.size w W) := Lib.hid fun W hW => HFR.out.be.then_ (HBW9.out.then_ hW)
        have HEX : Hid (∀ W, Below w9.heap.size w9 W → Calls Tryz.prog 13 #[rtVal t rx, tmVal t A ca B cb K ck] W fun e w' => e = .returned (.bool true) ∧ Below W.heap.size W w') := Lib.hid fun W hW => eq_rt (HX9.out.1.below hW).own (PTF.out _ (HWB.out _ hW)).2.2.2.2.2.2.2 HWF.out HGT.out
        have HEY : Hid (∀ W, Below w9.heap.size w9 W → Calls Tryz.prog 13 #[rtVal t ry, tmVal t A ca B cb K ck] W fun e w' => e = .returned (.bool true) ∧ Below W.heap.size W w') := Lib.hid fun W hW => eq_rt (HX9.out.2.1.below hW).own (PTF.out _ (HWB.out _ hW)).2.2.2.2.2.2.2 HWF.out HGT.out
        have HEZ : Hid (∀ W, Below w9.heap.size w9 W → Calls Tryz.prog 13 #[rtVal t rz, tmVal t A ca B cb K ck] W fun e w' => e = .returned (.bool true) ∧ Below W.heap.size W w') := Lib.hid fun W hW => eq_rt (HX9.out.2.2.below hW).own (PTF.out _ (HWB.out _ hW)).2.2.2.2.2.2.2 HWF.out HGT.out
        unfold rtVal tmVal at HEX HEY HEZ
        go_upto_region 16 with fail
        refine tf16 hlt (fun W hW => (HX9.out.1.below hW).six) (fun W hW => (HX9.out.2.1.below hW).six) (fun W hW => (HX9.out.2.2.below hW).six) (fun W hW => ?_) HEX.out HEY.out HEZ.out ?_ ?_
        · obtain ⟨p0, p1, p2, p3, p4, p5, pl, _⟩ := PTF.out W (HWB.out _ hW)
          exact ⟨p0, p1, p2, p3, p4, p5, pl⟩
        · exact fun _ _ _ _ _ h => h
        intro _ _ _ _ _ _ _ _ _ _ _ _ _ _ _ _ _ _ _ _ _ _ _ _ _ _ _ _ _ _ _ _ _ _ _ _ _ _ _ _ _ _ _ _ wc hCc
        have HBC := Lib.hid hCc
        clear hCc HEX HEY HEZ
        obtain ⟨p0, p1, p2, p3, p4, p5, pl, pt⟩ := PTF.out wc (HWB.out _ HBC.out)
        have PT := Lib.hid pt
        clear pt
        go_wp2_with fail
        refine (names_any t A ca B cb K ck wc PT.out HWF.out).mono ?_
        rintro e wm (⟨h0, _⟩ | ⟨_, gm, cm, lm, rfl, _, _, mlen, mrow, hbm⟩)
        · rw [HGT.out] at h0; cases h0
        obtain ⟨cur, hcur, hcs⟩ := row_size mrow
        have hgm := (mrow.lt gm rfl).1
        obtain ⟨nm, hnm⟩ : ∃ m, m = lm.length := ⟨_, rfl⟩
        rw [← hnm] at hcs mlen ⊢
        have HM0 : Hid (Only wm wm [gm] ∧ RowIs wm gm TSt cur nm) := Lib.hid ⟨Only.refl _ _, cur, hcur, rfl, fun _ _ => rfl⟩
        have HGM : Hid (wc.heap.size ≤ gm ∧ Below wc.heap.size wc wm) := Lib.hid ⟨hgm, hbm⟩
        have hcs2 : nm ≤ cur.size := by omega
        clear hcur hcs mrow hbm hgm hnm p0 p1 p2 p3 p4 p5 pl PT
        go_wp2_with fail
        go_loopw [17] (fun v W => ∃ k : Nat, k ≤ nm ∧ v = .int .i64 k ∧ Hid (Only wm W [gm] ∧ RowIs W gm TSt cur nm)) (fun v _ => nm - (intOf v).toNat)
        case atStart => exact ⟨0, Nat.zero_le _, rfl, HM0⟩
        case round =>
          obtain ⟨k, hk, rfl, HMI⟩ := hrel
          obtain ⟨Wn, rfl⟩ : ∃ V, V = wr := ⟨_, rfl⟩
          by_cases hlk : k < nm
          · obtain ⟨⟨u, ku⟩, fu⟩ := HMI.out.2.some (j := k) (by omega)
            have hgn := HMI.out.2.lt
            have HMN : Hid (Only wm (Wn.setCell ⟨gm, k, none⟩ (.string ⟨#[63]⟩)) [gm] ∧ RowIs (Wn.setCell ⟨gm, k, none⟩ (.string ⟨#[63]⟩)) gm TSt cur nm) := Lib.hid ⟨HMI.out.1.set (by simp) _, HMI.out.2.set hlk _⟩
            go_wp2_with fail
            exact ⟨⟨k + 1, by omega, by go_num, HMN⟩, by simp [intOf]; omega⟩
          · obtain rfl : k = nm := by omega
            have hge : ¬ (k : Int) < k := by omega
            have HBN : Hid (Below w9.heap.size w9 Wn) := Lib.hid ((HBC.out.then_ HGM.out.2).trans (HMI.out.1.below (fun g hg => by obtain rfl := List.mem_singleton.1 hg; exact Nat.le_trans HBC.out.size HGM.out.1) (Nat.le_trans HBC.out.size HGM.out.2.size)))
            clear hlk HMI HGM HM0
            obtain ⟨p0, p1, p2, p3, p4, p5, pl, pt⟩ := PTF.out Wn (HWB.out _ HBN.out)
            have PT := Lib.hid pt
            clear pt
            go_wp2_with fail
            refine (names_any t A ca B cb K ck Wn PT.out HWF.out).mono ?_
            rintro e wq (⟨h0, _⟩ | ⟨_, gq, cq, lq, rfl, qrise, qmem, qlen, qrow, hbq⟩)
            · rw [HGT.out] at h0; cases h0
            obtain rfl : ln = lq := rise_unique HLN.out.1 qrise fun s => (HLN.out.2.1 s).trans (qmem s).symm
            have hA1 := (strs_row HL9.out).on (HBN.out.then_ hbq)
            have hA2 := strs_row qrow
            have hA3 : ln.length ≤ 140737488351232 := Nat.le_trans llen (by decide)
            have HTX : Hid (Calls Tryz.prog 34 #[.slice (some ⟨gl, 0, none⟩) ln.length cl, .slice (some ⟨gq, 0, none⟩) ln.length cq] wq fun e w' => e = .returned (.bool true) ∧ ∃ m, w' = wq.drewN m) := by
              have h0 := texts_any ln ln (some ⟨gl, 0, none⟩) cl (some ⟨gq, 0, none⟩) cq wq hA1 hA2 hA3 hA3
              have hd : decide (ln = ln) = true := decide_eq_true (rfl : ln = ln)
              rw [hd] at h0
              have h1 := Lib.hid h0
              exact h1
            clear hA1 hA2 hA3
            have HBQ := Lib.hid (HBN.out.then_ hbq)
            clear qrise qmem qrow hbq p0 p1 p2 p3 p4 p5 pl PT
            go_wp2_with fail
            refine HTX.out.mono ?_
            rintro e ws ⟨rfl, hws⟩
            have HBS := Lib.hid (HBQ.out.then_ (drew_below hws))
            clear hws HTX
            obtain ⟨y0, y1, y2, y3, y4, y5, yl⟩ := (HX9.out.2.1.below HBS.out).six
            obtain ⟨z0, z1, z2, z3, z4, z5, zl⟩ := (HX9.out.2.2.below HBS.out).six
            obtain ⟨W16, hW16⟩ : ∃ V, V = ws.alloc (.cells #[.int .i64 t.kind, .string t.text, .int .i64 t.n, .slice ry.s.p ry.s.n ry.s.c, .slice ry.a.p ry.a.n ry.a.c, .slice ry.k.p ry.k.n ry.k.c, .int .i64 t.kind, .string t.text, .int .i64 t.n, .slice rz.s.p rz.s.n rz.s.c, .slice rz.a.p rz.a.n rz.a.c, .slice rz.k.p rz.k.n rz.k.c] TTm) := ⟨_, rfl⟩
            have hb16 : Below ws.heap.size ws W16 := by rw [hW16]; exact (Below.refl _ _).alloc (Nat.le_refl _) _
            have H16 := Lib.hid (HBS.out.then_ hb16)
            have hc16 : W16.heap[ws.heap.size]? = some (.cells (rtCellsL [t, t] [ry, rz]).toArray TTm (0, 0)) := by rw [hW16]; exact heap_alloc_new ws _
            have HSZ : Hid (W0.heap.size ≤ V2.heap.size ∧ V2.heap.size ≤ V5.heap.size ∧ V5.heap.size ≤ w9.heap.size ∧ w9.heap.size ≤ ws.heap.size ∧ ws.heap.size ≤ W16.heap.size ∧ w.heap.size ≤ W0.heap.size) := Lib.hid ⟨HBV2.out.size, HB25.out.size, HS89.out, HBS.out.size, hb16.size, HFR.out.be.size⟩
            have HQN : Hid (∀ x, V2.heap.size ≤ x → ¬ Q x ∧ ¬ P x) := Lib.hid fun x hx => ⟨fun e => by have := (HFR.out.ql x e).2; have := HSZ.out.1; omega, fun e => by have := (HFR.out.pl x e).2; have := HSZ.out.1; omega⟩
            have HB16 := Lib.hid (HBW9.out.then_ H16.out)
            have HX16 : Hid (BxO W16 V2.heap.size g7 t rx ∧ BxO W16 V2.heap.size g9 t ry ∧ BxO W16 V2.heap.size g11 t rz) := Lib.hid ⟨HX9.out.1.below H16.out, HX9.out.2.1.below H16.out, HX9.out.2.2.below H16.out⟩
            have HKEEP : Hid (Calls Tryz.prog 10 #[.pointer (some ⟨ps, 0, none⟩), .slice (some ⟨ws.heap.size, 0, none⟩) ((2 : Nat) : Int).toNat 2] W16 fun e w' => e = .returned (.tuple #[]) ∧ OnlyP Q W16 w' ∧ ShX w' w.heap.size ps (fun x => Q x ∨ x ∈ blksL [ry, rz] ∨ (W16.heap.size ≤ x ∧ x < w'.heap.size))) := Lib.hid (by
              obtain ⟨s1, s2, s3, s4, s5, s6⟩ := HSZ.out
              have hyz : ∀ x, x ∈ blksL [ry, rz] → x ∈ blksT ry ∨ x ∈ blksT rz := fun x hx => by simpa [blksL] using hx
              refine keep13_any [t, t] [ry, rz] ws.heap.size 2 W16 w.heap.size ps Q hc16 (HQN.out _ (by omega)).1 ?_ ?_ ?_ ?_ (by omega) rfl (by omega) (HFR.out.below HB16.out).sh
              · simp only [OwnL, and_true]
                exact ⟨HX16.out.2.1.own.mono (by omega), HX16.out.2.2.own.mono (by omega)⟩
              · simp only [blksL, List.append_nil]
                exact List.nodup_append.2 ⟨HX16.out.2.1.nd, HX16.out.2.2.nd, fun a ha b hb e => HR.out.2.2.2.2.2.1 a ha (e ▸ hb)⟩
              · intro x hx
                have : x = t := by simpa using hx
                subst this
                exact HWF.out
              · intro x hx
                rcases hyz x hx with e | e
                · exact (HQN.out x (HR.out.2.1 x e).1).1
                · exact (HQN.out x (HR.out.2.2.1 x e).1).1)
            clear hb16 hc16
            go_wp2_with fail
            rw [← hW16]
            refine HKEEP.out.mono ?_
            rintro e w17 ⟨rfl, ho17, hs17⟩
            have HO17 := Lib.hid ho17
            have HS17 := Lib.hid hs17
            have HX17 : Hid (BxO w17 V2.heap.size g7 t rx ∧ BxO w17 V2.heap.size g9 t ry) := Lib.hid ⟨HX16.out.1.kept fun x hx he => ho17.block x hx (HQN.out x (HX16.out.1.ge x he).1).1, HX16.out.2.1.kept fun x hx he => ho17.block x hx (HQN.out x (HX16.out.2.1.ge x he).1).1⟩
            have HB17 : Hid (Below w.heap.size w w17) := Lib.hid ((HFR.out.be.then_ HB16.out).trans (ho17.base (Nat.le_trans HFR.out.be.size HB16.out.size) fun x hx => (HFR.out.ql x hx).1))
            clear ho17 hs17 HKEEP hW16 y0 y1 y2 y3 y4 y5 yl z0 z1 z2 z3 z4 z5 zl
            obtain ⟨x0, x1, x2, x3, x4, x5, xl⟩ := HX17.out.1.six
            obtain ⟨W18, hW18⟩ : ∃ V, V = w17.alloc (.cells (bxCells t rx) TTm) := ⟨_, rfl⟩
            have hb18 : Below w17.heap.size w17 W18 := by rw [hW18]; exact (Below.refl _ _).alloc (Nat.le_refl _) _
            have HB18 := Lib.hid hb18
            have HS18 : Hid (W16.heap.size ≤ w17.heap.size ∧ w17.heap.size ≤ W18.heap.size) := Lib.hid ⟨HO17.out.size, hb18.size⟩
            have HTAKE : Hid (Calls Tryz.prog 11 #[.pointer (some ⟨pb, 0, none⟩), .slice (some ⟨w17.heap.size, 0, none⟩) 1 1] W18 fun e w' => e = .returned (.tuple #[]) ∧ OnlyP (fun x => P x ∨ x ∈ blksT rx) W18 w' ∧ BkF w' w.heap.size pb (fun x => P x ∨ x ∈ blksT rx ∨ (W18.heap.size ≤ x ∧ x < w'.heap.size))) := Lib.hid (by
              obtain ⟨s1, s2, s3, s4, s5, s6⟩ := HSZ.out
              refine take13_any t rx w17.heap.size W18 w.heap.size pb P (by rw [hW18]; exact heap_alloc_new w17 _) ((HX17.out.1.below hb18).own.mono (by omega)) HX17.out.1.nd HWF.out (fun x hx => (HQN.out x (HR.out.1 x hx).1).2) (by have := HS18.out; omega) (size_small HGT.out).2.1 (HFR.out.bk.below fun x hx hlt => ?_)
              have h16 := HB16.out.block x hlt
              have hlt16 : x < W16.heap.size := by omega
              exact (hb18.block x (by have := HS18.out; omega)).trans ((HO17.out.block x hlt16 (HFR.out.dj x hx)).trans h16))
            clear hb18
            go_wp2_with fail
            rw [← hW18]
            refine HTAKE.out.mono ?_
            rintro e w19 ⟨rfl, ho19, hk19⟩
            have HO19 := Lib.hid ho19
            have HK19 := Lib.hid hk19
            have HX18 := Lib.hid (HX17.out.2.below HB18.out)
            have HX19 : Hid (BxO w19 V2.heap.size g9 t ry) := Lib.hid (HX18.out.kept fun x hx he => ho19.block x hx fun hp => by
              rcases hp with hp | hp
              · exact (HQN.out x (HX18.out.ge x he).1).2 hp
              · rcases he with rfl | he
                · exact HR.out.2.2.2.2.2.2 hp
                · exact HR.out.2.2.2.1 x hp he)
            have HB19 : Hid (Below w.heap.size w w19) := Lib.hid ((HB17.out.then_ HB18.out).trans (ho19.base (by have := HSZ.out; have := HS18.out; omega) fun x hx => by
              rcases hx with hx | hx
              · exact (HFR.out.pl x hx).1
              · have := (HR.out.1 x hx).1; have := HSZ.out; omega))
            clear ho19 hk19 HTAKE hW18 x0 x1 x2 x3 x4 x5 xl
            obtain ⟨x0, x1, x2, x3, x4, x5, xl⟩ := HX19.out.six
            obtain ⟨p0, p1, p2, p3, p4, p5, pl, _⟩ := PTF.out w19 HB19.out
            have HEQ : Hid (Calls Tryz.prog 13 #[rtVal t ry, tmVal t A ca B cb K ck] w19.drew fun e w' => e = .returned (.bool true) ∧ Below w19.drew.heap.size w19.drew w') := Lib.hid (eq_rt (HX19.out.below (Below.refl _ _).drew).own (PTF.out w19.drew (HB19.out.then_ (Below.refl _ _).drew)).2.2.2.2.2.2.2 HWF.out HGT.out)
            unfold rtVal tmVal at HEQ
            go_upto_region 27 with fail
            go_still_tail 5, (by kernel_rfl)
            change wpList _ _ _ _ _ w19.drew
            go_wp2_with fail
            refine HEQ.out.mono ?_
            rintro e w20 ⟨rfl, hb20⟩
            have HB20 := Lib.hid ((Below.refl w19.heap.size w19).drew.then_ hb20)
            clear hb20 HEQ x0 x1 x2 x3 x4 x5 xl p0 p1 p2 p3 p4 p5 pl
            have HFN : Hid (∃ P Q : Nat → Prop, FrI w w20 pb ps P Q) := Lib.hid (by
              obtain ⟨s1, s2, s3, s4, s5, s6⟩ := HSZ.out
              obtain ⟨s7, s8⟩ := HS18.out
              have s9 := HO19.out.size
              have s10 := HB20.out.size
              have hx : ∀ x ∈ blksT rx, V2.heap.size ≤ x ∧ x < W16.heap.size := fun x hx => by have := HR.out.1 x hx; omega
              have hy : ∀ x ∈ blksT ry, V2.heap.size ≤ x ∧ x < W16.heap.size := fun x hx => by have := HR.out.2.1 x hx; omega
              have hz : ∀ x ∈ blksT rz, V2.heap.size ≤ x ∧ x < W16.heap.size := fun x hx => by have := HR.out.2.2.1 x hx; omega
              refine ⟨_, _, HFR.out.more (Wk := W16) (W1 := w17) (Wt := W18) (W2 := w20) (lo := V2.heap.size) (rx := rx) (ry := ry) (rz := rz) s1 (by omega) s8 (by omega) s7 hx hy hz HR.out.2.2.2.1 HR.out.2.2.2.2.1 (HB19.out.then_ HB20.out) ?_ ?_⟩
              · refine (HK19.out.below fun x _ hlt => HB20.out.block x hlt).inP fun x hp hlt => ?_
                rcases hp with hp | hp | hp
                · exact .inl hp
                · exact .inr (.inl hp)
                · exact .inr (.inr ⟨hp.1, by omega⟩)
              · refine HS17.out.kept fun x hq hlt => ?_
                have hn := HFR.out.apart (lo := V2.heap.size) s1 (by omega) hx hy hz HR.out.2.2.2.1 HR.out.2.2.2.2.1 x hq
                rw [HB20.out.block x (by omega), HO19.out.block x (by omega) hn, HB18.out.block x hlt])
            go_wp2_with fail
            exact ⟨⟨i + 1, by omega, by go_num, HFN⟩, by simp [intOf]; omega⟩
    · obtain rfl : i = n := by omega
      clear hlt
      go_wp2_with fail
      refine (ends13_any W0 w.heap.size ps Q HFR.out.be.size HFR.out.sh).mono ?_
      rintro e w2 ⟨rfl, ho2⟩
      have HO2 := Lib.hid ho2
      clear ho2
      have HBK : Hid (BkF w2 w.heap.size pb P) := Lib.hid (HFR.out.bk.below fun x hx hlt => HO2.out.block x hlt (HFR.out.dj x hx))
      go_wp2_with fail
      refine (whole13_any w2 w.heap.size pb P HBK.out).mono ?_
      rintro e w3 ⟨rfl, hb3⟩
      have HB3 := Lib.hid hb3
      clear hb3
      go_wp2_with fail
      go_ret
      exact ⟨rfl, (HFR.out.be.trans (HO2.out.base HFR.out.be.size fun x hx => (HFR.out.ql x hx).1)).then_ HB3.out⟩
end Go.Proofs.YtkdejffhdhcocaaGreat
