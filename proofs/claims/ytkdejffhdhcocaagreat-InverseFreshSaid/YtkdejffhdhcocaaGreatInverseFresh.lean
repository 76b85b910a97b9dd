/- The walk of InverseFresh: it returns true. Condition: sizes within reach. · The law abacuslaw17.InverseFresh returns true and leaves its input as it was. Conditions: those of the given row alone. -/
import Derived.Test.YtkdejffhdhcocaaGreatTeJ3
import Derived.Test.YtkdejffhdhcocaaGreatTeJ6
import Derived.Test.YtkdejffhdhcocaaGreatTeLay
import Derived.Test.YtkdejffhdhcocaaGreatTe1p
import Derived.Test.YtkdejffhdhcocaaGreatTe1g
import Derived.Test.YtkdejffhdhcocaaGreatRows
import Derived.Test.YtkdejffhdhcocaaGreatTeMO
import Derived.ProofKit
import Derived.OpenShut
import Derived.Deep.DeepHandedRow
namespace Go.Proofs.YtkdejffhdhcocaaGreat
open Go.RowKit

abbrev bxCells (t : Tm) (r : Rt) : Array Value := #[.int .i64 t.kind, .string t.text, .int .i64 t.n, .slice r.s.p r.s.n r.s.c, .slice r.a.p r.a.n r.a.c, .slice r.k.p r.k.n r.k.c]
theorem iof_rt {W : World} {B0 : Nat} {t : Tm} {r : Rt} (ho : OwnT W B0 t r) (hwf : WfT t) : Calls Tryz.prog 9 #[rtVal t r] W (TnPost (obvT t).1 (obvT t).2 W) := by rw [own_val ho]; exact iof_any _ _ _ _ _ _ _ _ ho.read.1 hwf
theorem eq_rr {W : World} {B0 B1 : Nat} {t : Tm} {r s : Rt} (ho : OwnT W B0 t r) (hp : OwnT W B1 t s) (hwf : WfT t) (hg : greatT t = false) : Calls Tryz.prog 13 #[rtVal t r, rtVal t s] W fun e w' => e = .returned (.bool true) ∧ Below W.heap.size W w' := by
  rw [own_val ho, own_val hp]
  exact eq_any _ _ _ _ _ _ _ _ _ _ _ _ _ _ ho.read.1 hp.read.1 hwf hg
set_option maxRecDepth 100000 in
set_option maxHeartbeats 64000000 in
theorem inverseFresh_any (X : Option Addr) (l : List Tm) (c : Nat) (w : World) (h : KidsAt w X l 0) (hwf : ∀ t ∈ l, WfT t) (hl : l.length * 104 ≤ 140737488351232) :
    Calls Tryz.prog 3 #[.slice X l.length c] w fun e w' => e = .returned (.bool true) ∧ Below w.heap.size w w' := by
  have HH := Lib.hid h
  have HWL := Lib.hid hwf
  obtain ⟨n, hn⟩ : ∃ n, n = l.length := ⟨_, rfl⟩
  rw [← hn] at hl ⊢
  have HN := Lib.hid hn
  clear h hwf hn
  go_enter Tryz.func3, Tryz.ntmps3
  go_wp2_with fail
  refine (begun17_any w).mono ?_
  rintro e wb ⟨rfl, hb2⟩
  have HB2 := Lib.hid hb2
  clear hb2
  go_upto_region 4 with fail
  obtain ⟨V1, hV1⟩ : ∃ V, V = (wb.alloc (.cells #[.slice none 0 0, .slice none 0 0, .slice none 0 0, .int .i64 0] TB3)).alloc (.cells #[.slice none 0 0, .slice none 0 0, .int .i64 0] TShf) := ⟨_, rfl⟩
  have hbv : Below wb.heap.size wb V1 := by rw [hV1]; exact ((Below.refl _ _).alloc (Nat.le_refl _) _).alloc (by simp) _
  have HF1 : Hid (FrI w V1 wb.heap.size (wb.heap.size + 1) (fun x => x = wb.heap.size) (fun x => x = wb.heap.size + 1)) := Lib.hid (by
    have hs := HB2.out.size
    have h1 : V1.heap[wb.heap.size]? = some (.cells #[.slice none 0 0, .slice none 0 0, .slice none 0 0, .int .i64 0] TB3 (0, 0)) := by rw [hV1]; exact (Below.heap_alloc _ _ _ (by simp)).trans (heap_alloc_new wb _)
    have h2 : V1.heap[wb.heap.size + 1]? = some (.cells #[.slice none 0 0, .slice none 0 0, .int .i64 0] TShf (0, 0)) := by rw [hV1]; exact heap_new2 _ _ _
    have h3 := heap_lt h2
    exact ⟨HB2.out.then_ hbv, BkF.new h1 rfl hs, ShX.new h2 rfl (by omega), fun x hx hy => by omega, fun x hx => by omega, fun x hx => by omega⟩)
  rw [← hV1]
  obtain ⟨ps, hps⟩ : ∃ p, p = wb.heap.size + 1 := ⟨_, rfl⟩
  try rw [← hps]
  obtain ⟨pb, hpb⟩ : ∃ p, p = wb.heap.size := ⟨_, rfl⟩
  have HF2 : Hid (∃ P Q : Nat → Prop, FrI w V1 pb ps P Q) := Lib.hid ⟨_, _, by rw [hpb, hps]; exact HF1.out⟩
  rw [← hpb]
  clear hV1 hbv HF1 hps hpb
  go_wp2_with fail
  go_loopw [5] (fun v W => ∃ i : Nat, i ≤ n ∧ v = .int .i64 i ∧ Hid (∃ P Q : Nat → Prop, FrI w W pb ps P Q)) (fun v _ => n - (intOf v).toNat)
  case atStart => exact ⟨0, Nat.zero_le _, rfl, HF2⟩
  case round =>
    clear HF2 HB2
    obtain ⟨i, hi, rfl, HI⟩ := hrel
    obtain ⟨P, Q, hfr⟩ := HI.out
    have HFR := Lib.hid hfr
    obtain ⟨W0, rfl⟩ : ∃ V, V = wr := ⟨_, rfl⟩
    clear hfr HI
    by_cases hlt : i < n
    · obtain ⟨t, ht⟩ : ∃ t, l[i]? = some t := ⟨_, List.getElem?_eq_getElem (by rw [← HN.out]; exact hlt)⟩
      obtain ⟨b, off, rfl, hp⟩ := HH.out.get ht
      rw [Nat.zero_add] at hp
      have HWF := Lib.hid (HWL.out t (List.mem_of_getElem? ht))
      obtain ⟨A, ca, B, cb, K, ck, hltb, q0, q1, q2, q3, q4, q5, hat⟩ := hp.cells
      have PTF : Hid (∀ W, Below w.heap.size w W → W.cell? ⟨b, off + i * 6, none⟩ = some (.int .i64 t.kind) ∧ W.cell? ⟨b, off + i * 6 + 1, none⟩ = some (.string t.text) ∧ W.cell? ⟨b, off + i * 6 + 2, none⟩ = some (.int .i64 t.n) ∧ W.cell? ⟨b, off + i * 6 + 3, none⟩ = some (.slice A t.sh.length ca) ∧ W.cell? ⟨b, off + i * 6 + 4, none⟩ = some (.slice B t.at_.length cb) ∧ W.cell? ⟨b, off + i * 6 + 5, none⟩ = some (.slice K t.kids.length ck) ∧ b < W.heap.size ∧ TmAt W t A B K) := Lib.hid fun W h => by
        have key : ∀ j v, w.cell? ⟨b, j, none⟩ = some v → W.cell? ⟨b, j, none⟩ = some v := fun j v hv => (h.cell (p := ⟨b, j, none⟩) hltb).trans hv
        exact ⟨key _ _ q0, key _ _ q1, key _ _ q2, key _ _ q3, key _ _ q4, key _ _ q5, Nat.lt_of_lt_of_le hltb h.size, hat.on h⟩
      have b1 : (0 : Int) ≤ (i : Int) := by omega
      have b2 : (i : Int) < (n : Int) := by omega
      have HUW := Lib.hid (obvT_fine HWF.out)
      have HSMALL : Hid ((obvT t).2 = 0 → greatT t = false) := Lib.hid fun h0 => by
        rcases obvT_cases t with ⟨h1, e⟩ | ⟨_, h1, e⟩ | ⟨hm0, u, _, e⟩
        · rw [e] at h0; exact absurd h0 (by simpa using h1)
        · rw [e] at h0; exact absurd h0 (by decide)
        · exact (may_good hm0).2.1
      obtain ⟨U, hU⟩ : ∃ U, U = (obvT t).1 := ⟨_, rfl⟩
      obtain ⟨nu, hnu⟩ : ∃ n, n = (obvT t).2 := ⟨_, rfl⟩
      have HDOF : Hid (∀ W, Below w.heap.size w W → Calls Tryz.prog 7 #[tmVal t A ca B cb K ck] W (TnPost U nu W)) := Lib.hid fun W hW => by rw [hU, hnu]; exact dOfN_any dof_any t A ca B cb K ck W (PTF.out W hW).2.2.2.2.2.2.2 HWF.out
      have HIOF : Hid (∀ (W : World) (B0 : Nat) (r : Rt), OwnT W B0 t r → Calls Tryz.prog 9 #[rtVal t r] W (TnPost U nu W)) := Lib.hid fun W B0 r ho => by rw [hU, hnu]; exact iof_rt ho HWF.out
      rw [← hnu] at HSMALL
      rw [← hU] at HUW
      clear ht hp hltb q0 q1 q2 q3 q4 q5 hat hU hnu
      obtain ⟨p0, p1, p2, p3, p4, p5, pl, _⟩ := PTF.out W0 HFR.out.be
      go_wp2_with fail
      refine (HDOF.out W0 HFR.out.be).mono ?_
      rintro e w1 ⟨ru, rfl, ou, nu1, hb1⟩
      go_upto_region 8 with fail
      obtain ⟨Vu, hVu⟩ : ∃ V, V = w1.alloc (.cells (bxCells U ru) TTm) := ⟨_, rfl⟩
      have hbx := BxO.new hVu ou nu1 hb1.size
      have HU0 := Lib.hid hbx.1
      have HB0u := Lib.hid (hb1.then_ hbx.2)
      have HRU : Hid (∀ g, g = w1.heap.size ∨ g ∈ blksT ru → W0.heap.size ≤ g ∧ g < Vu.heap.size) := Lib.hid hbx.1.ge
      rw [← hVu]
      obtain ⟨g6, hg6⟩ : ∃ g, g = w1.heap.size := ⟨_, rfl⟩
      rw [← hg6] at HU0 HRU ⊢
      clear hVu hbx ou nu1 hb1 hg6 p0 p1 p2 p3 p4 p5 pl
      by_cases hz : nu = 0
      · subst hz
        have HGT := Lib.hid (HSMALL.out rfl)
        obtain ⟨p0, p1, p2, p3, p4, p5, pl, pt⟩ := PTF.out Vu (HFR.out.be.then_ HB0u.out)
        go_wp2_with fail
        refine (lay_any (cnt t) t A ca B cb K ck Vu (Nat.le_refl _) pt HWF.out).mono ?_
        rintro e w2 ⟨r0, rfl, o0, m0, n0, hb2⟩
        go_upto_region 10 with fail
        obtain ⟨V2, hV2⟩ : ∃ V, V = w2.alloc (.cells (bxCells t r0) TTm) := ⟨_, rfl⟩
        have hbx := BxO.new hV2 o0 n0 hb2.size
        have HT2 : Hid (BxO V2 Vu.heap.size w2.heap.size t r0 ∧ MarkT V2 t r0) := Lib.hid ⟨hbx.1, m0.on hbx.2⟩
        have HR0 : Hid (∀ g, g = w2.heap.size ∨ g ∈ blksT r0 → Vu.heap.size ≤ g ∧ g < V2.heap.size) := Lib.hid hbx.1.ge
        have HBu2 := Lib.hid (hb2.then_ hbx.2)
        have HU2 := Lib.hid (HU0.out.below HBu2.out)
        rw [← hV2]
        obtain ⟨g8, hg8⟩ : ∃ g, g = w2.heap.size := ⟨_, rfl⟩
        rw [← hg8] at HT2 HR0 ⊢
        clear hV2 hbx o0 m0 n0 hb2 hg8 p0 p1 p2 p3 p4 p5 pl pt
        obtain ⟨x0, x1, x2, x3, x4, x5, xl⟩ := HT2.out.1.six
        go_wp2_with fail
        refine (HIOF.out V2 _ r0 HT2.out.1.own).mono ?_
        rintro e w3 ⟨rx, rfl, ox, nx, hb3⟩
        go_upto_region 11 with fail
        obtain ⟨V3, hV3⟩ : ∃ V, V = w3.alloc (.cells (bxCells U rx) TTm) := ⟨_, rfl⟩
        have hbx := BxO.new hV3 ox nx hb3.size
        have HX3 := Lib.hid hbx.1
        have HB23 := Lib.hid (hb3.then_ hbx.2)
        have HR3 : Hid (∀ g, g = w3.heap.size ∨ g ∈ blksT rx → V2.heap.size ≤ g ∧ g < V3.heap.size) := Lib.hid hbx.1.ge
        rw [← hV3]
        obtain ⟨g9, hg9⟩ : ∃ g, g = w3.heap.size := ⟨_, rfl⟩
        rw [← hg9] at HX3 HR3 ⊢
        clear hV3 hbx ox nx hb3 hg9 x0 x1 x2 x3 x4 x5 xl
        have HT3 := Lib.hid (HT2.out.1.below HB23.out)
        obtain ⟨x0, x1, x2, x3, x4, x5, xl⟩ := HT3.out.six
        go_wp2_with fail
        refine (HIOF.out V3 _ r0 HT3.out.own).mono ?_
        rintro e w4 ⟨ry, rfl, oy, ny, hb4⟩
        go_upto_region 12 with fail
        obtain ⟨V4, hV4⟩ : ∃ V, V = w4.alloc (.cells (bxCells U ry) TTm) := ⟨_, rfl⟩
        have hbx := BxO.new hV4 oy ny hb4.size
        have HY4 := Lib.hid hbx.1
        have HB34 := Lib.hid (hb4.then_ hbx.2)
        have HR4 : Hid (∀ g, g = w4.heap.size ∨ g ∈ blksT ry → V3.heap.size ≤ g ∧ g < V4.heap.size) := Lib.hid hbx.1.ge
        rw [← hV4]
        obtain ⟨g11, hg11⟩ : ∃ g, g = w4.heap.size := ⟨_, rfl⟩
        rw [← hg11] at HY4 HR4 ⊢
        clear hV4 hbx oy ny hb4 hg11 x0 x1 x2 x3 x4 x5 xl
        have HT4 := Lib.hid (HT3.out.below HB34.out)
        obtain ⟨x0, x1, x2, x3, x4, x5, xl⟩ := HT4.out.six
        go_wp2_with fail
        refine (HIOF.out V4 _ r0 HT4.out.own).mono ?_
        rintro e w5 ⟨rz, rfl, oz, nz, hb5⟩
        go_upto_region 13 with fail
        obtain ⟨V5, hV5⟩ : ∃ V, V = w5.alloc (.cells (bxCells U rz) TTm) := ⟨_, rfl⟩
        have hbx := BxO.new hV5 oz nz hb5.size
        have HZ5 := Lib.hid hbx.1
        have HB45 := Lib.hid (hb5.then_ hbx.2)
        have HR5 : Hid (∀ g, g = w5.heap.size ∨ g ∈ blksT rz → V4.heap.size ≤ g ∧ g < V5.heap.size) := Lib.hid hbx.1.ge
        rw [← hV5]
        obtain ⟨g13, hg13⟩ : ∃ g, g = w5.heap.size := ⟨_, rfl⟩
        rw [← hg13] at HZ5 HR5 ⊢
        clear hV5 hbx oz nz hb5 hg13 x0 x1 x2 x3 x4 x5 xl
        have HB25 := Lib.hid ((HB23.out.then_ HB34.out).then_ HB45.out)
        have HX5 : Hid (BxO V5 V2.heap.size g9 U rx ∧ BxO V5 V3.heap.size g11 U ry ∧ BxO V5 V4.heap.size g13 U rz ∧ BxO V5 Vu.heap.size g8 t r0 ∧ BxO V5 W0.heap.size g6 U ru ∧ MarkT V5 t r0) := Lib.hid ⟨(HX3.out.below HB34.out).below HB45.out, HY4.out.below HB45.out, HZ5.out, HT4.out.below HB45.out, HU2.out.below HB25.out, HT2.out.2.on HB25.out⟩
        have HSZ : Hid (w.heap.size ≤ W0.heap.size ∧ W0.heap.size ≤ Vu.heap.size ∧ Vu.heap.size ≤ V2.heap.size ∧ V2.heap.size ≤ V3.heap.size ∧ V3.heap.size ≤ V4.heap.size ∧ V4.heap.size ≤ V5.heap.size) := Lib.hid ⟨HFR.out.be.size, HB0u.out.size, HBu2.out.size, HB23.out.size, HB34.out.size, HB45.out.size⟩
        have HB05 := Lib.hid (HB0u.out.then_ (HBu2.out.then_ HB25.out))
        clear HX3 HY4 HZ5 HT2 HT3 HT4 HU0 HU2
        have HR : Hid ((∀ x ∈ blksT rx, V2.heap.size ≤ x ∧ x < V3.heap.size) ∧ (∀ x ∈ blksT ry, V3.heap.size ≤ x ∧ x < V4.heap.size) ∧ (∀ x ∈ blksT rz, V4.heap.size ≤ x ∧ x < V5.heap.size)) := Lib.hid ⟨fun x hx => HR3.out x (.inr hx), fun x hx => HR4.out x (.inr hx), fun x hx => HR5.out x (.inr hx)⟩
        obtain ⟨y0, y1, y2, y3, y4, y5, yl⟩ := HX5.out.2.1.six
        obtain ⟨z0, z1, z2, z3, z4, z5, zl⟩ := HX5.out.2.2.1.six
        obtain ⟨W16, hW16⟩ : ∃ V, V = V5.alloc (.cells #[.int .i64 U.kind, .string U.text, .int .i64 U.n, .slice ry.s.p ry.s.n ry.s.c, .slice ry.a.p ry.a.n ry.a.c, .slice ry.k.p ry.k.n ry.k.c, .int .i64 U.kind, .string U.text, .int .i64 U.n, .slice rz.s.p rz.s.n rz.s.c, .slice rz.a.p rz.a.n rz.a.c, .slice rz.k.p rz.k.n rz.k.c] TTm) := ⟨_, rfl⟩
        have hb16 : Below V5.heap.size V5 W16 := by rw [hW16]; exact (Below.refl _ _).alloc (Nat.le_refl _) _
        have H16 := Lib.hid hb16
        have hc16 : W16.heap[V5.heap.size]? = some (.cells (rtCellsL [U, U] [ry, rz]).toArray TTm (0, 0)) := by rw [hW16]; exact heap_alloc_new V5 _
        have HQN : Hid (∀ x, W0.heap.size ≤ x → ¬ Q x ∧ ¬ P x) := Lib.hid fun x hx => ⟨fun e => by have := (HFR.out.ql x e).2; omega, fun e => by have := (HFR.out.pl x e).2; omega⟩
        have HB16 := Lib.hid (HB05.out.then_ H16.out)
        have HS16 : Hid (V5.heap.size ≤ W16.heap.size) := Lib.hid hb16.size
        have HX16 : Hid (BxO W16 V2.heap.size g9 U rx ∧ BxO W16 V3.heap.size g11 U ry ∧ BxO W16 V4.heap.size g13 U rz ∧ BxO W16 Vu.heap.size g8 t r0 ∧ BxO W16 W0.heap.size g6 U ru ∧ MarkT W16 t r0) := Lib.hid ⟨HX5.out.1.below H16.out, HX5.out.2.1.below H16.out, HX5.out.2.2.1.below H16.out, HX5.out.2.2.2.1.below H16.out, HX5.out.2.2.2.2.1.below H16.out, HX5.out.2.2.2.2.2.on H16.out⟩
        have HKEEP : Hid (Calls Tryz.prog 10 #[.pointer (some ⟨ps, 0, none⟩), .slice (some ⟨V5.heap.size, 0, none⟩) ((2 : Nat) : Int).toNat 2] W16 fun e w' => e = .returned (.tuple #[]) ∧ OnlyP Q W16 w' ∧ ShX w' w.heap.size ps (fun x => Q x ∨ x ∈ blksL [ry, rz] ∨ (W16.heap.size ≤ x ∧ x < w'.heap.size))) := Lib.hid (by
          obtain ⟨s1, s2, s3, s4, s5, s6⟩ := HSZ.out
          have s7 := HS16.out
          have hyz : ∀ x, x ∈ blksL [ry, rz] → x ∈ blksT ry ∨ x ∈ blksT rz := fun x hx => by simpa [blksL] using hx
          refine keep13_any [U, U] [ry, rz] V5.heap.size 2 W16 w.heap.size ps Q hc16 (HQN.out _ (by omega)).1 ?_ ?_ ?_ ?_ (by omega) rfl (by omega) (HFR.out.below HB16.out).sh
          · simp only [OwnL, and_true]
            exact ⟨HX16.out.2.1.own.mono (by omega), HX16.out.2.2.1.own.mono (by omega)⟩
          · simp only [blksL, List.append_nil]
            exact List.nodup_append.2 ⟨HX16.out.2.1.nd, HX16.out.2.2.1.nd, fun a ha b hb e => by have := HR.out.2.1 a ha; have := HR.out.2.2 b hb; omega⟩
          · intro x hx
            have : x = U := by simpa using hx
            subst this
            exact HUW.out.1
          · intro x hx
            rcases hyz x hx with e | e
            · have := HR.out.2.1 x e; exact (HQN.out x (by omega)).1
            · have := HR.out.2.2 x e; exact (HQN.out x (by omega)).1)
        clear hb16 hc16
        go_wp2_with fail
        rw [← hW16]
        refine HKEEP.out.mono ?_
        rintro e w17 ⟨rfl, ho17, hs17⟩
        have HO17 := Lib.hid ho17
        have HS17 := Lib.hid hs17
        have HN17 : Hid (∀ x, W0.heap.size ≤ x → x < W16.heap.size → w17.heap[x]? = W16.heap[x]?) := Lib.hid fun x h1 h2 => ho17.block x h2 (HQN.out x h1).1
        have HX17 : Hid (BxO w17 V2.heap.size g9 U rx ∧ BxO w17 V3.heap.size g11 U ry ∧ BxO w17 Vu.heap.size g8 t r0 ∧ BxO w17 W0.heap.size g6 U ru ∧ MarkT w17 t r0) := Lib.hid (by
          obtain ⟨s1, s2, s3, s4, s5, s6⟩ := HSZ.out
          obtain ⟨h1, h2, _, h4, h5, h6⟩ := HX16.out
          exact ⟨h1.kept fun x hx he => HN17.out x (by have := h1.ge x he; omega) hx, h2.kept fun x hx he => HN17.out x (by have := h2.ge x he; omega) hx, h4.kept fun x hx he => HN17.out x (by have := h4.ge x he; omega) hx, h5.kept fun x hx he => HN17.out x (h5.ge x he).1 hx, h6.kept ho17.size fun x hx => HN17.out x (by have := h4.ge x (.inr hx); omega) (h4.ge x (.inr hx)).2⟩)
        have HB17 : Hid (Below w.heap.size w w17) := Lib.hid ((HFR.out.be.then_ HB16.out).trans (ho17.base (Nat.le_trans HFR.out.be.size HB16.out.size) fun x hx => (HFR.out.ql x hx).1))
        clear ho17 hs17 HKEEP hW16 y0 y1 y2 y3 y4 y5 yl z0 z1 z2 z3 z4 z5 zl
        obtain ⟨x0, x1, x2, x3, x4, x5, xl⟩ := HX17.out.1.six
        obtain ⟨W18, hW18⟩ : ∃ V, V = w17.alloc (.cells (bxCells U rx) TTm) := ⟨_, rfl⟩
        have hb18 : Below w17.heap.size w17 W18 := by rw [hW18]; exact (Below.refl _ _).alloc (Nat.le_refl _) _
        have HB18 := Lib.hid hb18
        have HS18 : Hid (W16.heap.size ≤ w17.heap.size ∧ w17.heap.size ≤ W18.heap.size) := Lib.hid ⟨HO17.out.size, hb18.size⟩
        have HTAKE : Hid (Calls Tryz.prog 11 #[.pointer (some ⟨pb, 0, none⟩), .slice (some ⟨w17.heap.size, 0, none⟩) 1 1] W18 fun e w' => e = .returned (.tuple #[]) ∧ OnlyP (fun x => P x ∨ x ∈ blksT rx) W18 w' ∧ BkF w' w.heap.size pb (fun x => P x ∨ x ∈ blksT rx ∨ (W18.heap.size ≤ x ∧ x < w'.heap.size))) := Lib.hid (by
          obtain ⟨s1, s2, s3, s4, s5, s6⟩ := HSZ.out
          have s7 := HS16.out
          obtain ⟨s8, s9⟩ := HS18.out
          refine take13_any U rx w17.heap.size W18 w.heap.size pb P (by rw [hW18]; exact heap_alloc_new w17 _) ((HX17.out.1.below hb18).own.mono (by omega)) HX17.out.1.nd HUW.out.1 (fun x hx => (HQN.out x (by have := HR.out.1 x hx; omega)).2) (by omega) (size_small HUW.out.2).2.1 (HFR.out.bk.below fun x hx hlt => ?_)
          exact (hb18.block x (by omega)).trans ((HO17.out.block x (by omega) (HFR.out.dj x hx)).trans (HB16.out.block x hlt)))
        clear hb18
        go_wp2_with fail
        rw [← hW18]
        refine HTAKE.out.mono ?_
        rintro e w19 ⟨rfl, ho19, hk19⟩
        have HO19 := Lib.hid ho19
        have HK19 := Lib.hid hk19
        have HNP : Hid (∀ x, W0.heap.size ≤ x → ¬ (V2.heap.size ≤ x ∧ x < V3.heap.size) → ¬ (P x ∨ x ∈ blksT rx)) := Lib.hid fun x h1 h2 h3 => by
          rcases h3 with h3 | h3
          · exact (HQN.out x h1).2 h3
          · exact h2 (HR.out.1 x h3)
        have HX18 : Hid (BxO W18 V3.heap.size g11 U ry ∧ BxO W18 Vu.heap.size g8 t r0 ∧ BxO W18 W0.heap.size g6 U ru ∧ MarkT W18 t r0) := Lib.hid ⟨HX17.out.2.1.below HB18.out, HX17.out.2.2.1.below HB18.out, HX17.out.2.2.2.1.below HB18.out, HX17.out.2.2.2.2.on HB18.out⟩
        have HX19 : Hid (BxO w19 V3.heap.size g11 U ry ∧ BxO w19 Vu.heap.size g8 t r0 ∧ BxO w19 W0.heap.size g6 U ru ∧ MarkT w19 t r0) := Lib.hid (by
          obtain ⟨s1, s2, s3, s4, s5, s6⟩ := HSZ.out
          obtain ⟨h2, h4, h5, h6⟩ := HX18.out
          exact ⟨h2.only ho19 fun x he => HNP.out x (by have := h2.ge x he; omega) (by have := h2.ge x he; omega), h4.only ho19 fun x he => HNP.out x (by have := h4.ge x he; omega) (by have := HR0.out x he; omega), h5.only ho19 fun x he => HNP.out x (h5.ge x he).1 (by have := HRU.out x he; omega),
            h6.kept ho19.size fun x hx => ho19.block x (h4.ge x (.inr hx)).2 (HNP.out x (by have := h4.ge x (.inr hx); omega) (by have := HR0.out x (.inr hx); omega))⟩)
        have HB19 : Hid (Below w.heap.size w w19) := Lib.hid ((HB17.out.then_ HB18.out).trans (ho19.base (by have := HSZ.out; have := HS18.out; have := HS16.out; omega) fun x hx => by
          rcases hx with hx | hx
          · exact (HFR.out.pl x hx).1
          · have := (HR.out.1 x hx).1; have := HSZ.out; omega))
        have HF19 : Hid (FrI w w19 pb ps (fun x => P x ∨ x ∈ blksT rx ∨ (W18.heap.size ≤ x ∧ x < w19.heap.size)) (fun x => Q x ∨ x ∈ blksL [ry, rz] ∨ (W16.heap.size ≤ x ∧ x < w17.heap.size))) := Lib.hid (by
          obtain ⟨s1, s2, s3, s4, s5, s6⟩ := HSZ.out
          have s7 := HS16.out
          obtain ⟨s8, s9⟩ := HS18.out
          have s10 := HO19.out.size
          have hx : ∀ x ∈ blksT rx, V2.heap.size ≤ x ∧ x < W16.heap.size := fun x hx => by have := HR.out.1 x hx; omega
          have hy : ∀ x ∈ blksT ry, V2.heap.size ≤ x ∧ x < W16.heap.size := fun x hx => by have := HR.out.2.1 x hx; omega
          have hz : ∀ x ∈ blksT rz, V2.heap.size ≤ x ∧ x < W16.heap.size := fun x hx => by have := HR.out.2.2 x hx; omega
          have hxy : ∀ x ∈ blksT rx, x ∉ blksT ry := fun x h1 h2 => by have := HR.out.1 x h1; have := HR.out.2.1 x h2; omega
          have hxz : ∀ x ∈ blksT rx, x ∉ blksT rz := fun x h1 h2 => by have := HR.out.1 x h1; have := HR.out.2.2 x h2; omega
          refine HFR.out.more (Wk := W16) (W1 := w17) (Wt := W18) (W2 := w19) (lo := V2.heap.size) (rx := rx) (ry := ry) (rz := rz) (by omega) (by omega) s9 (by omega) s8 hx hy hz hxy hxz HB19.out HK19.out (HS17.out.kept fun x hq hlt => ?_)
          have hn := HFR.out.apart (lo := V2.heap.size) (by omega) (by omega) hx hy hz hxy hxz x hq
          rw [HO19.out.block x (by omega) hn, HB18.out.block x hlt])
        clear ho19 hk19 HTAKE hW18 x0 x1 x2 x3 x4 x5 xl HX5 HX16 HX17 HX18
        obtain ⟨x0, x1, x2, x3, x4, x5, xl⟩ := HX19.out.2.1.six
        go_wp2_with fail
        refine (HIOF.out w19 _ r0 HX19.out.2.1.own).mono ?_
        rintro e w20 ⟨rv, rfl, ov, nv, hb20⟩
        go_upto_region 16 with fail
        obtain ⟨V20, hV20⟩ : ∃ V, V = w20.alloc (.cells (bxCells U rv) TTm) := ⟨_, rfl⟩
        have hbx := BxO.new hV20 ov nv hb20.size
        have HV20 := Lib.hid hbx.1
        have HB20 := Lib.hid (hb20.then_ hbx.2)
        rw [← hV20]
        obtain ⟨g15, hg15⟩ : ∃ g, g = w20.heap.size := ⟨_, rfl⟩
        rw [← hg15] at HV20 ⊢
        clear hV20 hbx ov nv hb20 hg15 x0 x1 x2 x3 x4 x5 xl
        have HX20 : Hid (BxO V20 V3.heap.size g11 U ry ∧ BxO V20 Vu.heap.size g8 t r0 ∧ BxO V20 W0.heap.size g6 U ru ∧ MarkT V20 t r0) := Lib.hid ⟨HX19.out.1.below HB20.out, HX19.out.2.1.below HB20.out, HX19.out.2.2.1.below HB20.out, HX19.out.2.2.2.on HB20.out⟩
        have HF20 := Lib.hid (HF19.out.below HB20.out)
        obtain ⟨x0, x1, x2, x3, x4, x5, xl⟩ := HX20.out.2.1.six
        obtain ⟨p0, p1, p2, p3, p4, p5, pl, _⟩ := PTF.out V20 HF20.out.be
        have HDR : Hid (Below V20.heap.size V20 V20.drew) := Lib.hid (Below.refl _ _).drew
        have HKP : Hid (Calls Tryz.prog 12 #[rtVal t r0, tmVal t A ca B cb K ck] V20.drew fun e w' => e = .returned (.bool true) ∧ Only V20.drew w' (blksT r0)) := Lib.hid (
          kept_any t r0 A ca B cb K ck Vu.heap.size V20.drew (HX20.out.2.1.below HDR.out).own HX20.out.2.1.nd (HX20.out.2.2.2.on HDR.out) (PTF.out V20.drew (HF20.out.be.then_ HDR.out)).2.2.2.2.2.2.2 HWF.out HGT.out)
        unfold rtVal tmVal at HKP
        go_still_tail 5, (by kernel_rfl)
        change wpList _ _ _ _ _ V20.drew
        go_wp2_with fail
        refine HKP.out.mono ?_
        rintro e w21 ⟨rfl, ho21⟩
        have HO21 : Hid (∀ x, x < V20.heap.size → x ∉ blksT r0 → w21.heap[x]? = V20.heap[x]?) := Lib.hid fun x h1 h2 => ho21.block x h1 h2
        have HB21 : Hid (Below w.heap.size w w21) := Lib.hid ((HF20.out.be.then_ HDR.out).trans (ho21.below (fun g hg => by have := HR0.out g (.inr hg); have := HSZ.out; omega) HF20.out.be.size))
        have HS21 : Hid (V20.heap.size ≤ w21.heap.size) := Lib.hid ho21.size
        have HX21 : Hid (BxO w21 V3.heap.size g11 U ry ∧ BxO w21 W0.heap.size g6 U ru ∧ BxO w21 w19.heap.size g15 U rv) := Lib.hid (by
          obtain ⟨s1, s2, s3, s4, s5, s6⟩ := HSZ.out
          have s7 := HS16.out
          obtain ⟨s8, s9⟩ := HS18.out
          have s10 := HO19.out.size
          obtain ⟨h2, h4, h5, _⟩ := HX20.out
          exact ⟨h2.kept fun x hx he => HO21.out x hx fun e => by have := h2.ge x he; have := HR0.out x (.inr e); omega, h5.kept fun x hx he => HO21.out x hx fun e => by have := HRU.out x he; have := HR0.out x (.inr e); omega, HV20.out.kept fun x hx he => HO21.out x hx fun e => by have := HV20.out.ge x he; have := HR0.out x (.inr e); omega⟩)
        have HF21 : Hid (FrI w w21 pb ps (fun x => P x ∨ x ∈ blksT rx ∨ (W18.heap.size ≤ x ∧ x < w19.heap.size)) (fun x => Q x ∨ x ∈ blksL [ry, rz] ∨ (W16.heap.size ≤ x ∧ x < w17.heap.size))) := Lib.hid (HF20.out.keep HB21.out HS21.out fun x hpq hlt => HO21.out x hlt fun e => by
          obtain ⟨s1, s2, s3, s4, s5, s6⟩ := HSZ.out
          have s7 := HS16.out
          obtain ⟨s8, s9⟩ := HS18.out
          have h0 := HR0.out x (.inr e)
          rcases hpq with (hp | hp | hp) | (hq | hq | hq)
          · exact (HQN.out x (by omega)).2 hp
          · have := HR.out.1 x hp; omega
          · omega
          · exact (HQN.out x (by omega)).1 hq
          · have hyz : x ∈ blksT ry ∨ x ∈ blksT rz := by simpa [blksL] using hq
            rcases hyz with hq | hq
            · have := HR.out.2.1 x hq; omega
            · have := HR.out.2.2 x hq; omega
          · omega)
        clear ho21 x0 x1 x2 x3 x4 x5 xl p0 p1 p2 p3 p4 p5 pl HX19 HX20 HV20 HKP HIOF
        obtain ⟨x0, x1, x2, x3, x4, x5, xl⟩ := HX21.out.2.2.six
        obtain ⟨u0, u1, u2, u3, u4, u5, ul⟩ := HX21.out.2.1.six
        go_wp2_with fail
        refine (eq_rr HX21.out.2.2.own HX21.out.2.1.own HUW.out.1 HUW.out.2).mono ?_
        rintro e w22 ⟨rfl, hb22⟩
        have HB22 := Lib.hid hb22
        have HX22 : Hid (BxO w22 V3.heap.size g11 U ry ∧ BxO w22 W0.heap.size g6 U ru) := Lib.hid ⟨HX21.out.1.below hb22, HX21.out.2.1.below hb22⟩
        clear hb22 x0 x1 x2 x3 x4 x5 xl u0 u1 u2 u3 u4 u5 ul
        obtain ⟨y0, y1, y2, y3, y4, y5, yl⟩ := HX22.out.1.six
        obtain ⟨u0, u1, u2, u3, u4, u5, ul⟩ := HX22.out.2.six
        go_wp2_with fail
        refine (eq_rr HX22.out.1.own HX22.out.2.own HUW.out.1 HUW.out.2).mono ?_
        rintro e w23 ⟨rfl, hb23⟩
        have HFN : Hid (∃ P Q : Nat → Prop, FrI w w23 pb ps P Q) := Lib.hid ⟨_, _, (HF21.out.below HB22.out).below hb23⟩
        clear hb23 y0 y1 y2 y3 y4 y5 yl u0 u1 u2 u3 u4 u5 ul
        go_wp2_with fail
        exact ⟨⟨i + 1, by omega, by go_num, HFN⟩, by simp [intOf]; omega⟩
      · have kz : (nu != 0) = true := by simp [hz]
        have HZ := Lib.hid hz
        clear hz
        go_wp2_with fail
        exact ⟨⟨i + 1, by omega, by go_num, Lib.hid ⟨P, Q, HFR.out.below HB0u.out⟩⟩, by simp [intOf]; omega⟩
    · obtain rfl : i = n := by omega
      clear hlt
      go_wp2_with fail
      refine (ends13_any W0 w.heap.size ps Q HFR.out.be.size HFR.out.sh).mono ?_
      rintro e w2 ⟨rfl, ho2⟩
      have HO2 := Lib.hid ho2
      clear ho2
      have HBK : Hid (BkF w2 w.heap.size pb P) := Lib.hid (HFR.out.bk.below fun x hx hlt => HO2.out.block x hlt (HFR.out.dj x hx))
      go_wp2_with fail
      refine (whole13_any w2 w.heap.size pb P HBK.out).mono ?_
      rintro e w3 ⟨rfl, hb3⟩
      have HB3 := Lib.hid hb3
      clear hb3
      go_wp2_with fail
      go_ret
      exact ⟨rfl, (HFR.out.be.trans (HO2.out.base HFR.out.be.size fun x hx => (HFR.out.ql x hx).1)).then_ HB3.out⟩
end Go.Proofs.YtkdejffhdhcocaaGreat

namespace Go.Proofs.YtkdejffhdhcocaaGreat.inverseFresh
open Go.ChangeShapes Go.WideShapes Go.ChangeAt Go.RowKit Go.ChangeMaps

theorem own : ownKnob Tryz.prog.godebug = none := by kernel_rfl
theorem laidOut : laidOutB Tryz.prog = true := by kernel_rfl

set_option maxRecDepth 100000 in
theorem contract (H : Type) (enc : TypeId × Value → H) (W : World) (base : Nat) (args : Array Value) (ds gs : List (DataW H)) (before : List MemPlace)
    (hval0 : ∀ (j : Nat) t v, Tryz.f3.params[j]? = some t → args[j]? = some v → Value.okWide Tryz.prog W .any base t v)
    (hW : DataW.Whole enc Tryz.prog Tryz.f3.params.toList Rows.inverseFreshSpec.vars false W args.toList ds gs before)
    (hsz0 : (DataW.weightsEach Tryz.prog (Tryz.f3.params.toList ++ (OpenSpec.ofChange Rows.inverseFreshSpec).bare.plain.varTypes Tryz.prog) (ds ++ gs)).all (· ≤ reachBytes) = true) :
    Calls Tryz.prog 3 args W fun e W' => ∃ v, e = .returned v ∧ Rows.inverseFreshSpec.post enc Tryz.prog Tryz.f3 false true false false W args v W' := by
  have hW' := hW
  obtain ⟨p, q, hA0, hV, rfl, hfz, hnd⟩ := hW
  have hA : DataW.TrodAll enc Tryz.prog W 0 (fun _ => true) true Tryz.f3.params.toList args.toList ds p := hA0
  have hval := hval0
  have hsz : (DataW.weightsEach Tryz.prog (Tryz.f3.params.toList ++ []) (ds ++ gs)).all (· ≤ reachBytes) = true := hsz0
  rw [Tryz.params3] at hA hval hsz
  obtain ⟨v0, vs0, d0, ds0, p0, q0, ha, rfl, rfl, h0, r0⟩ := trodAll_cons hA
  obtain ⟨rfl, rfl, rfl⟩ := trodAll_nil r0
  obtain rfl : args = #[v0] := by cases args; simp_all
  obtain ⟨rfl, rfl⟩ := trodVars_none hV
  clear hA0 hA hval0 hsz0 ha
  obtain ⟨Xts, lts, cts, rfl, hts, bts, cts8⟩ := open_terms (hval 0 _ _ rfl rfl) h0 hsz (j := 0) rfl rfl
  refine (inverseFresh_any Xts lts cts W hts bts cts8).mono fun e W' ⟨he, hg⟩ => ?_
  subst he
  exact ⟨_, rfl, law_post laidOut (by kernel_rfl) rfl rfl Tryz.underlying4 rfl hW' hg⟩

set_option maxRecDepth 100000 in
theorem reads (os : Os) {H : Type} (enc : TypeId × Value → H) : ∃ places, DataW.whole enc Tryz.prog ((World.holding Tryz.prog os ⟨#[], #[], []⟩).forCall (fun _ _ => 0) ⟨#[], #[(.slice none 0 0)], []⟩).memory Tryz.f3.params.toList Rows.inverseFreshSpec.vars false #[(.slice none 0 0)].toList 8 = some ([.nil], [], places) :=
  ⟨[], by kernel_rfl⟩

set_option maxRecDepth 100000 in
theorem lifted (os : Os) (started : os.Started) (H : Type) (enc : TypeId × Value → H) (F : Stop.Interp) :
    ReturnsInHanded {} Tryz.checked os 3 .any ((OpenSpec.ofChange Rows.inverseFreshSpec).preRow enc Tryz.prog Tryz.f3 Rows.inverseFreshRow.domain false Rows.inverseFreshRow.laid) (((OpenSpec.ofChange Rows.inverseFreshSpec).at F).post enc Tryz.prog Tryz.f3 false true false false) := by
  obtain ⟨places, hx⟩ := reads os enc
  refine returnsInHanded_of_row (C := Tryz.checked) (s := OpenSpec.ofChange Rows.inverseFreshSpec) own started (by kernel_rfl) Tryz.func3
    (witness_row_at (enc := enc) (C := Tryz.checked) false (World.holding Tryz.prog os ⟨#[], #[], []⟩) #[(.slice none 0 0)] rfl (by kernel_rfl) (by kernel_rfl) (by kernel_rfl)
      (OpenSpec.preRow_of_cond 8 hx (by kernel_rfl) (fun k hk => by cases hk) (by kernel_rfl) (laidMet_nil _ _))) ?_
  intro W base args ds gs before hval hW _ _ hsz _ _ _
  exact contract H enc W base args ds gs before hval hW hsz

theorem funcName : Tryz.pinned.checked.prog.funcNamed Rows.inverseFreshRow.func = some 3 := by kernel_rfl
theorem and2 {a b : Bool} (ha : a = true) (hb : b = true) : (a && b) = true := by rw [ha, hb]; rfl
set_option maxRecDepth 100000 in
set_option maxHeartbeats 16000000 in
theorem facts : joinedFacts Tryz.pinned.checked.prog 3 Tryz.f3 (OpenSpec.ofChange Rows.inverseFreshSpec).bare Rows.inverseFreshRow = true := by
  unfold joinedFacts
  repeat' (with_reducible refine and2 ?_ ?_)
  all_goals as_aux_lemma => kernel_rfl
theorem instance0 : Tryz.f3.isInstance Tryz.pinned.checked.prog Rows.inverseFreshRow.origin Rows.inverseFreshRow.targs := of_decide_eq_true (by kernel_rfl)
theorem wrapper0 : Tryz.f3.isWrapper Tryz.pinned.checked.prog Rows.inverseFreshRow.wrapper Rows.inverseFreshRow.mainSum := by unfold Func.isWrapper; first | (rw [if_pos (by decide +kernel)]; kernel_rfl) | (rw [if_neg (by decide +kernel)]; exact ⟨rfl, rfl⟩)
theorem said : Rows.InverseFreshSaid :=
  OpenClaim.holds_of_cond 3 Tryz.f3 rfl rfl rfl rfl rfl rfl rfl ⟨rfl, rfl, rfl, rfl, rfl⟩ rfl rfl rfl rfl rfl funcName Tryz.func3 facts instance0 wrapper0
    (fun os started H enc _ F => by rw [OpenClaim.pre_eq_preRow]; exact lifted os started H enc F)
#print axioms said
end Go.Proofs.YtkdejffhdhcocaaGreat.inverseFresh
