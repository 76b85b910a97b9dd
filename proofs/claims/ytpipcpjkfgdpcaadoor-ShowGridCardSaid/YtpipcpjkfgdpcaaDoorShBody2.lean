/- The body of Text's second loop: a number, laid out. Condition: strconv's table of powers is as laid. -/
import Derived.Test.YtpipcpjkfgdpcaaDoorShBody1
namespace Go.Proofs.YtpipcpjkfgdpcaaDoor
open Go.RowKit
attribute [local go_sem] Oper.semAt_some

/-- what holds ahead of each round of the second loop -/
def I2 (w : World) (g0 g4 g5 gw g8 : Nat) (A B : Option Addr) (ca cb : Nat) (s a : List Int) (m N p : Nat) (W : World) : Prop :=
  TextW w W g0 g4 g5 gw A B ca cb s a m ∧ Wide W gw m (wd a m N) ∧ Lib.IsBuilderF TB TU8 w.heap.size g8 (Lib.byteCells (grid s a m N p)) W
theorem builder_block {T e : TypeId} {B b : Nat} {bs : List Value} {W : World} (h : Lib.IsBuilderF T e B b bs W) : ∃ cs, W.heap[b]? = some (.cells cs T (0, 0)) := by
  rcases h with ⟨_, v, hb, _⟩ | ⟨_, v, hb, _⟩ <;> exact ⟨_, hb⟩
/-- a block that is neither the builder nor a row of bytes stays where the builder writes -/
theorem wrote_keep {g8 : Nat} {B : Nat} {bs : List Value} {W W' : World} (hI : Lib.IsBuilderF TB TU8 B g8 bs W) (hk : Lib.OthersKept TU8 (some g8) W W') {k : Nat} {cs : Array Value} {t : TypeId} {fr : Nat × Nat} (h : W.heap[k]? = some (.cells cs t fr)) (h1 : t ≠ TB) (h2 : t ≠ TU8) : W'.heap[k]? = W.heap[k]? := by
  refine (hk k _ h (fun e => ?_) (fun c fz e => ?_)).trans h.symm
  · injection e with e
    subst e
    obtain ⟨cs', hb⟩ := builder_block hI
    rw [h] at hb; injection hb with hb; injection hb with _ h3; exact h1 h3
  · injection e with _ h3; exact h2 h3
theorem wrote_others {g8 : Nat} {B : Nat} {bs : List Value} {W W' : World} (hI : Lib.IsBuilderF TB TU8 B g8 bs W) (hk : Lib.OthersKept TU8 (some g8) W W') (hs : W.heap.size ≤ W'.heap.size) : KeepsOthers W W' := by
  refine ⟨hs, fun k o h ho => hk k o h (fun e => ?_) (fun c fz e => ?_)⟩
  · injection e with e
    subst e
    obtain ⟨cs', hb⟩ := builder_block hI
    rw [h] at hb; injection hb with hb; subst hb; cases ho
  · subst e; cases ho
/-- all that Text and its iterator hold stays where the builder writes -/
structure Held (w W : World) (g0 g4 g5 gw g8 q b1 b2 : Nat) (A B A' : Option Addr) (ca cb ca' : Nat) (s a : List Int) (m N p : Nat) (l : List UInt8) : Prop where
  x : TextW w W g0 g4 g5 gw A B ca cb s a m
  wi : Wide W gw m (wd a m N)
  bu : Lib.IsBuilderF TB TU8 w.heap.size g8 (Lib.byteCells l) W
  at_ : Tail W q s.length 0 (idx s p)
  al : AllAt W b1 b2 A' ca' s
theorem Held.on {w W W' : World} {g0 g4 g5 gw g8 q b1 b2 ca cb ca' m N p : Nat} {A B A' : Option Addr} {s a : List Int} {l : List UInt8} (h : Held w W g0 g4 g5 gw g8 q b1 b2 A B A' ca cb ca' s a m N p l) (hb : Below W.heap.size W W') : Held w W' g0 g4 g5 gw g8 q b1 b2 A B A' ca cb ca' s a m N p l :=
  ⟨h.x.on hb, h.wi.on hb, h.bu.on hb, h.at_.on hb, h.al.on hb⟩
theorem Held.wrote {w W W' : World} {g0 g4 g5 gw g8 q b1 b2 ca cb ca' m N p : Nat} {A B A' : Option Addr} {s a : List Int} {l l' : List UInt8} (h : Held w W g0 g4 g5 gw g8 q b1 b2 A B A' ca cb ca' s a m N p l) (hw : Wrote w.heap.size g8 (Lib.byteCells l') W W') : Held w W' g0 g4 g5 gw g8 q b1 b2 A B A' ca cb ca' s a m N p l' := by
  obtain ⟨hb, hbe, hk⟩ := hw
  have keep : ∀ {k : Nat} {cs : Array Value} {t : TypeId} {fr : Nat × Nat}, W.heap[k]? = some (.cells cs t fr) → t ≠ TB → t ≠ TU8 → W'.heap[k]? = W.heap[k]? := fun {k cs t fr} => wrote_keep h.bu hk
  refine ⟨h.x.kept (h.x.be.trans hbe) (keep h.x.c0 (by decide) (by decide)) (keep h.x.c4 (by decide) (by decide)) (keep h.x.c5 (by decide) (by decide)), ?_, .inr hb, ?_, h.al.kept (fun k hin _ => ?_) hbe.size⟩
  · obtain ⟨cur, h1, h2, h3⟩ := h.wi
    exact ⟨cur, (keep h1 (by decide) (by decide)).trans h1, h2, h3⟩
  · obtain ⟨cur, h1, h2, h3⟩ := h.at_.blk
    exact ⟨⟨cur, (keep h1 (by decide) (by decide)).trans h1, h2, h3⟩⟩
  · obtain ⟨cs, t, fr, h1, h2⟩ := h.al.ty k hin
    rcases h2 with rfl | rfl <;> exact keep h1 (by decide) (by decide)
/-- what a round leaves as it was -/
def Stay (b1 b2 : Nat) (A' : Option Addr) (W W' : World) : Prop := KeepsOthers W W' ∧ (∀ k, AllIn b1 b2 A' k → k < W.heap.size → W'.heap[k]? = W.heap[k]?) ∧ W.heap.size ≤ W'.heap.size
theorem Stay.trans {b1 b2 : Nat} {A' : Option Addr} {W W' W'' : World} (h : Stay b1 b2 A' W W') (k : Stay b1 b2 A' W' W'') : Stay b1 b2 A' W W'' :=
  ⟨h.1.trans k.1, fun i hi hl => (k.2.1 i hi (Nat.lt_of_lt_of_le hl h.2.2)).trans (h.2.1 i hi hl), Nat.le_trans h.2.2 k.2.2⟩
theorem stay_below {b1 b2 : Nat} {A' : Option Addr} {W W' : World} (h : Below W.heap.size W W') : Stay b1 b2 A' W W' := ⟨keepsOthers_below h, fun k _ hl => h.block k hl, h.size⟩
theorem Held.stay {w W W' : World} {g0 g4 g5 gw g8 q b1 b2 ca cb ca' m N p : Nat} {A B A' : Option Addr} {s a : List Int} {l : List UInt8} {bs : List Value} (h : Held w W g0 g4 g5 gw g8 q b1 b2 A B A' ca cb ca' s a m N p l) (hw : Wrote w.heap.size g8 bs W W') : Stay b1 b2 A' W W' := by
  refine ⟨wrote_others h.bu hw.2.2 hw.2.1.size, fun k hin _ => ?_, hw.2.1.size⟩
  obtain ⟨cs, t, fr, h1, h2⟩ := h.al.ty k hin
  rcases h2 with rfl | rfl <;> exact wrote_keep h.bu hw.2.2 h1 (by decide) (by decide)
theorem tail_ints {w : World} {g k : Nat} {l : List Int} (h : Tail w g k 0 l) : IntsAt w (some ⟨g, 0, none⟩) l := fun i x hx => ⟨g, 0, rfl, h.lt, by rw [Nat.zero_add]; exact h.cell hx⟩
theorem strCells_list (l : List UInt8) : Lib.strCells ⟨l.toArray⟩ = Lib.byteCells l := rfl

set_option maxHeartbeats 16000000 in
set_option maxRecDepth 100000 in
theorem text_body2 (r : Code) (hR : textBody 71 = some r) (w : World) (n g0 g4 g5 gw g8 ca cb ca' m N b1 b2 : Nat) (A B A' : Option Addr) (s s0 a : List Int) (hp : Pow10 w) (his : IntsAt w A s) (hia : IntsAt w B a) (ha : All64 a) (hs : s = s0 ++ [(m : Int)]) (hsl : s.length ≤ 64) (hs1 : 1 ≤ s0.length) (hpos : ∀ x ∈ s, 1 ≤ x ∧ x ≤ 4096) (hm : 1 ≤ m) (hm2 : m ≤ 4096)
    (hN : N = a.length) (hpl : places s = N) (hN2 : N ≤ 4096) (l p q : Nat) (u : Nat → Value) (W : World) (hI : I2 w g0 g4 g5 gw g8 A B ca cb s a m N p W) (hpN : p < N) (hT : Tail W q s.length 0 (idx s p)) (hAl : AllAt W b1 b2 A' ca' s) :
    r.wpIn (Fence.wide.inRound l) (n - 1 - 1) Tryd.prog (RoundQ (I2 w g0 g4 g5 gw g8 A B ca cb s a m N) b1 b2 A' p W) (textFrame2 g0 g4 g5 g8 s.length p q u) W := by
  have e : textBody 71 = some _ := rfl
  rw [e] at hR
  cases hR
  clear e
  have hH : Held w W g0 g4 g5 gw g8 q b1 b2 A B A' ca cb ca' s a m N p (grid s a m N p) := ⟨hI.1, hI.2.1, hI.2.2, hT, hAl⟩
  have HH := Lib.hid hH
  obtain ⟨x, hx⟩ : ∃ x, a[p]? = some x := ⟨_, List.getElem?_eq_getElem (by omega)⟩
  have hxa : atomAt a p = x := by simp [atomAt, hx]
  obtain ⟨b, off, rfl, hbl, kc⟩ := (hia.on hH.x.be) p x hx
  have hx64 : In64 x := ha x (List.mem_of_getElem? hx)
  obtain ⟨x0, x1⟩ := heap2 hH.x.c0
  have HX := Lib.hid (And.intro hx64 hxa)
  have HPW := Lib.hid (hp.on hH.x.be)
  have hk : s.length = s0.length + 1 := by rw [hs]; simp
  obtain ⟨k0, hk0⟩ : ∃ k0, k0 = s0.length := ⟨_, rfl⟩
  rw [← hk0] at hk hs1
  have hk64 : k0 ≤ 64 := by omega
  obtain ⟨col, hc⟩ : ∃ col, col = p % m := ⟨_, rfl⟩
  have hcm : col < m := by rw [hc]; exact Nat.mod_lt _ (by omega)
  have hcol : (idx s p)[k0]? = some ((col : Nat) : Int) := by
    rw [hs, hk0, hc, idx_snoc, List.getElem?_append_right (by rw [idx_len]; exact Nat.le_refl _), idx_len]
    simp
  obtain ⟨wv, hwv⟩ : ∃ wv, wv = wd a m N col := ⟨_, rfl⟩
  obtain ⟨dl, hdl⟩ : ∃ dl, dl = (digits x).length := ⟨_, rfl⟩
  have hdw : dl ≤ wv := by rw [hdl, hwv, hc, ← hxa]; exact wd_at a m N p hpN
  have hw21 : wv ≤ 21 := by rw [hwv]; exact wd_le a m col ha N
  have hgl := grid_len s a m N ha hsl p
  have hsm : s[k0]? = some (m : Int) := by rw [hs, hk0]; simp
  have HS := Lib.hid (And.intro hs (And.intro hk hk0))
  have HC := Lib.hid (And.intro hc (And.intro hcm (And.intro hcol (And.intro hwv hdl))))
  have HNN := Lib.hid (And.intro hN (And.intro hpl hpN))
  have HIA := Lib.hid (And.intro his (And.intro hsm hpos))
  have hwk : IntKind.i64.wrap (k0 : Int) = k0 := by rw [IntKind.wrap_i64]; omega
  have hpal : p < a.length := by omega
  have hp4 : p ≤ 4096 := by omega
  have hal4 : a.length ≤ 4096 := by omega
  have hkp : (k0 : Int) < (k0 : Int) + 1 := by omega
  have hcm' : (col : Int) < m := by omega
  rw [hk]
  have FACT : Hid (∀ (W' : World) (t : List UInt8), Held w W' g0 g4 g5 gw g8 q b1 b2 A (some ⟨b, off, none⟩) A' ca cb ca' s a m N p t → ∀ W'', Below W'.heap.size W' W'' →
      W''.cell? ⟨g5, 0, none⟩ = some (.slice (some ⟨gw, 0, none⟩) m m) ∧ W''.cell? ⟨g4, 0, none⟩ = some (.int .i64 ((k0 : Int) + 1)) ∧ W''.cell? ⟨g0, 0, none⟩ = some (.slice A (k0 + 1) ca) ∧ W''.cell? ⟨g0, 1, none⟩ = some (.slice (some ⟨b, off, none⟩) a.length cb) ∧
      W''.cell? ⟨q, k0, none⟩ = some (.int .i64 (col : Int)) ∧ W''.cell? ⟨gw, col, none⟩ = some (.int .i64 wv)) := Lib.hid fun W' t h W'' hb => by
    have h' := h.on hb
    obtain ⟨z0, z1⟩ := heap2 h'.x.c0
    have z4 := cells1 h'.x.c4
    obtain ⟨zw, _⟩ := h'.wi.cell HC.out.2.1
    rw [HS.out.2.1] at z0 z4
    rw [← HC.out.2.2.2.1] at zw
    exact ⟨cells1 h'.x.c5, z4, z0, z1, h'.at_.cell HC.out.2.2.1, zw⟩
  clear hx hxa hx64 hI hT hAl hH x0 hs hk hk0 hc hcm hcol hwv hN hpl hpN his hsm hpos
  simp only [textFrame2]
  gi_wp2
  refine ⟨trivial, fun h => (by cases h), (CallsIn.inRound l (callsIn_wide.2 (digits_any x HX.out.1 W HPW.out))).mono ?_⟩
  rintro e w1 ⟨rfl, hb1⟩
  have H1 := Lib.hid (HH.out.on hb1)
  have HB1 := Lib.hid hb1
  have hwr : IntKind.i64.wrap ((wv : Int) - (dl : Int)) = ((wv - dl : Nat) : Int) := by rw [IntKind.wrap_i64]; omega
  have hdl' : (digits x).length = dl := hdl.symm
  clear hb1 hdl x1 kc
  gi_wp2
  refine wpIn_region_head_tail (C := fun W' => Below w1.heap.size w1 W') 12 (by kernel_rfl) (by kernel_rfl) (by kernel_rfl) ((Below.refl _ _).drew) ?_
  simp only [List.take_succ_cons, List.take_zero, List.drop_succ_cons, List.drop_zero]
  repeat
    (refine wpQuiet_step (fun K hK => ?_)
     go_simp
     first
     | (refine hK _ ?_; clear hK K)
     | (apply Exists.intro
        refine ⟨fun W' hC => ?_, hK _ ?_⟩
        (obtain ⟨y5, y4, y0, y1, yq, yw⟩ := FACT.out w1 _ H1.out W' hC
         first
         | (go_simp; rfl)
         | (go_simp; done)
         | (refine (Tryd.strings_Repeat ⟨#[32]⟩ (wv - dl) W' (by omega) (by simp [ByteArray.size]; omega)).mono ?_
            rintro e w' ⟨rfl, hb'⟩
            exact ⟨rfl, hC.then_ hb'⟩))
        clear hK K))
  refine wpQuiet_nil ?_
  intro w2 hC2
  have H2 := Lib.hid (H1.out.on hC2)
  have HB2 := Lib.hid (HB1.out.then_ hC2)
  clear hC2
  gi_wp2
  refine ⟨trivial, fun h => (by cases h), (CallsIn.inRound l (callsIn_wide.2 (writeString_k w.heap.size g8 _ ⟨(Lib.repeatL [32] (wv - dl)).toArray⟩ w2 H2.out.bu (by simp [Lib.byteCells, ByteArray.size, rep_len]; omega) H2.out.x.be.size))).mono ?_⟩
  rintro e w3 ⟨rfl, hw3⟩
  have e3 : Lib.byteCells (grid s a m N p) ++ Lib.strCells ⟨(Lib.repeatL [32] (wv - dl)).toArray⟩ = Lib.byteCells (grid s a m N p ++ Lib.repeatL [32] (wv - dl)) := by rw [strCells_list, byteCells_append]
  rw [e3] at hw3
  have H3 := Lib.hid (H2.out.wrote hw3)
  have HW3 := Lib.hid hw3
  clear hw3 e3
  gi_wp2
  refine ⟨trivial, fun h => (by cases h), (CallsIn.inRound l (callsIn_wide.2 (writeString_k w.heap.size g8 _ ⟨(digits x).toArray⟩ w3 H3.out.bu (by simp [Lib.byteCells, ByteArray.size, rep_len]; omega) H3.out.x.be.size))).mono ?_⟩
  rintro e w4 ⟨rfl, hw4⟩
  have e4 : Lib.byteCells (grid s a m N p ++ Lib.repeatL [32] (wv - dl)) ++ Lib.strCells ⟨(digits x).toArray⟩ = Lib.byteCells (grid s a m N p ++ Lib.repeatL [32] (wv - dl) ++ digits x) := by rw [strCells_list, byteCells_append]
  rw [e4] at hw4
  have H4 := Lib.hid (H3.out.wrote hw4)
  have HW4 := Lib.hid hw4
  clear hw4 e4
  have hms : IntKind.i64.wrap ((m : Int) - 1) = (m : Int) - 1 := by rw [IntKind.wrap_i64]; omega
  obtain ⟨bs, os, hAe, hbs, kcs⟩ := (HIA.out.1.on H4.out.x.be) k0 _ HIA.out.2.1
  subst hAe
  have hkcs := Lib.hid (And.intro hbs kcs)
  clear hbs kcs
  gi_wp2
  refine wpIn_region_head_tail (C := fun W' => Below w4.heap.size w4 W') 13 (by kernel_rfl) (by kernel_rfl) (by kernel_rfl) ((Below.refl _ _).drew) ?_
  simp only [List.take_succ_cons, List.take_zero, List.drop_succ_cons, List.drop_zero]
  repeat
    (refine wpQuiet_step (fun K hK => ?_)
     go_simp
     first
     | (refine hK _ ?_; clear hK K)
     | (apply Exists.intro
        refine ⟨fun W' hC => ?_, hK _ ?_⟩
        (obtain ⟨y5, y4, y0, y1, yq, yw⟩ := FACT.out w4 _ H4.out W' hC
         have ym := (hC.cell (p := ⟨bs, os + k0, none⟩) hkcs.out.1).trans hkcs.out.2
         first
         | (go_simp; rfl)
         | (go_simp; done))
        clear hK K))
  refine wpQuiet_nil ?_
  intro w5 hC5
  have H5 := Lib.hid (H4.out.on hC5)
  have HB5 := Lib.hid hC5
  clear hC5
  have SY : Hid (Stay b1 b2 A' W w5) := Lib.hid ((((stay_below HB2.out).trans (H2.out.stay HW3.out)).trans (H3.out.stay HW4.out)).trans (stay_below HB5.out))
  have HGR : Hid (grid s a m N (p + 1) = grid s a m N p ++ Lib.repeatL [32] (wv - dl) ++ digits x ++ sepAt s m N p) := Lib.hid (by
    have h1 : wd a m N (p % m) = wv := by rw [HC.out.2.2.2.1, HC.out.1]
    show grid s a m N p ++ Lib.repeatL [32] (wd a m N (p % m) - (digits (atomAt a p)).length) ++ digits (atomAt a p) ++ sepAt s m N p = _
    rw [h1, HX.out.2, hdl'])
  obtain ⟨y5, y4, y0, y1, yq, yw⟩ := FACT.out w5 _ H5.out w5 (Below.refl _ _)
  by_cases hcol1 : (col : Int) < (m : Int) - 1
  · gi_wp2
    refine ⟨trivial, fun h => (by cases h), (CallsIn.inRound l (callsIn_wide.2 (writeByte_k w.heap.size g8 _ 32 w5 H5.out.bu (by simp [Lib.byteCells, rep_len]; omega) H5.out.x.be.size))).mono ?_⟩
    rintro e w6 ⟨rfl, hw6⟩
    have e6 : Lib.byteCells (grid s a m N p ++ Lib.repeatL [32] (wv - dl) ++ digits x) ++ [Value.int .u8 32] = Lib.byteCells (grid s a m N (p + 1)) := by
      have hs1 : sepAt s m N p = [32] := by unfold sepAt; rw [if_pos (by rw [← HC.out.1]; omega)]
      rw [HGR.out, hs1, ← byteCells_append _ [32]]
      rfl
    rw [e6] at hw6
    have H6 := Lib.hid (H5.out.wrote hw6)
    have SY6 := Lib.hid (SY.out.trans (H5.out.stay hw6))
    clear hw6 e6
    gi_wp2
    exact ⟨SY6.out.1, ⟨H6.out.x, H6.out.wi, H6.out.bu⟩, SY6.out.2.1, SY6.out.2.2⟩
  · have hce : col + 1 = m := by have := HC.out.2.1; omega
    have hsn : ¬ p % m + 1 < m := by rw [← HC.out.1]; omega
    by_cases hlast : p + 1 < a.length
    · have hli : (p : Int) < (a.length : Int) - 1 := by omega
      have hsep : sepAt s m N p = Lib.repeatL [10] (1 + trail (s.take (s.length - 1)) ((p / m : Nat) : Int)) := by unfold sepAt; rw [if_neg hsn, if_pos (by rw [HNN.out.1]; exact hlast)]
      have htr := trail_le (s.take (s.length - 1)) ((p / m : Nat) : Int)
      rw [List.length_take] at htr
      obtain ⟨tr, htre⟩ : ∃ tr, tr = 1 + trail (s.take (s.length - 1)) ((p / m : Nat) : Int) := ⟨_, rfl⟩
      rw [← htre] at hsep
      have htr2 : tr ≤ 65 := by rw [htre]; omega
      have hst : s.take (s.length - 1) = s0 := by rw [HS.out.1]; simp
      have hcall := behind_any (some ⟨bs, os, none⟩) (some ⟨q, 0, none⟩) ca s.length s (idx s p) (p / m) w5 (HIA.out.1.on H5.out.x.be) (tail_ints H5.out.at_) HIA.out.2.2 (by rw [HS.out.2.1]; omega) hsl (idx_len _ _)
        (by rw [hst, HS.out.1, idx_snoc, List.take_append_of_le_length (by rw [idx_len]; simp), List.take_of_length_le (by rw [idx_len]; simp)]; simp)
        (by
          rw [hst]
          have h1 := HNN.out.2.1
          rw [HS.out.1, places_snoc] at h1
          have h2 : ((p : Nat) : Int) + 1 < places s0 * (m : Int) := by rw [h1, HNN.out.1]; omega
          have h3 := step_places (x := (m : Int)) (by omega) h2 (by have h4 := HC.out.1; have h5 : ((p : Int) % (m : Int)) = ((p % m : Nat) : Int) := by simp
                                                                    rw [h5, ← h4]; omega)
          simpa using h3)
      rw [← htre, idx_len, HS.out.2.1] at hcall
      have HCL := Lib.hid hcall
      have HSEP := Lib.hid hsep
      clear hcall hsep htr htre hst
      gi_wp2
      refine ⟨trivial, fun h => (by cases h), (CallsIn.inRound l (callsIn_wide.2 HCL.out)).mono ?_⟩
      rintro e w6 ⟨rfl, hb6⟩
      have H6 := Lib.hid (H5.out.on hb6)
      have SY6 := Lib.hid (SY.out.trans (stay_below hb6))
      clear hb6
      gi_wp2
      refine ⟨trivial, fun h => (by cases h), (CallsIn.inRound l (callsIn_wide.2 (Tryd.strings_Repeat ⟨#[10]⟩ tr w6 (by omega) (by simp [ByteArray.size]; omega)))).mono ?_⟩
      rintro e w7 ⟨rfl, hb7⟩
      have H7 := Lib.hid (H6.out.on hb7)
      have SY7 := Lib.hid (SY6.out.trans (stay_below hb7))
      clear hb7
      gi_wp2
      refine ⟨trivial, fun h => (by cases h), (CallsIn.inRound l (callsIn_wide.2 (writeString_k w.heap.size g8 _ ⟨(Lib.repeatL [10] tr).toArray⟩ w7 H7.out.bu (by simp [Lib.byteCells, ByteArray.size, rep_len]; omega) H7.out.x.be.size))).mono ?_⟩
      rintro e w8 ⟨rfl, hw8⟩
      have e8 : Lib.byteCells (grid s a m N p ++ Lib.repeatL [32] (wv - dl) ++ digits x) ++ Lib.strCells ⟨(Lib.repeatL [10] tr).toArray⟩ = Lib.byteCells (grid s a m N (p + 1)) := by rw [strCells_list, byteCells_append, HGR.out, HSEP.out]
      rw [e8] at hw8
      have H8 := Lib.hid (H7.out.wrote hw8)
      have SY8 := Lib.hid (SY7.out.trans (H7.out.stay hw8))
      clear hw8 e8
      gi_wp2
      exact ⟨SY8.out.1, ⟨H8.out.x, H8.out.wi, H8.out.bu⟩, SY8.out.2.1, SY8.out.2.2⟩
    · have hli : ¬ (p : Int) < (a.length : Int) - 1 := by omega
      have hsep : sepAt s m N p = [] := by unfold sepAt; rw [if_neg hsn, if_neg (by rw [HNN.out.1]; exact hlast)]
      have HSEP := Lib.hid hsep
      clear hsep hce hsn hlast
      gi_wp2
      refine ⟨SY.out.1, ⟨H5.out.x, H5.out.wi, ?_⟩, SY.out.2.1, SY.out.2.2⟩
      rw [HGR.out, HSEP.out, List.append_nil]
      exact H5.out.bu
end Go.Proofs.YtpipcpjkfgdpcaaDoor
