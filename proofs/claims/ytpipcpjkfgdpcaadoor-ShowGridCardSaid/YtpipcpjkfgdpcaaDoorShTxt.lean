/- show.Text. Conditions: strconv's table of powers is as laid; at most 2^40 lengths and 2^40 numbers. -/
import Derived.Test.YtpipcpjkfgdpcaaDoorShBody2
namespace Go.Proofs.YtpipcpjkfgdpcaaDoor
open Go.RowKit
attribute [local go_sem] Oper.semAt_some

/-- the last length -/
def lastOf (s : List Int) : Nat := (s.getLast?.getD 1).toNat
/-- show.Text's text of an array that may be -/
def text (s a : List Int) : List UInt8 := if a.length = 0 then [] else if s.length = 0 then digits (atomAt a 0) else if s.length = 1 then joined a else grid s a (lastOf s) a.length a.length

theorem may_le : ∀ (l : List Int) (n : Int), mayGo n l = 0 → ∀ k ∈ l, k ≤ 4096
  | [], _, _, k, hk => by cases hk
  | x :: r, n, h, k, hk => by
    unfold mayGo at h
    split at h
    · cases h
    · split at h
      · cases h
      · rcases List.mem_cons.1 hk with rfl | hk
        · omega
        · exact may_le r _ h k hk
theorem fold_zero : ∀ (l : List Int), l.foldl (· * ·) (0 : Int) = 0
  | [] => rfl
  | x :: r => by rw [List.foldl_cons, Int.zero_mul]; exact fold_zero r
theorem fold_pos : ∀ (l : List Int) (m : Int), l.foldl (· * ·) m ≠ 0 → ∀ k ∈ l, k ≠ 0
  | [], _, _, k, hk => by cases hk
  | x :: r, m, h, k, hk => by
    rw [List.foldl_cons] at h
    rcases List.mem_cons.1 hk with rfl | hk
    · intro h0
      subst h0
      rw [Int.mul_zero, fold_zero] at h
      exact h rfl
    · exact fold_pos r _ h k hk

theorem wide_new {W : World} {B g m : Nat} (h : W.ownsRow B 3 1 (.slice (some ⟨g, 0, none⟩) m m) m (madeCells #[Value.int .i64 0] m).toList) : Wide W g m (fun _ => 0) := by
  rcases h.2 with ⟨h0, _⟩ | ⟨g', cap, cur, hv, _, hb, _, _, hsz, ht⟩
  · cases h0
  · simp only [Value.slice.injEq, Option.some.injEq, Addr.mk.injEq, and_true, true_and] at hv
    obtain ⟨rfl, rfl⟩ := hv
    refine ⟨cur, hb, by omega, fun c hc => ?_⟩
    have h1 : (cur.toList.take (m * 1))[c]? = (madeCells #[Value.int .i64 0] m).toList[c]? := by rw [ht]
    rw [List.getElem?_take, if_pos (by omega), Array.getElem?_toList, Array.getElem?_toList] at h1
    rw [h1]
    unfold madeCells
    rw [Array.getElem?_map, Array.getElem?_range, if_pos hc]
    simp [Nat.mod_one]

/-- the law wpIn_rangeAll, its frames by the frame that stands -/
theorem wpIn_rangeAllT {n : Nat} {g : Operand} {ps : Array Tmp} {assign body : Code} {Q : Exit → Act → World → Prop} {a : Act} {w : World} (h1 : 1 ≤ n) (hps : ps.size = 2)
    (b1 b2 cp N : Nat) (A : Option Addr) (s : List Int) (hN : shSize s = N) (hpos : ∀ x ∈ s, 1 ≤ x ∧ x ≤ 9223372036854775807) (hs : s.length ≤ 64) (hNb : N ≤ 4096)
    (hg : a.eval g = .func (.func 67) #[] #[.pointer (some ⟨b1, 0, none⟩), .pointer (some ⟨b2, 0, none⟩)]) (hAll : AllAt w b1 b2 A cp s)
    (I : Nat → World → Prop) (hI : OwnFrom w.heap.size I) (h0 : I 0 w) (fr : Nat → Nat → Array Value → Act)
    (hassign : ∀ (l p q : Nat) (W : World) (K : Act → World → Prop), K (fr p q a.tmps) W →
      assign.wpIn (Fence.wide.inRound l) (n - 1 - 1) Tryd.prog (Exit.then K (fun _ _ _ => False)) { tmps := (ps.zip #[.int .i64 p, .slice (some ⟨q, 0, none⟩) s.length s.length]).foldl (fun t (p, v) => t.setIfInBounds p v) a.tmps, defers := [] } W)
    (hbody : ∀ (l p q : Nat) (W : World), I p W → p < N → Tail W q s.length 0 (idx s p) → AllAt W b1 b2 A cp s → body.wpIn (Fence.wide.inRound l) (n - 1 - 1) Tryd.prog (RoundQ I b1 b2 A p W) (fr p q a.tmps) W)
    (hdone : ∀ W : World, I N W → W.heap[w.heap.size]? = some (.deferred (some [])) → w.heap.size < W.heap.size → Q .normal { a with defers := { target := .collected w.heap.size, args := #[] } :: a.defers } W) :
    (Code.rangeFunc g ps assign body).wpIn Fence.wide n Tryd.prog Q a w :=
  wpIn_rangeAll h1 hps b1 b2 cp N A s hN hpos hs hNb hg hAll I hI h0 (fun p q => fr p q a.tmps) hassign hbody hdone

theorem I1.own {w : World} {g0 g4 g5 gw ca cb m B' : Nat} {A B : Option Addr} {s a : List Int} (hB : w.heap.size ≤ B') : OwnFrom B' (I1 w g0 g4 g5 gw A B ca cb s a m) :=
  fun _ _ _ row hi hg hr => ⟨hi.1.soft ⟨row, hg, hr⟩ hB, hi.2.soft ⟨row, hg, hr⟩⟩

theorem builder_soft {B B' b : Nat} {bs : List Value} {W W' : World} (h : Lib.IsBuilderF TB TU8 B b bs W) (hs : Soft B' W W') : Lib.IsBuilderF TB TU8 B b bs W' := by
  have key : ∀ {v : Value}, W.ownsRowF B TU8 1 v bs.length bs → W'.ownsRowF B TU8 1 v bs.length bs := fun {v} ho => by
    refine ⟨ho.1, ho.2.imp id ?_⟩
    rintro ⟨g, cap, cur, fz, hv, hg, hb, hr⟩
    exact ⟨g, cap, cur, fz, hv, hg, (hs.cells hb).trans hb, hr⟩
  rcases h with ⟨hB, v, hb, ho, hne⟩ | ⟨hB, v, hb, ho, hne⟩
  · exact .inl ⟨hB, v, (hs.cells hb).trans hb, key ho, hne⟩
  · exact .inr ⟨hB, v, (hs.cells hb).trans hb, key ho, hne⟩
theorem I2.own {w : World} {g0 g4 g5 gw g8 ca cb m N B' D : Nat} {A B : Option Addr} {s a : List Int} (hB : w.heap.size ≤ B') (hD : D < B') :
    OwnFrom B' (fun p W => I2 w g0 g4 g5 gw g8 A B ca cb s a m N p W ∧ W.heap[D]? = some (.deferred (some []))) :=
  fun _ W _ row hi hg hr => ⟨⟨hi.1.1.soft ⟨row, hg, hr⟩ hB, hi.1.2.1.soft ⟨row, hg, hr⟩, builder_soft hi.1.2.2 ⟨row, hg, hr⟩⟩,
    (hg.block D (Array.getElem?_eq_some_iff.1 hi.2).1 (fun e => by have := (hr D e.symm).1; omega)).trans hi.2⟩
theorem roundQ_mark {I : Nat → World → Prop} {b1 b2 p D : Nat} {A : Option Addr} {W : World} (hD : W.heap[D]? = some (.deferred (some []))) : ∀ e a W', RoundQ I b1 b2 A p W e a W' → RoundQ (fun p W => I p W ∧ W.heap[D]? = some (.deferred (some []))) b1 b2 A p W e a W' := by
  intro e a W' h
  cases e with
  | normal => exact ⟨h.1, ⟨h.2.1, h.1.same _ _ hD rfl⟩, h.2.2.1, h.2.2.2⟩
  | _ => exact h.elim

set_option maxHeartbeats 16000000 in
set_option maxRecDepth 100000 in
theorem text_grid (A B : Option Addr) (ca cb : Nat) (s0 a : List Int) (m : Nat) (w : World) (hA : IntsAt w A (s0 ++ [(m : Int)])) (hB : IntsAt w B a) (hl : All64 (s0 ++ [(m : Int)])) (hla : All64 a) (hp : Pow10 w) (h0 : arMay (s0 ++ [(m : Int)]) a = 0) (hne : a ≠ []) (hs0 : s0 ≠ []) :
    Calls Tryd.prog 13 #[.agg #[.slice A (s0 ++ [(m : Int)]).length ca, .slice B a.length cb]] w fun e w' => e = .returned (.tuple #[.string ⟨(grid (s0 ++ [(m : Int)]) a m a.length a.length).toArray⟩, .int .i64 0]) ∧ Below w.heap.size w w' := by
  obtain ⟨s, hs⟩ : ∃ s, s = s0 ++ [(m : Int)] := ⟨_, rfl⟩
  rw [← hs] at hA hl h0 ⊢
  have hM : shMay s = 0 ∧ places s = a.length := by
    unfold arMay at h0
    split at h0
    · cases h0
    · rename_i hh
      exact ⟨h0, Classical.byContradiction fun hc => hh ⟨h0, hc⟩⟩
  have hnn := may_nonneg hM.1
  have hpb := places_bound hM.1 s.length
  rw [List.take_length] at hpb
  have hal : a.length ≤ 4096 := by have := hM.2; unfold places at this; omega
  have hal0 : 0 < a.length := List.length_pos_iff.2 hne
  have hsz : shSize s = a.length := by unfold shSize; rw [if_pos hM.1]; exact hM.2
  have hk : s.length = s0.length + 1 := by rw [hs]; simp
  have hs1 : 1 ≤ s0.length := List.length_pos_iff.2 hs0
  have hpos : ∀ x ∈ s, 1 ≤ x ∧ x ≤ 4096 := fun x hx => by
    have h1 := hnn.1 x hx
    have h2 := may_le s 1 hnn.2.2 x hx
    have h3 := fold_pos s 1 (by have := hM.2; unfold places at this; omega) x hx
    omega
  have hmm := hpos m (by rw [hs]; simp)
  have hm : 1 ≤ m := by omega
  have hm2 : m ≤ 4096 := by omega
  obtain ⟨k0, hk0⟩ : ∃ k0, k0 = s0.length := ⟨_, rfl⟩
  rw [← hk0] at hk hs1
  have hk8 : k0 ≤ 7 := by have := hnn.2.1; omega
  have hsm : s[k0]? = some (m : Int) := by rw [hs, hk0]; simp
  have HA := Lib.hid (And.intro hA (And.intro hB (And.intro hl hla)))
  have HP := Lib.hid hp
  have HM := Lib.hid (And.intro h0 (And.intro hsz (And.intro hpos (And.intro hs (And.intro hk (And.intro hk0 (And.intro hsm hM.2)))))))
  have HN := Lib.hid (And.intro hal hal0)
  have hcall := arrMay_any A B ca cb s a (w.alloc (.cells #[.slice A s.length ca, .slice B a.length cb] 36)) (hA.on ((Below.refl _ _).alloc (Nat.le_refl _) _)) hl (by omega)
  rw [h0] at hcall
  have HC := Lib.hid hcall
  have e1 : ((a.length : Int) == 0) = false := beq_eq_false_iff_ne.2 (by omega)
  have e2 : (((k0 : Int) + 1) == 0) = false := beq_eq_false_iff_ne.2 (by omega)
  have e3 : (((k0 : Int) + 1) == 1) = false := beq_eq_false_iff_ne.2 (by omega)
  rw [hk] at HC ⊢
  clear hA hB hl hla hp h0 hsz hpos hs hk hk0 hsm hM hnn hpb hcall hne hs0
  refine (callsIn_wide (n := 8)).1 (callsIn_of_wp_marks Tryd.func13 rfl trivial (wpIn_wide.2 ?_) rfl)
  simp only [Tryd.ntmps13, List.size_toArray, List.length_cons, List.length_nil, Nat.reduceAdd, Nat.reduceSub, Array.replicate_succ, Array.replicate_zero, List.push_toArray, List.append_toArray, List.nil_append, List.cons_append]
  go_wp2_with fail
  refine HC.out.mono ?_
  rintro e w2 ⟨rfl, hb2⟩
  have h02 : w2.heap[w.heap.size]? = some (.cells #[.slice A (k0 + 1) ca, .slice B a.length cb] 36 (0, 0)) := (hb2.block _ (by simp)).trans (heap_alloc_new w _)
  have HB2 : Hid (Below w.heap.size w w2) := Lib.hid (((Below.refl _ w).alloc (Nat.le_refl _) _).then_ hb2)
  obtain ⟨x0, x1⟩ := heap2 h02
  have hlt0 : w.heap.size < w2.heap.size := (Array.getElem?_eq_some_iff.1 h02).1
  have hb3 : Below w2.heap.size w2 (w2.alloc (.cells #[.int .i64 ((k0 : Int) + 1)] 3)) := (Below.refl _ _).alloc (Nat.le_refl _) _
  have y0 := (hb3.cell (p := ⟨w.heap.size, 0, none⟩) hlt0).trans x0
  have y1 := (hb3.cell (p := ⟨w.heap.size, 1, none⟩) hlt0).trans x1
  have h44 : (w2.alloc (.cells #[.int .i64 ((k0 : Int) + 1)] 3)).heap[w2.heap.size]? = some (.cells #[.int .i64 ((k0 : Int) + 1)] 3 (0, 0)) := heap_alloc_new w2 _
  have h03 := (hb3.block _ hlt0).trans h02
  have HB3 := Lib.hid (HB2.out.then_ hb3)
  obtain ⟨bs, os, hAe, hbs, kcs⟩ := (HA.out.1.on (HB3.out)) k0 _ HM.out.2.2.2.2.2.2.1
  subst hAe
  have H3 := Lib.hid (And.intro h03 h44)
  have hwk : IntKind.i64.wrap (k0 : Int) = k0 := by rw [IntKind.wrap_i64]; omega
  obtain ⟨j0, hj0, hz0, hz1, hz2⟩ := info_parts info_int
  have hsz3 := HB3.out.size
  clear hb2 h02 hb3 h03 h44 hbs
  go_wp2_with (at_make; refine wpList_make_full _ rfl _ _ 25 rfl w.heap.size 3 j0 (.int .i64 0) 1 Tryd.underlying25 hj0 hz0 hz1 .i64 .i64 (m : Int) (m : Int) m rfl rfl rfl rfl (by rw [hz2]; omega) (by unfold maxLen; omega) hsz3 ?_)
  intro w4 hown hg4
  have hz3 : (w2.alloc (.cells #[.int .i64 ((k0 : Int) + 1)] 3)).heap.size = w2.heap.size + 1 := by simp
  obtain ⟨gw, hgw⟩ : ∃ gw, gw = w2.heap.size + 1 := ⟨_, rfl⟩
  have hwide : Wide w4 gw m (fun _ => 0) := by rw [hgw]; exact wide_new (by simpa [hz3] using hown)
  have hb4 : Below (w2.alloc (.cells #[.int .i64 ((k0 : Int) + 1)] 3)).heap.size (w2.alloc (.cells #[.int .i64 ((k0 : Int) + 1)] 3)) w4 := ⟨hg4.os, hg4.tape, hg4.output, hg4.size, fun k hk => hg4.block k hk (by simp)⟩
  have h04 := (hb4.block _ (Array.getElem?_eq_some_iff.1 H3.out.1).1).trans H3.out.1
  have h44 := (hb4.block _ (Array.getElem?_eq_some_iff.1 H3.out.2).1).trans H3.out.2
  have HB4 := Lib.hid (HB3.out.then_ hb4)
  have hlw : gw < w4.heap.size := by obtain ⟨cur, h1, _⟩ := hwide; exact (Array.getElem?_eq_some_iff.1 h1).1
  obtain ⟨w5, hw5⟩ : ∃ w5, w5 = w4.alloc (.cells #[.slice (some ⟨gw, 0, none⟩) m m] 25) := ⟨_, rfl⟩
  have hb5 : Below w4.heap.size w4 w5 := by rw [hw5]; exact (Below.refl _ _).alloc (Nat.le_refl _) _
  have h55 : w5.heap[w4.heap.size]? = some (.cells #[.slice (some ⟨gw, 0, none⟩) m m] 25 (0, 0)) := by rw [hw5]; exact heap_alloc_new w4 _
  have h05 := (hb5.block _ (Array.getElem?_eq_some_iff.1 h04).1).trans h04
  have h45 := (hb5.block _ (Array.getElem?_eq_some_iff.1 h44).1).trans h44
  have HX5 : Hid (TextW w w5 w.heap.size w2.heap.size w4.heap.size gw (some ⟨bs, os, none⟩) B ca cb s a m ∧ Wide w5 gw m (wd a m 0)) := Lib.hid ⟨⟨HB4.out.then_ hb5, by rw [HM.out.2.2.2.2.1]; exact h05, by rw [HM.out.2.2.2.2.1]; exact h45, h55⟩, hwide.on hb5⟩
  obtain ⟨z0', z1'⟩ := heap2 h05
  have hw5' : w4.alloc (.cells #[.slice (some ⟨w2.heap.size + 1, 0, none⟩) m m] 25) = w5 := by rw [hw5, hgw]
  have z0 : (w4.alloc (.cells #[.slice (some ⟨w2.heap.size + 1, 0, none⟩) m m] 25)).cell? ⟨w.heap.size, 0, none⟩ = some (.slice (some ⟨bs, os, none⟩) (k0 + 1) ca) := by rw [hw5']; exact z0'
  have z1 : (w4.alloc (.cells #[.slice (some ⟨w2.heap.size + 1, 0, none⟩) m m] 25)).cell? ⟨w.heap.size, 1, none⟩ = some (.slice B a.length cb) := by rw [hw5']; exact z1'
  have HGW := Lib.hid (And.intro hgw (And.intro hlw hw5'))
  clear hown hg4 hwide hb4 h04 h44 hb5 h55 h05 h45 hw5 hgw hw5' z0' z1' y0 y1 x0 x1 hlw
  have hAll := all_any (some ⟨bs, os, none⟩) ca s w5 (HA.out.1.on HX5.out.1.be) HA.out.2.2.1 (fun e => by have := HM.out.2.2.2.2.1; rw [e] at this; simp at this) (by have := HM.out.2.2.2.2.1; omega)
  rw [HM.out.2.2.2.2.1] at hAll
  have HALL := Lib.hid hAll
  clear hAll
  go_wp2_with fail
  rw [HGW.out.2.2]
  refine HALL.out.mono ?_
  rintro e w6 ⟨b1, b2, A', cp', rfl, hb6, hb1, hb2, hfA, hAll6⟩
  have HX6 : Hid (TextW w w6 w.heap.size w2.heap.size w4.heap.size gw (some ⟨bs, os, none⟩) B ca cb s a m ∧ Wide w6 gw m (wd a m 0) ∧ AllAt w6 b1 b2 A' cp' s) := Lib.hid ⟨HX5.out.1.on hb6, HX5.out.2.on hb6, hAll6⟩
  have HFA : Hid (∀ k, AllIn b1 b2 A' k → w5.heap.size ≤ k) := Lib.hid (by
    rintro k (rfl | rfl | ⟨off, sp, hk⟩)
    · exact hb1
    · exact hb2
    · exact hfA k off sp hk)
  have hsz6 : w5.heap.size ≤ w6.heap.size := hb6.size
  clear z0 z1 hb6 hb1 hb2 hfA hAll6
  have hgw6 : w.heap.size ≤ gw := by have := HGW.out.1; omega
  have hg0w : w.heap.size ≠ gw := by have := HGW.out.1; omega
  have hg4w : w2.heap.size ≠ gw := by have := HGW.out.1; omega
  have hg5w : w4.heap.size ≠ gw := by have := HGW.out.2.1; omega
  have hw45 : w4.heap.size < w5.heap.size := (Array.getElem?_eq_some_iff.1 HX5.out.1.c5).1
  have hw6 : w.heap.size ≤ w6.heap.size := HX6.out.1.be.size
  go_wp2_with fail
  refine (wpIn_wide (n := 8)).1 ?_
  refine wpIn_rangeAllT (by decide) rfl b1 b2 cp' a.length A' s HM.out.2.1 (fun x hx => ⟨(HM.out.2.2.1 x hx).1, by have := (HM.out.2.2.1 x hx).2; omega⟩) (by have := HM.out.2.2.2.2.1; omega) hal rfl HX6.out.2.2
    (I1 w w.heap.size w2.heap.size w4.heap.size gw (some ⟨bs, os, none⟩) B ca cb s a m) (I1.own hw6) ⟨HX6.out.1, HX6.out.2.1⟩
    (fun p q T => textFrame1 w.heap.size w2.heap.size w4.heap.size s.length p q (fun j => (((T.setIfInBounds 44 (.int .i64 p)).setIfInBounds 45 (.slice (some ⟨q, 0, none⟩) s.length s.length)).getD j undef))) ?assign ?body ?done
  case assign =>
    intro l p q W K hK
    gi_wp2
    exact hK
  case body =>
    intro l p q W hI hp hT _
    exact text_body1 _ rfl w 8 w.heap.size w2.heap.size w4.heap.size gw ca cb m b1 b2 (some ⟨bs, os, none⟩) B A' s s0 a HP.out HA.out.2.1 HA.out.2.2.2 HM.out.2.2.2.1 (by have := HM.out.2.2.2.2.1; omega) hm hm2 hgw6 hg0w hg4w hg5w l p q _ W hI hp hT
      (fun k hk => by have := HFA.out k hk; have := HGW.out.2.1; omega)
  case done =>
    intro w7 hI7 hd7 hl7
    obtain ⟨w8, hw8⟩ : ∃ w8, w8 = w7.alloc (.cells #[.pointer none, .slice none 0 0] 84) := ⟨_, rfl⟩
    have hb8 : Below w7.heap.size w7 w8 := by rw [hw8]; exact (Below.refl _ _).alloc (Nat.le_refl _) _
    have hbu : Lib.IsBuilderF TB TU8 w.heap.size w7.heap.size (Lib.byteCells (grid s a m a.length 0)) w8 := by
      rw [hw8]
      exact .of (.inl ⟨hI7.1.be.size, .slice none 0 0, heap_alloc_new w7 _, World.ownsRow_nil _ _ _ _, by simp [Value.ownBlock]⟩)
    have hd8 := (hb8.block _ hl7).trans hd7
    have HX8 : Hid (TextW w w8 w.heap.size w2.heap.size w4.heap.size gw (some ⟨bs, os, none⟩) B ca cb s a m ∧ Wide w8 gw m (wd a m a.length) ∧ Lib.IsBuilderF TB TU8 w.heap.size w7.heap.size (Lib.byteCells (grid s a m a.length 0)) w8 ∧ w8.heap[w6.heap.size]? = some (.deferred (some []))) := Lib.hid ⟨hI7.1.on hb8, hI7.2.on hb8, hbu, hd8⟩
    obtain ⟨z0', z1'⟩ := heap2 HX8.out.1.c0
    rw [HM.out.2.2.2.2.1] at z0'
    have z0 : (w7.alloc (.cells #[.pointer none, .slice none 0 0] 84)).cell? ⟨w.heap.size, 0, none⟩ = some (.slice (some ⟨bs, os, none⟩) (k0 + 1) ca) := by rw [← hw8]; exact z0'
    have hAll := all_any (some ⟨bs, os, none⟩) ca s w8 (HA.out.1.on HX8.out.1.be) HA.out.2.2.1 (fun e => by have := HM.out.2.2.2.2.1; rw [e] at this; simp at this) (by have := HM.out.2.2.2.2.1; omega)
    rw [HM.out.2.2.2.2.1] at hAll
    have HALL2 := Lib.hid hAll
    have HW8 := Lib.hid hw8
    have HL7 := Lib.hid hl7
    clear hAll hw8 hb8 hbu hd8 z0' z1' hd7 hI7 hl7
    go_wp2_with fail
    rw [← HW8.out]
    refine HALL2.out.mono ?_
    rintro e w9 ⟨c1, c2, A'', cp'', rfl, hb9, _, _, _, hAll9⟩
    have HX9 : Hid (I2 w w.heap.size w2.heap.size w4.heap.size gw w7.heap.size (some ⟨bs, os, none⟩) B ca cb s a m a.length 0 w9 ∧ w9.heap[w6.heap.size]? = some (.deferred (some [])) ∧ AllAt w9 c1 c2 A'' cp'' s) :=
      Lib.hid ⟨⟨HX8.out.1.on hb9, HX8.out.2.1.on hb9, HX8.out.2.2.1.on hb9⟩, (hb9.block _ (Array.getElem?_eq_some_iff.1 HX8.out.2.2.2).1).trans HX8.out.2.2.2, hAll9⟩
    have hw9 : w.heap.size ≤ w9.heap.size := HX9.out.1.1.be.size
    have hD9 : w6.heap.size < w9.heap.size := (Array.getElem?_eq_some_iff.1 HX9.out.2.1).1
    clear z0 hb9 hAll9
    go_wp2_with fail
    refine (wpIn_wide (n := 8)).1 ?_
    refine wpIn_rangeAllT (by decide) rfl c1 c2 cp'' a.length A'' s HM.out.2.1 (fun x hx => ⟨(HM.out.2.2.1 x hx).1, by have := (HM.out.2.2.1 x hx).2; omega⟩) (by have := HM.out.2.2.2.2.1; omega) hal rfl HX9.out.2.2
      (fun p W => I2 w w.heap.size w2.heap.size w4.heap.size gw w7.heap.size (some ⟨bs, os, none⟩) B ca cb s a m a.length p W ∧ W.heap[w6.heap.size]? = some (.deferred (some []))) (I2.own hw9 hD9) ⟨HX9.out.1, HX9.out.2.1⟩
      (fun p q T => textFrame2 w.heap.size w2.heap.size w4.heap.size w7.heap.size s.length p q (fun j => (((T.setIfInBounds 72 (.int .i64 p)).setIfInBounds 73 (.slice (some ⟨q, 0, none⟩) s.length s.length)).getD j undef))) ?assign2 ?body2 ?done2
    case assign2 =>
      intro l p q W K hK
      gi_wp2
      exact hK
    case body2 =>
      rintro l p q W ⟨hI, hmk⟩ hp hT hAl
      exact wpIn_mono (text_body2 _ rfl w 8 w.heap.size w2.heap.size w4.heap.size gw w7.heap.size ca cb cp'' m a.length c1 c2 (some ⟨bs, os, none⟩) B A'' s s0 a HP.out HA.out.1 HA.out.2.1 HA.out.2.2.2 HM.out.2.2.2.1 (by have := HM.out.2.2.2.2.1; omega) (by have := HM.out.2.2.2.2.2.1; omega) HM.out.2.2.1 hm hm2
        rfl HM.out.2.2.2.2.2.2.2 hal l p q _ W hI hp hT hAl) (roundQ_mark hmk)
    case done2 =>
      rintro w10 ⟨hI10, hm10⟩ hd10 hl10
      have hbu10 := hI10.2.2
      have hb10 := hI10.1.be
      have HD10 := Lib.hid (And.intro hm10 (And.intro hd10 (And.intro hb10 hbu10)))
      clear hI10 hm10 hd10 hl10 hbu10 hb10
      go_wp2_with fail
      refine (Tryd.Builder_String_any_k w.heap.size w7.heap.size (grid s a m a.length a.length) w10 HD10.out.2.2.2 HD10.out.2.2.1.size).mono ?_
      rintro e w11 ⟨rfl, _, hb11, hk11⟩
      have hk := wrote_others HD10.out.2.2.2 hk11 hb11.size
      have hm11 := hk.same _ _ HD10.out.1 rfl
      have hd11 := hk.same _ _ HD10.out.2.1 rfl
      have hB11 := HD10.out.2.2.1.trans hb11
      have HD11 := Lib.hid (And.intro hm11 (And.intro hd11 hB11))
      clear hk hm11 hd11 hB11 hk11 hb11
      go_wp2_with fail
      refine ⟨by simp, .inl ⟨_, _, rfl, run_takeDeferred HD11.out.2.1, ?_⟩⟩
      have hD2 := (Array.getElem?_eq_some_iff.1 HD11.out.2.1).1
      have h2 : (w11.putObj w9.heap.size (.deferred none)).heap[w6.heap.size]? = some (.deferred (some [])) := (World.putObj_heap_other (by omega)).trans HD11.out.1
      refine ⟨by simp, .inl ⟨_, _, rfl, run_takeDeferred h2, ?_⟩⟩
      have hb12 : Below w.heap.size w (w11.putObj w9.heap.size (.deferred none)) := HD11.out.2.2.grown (grownBy_putObj' _ _ _) HD11.out.2.2.size (fun k e => by injection e with e; omega)
      have hb13 : Below w.heap.size w ((w11.putObj w9.heap.size (.deferred none)).putObj w6.heap.size (.deferred none)) := hb12.grown (grownBy_putObj' _ _ _) hb12.size (fun k e => by injection e with e; omega)
      exact ⟨_, results_tmp2 rfl _ _ _, rfl, hb13⟩
end Go.Proofs.YtpipcpjkfgdpcaaDoor
