/- abacuslaw13: prim, begun. No condition. -/
import Derived.Test.YtkdejffhdhcocaaGreatTeMC
import Derived.Test.YtkdejffhdhcocaaGreatTeWa
import Derived.Deep.RegionHeld3
namespace Go.Proofs.YtkdejffhdhcocaaGreat
open Go.RowKit

/-- terms that lie one behind the other in a block -/
theorem kids_block {w : World} {g : Nat} {ks : List Tm} {rs : List Rt} (hg : w.heap[g]? = some (.cells (rtCellsL ks rs).toArray TTm (0, 0))) (hl : ks.length = rs.length)
    (h : ∀ (i : Nat) (t : Tm) (r : Rt), ks[i]? = some t → rs[i]? = some r → TmAt w t r.s.p r.a.p r.k.p ∧ r.s.n = t.sh.length ∧ r.a.n = t.at_.length ∧ r.k.n = t.kids.length) : KidsAt w (some ⟨g, 0, none⟩) ks 0 := by
  refine KidsAt.of fun i t ht => ?_
  have hi := (List.getElem?_eq_some_iff.1 ht).1
  obtain ⟨r, hr⟩ : ∃ r, rs[i]? = some r := ⟨_, List.getElem?_eq_getElem (by omega)⟩
  obtain ⟨hta, f1, f2, f3⟩ := h i t r ht hr
  refine ⟨rtCells t r, ?_, heap_lt hg, fun q u hq => ?_⟩
  · have := hta.is r.s.c r.a.c r.k.c
    rw [← f1, ← f2, ← f3] at this
    exact this
  · rw [Nat.zero_add, Nat.zero_add]
    exact cell_at hg ((List.getElem?_toArray ..).trans (rtCells_get ht hr hq))
abbrev nil0 : Rw := ⟨none, 0, 0⟩
/-- a primitive -/
def tPrim (s : ByteArray) : Tm := .mk 20 s 0 [] [] []
theorem tPrim_at (w : World) (s : ByteArray) : TmAt w (tPrim s) none none none := ⟨IntsAt.nil _ _, IntsAt.nil _ _, KidsAt.nil _ _⟩
set_option maxRecDepth 100000 in
theorem prim_any (s : ByteArray) (w : World) : Calls Tryz.prog 65 #[.string s] w fun e w' => e = .returned (.agg #[.int .i64 20, .string s, .int .i64 0, .slice none 0 0, .slice none 0 0, .slice none 0 0]) ∧ Below w.heap.size w w' := by
  go_enter Tryz.func65, Tryz.ntmps65
  go_wp2_with fail
  refine ret_agg ?_ rfl ?_
  · simp [results, Tryz.results65, go_sem]
  · repeat (first | exact Below.refl _ _ | refine Below.alloc ?_ (by simp) _ | refine Below.setCell ?_ (by simp) _)
def tIns : Tm := .mk 24 ⟨#[]⟩ 0 [] [] [tPrim ⟨#[43]⟩]
def tFork : Tm := .mk 45 ⟨#[]⟩ 0 [] [] [tIns, tPrim ⟨#[37]⟩, tPrim ⟨#[35]⟩]
theorem fork_facts : sizeT tFork = (5, 3) ∧ greatT tFork = false ∧ mayT tFork 3 = 0 ∧ mayT tFork 1 = 5 ∧ mayT (tPrim ⟨#[43, 43]⟩) 3 = 33 ∧ sameT tFork (tPrim ⟨#[43]⟩) = false ∧ cls 45 = 3 ∧ sameT tFork tFork = true := by decide +kernel
theorem prim_wf (s : ByteArray) (h : s.size ≤ 8) : WfT (tPrim s) := by
  simp only [tPrim, WfT, WfL]
  exact ⟨⟨by decide, by decide⟩, ⟨by decide, by decide⟩, fun x hx => (by cases hx), fun x hx => (by cases hx), by omega, by decide, by decide, by decide, trivial⟩
theorem fork_wf : WfT tFork := by
  have h1 := prim_wf ⟨#[43]⟩ (by decide)
  have h2 := prim_wf ⟨#[37]⟩ (by decide)
  have h3 := prim_wf ⟨#[35]⟩ (by decide)
  simp only [tFork, tIns, WfT, WfL, and_true]
  exact ⟨⟨by decide, by decide⟩, ⟨by decide, by decide⟩, fun x hx => (by cases hx), fun x hx => (by cases hx), by decide, by decide, by decide, by decide, ⟨⟨by decide, by decide⟩, ⟨by decide, by decide⟩, fun x hx => (by cases hx), fun x hx => (by cases hx), by decide, by decide, by decide, by decide, h1⟩, h2, h3⟩
theorem rtVal_eq {w : World} {B : Nat} {t : Tm} {r : Rt} (h : OwnT w B t r) : rtVal t r = tmVal t r.s.p r.s.c r.a.p r.a.c r.k.p r.k.c := by
  obtain ⟨_, f1, f2, f3⟩ := h.read
  unfold rtVal
  rw [f1, f2, f3]
theorem keep_start (w : World) : Hid (Below w.heap.size w w.drew) := (Below.refl _ _).drew
theorem keep_call {w wp wn : World} (h : Hid (Below w.heap.size w wp)) (k : Below wp.heap.size wp wn) : Hid (Below w.heap.size w wn) := Below.then_ h k
/-- a Copy whose term is not too great, and can be read -/
theorem copy_ok (t : Tm) (A : Option Addr) (ca : Nat) (B : Option Addr) (cb : Nat) (K : Option Addr) (ck : Nat) (w : World) (hat : TmAt w t A B K) (hwf : WfT t) (hg : greatT t = false) :
    Calls Tryz.prog 30 #[tmVal t A ca B cb K ck] w fun e w' => ∃ A' ca' B' cb' K' ck', e = .returned (.tuple #[tmVal t A' ca' B' cb' K' ck', .int .i64 0]) ∧ TmAt w' t A' B' K' ∧ Below w.heap.size w w' :=
  (copy_any t A ca B cb K ck w hat hwf).mono fun e w' h => by
    rcases h with ⟨h1, _⟩ | ⟨_, r, rfl, ho, _, hb⟩
    · rw [hg] at h1; cases h1
    · exact ⟨r.s.p, r.s.c, r.a.p, r.a.c, r.k.p, r.k.c, by rw [rtVal_eq ho], ho.read.1, hb⟩
set_option maxRecDepth 100000 in
set_option maxHeartbeats 16000000 in
theorem begun_any (w : World) : Calls Tryz.prog 28 #[] w fun e w' => e = .returned (.bool true) ∧ Below w.heap.size w w' := by
  go_enter Tryz.func28, Tryz.ntmps28
  go_wp2_with fail
  refine (prim_any _ _).mono ?_
  rintro e w1 ⟨rfl, hb1⟩
  obtain ⟨W1, hW1⟩ : ∃ W1, W1 = w1.alloc (.cells #[.int .i64 20, .string ⟨#[43]⟩, .int .i64 0, .slice none 0 0, .slice none 0 0, .slice none 0 0] TTm) := ⟨_, rfl⟩
  have hB1 : Below w.heap.size w W1 := by rw [hW1]; exact hb1.alloc hb1.size _
  have hx1 : W1.heap[w1.heap.size]? = some (.cells (rtCellsL [tPrim ⟨#[43]⟩] [.mk nil0 nil0 nil0 []]).toArray TTm (0, 0)) := by rw [hW1]; exact heap_alloc_new w1 _
  have H1 := Lib.hid (And.intro hB1 hx1)
  have HW1 := Lib.hid hW1
  clear hb1 hB1 hx1 hW1
  go_wp2_with fail
  rw [← HW1.out]
  refine (prim_any _ _).mono ?_
  rintro e w2 ⟨rfl, hb2⟩
  have HB2 := Lib.hid hb2
  clear hb2
  go_wp2_with fail
  refine (prim_any _ _).mono ?_
  rintro e w3 ⟨rfl, hb3⟩
  have HB3 := Lib.hid (HB2.out.then_ hb3)
  clear hb3 HB2
  go_wp2_with fail
  obtain ⟨W3, hW3⟩ : ∃ W3, W3 = w3.alloc (.cells #[.int .i64 24, .string ⟨#[]⟩, .int .i64 0, .slice none 0 0, .slice none 0 0, .slice (some ⟨w1.heap.size, 0, none⟩) 1 1, .int .i64 20, .string ⟨#[37]⟩, .int .i64 0, .slice none 0 0, .slice none 0 0, .slice none 0 0, .int .i64 20, .string ⟨#[35]⟩, .int .i64 0, .slice none 0 0, .slice none 0 0, .slice none 0 0] TTm) := ⟨_, rfl⟩
  obtain ⟨W4, hW4⟩ : ∃ W4, W4 = W3.alloc (.cells #[.int .i64 45, .string ⟨#[]⟩, .int .i64 0, .slice none 0 0, .slice none 0 0, .slice (some ⟨w3.heap.size, 0, none⟩) 3 3] TTm) := ⟨_, rfl⟩
  have hb3 : Below w3.heap.size w3 W3 := by rw [hW3]; exact (Below.refl _ _).alloc (Nat.le_refl _) _
  have hb4 : Below W3.heap.size W3 W4 := by rw [hW4]; exact (Below.refl _ _).alloc (Nat.le_refl _) _
  have hs3 : W3.heap.size = w3.heap.size + 1 := by rw [hW3]; simp
  have hx3 : W4.heap[w3.heap.size]? = some (.cells (rtCellsL [tIns, tPrim ⟨#[37]⟩, tPrim ⟨#[35]⟩] [.mk nil0 nil0 ⟨some ⟨w1.heap.size, 0, none⟩, 1, 1⟩ [], .mk nil0 nil0 nil0 [], .mk nil0 nil0 nil0 []]).toArray TTm (0, 0)) :=
    (hb4.block _ (by omega)).trans (by rw [hW3]; exact heap_alloc_new w3 _)
  have hx4 : W4.heap[w3.heap.size + 1]? = some (.cells #[.int .i64 45, .string ⟨#[]⟩, .int .i64 0, .slice none 0 0, .slice none 0 0, .slice (some ⟨w3.heap.size, 0, none⟩) 3 3] TTm (0, 0)) := by
    rw [← hs3, hW4]; exact heap_alloc_new W3 _
  have hx1 : W4.heap[w1.heap.size]? = some (.cells (rtCellsL [tPrim ⟨#[43]⟩] [.mk nil0 nil0 nil0 []]).toArray TTm (0, 0)) := (((HB3.out.then_ hb3).then_ hb4).block _ (heap_lt H1.out.2)).trans H1.out.2
  have hBW : Below w.heap.size w W4 := (((H1.out.1.then_ HB3.out).then_ hb3).then_ hb4)
  have hfork : TmAt W4 tFork none none (some ⟨w3.heap.size, 0, none⟩) := by
    refine ⟨IntsAt.nil _ _, IntsAt.nil _ _, kids_block hx3 rfl fun i t r ht hr => ?_⟩
    have hin : TmAt W4 tIns none none (some ⟨w1.heap.size, 0, none⟩) := ⟨IntsAt.nil _ _, IntsAt.nil _ _, kids_block hx1 rfl fun i t r ht hr => by
      match i, ht, hr with
      | 0, ht, hr =>
        obtain rfl := Option.some.inj ht
        obtain rfl := Option.some.inj hr
        exact ⟨tPrim_at _ _, rfl, rfl, rfl⟩⟩
    match i, ht, hr with
    | 0, ht, hr =>
      obtain rfl := Option.some.inj ht
      obtain rfl := Option.some.inj hr
      exact ⟨hin, rfl, rfl, rfl⟩
    | 1, ht, hr =>
      obtain rfl := Option.some.inj ht
      obtain rfl := Option.some.inj hr
      exact ⟨tPrim_at _ _, rfl, rfl, rfl⟩
    | 2, ht, hr =>
      obtain rfl := Option.some.inj ht
      obtain rfl := Option.some.inj hr
      exact ⟨tPrim_at _ _, rfl, rfl, rfl⟩
  have HF := Lib.hid (And.intro hBW (And.intro hx4 hfork))
  have HT : Hid (∀ W, Below W4.heap.size W4 W → W.cell? ⟨w3.heap.size + 1, 0, none⟩ = some (.int .i64 45) ∧ W.cell? ⟨w3.heap.size + 1, 1, none⟩ = some (.string ⟨#[]⟩) ∧ W.cell? ⟨w3.heap.size + 1, 2, none⟩ = some (.int .i64 0) ∧ W.cell? ⟨w3.heap.size + 1, 3, none⟩ = some (.slice none 0 0) ∧ W.cell? ⟨w3.heap.size + 1, 4, none⟩ = some (.slice none 0 0) ∧ W.cell? ⟨w3.heap.size + 1, 5, none⟩ = some (.slice (some ⟨w3.heap.size, 0, none⟩) 3 3)) := Lib.hid fun W h => by
    have hh := (h.block _ (heap_lt HF.out.2.1)).trans HF.out.2.1
    exact ⟨cell_at hh rfl, cell_at hh rfl, cell_at hh rfl, cell_at hh rfl, cell_at hh rfl, cell_at hh rfl⟩
  have HW := Lib.hid (And.intro hW3 hW4)
  clear hb3 hb4 hs3 hx3 hx4 hx1 hBW hfork hW3 hW4
  rw [← HW.out.1, ← HW.out.2]
  have f1 := fork_facts.1
  refine (size_any tFork none 0 none 0 (some ⟨w3.heap.size, 0, none⟩) 3 W4 HF.out.2.2 fork_wf).mono ?_
  rintro e w5 ⟨rfl, hb5⟩
  rw [f1]
  obtain ⟨q0, q1, q2, q3, q4, q5⟩ := HT.out w5 hb5
  have HB5 := Lib.hid hb5
  clear f1 hb5
  go_wp2_with fail
  refine (copy_ok tFork none 0 none 0 (some ⟨w3.heap.size, 0, none⟩) 3 w5 (HF.out.2.2.on HB5.out) fork_wf fork_facts.2.1).mono ?_
  rintro e w6 ⟨A', ca', B', cb', K', ck', rfl, hat6, hb6⟩
  rw [show tmVal tFork A' ca' B' cb' K' ck' = .agg #[.int .i64 45, .string ⟨#[]⟩, .int .i64 0, .slice A' 0 ca', .slice B' 0 cb', .slice K' 3 ck'] from rfl]
  obtain ⟨W6, hW6⟩ : ∃ W6, W6 = w6.alloc (.cells #[.int .i64 45, .string ⟨#[]⟩, .int .i64 0, .slice A' 0 ca', .slice B' 0 cb', .slice K' 3 ck'] TTm) := ⟨_, rfl⟩
  have hb6' : Below w6.heap.size w6 W6 := by rw [hW6]; exact (Below.refl _ _).alloc (Nat.le_refl _) _
  have hx6 : W6.heap[w6.heap.size]? = some (.cells #[.int .i64 45, .string ⟨#[]⟩, .int .i64 0, .slice A' 0 ca', .slice B' 0 cb', .slice K' 3 ck'] TTm (0, 0)) := by rw [hW6]; exact heap_alloc_new w6 _
  have HB6 := Lib.hid ((HB5.out.then_ hb6).then_ hb6')
  have HC : Hid (∀ w' : World, Below W6.heap.size W6 w' → w'.cell? ⟨w6.heap.size, 0, none⟩ = some (.int .i64 45) ∧ w'.cell? ⟨w6.heap.size, 1, none⟩ = some (.string ⟨#[]⟩) ∧ w'.cell? ⟨w6.heap.size, 2, none⟩ = some (.int .i64 0) ∧ w'.cell? ⟨w6.heap.size, 3, none⟩ = some (.slice A' 0 ca') ∧ w'.cell? ⟨w6.heap.size, 4, none⟩ = some (.slice B' 0 cb') ∧ w'.cell? ⟨w6.heap.size, 5, none⟩ = some (.slice K' 3 ck')) := Lib.hid fun W h => by
    have hh := (h.block _ (heap_lt hx6)).trans hx6
    exact ⟨cell_at hh rfl, cell_at hh rfl, cell_at hh rfl, cell_at hh rfl, cell_at hh rfl, cell_at hh rfl⟩
  have HA6 := Lib.hid (hat6.on hb6')
  have HW6 := Lib.hid hW6
  have ht6 := HT.out w6 (HB5.out.then_ hb6)
  clear hat6 hb6 hb6' hx6 hW6 q0 q1 q2 q3 q4 q5
  obtain ⟨q0, q1, q2, q3, q4, q5⟩ := HT.out W6 HB6.out
  rw [HW6.out] at q0 q1 q2 q3 q4 q5
  clear ht6
  go_wp2_with fail
  rw [← HW6.out]
  have f3 := fork_facts.2.2.1
  refine (may_any tFork none 0 none 0 (some ⟨w3.heap.size, 0, none⟩) 3 3 W6 (HF.out.2.2.on HB6.out) fork_wf).mono ?_
  rintro e w7 ⟨rfl, hb7⟩
  rw [f3]
  have HB7 := Lib.hid hb7
  clear f3 hb7 q0 q1 q2 q3 q4 q5
  obtain ⟨q0, q1, q2, q3, q4, q5⟩ := HT.out w7 (HB6.out.then_ HB7.out)
  go_wp2_with fail
  have f4 := fork_facts.2.2.2.1
  refine (may_any tFork none 0 none 0 (some ⟨w3.heap.size, 0, none⟩) 3 1 w7 (HF.out.2.2.on (HB6.out.then_ HB7.out)) fork_wf).mono ?_
  rintro e w8 ⟨rfl, hb8⟩
  rw [f4]
  have HB8 := Lib.hid (HB7.out.then_ hb8)
  clear f4 hb8 q0 q1 q2 q3 q4 q5
  go_wp2_with fail
  refine (prim_any _ _).mono ?_
  rintro e w9 ⟨rfl, hb9⟩
  have HB9 := Lib.hid (HB8.out.then_ hb9)
  clear hb9
  go_wp2_with fail
  have f5 := fork_facts.2.2.2.2.1
  refine (may_any (tPrim ⟨#[43, 43]⟩) none 0 none 0 none 0 3 w9 (tPrim_at _ _) (prim_wf _ (by decide))).mono ?_
  rintro e wa ⟨rfl, hba⟩
  rw [f5]
  have HBA := Lib.hid (HB9.out.then_ hba)
  clear f5 hba
  have HS1 : Hid (∀ W, Below W6.heap.size W6 W → Calls Tryz.prog 33 #[.agg #[.int .i64 45, .string ⟨#[]⟩, .int .i64 0, .slice none 0 0, .slice none 0 0, .slice (some ⟨w3.heap.size, 0, none⟩) 3 3], .agg #[.int .i64 45, .string ⟨#[]⟩, .int .i64 0, .slice A' 0 ca', .slice B' 0 cb', .slice K' 3 ck']] W fun e w' => e = .returned (.bool true) ∧ Below W.heap.size W w') := Lib.hid fun W h => by
    have hc := sameV_any tFork tFork none 0 none 0 (some ⟨w3.heap.size, 0, none⟩) 3 A' ca' B' cb' K' ck' W (HF.out.2.2.on (HB6.out.then_ h)) (HA6.out.on h) fork_wf fork_wf
    rw [fork_facts.2.2.2.2.2.2.2] at hc
    exact hc
  have HS2 : Hid (∀ W, Below W6.heap.size W6 W → Calls Tryz.prog 33 #[.agg #[.int .i64 45, .string ⟨#[]⟩, .int .i64 0, .slice none 0 0, .slice none 0 0, .slice (some ⟨w3.heap.size, 0, none⟩) 3 3], .agg #[.int .i64 20, .string ⟨#[43]⟩, .int .i64 0, .slice none 0 0, .slice none 0 0, .slice none 0 0]] W fun e w' => e = .returned (.bool false) ∧ Below W.heap.size W w') := Lib.hid fun W h => by
    have hc := sameV_any tFork (tPrim ⟨#[43]⟩) none 0 none 0 (some ⟨w3.heap.size, 0, none⟩) 3 none 0 none 0 none 0 W (HF.out.2.2.on (HB6.out.then_ h)) (tPrim_at _ _) fork_wf (prim_wf _ (by decide))
    rw [fork_facts.2.2.2.2.2.1] at hc
    exact hc
  have HCL : Hid (∀ W, Calls Tryz.prog 66 #[.agg #[.int .i64 45, .string ⟨#[]⟩, .int .i64 0, .slice none 0 0, .slice none 0 0, .slice (some ⟨w3.heap.size, 0, none⟩) 3 3]] W fun e w' => e = .returned (.int .i64 3) ∧ Below W.heap.size W w') := Lib.hid fun W => class_k 45 _ _ _ _ _ W
  obtain ⟨q0, q1, q2, q3, q4, q5⟩ := HT.out wa (HB6.out.then_ HBA.out)
  obtain ⟨x0, x1, x2, x3, x4, x5⟩ := HC.out wa HBA.out
  have HTC : Hid (∀ w' : World, Below wa.heap.size wa w' → (w'.cell? ⟨w3.heap.size + 1, 0, none⟩ = some (.int .i64 45) ∧ w'.cell? ⟨w3.heap.size + 1, 1, none⟩ = some (.string ⟨#[]⟩) ∧ w'.cell? ⟨w3.heap.size + 1, 2, none⟩ = some (.int .i64 0) ∧ w'.cell? ⟨w3.heap.size + 1, 3, none⟩ = some (.slice none 0 0) ∧ w'.cell? ⟨w3.heap.size + 1, 4, none⟩ = some (.slice none 0 0) ∧ w'.cell? ⟨w3.heap.size + 1, 5, none⟩ = some (.slice (some ⟨w3.heap.size, 0, none⟩) 3 3)) ∧ (w'.cell? ⟨w6.heap.size, 0, none⟩ = some (.int .i64 45) ∧ w'.cell? ⟨w6.heap.size, 1, none⟩ = some (.string ⟨#[]⟩) ∧ w'.cell? ⟨w6.heap.size, 2, none⟩ = some (.int .i64 0) ∧ w'.cell? ⟨w6.heap.size, 3, none⟩ = some (.slice A' 0 ca') ∧ w'.cell? ⟨w6.heap.size, 4, none⟩ = some (.slice B' 0 cb') ∧ w'.cell? ⟨w6.heap.size, 5, none⟩ = some (.slice K' 3 ck'))) := Lib.hid fun W h => ⟨HT.out W ((HB6.out.then_ HBA.out).then_ h), HC.out W (HBA.out.then_ h)⟩
  go_wp2_with fail
  go_region_held3 (fun w' => ((w'.cell? ⟨w3.heap.size + 1, 0, none⟩ = some (.int .i64 45) ∧ w'.cell? ⟨w3.heap.size + 1, 1, none⟩ = some (.string ⟨#[]⟩) ∧ w'.cell? ⟨w3.heap.size + 1, 2, none⟩ = some (.int .i64 0) ∧ w'.cell? ⟨w3.heap.size + 1, 3, none⟩ = some (.slice none 0 0) ∧ w'.cell? ⟨w3.heap.size + 1, 4, none⟩ = some (.slice none 0 0) ∧ w'.cell? ⟨w3.heap.size + 1, 5, none⟩ = some (.slice (some ⟨w3.heap.size, 0, none⟩) 3 3)) ∧ (w'.cell? ⟨w6.heap.size, 0, none⟩ = some (.int .i64 45) ∧ w'.cell? ⟨w6.heap.size, 1, none⟩ = some (.string ⟨#[]⟩) ∧ w'.cell? ⟨w6.heap.size, 2, none⟩ = some (.int .i64 0) ∧ w'.cell? ⟨w6.heap.size, 3, none⟩ = some (.slice A' 0 ca') ∧ w'.cell? ⟨w6.heap.size, 4, none⟩ = some (.slice B' 0 cb') ∧ w'.cell? ⟨w6.heap.size, 5, none⟩ = some (.slice K' 3 ck'))) ∧ Hid (Below wa.heap.size wa w'))
    (first | exact ⟨⟨⟨q0, q1, q2, q3, q4, q5⟩, ⟨x0, x1, x2, x3, x4, x5⟩⟩, keep_start _⟩ | exact ⟨HTC.out _ (keep_call hH.2 hb').out, keep_call hH.2 hb'⟩)
    (first | (go_at_call 66; rename_i hH _ _; refine (HCL.out _).mono ?_; rintro e w' ⟨rfl, hb'⟩) | (go_at_call 65; rename_i hH _ _; refine (prim_any _ _).mono ?_; rintro e w' ⟨rfl, hb'⟩) | (go_at_call_of 33 (Value.agg #[.int .i64 45, .string ⟨#[]⟩, .int .i64 0, .slice A' 0 ca', .slice B' 0 cb', .slice K' 3 ck']); rename_i hH _ _; refine (HS1.out _ (HBA.out.then_ hH.2.out)).mono ?_; rintro e w' ⟨rfl, hb'⟩) | (go_at_call_of 33 (Value.agg #[.int .i64 20, .string ⟨#[43]⟩, .int .i64 0, .slice none 0 0, .slice none 0 0, .slice none 0 0]); rename_i hH _ _; refine (HS2.out _ (HBA.out.then_ hH.2.out)).mono ?_; rintro e w' ⟨rfl, hb'⟩))
  all_goals
    rename_i hH
    go_wp2_with fail
    go_ret
    exact ⟨rfl, ((HF.out.1.then_ HB6.out).then_ HBA.out).then_ hH.2.out⟩
end Go.Proofs.YtkdejffhdhcocaaGreat
