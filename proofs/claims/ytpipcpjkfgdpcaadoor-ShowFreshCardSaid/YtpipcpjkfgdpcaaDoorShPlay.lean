/- abacuslaw2.(*Work).Over, abacuslaw4.Size, abacuslaw10.Op.size; show.Read once more. Conditions: sizes within reach. · abacuslaw10.plays. Conditions: strconv's table of powers is as laid; sizes within reach. · The law ShowAll. Conditions: strconv's table of powers is as laid; sizes within reach. -/
import Derived.Test.YtpipcpjkfgdpcaaDoorShHand
import Derived.Test.YtpipcpjkfgdpcaaDoorShBegun
import Derived.Deep.QuietTactic
import Derived.BigQuiet
namespace Go.Proofs.YtpipcpjkfgdpcaaDoor
open Go.RowKit

theorem sread_any (s : ByteArray) (w : World) : Calls Tryd.prog 15 #[.string s] w (RRead s w) := by
  refine (read_any s w).mono ?_
  rintro e w' ⟨sv, av, place, err, rfl, hb, ⟨rfl, rfl, sh, at_, h1, h2, h3, h4, _, h6, _, hr⟩ | ⟨_, _, _, rfl, rfl, hr⟩⟩
  · have hm := may_parts h6
    exact ⟨sv, av, 0, 0, sh, at_, rfl, hb, hr, h1, h2, h3, h4, by omega, by omega⟩
  · exact ⟨_, _, place, err, [], [], rfl, hb, hr, World.ownsRow_nil _ _ _ _, World.ownsRow_nil _ _ _ _, all64_nil, all64_nil, by simp, by simp⟩

abbrev TW : TypeId := 33
abbrev TO : TypeId := 38
set_option maxHeartbeats 1000000 in
theorem over_any (g : Nat) (m n : Nat) (w : World) (hg : w.heap[g]? = some (.cells #[.int .i64 m] TW (0, 0))) (hm : m ≤ 1099511627776) (hn : n ≤ 1099511627776000000) :
    Calls Tryd.prog 9 #[.pointer (some ⟨g, 0, none⟩), .int .i64 n] w fun e w' => e = .returned (.bool (decide (4194304 < m + 100 + n))) ∧ w' = w.setCell ⟨g, 0, none⟩ (.int .i64 ((m + 100 + n : Nat) : Int)) := by
  have kc := cells1 hg
  have pf : w.frozen? ⟨g, 0, none⟩ = false := by simp [World.frozen?, hg]
  have hw1 : IntKind.i64.wrap ((m : Int) + 100) = (m : Int) + 100 := by rw [IntKind.wrap_i64]; omega
  have hw2 : IntKind.i64.wrap ((m : Int) + 100 + n) = (m : Int) + 100 + n := by rw [IntKind.wrap_i64]; omega
  have k2 : (w.setCell ⟨g, 0, none⟩ (.int .i64 ((m : Int) + 100 + n))).cell? ⟨g, 0, none⟩ = some (.int .i64 ((m : Int) + 100 + n)) := by simp [World.cell?, World.setCell, Array.getElem?_modify, hg]
  by_cases hbig : 4194304 < m + 100 + n
  · have hd : decide ((4194304 : Int) < (m : Int) + 100 + n) = true := by simp; omega
    have HD : Hid (decide (4194304 < m + 100 + n) = true) := Lib.hid (by simpa using hbig)
    clear hbig
    go_enter Tryd.func9, Tryd.ntmps9
    go_wp2_with fail
    go_ret
    exact ⟨by rw [HD.out]; rfl, by simp⟩
  · have hd : decide ((4194304 : Int) < (m : Int) + 100 + n) = false := by simp; omega
    have HD : Hid (decide (4194304 < m + 100 + n) = false) := Lib.hid (by simp; omega)
    clear hbig
    go_enter Tryd.func9, Tryd.ntmps9
    go_wp2_with fail
    go_ret
    exact ⟨by rw [HD.out]; rfl, by simp⟩
theorem size4_any (A B : Option Addr) (ca cb n m : Nat) (w : World) (hn : n ≤ 1099511627776000) (hm : m ≤ 1099511627776000) :
    Calls Tryd.prog 27 #[.agg #[.slice A n ca, .slice B m cb]] w fun e w' => e = .returned (.int .i64 ((n + m : Nat) : Int)) ∧ Below w.heap.size w w' := by
  go_enter Tryd.func27, Tryd.ntmps27
  go_wp2_with fail
  go_ret
  exact ⟨by simp, (Below.refl _ _).alloc (Nat.le_refl _) _⟩
theorem opSize_any (k : Int) (A B : Option Addr) (ca cb n m : Nat) (s : ByteArray) (w : World) (hn : n ≤ 1099511627776000) (hm : m ≤ 1099511627776000) (hs : s.size ≤ 1099511627776000) :
    Calls Tryd.prog 10 #[.agg #[.int .i64 k, .slice A n ca, .slice B m cb, .string s]] w fun e w' => e = .returned (.int .i64 ((n + m + s.size : Nat) : Int)) ∧ Below w.heap.size w w' := by
  have hX := heap_alloc_new w (.cells #[.int .i64 k, .slice A n ca, .slice B m cb, .string s] TO)
  have HF : Hid (∀ W', Below (w.alloc (.cells #[.int .i64 k, .slice A n ca, .slice B m cb, .string s] TO)).heap.size (w.alloc (.cells #[.int .i64 k, .slice A n ca, .slice B m cb, .string s] TO)) W' → W'.cell? ⟨w.heap.size, 1, none⟩ = some (.slice A n ca) ∧ W'.cell? ⟨w.heap.size, 2, none⟩ = some (.slice B m cb) ∧ W'.cell? ⟨w.heap.size, 3, none⟩ = some (.string s)) := Lib.hid fun W' h => by
    have h1 := (h.block w.heap.size (by simp)).trans hX
    refine ⟨?_, ?_, ?_⟩ <;> simp [World.cell?, h1]
  have hw : IntKind.i64.wrap (((n + m : Nat) : Int) + (s.size : Int)) = ((n + m + s.size : Nat) : Int) := by rw [IntKind.wrap_i64]; omega
  have hw2 : IntKind.i64.wrap ((n : Int) + (m : Int) + (s.size : Int)) = ((n + m + s.size : Nat) : Int) := by rw [IntKind.wrap_i64]; omega
  clear hX
  go_enter Tryd.func10, Tryd.ntmps10
  go_upto_region 1 with fail
  obtain ⟨W, hW⟩ : ∃ W, W = w.alloc (.cells #[.int .i64 k, .slice A n ca, .slice B m cb, .string s] TO) := ⟨_, rfl⟩
  have HB : Hid (Below w.heap.size w W) := Lib.hid (by rw [hW]; exact (Below.refl _ _).alloc (Nat.le_refl _) _)
  rw [← hW] at HF
  rw [← hW]
  clear hW
  refine (wpIn_wide (n := 8)).1 ?_
  refine wpW_region_head_tail (C := fun W' => Below W.heap.size W W') 7 (by kernel_rfl) (by kernel_rfl) (by kernel_rfl) ((Below.refl _ _).drew) ?_
  simp only [List.take_succ_cons, List.take_zero, List.drop_succ_cons, List.drop_zero]
  repeat
    (refine wpQuiet_step (fun K hK => ?_)
     go_simp
     first
     | (refine hK _ ?_; clear hK K)
     | (apply Exists.intro
        refine ⟨fun W' hC => ?_, hK _ ?_⟩
        (obtain ⟨q1, q2, q3⟩ := HF.out W' hC
         first
         | (go_simp; rfl)
         | (go_simp; done)
         | (refine (size4_any A B ca cb n m W' hn hm).mono ?_
            rintro e w' ⟨rfl, hb'⟩
            exact ⟨rfl, hC.then_ hb'⟩))
        clear hK K))
  refine wpQuiet_nil ?_
  intro w3 hC3
  have HB3 := Lib.hid (HB.out.then_ hC3)
  clear hC3
  gi_wp2
  go_wp2_with fail
  go_ret
  exact ⟨by first | rfl | simp, HB3.out⟩
end Go.Proofs.YtpipcpjkfgdpcaaDoor

namespace Go.Proofs.YtpipcpjkfgdpcaaDoor
open Go.RowKit
attribute [local go_sem] Oper.semAt_some

/-- blocks of other types stand as they stood -/
def TF (g : Nat) (w w' : World) : Prop := ∀ (j : Nat) (cur : Array Value) (t : TypeId) (fr : Nat × Nat), w.heap[j]? = some (.cells cur t fr) → t ≠ TI → t ≠ TA → j ≠ g → w'.heap[j]? = some (.cells cur t fr)
theorem TF.trans {g : Nat} {a b c : World} (h : TF g a b) (k : TF g b c) : TF g a c := fun _ _ _ _ h1 h2 h3 h4 => k _ _ _ _ (h _ _ _ _ h1 h2 h3 h4) h2 h3 h4
theorem TF.of_below {g : Nat} {a b : World} (h : Below a.heap.size a b) : TF g a b := fun j _ _ _ h1 _ _ _ => (h.block j (Array.getElem?_eq_some_iff.1 h1).1).trans h1
theorem TF.set {a : World} {g : Nat} (p : Addr) (hp : p.block = g) (v : Value) : TF g a (a.setCell p v) := fun _ _ _ _ h1 _ _ h4 => (Below.heap_setCell _ _ _ _ (fun e => h4 (e.trans hp))).trans h1
theorem Only.typed {p : Nat → Prop} {g : Nat} {w w' : World} (h : Only p w w') (hp : ∀ (j : Nat) (cur : Array Value) (t : TypeId) (fr : Nat × Nat), p j → w.heap[j]? = some (.cells cur t fr) → t ≠ TI → t ≠ TA → j = g) : TF g w w' := fun j cur t fr h1 h2 h3 h4 =>
  (h.block j (Array.getElem?_eq_some_iff.1 h1).1 (fun hj => h4 (hp j cur t fr hj h1 h2 h3))).trans h1
/-- a hand, its rows full -/
structure HandOk (w0 w : World) (g : Nat) (sv av : Value) : Prop where
  be : Below w0.heap.size w0 w
  hg : w.heap[g]? = some (.cells #[sv, av] TH (0, 0))
  gB : w0.heap.size ≤ g
  fs : FullRow w w0.heap.size TI sv
  fa : FullRow w w0.heap.size TA av
theorem HandOk.on {w0 w w' : World} {g : Nat} {sv av : Value} (h : HandOk w0 w g sv av) (hb : Below w.heap.size w w') : HandOk w0 w' g sv av :=
  ⟨h.be.trans (hb.mono h.be.size), (hb.block g (Array.getElem?_eq_some_iff.1 h.hg).1).trans h.hg, h.gB, h.fs.on hb, h.fa.on hb⟩
theorem row_is {w : World} {B j : Nat} {e t : TypeId} {v : Value} {cur : Array Value} {fr : Nat × Nat} (h : FullRow w B e v) (hj : some j = v.ownBlock) (hc : w.heap[j]? = some (.cells cur t fr)) : t = e := by
  obtain ⟨_, cur2, h2⟩ := h.ty j hj.symm
  rw [hc] at h2
  injection h2 with h2
  injection h2
theorem HandOk.typed {w0 w w' : World} {g : Nat} {sv av : Value} (h : HandOk w0 w g sv av) (ho : Only (HandP2 g sv av) w w') : TF g w w' := ho.typed fun j _ _ _ hj hc h2 h3 => by
  rcases hj with hj | hj | hj
  · exact hj
  · exact absurd (row_is h.fs hj hc) h2
  · exact absurd (row_is h.fa hj hc) h3
theorem HandOk.base {w0 w w' : World} {g : Nat} {sv av : Value} (h : HandOk w0 w g sv av) (ho : Only (HandP2 g sv av) w w') : Below w0.heap.size w0 w' := h.be.trans (ho.base h.be.size fun j hj => by
  rcases hj with hj | hj | hj
  · rw [hj]; exact h.gB
  · exact (h.fs.ty j hj.symm).1
  · exact (h.fa.ty j hj.symm).1)
/-- what a call played leaves -/
def Played (w0 w : World) (g : Nat) (e : Ending) (w' : World) : Prop := e = .returned (.bool true) ∧ ∃ sv av, HandOk w0 w' g sv av ∧ TF g w w'

set_option maxHeartbeats 8000000 in
set_option maxRecDepth 100000 in
theorem plays_text (w0 w : World) (g : Nat) (sv av : Value) (A B : Option Addr) (ca cb : Nat) (s a : List Int) (str : ByteArray) (hp : Pow10 w0) (hh : HandOk w0 w g sv av) (hA : ArrAt w0 A B s a) (hs : All64 s) (ha : All64 a) (ls : s.length ≤ 1099511627776) (la : a.length ≤ 1099511627776) :
    Calls Tryd.prog 11 #[.pointer (some ⟨g, 0, none⟩), .agg #[.int .i64 1, .slice A s.length ca, .slice B a.length cb, .string str]] w (Played w0 w g) := by
  have HP := Lib.hid hp
  have HA := Lib.hid hA
  have HL := Lib.hid (And.intro hs (And.intro ha (And.intro ls la)))
  have HH := Lib.hid hh
  obtain ⟨W, hW⟩ : ∃ W, W = w.alloc (.cells #[.int .i64 1, .slice A s.length ca, .slice B a.length cb, .string str] TO) := ⟨_, rfl⟩
  have hWb : Below w.heap.size w W := by rw [hW]; exact (Below.refl _ _).alloc (Nat.le_refl _) _
  have hX : W.heap[w.heap.size]? = some (.cells #[.int .i64 1, .slice A s.length ca, .slice B a.length cb, .string str] TO (0, 0)) := by rw [hW]; exact heap_alloc_new w _
  have HBX : Hid (∀ w', TF g W w' → w'.cell? ⟨w.heap.size, 0, none⟩ = some (.int .i64 1) ∧ w'.cell? ⟨w.heap.size, 1, none⟩ = some (.slice A s.length ca) ∧ w'.cell? ⟨w.heap.size, 2, none⟩ = some (.slice B a.length cb)) := Lib.hid fun w' h => by
    have h1 := h _ _ _ _ hX (by decide) (by decide) (fun e => by have := (Array.getElem?_eq_some_iff.1 hh.hg).1; omega)
    refine ⟨?_, ?_, ?_⟩ <;> simp [World.cell?, h1]
  have HW0 := Lib.hid (hh.on hWb)
  have HWB := Lib.hid hWb
  have HWE := Lib.hid hW
  obtain ⟨x0, x1, x2⟩ := HBX.out W (TF.of_below (Below.refl _ _))
  rw [hW] at x0 x1 x2
  clear hp hA hs ha ls la hh hWb hX hW
  go_enter Tryd.func11, Tryd.ntmps11
  go_wp2_with fail
  rw [← HWE.out]
  clear x0 x1 x2
  refine (array_any w0 W g sv av A B ca cb s a HW0.out.be HW0.out.hg HW0.out.gB HW0.out.fs HW0.out.fa HA.out.1 HA.out.2 HL.out.2.2.1 HL.out.2.2.2).mono ?_
  rintro e w1 ⟨k, c, k2, c2, rfl, hg1, hm1, hm2, ho1⟩
  have HB1 : Hid (Below w0.heap.size w0 w1) := Lib.hid (HW0.out.base ho1)
  have HT1 := Lib.hid (HW0.out.typed ho1)
  have HM1 := Lib.hid (And.intro hg1 (And.intro hm1 hm2))
  clear hg1 hm1 hm2 ho1
  go_wp2_with fail
  refine (text_any (some ⟨k, 0, none⟩) (some ⟨k2, 0, none⟩) c c2 s a w1 HM1.out.2.1.ints HM1.out.2.2.ints HL.out.1 HL.out.2.1 (by have := HL.out.2.2.1; omega) (by have := HL.out.2.2.2; omega) (HP.out.on HB1.out)).mono ?_
  rintro e w2 ⟨rfl, hb2⟩
  have HB2 := Lib.hid (HB1.out.then_ hb2)
  have HB12 := Lib.hid hb2
  obtain ⟨x0, x1, x2⟩ := HBX.out w2 (HT1.out.trans (TF.of_below hb2))
  clear hb2
  go_wp2_with fail
  refine (rtext_any A B ca cb s a w2 (HA.out.1.on HB2.out) (HA.out.2.on HB2.out) HL.out.1 HL.out.2.1 (by have := HL.out.2.2.1; omega) (HP.out.on HB2.out)).mono ?_
  rintro e w3 ⟨rfl, hb3⟩
  have HB3 := Lib.hid (HB2.out.then_ hb3)
  have HB13 := Lib.hid (HB12.out.then_ hb3)
  obtain ⟨y0, y1, y2⟩ := HBX.out w3 (HT1.out.trans (TF.of_below HB13.out))
  have HC := Lib.hid (kept_any w0 w3 g k c k2 c2 A B ca cb s a HB3.out ((HB13.out.block g (Array.getElem?_eq_some_iff.1 HM1.out.1).1).trans HM1.out.1) (HM1.out.2.1.on (HB13.out.block k HM1.out.2.1.lt)) (HM1.out.2.2.on (HB13.out.block k2 HM1.out.2.2.lt)) HA.out.1 HA.out.2 HL.out.2.2.1 HL.out.2.2.2)
  clear hb3 x0 x1 x2
  go_wp2_with fail
  refine HC.out.mono ?_
  rintro e w4 ⟨rfl, hg4, hf4, hf5, ho4⟩
  have H4 : Hid (HandOk w0 w4 g (.slice (some ⟨k, 0, none⟩) c c) (.slice (some ⟨k2, 0, none⟩) c2 c2) ∧ TF g w w4) := Lib.hid (by
    have hm1 := HM1.out.2.1.on (HB13.out.block k HM1.out.2.1.lt)
    have hm2 := HM1.out.2.2.on (HB13.out.block k2 HM1.out.2.2.lt)
    refine ⟨⟨HB3.out.trans (ho4.base HB3.out.size fun j hj => ?_), hg4, HH.out.gB, hf4, hf5⟩, ((TF.of_below HWB.out).trans (HT1.out.trans (TF.of_below HB13.out))).trans (ho4.typed fun j _ _ _ hj hc h2 h3 => ?_)⟩
    · rcases hj with rfl | rfl
      · exact hm1.base
      · exact hm2.base
    · rcases hj with rfl | rfl
      · exact absurd (row_is hm1.full rfl hc) h2
      · exact absurd (row_is hm2.full rfl hc) h3)
  clear hg4 hf4 hf5 ho4 y0 y1 y2
  go_wp2_with fail
  go_ret
  exact ⟨by first | rfl | simp, _, _, H4.out.1, H4.out.2⟩

set_option maxHeartbeats 8000000 in
set_option maxRecDepth 100000 in
theorem plays_flat (w0 w : World) (g : Nat) (sv av : Value) (A B : Option Addr) (ca cb : Nat) (s a : List Int) (str : ByteArray) (hp : Pow10 w0) (hh : HandOk w0 w g sv av) (hA : ArrAt w0 A B s a) (hs : All64 s) (ha : All64 a) (ls : s.length ≤ 1099511627776) (la : a.length ≤ 1099511627776) :
    Calls Tryd.prog 11 #[.pointer (some ⟨g, 0, none⟩), .agg #[.int .i64 2, .slice A s.length ca, .slice B a.length cb, .string str]] w (Played w0 w g) := by
  have HP := Lib.hid hp
  have HA := Lib.hid hA
  have HL := Lib.hid (And.intro hs (And.intro ha (And.intro ls la)))
  have HH := Lib.hid hh
  obtain ⟨W, hW⟩ : ∃ W, W = w.alloc (.cells #[.int .i64 2, .slice A s.length ca, .slice B a.length cb, .string str] TO) := ⟨_, rfl⟩
  have hWb : Below w.heap.size w W := by rw [hW]; exact (Below.refl _ _).alloc (Nat.le_refl _) _
  have hX : W.heap[w.heap.size]? = some (.cells #[.int .i64 2, .slice A s.length ca, .slice B a.length cb, .string str] TO (0, 0)) := by rw [hW]; exact heap_alloc_new w _
  have HBX : Hid (∀ w', TF g W w' → w'.cell? ⟨w.heap.size, 0, none⟩ = some (.int .i64 2) ∧ w'.cell? ⟨w.heap.size, 1, none⟩ = some (.slice A s.length ca) ∧ w'.cell? ⟨w.heap.size, 2, none⟩ = some (.slice B a.length cb)) := Lib.hid fun w' h => by
    have h1 := h _ _ _ _ hX (by decide) (by decide) (fun e => by have := (Array.getElem?_eq_some_iff.1 hh.hg).1; omega)
    refine ⟨?_, ?_, ?_⟩ <;> simp [World.cell?, h1]
  have HW0 := Lib.hid (hh.on hWb)
  have HWB := Lib.hid hWb
  have HWE := Lib.hid hW
  obtain ⟨x0, x1, x2⟩ := HBX.out W (TF.of_below (Below.refl _ _))
  rw [hW] at x0 x1 x2
  clear hp hA hs ha ls la hh hWb hX hW
  go_enter Tryd.func11, Tryd.ntmps11
  go_wp2_with fail
  rw [← HWE.out]
  clear x0 x1 x2
  refine (array_any w0 W g sv av A B ca cb s a HW0.out.be HW0.out.hg HW0.out.gB HW0.out.fs HW0.out.fa HA.out.1 HA.out.2 HL.out.2.2.1 HL.out.2.2.2).mono ?_
  rintro e w1 ⟨k, c, k2, c2, rfl, hg1, hm1, hm2, ho1⟩
  have HB1 : Hid (Below w0.heap.size w0 w1) := Lib.hid (HW0.out.base ho1)
  have HT1 := Lib.hid (HW0.out.typed ho1)
  have HM1 := Lib.hid (And.intro hg1 (And.intro hm1 hm2))
  clear hg1 hm1 hm2 ho1
  go_wp2_with fail
  refine (flat_any (some ⟨k, 0, none⟩) (some ⟨k2, 0, none⟩) c c2 s a w1 HM1.out.2.1.ints HM1.out.2.2.ints HL.out.1 HL.out.2.1 (by have := HL.out.2.2.1; omega) (HP.out.on HB1.out)).mono ?_
  rintro e w2 ⟨rfl, hb2⟩
  have HB2 := Lib.hid (HB1.out.then_ hb2)
  have HB12 := Lib.hid hb2
  obtain ⟨x0, x1, x2⟩ := HBX.out w2 (HT1.out.trans (TF.of_below hb2))
  clear hb2
  go_wp2_with fail
  refine (rflat_any A B ca cb s a w2 (HA.out.1.on HB2.out) (HA.out.2.on HB2.out) HL.out.1 HL.out.2.1 (by have := HL.out.2.2.1; omega) (HP.out.on HB2.out)).mono ?_
  rintro e w3 ⟨rfl, hb3⟩
  have HB3 := Lib.hid (HB2.out.then_ hb3)
  have HB13 := Lib.hid (HB12.out.then_ hb3)
  obtain ⟨y0, y1, y2⟩ := HBX.out w3 (HT1.out.trans (TF.of_below HB13.out))
  have HC := Lib.hid (kept_any w0 w3 g k c k2 c2 A B ca cb s a HB3.out ((HB13.out.block g (Array.getElem?_eq_some_iff.1 HM1.out.1).1).trans HM1.out.1) (HM1.out.2.1.on (HB13.out.block k HM1.out.2.1.lt)) (HM1.out.2.2.on (HB13.out.block k2 HM1.out.2.2.lt)) HA.out.1 HA.out.2 HL.out.2.2.1 HL.out.2.2.2)
  clear hb3 x0 x1 x2
  go_wp2_with fail
  refine HC.out.mono ?_
  rintro e w4 ⟨rfl, hg4, hf4, hf5, ho4⟩
  have H4 : Hid (HandOk w0 w4 g (.slice (some ⟨k, 0, none⟩) c c) (.slice (some ⟨k2, 0, none⟩) c2 c2) ∧ TF g w w4) := Lib.hid (by
    have hm1 := HM1.out.2.1.on (HB13.out.block k HM1.out.2.1.lt)
    have hm2 := HM1.out.2.2.on (HB13.out.block k2 HM1.out.2.2.lt)
    refine ⟨⟨HB3.out.trans (ho4.base HB3.out.size fun j hj => ?_), hg4, HH.out.gB, hf4, hf5⟩, ((TF.of_below HWB.out).trans (HT1.out.trans (TF.of_below HB13.out))).trans (ho4.typed fun j _ _ _ hj hc h2 h3 => ?_)⟩
    · rcases hj with rfl | rfl
      · exact hm1.base
      · exact hm2.base
    · rcases hj with rfl | rfl
      · exact absurd (row_is hm1.full rfl hc) h2
      · exact absurd (row_is hm2.full rfl hc) h3)
  clear hg4 hf4 hf5 ho4 y0 y1 y2
  go_wp2_with fail
  go_ret
  exact ⟨by first | rfl | simp, _, _, H4.out.1, H4.out.2⟩

set_option maxHeartbeats 8000000 in
set_option maxRecDepth 100000 in
theorem plays_read (w0 w : World) (g : Nat) (sv av : Value) (A B : Option Addr) (ca cb n m : Nat) (str : ByteArray) (hh : HandOk w0 w g sv av) :
    Calls Tryd.prog 11 #[.pointer (some ⟨g, 0, none⟩), .agg #[.int .i64 3, .slice A n ca, .slice B m cb, .string str]] w (Played w0 w g) := by
  have HH := Lib.hid hh
  obtain ⟨W, hW⟩ : ∃ W, W = w.alloc (.cells #[.int .i64 3, .slice A n ca, .slice B m cb, .string str] TO) := ⟨_, rfl⟩
  have hWb : Below w.heap.size w W := by rw [hW]; exact (Below.refl _ _).alloc (Nat.le_refl _) _
  have hX : W.heap[w.heap.size]? = some (.cells #[.int .i64 3, .slice A n ca, .slice B m cb, .string str] TO (0, 0)) := by rw [hW]; exact heap_alloc_new w _
  have HBX : Hid (∀ w', Below W.heap.size W w' → w'.cell? ⟨w.heap.size, 0, none⟩ = some (.int .i64 3) ∧ w'.cell? ⟨w.heap.size, 3, none⟩ = some (.string str)) := Lib.hid fun w' h => by
    have h1 := (h.block _ (Array.getElem?_eq_some_iff.1 hX).1).trans hX
    refine ⟨?_, ?_⟩ <;> simp [World.cell?, h1]
  have HWB := Lib.hid hWb
  have HWE := Lib.hid hW
  obtain ⟨x0, x1⟩ := HBX.out W (Below.refl _ _)
  rw [hW] at x0 x1
  clear hh hWb hX hW
  go_enter Tryd.func11, Tryd.ntmps11
  go_wp2_with fail
  rw [← HWE.out]
  clear x0 x1
  refine (sread_any str W).mono ?_
  rintro e w2 ⟨sv1, av1, place, err, sh, at_, rfl, hb2, hr, o1, o2, _, _, l1, l2⟩
  obtain ⟨A1, c1, rfl⟩ := row_form o1
  obtain ⟨B1, d1, rfl⟩ := row_form o2
  have HB2 := Lib.hid hb2
  have HA1 : Hid (ArrAt w2 A1 B1 sh at_) := Lib.hid ⟨row_ints o1, row_ints o2⟩
  have HR := Lib.hid hr
  have HL := Lib.hid (And.intro l1 l2)
  obtain ⟨w3, hw3⟩ : ∃ w3, w3 = w2.alloc (.cells #[.slice A1 sh.length c1, .slice B1 at_.length d1] 36) := ⟨_, rfl⟩
  have hb3 : Below w2.heap.size w2 w3 := by rw [hw3]; exact (Below.refl _ _).alloc (Nat.le_refl _) _
  have h3 : w3.heap[w2.heap.size]? = some (.cells #[.slice A1 sh.length c1, .slice B1 at_.length d1] 36 (0, 0)) := by rw [hw3]; exact heap_alloc_new w2 _
  have H3 := Lib.hid (And.intro hb3 (And.intro h3 hw3))
  obtain ⟨x0, x1⟩ := HBX.out w3 (hb2.then_ hb3)
  rw [hw3] at x0 x1
  clear hb2 o1 o2 hr l1 l2 hb3 h3 hw3
  go_wp2_with fail
  rw [← H3.out.2.2]
  clear x0 x1
  refine (rread_any str w3).mono ?_
  rintro e w4 ⟨sv2, av2, place2, err2, sh2, at2, rfl, hb4, hr2, o3, o4, _, _, l3, l4⟩
  rw [HR.out] at hr2
  simp only [Prod.mk.injEq] at hr2
  obtain ⟨rfl, rfl, rfl, rfl⟩ := hr2
  obtain ⟨A2, c2, rfl⟩ := row_form o3
  obtain ⟨B2, d2, rfl⟩ := row_form o4
  have HB4 := Lib.hid hb4
  have HA2 : Hid (ArrAt w4 A2 B2 sh at_) := Lib.hid ⟨row_ints o3, row_ints o4⟩
  obtain ⟨w5, hw5⟩ : ∃ w5, w5 = w4.alloc (.cells #[.slice A2 sh.length c2, .slice B2 at_.length d2] 36) := ⟨_, rfl⟩
  have hb5 : Below w4.heap.size w4 w5 := by rw [hw5]; exact (Below.refl _ _).alloc (Nat.le_refl _) _
  have h5 : w5.heap[w4.heap.size]? = some (.cells #[.slice A2 sh.length c2, .slice B2 at_.length d2] 36 (0, 0)) := by rw [hw5]; exact heap_alloc_new w4 _
  have h3' : w5.heap[w2.heap.size]? = some (.cells #[.slice A1 sh.length c1, .slice B1 at_.length d1] 36 (0, 0)) := ((hb4.then_ hb5).block _ (Array.getElem?_eq_some_iff.1 H3.out.2.1).1).trans H3.out.2.1
  have H5 := Lib.hid (And.intro hb5 hw5)
  obtain ⟨y0, y1⟩ := heap2 h5
  obtain ⟨z0, z1⟩ := heap2 h3'
  rw [hw5] at y0 y1 z0 z1
  have HC := Lib.hid (eq_any A1 B1 A2 B2 c1 d1 c2 d2 sh at_ sh at_ w5 ((HA1.out.on H3.out.1).on (hb4.then_ hb5)) (HA2.out.on hb5) (by have := HL.out.1; omega) (by have := HL.out.2; omega) (by have := HL.out.1; omega) (by have := HL.out.2; omega))
  clear hb4 o3 o4 l3 l4 hb5 h5 h3' hw5
  go_wp2_with fail
  rw [← H5.out.2]
  clear y0 y1 z0 z1
  refine HC.out.mono ?_
  rintro e w6 ⟨rfl, hb6⟩
  have HB6 : Hid (Below w.heap.size w w6) := Lib.hid ((((HWB.out.then_ HB2.out).then_ H3.out.1).then_ (HB4.out.then_ H5.out.1)).then_ hb6)
  clear hb6
  simp only [and_self, decide_true]
  go_wp2_with fail
  go_ret
  exact ⟨by first | rfl | simp, _, _, HH.out.on HB6.out, TF.of_below HB6.out⟩

set_option maxHeartbeats 4000000 in
set_option maxRecDepth 100000 in
theorem plays_none (w0 w : World) (g : Nat) (sv av : Value) (k : Int) (A B : Option Addr) (ca cb n m : Nat) (str : ByteArray) (hh : HandOk w0 w g sv av) (h1 : k ≠ 1) (h2 : k ≠ 2) (h3 : k ≠ 3) :
    Calls Tryd.prog 11 #[.pointer (some ⟨g, 0, none⟩), .agg #[.int .i64 k, .slice A n ca, .slice B m cb, .string str]] w (Played w0 w g) := by
  have HH := Lib.hid hh
  have e1 : (k == 1) = false := beq_eq_false_iff_ne.2 h1
  have e2 : (k == 2) = false := beq_eq_false_iff_ne.2 h2
  have e3 : (k == 3) = false := beq_eq_false_iff_ne.2 h3
  have HWB : Hid (Below w.heap.size w (w.alloc (.cells #[.int .i64 k, .slice A n ca, .slice B m cb, .string str] TO))) := Lib.hid ((Below.refl _ _).alloc (Nat.le_refl _) _)
  clear hh h1 h2 h3
  go_enter Tryd.func11, Tryd.ntmps11
  go_wp2_with fail
  go_ret
  exact ⟨rfl, _, _, HH.out.on HWB.out, TF.of_below HWB.out⟩
end Go.Proofs.YtpipcpjkfgdpcaaDoor

namespace Go.Proofs.YtpipcpjkfgdpcaaDoor
open Go.RowKit
attribute [local go_sem] Oper.semAt_some

/-- one call among a law's arguments -/
structure OpAt (w : World) (b p : Nat) (k : Int) (A B : Option Addr) (ca cb : Nat) (s a : List Int) (str : ByteArray) : Prop where
  c0 : w.cell? ⟨b, p, none⟩ = some (.int .i64 k)
  c1 : w.cell? ⟨b, p + 1, none⟩ = some (.slice A s.length ca)
  c2 : w.cell? ⟨b, p + 2, none⟩ = some (.slice B a.length cb)
  c3 : w.cell? ⟨b, p + 3, none⟩ = some (.string str)
  arr : ArrAt w A B s a
  hs : All64 s
  ha : All64 a
  ls : s.length ≤ 1099511627776000
  la : a.length ≤ 1099511627776000
  lt : str.size ≤ 1099511627776000
def OpsAt (w : World) (X : Option Addr) (n : Nat) : Prop := ∀ i, i < n → ∃ b off k A B ca cb s a str, X = some ⟨b, off, none⟩ ∧ b < w.heap.size ∧ OpAt w b (off + i * 4) k A B ca cb s a str

set_option maxHeartbeats 16000000 in
set_option maxRecDepth 100000 in
theorem showAll_any (X : Option Addr) (n cp : Nat) (w : World) (hp : Pow10 w) (ho : OpsAt w X n) (hn : n ≤ 1099511627776000) : Calls Tryd.prog 3 #[.slice X n cp] w fun e w' => e = .returned (.bool true) ∧ Below w.heap.size w w' := by
  have HP := Lib.hid hp
  have HO := Lib.hid ho
  clear hp ho
  go_enter Tryd.func3, Tryd.ntmps3
  go_wp2_with fail
  refine (begun_any w HP.out).mono ?_
  rintro e w1 ⟨rfl, hb1⟩
  have HB1 := Lib.hid hb1
  clear hb1
  go_upto_region 5 with fail
  obtain ⟨W, hW⟩ : ∃ W, W = (w1.alloc (.cells #[.slice none 0 0, .slice none 0 0] TH)).alloc (.cells #[.int .i64 0] TW) := ⟨_, rfl⟩
  rw [← hW]
  have hWb : Below w1.heap.size w1 W := by rw [hW]; exact ((Below.refl _ _).alloc (Nat.le_refl _) _).alloc (by simp) _
  have hg : W.heap[w1.heap.size]? = some (.cells #[.slice none 0 0, .slice none 0 0] TH (0, 0)) := by rw [hW]; exact (Below.heap_alloc _ _ _ (by simp)).trans (heap_alloc_new w1 _)
  have hgw : W.heap[w1.heap.size + 1]? = some (.cells #[.int .i64 (0 : Nat)] TW (0, 0)) := by
    rw [hW]
    have h := heap_alloc_new (w1.alloc (.cells #[.slice none 0 0, .slice none 0 0] TH)) (.cells #[.int .i64 0] TW)
    rw [World.size_alloc] at h
    exact h
  have HH : Hid (HandOk w W w1.heap.size (.slice none 0 0) (.slice none 0 0) ∧ W.heap[w1.heap.size + 1]? = some (.cells #[.int .i64 (0 : Nat)] TW (0, 0))) := Lib.hid ⟨⟨HB1.out.then_ hWb, hg, HB1.out.size, .inl rfl, .inl rfl⟩, hgw⟩
  clear hWb hg hgw hW
  go_wp2_with fail
  go_loopw [5] (fun v5 wr => ∃ (i m : Nat) (sv av : Value), i ≤ n ∧ v5 = .int .i64 i ∧ m ≤ 4194304 ∧ Hid (HandOk w wr w1.heap.size sv av ∧ wr.heap[w1.heap.size + 1]? = some (.cells #[.int .i64 m] TW (0, 0)))) (fun v5 _ => n - (intOf v5).toNat)
  case atStart => exact ⟨0, 0, _, _, Nat.zero_le _, rfl, Nat.zero_le _, HH⟩
  case round =>
    obtain ⟨i, m, sv, av, hi, rfl, hm, HI⟩ := hrel
    by_cases hlt : i < n
    · obtain ⟨b, off, k, A, B, ca, cb, s, a, str, rfl, hbl, hop⟩ := HO.out i hlt
      have HOP := Lib.hid hop
      have HX : Hid (∀ w', Below w.heap.size w w' → w'.cell? ⟨b, off + i * 4, none⟩ = some (.int .i64 k) ∧ w'.cell? ⟨b, off + i * 4 + 1, none⟩ = some (.slice A s.length ca) ∧ w'.cell? ⟨b, off + i * 4 + 2, none⟩ = some (.slice B a.length cb) ∧ w'.cell? ⟨b, off + i * 4 + 3, none⟩ = some (.string str)) := Lib.hid fun w' h =>
        ⟨(h.cell (p := ⟨b, _, none⟩) hbl).trans hop.c0, (h.cell (p := ⟨b, _, none⟩) hbl).trans hop.c1, (h.cell (p := ⟨b, _, none⟩) hbl).trans hop.c2, (h.cell (p := ⟨b, _, none⟩) hbl).trans hop.c3⟩
      obtain ⟨x0, x1, x2, x3⟩ := HX.out wr HI.out.1.be
      have hlti : (i : Int) < n := by omega
      have HC := Lib.hid (opSize_any k A B ca cb s.length a.length str wr hop.ls hop.la hop.lt)
      obtain ⟨sz, hsz⟩ : ∃ sz, sz = s.length + a.length + str.size := ⟨_, rfl⟩
      have HSZ := Lib.hid hsz
      have hszb : sz ≤ 1099511627776000000 := by have := hop.ls; have := hop.la; have := hop.lt; omega
      rw [← hsz] at HC
      clear hop hbl hsz
      go_wp2_with fail
      refine HC.out.mono ?_
      rintro e w2 ⟨rfl, hb2⟩
      have HH2 := Lib.hid (And.intro (HI.out.1.on hb2) ((hb2.block _ (Array.getElem?_eq_some_iff.1 HI.out.2).1).trans HI.out.2))
      clear hb2 x0 x1 x2 x3 HC
      go_wp2_with fail
      refine (over_any (w1.heap.size + 1) m sz w2 HH2.out.2 (by omega) hszb).mono ?_
      rintro e w3 ⟨rfl, hw3⟩
      have HH3 : Hid (HandOk w w3 w1.heap.size sv av ∧ w3.heap[w1.heap.size + 1]? = some (.cells #[.int .i64 ((m + 100 + sz : Nat) : Int)] TW (0, 0))) := Lib.hid (by
        have hne : w1.heap.size ≠ w1.heap.size + 1 := by omega
        have hh := HH2.out.1
        subst hw3
        refine ⟨⟨hh.be.setCell (by have := HB1.out.size; simp only; omega) _, (Below.heap_setCell _ _ _ _ hne).trans hh.hg, hh.gB, hh.fs.kept fun j hj => Below.heap_setCell _ _ _ _ (fun e => ?_), hh.fa.kept fun j hj => Below.heap_setCell _ _ _ _ (fun e => ?_)⟩, by simp [World.setCell, Array.getElem?_modify, HH2.out.2]⟩
        · exact absurd (row_is hh.fs (j := w1.heap.size + 1) (by rw [hj, e]) HH2.out.2) (by decide)
        · exact absurd (row_is hh.fa (j := w1.heap.size + 1) (by rw [hj, e]) HH2.out.2) (by decide))
      clear hw3
      by_cases hov : 4194304 < m + 100 + sz
      · rw [decide_eq_true hov]
        clear hov
        go_wp2_with fail
        go_ret
        exact ⟨rfl, HH3.out.1.be⟩
      · rw [decide_eq_false hov]
        have hm2 : m + 100 + sz ≤ 4194304 := by omega
        obtain ⟨x0, x1, x2, x3⟩ := HX.out w3 HH3.out.1.be
        have HPL : Hid (Calls Tryd.prog 11 #[.pointer (some ⟨w1.heap.size, 0, none⟩), .agg #[.int .i64 k, .slice A s.length ca, .slice B a.length cb, .string str]] w3 (Played w w3 w1.heap.size)) := Lib.hid (by
          have h1 := HOP.out
          have h2 := HSZ.out
          by_cases k1 : k = 1
          · subst k1; exact plays_text w w3 _ sv av A B ca cb s a str HP.out HH3.out.1 h1.arr h1.hs h1.ha (by omega) (by omega)
          · by_cases k2 : k = 2
            · subst k2; exact plays_flat w w3 _ sv av A B ca cb s a str HP.out HH3.out.1 h1.arr h1.hs h1.ha (by omega) (by omega)
            · by_cases k3 : k = 3
              · subst k3; exact plays_read w w3 _ sv av A B ca cb s.length a.length str HH3.out.1
              · exact plays_none w w3 _ sv av k A B ca cb s.length a.length str HH3.out.1 k1 k2 k3)
        clear hov
        go_wp2_with fail
        refine HPL.out.mono ?_
        rintro e w4 ⟨rfl, sv', av', hh4, ht4⟩
        have HH4 : Hid (HandOk w w4 w1.heap.size sv' av' ∧ w4.heap[w1.heap.size + 1]? = some (.cells #[.int .i64 ((m + 100 + sz : Nat) : Int)] TW (0, 0))) := Lib.hid ⟨hh4, ht4 _ _ _ _ HH3.out.2 (by decide) (by decide) (by omega)⟩
        clear hh4 ht4 x0 x1 x2 x3
        go_wp2_with fail
        exact ⟨⟨i + 1, m + 100 + sz, sv', av', by omega, by go_num, hm2, HH4⟩, by simp [intOf]; omega⟩
    · obtain rfl : i = n := by omega
      have hge : ¬ (i : Int) < i := by omega
      go_wp2_with fail
      go_ret
      exact ⟨rfl, HI.out.1.be⟩
end Go.Proofs.YtpipcpjkfgdpcaaDoor
