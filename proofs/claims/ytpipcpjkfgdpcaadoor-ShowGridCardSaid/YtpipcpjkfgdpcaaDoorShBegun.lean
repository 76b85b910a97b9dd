/- abacuslaw10.begun. Condition: strconv's table of powers is as laid. -/
import Derived.Test.YtpipcpjkfgdpcaaDoorShTxtAll
import Derived.Test.YtpipcpjkfgdpcaaDoorShSpec
import Derived.Test.YtpipcpjkfgdpcaaDoorShEq
namespace Go.Proofs.YtpipcpjkfgdpcaaDoor
open Go.RowKit
attribute [local go_sem] Oper.semAt_some

/-- Read, where the plain answer is an array -/
theorem read_ok_any (s : ByteArray) (sh at_ : List Int) (w : World) (h : readSpec (lst s) = (sh, at_, 0, 0)) :
    Calls Tryd.prog 15 #[.string s] w fun e w' => ∃ (A B : Option Addr) (ca cb : Nat), e = .returned (.tuple #[.agg #[.slice A sh.length ca, .slice B at_.length cb], .int .i64 0, .int .i64 0]) ∧ Below w.heap.size w w' ∧
      OwnsI w' w.heap.size (.slice A sh.length ca) sh ∧ OwnsInts w' w.heap.size (.slice B at_.length cb) at_ ∧ All64 sh ∧ All64 at_ ∧ flat sh at_ = lst s ∧ arMay sh at_ = 0 := by
  refine (read_any s w).mono ?_
  rintro e w' ⟨sv, av, place, err, rfl, hb, ⟨rfl, rfl, sh', at', h1, h2, h3, h4, h5, h6, _, hr⟩ | ⟨he, _, _, _, _, hr⟩⟩
  · rw [h] at hr
    injection hr with e1 e2
    injection e2 with e2 _
    subst e1 e2
    obtain ⟨A, ca, rfl⟩ := row_form h1
    obtain ⟨B, cb, rfl⟩ := row_form h2
    exact ⟨A, B, ca, cb, rfl, hb, h1, h2, h3, h4, h5, h6⟩
  · rw [h] at hr
    injection hr with _ e2
    injection e2 with _ e3
    injection e3 with _ e4
    exact absurd e4.symm he
/-- Read, where the plain answer is an error -/
theorem read_err_any (s : ByteArray) (place err : Int) (w : World) (h : readSpec (lst s) = ([], [], place, err)) (he : err ≠ 0) :
    Calls Tryd.prog 15 #[.string s] w fun e w' => e = .returned (.tuple #[.agg #[.slice none 0 0, .slice none 0 0], .int .i64 place, .int .i64 err]) ∧ Below w.heap.size w w' ∧ 0 ≤ place ∧ place ≤ s.size := by
  refine (read_any s w).mono ?_
  rintro e w' ⟨sv, av, place', err', rfl, hb, ⟨rfl, rfl, sh', at', _, _, _, _, _, _, _, hr⟩ | ⟨_, h0, h1, rfl, rfl, hr⟩⟩
  · rw [h] at hr
    injection hr with _ e2
    injection e2 with _ e3
    injection e3 with _ e4
    exact absurd e4 he
  · rw [h] at hr
    injection hr with _ e2
    injection e2 with _ e3
    injection e3 with e4 e5
    subst e4 e5
    exact ⟨rfl, hb, h0, h1⟩

abbrev bS : List Int := [2, 2]
abbrev bA : List Int := [1, -10, 100, 2]
abbrev bText : List UInt8 := [32, 32, 49, 32, 95, 49, 48, 10, 49, 48, 48, 32, 32, 32, 50]
abbrev bFlat : List UInt8 := [50, 32, 50, 32, 36, 32, 49, 32, 95, 49, 48, 32, 49, 48, 48, 32, 50]
theorem b_may : arMay bS bA = 0 := by decide +kernel
theorem b_text : textOf bS bA = bText := by decide +kernel
theorem b_flat : flat bS bA = bFlat := by decide +kernel
theorem b_err : textErr bS bA = 0 := by decide +kernel
theorem b_64 : All64 bS ∧ All64 bA := by
  constructor <;> (intro x hx; simp at hx; rcases hx with rfl | rfl | rfl | rfl <;> constructor <;> decide)
theorem b_read : readSpec bFlat = (bS, bA, 0, 0) := by rw [← b_flat]; exact read_flat b_may b_64.1 b_64.2
theorem b_bad : readSpec [49, 32, 32, 50] = ([], [], 2, 37) := by decide +kernel

theorem ints_block {w : World} {g : Nat} {t : TypeId} {fr : Nat × Nat} {l : List Int} (h : w.heap[g]? = some (.cells (l.map fun x => Value.int .i64 x).toArray t fr)) : IntsAt w (some ⟨g, 0, none⟩) l := fun i x hx =>
  ⟨g, 0, rfl, (Array.getElem?_eq_some_iff.1 h).1, by simp [World.cell?, h, hx]⟩
abbrev bW (w : World) : World := ((w.alloc (.cells #[.int .i64 2, .int .i64 2] 3)).alloc (.cells #[.int .i64 1, .int .i64 (-10), .int .i64 100, .int .i64 2] 2)).alloc
      (.cells #[.slice (some ⟨w.heap.size, 0, none⟩) 2 2, .slice (some ⟨w.heap.size + 1, 0, none⟩) 4 4] 36)
theorem begun_world (w : World) : ArrAt (bW w) (some ⟨w.heap.size, 0, none⟩) (some ⟨w.heap.size + 1, 0, none⟩) bS bA ∧
    (bW w).heap[w.heap.size + 1 + 1]? = some (.cells #[.slice (some ⟨w.heap.size, 0, none⟩) 2 2, .slice (some ⟨w.heap.size + 1, 0, none⟩) 4 4] 36 (0, 0)) ∧ Below w.heap.size w (bW w) ∧ (bW w).heap.size = w.heap.size + 1 + 1 + 1 := by
  have s1 : (w.alloc (.cells #[.int .i64 2, .int .i64 2] 3)).heap.size = w.heap.size + 1 := World.size_alloc _ _
  have s2 : ((w.alloc (.cells #[.int .i64 2, .int .i64 2] 3)).alloc (.cells #[.int .i64 1, .int .i64 (-10), .int .i64 100, .int .i64 2] 2)).heap.size = w.heap.size + 1 + 1 := by rw [World.size_alloc, s1]
  refine ⟨⟨ints_block (t := 3) (fr := (0, 0)) ?_, ints_block (t := 2) (fr := (0, 0)) ?_⟩, ?_, ?_, by rw [World.size_alloc, s2]⟩
  · exact (Below.heap_alloc _ _ _ (by rw [s2]; omega)).trans ((Below.heap_alloc _ _ _ (by rw [s1]; omega)).trans (heap_alloc_new w _))
  · refine (Below.heap_alloc _ _ _ (by rw [s2]; omega)).trans ?_
    have := heap_alloc_new (w.alloc (.cells #[.int .i64 2, .int .i64 2] 3)) (.cells #[.int .i64 1, .int .i64 (-10), .int .i64 100, .int .i64 2] 2)
    rwa [s1] at this
  · have := heap_alloc_new ((w.alloc (.cells #[.int .i64 2, .int .i64 2] 3)).alloc (.cells #[.int .i64 1, .int .i64 (-10), .int .i64 100, .int .i64 2] 2)) (.cells #[.slice (some ⟨w.heap.size, 0, none⟩) 2 2, .slice (some ⟨w.heap.size + 1, 0, none⟩) 4 4] 36)
    rwa [s2] at this
  · exact (((Below.refl _ w).alloc (Nat.le_refl _) _).alloc (by rw [s1]; omega) _).alloc (by rw [s2]; omega) _

set_option maxHeartbeats 16000000 in
set_option maxRecDepth 100000 in
theorem begun_any (w : World) (hp : Pow10 w) : Calls Tryd.prog 8 #[] w fun e w' => e = .returned (.bool true) ∧ Below w.heap.size w w' := by
  have HP := Lib.hid hp
  clear hp
  obtain ⟨hA1, hbox, hB1, hs1⟩ := begun_world w
  have HW : Hid (∀ w', Below (bW w).heap.size (bW w) w' → ArrAt w' (some ⟨w.heap.size, 0, none⟩) (some ⟨w.heap.size + 1, 0, none⟩) bS bA ∧
    w'.heap[w.heap.size + 1 + 1]? = some (.cells #[.slice (some ⟨w.heap.size, 0, none⟩) 2 2, .slice (some ⟨w.heap.size + 1, 0, none⟩) 4 4] 36 (0, 0)) ∧ Below w.heap.size w w' ∧ Pow10 w') := Lib.hid fun w' h =>
    ⟨hA1.on h, (h.block _ (by rw [hs1]; omega)).trans hbox, hB1.then_ h, HP.out.on (hB1.then_ h)⟩
  clear hA1 hbox hB1 hs1
  go_enter Tryd.func8, Tryd.ntmps8
  go_wp2_with fail
  obtain ⟨hA, _, _, hP⟩ := HW.out _ (Below.refl _ _)
  have hcall := text_any (some ⟨w.heap.size, 0, none⟩) (some ⟨w.heap.size + 1, 0, none⟩) 2 4 bS bA (bW w) hA.1 hA.2 b_64.1 b_64.2 (by decide) (by decide) hP
  rw [b_text, b_err] at hcall
  refine hcall.mono ?_
  clear hcall hA hP
  rintro e w2 ⟨rfl, hb2⟩
  obtain ⟨hA, hX, _, hP⟩ := HW.out _ hb2
  obtain ⟨x0, x1⟩ := heap2 hX
  have HB2 := Lib.hid hb2
  have hcall := flat_may (some ⟨w.heap.size, 0, none⟩) (some ⟨w.heap.size + 1, 0, none⟩) 2 4 bS bA w2 hA.1 hA.2 b_64.1 b_64.2 (by decide) (by decide) hP b_may
  rw [b_flat] at hcall
  have HC := Lib.hid hcall
  clear hcall hA hP hb2 hX
  go_wp2_with fail
  refine HC.out.mono ?_
  rintro e w3 ⟨rfl, hb3⟩
  have HB3 := Lib.hid (HB2.out.then_ hb3)
  clear hb3 x0 x1 HC HB2
  go_wp2_with fail
  refine (read_ok_any ⟨bFlat.toArray⟩ bS bA w3 b_read).mono ?_
  rintro e w4 ⟨A, B, ca, cb, rfl, hb4, o1, o2, _, _, _, _⟩
  have hA4 : ArrAt w4 A B bS bA := ⟨row_ints o1, row_ints o2⟩
  have HA4 := Lib.hid hA4
  have HB4 := Lib.hid (HB3.out.then_ hb4)
  clear hb4 o1 o2 hA4
  have hb5 : Below w4.heap.size w4 (w4.alloc (.cells #[.slice A 2 ca, .slice B 4 cb] 36)) := (Below.refl _ _).alloc (Nat.le_refl _) _
  have h5 := heap_alloc_new w4 (.cells #[.slice A 2 ca, .slice B 4 cb] 36)
  have HB5 := Lib.hid (And.intro hb5 h5)
  clear hb5 h5
  go_wp2_with fail
  refine (read_err_any ⟨#[49, 32, 32, 50]⟩ 2 37 _ b_bad (by decide)).mono ?_
  rintro e w6 ⟨rfl, hb6, _, _⟩
  have hb7 : Below w6.heap.size w6 (w6.alloc (.cells #[.slice none 0 0, .slice none 0 0] 36)) := (Below.refl _ _).alloc (Nat.le_refl _) _
  have hb46 := HB5.out.1.then_ hb6
  have hb47 := hb46.then_ hb7
  obtain ⟨hA7, hX7, hB7, hP7⟩ := HW.out _ (HB4.out.then_ hb47)
  obtain ⟨x0, x1⟩ := heap2 hX7
  have hY : (w6.alloc (.cells #[.slice none 0 0, .slice none 0 0] 36)).heap[w4.heap.size]? = some (.cells #[.slice A 2 ca, .slice B 4 cb] 36 (0, 0)) := by
    have h1 := (hb6.block _ (Array.getElem?_eq_some_iff.1 HB5.out.2).1).trans HB5.out.2
    exact (hb7.block _ (Array.getElem?_eq_some_iff.1 h1).1).trans h1
  obtain ⟨y0, y1⟩ := heap2 hY
  have hcall := eq_any A B (some ⟨w.heap.size, 0, none⟩) (some ⟨w.heap.size + 1, 0, none⟩) ca cb 2 4 bS bA bS bA (w6.alloc (.cells #[.slice none 0 0, .slice none 0 0] 36)) (HA4.out.on hb47) hA7 (by decide) (by decide) (by decide) (by decide)
  have HC := Lib.hid hcall
  have HB7 := Lib.hid hB7
  clear hb6 hb7 hb46 hb47 hA7 hX7 hB7 hP7 hY hcall
  go_wp2_with fail
  refine HC.out.mono ?_
  rintro e w8 ⟨rfl, hb8⟩
  have HB8 := Lib.hid (HB7.out.then_ hb8)
  clear hb8 HC x0 x1 y0 y1
  go_wp2_with fail
  go_ret
  exact ⟨rfl, HB8.out⟩
end Go.Proofs.YtpipcpjkfgdpcaaDoor
