/- trait: all, listed, ranks: a verb's ranks. Condition: sizes within reach. -/
import Derived.Test.YtebiojmfieoncaaGreatTeT0
import Derived.Test.YtebiojmfieoncaaGreatTeMI
import Derived.Test.YtebiojmfieoncaaGreatTeWa
import Derived.StillTailTactics
namespace Go.Proofs.YtebiojmfieoncaaGreat
open Go.RowKit

/-- three ranks -/
structure R3 where
  a : Int
  b : Int
  c : Int
abbrev r3v (r : R3) : Value := .agg #[.int .i64 r.a, .int .i64 r.b, .int .i64 r.c]
abbrev r3c (r : R3) : Array Value := #[.int .i64 r.a, .int .i64 r.b, .int .i64 r.c]
def inf3 : R3 := ⟨64, 64, 64⟩
def rkE (s : List UInt8) : R3 := ⟨(entAt (opOf s - 1)).a, (entAt (opOf s - 1)).b, (entAt (opOf s - 1)).c⟩
/-- the ranks that a list of one, two or three tells -/
def listed3 : List Int → R3
  | [x] => ⟨x, x, x⟩
  | [x, y] => ⟨y, x, y⟩
  | x :: y :: z :: _ => ⟨x, y, z⟩
  | [] => inf3
def nthK (rs : List R3) (i : Nat) : R3 := rs.getD i inf3
def rkK (k : Int) (s : List UInt8) (l : List Int) (rs : List R3) : R3 :=
  if k = 20 then rkE s else if k = 28 then nthK rs 1 else if k = 30 ∨ k = 32 then ⟨(nthK rs 1).a, (nthK rs 1).a, (nthK rs 1).a⟩ else if k = 39 then ⟨(nthK rs 1).c, 64, 64⟩ else if k = 40 then ⟨(nthK rs 0).b, 64, 64⟩
  else if k = 42 then listed3 l else if k = 27 then ⟨64, (nthK rs 0).c, (nthK rs 0).b⟩ else if k = 36 then nthK rs 0 else if k = 37 then ⟨(nthK rs 0).a, (nthK rs 1).b, (nthK rs 1).c⟩ else inf3
mutual
/-- a verb's ranks -/
def rkT : Tm → R3
  | .mk k s _ _ l ks => rkK k s.data.toList l (rkTL ks)
def rkTL : List Tm → List R3
  | [] => []
  | t :: r => rkT t :: rkTL r
end
theorem rkTL_map : ∀ l : List Tm, rkTL l = l.map rkT
  | [] => rfl
  | t :: r => by simp only [rkTL, rkTL_map r, List.map_cons]
theorem rkT_eq (t : Tm) : rkT t = rkK t.kind t.text.data.toList t.at_ (t.kids.map rkT) := by cases t; simp only [rkT, rkTL_map]; rfl
theorem one_kid {t : Tm} {b : Bool} (h : goodT b t = true) {c : UInt8} (hp : patOf t.kind = [c]) (h14 : ¬ t.kind = 14) (h5 : ¬ t.kind = 5) (h43 : ¬ t.kind = 43) : ∃ x, t.kids = [x] ∧ fitsB x c = true := by
  rw [goodT_node, Bool.and_eq_true] at h
  have h1 := h.1
  unfold nodeB kidsB at h1
  rw [if_neg h14, if_neg h5, if_neg h43, hp] at h1
  simp only [Bool.and_eq_true] at h1
  obtain ⟨⟨_, h2⟩, _⟩ := h1
  cases hk : t.kids with
  | nil => rw [hk] at h2; simp [zipFits] at h2
  | cons x r =>
    cases r with
    | nil => rw [hk] at h2; simp only [zipFits, Bool.and_true] at h2; exact ⟨x, rfl, h2⟩
    | cons y q => rw [hk] at h2; simp [zipFits] at h2
theorem good_text {t : Tm} {b : Bool} (h : goodT b t = true) : textB t.kind t.text.data.toList = true := by
  rw [goodT_node, Bool.and_eq_true] at h
  have h1 := h.1
  unfold nodeB fieldsB at h1
  simp only [Bool.and_eq_true] at h1
  exact h1.1.1.2.1.1
theorem good_num {t : Tm} {b : Bool} (h : goodT b t = true) : numB t.kind t.sh t.at_ = true := by
  rw [goodT_node, Bool.and_eq_true] at h
  have h1 := h.1
  unfold nodeB fieldsB at h1
  simp only [Bool.and_eq_true] at h1
  exact h1.1.1.2.2
theorem op_le {s : List UInt8} (h : 0 < opOf s) : ∃ k, opOf s = k + 1 ∧ k < 43 := by
  unfold opOf at h ⊢
  have main : ∀ (l : List (List UInt8)) (k : Nat), opIn l k s = 0 ∨ (k ≤ opIn l k s ∧ opIn l k s < k + l.length) := by
    intro l
    induction l with
    | nil => intro k; exact .inl rfl
    | cons c r ih =>
      intro k
      unfold opIn
      split
      · exact .inr ⟨Nat.le_refl _, by simp⟩
      · rcases ih (k + 1) with h | h
        · exact .inl h
        · exact .inr ⟨by omega, by simp only [List.length_cons]; omega⟩
  have hl : spells.length = 43 := rfl
  rcases main spells 1 with h0 | h0
  · omega
  · exact ⟨opIn spells 1 s - 1, by omega, by omega⟩
theorem rank_list {t : Tm} (h : goodT false t = true) (hk : t.kind = 42) : (∃ x, t.at_ = [x]) ∨ (∃ x y, t.at_ = [x, y]) ∨ ∃ x y z, t.at_ = [x, y, z] := by
  have h1 := good_num h
  unfold numB at h1
  rw [if_neg (by omega), if_pos hk] at h1
  have h2 : 1 ≤ t.at_.length ∧ t.at_.length ≤ 3 := by
    unfold rankOk at h1
    split at h1
    · simp only [Bool.and_eq_true, decide_eq_true_eq] at h1
      omega
    · cases h1
  match hl : t.at_, h2 with
  | [], h2 => simp at h2
  | [x], _ => exact .inl ⟨x, rfl⟩
  | [x, y], _ => exact .inr (.inl ⟨x, y, rfl⟩)
  | [x, y, z], _ => exact .inr (.inr ⟨x, y, z, rfl⟩)
  | _ :: _ :: _ :: _ :: _, h2 => simp at h2
set_option maxRecDepth 100000 in
set_option maxHeartbeats 4000000 in
theorem tall_any (n : Int) (w : World) : Calls Tryz.prog 113 #[.int .i64 n] w fun e w' => e = .returned (r3v ⟨n, n, n⟩) ∧ Below w.heap.size w w' := by
  go_enter Tryz.func113, Tryz.ntmps113
  go_wp2_with fail
  exact bodyPost_ret (results_r3 (p := 2) rfl rfl (heap_alloc_new w _)) rfl ⟨rfl, (Below.refl _ _).alloc (Nat.le_refl _) _⟩
set_option maxRecDepth 100000 in
set_option maxHeartbeats 4000000 in
theorem listed_any (l : List Int) (B : Option Addr) (cb : Nat) (w : World) (hB : IntsAt w B l) (hl : (∃ x, l = [x]) ∨ (∃ x y, l = [x, y]) ∨ ∃ x y z, l = [x, y, z]) :
    Calls Tryz.prog 70 #[.slice B l.length cb] w fun e w' => e = .returned (r3v (listed3 l)) ∧ Below w.heap.size w w' := by
  obtain ⟨W1, hW1⟩ : ∃ W1, W1 = w.alloc (.cells #[.int .i64 0, .int .i64 0, .int .i64 0] TR3) := ⟨_, rfl⟩
  have hz1 : W1.heap[w.heap.size]? = some (.cells #[.int .i64 0, .int .i64 0, .int .i64 0] TR3 (0, 0)) := by rw [hW1]; exact heap_alloc_new w _
  have hb1 : Below w.heap.size w W1 := by rw [hW1]; exact (Below.refl _ _).alloc (Nat.le_refl _) _
  have HW1 := Lib.hid hW1
  have H1 := Lib.hid (And.intro hz1 hb1)
  have hB1 := hB.on hb1
  have z0 := cell_at hz1 (j := 0) rfl
  have z1 := cell_at hz1 (j := 1) rfl
  have z2 := cell_at hz1 (j := 2) rfl
  have fz := unfrozen hz1
  clear hW1 hz1 hb1 hB
  rcases hl with ⟨x, rfl⟩ | ⟨x, y, rfl⟩ | ⟨x, y, z, rfl⟩
  · obtain ⟨b, o, rfl, hl0, c0⟩ := hB1 0 x rfl
    rw [Nat.add_zero] at c0
    clear hB1
    go_enter Tryz.func70, Tryz.ntmps70
    go_upto_region 1 with fail
    rw [← HW1.out]
    go_wp2_with fail
    refine (tall_any x W1).mono ?_
    rintro e w2 ⟨rfl, hb2⟩
    clear z0 z1 z2 fz
    have hz := (hb2.block _ (heap_lt H1.out.1)).trans H1.out.1
    have z0 := cell_at hz (j := 0) rfl
    have z1 := cell_at hz (j := 1) rfl
    have z2 := cell_at hz (j := 2) rfl
    have fz := unfrozen hz
    have HZ := Lib.hid (And.intro hz (H1.out.2.then_ hb2))
    clear hz hb2
    go_wp2_with fail
    obtain ⟨e1, e2⟩ := three (.int .i64 x) (.int .i64 x) (.int .i64 x) HZ.out.1 HZ.out.2 (Nat.le_refl _)
    exact bodyPost_ret (results_r3 (p := 2) rfl rfl e1) rfl ⟨rfl, e2⟩
  · obtain ⟨b, o, rfl, hl0, c0⟩ := hB1 0 x rfl
    obtain ⟨b', o', e, _, c1⟩ := hB1 1 y rfl
    simp only [Option.some.injEq, Addr.mk.injEq, and_true] at e
    obtain ⟨rfl, rfl⟩ := e
    rw [Nat.add_zero] at c0
    clear hB1
    go_enter Tryz.func70, Tryz.ntmps70
    go_upto_region 1 with fail
    rw [← HW1.out]
    go_wp2_with fail
    go_still_tail 10, (by kernel_rfl)
    change wpList _ _ _ _ _ W1.drew
    go_wp2_with fail
    obtain ⟨e1, e2⟩ := three (.int .i64 y) (.int .i64 x) (.int .i64 y) H1.out.1 H1.out.2 (Nat.le_refl _)
    exact bodyPost_ret (results_r3 (p := 2) rfl rfl e1) rfl ⟨rfl, e2.drew⟩
  · obtain ⟨b, o, rfl, hl0, c0⟩ := hB1 0 x rfl
    obtain ⟨b', o', e, _, c1⟩ := hB1 1 y rfl
    simp only [Option.some.injEq, Addr.mk.injEq, and_true] at e
    obtain ⟨rfl, rfl⟩ := e
    obtain ⟨b', o', e, _, c2⟩ := hB1 2 z rfl
    simp only [Option.some.injEq, Addr.mk.injEq, and_true] at e
    obtain ⟨rfl, rfl⟩ := e
    rw [Nat.add_zero] at c0
    clear hB1
    go_enter Tryz.func70, Tryz.ntmps70
    go_upto_region 1 with fail
    rw [← HW1.out]
    go_wp2_with fail
    go_still_tail 10, (by kernel_rfl)
    change wpList _ _ _ _ _ W1.drew
    go_wp2_with fail
    obtain ⟨e1, e2⟩ := three (.int .i64 x) (.int .i64 y) (.int .i64 z) H1.out.1 H1.out.2 (Nat.le_refl _)
    exact bodyPost_ret (results_r3 (p := 2) rfl rfl e1) rfl ⟨rfl, e2.drew⟩
end Go.Proofs.YtebiojmfieoncaaGreat
