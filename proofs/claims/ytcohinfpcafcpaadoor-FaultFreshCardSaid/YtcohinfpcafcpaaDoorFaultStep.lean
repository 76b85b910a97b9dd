/- The helper more of the laws of package fault: one step on an error and on what is known of it. Condition: sizes that fit. -/
import Derived.Test.YtcohinfpcafcpaaDoorFaultMore
import Derived.Maps.AppendAt
import Derived.Deep.AppendLies
namespace Go.Proofs.YtcohinfpcafcpaaDoor
open Go.RowKit Go.Extern.Stop Go.Stop Go.Extern Go.Sort

/-- what a step makes of an error -/
def StepRel (k : Int) (s : ByteArray) (o o' : Option Err) : Prop :=
  match o with
  | none => o' = none
  | some e => (k = 1 ∧ ∃ b, o' = some (.within b e s)) ∨ (k = 2 ∧ ∃ b, o' = some (.outer b e)) ∨ (k ≠ 1 ∧ k ≠ 2 ∧ o' = some e)
/-- what more leaves: nothing that was there is turned, but the row of the book's names -/
def MorePost (k : Int) (s : ByteArray) (o : Option Err) (bk : Bk) (nv : Value) (B : Nat) (w : World) (e : Ending) (w' : World) : Prop :=
  ∃ o' bk' nv', e = .returned (.tuple #[oval o', bk'.val nv']) ∧ StAt B w' o' bk' nv' ∧ w.grownBy w' nv.ownBlock ∧ StepRel k s o o' ∧ (o = none → bk' = bk) ∧ (nv'.ownBlock = nv.ownBlock ∨ ∃ k, nv'.ownBlock = some k ∧ w.heap.size ≤ k)

theorem grownBy_row_alloc {a w : World} {row : Option Nat} (h : a.grownBy w row) (o : Obj) : a.grownBy (w.alloc o) row :=
  ⟨h.os, h.tape, h.output, Nat.le_trans h.size (by simp), fun i hi hne => (Below.heap_alloc w o i (Nat.lt_of_lt_of_le hi h.size)).trans (h.block i hi hne)⟩
theorem OwnsTexts.keptBelow {w w' : World} {B : Nat} {nv : Value} {l : List (List UInt8)} (h : OwnsTexts w B nv l) (hb : Below w.heap.size w w') : OwnsTexts w' B nv l :=
  World.ownsRow.kept h (grown_of_below hb none) (by cases nv.ownBlock <;> simp)
theorem StAt.keptBelow {w w' : World} {B : Nat} {o : Option Err} {bk : Bk} {nv : Value} (h : StAt B w o bk nv) (hb : Below w.heap.size w w') : StAt B w' o bk nv :=
  ⟨fun e he => ⟨(h.some_ e he).1.on hb, (h.some_ e he).2⟩, h.none_, h.names.keptBelow hb⟩

theorem heap_alloc_new2 (w : World) (o : Obj) {g : Nat} (hg : g = w.heap.size) : (w.alloc o).drew.heap[g]? = some o := by subst hg; exact heap_alloc_new w o
theorem below3 (w : World) (a b c : Obj) : Below w.heap.size w (((w.alloc a).alloc b).alloc c).drew := ((((Below.refl _ _).alloc (Nat.le_refl _) a).alloc (by simp) b).alloc (by simp; omega) c).drew
theorem heap4_c (w : World) (a b c d : Obj) : ((((w.alloc a).alloc b).alloc c).alloc d).drew.heap[w.heap.size + 1 + 1]? = some c := (Below.heap_alloc _ d _ (by simp)).trans (heap_alloc_new2 _ _ (by simp))
theorem below4 (w : World) (a b c d : Obj) : Below w.heap.size w ((((w.alloc a).alloc b).alloc c).alloc d).drew := (((((Below.refl _ _).alloc (Nat.le_refl _) a).alloc (by simp) b).alloc (by simp; omega) c).alloc (by simp; omega) d).drew
theorem heap5 (w : World) (a b c d e : Obj) : (((((w.alloc a).alloc b).alloc c).alloc d).alloc e).heap[w.heap.size]? = some a ∧ (((((w.alloc a).alloc b).alloc c).alloc d).alloc e).heap[w.heap.size + 1]? = some b ∧
    (((((w.alloc a).alloc b).alloc c).alloc d).alloc e).heap[w.heap.size + 2]? = some c ∧ (((((w.alloc a).alloc b).alloc c).alloc d).alloc e).heap[w.heap.size + 3]? = some d ∧ (((((w.alloc a).alloc b).alloc c).alloc d).alloc e).heap.size = w.heap.size + 5 := by
  have h : ∀ (W : World) (o : Obj), (W.alloc o).heap = W.heap.push o := fun _ _ => rfl
  refine ⟨?_, ?_, ?_, ?_, by simp⟩ <;> simp only [h, Array.getElem?_push, Array.size_push] <;> repeat (first | rw [if_pos trivial] | rw [if_pos (by omega)] | rw [if_neg (by omega)])
theorem heap5_old (w : World) (a b c d e : Obj) (i : Nat) (hi : i < w.heap.size) : (((((w.alloc a).alloc b).alloc c).alloc d).alloc e).heap[i]? = w.heap[i]? := by
  have h : ∀ (W : World) (o : Obj), (W.alloc o).heap = W.heap.push o := fun _ _ => rfl
  simp only [h, Array.getElem?_push, Array.size_push]
  repeat rw [if_neg (by omega)]
theorem chain7_other (w2 : World) (p q : Nat) (u3 u4 c0 c1 c2 c3 c4 : Value) (k : Nat) (hp : k ≠ p) (hq : k ≠ q) :
    ((((((((w2.setCell ⟨p, 3, none⟩ u3).setCell ⟨p, 4, none⟩ u4).setCell ⟨q, 0, none⟩ c0).setCell ⟨q, 1, none⟩ c1).setCell ⟨q, 2, none⟩ c2).setCell ⟨q, 3, none⟩ c3).setCell ⟨q, 4, none⟩ c4).drew).heap[k]? = w2.heap[k]? := by
  have hd : ∀ W : World, W.drew.heap = W.heap := fun _ => rfl
  rw [hd, Below.heap_setCell _ _ _ _ hq, Below.heap_setCell _ _ _ _ hq, Below.heap_setCell _ _ _ _ hq, Below.heap_setCell _ _ _ _ hq, Below.heap_setCell _ _ _ _ hq, Below.heap_setCell _ _ _ _ hp, Below.heap_setCell _ _ _ _ hp]
theorem chain7_size (w2 : World) (p q : Nat) (u3 u4 c0 c1 c2 c3 c4 : Value) :
    Below 0 w2 ((((((((w2.setCell ⟨p, 3, none⟩ u3).setCell ⟨p, 4, none⟩ u4).setCell ⟨q, 0, none⟩ c0).setCell ⟨q, 1, none⟩ c1).setCell ⟨q, 2, none⟩ c2).setCell ⟨q, 3, none⟩ c3).setCell ⟨q, 4, none⟩ c4).drew) :=
  ((((((((Below.refl 0 w2).setCell (Nat.zero_le _) u3).setCell (Nat.zero_le _) u4).setCell (Nat.zero_le _) c0).setCell (Nat.zero_le _) c1).setCell (Nat.zero_le _) c2).setCell (Nat.zero_le _) c3).setCell (Nat.zero_le _) c4).drew
theorem chain7_at (w2 : World) (p q : Nat) (hne : p ≠ q) (u3 u4 c0 c1 c2 c3 c4 : Value) (hq : w2.heap[q]? = some book0) :
    ((((((((w2.setCell ⟨p, 3, none⟩ u3).setCell ⟨p, 4, none⟩ u4).setCell ⟨q, 0, none⟩ c0).setCell ⟨q, 1, none⟩ c1).setCell ⟨q, 2, none⟩ c2).setCell ⟨q, 3, none⟩ c3).setCell ⟨q, 4, none⟩ c4).drew).heap[q]? = some (.cells #[c0, c1, c2, c3, c4] 32 (0, 0)) := by
  have hd : ∀ W : World, W.drew.heap = W.heap := fun _ => rfl
  rw [hd]
  simp [World.setCell, Array.getElem?_modify, hne, hq]
theorem cell_one_at (w : World) (x : Value) (t : TypeId) {N : Nat} (hN : N = w.heap.size) : ∀ j u, [x][j]? = some u → (w.alloc (.cells #[x] t)).cell? ((⟨N, 0, none⟩ : Addr).add j) = some u := by subst hN; exact cell_one_new w x t
set_option maxRecDepth 100000 in
set_option maxHeartbeats 1000000 in
theorem more_nil (k : Int) (s : ByteArray) (c a : Int) (names : List (List UInt8)) (text : List UInt8) (A : Option Addr) (n cp : Nat) (B : Nat) (w : World) (hS : StAt B w none ⟨false, c, a, names, text⟩ (.slice A n cp)) :
    Calls Tryd.prog 13 #[.nilIface, .agg #[.bool false, .int .i64 c, .int .i64 a, .slice A n cp, .string ⟨text.toArray⟩], .agg #[.int .i64 k, .string s]] w (MorePost k s none ⟨false, c, a, names, text⟩ (.slice A n cp) B w) := by
  have HS := Lib.hid hS
  clear hS
  by_cases hk1 : k = 1
  · subst hk1
    go_enter Tryd.func13, Tryd.ntmps13
    go_wp2_with fail
    refine (in_nil s _).mono ?_
    rintro r w1 ⟨rfl, rfl⟩
    go_wp2_with fail
    go_region
    go_wp2_with fail
    refine bodyPost_ret (results_book rfl rfl (heap_alloc_new2 _ _ (by simp))) rfl ?_
    exact ⟨none, _, _, rfl, HS.out.keptBelow (below3 w _ _ _), grown_of_below (below3 w _ _ _) _, rfl, fun _ => rfl, .inl rfl⟩
  · have hkb : (k == 1) = false := by simpa using hk1
    by_cases hk2 : k = 2
    · subst hk2
      go_enter Tryd.func13, Tryd.ntmps13
      go_wp2_with fail
      go_region
      go_wp2_with fail
      refine bodyPost_ret (results_book rfl rfl (heap_alloc_new2 _ _ (by simp))) rfl ?_
      exact ⟨none, _, _, rfl, HS.out.keptBelow (below3 w _ _ _), grown_of_below (below3 w _ _ _) _, rfl, fun _ => rfl, .inl rfl⟩
    · have hkc : (k == 2) = false := by simpa using hk2
      have H := Lib.hid (And.intro hk1 hk2)
      clear hk1 hk2
      go_enter Tryd.func13, Tryd.ntmps13
      go_wp2_with fail
      go_region
      go_wp2_with fail
      refine bodyPost_ret (results_book rfl rfl (heap_alloc_new2 _ _ (by simp))) rfl ?_
      exact ⟨none, _, _, rfl, HS.out.keptBelow (below3 w _ _ _), grown_of_below (below3 w _ _ _) _, rfl, fun _ => rfl, .inl rfl⟩

set_option maxRecDepth 100000 in
set_option maxHeartbeats 1000000 in
theorem more_else (k : Int) (s : ByteArray) (e : Err) (A : Option Addr) (n cp : Nat) (B : Nat) (w : World) (hS : StAt B w (some e) e.book (.slice A n cp)) (hk1 : k ≠ 1) (hk2 : k ≠ 2) :
    Calls Tryd.prog 13 #[.iface e.ty e.dat, .agg #[.bool true, .int .i64 e.code, .int .i64 e.place, .slice A n cp, .string ⟨e.text.toArray⟩], .agg #[.int .i64 k, .string s]] w (MorePost k s (some e) e.book (.slice A n cp) B w) := by
  have HS := Lib.hid hS
  have hkb : (k == 1) = false := by simpa using hk1
  have hkc : (k == 2) = false := by simpa using hk2
  have H := Lib.hid (And.intro hk1 hk2)
  clear hk1 hk2 hS
  go_enter Tryd.func13, Tryd.ntmps13
  go_wp2_with fail
  go_region
  go_wp2_with fail
  refine bodyPost_ret (results_book rfl rfl (heap_alloc_new2 _ _ (by simp))) rfl ?_
  exact ⟨some e, e.book, .slice A n cp, rfl, HS.out.keptBelow (below3 w _ _ _), grown_of_below (below3 w _ _ _) _, .inr (.inr ⟨H.out.1, H.out.2, rfl⟩), fun h => (by cases h), .inl rfl⟩

set_option maxRecDepth 100000 in
set_option maxHeartbeats 1000000 in
theorem more_outer (s : ByteArray) (e : Err) (A : Option Addr) (n cp : Nat) (B : Nat) (w : World) (hS : StAt B w (some e) e.book (.slice A n cp)) (hl : 9 + e.text.length ≤ 9223372036854775807) :
    Calls Tryd.prog 13 #[.iface e.ty e.dat, .agg #[.bool true, .int .i64 e.code, .int .i64 e.place, .slice A n cp, .string ⟨e.text.toArray⟩], .agg #[.int .i64 2, .string s]] w (MorePost 2 s (some e) e.book (.slice A n cp) B w) := by
  have HS := Lib.hid hS
  have HL := Lib.hid hl
  have hl' : ¬ 9223372036854775807 < 9 + e.text.length := by omega
  clear hS hl
  go_enter Tryd.func13, Tryd.ntmps13
  go_wp2_with fail
  go_region
  go_wp2_with fail
  refine bodyPost_ret (results_book rfl rfl (heap4_c w _ _ _ _)) rfl ?_
  have hb := below4 w (.cells #[.bool true, .int .i64 e.code, .int .i64 e.place, .slice A n cp, .string (⟨#[111, 117, 116, 101, 114, 32, 111, 102, 32]⟩ ++ ⟨e.text.toArray⟩)] 32)
    (.cells #[.int .i64 2, .string s] 37) (.cells #[.bool true, .int .i64 e.code, .int .i64 e.place, .slice A n cp, .string (⟨#[111, 117, 116, 101, 114, 32, 111, 102, 32]⟩ ++ ⟨e.text.toArray⟩)] 32) (.cells #[.iface e.ty e.dat] 55)
  refine ⟨some (.outer (w.heap.size + 1 + 1 + 1) e), (Err.outer (w.heap.size + 1 + 1 + 1) e).book, .slice A n cp, ?_, ⟨fun e' he => ?_, fun h => (by cases h), HS.out.names.keptBelow hb⟩, grown_of_below hb _, .inr (.inl ⟨rfl, _, rfl⟩), fun h => (by cases h), .inl rfl⟩
  · show Ending.returned (.tuple #[.iface 53 (.pointer (some ⟨w.heap.size + 1 + 1 + 1, 0, none⟩)), .agg #[.bool true, .int .i64 e.code, .int .i64 e.place, .slice A n cp, .string (⟨tOuter.toArray⟩ ++ ⟨e.text.toArray⟩)]]) = _
    rw [ByteArray.mk_append_mk]
    rfl
  · cases he
    exact ⟨⟨heap_alloc_new2 _ _ (by simp), (HS.out.some_ e rfl).1.on hb⟩, ⟨(HS.out.some_ e rfl).2.1, HL.out⟩, rfl⟩

set_option maxRecDepth 100000 in
set_option maxHeartbeats 4000000 in
theorem more_within (s : ByteArray) (e : Err) (A : Option Addr) (n cp : Nat) (B : Nat) (w : World) (hS : StAt B w (some e) e.book (.slice A n cp)) (hB : B ≤ w.heap.size) (hl : s.size + 2 + e.text.length ≤ 9223372036854775807) (hn : e.names.length ≤ 65536) :
    Calls Tryd.prog 13 #[.iface e.ty e.dat, .agg #[.bool true, .int .i64 e.code, .int .i64 e.place, .slice A n cp, .string ⟨e.text.toArray⟩], .agg #[.int .i64 1, .string s]] w (MorePost 1 s (some e) e.book (.slice A n cp) B w) := by
  obtain ⟨i0, hi, hz0, hz1, hz2⟩ := info_parts info_string
  have HS := Lib.hid hS
  have HL := Lib.hid hl
  have hl1 : ¬ 9223372036854775807 < s.size + 2 := by omega
  have hl2 : ¬ 9223372036854775807 < s.size + 2 + e.text.length := by omega
  have hown : w.ownsRow B 9 1 (.slice A n cp) e.names.length (e.names.map encStr) := hS.names
  have HO := Lib.hid hown
  clear hS hl hown
  go_enter Tryd.func13, Tryd.ntmps13
  go_wp2_with fail
  refine (in_some e s _).mono ?_
  rintro r w1 ⟨rfl, rfl⟩
  go_wp2_with (at_builtin; refine wpList_append_own_at _ rfl (.tmp 19) (.tmp 22) 30 rfl B 9 i0 (.string ⟨#[]⟩) 1 16 Tryd.underlying30 hi hz0 hz1 hz2 rfl (by decide) (.slice A n cp) e.names.length (e.names.map encStr) rfl (((((HO.out.alloc _).alloc _).alloc _).alloc _).alloc _) ⟨w.heap.size + 1 + 1 + 1 + 1, 0, none⟩ 1 1 [.string s] rfl rfl ?_ (by simp [Value.oneCell']) ?_ ?_ ?_ ?_)
  · exact cell_one_at _ _ _ (by simp)
  · unfold maxLen; omega
  · omega
  · simp; omega
  intro v' w2 hown2 hgr2 _ hfr0
  obtain ⟨g', cp', rfl, _⟩ := World.ownsRow.form hown2 (by omega)
  have hfr : (Value.slice (some ⟨g', 0, none⟩) (e.names.length + 1) cp').ownBlock = (Value.slice A n cp).ownBlock ∨ ∃ k, (Value.slice (some ⟨g', 0, none⟩) (e.names.length + 1) cp').ownBlock = some k ∧ w.heap.size ≤ k := by
    rcases hfr0 with h | h
    · exact .inl h
    · refine .inr ⟨_, h, ?_⟩
      omega
  clear hfr0
  have hz : ∀ k, (Value.slice A n cp).ownBlock = some k → k < w.heap.size := fun k hk => (HO.out.lt k hk).2
  have hne : ∀ j, (some (w.heap.size + j) : Option Nat) ≠ (Value.slice A n cp).ownBlock := fun j h => by have := hz _ h.symm; omega
  obtain ⟨ha, hb, hc, hd, hs⟩ := heap5 w (.cells #[.bool true, .int .i64 e.code, .int .i64 e.place, .slice A n cp, .string ⟨e.text.toArray⟩] 32) (.cells #[.int .i64 1, .string s] 37) book0 (.cells #[.iface e.ty e.dat, .string s] 72) (.cells #[.string s] 9)
  have ha2 : w2.heap[w.heap.size]? = some (.cells #[.bool true, .int .i64 e.code, .int .i64 e.place, .slice A n cp, .string ⟨e.text.toArray⟩] 32) := (hgr2.block w.heap.size (by rw [hs]; omega) (hne 0)).trans ha
  have hb2 : w2.heap[w.heap.size + 1]? = some (.cells #[.int .i64 1, .string s] 37) := (hgr2.block _ (by rw [hs]; omega) (hne 1)).trans hb
  have hc2 : w2.heap[w.heap.size + 1 + 1]? = some book0 := (hgr2.block _ (by rw [hs]; omega) (hne 2)).trans hc
  have hd2 : w2.heap[w.heap.size + 1 + 1 + 1]? = some (.cells #[.iface e.ty e.dat, .string s] 72) := (hgr2.block _ (by rw [hs]; omega) (hne 3)).trans hd
  obtain ⟨a0, a1, a2, a3, a4⟩ := cells5 ha2
  obtain ⟨c0, c1, c2, c3, c4⟩ := cells5 hc2
  have b1 : w2.cell? ⟨w.heap.size + 1, 1, none⟩ = some (.string s) := by simp [World.cell?, hb2]
  have fa : ∀ j, w2.frozen? ⟨w.heap.size, j, none⟩ = false := fun j => by simp [World.frozen?, ha2]
  have fc : ∀ j, w2.frozen? ⟨w.heap.size + 1 + 1, j, none⟩ = false := fun j => by simp [World.frozen?, hc2]
  have HZ := Lib.hid hz
  have HN := Lib.hid hne
  have H2 := Lib.hid hown2
  have HG := Lib.hid hgr2
  have HC := Lib.hid hc2
  have HD := Lib.hid hd2
  have HS5 := Lib.hid hs
  clear hz hne hown2 hgr2 ha2 hb2 hc2 hd2 ha hb hc hd hs
  go_wp2_with fail
  go_region
  go_wp2_with fail
  refine bodyPost_ret (results_book rfl rfl (chain7_at w2 w.heap.size (w.heap.size + 1 + 1) (by omega) _ _ _ _ _ _ _ HC.out)) rfl ?_
  have hch := chain7_other w2 w.heap.size (w.heap.size + 1 + 1) (.slice (some ⟨g', 0, none⟩) (e.names.length + 1) cp') (.string (s ++ ⟨#[58, 32]⟩ ++ ⟨e.text.toArray⟩)) (.bool true) (.int .i64 e.code) (.int .i64 e.place) (.slice (some ⟨g', 0, none⟩) (e.names.length + 1) cp') (.string (s ++ ⟨#[58, 32]⟩ ++ ⟨e.text.toArray⟩))
  have hsz := chain7_size w2 w.heap.size (w.heap.size + 1 + 1) (.slice (some ⟨g', 0, none⟩) (e.names.length + 1) cp') (.string (s ++ ⟨#[58, 32]⟩ ++ ⟨e.text.toArray⟩)) (.bool true) (.int .i64 e.code) (.int .i64 e.place) (.slice (some ⟨g', 0, none⟩) (e.names.length + 1) cp') (.string (s ++ ⟨#[58, 32]⟩ ++ ⟨e.text.toArray⟩))
  revert hch hsz
  generalize ((((((((w2.setCell ⟨w.heap.size, 3, none⟩ (.slice (some ⟨g', 0, none⟩) (e.names.length + 1) cp')).setCell ⟨w.heap.size, 4, none⟩ (.string (s ++ ⟨#[58, 32]⟩ ++ ⟨e.text.toArray⟩))).setCell ⟨w.heap.size + 1 + 1, 0, none⟩ (.bool true)).setCell ⟨w.heap.size + 1 + 1, 1, none⟩ (.int .i64 e.code)).setCell ⟨w.heap.size + 1 + 1, 2, none⟩ (.int .i64 e.place)).setCell ⟨w.heap.size + 1 + 1, 3, none⟩ (.slice (some ⟨g', 0, none⟩) (e.names.length + 1) cp')).setCell ⟨w.heap.size + 1 + 1, 4, none⟩ (.string (s ++ ⟨#[58, 32]⟩ ++ ⟨e.text.toArray⟩))).drew) = W3
  intro hch hsz
  have hs3 := hsz.size
  have hz2 : w.heap.size + 5 ≤ w2.heap.size := by rw [← HS5.out]; exact HG.out.size
  have hgrW : w.grownBy W3 (Value.slice A n cp).ownBlock := by
    refine ⟨hsz.os.trans HG.out.os, hsz.tape.trans HG.out.tape, hsz.output.trans HG.out.output, by omega, fun i hi hni => ?_⟩
    rw [hch i (by omega) (by omega), HG.out.block i (by rw [HS5.out]; omega) hni]
    exact (heap5_old w _ _ _ _ _ i hi)
  have hg4 : g' ≠ w.heap.size ∧ g' ≠ w.heap.size + 1 + 1 := by
    obtain ⟨cur, hcur⟩ := OwnsTexts.row (l := e.names ++ [s.data.toList]) (by simpa [OwnsTexts, encStr] using H2.out) g' rfl
    constructor <;> intro hh <;> subst hh
    · have := HG.out.block w.heap.size (by rw [HS5.out]; omega) (HN.out 0)
      rw [hcur, (heap5 w _ _ _ _ _).1] at this
      cases this
    · have := HC.out
      rw [hcur] at this
      cases this
  have hnm : OwnsTexts W3 B (.slice (some ⟨g', 0, none⟩) (e.names.length + 1) cp') (e.names ++ [s.data.toList]) := by
    have h := H2.out
    rcases h.2 with ⟨h0, _⟩ | ⟨g2, cap, cur, hv, hb2, hblk, r⟩
    · cases h0
    · obtain ⟨rfl, rfl⟩ : g' = g2 ∧ cp' = cap := by injection hv with h1 _ h3; injection h1 with h1; injection h1 with h1; exact ⟨h1, h3⟩
      refine ⟨by simp, .inr ⟨g', cp', cur, by simp, hb2, ?_, ?_⟩⟩
      · rw [hch g' hg4.1 hg4.2]; exact hblk
      · simpa [encStr] using r
  have hEA : ErrAt W3 (.within (w.heap.size + 1 + 1 + 1) e s) := by
    refine ⟨?_, ErrAt.grown hgrW (OwnsTexts.row HS.out.names) (HS.out.some_ e rfl).1⟩
    rw [hch _ (by omega) (by omega)]
    exact HD.out
  refine ⟨some (.within (w.heap.size + 1 + 1 + 1) e s), (Err.within (w.heap.size + 1 + 1 + 1) e s).book, .slice (some ⟨g', 0, none⟩) (e.names.length + 1) cp', ?_, ⟨fun e' he => ?_, fun h => (by cases h), hnm⟩, hgrW, .inl ⟨rfl, _, rfl⟩, fun h => (by cases h), hfr⟩
  · rw [within_text (w.heap.size + 1 + 1 + 1)]
    rfl
  · cases he
    exact ⟨hEA, ⟨(HS.out.some_ e rfl).2.1, HL.out⟩, rfl⟩

/-- a slice of texts that the call owns is a slice -/
theorem OwnsTexts.form {w : World} {B : Nat} {nv : Value} {l : List (List UInt8)} (h : OwnsTexts w B nv l) : ∃ A n cp, nv = .slice A n cp := by
  rcases h.2 with ⟨rfl, _⟩ | ⟨g, cap, cur, rfl, _⟩
  · exact ⟨_, _, _, rfl⟩
  · exact ⟨_, _, _, rfl⟩

/-- more, at whatever error and step -/
theorem more_any (k : Int) (s : ByteArray) (o : Option Err) (bk : Bk) (nv : Value) (B : Nat) (w : World) (hS : StAt B w o bk nv) (hB : B ≤ w.heap.size)
    (hl : s.size + 9 + bk.text.length ≤ 9223372036854775807) (hn : bk.names.length ≤ 65536) :
    Calls Tryd.prog 13 #[oval o, bk.val nv, .agg #[.int .i64 k, .string s]] w (MorePost k s o bk nv B w) := by
  obtain ⟨A, n, cp, rfl⟩ := hS.names.form
  cases o with
  | none =>
    obtain ⟨th, c, a, names, text⟩ := bk
    have h0 : th = false := hS.none_ rfl
    subst h0
    exact more_nil k s c a names text A n cp B w hS
  | some e =>
    obtain rfl : bk = e.book := (hS.some_ e rfl).2.2
    have hl' : s.size + 9 + e.text.length ≤ 9223372036854775807 := hl
    by_cases h1 : k = 1
    · subst h1
      exact more_within s e A n cp B w hS hB (by omega) hn
    · by_cases h2 : k = 2
      · subst h2
        exact more_outer s e A n cp B w hS (by omega)
      · exact more_else k s e A n cp B w hS h1 h2

/-- what begins beneath all wrapping -/
def Err.root : Err → Err
  | .within _ e _ => e.root
  | .outer _ e => e.root
  | e => e
theorem step_root {k : Int} {s : ByteArray} {e e' : Err} (h : StepRel k s (some e) (some e')) : e'.root = e.root := by
  rcases h with ⟨_, b, h⟩ | ⟨_, b, h⟩ | ⟨_, _, h⟩ <;> (cases h; rfl)

/-- how long a loop over steps may go on: sz: what it has counted -/
def Inv (sz : Nat) (bk : Bk) : Prop := ∃ Tp : Nat, Tp ≤ sz ∧ bk.text.length ≤ Tp + 140737488355330 ∧ 2 * bk.names.length ≤ Tp + 2 ∧ 2 * bk.names.length ≤ bk.text.length ∧ sz ≤ 4611686018427387904
theorem Inv.start (sz : Nat) (bk : Bk) (h : bk.names = []) (ht : bk.text.length ≤ 140737488355328) (hsz : sz ≤ 140737488355328) : Inv sz bk := by
  refine ⟨0, ?_⟩
  rw [h]
  simp
  omega
theorem Inv.room {sz : Nat} {bk : Bk} (h : Inv sz bk) (hlt : sz < 65536) : bk.text.length ≤ 140737488420866 ∧ bk.names.length ≤ 65536 := by
  obtain ⟨Tp, h1, h2, h3, h4, h5⟩ := h
  omega
theorem Inv.step {sz : Nat} {k : Int} {s : ByteArray} {o o' : Option Err} {bk bk' : Bk} {nv nv' : Value} {B : Nat} {w w' : World} (h : Inv sz bk) (hlt : sz < 65536) (hs : s.size ≤ 140737488355328)
    (hS : StAt B w o bk nv) (hS' : StAt B w' o' bk' nv') (hr : StepRel k s o o') (hb : o = none → bk' = bk) : Inv (sz + bk.text.length) bk' := by
  obtain ⟨Tp, h1, h2, h3, h4, h5⟩ := h
  cases o with
  | none => rw [hb rfl]; exact ⟨bk.text.length, by omega, by omega, by omega, h4, by omega⟩
  | some e =>
    obtain rfl := (hS.some_ e rfl).2.2
    have e1 : e.book.text.length = e.text.length := rfl
    have e2 : e.book.names.length = e.names.length := rfl
    rcases hr with ⟨_, b, rfl⟩ | ⟨_, b, rfl⟩ | ⟨_, _, rfl⟩
    · obtain rfl := (hS'.some_ _ rfl).2.2
      have t1 : (Err.within b e s).book.text.length = s.size + 2 + e.text.length := by simp [Err.book, Err.text, tColon]; omega
      have t2 : (Err.within b e s).book.names.length = e.names.length + 1 := by simp [Err.book, Err.names]
      exact ⟨e.text.length, by omega, by omega, by omega, by omega, by omega⟩
    · obtain rfl := (hS'.some_ _ rfl).2.2
      have t1 : (Err.outer b e).book.text.length = 9 + e.text.length := by simp [Err.book, Err.text, tOuter]; omega
      have t2 : (Err.outer b e).book.names.length = e.names.length := rfl
      exact ⟨e.text.length, by omega, by omega, by omega, by omega, by omega⟩
    · obtain rfl := (hS'.some_ _ rfl).2.2
      exact ⟨e.text.length, by omega, by omega, by omega, h4, by omega⟩

/-- what more leaves, with what a caller's memory wants besides: its own book lies in block g -/
def MoreAt (k : Int) (s : ByteArray) (o : Option Err) (bk : Bk) (B g : Nat) (w0 w : World) (e : Ending) (w' : World) : Prop :=
  ∃ (o' : Option Err) (bk' : Bk) (A : Option Addr) (n cp : Nat), e = .returned (.tuple #[oval o', .agg #[.bool bk'.there, .int .i64 bk'.code, .int .i64 bk'.place, .slice A n cp, .string ⟨bk'.text.toArray⟩]]) ∧ StAt B w' o' bk' (.slice A n cp) ∧
    StepRel k s o o' ∧ (o = none → bk' = bk) ∧ Below B w0 w' ∧ w'.heap[g]? = w.heap[g]? ∧ g < w'.heap.size
theorem more_at (k : Int) (s : ByteArray) (o : Option Err) (bk : Bk) (A : Option Addr) (n cp : Nat) (B g : Nat) (old : Array Value) (w0 w : World) (hS : StAt B w o bk (.slice A n cp)) (hB : B ≤ w.heap.size) (hb : Below B w0 w) (hg : w.heap[g]? = some (.cells old 32 (0, 0)))
    (hl : s.size + 9 + bk.text.length ≤ 9223372036854775807) (hn : bk.names.length ≤ 65536) :
    Calls Tryd.prog 13 #[oval o, .agg #[.bool bk.there, .int .i64 bk.code, .int .i64 bk.place, .slice A n cp, .string ⟨bk.text.toArray⟩], .agg #[.int .i64 k, .string s]] w (MoreAt k s o bk B g w0 w) :=
  (more_any k s o bk (.slice A n cp) B w hS hB hl hn).mono fun e w' ⟨o', bk', nv', he, hS', hgr, hr, hn', _⟩ => by
    obtain ⟨A', n', cp', rfl⟩ := hS'.names.form
    have hlt := at_lt hg
    refine ⟨o', bk', A', n', cp', he, hS', hr, hn', hb.grown hgr hB (fun k hk => (hS.names.lt k hk).1), ?_, Nat.lt_of_lt_of_le hlt hgr.size⟩
    refine hgr.block g hlt (fun h => ?_)
    obtain ⟨cur, hc⟩ := OwnsTexts.row hS.names g h.symm
    rw [hg] at hc
    injection hc with hc
    injection hc with _ ht
    cases ht

/-- the steps that come in -/
def StepsAt (w : World) (A : Option Addr) (n : Nat) (ks : Nat → Int) (ss : Nat → ByteArray) : Prop :=
  ∀ i, i < n → ∃ b off, A = some ⟨b, off, none⟩ ∧ b < w.heap.size ∧ w.cell? ⟨b, off + i * 2, none⟩ = some (.int .i64 (ks i)) ∧ w.cell? ⟨b, off + i * 2 + 1, none⟩ = some (.string (ss i)) ∧ (ss i).size ≤ 140737488355328
theorem StepsAt.on {w w' : World} {A : Option Addr} {n : Nat} {ks : Nat → Int} {ss : Nat → ByteArray} (h : StepsAt w A n ks ss) (hb : Below w.heap.size w w') : StepsAt w' A n ks ss := fun i hi => by
  obtain ⟨b, off, h1, h2, h3, h4, h5⟩ := h i hi
  exact ⟨b, off, h1, Nat.lt_of_lt_of_le h2 hb.size, (hb.cell (p := ⟨b, _, none⟩) h2).trans h3, (hb.cell (p := ⟨b, _, none⟩) h2).trans h4, h5⟩

theorem frozen5 {w : World} {g : Nat} {cs : Array Value} {t : TypeId} (h : w.heap[g]? = some (.cells cs t (0, 0))) (j : Nat) : w.frozen? ⟨g, j, none⟩ = false := by simp [World.frozen?, h]
/-- an error that was begun with a number and a place, or none where the number was 0 -/
def Rooted (c a : Int) (o : Option Err) : Prop := (c = 0 ∧ o = none) ∨ (c ≠ 0 ∧ ∃ e b, o = some e ∧ e.root = .met b c a)
theorem Rooted.step {c a k : Int} {s : ByteArray} {o o' : Option Err} (h : Rooted c a o) (hr : StepRel k s o o') : Rooted c a o' := by
  rcases h with ⟨h0, rfl⟩ | ⟨h0, e, b, rfl, h⟩
  · exact .inl ⟨h0, hr⟩
  · refine .inr ⟨h0, ?_⟩
    cases o' with
    | none => rcases hr with ⟨_, _, h⟩ | ⟨_, _, h⟩ | ⟨_, _, h⟩ <;> cases h
    | some e' => exact ⟨e', b, rfl, (step_root hr).trans h⟩
/-- a whole Book stored cell by cell -/
abbrev put5 (w : World) (g : Nat) (c0 c1 c2 c3 c4 : Value) : World := ((((w.setCell ⟨g, 0, none⟩ c0).setCell ⟨g, 1, none⟩ c1).setCell ⟨g, 2, none⟩ c2).setCell ⟨g, 3, none⟩ c3).setCell ⟨g, 4, none⟩ c4
theorem chain5_at {w : World} {g : Nat} {a0 a1 a2 a3 a4 : Value} (h : w.heap[g]? = some (.cells #[a0, a1, a2, a3, a4] 32 (0, 0))) (c0 c1 c2 c3 c4 : Value) :
    (put5 w g c0 c1 c2 c3 c4).heap[g]? = some (.cells #[c0, c1, c2, c3, c4] 32 (0, 0)) := by
  simp [put5, World.setCell, Array.getElem?_modify, h]
theorem chain5_below {B g : Nat} {w0 w : World} (h : Below B w0 w) (hB : B ≤ g) (c0 c1 c2 c3 c4 : Value) : Below B w0 (put5 w g c0 c1 c2 c3 c4) :=
  ((((h.setCell (p := ⟨g, 0, none⟩) hB c0).setCell (p := ⟨g, 1, none⟩) hB c1).setCell (p := ⟨g, 2, none⟩) hB c2).setCell (p := ⟨g, 3, none⟩) hB c3).setCell (p := ⟨g, 4, none⟩) hB c4
theorem chain5_grown (w : World) (g : Nat) (c0 c1 c2 c3 c4 : Value) : w.grownBy (put5 w g c0 c1 c2 c3 c4) (some g) := by
  have hb : Below 0 w (put5 w g c0 c1 c2 c3 c4) := chain5_below (Below.refl _ _) (Nat.zero_le _) c0 c1 c2 c3 c4
  refine ⟨hb.os, hb.tape, hb.output, hb.size, fun i _ hne => ?_⟩
  have h : i ≠ g := fun e => hne (by rw [e])
  rw [Below.heap_setCell _ _ _ _ h, Below.heap_setCell _ _ _ _ h, Below.heap_setCell _ _ _ _ h, Below.heap_setCell _ _ _ _ h, Below.heap_setCell _ _ _ _ h]
/-- an error and its book's names do not lie in a Book's own block -/
theorem ErrAt.bookGrown {w w' : World} {g : Nat} {cs : Array Value} (hg : w.grownBy w' (some g)) (hb : w.heap[g]? = some (.cells cs 32 (0, 0))) : ∀ {e : Err}, ErrAt w e → ErrAt w' e
  | .met b _ _, h => (hg.block b (at_lt h) (fun hk => by injection hk with hk; subst hk; have h' : w.heap[b]? = _ := h; rw [h'] at hb; injection hb with hb; injection hb with _ ht; cases ht)).trans h
  | .within b _ _, ⟨h, h3⟩ => ⟨(hg.block b (at_lt h) (fun hk => by injection hk with hk; subst hk; rw [h] at hb; injection hb with hb; injection hb with _ ht; cases ht)).trans h, ErrAt.bookGrown hg hb h3⟩
  | .outer b _, ⟨h, h3⟩ => ⟨(hg.block b (at_lt h) (fun hk => by injection hk with hk; subst hk; rw [h] at hb; injection hb with hb; injection hb with _ ht; cases ht)).trans h, ErrAt.bookGrown hg hb h3⟩
  | .other b _, h => (hg.block b (at_lt h) (fun hk => by injection hk with hk; subst hk; have h' : w.heap[b]? = _ := h; rw [h'] at hb; injection hb with hb; injection hb with _ ht; cases ht)).trans h
  | .errno _, h => h
theorem OwnsTexts.bookGrown {w w' : World} {B g : Nat} {nv : Value} {l : List (List UInt8)} {cs : Array Value} (h : OwnsTexts w B nv l) (hg : w.grownBy w' (some g)) (hb : w.heap[g]? = some (.cells cs 32 (0, 0))) : OwnsTexts w' B nv l :=
  World.ownsRow.kept h hg (.inr fun hk => by obtain ⟨cur, hc⟩ := OwnsTexts.row h g hk; rw [hb] at hc; injection hc with hc; injection hc with _ ht; cases ht)
theorem StAt.bookGrown {w w' : World} {B g : Nat} {o : Option Err} {bk : Bk} {nv : Value} {cs : Array Value} (h : StAt B w o bk nv) (hg : w.grownBy w' (some g)) (hb : w.heap[g]? = some (.cells cs 32 (0, 0))) : StAt B w' o bk nv :=
  ⟨fun e he => ⟨(h.some_ e he).1.bookGrown hg hb, (h.some_ e he).2⟩, h.none_, h.names.bookGrown hg hb⟩
theorem StAt.chain5 {w : World} {B g : Nat} {o : Option Err} {bk : Bk} {nv : Value} {cs : Array Value} (h : StAt B w o bk nv) (hb : w.heap[g]? = some (.cells cs 32 (0, 0))) (c0 c1 c2 c3 c4 : Value) : StAt B (put5 w g c0 c1 c2 c3 c4) o bk nv :=
  h.bookGrown (chain5_grown w g c0 c1 c2 c3 c4) hb
theorem find_root {b : Nat} {c a : Int} : ∀ {e : Err}, e.root = .met b c a → e.find 24 = some (.int .i64 c)
  | .met .., h => by cases h; rfl
  | .within _ e _, h => find_root (e := e) h
  | .outer _ e, h => find_root (e := e) h
  | .other .., h => by cases h
  | .errno _, h => by cases h
theorem sum_slot (a b : Nat) (h : a + b ≤ 4611686018427387904) : Value.int .i64 (wrap64 ((a : Int) + (b : Int))) = .int .i64 ((a + b : Nat) : Int) := by
  rw [IntWalk.wrap64_in _ (by omega)]
  simp
theorem book_there {B : Nat} {w : World} {e : Err} {bk : Bk} {nv : Value} (h : StAt B w (some e) bk nv) : bk.there = true := by rw [(h.some_ e rfl).2.2]; rfl
theorem begun_small {k c a : Int} {s : ByteArray} {o : Option Err} {bk : Bk} (h : BegunRel k c a s o bk) (hc : In64 c) (ha : In64 a) : bk.names = [] ∧ bk.text.length ≤ 52 + s.size := by
  have l0 := itoa_len c hc.1 hc.2
  have l1 := itoa_len a ha.1 ha.2
  rcases h with ⟨_, _, _, rfl⟩ | ⟨_, _, b, _, rfl⟩ | ⟨_, b, _, rfl⟩ | ⟨_, _, rfl⟩ | ⟨_, _, _, _, rfl⟩
  · exact ⟨rfl, by simp [tErr, tAt]; omega⟩
  · exact ⟨rfl, by simp [Err.book, Err.text, tErr, tAt]; omega⟩
  · exact ⟨rfl, by simp [Err.book, Err.text]⟩
  · exact ⟨rfl, by simp [Err.book, Err.text, tErr]; omega⟩
  · exact ⟨rfl, by simp⟩
theorem begun_rooted {c a : Int} {s : ByteArray} {o : Option Err} {bk : Bk} (h : BegunRel 1 c a s o bk) : Rooted c a o := by
  rcases h with ⟨_, h0, rfl, _⟩ | ⟨_, h0, b, rfl, _⟩ | ⟨h, _⟩ | ⟨h, _⟩ | ⟨h, _⟩
  · exact .inl ⟨h0, rfl⟩
  · exact .inr ⟨h0, _, b, rfl, rfl⟩
  · cases h
  · cases h
  · exact absurd rfl h
theorem oval_some (e : Err) : oval (some e) = .iface e.ty e.dat := rfl
theorem oval_none : oval none = .nilIface := rfl
end Go.Proofs.YtcohinfpcafcpaaDoor
