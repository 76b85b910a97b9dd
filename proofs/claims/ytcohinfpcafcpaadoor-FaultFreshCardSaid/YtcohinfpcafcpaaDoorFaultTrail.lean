/- fault.Trail at a chain of errors, by its contract: the names, the innermost first, in new memory. Conditions: at most 65536 names; the listed variables of Go's library are as laid. -/
import Derived.Test.YtcohinfpcafcpaaDoorFaultFns
import Derived.Sort.OwnSorted
import Derived.Maps.AppendAt
import Derived.Deep.Onto
namespace Go.Proofs.YtcohinfpcafcpaaDoor
open Go.RowKit Go.Extern.Stop Go.Stop Go.Extern Go.Sort

/-- the slice v of texts lies in new memory from block B on and reads as l -/
def OwnsTexts (w : World) (B : Nat) (v : Value) (l : List (List UInt8)) : Prop := w.ownsRow B 9 1 v l.length (l.map encStr)
/-- what Trail leaves -/
def TrailPost (l : List (List UInt8)) (w : World) (e : Ending) (w' : World) : Prop := ∃ v, e = .returned v ∧ OwnsTexts w' w.heap.size v l ∧ Below w.heap.size w w'

theorem info_string : (Tryd.prog.info? 9).map (fun i => (i.zero, i.size, i.bytes)) = some (some (.string ⟨#[]⟩), 1, 16) := by kernel_rfl

theorem grow_none (w : World) : Sort.grow w #[] = w := by simp [Sort.grow]
theorem trail_nil (w : World) : Calls Tryd.prog 16 #[.nilIface] w (TrailPost [] w) := by
  go_enter Tryd.func16, Tryd.ntmps16
  go_wp2_with fail
  refine wp_loop_rounds 1 ?_
  rw [rounds_succ]
  go_wp2_with fail
  refine (as_nil _ _).mono ?_
  rintro r w' ⟨rfl, rfl⟩
  go_wp2_with fail
  refine (Tryd.slices_Reverse_string_empty none 0 _).mono ?_
  rintro r w' ⟨rfl, rfl⟩
  go_wp2_with fail
  go_ret
  exact ⟨_, rfl, World.ownsRow_nil _ _ _ _, (Below.refl _ _).alloc (Nat.le_refl _) _⟩

set_option maxRecDepth 100000 in
set_option maxHeartbeats 4000000 in
theorem trail_any (e : Err) (w : World) (hE : ErrAt w e) (hg : ErrTy w) (hn : e.names.length ≤ 65536) : Calls Tryd.prog 16 #[.iface e.ty e.dat] w (TrailPost e.names w) := by
  obtain ⟨i0, hi, hz0, hz1, hz2⟩ := info_parts info_string
  have HE := Lib.hid hE
  have HG := Lib.hid hg
  clear hE hg
  go_enter Tryd.func16, Tryd.ntmps16
  go_wp2_with fail
  go_loopg [0, 3] e.depth (fun n v0 v3 wr => ∃ (e' : Err) (acc : List (List UInt8)), v0 = .iface e'.ty e'.dat ∧ ErrAt w e' ∧ wr.ownsRow (w.heap.size + 1) 9 1 v3 acc.length (acc.map encStr) ∧ e.names = e'.names ++ acc.reverse ∧
    (∃ old, wr.heap[w.heap.size]? = some (.cells #[old] 69 (0, 0))) ∧ Below w.heap.size w wr ∧ e'.depth ≤ n)
  case atStart => exact ⟨e, [], rfl, HE.out, World.ownsRow_nil _ _ _ _, by simp, ⟨_, heap_alloc_new w _⟩, (Below.refl _ _).alloc (Nat.le_refl _) _, Nat.le_refl _⟩
  case round =>
    obtain ⟨e1, acc, rfl, hA, hown, hnm, ⟨old, ho⟩, hb, hd⟩ := hrel
    have hA1 := hA.on hb
    have hG1 := HG.out.on hb
    have hfw := find_within e1 w hA
    have HN := Lib.hid hnm
    have HO := Lib.hid ho
    have HA := Lib.hid hA1
    have HG1 := Lib.hid hG1
    have HOW := Lib.hid hown
    clear hA hA1 hG1 hnm ho hown
    go_wp2_with fail
    refine (as_any within_tgt fits_within e1 w.heap.size old wr HA.out HG1.out HO.out).mono ?_
    rintro r w1 hr
    rcases hfw with ⟨b, e2, s, hc, hw2, hn2, hd2⟩ | ⟨hc, hn2⟩
    · rw [hc] at hr
      obtain ⟨rfl, h1, hgr⟩ := hr
      have hlt : w.heap.size < wr.heap.size := at_lt HO.out
      have hb1 : Below w.heap.size w w1 := hb.grown hgr hb.size (fun k hk => by cases hk; exact Nat.le_refl _)
      have hm1 : w1.heap[b]? = some (.cells #[.iface e2.ty e2.dat, .string s] 72 (0, 0)) := (hb1.block b (at_lt hw2.1)).trans hw2.1
      have hown1 : w1.ownsRow (w.heap.size + 1) 9 1 u3 acc.length (acc.map encStr) := HOW.out.kept hgr (Or.inr fun h => by have := (HOW.out.lt _ h).1; omega)
      have k0 : w1.cell? ⟨w.heap.size, 0, none⟩ = some (.pointer (some ⟨b, 0, none⟩)) := by simp [World.cell?, h1]
      have k1 : w1.cell? ⟨b, 1, none⟩ = some (.string s) := by simp [World.cell?, hm1]
      have hz := hb1.size
      have hz3 : w.heap.size < w1.heap.size := at_lt h1
      have hlen : acc.length + 1 ≤ 65536 := by
        have := congrArg List.length HN.out
        rw [hn2] at this
        simp at this
        omega
      have HS := Lib.hid hw2
      have HN2 := Lib.hid hn2
      have HO1 := Lib.hid h1
      have HOW1 := Lib.hid hown1
      clear hc hw2 hn2 h1 hm1 hown1 HOW HO
      go_wp2_with (at_builtin; refine wpList_append_own _ rfl (.tmp 8) (.tmp 13) 30 rfl (w.heap.size + 1) 9 i0 (.string ⟨#[]⟩) 1 16 Tryd.underlying30 hi hz0 hz1 hz2 rfl (by decide) u3 acc.length (acc.map encStr) rfl (HOW1.out.alloc _) ⟨w1.heap.size, 0, none⟩ 1 1 [.string s] rfl rfl (cell_one_new _ _ _) (by simp [Value.oneCell']) ?_ ?_ ?_ ?_)
      · unfold maxLen; omega
      · omega
      · simp; omega
      intro v' w2 hown2 hgr2 _
      have hne2 : (some w.heap.size : Option Nat) ≠ u3.ownBlock := fun h => by have := (HOW1.out.lt _ h.symm).1; omega
      have hb2 : Below w.heap.size w w2 := (hb1.alloc hz _).grown hgr2 (by simp; omega) (fun k hk => by have := (HOW1.out.lt _ hk).1; omega)
      have ho2 : w2.heap[w.heap.size]? = some (.cells #[.pointer (some ⟨b, 0, none⟩)] 69 (0, 0)) := by
        rw [hgr2.block _ (by simp; omega) hne2]
        exact (Below.heap_alloc _ _ _ (by omega)).trans HO1.out
      have k2 : w2.cell? ⟨w.heap.size, 0, none⟩ = some (.pointer (some ⟨b, 0, none⟩)) := by simp [World.cell?, ho2]
      have HOW2 := Lib.hid hown2
      have HO2 := Lib.hid ho2
      clear hown2 ho2 hgr2 hne2 k0 k1
      go_wp2_with fail
      refine (unwrap_some (e := .within b e2 s) (e' := e2) rfl w2 (HS.out.on hb2)).mono ?_
      rintro r w3 ⟨rfl, rfl⟩
      go_wp2_with fail
      go_roundg e2.depth
      case rel =>
        refine ⟨e2, acc ++ [s.data.toList], rfl, HS.out.2, ?_, ?_, ⟨_, HO2.out⟩, hb2, Nat.le_refl _⟩
        · simpa [encStr] using HOW2.out
        · rw [HN.out, HN2.out]; simp
      case measure => omega
    · rw [hc] at hr
      obtain ⟨rfl, hb1⟩ := hr
      have hb2 := hb.trans (hb1.mono hb.size)
      have hown1 := HOW.out.kept (grown_of_below hb1 none) (by
        cases hv : u3.ownBlock with
        | none => exact .inl rfl
        | some k => exact .inr (by simp))
      have hne : e.names = acc.reverse := by rw [HN.out, hn2]; rfl
      rcases hown1.2 with ⟨hv, hl⟩ | ⟨g, cap, cur, hv, hbase, hblk, h1, h2, h3, h4⟩
      · obtain rfl : acc = [] := List.eq_nil_of_length_eq_zero hl
        subst hv
        have H := Lib.hid hne
        clear hne hown1 hc hn2 hl HOW
        go_wp2_with fail
        refine (Tryd.slices_Reverse_string_empty none 0 _).mono ?_
        rintro r w' ⟨rfl, rfl⟩
        go_wp2_with fail
        go_ret
        rw [H.out]
        exact ⟨_, rfl, World.ownsRow_nil _ _ _ _, hb2⟩
      · subst hv
        have hH := holds_of_block (ss := acc) hblk (by simpa using h4)
        have hrev := (Tryd.slices_Reverse_string g 0 cap acc w1 hH (by unfold maxLen at h2; omega))
        have HR := Lib.hid hrev
        have H := Lib.hid hne
        have HO1 := Lib.hid hown1
        have HB := Lib.hid hblk
        have H4 := Lib.hid h4
        have H3 := Lib.hid h3
        clear hne hown1 hc hn2 HOW hrev hH hblk h4 h3
        go_wp2_with fail
        refine HR.out.mono ?_
        rintro r w' ⟨rfl, n, rfl⟩
        go_wp2_with fail
        go_ret
        rw [H.out]
        have hs := ownsRow_sorted (os := #[]) (n := n) (ss := acc) (ts := acc.reverse) (by simp) hbase HB.out h1 h2 H3.out
        have hgr := grownBy_sorted (w := w1) (g := g) (n := n) (os := #[]) acc.reverse.toArray
        rw [grow_none] at hs hgr
        refine ⟨_, rfl, ?_, hb2.grown hgr hb2.size (fun k hk => by cases hk; omega)⟩
        have hm := hs.mono (base' := w.heap.size) (by omega)
        unfold OwnsTexts
        rw [List.length_reverse]
        exact hm
end Go.Proofs.YtcohinfpcafcpaaDoor
