/- slices.Clone of numbers, arr.List, shape.At; strings.Split, Fields, Join as ShowGrid meets them. Conditions: sizes within reach; the library's listed variables are as laid. -/
import Derived.Test.YtpipcpjkfgdpcaaDoorShGr0
import Derived.Test.YtpipcpjkfgdpcaaDoorShBegun
import Derived.Shelf.Strings.PiecesUse
import Derived.Shelf.Strings.SplitShaped
import Derived.Deep.AppendLies
namespace Go.Proofs.YtpipcpjkfgdpcaaDoor
open Go.RowKit

theorem info_i64 : (Tryd.prog.info? 2).map (fun i => (i.zero, i.size, i.bytes)) = some (some (.int .i64 0), 1, 8) := by kernel_rfl
set_option maxHeartbeats 2000000 in
set_option maxRecDepth 100000 in
theorem clone64_any (b off cp : Nat) (a : List Int) (w : World) (hA : IntsAt w (some ⟨b, off, none⟩) a) (hn : a.length ≤ 1099511627776) (h0 : 0 < a.length) :
    Calls Tryd.prog 52 #[.slice (some ⟨b, off, none⟩) a.length cp] w fun e w' => ∃ A' cp', e = .returned (.slice A' a.length cp') ∧ IntsAt w' A' a ∧ Below w.heap.size w w' := by
  obtain ⟨n, hln⟩ : ∃ n, n = a.length := ⟨_, rfl⟩
  have HN := Lib.hid hln
  rw [← hln] at hn h0 ⊢
  obtain ⟨W1, hW1⟩ : ∃ W1, W1 = w.alloc (.cells #[] 2) := ⟨_, rfl⟩
  have hb1 : Below w.heap.size w W1 := by rw [hW1]; exact (Below.refl _ _).alloc (Nat.le_refl _) _
  have hz1' : W1.heap.size = w.heap.size + 1 := by rw [hW1]; simp
  have HOWN : Hid (W1.ownsRow w.heap.size 2 1 (.slice (some ⟨w.heap.size, 0, none⟩) 0 0) 0 []) := Lib.hid (by rw [hW1]; exact World.ownsRow_made w #[] 0 (Nat.le_refl _) (Nat.zero_le _) rfl)
  have HNEW : Hid (∀ (j : Nat) (u : Value), (a.map fun x => Value.int .i64 x)[j]? = some u → W1.cell? ((⟨b, off, none⟩ : Addr).add j) = some u) := Lib.hid fun j u hu => by
    rw [List.getElem?_map] at hu
    obtain ⟨y, hy, rfl⟩ := Option.map_eq_some_iff.1 hu
    obtain ⟨b', off', e, _, hc⟩ := (hA.on hb1) j y hy
    simp only [Option.some.injEq, Addr.mk.injEq, and_true] at e
    obtain ⟨rfl, rfl⟩ := e
    rw [Addr.add_lit]
    exact hc
  have HB1 := Lib.hid hb1
  have HW1 := Lib.hid hW1
  obtain ⟨j0, hj, hz0, hz1, hz2⟩ := info_parts info_i64
  have hnil : ∀ W, (binOp .eql 28 (.slice (some ⟨b, off, none⟩) n cp) (.slice none 0 0)).run Tryd.prog W = .ok (.bool false) W := fun W => Lib.run_eql_slice_nil W _ _ (some ⟨b, off, none⟩) n cp 0 0 Tryd.underlying28
  clear hA hln hb1 hW1
  go_enter Tryd.func52, Tryd.ntmps52
  go_wp2_with (at_builtin; rw [← HW1.out]; refine wpList_append_lies _ rfl (.tmp 5) (.tmp 6) 28 rfl w.heap.size 2 j0 (.int .i64 0) 1 8 Tryd.underlying28 hj hz0 hz1 hz2 rfl (by decide) (.slice (some ⟨w.heap.size, 0, none⟩) 0 0) 0 [] rfl HOWN.out ⟨b, off, none⟩ n cp (a.map fun x => .int .i64 x) rfl (by rw [List.length_map, ← HN.out, Nat.mul_one]) HNEW.out (fun u hu => by obtain ⟨y, _, rfl⟩ := List.mem_map.1 hu; rfl) h0 (by unfold maxLen; omega) (by omega) (by rw [hz1']; omega) _ rfl ?_)
  intro g' cap' w' hown' hgr' hor' hlt'
  have HR : Hid (IntsAt w' (some ⟨g', 0, none⟩) a ∧ Below w.heap.size w w') := Lib.hid (by
    rw [HN.out] at hown'
    exact ⟨row_ints hown', HB1.out.grown hgr' HB1.out.size (fun k hk => (HOWN.out.lt k hk).1)⟩)
  clear hown' hgr' hor' hlt'
  go_wp2_with fail
  go_ret
  refine ⟨some ⟨g', 0, none⟩, cap', ?_, HR.out.1, HR.out.2⟩
  first | rfl | simp

theorem ints_setRow {w : World} {A : Option Addr} {l : List Int} {p : Nat} {A1 A2 : Option Addr} {n1 c1 n2 c2 : Nat} {t : TypeId} (h : IntsAt w A l) (hp : w.heap[p]? = some (.cells #[.slice A1 n1 c1, .slice A2 n2 c2] t (0, 0))) (cs : Array Value) : IntsAt (w.setRow p cs) A l := fun i x hx => by
  obtain ⟨b, off, e, hb, hc⟩ := h i x hx
  have hne : b ≠ p := fun e' => by
    subst e'
    simp only [World.cell?, hp] at hc
    match off + i, hc with
    | 0, hc => simp at hc
    | 1, hc => simp at hc
    | k + 2, hc => simp at hc
  refine ⟨b, off, e, by rw [size_setRow]; exact hb, ?_⟩
  exact (World.cell?_of_block (setRow_other _ _ _ _ hne)).trans hc
theorem results_arr2 {fn : Func} {p t : Tmp} (h : fn.results = #[.cell p 36, .tmp t]) {tmps : Array Value} {w : World} {g : Nat} (hp : tmps.getD p undef = .pointer (some ⟨g, 0, none⟩)) {c0 c1 : Value}
    (hg : w.heap[g]? = some (.cells #[c0, c1] 36 (0, 0))) : (results fn tmps).run Tryd.prog w = .ok (.tuple #[.agg #[c0, c1], tmps.getD t undef]) w := by
  obtain ⟨k0, k1⟩ := heap2 hg
  rw [Array.getD_eq_getD_getElem?] at hp
  simp only [results, h]
  simp [go_sem, hp, k0, k1]
set_option maxHeartbeats 4000000 in
set_option maxRecDepth 100000 in
theorem list_any (B : Option Addr) (cp : Nat) (a : List Int) (w : World) (hA : IntsAt w B a) (h0 : 0 < a.length) (hn : a.length ≤ 4096) :
    Calls Tryd.prog 22 #[.slice B a.length cp] w fun e w' => ∃ (S A : Option Addr) (cs ca : Nat), e = .returned (.tuple #[.agg #[.slice S 1 cs, .slice A a.length ca], .int .i64 0]) ∧ IntsAt w' S [(a.length : Int)] ∧ IntsAt w' A a ∧ Below w.heap.size w w' := by
  obtain ⟨x, hx⟩ : ∃ x, a[0]? = some x := ⟨_, List.getElem?_eq_getElem h0⟩
  obtain ⟨b, off, rfl, _, _⟩ := hA 0 x hx
  obtain ⟨W1, hW1⟩ : ∃ W1, W1 = w.alloc (.cells #[.slice none 0 0, .slice none 0 0] 36) := ⟨_, rfl⟩
  have hb1 : Below w.heap.size w W1 := by rw [hW1]; exact (Below.refl _ _).alloc (Nat.le_refl _) _
  have hp1 : W1.heap[w.heap.size]? = some (.cells #[.slice none 0 0, .slice none 0 0] 36 (0, 0)) := by rw [hW1]; exact heap_alloc_new w _
  obtain ⟨n, hln⟩ : ∃ n, n = a.length := ⟨_, rfl⟩
  have HN := Lib.hid hln
  have hs1 : W1.heap.size = w.heap.size + 1 := by rw [hW1]; simp
  obtain ⟨W2, hW2⟩ : ∃ W2, W2 = W1.alloc (.cells #[.int .i64 n] 3) := ⟨_, rfl⟩
  have hb2 : Below W1.heap.size W1 W2 := by rw [hW2]; exact (Below.refl _ _).alloc (Nat.le_refl _) _
  have hO2 : OwnsI W2 w.heap.size (.slice (some ⟨W1.heap.size, 0, none⟩) 1 1) [(n : Int)] := by rw [hW2]; exact owns_one W1 w.heap.size hb1.size n
  have HC := Lib.hid (clone64_any b off cp a W2 (hA.on (hb1.then_ hb2)) (by omega) h0)
  have HX := Lib.hid (And.intro hb1 (And.intro hb2 (And.intro hO2 hp1)))
  have HW := Lib.hid (And.intro hW1 hW2)
  have hn' : ¬ (4096 : Int) < n := by omega
  rw [← hln] at hn h0 HC ⊢
  clear hA hx hb1 hb2 hO2 hp1 hln hW1 hW2
  go_enter Tryd.func22, Tryd.ntmps22
  go_wp2_with fail
  rw [← HW.out.1, ← HW.out.2]
  refine HC.out.mono ?_
  rintro e w3 ⟨A', ca, rfl, hi, hb3⟩
  have hp3 : w3.heap[w.heap.size]? = some (.cells #[.slice none 0 0, .slice none 0 0] 36 (0, 0)) := ((HX.out.2.1.then_ hb3).block _ (by omega)).trans HX.out.2.2.2
  have HI := Lib.hid (And.intro hi hb3)
  clear hi hb3
  go_wp2_with (refine wp_store_arr _ w.heap.size _ (.tmp 2) (.tmp 13) rfl rfl hp3 rfl rfl _ _ rfl rfl ?_)
  refine bodyPost_ret (results_arr2 rfl rfl (setRow_heap _ _ _ _ _ _ hp3)) rfl ?_
  have hg := grown_row w3 w.heap.size #[.slice (some ⟨W1.heap.size, 0, none⟩) 1 1, .slice A' n ca]
  have hO3 : OwnsI w3 w.heap.size (.slice (some ⟨W1.heap.size, 0, none⟩) 1 1) [(n : Int)] := World.ownsRow.kept HX.out.2.2.1 (grown_below HI.out.2 none) (.inr (by simp [Value.ownBlock]))
  rw [hs1] at hO3 hg
  have hO4 := row_other hO3 hg hp3 (by decide)
  exact ⟨_, A', 1, ca, rfl, row_ints hO4, ints_setRow HI.out.1 hp3 _, below_setRow (HX.out.1.then_ (HX.out.2.1.then_ HI.out.2)) (Nat.le_refl _) _⟩

set_option maxHeartbeats 2000000 in
set_option maxRecDepth 100000 in
theorem at_any (A : Option Addr) (cp : Nat) (s : List Int) (p : Nat) (w : World) (hA : IntsAt w A s) (hl : All64 s) (hs : ∀ x ∈ s, 1 ≤ x ∧ x ≤ 9223372036854775807) (hn : s.length ≤ 64) (hm : shMay s = 0) (hp : (p : Int) < shSize s) (hp2 : p ≤ 9223372036854775807) :
    Calls Tryd.prog 24 #[.slice A s.length cp, .int .i64 p] w fun e w' => ∃ g, e = .returned (.tuple #[.slice (some ⟨g, 0, none⟩) s.length s.length, .int .i64 0]) ∧ Below w.heap.size w w' ∧ w.heap.size ≤ g ∧ Tail w' g s.length 0 (idx s p) := by
  have HSZ := Lib.hid (size_any A cp s w hA hl (by omega))
  have HIX := Lib.hid (indices_any A cp s p w hA hs hn hp2)
  have h1 : ¬ (p : Int) < 0 := by omega
  have h2 : ¬ shSize s ≤ (p : Int) := by omega
  rw [hm] at HSZ
  clear hA hl hs hm hp
  go_enter Tryd.func24, Tryd.ntmps24
  go_wp2_with fail
  refine HSZ.out.mono ?_
  rintro e w1 ⟨rfl, rfl⟩
  go_wp2_with fail
  refine HIX.out.mono ?_
  rintro e w2 ⟨g, rfl, hb, hg, ht⟩
  have HT := Lib.hid (And.intro hb (And.intro hg ht))
  clear hb hg ht
  go_wp2_with fail
  go_ret2
  exact ⟨g, rfl, HT.out.1, HT.out.2.1, HT.out.2.2⟩

/-! ### texts in rows -/
theorem ofNat_list (l : List UInt8) : (⟨l.toArray⟩ : ByteArray).data.toList = l := rfl
theorem byteArray_eta (x : ByteArray) : (⟨x.data.toList.toArray⟩ : ByteArray) = x := by cases x; rfl
/-- a list of texts lies at an address -/
def TxtsAt (w : World) (b off : Nat) (l : List (List UInt8)) : Prop := b < w.heap.size ∧ ∀ j x, l[j]? = some x → w.cell? ⟨b, off + j, none⟩ = some (.string ⟨x.toArray⟩)
theorem TxtsAt.on {w w' : World} {b off : Nat} {l : List (List UInt8)} (h : TxtsAt w b off l) (hb : Below w.heap.size w w') : TxtsAt w' b off l := ⟨Nat.lt_of_lt_of_le h.1 hb.size, fun j x hj => (hb.cell (p := ⟨b, off + j, none⟩) h.1).trans (h.2 j x hj)⟩
/-- MaxLen holds a number -/
def MaxLenAt (w : World) : Prop := 2 < w.heap.size ∧ ∃ m, w.cell? ⟨2, 0, none⟩ = some (.int .i64 m)
theorem MaxLenAt.on {w w' : World} (h : MaxLenAt w) (hb : Below w.heap.size w w') : MaxLenAt w' := ⟨Nat.lt_of_lt_of_le h.1 hb.size, by obtain ⟨m, hm⟩ := h.2; exact ⟨m, (hb.cell (p := ⟨_, 0, none⟩) h.1).trans hm⟩⟩
theorem split_any (t : List UInt8) (w : World) (hm : MaxLenAt w) (ht : t.length < 4294967281) :
    Calls Tryd.prog 23 #[.string ⟨t.toArray⟩, .string ⟨#[10]⟩] w fun e w' => ∃ b, e = .returned (.slice (some ⟨b, 0, none⟩) (cutsAt 10 t).length (cutsAt 10 t).length) ∧ TxtsAt w' b 0 (cutsAt 10 t) ∧ Below w.heap.size w w' := by
  obtain ⟨_, m, hm⟩ := hm
  refine (Tryd.strings_Split ⟨t.toArray⟩ ⟨#[10]⟩ m w (by simpa [ByteArray.size] using ht) hm (by decide)).mono ?_
  rintro e w' ⟨rfl, rfl⟩
  have hc := cut_cells ⟨t.toArray⟩ 10
  rw [ofNat_list] at hc
  have hlen : Lib.countB ⟨t.toArray⟩ ⟨#[10]⟩ + 1 = (cutsAt 10 t).length := by
    rw [← hc, List.length_map, Lib.splitB_all _ (by decide) 0 _ _ rfl]
  rw [hlen]
  refine ⟨w.heap.size, rfl, ⟨by simp, fun j x hj => ?_⟩, (Below.refl _ _).alloc (Nat.le_refl _) _⟩
  rw [← hc, List.getElem?_map] at hj
  obtain ⟨y, hy, rfl⟩ := Option.map_eq_some_iff.1 hj
  rw [byteArray_eta]
  exact Lib.pieces_cell w _ _ j y hy
abbrev AscTab (w : World) : Prop := Lib.TabBelow Tryd.prog w.heap.size w "strings.asciiSpace" .u8 Lib.asciiSpaceTab
theorem AscTab.on {w w' : World} (h : AscTab w) (hb : Below w.heap.size w w') : AscTab w' := fun w'' hb' => h w'' (hb.then_ hb')
theorem fields_any (t : List UInt8) (w : World) (ha : AscTab w) (ht : t.length < 4294967281) (hb : ∀ b ∈ t, b.toNat < 128) :
    Calls Tryd.prog 25 #[.string ⟨t.toArray⟩] w fun e w' => ∃ b, e = .returned (.slice (some ⟨b, 0, none⟩) (Lib.fields t).length (Lib.fields t).length) ∧ TxtsAt w' b 0 (Lib.fields t) ∧ Below w.heap.size w w' := by
  refine (Tryd.strings_Fields ⟨t.toArray⟩ w (by simpa [ByteArray.size] using ht) (fun j b hj => hb b (List.mem_of_getElem? hj)) (ha w (Below.refl _ _))).mono ?_
  rintro e w' ⟨rfl, rfl⟩
  refine ⟨w.heap.size, rfl, ⟨by simp, fun j x hj => ?_⟩, (Below.refl _ _).alloc (Nat.le_refl _) _⟩
  rw [Nat.zero_add, World.cell?_alloc_at _ _ _ _ rfl, List.getElem?_toArray, List.getElem?_map, ofNat_list, hj]
  rfl
theorem join_any (b off c : Nat) (l : List (List UInt8)) (w : World) (h : TxtsAt w b off l) (hn : l.length ≤ 140737488355328) (hc : l.length ≤ c) (hl : (Lib.join l [32]).length ≤ 140737488355328) :
    Calls Tryd.prog 26 #[.slice (some ⟨b, off, none⟩) l.length c, .string ⟨#[32]⟩] w fun e w' => e = .returned (.string ⟨(Lib.join l [32]).toArray⟩) ∧ Below w.heap.size w w' := by
  have e1 : (l.map fun x => (⟨x.toArray⟩ : ByteArray)).map (·.data.toList) = l := by rw [List.map_map]; exact List.map_id _
  have := Tryd.strings_Join b off c (l.map fun x => (⟨x.toArray⟩ : ByteArray)) ⟨#[32]⟩ w (fun j x hx => by
    rw [List.getElem?_map] at hx
    obtain ⟨y, hy, rfl⟩ := Option.map_eq_some_iff.1 hx
    exact h.2 j y hy) h.1 (by rw [List.length_map]; exact hn) (by rw [List.length_map]; exact hc) (by rw [e1]; exact hl)
  rw [e1, List.length_map] at this
  exact this
end Go.Proofs.YtpipcpjkfgdpcaaDoor
