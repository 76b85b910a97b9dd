/- trait.Total: its closures. Condition: sizes within reach. -/
import Derived.Test.YtebiojmfieoncaaGreatTeT3
import Derived.Test.YtebiojmfieoncaaGreatTeT4
namespace Go.Proofs.YtebiojmfieoncaaGreat
open Go.RowKit Go.WideMaps Go.Maps

abbrev TFn : TypeId := 93
abbrev TPt : TypeId := 83
def andV (x v : Int) : Bool := decide (x = v) || decide (x = 3)
def fK (fs : List (Int → Bool)) (i : Nat) : Int → Bool := fs.getD i (fun _ => false)
def totK (k : Int) (s : List UInt8) (l : List Int) (ks : List Tm) (fs : List (Int → Bool)) (v : Int) : Bool :=
  if k = 20 then andV (valM s) v else if k = 22 then decide ((nth ks 0).kind = 1) else if k = 27 then fK fs 0 2 else if k = 29 ∨ k = 46 then fK fs 1 v && fK fs 0 1
  else if k = 31 then fK fs 1 1 && fK fs 0 v else if k = 44 then fK fs 1 1 && fK fs 0 2 else if k = 45 then (fK fs 0 v && fK fs 2 v) && fK fs 1 2
  else if k = 42 then (if (v = 1 ∧ (listed3 l).a ≠ 64) ∨ (v = 2 ∧ ((listed3 l).b ≠ 64 ∨ (listed3 l).c ≠ 64)) then false else fK fs 0 v)
  else if k = 41 then (if scalarB (nth ks 1) = true then (if (nth ks 1).at_.getD 0 0 = 0 then true else if 0 < (nth ks 1).at_.getD 0 0 then fK fs 0 v else false) else false)
  else if k = 35 then fK fs 0 v || fK fs 1 v else if k = 36 then fK fs 0 v else if k = 37 then (if v = 1 then fK fs 0 v else fK fs 1 v) else false
mutual
/-- is a verb total in a valence? -/
def totT : Tm → Int → Bool
  | .mk k s _ _ l ks, v => totK k s.data.toList l ks (totL ks) v
def totL : List Tm → List (Int → Bool)
  | [] => []
  | t :: r => totT t :: totL r
end
theorem totL_map : ∀ l : List Tm, totL l = l.map totT
  | [] => rfl
  | t :: r => by simp only [totL, totL_map r, List.map_cons]
theorem totT_eq (t : Tm) (v : Int) : totT t v = totK t.kind t.text.data.toList t.at_ t.kids (t.kids.map totT) v := by cases t; simp only [totT, totL_map]; rfl
/-- the map and the two captured cells -/
structure TotW (w : World) (B Gm Gl n : Nat) (D : DataW Unit) : Prop where
  map : w.ownsMap Tryz.prog TSt (plainElem (H := Unit) Tryz.prog TIt) B n D
  is : ValIs D 20 6
  gm : w.heap[Gm]? = some (.cells #[.map (some B)] TMp (0, 0))
  gl : w.heap[Gl]? = some (.cells #[.func (.func 68) #[] #[.pointer (some ⟨Gl, 0, none⟩), .pointer (some ⟨Gm, 0, none⟩)]] TFn (0, 0))
theorem TotW.on {w w' : World} {B Gm Gl n : Nat} {D : DataW Unit} (h : TotW w B Gm Gl n D) (hb : Below w.heap.size w w') : TotW w' B Gm Gl n D :=
  ⟨h.map.kept (row := none) (grown_below hb none) (by simp), h.is, (hb.block _ (heap_lt h.gm)).trans h.gm, (hb.block _ (heap_lt h.gl)).trans h.gl⟩
/-- 'total' on terms of at most N nodes -/
def TotN (N : Nat) : Prop := ∀ (t : Tm) (b off : Nat) (v : Int) (w : World) (B Gm Gl n : Nat) (D : DataW Unit), cnt t ≤ N → PtrAt w b off t → WfT t → goodT false t = true → (v = 1 ∨ v = 2) → TotW w B Gm Gl n D →
  Calls Tryz.prog 68 #[.pointer (some ⟨b, off, none⟩), .int .i64 v, .pointer (some ⟨Gl, 0, none⟩), .pointer (some ⟨Gm, 0, none⟩)] w fun e w' => e = .returned (.bool (totT t v)) ∧ Below w.heap.size w w'
set_option maxRecDepth 100000 in
set_option maxHeartbeats 8000000 in
theorem tkid_any (N : Nat) (ih : TotN N) (t x : Tm) (i b off : Nat) (v : Int) (w : World) (B Gm Gl n G4 : Nat) (D : DataW Unit) (hp : PtrAt w b off t) (hwt : WfT t) (hx : t.kids[i]? = some x) (hc : cnt x ≤ N) (hw : WfT x) (hg : goodT false x = true) (hv : v = 1 ∨ v = 2) (hT : TotW w B Gm Gl n D)
    (h4 : w.heap[G4]? = some (.cells #[.pointer (some ⟨b, off, none⟩)] TPt (0, 0))) :
    Calls Tryz.prog 69 #[.int .i64 i, .int .i64 v, .pointer (some ⟨Gl, 0, none⟩), .pointer (some ⟨G4, 0, none⟩)] w fun e w' => e = .returned (.bool (totT x v)) ∧ Below w.heap.size w w' := by
  obtain ⟨A, ca, B0, cb, K, ck, hlt, p0, p1, p2, p3, p4, p5, hat⟩ := hp.cells
  obtain ⟨bk, ok, hKe, px⟩ := hat.kids.get hx
  subst hKe
  rw [Nat.zero_add] at px
  obtain ⟨nk, hnk⟩ : ∃ nk, nk = t.kids.length := ⟨_, rfl⟩
  rw [← hnk] at p5
  have hil := (List.getElem?_eq_some_iff.1 hx).1
  have b1 : (0 : Int) ≤ (i : Int) := by omega
  have b2 : (i : Int) < (nk : Int) := by omega
  have b3 : nk ≤ 140737488351232 := by rw [hnk]; exact hwt.node.kids
  have HC := Lib.hid (ih x bk (ok + i * 6) v w.drew B Gm Gl n D hc (px.on (Below.refl _ _).drew) hw hg hv (hT.on (Below.refl _ _).drew))
  have cl := cell_at hT.gl (j := 0) rfl
  have c4 := cell_at h4 (j := 0) rfl
  clear hp hwt hx hc hw hg hv hT h4 hat px hnk hil ih
  go_enter Tryz.func69, Tryz.ntmps69
  go_upto_region 1 with fail
  go_region_law (go_simp; go_at_call 68; refine HC.out.mono ?_; rintro e w2 ⟨rfl, hb2⟩)
  all_goals
    go_wp2_with fail
    go_ret
    exact ⟨rfl, (Below.refl _ _).drew.then_ hb2⟩
end Go.Proofs.YtebiojmfieoncaaGreat
