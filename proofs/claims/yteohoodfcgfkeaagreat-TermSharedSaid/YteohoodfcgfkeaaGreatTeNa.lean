/- term.Names: the closure that looks at each node and counts its name in a map. Condition: sizes within reach. -/
import Derived.Test.YteohoodfcgfkeaaGreatTeWa
import Derived.StringKeys
import Derived.Maps.Own
import Derived.Maps.OwnOps
import Derived.Maps.Views
import Derived.Deep.RegionLaw
import Derived.Deep.RegionWith
namespace Go.Proofs.YteohoodfcgfkeaaGreat
open Go.RowKit Go.Maps Go.WideMaps

def isNm (k : Int) : Bool := decide (k = 2 ∨ k = 21 ∨ k = 11)
mutual
/-- the names that a term speaks of -/
def nmT : Tm → List ByteArray
  | .mk k s _ _ _ ks => (if isNm k = true then [s] else []) ++ nmL ks
def nmL : List Tm → List ByteArray
  | [] => []
  | t :: r => nmT t ++ nmL r
end
abbrev TSt : TypeId := 9
abbrev TIt : TypeId := 3
abbrev TMp : TypeId := 79
theorem lawS : Keyed Tryz.prog TSt := string_keyed Tryz.underlying9
theorem zeroI (w : World) : (zeroValue TIt).run Tryz.prog w = .ok (.int .i64 0) w := by kernel_rfl
abbrev keyL (s : ByteArray) : Lit := .string s.data.toList
theorem key_of (s : ByteArray) (h : s.size ≤ maxLen) : keyOf Tryz.prog TSt (.string s) = some (keyL s) := keyOf_string_mk Tryz.underlying9 h
/-- the map and the two captured cells -/
structure LookW (w0 w : World) (B Gm Gl n : Nat) (D : DataW Unit) : Prop where
  map : w.ownsMap Tryz.prog TSt (plainElem Tryz.prog TIt) B n D
  gm : w.heap[Gm]? = some (.cells #[.map (some B)] TMp (0, 0))
  gl : w.heap[Gl]? = some (.cells #[.func (.func 54) #[] #[.pointer (some ⟨Gm, 0, none⟩), .pointer (some ⟨Gl, 0, none⟩)]] 80 (0, 0))
  lo : w0.heap.size ≤ B
  be : Below w0.heap.size w0 w
theorem LookW.grown {w0 w w' : World} {B Gm Gl n n' : Nat} {D D' : DataW Unit} (h : LookW w0 w B Gm Gl n D) (hm : w'.ownsMap Tryz.prog TSt (plainElem Tryz.prog TIt) B n' D') (hg : w.grownBy w' (some B)) : LookW w0 w' B Gm Gl n' D' := by
  have hB : ∃ es c, w.heap[B]? = some (.map es c) := by obtain ⟨es, c, h1, _⟩ := h.map; exact ⟨es, c, h1⟩
  obtain ⟨es, c, hB⟩ := hB
  have ne : ∀ g cs t f, w.heap[g]? = some (.cells cs t f) → some g ≠ some B := fun g cs t f h1 e => by
    injection e with e
    subst e
    rw [hB] at h1
    cases h1
  exact ⟨hm, (hg.block _ (heap_lt h.gm) (ne _ _ _ _ h.gm)).trans h.gm, (hg.block _ (heap_lt h.gl) (ne _ _ _ _ h.gl)).trans h.gl, h.lo, h.be.grown hg h.be.size fun k hk => by injection hk with hk; rw [← hk]; exact h.lo⟩
theorem LookW.drew {w0 w : World} {B Gm Gl n : Nat} {D : DataW Unit} (h : LookW w0 w B Gm Gl n D) : LookW w0 w.drew B Gm Gl n D := ⟨h.map.drew, h.gm, h.gl, h.lo, h.be.drew⟩
end Go.Proofs.YteohoodfcgfkeaaGreat
