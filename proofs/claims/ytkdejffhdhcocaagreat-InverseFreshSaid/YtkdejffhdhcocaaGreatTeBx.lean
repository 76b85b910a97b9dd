/- Boxed terms. No condition. -/
import Derived.Test.YtkdejffhdhcocaaGreatTeMC
namespace Go.Proofs.YtkdejffhdhcocaaGreat
open Go.RowKit

/-- a boxed term: its cells, its lists, from this world on -/
structure BoxAt (W : World) (g : Nat) (t : Tm) (A : Option Addr) (ca : Nat) (B : Option Addr) (cb : Nat) (K : Option Addr) (ck : Nat) : Prop where
  cells : W.heap[g]? = some (.cells (tmCells t A ca B cb K ck) TTm (0, 0))
  at_ : TmAt W t A B K
theorem BoxAt.on {W W' : World} {g : Nat} {t : Tm} {A : Option Addr} {ca : Nat} {B : Option Addr} {cb : Nat} {K : Option Addr} {ck : Nat} (h : BoxAt W g t A ca B cb K ck) (hb : Below W.heap.size W W') : BoxAt W' g t A ca B cb K ck := ⟨(hb.block _ (heap_lt h.cells)).trans h.cells, h.at_.on hb⟩
theorem BoxAt.six {W : World} {g : Nat} {t : Tm} {A : Option Addr} {ca : Nat} {B : Option Addr} {cb : Nat} {K : Option Addr} {ck : Nat} (h : BoxAt W g t A ca B cb K ck) : (W.cell? ⟨g, 0, none⟩ = some (.int .i64 t.kind) ∧ W.cell? ⟨g, 1, none⟩ = some (.string t.text) ∧ W.cell? ⟨g, 2, none⟩ = some (.int .i64 t.n) ∧ W.cell? ⟨g, 3, none⟩ = some (.slice A t.sh.length ca) ∧ W.cell? ⟨g, 4, none⟩ = some (.slice B t.at_.length cb) ∧ W.cell? ⟨g, 5, none⟩ = some (.slice K t.kids.length ck)) ∧ g < W.heap.size :=
  ⟨⟨cell_at h.cells rfl, cell_at h.cells rfl, cell_at h.cells rfl, cell_at h.cells rfl, cell_at h.cells rfl, cell_at h.cells rfl⟩, heap_lt h.cells⟩
/-- a term in memory of its own that is boxed -/
theorem box_own {w W : World} {t : Tm} {r : Rt} {B : Nat} (hW : W = w.alloc (.cells #[.int .i64 t.kind, .string t.text, .int .i64 t.n, .slice r.s.p r.s.n r.s.c, .slice r.a.p r.a.n r.a.c, .slice r.k.p r.k.n r.k.c] TTm)) (ho : OwnT w B t r) : BoxAt W w.heap.size t r.s.p r.s.c r.a.p r.a.c r.k.p r.k.c ∧ Below w.heap.size w W := by
  have hb : Below w.heap.size w W := by rw [hW]; exact (Below.refl _ _).alloc (Nat.le_refl _) _
  obtain ⟨hta, f1, f2, f3⟩ := ho.read
  refine ⟨⟨?_, hta.on hb⟩, hb⟩
  rw [hW, f1, f2, f3]
  exact heap_alloc_new w _
theorem own_val {w : World} {t : Tm} {r : Rt} {B : Nat} (ho : OwnT w B t r) : rtVal t r = tmVal t r.s.p r.s.c r.a.p r.a.c r.k.p r.k.c := by
  obtain ⟨_, f1, f2, f3⟩ := ho.read
  unfold rtVal
  rw [f1, f2, f3]
end Go.Proofs.YtkdejffhdhcocaaGreat
