/- What the Fresh laws of terms know between their calls: a book, a shelf, copies in boxes. Plain laws. No condition. -/
import Derived.Test.YtkdejffhdhcocaaGreatTeJ7
import Derived.Test.YtkdejffhdhcocaaGreatTeKp
import Derived.Test.YtkdejffhdhcocaaGreatTeNt
namespace Go.Proofs.YtkdejffhdhcocaaGreat
open Go.RowKit

/-- a book and a shelf, apart, in new memory -/
structure FrI (w W : World) (pb ps : Nat) (P Q : Nat → Prop) : Prop where
  be : Below w.heap.size w W
  bk : BkF W w.heap.size pb P
  sh : ShX W w.heap.size ps Q
  dj : ∀ x, P x → ¬ Q x
  pl : ∀ x, P x → w.heap.size ≤ x ∧ x < W.heap.size
  ql : ∀ x, Q x → w.heap.size ≤ x ∧ x < W.heap.size
theorem FrI.kept {w W W' : World} {pb ps : Nat} {P Q : Nat → Prop} (h : FrI w W pb ps P Q) (hb : Below w.heap.size w W') (hs : W.heap.size ≤ W'.heap.size) (hk : ∀ x, w.heap.size ≤ x → x < W.heap.size → W'.heap[x]? = W.heap[x]?) : FrI w W' pb ps P Q :=
  ⟨hb, h.bk.below fun x hx hlt => hk x (h.pl x hx).1 hlt, h.sh.kept fun x hx hlt => hk x (h.ql x hx).1 hlt, h.dj, fun x hx => ⟨(h.pl x hx).1, Nat.lt_of_lt_of_le (h.pl x hx).2 hs⟩, fun x hx => ⟨(h.ql x hx).1, Nat.lt_of_lt_of_le (h.ql x hx).2 hs⟩⟩
theorem FrI.below {w W W' : World} {pb ps : Nat} {P Q : Nat → Prop} (h : FrI w W pb ps P Q) (hb : Below W.heap.size W W') : FrI w W' pb ps P Q := h.kept (h.be.then_ hb) hb.size fun x _ hx => hb.block x hx
theorem FrI.only {w W W' : World} {pb ps : Nat} {P Q : Nat → Prop} {l : List Nat} (h : FrI w W pb ps P Q) (ho : Only W W' l) (hl : ∀ g ∈ l, W.heap.size ≤ g) : FrI w W' pb ps P Q :=
  h.below ⟨ho.os, ho.tape, ho.output, ho.size, fun k hk => ho.block k hk fun e => by have := hl k e; omega⟩
/-- a boxed term in memory of its own, from lo on -/
structure BxO (W : World) (lo g : Nat) (t : Tm) (r : Rt) : Prop where
  bx : W.heap[g]? = some (.cells #[.int .i64 t.kind, .string t.text, .int .i64 t.n, .slice r.s.p r.s.n r.s.c, .slice r.a.p r.a.n r.a.c, .slice r.k.p r.k.n r.k.c] TTm (0, 0))
  own : OwnT W lo t r
  le : lo ≤ g
  nd : (blksT r).Nodup
theorem BxO.kept {W W' : World} {lo g : Nat} {t : Tm} {r : Rt} (h : BxO W lo g t r) (hk : ∀ x, x < W.heap.size → x = g ∨ x ∈ blksT r → W'.heap[x]? = W.heap[x]?) : BxO W' lo g t r :=
  ⟨(hk g (heap_lt h.bx) (.inl rfl)).trans h.bx, h.own.kept fun x hx => hk x (h.own.blk x hx).2 (.inr hx), h.le, h.nd⟩
theorem BxO.below {W W' : World} {lo g : Nat} {t : Tm} {r : Rt} (h : BxO W lo g t r) (hb : Below W.heap.size W W') : BxO W' lo g t r := h.kept fun x hx _ => hb.block x hx
theorem BxO.lo {W : World} {lo lo' g : Nat} {t : Tm} {r : Rt} (h : BxO W lo g t r) (hl : lo' ≤ lo) : BxO W lo' g t r := ⟨h.bx, h.own.mono hl, Nat.le_trans hl h.le, h.nd⟩
theorem BxO.new {w W : World} {lo : Nat} {t : Tm} {r : Rt} (hW : W = w.alloc (.cells #[.int .i64 t.kind, .string t.text, .int .i64 t.n, .slice r.s.p r.s.n r.s.c, .slice r.a.p r.a.n r.a.c, .slice r.k.p r.k.n r.k.c] TTm)) (ho : OwnT w lo t r) (hn : (blksT r).Nodup) (hl : lo ≤ w.heap.size) : BxO W lo w.heap.size t r ∧ Below w.heap.size w W := by
  have hb : Below w.heap.size w W := by rw [hW]; exact (Below.refl _ _).alloc (Nat.le_refl _) _
  exact ⟨⟨by rw [hW]; exact heap_alloc_new w _, ho.on hb, hl, hn⟩, hb⟩
theorem BxO.six {W : World} {lo g : Nat} {t : Tm} {r : Rt} (h : BxO W lo g t r) : W.cell? ⟨g, 0, none⟩ = some (.int .i64 t.kind) ∧ W.cell? ⟨g, 1, none⟩ = some (.string t.text) ∧ W.cell? ⟨g, 2, none⟩ = some (.int .i64 t.n) ∧ W.cell? ⟨g, 3, none⟩ = some (.slice r.s.p r.s.n r.s.c) ∧ W.cell? ⟨g, 4, none⟩ = some (.slice r.a.p r.a.n r.a.c) ∧ W.cell? ⟨g, 5, none⟩ = some (.slice r.k.p r.k.n r.k.c) ∧ g < W.heap.size :=
  ⟨cell_at h.bx rfl, cell_at h.bx rfl, cell_at h.bx rfl, cell_at h.bx rfl, cell_at h.bx rfl, cell_at h.bx rfl, heap_lt h.bx⟩
/-- its own blocks: the box, the lists' -/
theorem BxO.ge {W : World} {lo g : Nat} {t : Tm} {r : Rt} (h : BxO W lo g t r) : ∀ x, x = g ∨ x ∈ blksT r → lo ≤ x ∧ x < W.heap.size := fun x hx => by
  rcases hx with rfl | hx
  · exact ⟨h.le, heap_lt h.bx⟩
  · exact h.own.blk x hx
/-- two terms that are put by, one that is written full -/
theorem FrI.more {w W0 Wk W1 Wt W2 : World} {pb ps lo : Nat} {P Q : Nat → Prop} {rx ry rz : Rt} (h : FrI w W0 pb ps P Q) (hlo : W0.heap.size ≤ lo) (h01 : W0.heap.size ≤ Wk.heap.size) (h1t : W1.heap.size ≤ Wt.heap.size) (h12 : Wt.heap.size ≤ W2.heap.size) (hk1 : Wk.heap.size ≤ W1.heap.size)
    (hx : ∀ x ∈ blksT rx, lo ≤ x ∧ x < Wk.heap.size) (hy : ∀ x ∈ blksT ry, lo ≤ x ∧ x < Wk.heap.size) (hz : ∀ x ∈ blksT rz, lo ≤ x ∧ x < Wk.heap.size) (hxy : ∀ x ∈ blksT rx, x ∉ blksT ry) (hxz : ∀ x ∈ blksT rx, x ∉ blksT rz)
    (hbe : Below w.heap.size w W2) (hbk : BkF W2 w.heap.size pb (fun x => P x ∨ x ∈ blksT rx ∨ (Wt.heap.size ≤ x ∧ x < W2.heap.size))) (hsh : ShX W2 w.heap.size ps (fun x => Q x ∨ x ∈ blksL [ry, rz] ∨ (Wk.heap.size ≤ x ∧ x < W1.heap.size))) :
    FrI w W2 pb ps (fun x => P x ∨ x ∈ blksT rx ∨ (Wt.heap.size ≤ x ∧ x < W2.heap.size)) (fun x => Q x ∨ x ∈ blksL [ry, rz] ∨ (Wk.heap.size ≤ x ∧ x < W1.heap.size)) := by
  have hyz : ∀ x, x ∈ blksL [ry, rz] → x ∈ blksT ry ∨ x ∈ blksT rz := fun x hx => by simpa [blksL] using hx
  have hw := h.be.size
  refine ⟨hbe, hbk, hsh, fun x hp hq => ?_, fun x hp => ?_, fun x hq => ?_⟩
  · rcases hp with hp | hp | hp
    · have h1 := h.pl x hp
      rcases hq with hq | hq | hq
      · exact h.dj x hp hq
      · rcases hyz x hq with e | e
        · have := hy x e; omega
        · have := hz x e; omega
      · omega
    · have h1 := hx x hp
      rcases hq with hq | hq | hq
      · have := h.ql x hq; omega
      · rcases hyz x hq with e | e
        · exact hxy x hp e
        · exact hxz x hp e
      · omega
    · rcases hq with hq | hq | hq
      · have := h.ql x hq; omega
      · rcases hyz x hq with e | e
        · have := hy x e; omega
        · have := hz x e; omega
      · omega
  · rcases hp with hp | hp | hp
    · have h1 := h.pl x hp; omega
    · have h1 := hx x hp; omega
    · omega
  · rcases hq with hq | hq | hq
    · have h1 := h.ql x hq; omega
    · rcases hyz x hq with e | e
      · have := hy x e; omega
      · have := hz x e; omega
    · omega
section
variable {w W0 Wk W1 Wt W2 : World} {pb ps lo : Nat} {P Q : Nat → Prop} {rx ry rz : Rt}
/-- the book's and the shelf's blocks stay apart -/
theorem FrI.apart (h : FrI w W0 pb ps P Q) (hlo : W0.heap.size ≤ lo) (h01 : W0.heap.size ≤ Wk.heap.size)
    (hx : ∀ x ∈ blksT rx, lo ≤ x ∧ x < Wk.heap.size) (hy : ∀ x ∈ blksT ry, lo ≤ x ∧ x < Wk.heap.size) (hz : ∀ x ∈ blksT rz, lo ≤ x ∧ x < Wk.heap.size) (hxy : ∀ x ∈ blksT rx, x ∉ blksT ry) (hxz : ∀ x ∈ blksT rx, x ∉ blksT rz) :
    ∀ x, (Q x ∨ x ∈ blksL [ry, rz] ∨ (Wk.heap.size ≤ x ∧ x < W1.heap.size)) → ¬ (P x ∨ x ∈ blksT rx) := fun x hq hp => by
  have hyz : ∀ x, x ∈ blksL [ry, rz] → x ∈ blksT ry ∨ x ∈ blksT rz := fun x hx => by simpa [blksL] using hx
  rcases hp with hp | hp
  · have h1 := h.pl x hp
    rcases hq with hq | hq | hq
    · exact h.dj x hp hq
    · rcases hyz x hq with e | e
      · have := hy x e; omega
      · have := hz x e; omega
    · omega
  · have h1 := hx x hp
    rcases hq with hq | hq | hq
    · have := h.ql x hq; omega
    · rcases hyz x hq with e | e
      · exact hxy x hp e
      · exact hxz x hp e
    · omega
end
theorem ShX.new {w : World} {B ps : Nat} {Q : Nat → Prop} (h : w.heap[ps]? = some (.cells #[.slice none 0 0, .slice none 0 0, .int .i64 0] TShf (0, 0))) (hq : Q ps) (hB : B ≤ ps) : ShX w B ps Q :=
  ⟨[], [], [], _, _, 0, ⟨h, hq, hB, World.ownsRow_nil _ _ _ _, World.ownsRow_nil _ _ _ _, by simp only [OwnL], by simp only [OwnL], fun x hx => (by cases hx), fun x hx => (by cases hx), fun x hx => (by simp only [blksL] at hx; cases hx), fun x hx => (by simp only [blksL] at hx; cases hx), by simp only [blksL, List.append_nil]; exact List.nodup_nil, fun x hx => (by cases hx), fun x hx => (by cases hx), fun x hx => (by cases hx)⟩, by simp, by omega⟩
section
variable {W : World} {B0 : Nat} {t : Tm} {r : Rt}
theorem copy_rt (ho : OwnT W B0 t r) (hwf : WfT t) : Calls Tryz.prog 30 #[rtVal t r] W (CopyPost t W) := by rw [own_val ho]; exact copy_any _ _ _ _ _ _ _ _ ho.read.1 hwf
theorem names_rt (ho : OwnT W B0 t r) (hwf : WfT t) : Calls Tryz.prog 31 #[rtVal t r] W (NamesPost t W) := by rw [own_val ho]; exact names_any _ _ _ _ _ _ _ _ ho.read.1 hwf
theorem may_rt (ho : OwnT W B0 t r) (hwf : WfT t) (c : Int) : Calls Tryz.prog 32 #[rtVal t r, .int .i64 c] W fun e w' => e = .returned (.int .i64 (mayT t c)) ∧ Below W.heap.size W w' := by rw [own_val ho]; exact may_any _ _ _ _ _ _ _ _ _ ho.read.1 hwf
theorem same_rt {A B K : Option Addr} {ca cb ck : Nat} (ho : OwnT W B0 t r) (hat : TmAt W t A B K) (hwf : WfT t) (hg : greatT t = false) : Calls Tryz.prog 33 #[rtVal t r, tmVal t A ca B cb K ck] W fun e w' => e = .returned (.bool true) ∧ Below W.heap.size W w' := by
  have hs : sameT t t = true := by unfold sameT; rw [hg, (eqT_iff t t).2 rfl]; rfl
  rw [own_val ho, ← hs]
  exact sameV_any _ _ _ _ _ _ _ _ _ _ _ _ _ _ _ ho.read.1 hat hwf hwf
theorem eq_rt {A B K : Option Addr} {ca cb ck : Nat} (ho : OwnT W B0 t r) (hat : TmAt W t A B K) (hwf : WfT t) (hg : greatT t = false) : Calls Tryz.prog 13 #[rtVal t r, tmVal t A ca B cb K ck] W fun e w' => e = .returned (.bool true) ∧ Below W.heap.size W w' := by
  rw [own_val ho]
  exact eq_any _ _ _ _ _ _ _ _ _ _ _ _ _ _ ho.read.1 hat hwf hg
end
end Go.Proofs.YtkdejffhdhcocaaGreat
