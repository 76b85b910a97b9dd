/- What ShowFresh keeps from round to round: its count, its book, what lies untouched. No condition. -/
import Derived.Test.YtpipcpjkfgdpcaaDoorShFr8
namespace Go.Proofs.YtpipcpjkfgdpcaaDoor
open Go.RowKit

/-- an array's two rows: what they hold -/
structure RowsOf (w : World) (B : Nat) (r1 r2 : Rw) (sh at_ : List Int) : Prop where
  s : RowAt TI w B r1
  a : RowAt TA w B r2
  sl : r1.n = sh.length
  al : r2.n = at_.length
  si : IntsAt w (r1.g.map fun b => ⟨b, 0, none⟩) sh
  ai : IntsAt w (r2.g.map fun b => ⟨b, 0, none⟩) at_
  shl : sh.length ≤ 1048576
  atl : at_.length ≤ 1048576
theorem RowsOf.same {w w' : World} {B : Nat} {r1 r2 : Rw} {sh at_ : List Int} (h : RowsOf w B r1 r2 sh at_) (hs : w.heap.size ≤ w'.heap.size) (hk : ∀ b, (r1.g = some b ∨ r2.g = some b) → w'.heap[b]? = w.heap[b]?) : RowsOf w' B r1 r2 sh at_ :=
  ⟨h.s.kept fun b hb => hk b (.inl hb), h.a.kept fun b hb => hk b (.inr hb), h.sl, h.al, h.si.same hs fun b hb => hk b (.inl hb), h.ai.same hs fun b hb => hk b (.inr hb), h.shl, h.atl⟩
theorem RowsOf.lt {w : World} {B b : Nat} {r1 r2 : Rw} {sh at_ : List Int} (h : RowsOf w B r1 r2 sh at_) (hb : r1.g = some b ∨ r2.g = some b) : B ≤ b ∧ b < w.heap.size := by
  rcases hb with hb | hb
  · exact ⟨(h.s.at_ b hb).1, h.s.lt hb⟩
  · exact ⟨(h.a.at_ b hb).1, h.a.lt hb⟩
theorem RowsOf.on {w w' : World} {B : Nat} {r1 r2 : Rw} {sh at_ : List Int} (h : RowsOf w B r1 r2 sh at_) (hb : Below w.heap.size w w') : RowsOf w' B r1 r2 sh at_ := h.same hb.size fun b hg => hb.block b (h.lt hg).2
theorem RowsOf.low {w : World} {B B' : Nat} {r1 r2 : Rw} {sh at_ : List Int} (h : RowsOf w B r1 r2 sh at_) (hB : B' ≤ B) : RowsOf w B' r1 r2 sh at_ := ⟨h.s.mono hB, h.a.mono hB, h.sl, h.al, h.si, h.ai, h.shl, h.atl⟩
theorem row_of {w : World} {B : Nat} {t : TypeId} {v : Value} {l : List Int} (h : w.ownsRow B t 1 v l.length (l.map fun x => .int .i64 x)) : ∃ r : Rw, v = .slice (r.g.map fun b => ⟨b, 0, none⟩) r.n r.c ∧ RowAt t w B r ∧ r.n = l.length ∧ IntsAt w (r.g.map fun b => ⟨b, 0, none⟩) l := by
  have h0 := h
  rcases h.2 with ⟨rfl, h1⟩ | ⟨g, cap, cur, rfl, hb, hk, hl, hm, hs, _⟩
  · exact ⟨⟨none, 0, 0⟩, rfl, ⟨Nat.le_refl _, Nat.zero_le _, fun _ => rfl, fun b hb => by cases hb⟩, h1.symm, row_ints h0⟩
  · exact ⟨⟨some g, l.length, cap⟩, rfl, ⟨hl, hm, fun h => (by cases h), fun b hb' => (by cases hb'; exact ⟨hb, cur, hk, by simpa using hs⟩)⟩, rfl, row_ints h0⟩
/-- what Read leaves, by rows -/
def RowRead (s : ByteArray) (w : World) (e : Ending) (w' : World) : Prop :=
  ∃ (r1 r2 : Rw) (place err : Int) (sh at_ : List Int), e = .returned (.tuple #[.agg #[.slice (r1.g.map fun b => ⟨b, 0, none⟩) r1.n r1.c, .slice (r2.g.map fun b => ⟨b, 0, none⟩) r2.n r2.c], .int .i64 place, .int .i64 err]) ∧ Below w.heap.size w w' ∧ readSpec (lst s) = (sh, at_, place, err) ∧ RowsOf w' w.heap.size r1 r2 sh at_
theorem rowRead {s : ByteArray} {w w' : World} {e : Ending} (h : RRead s w e w') : RowRead s w e w' := by
  obtain ⟨sv, av, place, err, sh, at_, rfl, hb, hr, o1, o2, _, _, l1, l2⟩ := h
  obtain ⟨r1, rfl, h1, h2, h3⟩ := row_of o1
  obtain ⟨r2, rfl, h4, h5, h6⟩ := row_of o2
  exact ⟨r1, r2, place, err, sh, at_, rfl, hb, hr, h1, h4, h2, h5, h3, h6, l1, l2⟩
theorem eqRows (w : World) (B B' : Nat) (r1 r2 r3 r4 : Rw) (sh at_ : List Int) (h : RowsOf w B r1 r2 sh at_) (k : RowsOf w B' r3 r4 sh at_) :
    Calls Tryd.prog 16 #[.agg #[.slice (r1.g.map fun b => ⟨b, 0, none⟩) r1.n r1.c, .slice (r2.g.map fun b => ⟨b, 0, none⟩) r2.n r2.c], .agg #[.slice (r3.g.map fun b => ⟨b, 0, none⟩) r3.n r3.c, .slice (r4.g.map fun b => ⟨b, 0, none⟩) r4.n r4.c]] w fun e w' => e = .returned (.bool true) ∧ Below w.heap.size w w' := by
  have h1 := h.shl
  have h2 := h.atl
  rw [h.sl, h.al, k.sl, k.al]
  refine (eq_any _ _ _ _ _ _ _ _ sh at_ sh at_ w ⟨h.si, h.ai⟩ ⟨k.si, k.ai⟩ (by omega) (by omega) (by omega) (by omega)).mono ?_
  rintro e w' ⟨rfl, hb⟩
  exact ⟨by simp, hb⟩
theorem itemOf {w : World} {B B1 B2 : Nat} {r1 r2 r3 r4 : Rw} {sh at_ : List Int} (h : RowsOf w B1 r1 r2 sh at_) (k : RowsOf w B2 r3 r4 sh at_) (h1 : B ≤ B1) (h2 : B ≤ B2) : ItemAt w B ⟨r1, r2, r3, r4, sh, at_⟩ :=
  have h := h.low h1
  have k := k.low h2
  ⟨h.s, h.a, k.s, k.a, h.sl, h.al, k.sl, k.al, h.si, h.ai, k.si, k.ai, h.shl, h.atl⟩

/-- one array among those that TakeArrays writes: what lies apart -/
theorem ap_not {W : World} {B pb k mu : Nat} {iv av : Value} {ri ra : List Rw} {r1 r2 : Rw} {c : Array Value} {t : TypeId} (h : BookAt W B pb iv av mu ri ra) (hk : W.heap[k]? = some (.cells c t (0, 0))) (h1 : t ≠ TBk) (h2 : t ≠ TSI) (h3 : t ≠ TSA)
    (hr : r1.g ≠ some k ∧ r2.g ≠ some k) : ¬ AP pb iv av [(r1, r2)] k := fun hp => by
  rcases hp with hp | hp | hp | ⟨p, hp, hq⟩
  · subst hp; exact h1 (types_apart hk h.bk)
  · obtain ⟨c2, hc⟩ := own_type h.oi k hp.symm; exact h2 (types_apart hk hc)
  · obtain ⟨c2, hc⟩ := own_type h.oa k hp.symm; exact h3 (types_apart hk hc)
  · rw [List.mem_singleton] at hp
    subst hp
    rcases hq with hq | hq
    · exact hr.1 hq
    · exact hr.2 hq
theorem qp_not {W : World} {B pq k mu : Nat} {gv wv : Value} {its : List Item} {c : Array Value} {t : TypeId} (h : QuietAt W B pq gv wv mu its) (hk : W.heap[k]? = some (.cells c t (0, 0))) (h1 : t ≠ TQ) (h2 : t ≠ TAr) : ¬ QP pq gv wv k := fun hp => by
  rcases hp with hp | hp | hp
  · subst hp; exact h1 (types_apart hk h.bk)
  · obtain ⟨c2, hc⟩ := own_type h.og k hp.symm; exact h2 (types_apart hk hc)
  · obtain ⟨c2, hc⟩ := own_type h.ow k hp.symm; exact h2 (types_apart hk hc)

structure FPk (w W : World) (pw pb pq m : Nat) (iv av : Value) (mu : Nat) (ri ra : List Rw) (gv wv : Value) (mq : Nat) (its : List Item) : Prop where
  be : Below w.heap.size w W
  hw : W.heap[pw]? = some (.cells #[.int .i64 m] TW (0, 0))
  bk : BookAt W w.heap.size pb iv av mu ri ra
  qt : QuietAt W w.heap.size pq gv wv mq its
  it : ∀ it ∈ its, ItemAt W w.heap.size it
  a1 : (its.map Item.gs).Pairwise fun a b => a.g = none ∨ a.g ≠ b.g
  a2 : (its.map Item.ga).Pairwise fun a b => a.g = none ∨ a.g ≠ b.g
  gw : w.heap.size ≤ pw
  gb : w.heap.size ≤ pb
  gq : w.heap.size ≤ pq
section
variable {w W W' : World} {pw pb pq m mu mq : Nat} {iv av gv wv : Value} {ri ra : List Rw} {its : List Item}
theorem FPk.on (h : FPk w W pw pb pq m iv av mu ri ra gv wv mq its) (hb : Below W.heap.size W W') : FPk w W' pw pb pq m iv av mu ri ra gv wv mq its :=
  ⟨h.be.then_ hb, (hb.block _ (heap_lt h.hw)).trans h.hw, h.bk.on hb, h.qt.on hb, fun it hi => (h.it it hi).on hb, h.a1, h.a2, h.gw, h.gb, h.gq⟩
theorem FPk.over (h : FPk w W pw pb pq m iv av mu ri ra gv wv mq its) (m' : Nat) : FPk w (W.setCell ⟨pw, 0, none⟩ (.int .i64 (m' : Int))) pw pb pq m' iv av mu ri ra gv wv mq its := by
  have keep : ∀ (k : Nat) (c : Array Value) (t : TypeId), W.heap[k]? = some (.cells c t (0, 0)) → t ≠ TW → (W.setCell ⟨pw, 0, none⟩ (.int .i64 (m' : Int))).heap[k]? = W.heap[k]? := fun k c t hk ht => Below.heap_setCell _ _ _ _ (fun e => by
    have e' : k = pw := e
    subst e'
    exact ht (types_apart hk h.hw))
  have hs : (W.setCell ⟨pw, 0, none⟩ (.int .i64 (m' : Int))).heap.size = W.heap.size := by simp [World.setCell]
  refine ⟨h.be.setCell h.gw _, by rw [Go.heap_setCell_same W pw 0 _ TW _ h.hw]; rfl, h.bk.kept (keep _ _ _ h.bk.bk (by decide)) (fun k hk => ?_) (fun k hk => ?_) (fun r hr b hb => ?_) (fun r hr b hb => ?_), h.qt.kept (keep _ _ _ h.qt.bk (by decide)) (fun k hk => ?_) (fun k hk => ?_), fun it hi => (h.it it hi).same (by rw [hs]; exact Nat.le_refl _) fun b hb => ?_, h.a1, h.a2, h.gw, h.gb, h.gq⟩
  · obtain ⟨c, hc⟩ := own_type h.bk.oi k hk; exact keep _ _ _ hc (by decide)
  · obtain ⟨c, hc⟩ := own_type h.bk.oa k hk; exact keep _ _ _ hc (by decide)
  · obtain ⟨_, c, hc, _⟩ := (h.bk.ri hr).at_ b hb; exact keep _ _ _ hc (by decide)
  · obtain ⟨_, c, hc, _⟩ := (h.bk.ra hr).at_ b hb; exact keep _ _ _ hc (by decide)
  · obtain ⟨c, hc⟩ := own_type h.qt.og k hk; exact keep _ _ _ hc (by decide)
  · obtain ⟨c, hc⟩ := own_type h.qt.ow k hk; exact keep _ _ _ hc (by decide)
  · obtain ⟨c, t, hc, ht⟩ := (h.it it hi).type hb
    exact keep _ _ _ hc (by rcases ht with rfl | rfl <;> decide)
/-- behind TakeArrays of one array, whose rows are newer than all that is kept -/
theorem FPk.take {S : Nat} {r1 r2 : Rw} {iv' av' : Value} {mu' : Nat} {ri' ra' : List Rw} (h : FPk w W pw pb pq m iv av mu ri ra gv wv mq its) (hon : Only (AP pb iv av [(r1, r2)]) W W') (hb : BookAt W' w.heap.size pb iv' av' mu' ri' ra')
    (hS : ∀ b, r1.g = some b ∨ r2.g = some b → S ≤ b) (hw : w.heap.size ≤ S) (hi : ∀ it ∈ its, ∀ b, (it.gs.g = some b ∨ it.ga.g = some b ∨ it.ws.g = some b ∨ it.wa.g = some b) → b < S) (t1 : ∀ b, r1.g = some b → ∃ c, W.heap[b]? = some (.cells c TI (0, 0))) (t2 : ∀ b, r2.g = some b → ∃ c, W.heap[b]? = some (.cells c TA (0, 0))) :
    FPk w W' pw pb pq m iv' av' mu' ri' ra' gv wv mq its := by
  have keep : ∀ (k : Nat) (c : Array Value) (t : TypeId), W.heap[k]? = some (.cells c t (0, 0)) → t ≠ TBk → t ≠ TSI → t ≠ TSA → (t = TI ∨ t = TA → k < S) → W'.heap[k]? = W.heap[k]? := fun k c t hk h1 h2 h3 h4 => hon.block k (heap_lt hk) (ap_not h.bk hk h1 h2 h3 ⟨fun e => by
      obtain ⟨c2, hc⟩ := t1 k e
      have := h4 (.inl (types_apart hk hc))
      have := hS k (.inl e)
      omega, fun e => by
      obtain ⟨c2, hc⟩ := t2 k e
      have := h4 (.inr (types_apart hk hc))
      have := hS k (.inr e)
      omega⟩)
  refine ⟨h.be.trans (hon.base h.be.size fun k hk => ?_), (keep _ _ _ h.hw (by decide) (by decide) (by decide) (fun e => absurd e (by decide))).trans h.hw, hb, h.qt.kept (keep _ _ _ h.qt.bk (by decide) (by decide) (by decide) (fun e => absurd e (by decide))) (fun k hk => ?_) (fun k hk => ?_), fun it hm => (h.it it hm).same hon.size fun b hb' => ?_, h.a1, h.a2, h.gw, h.gb, h.gq⟩
  · rcases hk with hk | hk | hk | ⟨p, hp, hk⟩
    · rw [hk]; exact h.gb
    · exact (h.bk.oi.lt k hk.symm).1
    · exact (h.bk.oa.lt k hk.symm).1
    · rw [List.mem_singleton] at hp
      subst hp
      exact Nat.le_trans hw (hS k hk)
  · obtain ⟨c, hc⟩ := own_type h.qt.og k hk; exact keep _ _ _ hc (by decide) (by decide) (by decide) (fun e => absurd e (by decide))
  · obtain ⟨c, hc⟩ := own_type h.qt.ow k hk; exact keep _ _ _ hc (by decide) (by decide) (by decide) (fun e => absurd e (by decide))
  · obtain ⟨c, t, hc, ht⟩ := (h.it it hm).type hb'
    refine keep _ _ _ hc ?_ ?_ ?_ (fun _ => hi it hm b hb') <;> (rcases ht with rfl | rfl <;> decide)
theorem pair_snoc {f : Item → Rw} {its ks : List Item} (h : (its.map f).Pairwise fun a b => a.g = none ∨ a.g ≠ b.g) {S : Nat} (h1 : ∀ it ∈ its, ∀ b, (f it).g = some b → b < S) (h2 : ∀ it ∈ ks, ∀ b, (f it).g = some b → S ≤ b) (hk : (ks.map f).Pairwise fun a b => a.g = none ∨ a.g ≠ b.g) :
    ((its ++ ks).map f).Pairwise fun a b => a.g = none ∨ a.g ≠ b.g := by
  rw [List.map_append]
  refine List.pairwise_append.2 ⟨h, hk, fun x hx y hy => ?_⟩
  obtain ⟨i, hi, rfl⟩ := List.mem_map.1 hx
  obtain ⟨j, hj, rfl⟩ := List.mem_map.1 hy
  cases hg : (f i).g with
  | none => exact .inl rfl
  | some b => exact .inr fun e => by have := h1 i hi b hg; have := h2 j hj b e.symm; omega
/-- behind Keep of some items, newer than all that is kept -/
theorem FPk.keep {S n : Nat} {gv' wv' : Value} {mq' : Nat} {new ks : List Item} (h : FPk w W pw pb pq m iv av mu ri ra gv wv mq its) (hk : K1 W w.heap.size pq gv wv its new n W' gv' wv' mq' ks) (hn : ∀ it ∈ new, ItemAt W w.heap.size it)
    (hi : ∀ it ∈ its, ∀ b, (it.gs.g = some b ∨ it.ga.g = some b ∨ it.ws.g = some b ∨ it.wa.g = some b) → b < S) (hS : ∀ it ∈ new, ∀ b, it.gs.g = some b ∨ it.ga.g = some b → S ≤ b)
    (p1 : (new.map Item.gs).Pairwise fun a b => a.g = none ∨ a.g ≠ b.g) (p2 : (new.map Item.ga).Pairwise fun a b => a.g = none ∨ a.g ≠ b.g) : FPk w W' pw pb pq m iv av mu ri ra gv' wv' mq' (its ++ ks) := by
  have hsub : ks.Sublist new := hk.sub.trans (List.take_sublist _ _)
  have keep : ∀ (k : Nat) (c : Array Value) (t : TypeId), W.heap[k]? = some (.cells c t (0, 0)) → t ≠ TQ → t ≠ TAr → W'.heap[k]? = W.heap[k]? := fun k c t hc h1 h2 => hk.on.block k (heap_lt hc) (qp_not h.qt hc h1 h2)
  have kit : ∀ it, ItemAt W w.heap.size it → ItemAt W' w.heap.size it := fun it hit => hit.same hk.on.size fun b hb => by
    obtain ⟨c, t, hc, ht⟩ := hit.type hb
    exact keep _ _ _ hc (by rcases ht with rfl | rfl <;> decide) (by rcases ht with rfl | rfl <;> decide)
  refine ⟨h.be.trans (hk.on.base h.be.size fun k hk' => ?_), (keep _ _ _ h.hw (by decide) (by decide)).trans h.hw, h.bk.kept (keep _ _ _ h.bk.bk (by decide) (by decide)) (fun k hk' => ?_) (fun k hk' => ?_) (fun r hr b hb => ?_) (fun r hr b hb => ?_), hk.q, fun it hm => ?_, ?_, ?_, h.gw, h.gb, h.gq⟩
  · rcases hk' with hk' | hk' | hk'
    · rw [hk']; exact h.gq
    · exact (h.qt.og.lt k hk'.symm).1
    · exact (h.qt.ow.lt k hk'.symm).1
  · obtain ⟨c, hc⟩ := own_type h.bk.oi k hk'; exact keep _ _ _ hc (by decide) (by decide)
  · obtain ⟨c, hc⟩ := own_type h.bk.oa k hk'; exact keep _ _ _ hc (by decide) (by decide)
  · obtain ⟨_, c, hc, _⟩ := (h.bk.ri hr).at_ b hb; exact keep _ _ _ hc (by decide) (by decide)
  · obtain ⟨_, c, hc, _⟩ := (h.bk.ra hr).at_ b hb; exact keep _ _ _ hc (by decide) (by decide)
  · rcases List.mem_append.1 hm with hm | hm
    · exact kit it (h.it it hm)
    · exact kit it (hn it (hsub.subset hm))
  · exact pair_snoc h.a1 (fun it hm b hb => hi it hm b (.inl hb)) (fun it hm b hb => hS it (hsub.subset hm) b (.inl hb)) (p1.sublist (hsub.map _))
  · exact pair_snoc h.a2 (fun it hm b hb => hi it hm b (.inr (.inl hb))) (fun it hm b hb => hS it (hsub.subset hm) b (.inr hb)) (p2.sublist (hsub.map _))
end
/-- texts in a list -/
def StrsAt (w : World) (X : Option Addr) (n : Nat) : Prop := ∀ i, i < n → ∃ b off s, X = some ⟨b, off, none⟩ ∧ b < w.heap.size ∧ w.cell? ⟨b, off + i, none⟩ = some (.string s) ∧ s.size ≤ 1099511627776000
end Go.Proofs.YtpipcpjkfgdpcaaDoor
