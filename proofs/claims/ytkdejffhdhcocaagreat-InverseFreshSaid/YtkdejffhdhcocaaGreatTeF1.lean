/- abacuslaw2: Room, (*Book).Full; a book's rows, grown. Condition: sizes within reach. -/
import Derived.Test.YtkdejffhdhcocaaGreatTeF0
import Derived.Lib.JoinLaws
namespace Go.Proofs.YtkdejffhdhcocaaGreat
open Go.RowKit

variable {kv : Value}

theorem own_form {w : World} {B : Nat} {e : TypeId} {z : Nat} {v : Value} {n : Nat} {xs : List Value} (h : w.ownsRow B e z v n xs) : ∃ A cp, v = .slice A n cp ∧ n ≤ cp ∧ cp ≤ maxLen := by
  rcases h.2 with ⟨rfl, rfl⟩ | ⟨g, cap, cur, rfl, _, _, h1, h2, _⟩
  · exact ⟨none, 0, rfl, Nat.le_refl _, Nat.zero_le _⟩
  · exact ⟨_, _, rfl, h1, h2⟩
/-- the cell of an owned row: where it lies -/
theorem own_cell {w : World} {B : Nat} {e : TypeId} {z : Nat} {A : Option Addr} {n cp : Nat} {xs : List Value} (h : w.ownsRow B e z (.slice A n cp) n xs) {j : Nat} {u : Value} (hj : xs[j]? = some u) (hz : 0 < n) : ∃ g, A = some ⟨g, 0, none⟩ ∧ g < w.heap.size ∧ w.cell? ⟨g, j, none⟩ = some u := by
  rcases h.2 with ⟨h1, h2⟩ | ⟨g, cap, cur, hv, _, hb, _, _, _, ht⟩
  · omega
  · simp only [Value.slice.injEq] at hv
    obtain ⟨rfl, -, -⟩ := hv
    refine ⟨g, rfl, heap_lt hb, ?_⟩
    have h1 : (cur.toList.take (n * z))[j]? = some u := by rw [ht]; exact hj
    rw [List.getElem?_take] at h1
    split at h1
    · simpa [World.cell?, hb] using h1
    · cases h1

theorem room_any (n c : Nat) (w : World) (hn : n ≤ 1099511627776) : Calls Tryz.prog 61 #[.int .i64 n, .int .i64 c] w fun e w' => e = .returned (.int .i64 (roomOf n c : Nat)) ∧ w' = w := by
  by_cases h : n + 70000 < c
  · have h1 : (n : Int) + 70000 < c := by omega
    have HR : Hid (roomOf n c = n + 70000) := Lib.hid (by unfold roomOf; rw [if_pos h])
    clear h
    go_enter Tryz.func61, Tryz.ntmps61
    go_wp2_with fail
    go_ret
    exact ⟨by rw [HR.out]; simp, rfl⟩
  · have h1 : ¬ (n : Int) + 70000 < c := by omega
    have HR : Hid (roomOf n c = c) := Lib.hid (by unfold roomOf; rw [if_neg h])
    clear h
    go_enter Tryz.func61, Tryz.ntmps61
    go_wp2_with fail
    go_ret
    exact ⟨by rw [HR.out]; rfl, rfl⟩

set_option maxHeartbeats 1000000 in
theorem full_any (g : Nat) (iv av : Value) (m n : Nat) (w : World) (hg : w.heap[g]? = some (.cells #[iv, .int .i64 m, av, kv] TBk (0, 0))) (hm : m ≤ 1125899906842624) (hn : n ≤ 1125899906842624) :
    Calls Tryz.prog 60 #[.pointer (some ⟨g, 0, none⟩), .int .i64 n] w fun e w' => e = .returned (.bool (decide (33554432 < m + 400 + n))) ∧ w' = w.setCell ⟨g, 1, none⟩ (.int .i64 ((m + 400 + n : Nat) : Int)) := by
  obtain ⟨k0, k1, k2⟩ := heap3 hg
  have pf := unfrozen hg 1
  have hw1 : IntKind.i64.wrap ((m : Int) + 400) = (m : Int) + 400 := by rw [IntKind.wrap_i64]; omega
  have hw2 : IntKind.i64.wrap ((m : Int) + 400 + n) = (m : Int) + 400 + n := by rw [IntKind.wrap_i64]; omega
  have k3 : (w.setCell ⟨g, 1, none⟩ (.int .i64 ((m : Int) + 400 + n))).cell? ⟨g, 1, none⟩ = some (.int .i64 ((m : Int) + 400 + n)) := by
    simp [World.cell?, World.setCell, Array.getElem?_modify, hg]
  have HG := Lib.hid hg
  clear hg k0 k2
  by_cases hbig : 33554432 < m + 400 + n
  · have hd : decide ((33554432 : Int) < (m : Int) + 400 + n) = true := by simp; omega
    have HD : Hid (decide (33554432 < m + 400 + n) = true) := Lib.hid (by simpa using hbig)
    clear hbig
    go_enter Tryz.func60, Tryz.ntmps60
    go_wp2_with fail
    go_ret
    exact ⟨by rw [HD.out]; rfl, by simp⟩
  · have hd : decide ((33554432 : Int) < (m : Int) + 400 + n) = false := by simp; omega
    have HD : Hid (decide (33554432 < m + 400 + n) = false) := Lib.hid (by simp; omega)
    clear hbig
    go_enter Tryz.func60, Tryz.ntmps60
    go_wp2_with fail
    go_ret
    exact ⟨by rw [HD.out]; rfl, by simp⟩

/-- the first p rows grown -/
def upTo (ks : List Bw) (p : Nat) : List Bw := (ks.take p).map Bw.up ++ ks.drop p
theorem upTo_zero (ks : List Bw) : upTo ks 0 = ks := by simp [upTo]
theorem upTo_all (ks : List Bw) : upTo ks ks.length = ks.map Bw.up := by simp [upTo]
theorem upTo_length (ks : List Bw) (p : Nat) : (upTo ks p).length = ks.length := by simp [upTo]; omega
theorem upTo_get {ks : List Bw} {p : Nat} {r : Bw} (h : ks[p]? = some r) : (upTo ks p)[p]? = some r := by
  obtain ⟨hl, _⟩ := List.getElem?_eq_some_iff.1 h
  unfold upTo
  rw [List.getElem?_append_right (by rw [List.length_map, List.length_take]; omega)]
  have : p - ((ks.take p).map Bw.up).length = 0 := by rw [List.length_map, List.length_take]; omega
  rw [this, List.getElem?_drop]
  simpa using h
theorem upTo_set {ks : List Bw} {p : Nat} {r : Bw} (h : ks[p]? = some r) : (upTo ks p).set p r.up = upTo ks (p + 1) := by
  obtain ⟨hl, rfl⟩ := List.getElem?_eq_some_iff.1 h
  have hp : ((ks.take p).map Bw.up).length = p := by rw [List.length_map, List.length_take]; omega
  have e1 : ks.drop p = ks[p] :: ks.drop (p + 1) := List.drop_eq_getElem_cons hl
  have e2 : (ks.take (p + 1)).map Bw.up = (ks.take p).map Bw.up ++ [ks[p].up] := by rw [← List.take_append_getElem hl, List.map_append]; rfl
  unfold upTo
  rw [List.set_append_right _ _ (by rw [hp]; exact Nat.le_refl _), hp, Nat.sub_self, e1, e2, List.append_assoc]
  rfl

/-- the rows taken are grown, the first p of them -/
structure T2 (t ts : TypeId) (cs : Value → Nat → Array Value) (W0 : World) (B pb : Nat) (iv : Value) (rs ns ks : List Bw) (p : Nat) (W : World) (iv' : Value) (mu : Nat) : Prop where
  ra : ∀ r ∈ ns, BwAt t W B r
  km : ∀ j r, ks[j]? = some r → MkAt W r (if j < p then roomOf r.n r.c else r.n) (mkN (rs.length + j))
  sub : ks.Sublist ns
  bk : W.heap[pb]? = some (.cells (cs iv' mu) TBk (0, 0))
  oi : W.ownsRow B ts 1 iv' (rs.length + ks.length) ((rs ++ upTo ks p).map Bw.val)
  on : OnlyP (BP pb iv ns) W0 W
  at_ : iv'.ownBlock = iv.ownBlock ∨ ∃ k, iv'.ownBlock = some k ∧ W0.heap.size ≤ k
section
variable {t ts : TypeId} {cs : Value → Nat → Array Value} {W0 W W' : World} {B pb : Nat} {iv iv' iv2 : Value} {rs ns ks : List Bw} {i p mu : Nat}
theorem T1.grow (h : T1 t ts cs W0 B pb iv rs ns i W iv' mu ks) : T2 t ts cs W0 B pb iv rs ns ks 0 W iv' mu :=
  ⟨h.ra, fun j r hj => by rw [if_neg (Nat.not_lt_zero j)]; exact h.km j r hj, h.sub.trans (List.take_sublist _ _), h.bk, by rw [upTo_zero]; exact h.oi, h.on, h.at_⟩
theorem T2.mem (h : T2 t ts cs W0 B pb iv rs ns ks p W iv' mu) {j : Nat} {r : Bw} (hj : ks[j]? = some r) : r ∈ ns := h.sub.subset (List.mem_of_getElem? hj)
theorem T2.below (h : T2 t ts cs W0 B pb iv rs ns ks p W iv' mu) (hb : Below W.heap.size W W') : T2 t ts cs W0 B pb iv rs ns ks p W' iv' mu :=
  ⟨fun r hr => (h.ra r hr).on hb, fun j r hj => (h.km j r hj).kept fun b hg => hb.block b ((h.ra r (h.mem hj)).lt hg), h.sub, (hb.block _ (heap_lt h.bk)).trans h.bk, World.ownsRow.kept h.oi (grown_below hb none) (by cases iv'.ownBlock <;> simp), h.on.below hb, h.at_⟩
theorem MkAt.above {w : World} {r : Bw} {n k b : Nat} {m : Int} (h : MkAt w r n m) (hk : n ≤ k) (v : Value) (hb : r.g = some b) : MkAt (w.setCell ⟨b, k, none⟩ v) r n m := fun b' hb' q hq => by
  obtain rfl : b = b' := Option.some.inj (hb.symm.trans hb')
  rw [World.cell?_setCell_other _ _ _ _ (fun e => by injection e; omega)]
  exact h b hb q hq
theorem T2.mark (h : T2 t ts cs W0 B pb iv rs ns ks p W iv' mu) (hap : ns.Pairwise fun a b => a.g = none ∨ a.g ≠ b.g) {r : Bw} (hp : ks[p]? = some r) {b : Nat} (hb : r.g = some b) (ht : t ≠ TBk) (hts : t ≠ ts) {k : Nat} (hk : r.n ≤ k) (v : Value) :
    T2 t ts cs W0 B pb iv rs ns ks p (W.setCell ⟨b, k, none⟩ v) iv' mu := by
  have hm := h.mem hp
  refine ⟨fun s hs => (h.ra s hs).set _ _ _, fun j s hj => ?_, h.sub, (Below.heap_setCell _ _ _ _ (fun e => ?_)).trans h.bk, ownsRow_setCell_other h.oi (fun e => ?_) v, h.on.set _ _ (fun _ => .inr (.inr ⟨r, hm, hb⟩)), h.at_⟩
  · by_cases hjp : j = p
    · subst hjp
      obtain rfl : r = s := Option.some.inj (hp.symm.trans hj)
      have h1 := h.km j r hj
      rw [if_neg (Nat.lt_irrefl j)] at h1 ⊢
      exact h1.above hk v hb
    · exact (h.km j s hj).kept fun c hc => Below.heap_setCell _ _ _ _ (fun e => by
        have hcb : c = b := e
        subst hcb
        exact rows_ne (hap.sublist h.sub) hp hj (Ne.symm hjp) hb hc)
  · exact (h.ra r hm).ne h.bk ht (hb.trans (congrArg some (show b = pb from e.symm)))
  · obtain ⟨cur, hc⟩ := row_type h.oi b e
    exact (h.ra r hm).ne hc hts hb
/-- the grown row is put into the book -/
theorem T2.step {A : Option Addr} {m cp : Nat} (h : T2 t ts cs W0 B pb iv rs ns ks p W (.slice A m cp) mu) (hts : ts ≠ TBk) (htt : t ≠ ts) {r : Bw} (hp : ks[p]? = some r) (hmk : MkAt W r (roomOf r.n r.c) (mkN (rs.length + p))) {g : Nat} (hA : A = some ⟨g, 0, none⟩) :
    T2 t ts cs W0 B pb iv rs ns ks (p + 1) (W.setCell ⟨g, rs.length + p, none⟩ r.up.val) (.slice A m cp) mu := by
  subst hA
  obtain ⟨_, _, hf, _, _⟩ := own_form h.oi
  simp only [Value.slice.injEq] at hf
  obtain ⟨-, rfl, -⟩ := hf
  obtain ⟨ho, hg⟩ := World.ownsRow.stored h.oi (rs.length + p) r.up.val
  obtain ⟨cur, hc⟩ := row_type h.oi g rfl
  have keep : ∀ s ∈ ns, ∀ b, s.g = some b → (W.setCell ⟨g, rs.length + p, none⟩ r.up.val).heap[b]? = W.heap[b]? := fun s hs b hb => Below.heap_setCell _ _ _ _ (fun e => (h.ra s hs).ne hc htt (hb.trans (congrArg some (show b = g from e))))
  refine ⟨fun s hs => (h.ra s hs).kept (keep s hs), fun j s hj => ?_, h.sub, (Below.heap_setCell _ _ _ _ (fun e => ?_)).trans h.bk, ?_, h.on.set _ _ (fun hlt => ?_), h.at_⟩
  · have hkm := (h.km j s hj).kept (keep s (h.mem hj))
    by_cases hjp : j = p
    · subst hjp
      obtain rfl : r = s := Option.some.inj (hp.symm.trans hj)
      rw [if_pos (Nat.lt_succ_self j)]
      exact hmk.kept (keep r (h.mem hj))
    · by_cases hlt : j < p
      · rw [if_pos hlt] at hkm
        rw [if_pos (by omega)]
        exact hkm
      · rw [if_neg hlt] at hkm
        rw [if_neg (by omega)]
        exact hkm
  · have hgp : pb = g := e
    subst hgp
    exact hts (types_apart hc h.bk)
  · have e : ((rs ++ upTo ks p).map Bw.val).set (rs.length + p) r.up.val = (rs ++ upTo ks (p + 1)).map Bw.val := by
      rw [← upTo_set hp, ← List.map_set, List.set_append_right _ _ (by omega), Nat.add_sub_cancel_left]
    rw [← e]
    exact ho
  · rcases h.at_ with h0 | ⟨k', h1, h2⟩
    · exact .inr (.inl h0)
    · simp only [Value.ownBlock, Option.some.injEq] at h1
      have : g < W0.heap.size := hlt
      omega
end
end Go.Proofs.YtkdejffhdhcocaaGreat
