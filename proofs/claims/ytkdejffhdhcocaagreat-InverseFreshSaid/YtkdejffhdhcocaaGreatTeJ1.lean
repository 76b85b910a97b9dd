/- abacuslaw13.far, (*Book).gather: all lists of a term are put into a book. Condition: sizes within reach. -/
import Derived.Test.YtkdejffhdhcocaaGreatTeJ0
import Derived.Test.YtkdejffhdhcocaaGreatTeSm
import Derived.Deep.AppendLies
import Derived.Deep.Cut
import Derived.Deep.CutRange
import Derived.Deep.RegionWith
import Derived.Deep.RegionLaw
import Derived.StillTailTactics
namespace Go.Proofs.YtkdejffhdhcocaaGreat
open Go.RowKit

mutual
/-- a term's nodes, the outer ones first -/
def nodes : Rt → List Rt
  | .mk s a k rs => .mk s a k rs :: nodesL rs
def nodesL : List Rt → List Rt
  | [] => []
  | r :: rs => nodes r ++ nodesL rs
end
theorem nodes_eq (r : Rt) : nodes r = r :: nodesL r.kids := by cases r; simp only [nodes, Rt.kids]
theorem nodesL_app : ∀ (a b : List Rt), nodesL (a ++ b) = nodesL a ++ nodesL b
  | [], _ => rfl
  | r :: a, b => by simp only [List.cons_append, nodesL, nodesL_app a b, List.append_assoc]
theorem nodesL_take {rs : List Rt} {i : Nat} {q : Rt} (h : rs[i]? = some q) : nodesL (rs.take (i + 1)) = nodesL (rs.take i) ++ nodes q := by
  obtain ⟨hl, rfl⟩ := List.getElem?_eq_some_iff.1 h
  rw [← List.take_append_getElem hl, nodesL_app]
  simp only [nodesL, List.append_nil]
mutual
theorem nodes_cnt {w : World} {B : Nat} : ∀ {t : Tm} {r : Rt}, OwnT w B t r → (nodes r).length = cnt t
  | .mk _ _ _ _ _ ks, .mk s a k rs, h => by
    simp only [OwnT] at h
    simp only [nodes, cnt, List.length_cons, nodesL_cnt h.2.2.2.2, Nat.add_comm]
theorem nodesL_cnt {w : World} {B : Nat} : ∀ {ts : List Tm} {rs : List Rt}, OwnL w B ts rs → (nodesL rs).length = cntL ts
  | [], [], _ => by simp only [nodesL, cntL, List.length_nil]
  | t :: ts, r :: rs, h => by
    simp only [OwnL] at h
    simp only [nodesL, cntL, List.length_append, nodes_cnt h.1, nodesL_cnt h.2]
  | [], _ :: _, h => by simp only [OwnL] at h
  | _ :: _, [], h => by simp only [OwnL] at h
end
/-- a row of a term as a row of a book -/
def bwOf (r : Rw) : Bw := ⟨r.blk, r.n, r.c, r.p⟩
def bS (r : Rt) : Bw := bwOf r.s
def bA (r : Rt) : Bw := bwOf r.a
def bK (r : Rt) : Bw := bwOf r.k
theorem RowOwn.zw {w : World} {B z : Nat} {t : TypeId} {r : Rw} {vs : List Value} (h : RowOwn w B t z r vs) : ZwAt t z w B (bwOf r) := by
  obtain ⟨_, ⟨h2, h3⟩ | ⟨g, cur, e, h3, h4, h5, h6, h7, h8, _⟩⟩ := h
  · have hb : r.blk = Option.none := by unfold Rw.blk; rw [if_pos h3]
    exact ⟨by show r.n ≤ r.c; omega, by show r.c ≤ maxLen; omega, fun _ => h3, fun b hb' => by rw [show (bwOf r).g = Option.none from hb] at hb'; cases hb'⟩
  · have hb : r.blk = Option.some g := by unfold Rw.blk; rw [if_neg (by omega), e]; rfl
    exact ⟨h3, h5, fun hn => (by rw [show (bwOf r).g = Option.some g from hb] at hn; cases hn), fun b hb' => by
      rw [show (bwOf r).g = Option.some g from hb] at hb'
      obtain rfl := Option.some.inj hb'
      exact ⟨h6, cur, h7, h8⟩⟩
theorem RowOwn.bval {w : World} {B z : Nat} {t : TypeId} {r : Rw} {vs : List Value} (h : RowOwn w B t z r vs) : (bwOf r).val = .slice r.p r.n r.c := by
  obtain ⟨_, ⟨h2, h3⟩ | ⟨g, cur, e, h3, h4, _⟩⟩ := h
  · have hb : r.blk = Option.none := by unfold Rw.blk; rw [if_pos h3]
    unfold Bw.val Bw.adr bwOf
    simp only [hb]
  · have hb : r.blk = Option.some g := by unfold Rw.blk; rw [if_neg (by omega), e]; rfl
    unfold Bw.val Bw.adr bwOf
    simp only [hb, e]
/-- nothing has turned in the memory of terms -/
structure Calm (w w' : World) : Prop where
  size : w.heap.size ≤ w'.heap.size
  block : ∀ (x : Nat) (cur : Array Value) (t : TypeId), w.heap[x]? = some (.cells cur t (0, 0)) → (t = TIn ∨ t = TI6 ∨ t = TTm) → w'.heap[x]? = w.heap[x]?
theorem Calm.refl (w : World) : Calm w w := ⟨Nat.le_refl _, fun _ _ _ _ _ => rfl⟩
theorem Calm.trans {a b c : World} (h : Calm a b) (k : Calm b c) : Calm a c :=
  ⟨Nat.le_trans h.size k.size, fun x cur t hx ht => (k.block x cur t ((h.block x cur t hx ht).trans hx) ht).trans (h.block x cur t hx ht)⟩
theorem Calm.below {a b : World} (h : Below a.heap.size a b) : Calm a b := ⟨h.size, fun x _ _ hx _ => h.block x (heap_lt hx)⟩
theorem Calm.set {w : World} {b : Nat} {cur : Array Value} {tb : TypeId} (hb : w.heap[b]? = some (.cells cur tb (0, 0))) (ht : tb ≠ TIn ∧ tb ≠ TI6 ∧ tb ≠ TTm) (k : Nat) (u : Value) : Calm w (w.setCell ⟨b, k, none⟩ u) :=
  ⟨by simp [World.setCell], fun x c t hx hxt => Below.heap_setCell _ _ _ _ fun e => by
    rw [show x = b from e] at hx
    have := types_apart hb hx
    subst this
    rcases hxt with h | h | h
    · exact ht.1 h
    · exact ht.2.1 h
    · exact ht.2.2 h⟩
theorem Calm.grown {w w' : World} {row : Option Nat} {tb : TypeId} (hg : w.grownBy w' row) (hr : ∀ x, row = some x → ∃ cur, w.heap[x]? = some (.cells cur tb (0, 0))) (ht : tb ≠ TIn ∧ tb ≠ TI6 ∧ tb ≠ TTm) : Calm w w' :=
  ⟨hg.size, fun x c t hx hxt => hg.block x (heap_lt hx) fun e => by
    obtain ⟨cur, hb⟩ := hr x e.symm
    have := types_apart hb hx
    subst this
    rcases hxt with h | h | h
    · exact ht.1 h
    · exact ht.2.1 h
    · exact ht.2.2 h⟩
mutual
theorem OwnT.blkT {w : World} {B : Nat} : ∀ {t : Tm} {r : Rt}, OwnT w B t r → ∀ g ∈ blksT r, ∃ cur tt, w.heap[g]? = some (.cells cur tt (0, 0)) ∧ (tt = TIn ∨ tt = TI6 ∨ tt = TTm)
  | .mk _ _ _ _ _ ks, .mk s a k rs, h, g, hg => by
    simp only [OwnT] at h
    simp only [blksT, List.mem_append, Option.mem_toList] at hg
    obtain ⟨h1, h2, h3, h4, h5⟩ := h
    rcases hg with ((hg | hg) | hg) | hg
    · obtain ⟨_, cur, hc⟩ := h1.blk_lt hg; exact ⟨cur, _, hc, .inl rfl⟩
    · obtain ⟨_, cur, hc⟩ := h2.blk_lt hg; exact ⟨cur, _, hc, .inr (.inl rfl)⟩
    · obtain ⟨_, cur, hc⟩ := h3.blk_lt hg; exact ⟨cur, _, hc, .inr (.inr rfl)⟩
    · exact OwnL.blkT h5 g hg
theorem OwnL.blkT {w : World} {B : Nat} : ∀ {ts : List Tm} {rs : List Rt}, OwnL w B ts rs → ∀ g ∈ blksL rs, ∃ cur tt, w.heap[g]? = some (.cells cur tt (0, 0)) ∧ (tt = TIn ∨ tt = TI6 ∨ tt = TTm)
  | [], [], _, g, hg => by simp only [blksL] at hg; exact absurd hg List.not_mem_nil
  | t :: ts, r :: rs, h, g, hg => by
    simp only [OwnL] at h
    simp only [blksL, List.mem_append] at hg
    rcases hg with hg | hg
    · exact OwnT.blkT h.1 g hg
    · exact OwnL.blkT h.2 g hg
  | [], _ :: _, h, _, _ => by simp only [OwnL] at h
  | _ :: _, [], h, _, _ => by simp only [OwnL] at h
end
theorem OwnT.calm {w w' : World} {B : Nat} {t : Tm} {r : Rt} (h : OwnT w B t r) (hc : Calm w w') : OwnT w' B t r := h.kept fun g hg => by
  obtain ⟨cur, tt, h1, h2⟩ := h.blkT g hg
  exact hc.block g cur tt h1 h2

theorem far_any (n c : Nat) (w : World) (hn : n ≤ 1099511627776000) : Calls Tryz.prog 45 #[.int .i64 n, .int .i64 c] w fun e w' => e = .returned (.int .i64 (roomOf n c : Nat)) ∧ w' = w := by
  have hw : IntKind.i64.wrap ((n : Int) + 70000) = (n : Int) + 70000 := by rw [IntKind.wrap_i64]; omega
  have HR : Hid ((roomOf n c : Nat) = min (c : Int) ((n : Int) + 70000)) := Lib.hid (by unfold roomOf; split <;> omega)
  go_enter Tryz.func45, Tryz.ntmps45
  go_wp2_with fail
  go_ret
  exact ⟨by rw [HR.out]; rfl, rfl⟩
mutual
theorem nodes_blk : ∀ {r q : Rt} {x : Nat}, q ∈ nodes r → (q.s.blk = some x ∨ q.a.blk = some x ∨ q.k.blk = some x) → x ∈ blksT r
  | .mk s a k rs, q, x, hq, hx => by
    simp only [nodes, List.mem_cons] at hq
    simp only [blksT, List.mem_append, Option.mem_toList]
    rcases hq with rfl | hq
    · rcases hx with hx | hx | hx
      · exact .inl (.inl (.inl hx))
      · exact .inl (.inl (.inr hx))
      · exact .inl (.inr hx)
    · exact .inr (nodesL_blk hq hx)
theorem nodesL_blk : ∀ {rs : List Rt} {q : Rt} {x : Nat}, q ∈ nodesL rs → (q.s.blk = some x ∨ q.a.blk = some x ∨ q.k.blk = some x) → x ∈ blksL rs
  | [], q, x, hq, _ => by simp only [nodesL] at hq; cases hq
  | r :: rs, q, x, hq, hx => by
    simp only [nodesL, List.mem_append] at hq
    simp only [blksL, List.mem_append]
    rcases hq with hq | hq
    · exact .inl (nodes_blk hq hx)
    · exact .inr (nodesL_blk hq hx)
end
theorem ap_of {S : List Bw} {g : Option Nat} (h : ∀ x, g = some x → ∀ s ∈ S, s.g ≠ some x) : ∀ s ∈ S, s.g = none ∨ s.g ≠ g := fun s hs => by
  cases hg : s.g with
  | none => exact .inl rfl
  | some y => exact .inr fun e => h y e.symm s hs hg

theorem info_tsl3 : (Tryz.prog.info? TSI).map (fun i => (i.zero, i.size, i.bytes)) = some (some (.slice none 0 0), 1, 24) := by kernel_rfl
theorem info_tsa3 : (Tryz.prog.info? TSA).map (fun i => (i.zero, i.size, i.bytes)) = some (some (.slice none 0 0), 1, 24) := by kernel_rfl
theorem info_tsk3 : (Tryz.prog.info? TSK).map (fun i => (i.zero, i.size, i.bytes)) = some (some (.slice none 0 0), 1, 24) := by kernel_rfl
theorem cell_one3 (w : World) (v : Value) (t : TypeId) : ∀ j u, [v][j]? = some u → (w.alloc (.cells #[v] t)).cell? ((⟨w.heap.size, 0, none⟩ : Addr).add j) = some u := by
  intro j u h
  match j, h with
  | 0, h => simpa [Addr.add, World.cell?_alloc_new] using h
  | j + 1, h => simp at h
/-- a book whose lists are somewhere -/
def BkE (W0 w : World) (B pb : Nat) (P : Nat → Prop) (z : Int) (S A K : List Bw) (i j k : Nat) : Prop := ∃ sv av kv, Bk3 W0 w B pb P sv av kv z S A K i j k
/-- what a node's lists take in the book's count -/
def wtN (q : Rt) : Nat := 1200 + 8 * roomOf q.s.n q.s.c + 8 * roomOf q.a.n q.a.c + 120 * roomOf q.k.n q.k.c
def wt (l : List Rt) : Nat := (l.map wtN).sum
theorem wt_app (a b : List Rt) : wt (a ++ b) = wt a + wt b := by unfold wt; rw [List.map_append, List.sum_append]
theorem wt_cons (q : Rt) (l : List Rt) : wt (q :: l) = wtN q + wt l := by unfold wt; rw [List.map_cons, List.sum_cons]
theorem wt_take_le (rs : List Rt) (i : Nat) : wt (nodesL (rs.take i)) ≤ wt (nodesL rs) := by
  have h : wt (nodesL rs) = wt (nodesL (rs.take i)) + wt (nodesL (rs.drop i)) := by rw [← wt_app, ← nodesL_app, List.take_append_drop]
  omega
theorem len_take_le (rs : List Rt) (i : Nat) : (nodesL (rs.take i)).length ≤ (nodesL rs).length := by
  have h : (nodesL rs).length = (nodesL (rs.take i)).length + (nodesL (rs.drop i)).length := by rw [← List.length_append, ← nodesL_app, List.take_append_drop]
  omega
/-- the rows of a term are not in a book yet, and may be -/
def Free (P : Nat → Prop) (S A K : List Bw) (l : List Nat) : Prop := ∀ x ∈ l, P x ∧ (∀ s ∈ S, s.g ≠ some x) ∧ (∀ s ∈ A, s.g ≠ some x) ∧ ∀ s ∈ K, s.g ≠ some x

set_option maxRecDepth 100000 in
set_option maxHeartbeats 16000000 in
theorem gather_any (N : Nat) : ∀ (t : Tm) (r : Rt) (W0 w : World) (B pb : Nat) (P : Nat → Prop) (z : Int) (S A K : List Bw) (i j k : Nat), cnt t ≤ N → OwnT w B t r → (blksT r).Nodup → WfT t → BkE W0 w B pb P z S A K i j k → Free P S A K (blksT r) →
    (∀ x, W0.heap.size ≤ x → P x) → B ≤ W0.heap.size → (i ≤ S.length ∧ j ≤ A.length ∧ k ≤ K.length) → (A.length = S.length ∧ K.length = S.length ∧ S.length + (nodes r).length ≤ 1048576) → 0 ≤ z → z + (wt (nodes r) : Nat) ≤ 9223372036854775807 →
    Calls Tryz.prog 44 #[.pointer (some ⟨pb, 0, none⟩), rtVal t r] w fun e w' => e = .returned (.tuple #[]) ∧ Calm w w' ∧ BkE W0 w' B pb P (z + (wt (nodes r) : Nat)) (S ++ (nodes r).map bS) (A ++ (nodes r).map bA) (K ++ (nodes r).map bK) i j k := by
  induction N with
  | zero => intro t r W0 w B pb P z S A K i j k h; cases t; simp [cnt] at h
  | succ N ih =>
    intro t r W0 w B pb P z S A K i j k hN ho hnd hwf hbk hfree hP hB hij hlen hz0 hz1
    rw [nodes_eq] at hlen hz1 ⊢
    rw [wt_cons] at hz1 ⊢
    obtain ⟨sv, av, kv, hbk⟩ := hbk
    obtain ⟨W1, hW1⟩ : ∃ W1, W1 = w.alloc (.cells #[.int .i64 t.kind, .string t.text, .int .i64 t.n, .slice r.s.p r.s.n r.s.c, .slice r.a.p r.a.n r.a.c, .slice r.k.p r.k.n r.k.c] TTm) := ⟨_, rfl⟩
    have hb1 : Below w.heap.size w W1 := by rw [hW1]; exact (Below.refl _ _).alloc (Nat.le_refl _) _
    have hx1 : W1.heap[w.heap.size]? = some (.cells #[.int .i64 t.kind, .string t.text, .int .i64 t.n, .slice r.s.p r.s.n r.s.c, .slice r.a.p r.a.n r.a.c, .slice r.k.p r.k.n r.k.c] TTm (0, 0)) := by rw [hW1]; exact heap_alloc_new w _
    have HK : Hid (∀ W, Calm W1 W → W.cell? ⟨w.heap.size, 3, none⟩ = some (.slice r.s.p r.s.n r.s.c) ∧ W.cell? ⟨w.heap.size, 4, none⟩ = some (.slice r.a.p r.a.n r.a.c) ∧ W.cell? ⟨w.heap.size, 5, none⟩ = some (.slice r.k.p r.k.n r.k.c) ∧ w.heap.size < W.heap.size) := Lib.hid fun W h => by
      have hh := (h.block _ _ _ hx1 (.inr (.inr rfl))).trans hx1
      exact ⟨cell_at hh rfl, cell_at hh rfl, cell_at hh rfl, heap_lt hh⟩
    obtain ⟨p1, p2, p3, p4, p5⟩ := (ho.on hb1).parts
    obtain ⟨_, e1, e2, e3⟩ := ho.read
    have hrn : r.s.n ≤ 140737488351232 ∧ r.a.n ≤ 140737488351232 ∧ r.k.n ≤ 140737488351232 := ⟨by rw [e1]; exact hwf.node.sh, by rw [e2]; exact hwf.node.at_, by rw [e3]; exact hwf.node.kids⟩
    obtain ⟨hr1, hr2, hr3⟩ := hrn
    have HF1 : Hid (∀ W, Calls Tryz.prog 45 #[.int .i64 (r.s.n : Int), .int .i64 (r.s.c : Int)] W fun e w' => e = .returned (.int .i64 (roomOf r.s.n r.s.c : Nat)) ∧ w' = W) := Lib.hid fun W => far_any r.s.n r.s.c W (by omega)
    have HF2 : Hid (∀ W, Calls Tryz.prog 45 #[.int .i64 (r.a.n : Int), .int .i64 (r.a.c : Int)] W fun e w' => e = .returned (.int .i64 (roomOf r.a.n r.a.c : Nat)) ∧ w' = W) := Lib.hid fun W => far_any r.a.n r.a.c W (by omega)
    have HF3 : Hid (∀ W, Calls Tryz.prog 45 #[.int .i64 (r.k.n : Int), .int .i64 (r.k.c : Int)] W fun e w' => e = .returned (.int .i64 (roomOf r.k.n r.k.c : Nat)) ∧ w' = W) := Lib.hid fun W => far_any r.k.n r.k.c W (by omega)
    obtain ⟨f1, hf1⟩ : ∃ n, n = roomOf r.s.n r.s.c := ⟨_, rfl⟩
    obtain ⟨f2, hf2⟩ : ∃ n, n = roomOf r.a.n r.a.c := ⟨_, rfl⟩
    obtain ⟨f3, hf3⟩ : ∃ n, n = roomOf r.k.n r.k.c := ⟨_, rfl⟩
    obtain ⟨zk, hzk⟩ : ∃ n, n = wt (nodesL r.kids) := ⟨_, rfl⟩
    have hwN : wtN r = 1200 + 8 * f1 + 8 * f2 + 120 * f3 := by rw [hf1, hf2, hf3]; rfl
    rw [← hf1] at HF1
    rw [← hf2] at HF2
    rw [← hf3] at HF3
    rw [hwN, ← hzk] at hz1
    have hw1 : IntKind.i64.wrap (z + 1200) = z + 1200 := by rw [IntKind.wrap_i64]; omega
    have hw2 : IntKind.i64.wrap (8 * (f1 : Int)) = 8 * (f1 : Int) := by rw [IntKind.wrap_i64]; omega
    have hw3 : IntKind.i64.wrap (z + 1200 + 8 * (f1 : Int)) = z + 1200 + 8 * (f1 : Int) := by rw [IntKind.wrap_i64]; omega
    have hw4 : IntKind.i64.wrap (8 * (f2 : Int)) = 8 * (f2 : Int) := by rw [IntKind.wrap_i64]; omega
    have hw5 : IntKind.i64.wrap (z + 1200 + 8 * (f1 : Int) + 8 * (f2 : Int)) = z + 1200 + 8 * (f1 : Int) + 8 * (f2 : Int) := by rw [IntKind.wrap_i64]; omega
    have hw6 : IntKind.i64.wrap (120 * (f3 : Int)) = 120 * (f3 : Int) := by rw [IntKind.wrap_i64]; omega
    have hw7 : IntKind.i64.wrap (z + 1200 + 8 * (f1 : Int) + 8 * (f2 : Int) + 120 * (f3 : Int)) = z + 1200 + 8 * (f1 : Int) + 8 * (f2 : Int) + 120 * (f3 : Int) := by rw [IntKind.wrap_i64]; omega
    have HZ : Hid (0 ≤ z ∧ (wtN r : Int) = 1200 + 8 * (f1 : Int) + 8 * (f2 : Int) + 120 * (f3 : Int) ∧ z + 1200 + 8 * (f1 : Int) + 8 * (f2 : Int) + 120 * (f3 : Int) + (wt (nodesL r.kids) : Nat) ≤ 9223372036854775807) := Lib.hid ⟨hz0, by rw [hwN]; omega, by rw [← hzk]; omega⟩
    have HO := Lib.hid (And.intro (ho.on hb1) (And.intro hnd (And.intro hwf hN)))
    have HP := Lib.hid (And.intro p1 (And.intro p2 (And.intro p3 (And.intro p4 p5))))
    have HFR := Lib.hid hfree
    have HPP := Lib.hid hP
    have HBW := Lib.hid hB
    have HIJ := Lib.hid hij
    have HLEN := Lib.hid hlen
    have HE := Lib.hid e3
    have HC1 : Hid (Calm w W1) := Lib.hid (Calm.below hb1)
    have HW1 := Lib.hid hW1
    have IH := Lib.hid ih
    have HBK := Lib.hid (hbk.below hb1)
    obtain ⟨js, hs1, hs2, hs3, hs4⟩ := info_parts info_tsl3
    obtain ⟨ja, ha1, ha2, ha3, ha4⟩ := info_parts info_tsa3
    obtain ⟨jk, hk1, hk2, hk3, hk4⟩ := info_parts info_tsk3
    have HJ1 := Lib.hid (And.intro hs1 (And.intro hs2 (And.intro hs3 hs4)))
    have HJ2 := Lib.hid (And.intro ha1 (And.intro ha2 (And.intro ha3 ha4)))
    have HJ3 := Lib.hid (And.intro hk1 (And.intro hk2 (And.intro hk3 hk4)))
    clear ho hnd hwf hN hb1 hx1 p1 p2 p3 p4 p5 e1 e2 e3 ih hW1 hbk hfree hP hB hij hlen hz0 hz1 hf1 hf2 hf3 hzk hwN hr1 hr2 hs1 hs2 hs3 hs4 ha1 ha2 ha3 ha4 hk1 hk2 hk3 hk4
    obtain ⟨k3, k4, k5, kl⟩ := HK.out W1 (Calm.refl _)
    obtain ⟨x0, x1, x2, x3, xf, xl⟩ := HBK.out.cells
    have x4 := xf 3
    clear xf kl
    unfold rtVal
    go_enter Tryz.func44, Tryz.ntmps44
    go_upto_region 1 with fail
    rw [← HW1.out]
    go_still_tail 39, (by kernel_rfl)
    still_call (HF1.out _)
    repeat still_step
    still_call (HF2.out _)
    repeat still_step
    still_call (HF3.out _)
    repeat still_step
    refine wpStill_nil ?_
    change wpList _ _ _ _ _ W1.drew
    clear HF1 HF2 HF3
    go_wp2_with fail
    obtain ⟨z2, hz2⟩ : ∃ z2, z2 = z + 1200 + 8 * (f1 : Int) + 8 * (f2 : Int) + 120 * (f3 : Int) := ⟨_, rfl⟩
    have HZ2 : Hid (z2 = z + (wtN r : Nat)) := Lib.hid (by have := HZ.out.2.1; omega)
    rw [← hz2] at HZ ⊢
    clear hz2 hw1 hw2 hw3 hw4 hw5 hw6 hw7 k3 k4 k5 x0 x1 x2 x3 x4 xl
    obtain ⟨W2, hW2⟩ : ∃ V, V = (W1.setCell ⟨pb, 3, none⟩ (.int .i64 z2)).drew := ⟨_, rfl⟩
    have HB2 : Hid (Bk3 W0 W2 B pb P sv av kv z2 S A K i j k) := Lib.hid (by rw [hW2]; exact (HBK.out.size z2).below (Below.refl _ _).drew)
    have HC2 : Hid (Calm W1 W2) := Lib.hid (by rw [hW2]; exact (Calm.set HBK.out.bk (by decide) 3 _).trans (Calm.below (Below.refl _ _).drew))
    rw [← hW2]
    clear hW2
    -- APPENDS
    obtain ⟨AS, cS, rfl, _, _⟩ := HB2.out.ls.form
    obtain ⟨x0, x1, x2, x3, xf, xl⟩ := HB2.out.cells
    have f0 := xf 0
    obtain ⟨k3, k4, k5, kl⟩ := HK.out W2 HC2.out
    have hlS : S.length ≤ 1048576 := by have := HLEN.out; simp only [List.length_cons] at this; omega
    have kA0 := (World.cell?_of_block (a := ⟨pb, 0, none⟩) (Below.heap_alloc W2 (.cells #[.slice r.s.p r.s.n r.s.c] TSI) pb xl)).trans x0
    have kB0 := (World.cell?_of_block (a := ⟨w.heap.size, 3, none⟩) (Below.heap_alloc W2 (.cells #[.slice r.s.p r.s.n r.s.c] TSI) w.heap.size kl)).trans k3
    go_cut [55] from 44 to 54 (fun v wx => v = .pointer (some ⟨pb, 0, none⟩) ∧ Hid (Calm W2 wx ∧ ∃ sv', Bk3 W0 wx B pb P sv' av kv z2 (S ++ [bS r]) (A) (K) i j k))
    case first =>
      obtain ⟨W3, hW3⟩ : ∃ V, V = (W2.alloc (.cells #[.slice r.s.p r.s.n r.s.c] TSI)).drew := ⟨_, rfl⟩
      have HB3 : Hid (Below W2.heap.size W2 W3) := Lib.hid (by rw [hW3]; exact ((Below.refl _ _).alloc (Nat.le_refl _) _).drew)
      have HK3 : Hid (Bk3 W0 W3 B pb P (.slice AS S.length cS) av kv z2 (S) (A) (K) i j k) := Lib.hid (HB2.out.below HB3.out)
      have HC3 : Hid (∀ (q : Nat) (u : Value), [Value.slice r.s.p r.s.n r.s.c][q]? = some u → W3.cell? ((⟨W2.heap.size, 0, none⟩ : Addr).add q) = some u) := Lib.hid (by rw [hW3]; exact cell_one3 _ _ _)
      have HZ3 : Hid (W3.heap.size = W2.heap.size + 1) := Lib.hid (by rw [hW3]; simp)
      have HBB : Hid (B ≤ W3.heap.size ∧ W0.heap.size ≤ W3.heap.size) := Lib.hid ⟨Nat.le_trans HBW.out HK3.out.on.size, HK3.out.on.size⟩
      have HP3 : Hid (pb < W3.heap.size ∧ (Value.slice AS S.length cS).ownBlock ≠ some pb) := Lib.hid ⟨heap_lt HK3.out.bk, fun e => by
        obtain ⟨cur, hc⟩ := row_type HK3.out.ls.own pb e
        exact absurd (types_apart hc HK3.out.bk) (by decide)⟩
      have HW3 := Lib.hid hW3
      clear hW3 xf xl kl
      go_region_law (go_loud (rw [← HW3.out]; refine step_append_lies _ rfl (.tmp 48) (.tmp 52) 25 rfl B TSI js (.slice none 0 0) 1 24 Tryz.underlying25 HJ1.out.1 HJ1.out.2.1 HJ1.out.2.2.1 HJ1.out.2.2.2 rfl (by decide) (.slice AS S.length cS) S.length ((S).map Bw.val) (by simp [Act.eval]) HK3.out.ls.own ⟨W2.heap.size, 0, none⟩ 1 1 [.slice r.s.p r.s.n r.s.c] (by simp [Act.eval]) rfl HC3.out (by simp [Value.oneCell']) (by decide) (by unfold maxLen; omega) (by omega) HBB.out.1 (W2.heap.size + 1) HZ3.out ?_; intro g' cap' w' hown' hgr' hor' hlt'; have hq' := (hgr'.block pb HP3.out.1 (fun e => HP3.out.2 e.symm)).trans HK3.out.bk; have fq0 := unfrozen hq' 0; have kq0 := cell_at hq' (j := 0) rfl))
      all_goals
        have HST : Hid (Calm W2 (w'.setCell ⟨pb, 0, none⟩ (.slice (some ⟨g', 0, none⟩) (S.length + 1) cap')) ∧ Bk3 W0 (w'.setCell ⟨pb, 0, none⟩ (.slice (some ⟨g', 0, none⟩) (S.length + 1) cap')) B pb P (.slice (some ⟨g', 0, none⟩) (S.length + 1) cap') av kv z2 (S ++ [bS r]) (A) (K) i j k) := Lib.hid ⟨((Calm.below HB3.out).trans (Calm.grown hgr' (row_type HK3.out.ls.own) (by decide))).trans (Calm.set hq' (by decide) _ _), by
          refine HK3.out.addS hgr' ?_ (HP.out.1.zw.kept fun b hb => ?_) (ap_of fun x hx => (HFR.out x (nodes_blk (r := r) (q := r) (by rw [nodes_eq]; exact List.mem_cons_self) (.inl hx))).2.1) HIJ.out.1 ?_ ?_
          · rw [show (bS r).val = .slice r.s.p r.s.n r.s.c from HP.out.1.bval]
            exact hown'
          · obtain ⟨_, cur, hc, _⟩ := HP.out.1.zw.at_ b hb
            exact (HC2.out.trans (Calm.below HB3.out)).block b cur _ hc (.inl rfl)
          · intro x hx
            rcases hor' with h | h
            · exact HK3.out.ls.pv x (by rw [h]; exact hx)
            · simp only [Value.ownBlock, Option.some.injEq] at hx
              refine HPP.out x ?_
              rw [← hx, h, ← HZ3.out]
              exact HBB.out.2
          · exact fun x hx => (HFR.out x (nodes_blk (r := r) (q := r) (by rw [nodes_eq]; exact List.mem_cons_self) (.inl hx))).1⟩
        clear hown' hgr' hor' hlt' hq' kq0 fq0
        go_wp2_with fail
        go_meet
        case rel => exact ⟨rfl, Lib.hid ⟨HST.out.1, _, HST.out.2⟩⟩
    obtain ⟨rfl, HRS⟩ := hcut
    obtain ⟨hcm, sv', hbk⟩ := HRS.out
    obtain ⟨W4, rfl⟩ : ∃ V, V = wc := ⟨_, rfl⟩
    have HB4 := Lib.hid hbk
    have HC4 : Hid (Calm W1 W4) := Lib.hid (HC2.out.trans hcm)
    clear hbk hcm HRS HB2 kA0 kB0 x0 x1 x2 x3 xf xl f0 k3 k4 k5 kl
    obtain ⟨AA, cA, rfl, _, _⟩ := HB4.out.la.form
    obtain ⟨x0, x1, x2, x3, xf, xl⟩ := HB4.out.cells
    have f0 := xf 1
    obtain ⟨k3, k4, k5, kl⟩ := HK.out W4 HC4.out
    have hlA : A.length ≤ 1048576 := by have := HLEN.out; simp only [List.length_cons] at this; omega
    have kA0 := (World.cell?_of_block (a := ⟨pb, 1, none⟩) (Below.heap_alloc W4 (.cells #[.slice r.a.p r.a.n r.a.c] TSA) pb xl)).trans x1
    have kB0 := (World.cell?_of_block (a := ⟨w.heap.size, 4, none⟩) (Below.heap_alloc W4 (.cells #[.slice r.a.p r.a.n r.a.c] TSA) w.heap.size kl)).trans k4
    go_upto_region 3 with fail
    go_cut [67] from 56 to 66 (fun v wx => v = .pointer (some ⟨pb, 1, none⟩) ∧ Hid (Calm W4 wx ∧ ∃ av', Bk3 W0 wx B pb P sv' av' kv z2 (S ++ [bS r]) (A ++ [bA r]) (K) i j k))
    case first =>
      obtain ⟨W3, hW3⟩ : ∃ V, V = (W4.alloc (.cells #[.slice r.a.p r.a.n r.a.c] TSA)).drew := ⟨_, rfl⟩
      have HB3 : Hid (Below W4.heap.size W4 W3) := Lib.hid (by rw [hW3]; exact ((Below.refl _ _).alloc (Nat.le_refl _) _).drew)
      have HK3 : Hid (Bk3 W0 W3 B pb P sv' (.slice AA A.length cA) kv z2 (S ++ [bS r]) (A) (K) i j k) := Lib.hid (HB4.out.below HB3.out)
      have HC3 : Hid (∀ (q : Nat) (u : Value), [Value.slice r.a.p r.a.n r.a.c][q]? = some u → W3.cell? ((⟨W4.heap.size, 0, none⟩ : Addr).add q) = some u) := Lib.hid (by rw [hW3]; exact cell_one3 _ _ _)
      have HZ3 : Hid (W3.heap.size = W4.heap.size + 1) := Lib.hid (by rw [hW3]; simp)
      have HBB : Hid (B ≤ W3.heap.size ∧ W0.heap.size ≤ W3.heap.size) := Lib.hid ⟨Nat.le_trans HBW.out HK3.out.on.size, HK3.out.on.size⟩
      have HP3 : Hid (pb < W3.heap.size ∧ (Value.slice AA A.length cA).ownBlock ≠ some pb) := Lib.hid ⟨heap_lt HK3.out.bk, fun e => by
        obtain ⟨cur, hc⟩ := row_type HK3.out.la.own pb e
        exact absurd (types_apart hc HK3.out.bk) (by decide)⟩
      have HW3 := Lib.hid hW3
      clear hW3 xf xl kl
      go_region_law (go_loud (rw [← HW3.out]; refine step_append_lies _ rfl (.tmp 60) (.tmp 64) 26 rfl B TSA ja (.slice none 0 0) 1 24 Tryz.underlying26 HJ2.out.1 HJ2.out.2.1 HJ2.out.2.2.1 HJ2.out.2.2.2 rfl (by decide) (.slice AA A.length cA) A.length ((A).map Bw.val) (by simp [Act.eval]) HK3.out.la.own ⟨W4.heap.size, 0, none⟩ 1 1 [.slice r.a.p r.a.n r.a.c] (by simp [Act.eval]) rfl HC3.out (by simp [Value.oneCell']) (by decide) (by unfold maxLen; omega) (by omega) HBB.out.1 (W4.heap.size + 1) HZ3.out ?_; intro g' cap' w' hown' hgr' hor' hlt'; have hq' := (hgr'.block pb HP3.out.1 (fun e => HP3.out.2 e.symm)).trans HK3.out.bk; have fq0 := unfrozen hq' 1; have kq0 := cell_at hq' (j := 1) rfl))
      all_goals
        have HST : Hid (Calm W4 (w'.setCell ⟨pb, 1, none⟩ (.slice (some ⟨g', 0, none⟩) (A.length + 1) cap')) ∧ Bk3 W0 (w'.setCell ⟨pb, 1, none⟩ (.slice (some ⟨g', 0, none⟩) (A.length + 1) cap')) B pb P sv' (.slice (some ⟨g', 0, none⟩) (A.length + 1) cap') kv z2 (S ++ [bS r]) (A ++ [bA r]) (K) i j k) := Lib.hid ⟨((Calm.below HB3.out).trans (Calm.grown hgr' (row_type HK3.out.la.own) (by decide))).trans (Calm.set hq' (by decide) _ _), by
          refine HK3.out.addA hgr' ?_ (HP.out.2.1.zw.kept fun b hb => ?_) (ap_of fun x hx => (HFR.out x (nodes_blk (r := r) (q := r) (by rw [nodes_eq]; exact List.mem_cons_self) (.inr (.inl hx)))).2.2.1) HIJ.out.2.1 ?_ ?_
          · rw [show (bA r).val = .slice r.a.p r.a.n r.a.c from HP.out.2.1.bval]
            exact hown'
          · obtain ⟨_, cur, hc, _⟩ := HP.out.2.1.zw.at_ b hb
            exact (HC4.out.trans (Calm.below HB3.out)).block b cur _ hc (.inr (.inl rfl))
          · intro x hx
            rcases hor' with h | h
            · exact HK3.out.la.pv x (by rw [h]; exact hx)
            · simp only [Value.ownBlock, Option.some.injEq] at hx
              refine HPP.out x ?_
              rw [← hx, h, ← HZ3.out]
              exact HBB.out.2
          · exact fun x hx => (HFR.out x (nodes_blk (r := r) (q := r) (by rw [nodes_eq]; exact List.mem_cons_self) (.inr (.inl hx)))).1⟩
        clear hown' hgr' hor' hlt' hq' kq0 fq0
        go_wp2_with fail
        go_meet
        case rel => exact ⟨rfl, Lib.hid ⟨HST.out.1, _, HST.out.2⟩⟩
    obtain ⟨rfl, HRA⟩ := hcut
    obtain ⟨hcm, av', hbk⟩ := HRA.out
    obtain ⟨W5, rfl⟩ : ∃ V, V = wc := ⟨_, rfl⟩
    have HB5 := Lib.hid hbk
    have HC5 : Hid (Calm W1 W5) := Lib.hid (HC4.out.trans hcm)
    clear hbk hcm HRA HB4 kA0 kB0 x0 x1 x2 x3 xf xl f0 k3 k4 k5 kl
    obtain ⟨AK, cK, rfl, _, _⟩ := HB5.out.lk.form
    obtain ⟨x0, x1, x2, x3, xf, xl⟩ := HB5.out.cells
    have f0 := xf 2
    obtain ⟨k3, k4, k5, kl⟩ := HK.out W5 HC5.out
    have hlK : K.length ≤ 1048576 := by have := HLEN.out; simp only [List.length_cons] at this; omega
    have kA0 := (World.cell?_of_block (a := ⟨pb, 2, none⟩) (Below.heap_alloc W5 (.cells #[.slice r.k.p r.k.n r.k.c] TSK) pb xl)).trans x2
    have kB0 := (World.cell?_of_block (a := ⟨w.heap.size, 5, none⟩) (Below.heap_alloc W5 (.cells #[.slice r.k.p r.k.n r.k.c] TSK) w.heap.size kl)).trans k5
    go_upto_region 4 with fail
    go_cut [78] from 68 to 77 (fun v wx => v = .pointer (some ⟨pb, 2, none⟩) ∧ Hid (Calm W5 wx ∧ ∃ kv', Bk3 W0 wx B pb P sv' av' kv' z2 (S ++ [bS r]) (A ++ [bA r]) (K ++ [bK r]) i j k))
    case first =>
      obtain ⟨W3, hW3⟩ : ∃ V, V = (W5.alloc (.cells #[.slice r.k.p r.k.n r.k.c] TSK)).drew := ⟨_, rfl⟩
      have HB3 : Hid (Below W5.heap.size W5 W3) := Lib.hid (by rw [hW3]; exact ((Below.refl _ _).alloc (Nat.le_refl _) _).drew)
      have HK3 : Hid (Bk3 W0 W3 B pb P sv' av' (.slice AK K.length cK) z2 (S ++ [bS r]) (A ++ [bA r]) (K) i j k) := Lib.hid (HB5.out.below HB3.out)
      have HC3 : Hid (∀ (q : Nat) (u : Value), [Value.slice r.k.p r.k.n r.k.c][q]? = some u → W3.cell? ((⟨W5.heap.size, 0, none⟩ : Addr).add q) = some u) := Lib.hid (by rw [hW3]; exact cell_one3 _ _ _)
      have HZ3 : Hid (W3.heap.size = W5.heap.size + 1) := Lib.hid (by rw [hW3]; simp)
      have HBB : Hid (B ≤ W3.heap.size ∧ W0.heap.size ≤ W3.heap.size) := Lib.hid ⟨Nat.le_trans HBW.out HK3.out.on.size, HK3.out.on.size⟩
      have HP3 : Hid (pb < W3.heap.size ∧ (Value.slice AK K.length cK).ownBlock ≠ some pb) := Lib.hid ⟨heap_lt HK3.out.bk, fun e => by
        obtain ⟨cur, hc⟩ := row_type HK3.out.lk.own pb e
        exact absurd (types_apart hc HK3.out.bk) (by decide)⟩
      have HW3 := Lib.hid hW3
      clear hW3 xf xl kl
      go_region_law (go_loud (rw [← HW3.out]; refine step_append_lies _ rfl (.tmp 72) (.tmp 75) 27 rfl B TSK jk (.slice none 0 0) 1 24 Tryz.underlying27 HJ3.out.1 HJ3.out.2.1 HJ3.out.2.2.1 HJ3.out.2.2.2 rfl (by decide) (.slice AK K.length cK) K.length ((K).map Bw.val) (by simp [Act.eval]) HK3.out.lk.own ⟨W5.heap.size, 0, none⟩ 1 1 [.slice r.k.p r.k.n r.k.c] (by simp [Act.eval]) rfl HC3.out (by simp [Value.oneCell']) (by decide) (by unfold maxLen; omega) (by omega) HBB.out.1 (W5.heap.size + 1) HZ3.out ?_; intro g' cap' w' hown' hgr' hor' hlt'; have hq' := (hgr'.block pb HP3.out.1 (fun e => HP3.out.2 e.symm)).trans HK3.out.bk; have fq0 := unfrozen hq' 2; have kq0 := cell_at hq' (j := 2) rfl))
      all_goals
        have HST : Hid (Calm W5 (w'.setCell ⟨pb, 2, none⟩ (.slice (some ⟨g', 0, none⟩) (K.length + 1) cap')) ∧ Bk3 W0 (w'.setCell ⟨pb, 2, none⟩ (.slice (some ⟨g', 0, none⟩) (K.length + 1) cap')) B pb P sv' av' (.slice (some ⟨g', 0, none⟩) (K.length + 1) cap') z2 (S ++ [bS r]) (A ++ [bA r]) (K ++ [bK r]) i j k) := Lib.hid ⟨((Calm.below HB3.out).trans (Calm.grown hgr' (row_type HK3.out.lk.own) (by decide))).trans (Calm.set hq' (by decide) _ _), by
          refine HK3.out.addK hgr' ?_ (HP.out.2.2.1.zw.kept fun b hb => ?_) (ap_of fun x hx => (HFR.out x (nodes_blk (r := r) (q := r) (by rw [nodes_eq]; exact List.mem_cons_self) (.inr (.inr hx)))).2.2.2) HIJ.out.2.2 ?_ ?_
          · rw [show (bK r).val = .slice r.k.p r.k.n r.k.c from HP.out.2.2.1.bval]
            exact hown'
          · obtain ⟨_, cur, hc, _⟩ := HP.out.2.2.1.zw.at_ b hb
            exact (HC5.out.trans (Calm.below HB3.out)).block b cur _ hc (.inr (.inr rfl))
          · intro x hx
            rcases hor' with h | h
            · exact HK3.out.lk.pv x (by rw [h]; exact hx)
            · simp only [Value.ownBlock, Option.some.injEq] at hx
              refine HPP.out x ?_
              rw [← hx, h, ← HZ3.out]
              exact HBB.out.2
          · exact fun x hx => (HFR.out x (nodes_blk (r := r) (q := r) (by rw [nodes_eq]; exact List.mem_cons_self) (.inr (.inr hx)))).1⟩
        clear hown' hgr' hor' hlt' hq' kq0 fq0
        go_wp2_with fail
        go_meet
        case rel => exact ⟨rfl, Lib.hid ⟨HST.out.1, _, HST.out.2⟩⟩
    obtain ⟨rfl, HRK⟩ := hcut
    obtain ⟨hcm, kv', hbk⟩ := HRK.out
    obtain ⟨W6, rfl⟩ : ∃ V, V = wc := ⟨_, rfl⟩
    have HB6 := Lib.hid hbk
    have HC6 : Hid (Calm W1 W6) := Lib.hid (HC5.out.trans hcm)
    clear hbk hcm HRK HB5 kA0 kB0 x0 x1 x2 x3 xf xl f0 k3 k4 k5 kl
    have HB7 : Hid (BkE W0 W6 B pb P (z2 + (wt (nodesL (r.kids.take 0)) : Nat)) (S ++ (r :: nodesL (r.kids.take 0)).map bS) (A ++ (r :: nodesL (r.kids.take 0)).map bA) (K ++ (r :: nodesL (r.kids.take 0)).map bK) i j k) := Lib.hid ⟨_, _, _, by
      have h := HB6.out
      rw [List.take_zero]
      simp only [nodesL, wt, List.map_nil, List.sum_nil, List.map_cons]
      simpa using h⟩
    clear HB6 HBK HC2 HC4 HC5 HJ1 HJ2 HJ3
    go_wp2_with fail
    go_loopw [4] (fun v W => ∃ q : Nat, q ≤ r.k.n ∧ v = .int .i64 q ∧ Hid (Calm W1 W ∧ BkE W0 W B pb P (z2 + (wt (nodesL (r.kids.take q)) : Nat)) (S ++ (r :: nodesL (r.kids.take q)).map bS) (A ++ (r :: nodesL (r.kids.take q)).map bA) (K ++ (r :: nodesL (r.kids.take q)).map bK) i j k)) (fun v _ => r.k.n - (intOf v).toNat)
    case atStart => exact ⟨0, Nat.zero_le _, rfl, Lib.hid ⟨HC6.out, HB7.out⟩⟩
    case round =>
      obtain ⟨q, hq, rfl, HI⟩ := hrel
      obtain ⟨k3, k4, k5, kl⟩ := HK.out wr HI.out.1
      clear k3 k4 kl
      by_cases hlt : q < r.k.n
      · obtain ⟨kd, hkd⟩ : ∃ kd, t.kids[q]? = some kd := ⟨_, List.getElem?_eq_getElem (by rw [← HE.out]; exact hlt)⟩
        obtain ⟨qr, hqr, hoq⟩ := HP.out.2.2.2.2.get hkd
        have hrow : RowOwn wr B TTm 6 r.k (rtCellsL t.kids r.kids) := HP.out.2.2.1.kept fun g hg => by
          obtain ⟨_, cur, hc⟩ := HP.out.2.2.1.blk_lt hg
          exact HI.out.1.block g cur _ hc (.inr (.inr rfl))
        obtain ⟨g, cur, hgp, hgb, hgc, hgl, hgt⟩ := hrow.some (by omega)
        have hcell : ∀ x v, (rtCells kd qr)[x]? = some v → wr.cell? ⟨g, q * 6 + x, none⟩ = some v := fun x v hv => by
          have h1 := rtCells_get hkd hqr hv
          rw [← hgt, List.getElem?_take] at h1
          split at h1
          · exact cell_at hgc (by simpa using h1)
          · cases h1
        have c0 : wr.cell? ⟨g, q * 6, none⟩ = some (.int .i64 kd.kind) := hcell 0 _ rfl
        have c1 : wr.cell? ⟨g, q * 6 + 1, none⟩ = some (.string kd.text) := hcell 1 _ rfl
        have c2 : wr.cell? ⟨g, q * 6 + 2, none⟩ = some (.int .i64 kd.n) := hcell 2 _ rfl
        have c3 : wr.cell? ⟨g, q * 6 + 3, none⟩ = some (.slice qr.s.p qr.s.n qr.s.c) := hcell 3 _ rfl
        have c4 : wr.cell? ⟨g, q * 6 + 4, none⟩ = some (.slice qr.a.p qr.a.n qr.a.c) := hcell 4 _ rfl
        have c5 : wr.cell? ⟨g, q * 6 + 5, none⟩ = some (.slice qr.k.p qr.k.n qr.k.c) := hcell 5 _ rfl
        have hnd := HO.out.2.1
        rw [blksT_eq] at hnd
        obtain ⟨_, hndk, hndx⟩ := List.nodup_append.1 hnd
        rw [blksL_split r.kids q, blksL_drop hqr] at hndk
        obtain ⟨_, hnd2, hndy⟩ := List.nodup_append.1 hndk
        have hnq := (List.nodup_append.1 hnd2).1
        have hsub : ∀ x ∈ blksT qr, x ∈ blksL r.kids := fun x hx => by rw [blksL_split r.kids q, blksL_drop hqr]; exact List.mem_append_right _ (List.mem_append_left _ hx)
        have hin : ∀ x ∈ blksL r.kids, x ∈ blksT r := fun x hx => by rw [blksT_eq]; exact List.mem_append_right _ hx
        have hap : ∀ x ∈ blksT qr, ∀ n ∈ r :: nodesL (r.kids.take q), n.s.blk ≠ some x ∧ n.a.blk ≠ some x ∧ n.k.blk ≠ some x := fun x hx n hn => by
          rcases List.mem_cons.1 hn with rfl | hn
          · have hk := hsub x hx
            exact ⟨fun e => hndx x (List.mem_append_left _ (List.mem_append_left _ (Option.mem_toList.2 e))) x hk rfl, fun e => hndx x (List.mem_append_left _ (List.mem_append_right _ (Option.mem_toList.2 e))) x hk rfl, fun e => hndx x (List.mem_append_right _ (Option.mem_toList.2 e)) x hk rfl⟩
          · exact ⟨fun e => hndy x (nodesL_blk hn (.inl e)) x (List.mem_append_left _ hx) rfl, fun e => hndy x (nodesL_blk hn (.inr (.inl e))) x (List.mem_append_left _ hx) rfl, fun e => hndy x (nodesL_blk hn (.inr (.inr e))) x (List.mem_append_left _ hx) rfl⟩
        have hfree : Free P (S ++ (r :: nodesL (r.kids.take q)).map bS) (A ++ (r :: nodesL (r.kids.take q)).map bA) (K ++ (r :: nodesL (r.kids.take q)).map bK) (blksT qr) := fun x hx => by
          obtain ⟨f1, f2, f3, f4⟩ := HFR.out x (hin x (hsub x hx))
          refine ⟨f1, fun s hs => ?_, fun s hs => ?_, fun s hs => ?_⟩
          · rcases List.mem_append.1 hs with hs | hs
            · exact f2 s hs
            · obtain ⟨n, hn, rfl⟩ := List.mem_map.1 hs; exact (hap x hx n hn).1
          · rcases List.mem_append.1 hs with hs | hs
            · exact f3 s hs
            · obtain ⟨n, hn, rfl⟩ := List.mem_map.1 hs; exact (hap x hx n hn).2.1
          · rcases List.mem_append.1 hs with hs | hs
            · exact f4 s hs
            · obtain ⟨n, hn, rfl⟩ := List.mem_map.1 hs; exact (hap x hx n hn).2.2
        have hl1 := len_take_le r.kids (q + 1)
        have hw1 := wt_take_le r.kids (q + 1)
        rw [nodesL_take hqr, List.length_append] at hl1
        rw [nodesL_take hqr, wt_app] at hw1
        have hln := HLEN.out
        simp only [List.length_cons] at hln
        have hij := HIJ.out
        have hzz := HZ.out
        have HS := Lib.hid (IH.out kd qr W0 wr B pb P (z2 + (wt (nodesL (r.kids.take q)) : Nat)) (S ++ (r :: nodesL (r.kids.take q)).map bS) (A ++ (r :: nodesL (r.kids.take q)).map bA) (K ++ (r :: nodesL (r.kids.take q)).map bK) i j k (by have h1 := cnt_kid hkd; have h2 := HO.out.2.2.2; omega) (hoq.calm HI.out.1) hnq (HO.out.2.2.1.node.each kd (List.mem_of_getElem? hkd)) HI.out.2 hfree HPP.out HBW.out
          (by simp only [List.length_append]; omega) (by simp only [List.length_append, List.length_map, List.length_cons]; omega) (by have := HZ2.out; omega) (by omega))
        have HQR := Lib.hid hqr
        rw [hgp] at k5
        have b1 : (0 : Int) ≤ (q : Int) := by omega
        have b2 : (q : Int) < (r.k.n : Int) := by omega
        clear hkd hqr hoq hrow hgp hgb hgc hgl hgt hcell hnd hndk hndx hnd2 hndy hnq hsub hin hap hfree hl1 hw1 hln hij hzz
        unfold rtVal at HS
        go_wp2_with fail
        refine HS.out.mono ?_
        rintro e w7 ⟨rfl, hc7, hb7⟩
        have HN : Hid (Calm W1 w7 ∧ BkE W0 w7 B pb P (z2 + (wt (nodesL (r.kids.take (q + 1))) : Nat)) (S ++ (r :: nodesL (r.kids.take (q + 1))).map bS) (A ++ (r :: nodesL (r.kids.take (q + 1))).map bA) (K ++ (r :: nodesL (r.kids.take (q + 1))).map bK) i j k) := Lib.hid ⟨HI.out.1.trans hc7, by
          rw [nodesL_take HQR.out, wt_app, ← List.cons_append, List.map_append, List.map_append, List.map_append, ← List.append_assoc, ← List.append_assoc, ← List.append_assoc, Int.natCast_add, ← Int.add_assoc]
          exact hb7⟩
        clear hc7 hb7 k5 c0 c1 c2 c3 c4 c5
        go_wp2_with fail
        exact ⟨⟨q + 1, by omega, by go_num, HN⟩, by simp [intOf]; omega⟩
      · obtain rfl : q = r.k.n := by omega
        clear hlt
        go_wp2_with fail
        refine bodyPost_end (results_none rfl _ _ _) rfl ⟨rfl, HC1.out.trans HI.out.1, ?_⟩
        have h := HI.out.2
        have hk : r.k.n = r.kids.length := by rw [HE.out]; exact HP.out.2.2.2.1
        rw [hk, List.take_length, HZ2.out, Int.add_assoc, ← Int.natCast_add] at h
        exact h
end Go.Proofs.YtkdejffhdhcocaaGreat
