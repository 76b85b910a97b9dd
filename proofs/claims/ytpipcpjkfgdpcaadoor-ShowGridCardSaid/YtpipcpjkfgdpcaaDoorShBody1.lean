/- The body of Text's first loop: the widths. Condition: strconv's table of powers is as laid. -/
import Derived.Test.YtpipcpjkfgdpcaaDoorShTail
namespace Go.Proofs.YtpipcpjkfgdpcaaDoor
open Go.RowKit
attribute [local go_sem] Oper.semAt_some

/-- what holds ahead of each round of the first loop -/
def I1 (w : World) (g0 g4 g5 gw : Nat) (A B : Option Addr) (ca cb : Nat) (s a : List Int) (m p : Nat) (W : World) : Prop := TextW w W g0 g4 g5 gw A B ca cb s a m ∧ Wide W gw m (wd a m p)

set_option maxHeartbeats 8000000 in
set_option maxRecDepth 100000 in
theorem text_body1 (r : Code) (hR : textBody 43 = some r) (w : World) (n g0 g4 g5 gw ca cb m b1 b2 : Nat) (A B A' : Option Addr) (s s0 a : List Int) (hp : Pow10 w) (hia : IntsAt w B a) (ha : All64 a) (hs : s = s0 ++ [(m : Int)]) (hsl : s.length ≤ 64) (hm : 1 ≤ m) (hm2 : m ≤ 4096) (hgw : w.heap.size ≤ gw)
    (hd1 : g0 ≠ gw) (hd4 : g4 ≠ gw) (hd5 : g5 ≠ gw) (l p q : Nat) (u : Nat → Value) (W : World) (hI : I1 w g0 g4 g5 gw A B ca cb s a m p W) (hpl : p < a.length) (hT : Tail W q s.length 0 (idx s p)) (hgA : ∀ k, AllIn b1 b2 A' k → k ≠ gw) :
    r.wpIn (Fence.wide.inRound l) (n - 1 - 1) Tryd.prog (RoundQ (I1 w g0 g4 g5 gw A B ca cb s a m) b1 b2 A' p W) (textFrame1 g0 g4 g5 s.length p q u) W := by
  have e : textBody 43 = some _ := rfl
  rw [e] at hR
  cases hR
  have HI := Lib.hid hI
  obtain ⟨hX, hwide⟩ := hI
  obtain ⟨x0, x1⟩ := heap2 hX.c0
  have x4 := cells1 hX.c4
  have x5 := cells1 hX.c5
  have hk : s.length = s0.length + 1 := by rw [hs]; simp
  have hcol : (idx s p)[s0.length]? = some (((p % m : Nat) : Int)) := by
    rw [hs, idx_snoc, List.getElem?_append_right (by rw [idx_len]; exact Nat.le_refl _), idx_len]
    simp
  have xq := hT.cell hcol
  obtain ⟨x, hx⟩ : ∃ x, a[p]? = some x := ⟨_, List.getElem?_eq_getElem hpl⟩
  have hxa : atomAt a p = x := by simp [atomAt, hx]
  obtain ⟨b, off, rfl, hbl, kc⟩ := (hia.on hX.be) p x hx
  have hx64 : In64 x := ha x (List.mem_of_getElem? hx)
  obtain ⟨col, hc⟩ : ∃ col, col = p % m := ⟨_, rfl⟩
  have hcm : col < m := by rw [hc]; exact Nat.mod_lt _ (by omega)
  rw [← hc] at xq hcol
  obtain ⟨ww, wf⟩ := hwide.cell hcm
  obtain ⟨wv, hwv⟩ : ∃ wv, wv = wd a m p col := ⟨_, rfl⟩
  rw [← hwv] at ww
  rw [hk] at x4 hT hsl ⊢
  have hdl := digits_len x hx64
  have HPW := Lib.hid (hp.on hX.be)
  have HX := Lib.hid (And.intro hx64 hxa)
  have HT := Lib.hid hT
  have HC := Lib.hid (And.intro hc (And.intro hcm hwv))
  have hmix : Tryd.prog.follows .mixedOrders = true := by kernel_rfl
  have l5 := (Array.getElem?_eq_some_iff.1 hX.c5).1
  have l4 := (Array.getElem?_eq_some_iff.1 hX.c4).1
  have l0 := (Array.getElem?_eq_some_iff.1 hX.c0).1
  have lq := hT.lt
  have lw : gw < W.heap.size := by obtain ⟨cur, h1, _⟩ := hwide; exact (Array.getElem?_eq_some_iff.1 h1).1
  have HLT := Lib.hid (And.intro l5 (And.intro l4 (And.intro l0 (And.intro lq (And.intro lw hbl)))))
  clear hp hia ha hs hX hwide hx hxa hx64 hcol hT hbl hc hwv hk e l5 l4 l0 lq lw
  obtain ⟨k0, hk0⟩ : ∃ k0, k0 = s0.length := ⟨_, rfl⟩
  have HK0 := Lib.hid hk0
  rw [← hk0] at x4 xq HT ⊢
  have x4' : W.cell? ⟨g4, 0, none⟩ = some (.int .i64 ((k0 : Int) + 1)) := x4
  have hk64 : k0 ≤ 64 := by rw [hk0]; omega
  have hwk : IntKind.i64.wrap (k0 : Int) = k0 := by rw [IntKind.wrap_i64]; omega
  have hkp : (k0 : Int) < (k0 : Int) + 1 := by omega
  clear hk0 x4
  have HF : Hid (∀ W', Below W.heap.size W W' → W'.cell? ⟨g5, 0, none⟩ = some (.slice (some ⟨gw, 0, none⟩) m m) ∧ W'.cell? ⟨g4, 0, none⟩ = some (.int .i64 ((k0 : Int) + 1)) ∧ W'.cell? ⟨g0, 1, none⟩ = some (.slice (some ⟨b, off, none⟩) a.length cb) ∧ W'.cell? ⟨q, k0, none⟩ = some (.int .i64 (col : Int)) ∧
      W'.cell? ⟨gw, col, none⟩ = some (.int .i64 wv) ∧ W'.frozen? ⟨gw, col, none⟩ = false ∧ W'.cell? ⟨b, off + p, none⟩ = some (.int .i64 x)) := Lib.hid fun W' hbb =>
    ⟨(hbb.cell (p := ⟨g5, 0, none⟩) HLT.out.1).trans x5, (hbb.cell (p := ⟨g4, 0, none⟩) HLT.out.2.1).trans x4', (hbb.cell (p := ⟨g0, 1, none⟩) HLT.out.2.2.1).trans x1, (hbb.cell (p := ⟨q, k0, none⟩) HLT.out.2.2.2.1).trans xq,
     (hbb.cell (p := ⟨gw, col, none⟩) HLT.out.2.2.2.2.1).trans ww, (hbb.frozen (p := ⟨gw, col, none⟩) HLT.out.2.2.2.2.1).trans wf, (hbb.cell (p := ⟨b, off + p, none⟩) HLT.out.2.2.2.2.2).trans kc⟩
  have hcm' : (col : Int) < m := by have := HC.out.2.1; omega
  clear x0 x1 x4' x5 xq ww wf kc
  simp only [textFrame1]
  gi_wp2
  refine wpIn_region_head_tail (C := fun W' => Below W.heap.size W W') 23 (by kernel_rfl) (by kernel_rfl) (by kernel_rfl) ((Below.refl _ _).drew) ?_
  simp only [List.take_succ_cons, List.take_zero, List.drop_succ_cons, List.drop_zero]
  repeat
    (refine wpQuiet_step (fun K hK => ?_)
     go_simp
     first
     | (refine hK _ ?_; clear hK K)
     | (apply Exists.intro
        refine ⟨fun W' hC => ?_, hK _ ?_⟩
        (obtain ⟨y5, y4, y1, yq, yw, yf, yc⟩ := HF.out W' hC
         first
         | (go_simp; rfl)
         | (go_simp; done)
         | (refine (digits_any x HX.out.1 W' (HPW.out.on hC)).mono ?_
            rintro e w' ⟨rfl, hb'⟩
            exact ⟨rfl, hC.then_ hb'⟩))
        clear hK K))
  refine wpQuiet_nil ?_
  intro w3 hC3
  obtain ⟨y5, y4, y1, yq, yw, yf, yc⟩ := HF.out w3 hC3
  have HC3 := Lib.hid hC3
  clear hC3
  gi_wp2
  have hb3 := HC3.out
  have hX3 := HI.out.1.on hb3
  have hset : ∀ k, k ≠ gw → (w3.setCell ⟨gw, col, none⟩ (.int .i64 (max ↑wv ↑(digits x).length))).heap[k]? = w3.heap[k]? := fun k hk => Below.heap_setCell _ _ _ _ hk
  have hwe : wd a m (p + 1) col = max wv (digits x).length := by
    show (if col = p % m then max (wd a m p col) (digits (atomAt a p)).length else wd a m p col) = _
    rw [if_pos HC.out.1, ← HC.out.2.2, HX.out.2]
  refine ⟨(keepsOthers_below hb3).trans (KeepsOthers.setCell _ _ _), ⟨hX3.kept (hX3.be.setCell (p := ⟨gw, col, none⟩) hgw _) (hset _ hd1) (hset _ hd4) (hset _ hd5), (HI.out.2.on hb3).set _ ?_ (fun d hd => ?_)⟩, fun k hk hkl => (hset k (hgA k hk)).trans (hb3.block k hkl), ?_⟩
  · rw [hwe]
    congr 1
    omega
  · show (if d = p % m then max (wd a m p d) (digits (atomAt a p)).length else wd a m p d) = _
    rw [if_neg (fun e => hd (e.trans HC.out.1.symm))]
  · have := hb3.size
    simpa using this
end Go.Proofs.YtpipcpjkfgdpcaaDoor
