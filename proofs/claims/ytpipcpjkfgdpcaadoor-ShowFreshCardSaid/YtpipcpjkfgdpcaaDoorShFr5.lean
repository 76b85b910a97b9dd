/- abacuslaw2.(*Book).Whole, abacuslaw4.(*Book).AllWhole, abacuslaw4.EqAll. Condition: sizes within reach. -/
import Derived.Test.YtpipcpjkfgdpcaaDoorShFr4
namespace Go.Proofs.YtpipcpjkfgdpcaaDoor
open Go.RowKit

theorem BookAt.cellI {w : World} {B pb mu : Nat} {A : Option Addr} {n cp : Nat} {av : Value} {ri ra : List Rw} (h : BookAt w B pb (.slice A n cp) av mu ri ra) (hn : n = ri.length) {j : Nat} {r : Rw} (hj : ri[j]? = some r) : ∃ g, A = some ⟨g, 0, none⟩ ∧ g < w.heap.size ∧ w.cell? ⟨g, j, none⟩ = some r.val := by
  subst hn
  exact own_cell h.oi (by rw [List.getElem?_map, hj]; rfl) (by have := (List.getElem?_eq_some_iff.1 hj).1; omega)
theorem BookAt.cellA {w : World} {B pb mu : Nat} {A : Option Addr} {n cp : Nat} {iv : Value} {ri ra : List Rw} (h : BookAt w B pb iv (.slice A n cp) mu ri ra) (hn : n = ra.length) {j : Nat} {r : Rw} (hj : ra[j]? = some r) : ∃ g, A = some ⟨g, 0, none⟩ ∧ g < w.heap.size ∧ w.cell? ⟨g, j, none⟩ = some r.val := by
  subst hn
  exact own_cell h.oa (by rw [List.getElem?_map, hj]; rfl) (by have := (List.getElem?_eq_some_iff.1 hj).1; omega)

set_option maxHeartbeats 8000000 in
set_option maxRecDepth 100000 in
theorem whole_any (B pb : Nat) (iv av : Value) (mu : Nat) (ri ra : List Rw) (w : World) (h : BookAt w B pb iv av mu ri ra) (hl : ri.length ≤ 1099511627776) :
    Calls Tryd.prog 50 #[.pointer (some ⟨pb, 0, none⟩)] w fun e w' => e = .returned (.bool true) ∧ Below w.heap.size w w' := by
  obtain ⟨A, c, rfl, _, _⟩ := own_form h.oi
  obtain ⟨n, hn⟩ : ∃ n, n = ri.length := ⟨_, rfl⟩
  have HN := Lib.hid hn
  rw [← hn] at h hl
  have HH := Lib.hid h
  clear h hn
  go_enter Tryd.func50, Tryd.ntmps50
  go_wp2_with fail
  go_loopw [3] (fun v3 wr => ∃ j : Nat, j ≤ n ∧ v3 = .int .i64 j ∧ Hid (Below w.heap.size w wr)) (fun v3 _ => n - (intOf v3).toNat)
  case atStart => exact ⟨0, Nat.zero_le _, rfl, Lib.hid (Below.refl _ _)⟩
  case round =>
    obtain ⟨j, hj, rfl, HBl⟩ := hrel
    obtain ⟨W1, rfl⟩ : ∃ W1, W1 = wr := ⟨_, rfl⟩
    have hk := HH.out.on HBl.out
    obtain ⟨x0, x1, x2⟩ := heap3 hk.bk
    by_cases hlt : j < n
    · obtain ⟨r, hr⟩ : ∃ r, ri[j]? = some r := ⟨_, List.getElem?_eq_getElem (by rw [← HN.out]; exact hlt)⟩
      obtain ⟨g, rfl, hg, kg⟩ := hk.cellI HN.out hr
      have HR := Lib.hid hr
      have hrn : r.n ≤ 9223372036854775807 := Nat.le_trans (hk.fi j r hr).1.le (hk.fi j r hr).1.max
      simp only [Rw.val] at kg
      clear hk hr
      go_wp2_with fail
      clear x0 x1 x2 kg
      go_loopw [4] (fun v4 wr => ∃ k : Nat, k ≤ r.n ∧ v4 = .int .i64 k ∧ Hid (Below w.heap.size w wr)) (fun v4 _ => r.n - (intOf v4).toNat)
      case atStart => exact ⟨0, Nat.zero_le _, rfl, HBl⟩
      case round =>
        obtain ⟨k, hk, rfl, HBk⟩ := hrel
        have hkk := HH.out.on HBk.out
        obtain ⟨x0, x1, x2⟩ := heap3 hkk.bk
        obtain ⟨g2, hg2, hgl, kg⟩ := hkk.cellI HN.out HR.out
        obtain rfl : g = g2 := by injection hg2 with hg2; injection hg2
        obtain ⟨hrow, hmk⟩ := hkk.fi j r HR.out
        simp only [Rw.val] at kg
        by_cases hlk : k < r.n
        · obtain ⟨b, hb⟩ := hrow.some (Nat.lt_of_lt_of_le hlk hrow.le)
          have kb := hmk b hb k hlk
          have hbl := hrow.lt hb
          unfold mkN at kb
          simp only [hb, Option.map_some] at kg
          clear hkk hrow hmk hb hg2
          go_wp2_with fail
          exact ⟨⟨k + 1, by omega, by go_num, HBk⟩, by simp [intOf]; omega⟩
        · obtain rfl : k = r.n := by omega
          have hge : ¬ (r.n : Int) < r.n := by omega
          clear hkk hrow hmk hg2 hlk
          go_wp2_with fail
          exact ⟨⟨j + 1, by omega, by go_num, HBk⟩, by simp [intOf]; omega⟩
    · obtain rfl : j = n := by omega
      have hge : ¬ (j : Int) < j := by omega
      clear hk hlt
      go_wp2_with fail
      go_ret
      exact ⟨rfl, HBl.out⟩

set_option maxHeartbeats 8000000 in
set_option maxRecDepth 100000 in
theorem allWhole_any (B pb : Nat) (iv av : Value) (mu : Nat) (ri ra : List Rw) (w : World) (h : BookAt w B pb iv av mu ri ra) (hl : ri.length ≤ 1099511627776) (hl2 : ra.length ≤ 1099511627776) :
    Calls Tryd.prog 19 #[.pointer (some ⟨pb, 0, none⟩)] w fun e w' => e = .returned (.bool true) ∧ Below w.heap.size w w' := by
  have HW : Hid (∀ W, Below w.heap.size w W → Calls Tryd.prog 50 #[.pointer (some ⟨pb, 0, none⟩)] W fun e w' => e = .returned (.bool true) ∧ Below W.heap.size W w') := Lib.hid (fun W hb => whole_any B pb iv av mu ri ra W (h.on hb) hl)
  obtain ⟨A, c, rfl, _, _⟩ := own_form h.oa
  obtain ⟨n, hn⟩ : ∃ n, n = ra.length := ⟨_, rfl⟩
  have HN := Lib.hid hn
  rw [← hn] at h hl2
  have HH := Lib.hid h
  clear h hn hl
  go_enter Tryd.func19, Tryd.ntmps19
  go_wp2_with fail
  go_loopw [3] (fun v3 wr => ∃ j : Nat, j ≤ n ∧ v3 = .int .i64 j ∧ Hid (Below w.heap.size w wr)) (fun v3 _ => n - (intOf v3).toNat)
  case atStart => exact ⟨0, Nat.zero_le _, rfl, Lib.hid (Below.refl _ _)⟩
  case round =>
    obtain ⟨j, hj, rfl, HBl⟩ := hrel
    obtain ⟨W1, rfl⟩ : ∃ W1, W1 = wr := ⟨_, rfl⟩
    have hk := HH.out.on HBl.out
    obtain ⟨x0, x1, x2⟩ := heap3 hk.bk
    by_cases hlt : j < n
    · obtain ⟨r, hr⟩ : ∃ r, ra[j]? = some r := ⟨_, List.getElem?_eq_getElem (by rw [← HN.out]; exact hlt)⟩
      obtain ⟨g, rfl, hg, kg⟩ := hk.cellA HN.out hr
      have HR := Lib.hid hr
      have hrn : r.n ≤ 9223372036854775807 := Nat.le_trans (hk.fa j r hr).1.le (hk.fa j r hr).1.max
      simp only [Rw.val] at kg
      clear hk hr
      go_wp2_with fail
      clear x0 x1 x2 kg
      go_loopw [4] (fun v4 wr => ∃ k : Nat, k ≤ r.n ∧ v4 = .int .i64 k ∧ Hid (Below w.heap.size w wr)) (fun v4 _ => r.n - (intOf v4).toNat)
      case atStart => exact ⟨0, Nat.zero_le _, rfl, HBl⟩
      case round =>
        obtain ⟨k, hk, rfl, HBk⟩ := hrel
        have hkk := HH.out.on HBk.out
        obtain ⟨x0, x1, x2⟩ := heap3 hkk.bk
        obtain ⟨g2, hg2, hgl, kg⟩ := hkk.cellA HN.out HR.out
        obtain rfl : g = g2 := by injection hg2 with hg2; injection hg2
        obtain ⟨hrow, hmk⟩ := hkk.fa j r HR.out
        simp only [Rw.val] at kg
        by_cases hlk : k < r.n
        · obtain ⟨b, hb⟩ := hrow.some (Nat.lt_of_lt_of_le hlk hrow.le)
          have kb := hmk b hb k hlk
          have hbl := hrow.lt hb
          unfold mkN at kb
          simp only [hb, Option.map_some] at kg
          clear hkk hrow hmk hb hg2
          go_wp2_with fail
          exact ⟨⟨k + 1, by omega, by go_num, HBk⟩, by simp [intOf]; omega⟩
        · obtain rfl : k = r.n := by omega
          have hge : ¬ (r.n : Int) < r.n := by omega
          clear hkk hrow hmk hg2 hlk
          go_wp2_with fail
          exact ⟨⟨j + 1, by omega, by go_num, HBk⟩, by simp [intOf]; omega⟩
    · obtain rfl : j = n := by omega
      have hge : ¬ (j : Int) < j := by omega
      have HC := HW.out W1 HBl.out
      clear hk hlt
      go_wp2_with fail
      refine HC.mono ?_
      rintro e w5 ⟨rfl, hb5⟩
      go_wp2_with fail
      go_ret
      exact ⟨rfl, HBl.out.then_ hb5⟩

/-- an array that was answered, and what was wanted of it -/
structure Item where
  gs : Rw
  ga : Rw
  ws : Rw
  wa : Rw
  sh : List Int
  at_ : List Int
def Item.got (it : Item) : Rw × Rw := (it.gs, it.ga)
def Item.want (it : Item) : Rw × Rw := (it.ws, it.wa)
structure ItemAt (w : World) (B : Nat) (it : Item) : Prop where
  gs : RowAt TI w B it.gs
  ga : RowAt TA w B it.ga
  ws : RowAt TI w B it.ws
  wa : RowAt TA w B it.wa
  gsl : it.gs.n = it.sh.length
  gal : it.ga.n = it.at_.length
  wsl : it.ws.n = it.sh.length
  wal : it.wa.n = it.at_.length
  gsi : IntsAt w (it.gs.g.map fun b => ⟨b, 0, none⟩) it.sh
  gai : IntsAt w (it.ga.g.map fun b => ⟨b, 0, none⟩) it.at_
  wsi : IntsAt w (it.ws.g.map fun b => ⟨b, 0, none⟩) it.sh
  wai : IntsAt w (it.wa.g.map fun b => ⟨b, 0, none⟩) it.at_
  shl : it.sh.length ≤ 1048576
  atl : it.at_.length ≤ 1048576
theorem IntsAt.same {w w' : World} {r : Rw} {l : List Int} (h : IntsAt w (r.g.map fun b => ⟨b, 0, none⟩) l) (hs : w.heap.size ≤ w'.heap.size) (hk : ∀ b, r.g = some b → w'.heap[b]? = w.heap[b]?) : IntsAt w' (r.g.map fun b => ⟨b, 0, none⟩) l := fun i x hx => by
  obtain ⟨b, off, e, hb, hc⟩ := h i x hx
  refine ⟨b, off, e, Nat.lt_of_lt_of_le hb hs, (World.cell?_of_block (hk b ?_)).trans hc⟩
  cases hg : r.g with
  | none => rw [hg] at e; cases e
  | some c =>
    rw [hg] at e
    simp only [Option.map_some, Option.some.injEq, Addr.mk.injEq] at e
    rw [e.1]
theorem ItemAt.same {w w' : World} {B : Nat} {it : Item} (h : ItemAt w B it) (hs : w.heap.size ≤ w'.heap.size) (hk : ∀ b, (it.gs.g = some b ∨ it.ga.g = some b ∨ it.ws.g = some b ∨ it.wa.g = some b) → w'.heap[b]? = w.heap[b]?) : ItemAt w' B it :=
  ⟨h.gs.kept fun b hb => hk b (.inl hb), h.ga.kept fun b hb => hk b (.inr (.inl hb)), h.ws.kept fun b hb => hk b (.inr (.inr (.inl hb))), h.wa.kept fun b hb => hk b (.inr (.inr (.inr hb))), h.gsl, h.gal, h.wsl, h.wal,
   h.gsi.same hs fun b hb => hk b (.inl hb), h.gai.same hs fun b hb => hk b (.inr (.inl hb)), h.wsi.same hs fun b hb => hk b (.inr (.inr (.inl hb))), h.wai.same hs fun b hb => hk b (.inr (.inr (.inr hb))), h.shl, h.atl⟩
theorem ItemAt.lt {w : World} {B b : Nat} {it : Item} (h : ItemAt w B it) (hb : it.gs.g = some b ∨ it.ga.g = some b ∨ it.ws.g = some b ∨ it.wa.g = some b) : b < w.heap.size := by
  rcases hb with hb | hb | hb | hb
  · exact h.gs.lt hb
  · exact h.ga.lt hb
  · exact h.ws.lt hb
  · exact h.wa.lt hb
theorem ItemAt.type {w : World} {B b : Nat} {it : Item} (h : ItemAt w B it) (hb : it.gs.g = some b ∨ it.ga.g = some b ∨ it.ws.g = some b ∨ it.wa.g = some b) : ∃ cur t, w.heap[b]? = some (.cells cur t (0, 0)) ∧ (t = TI ∨ t = TA) := by
  rcases hb with hb | hb | hb | hb
  · obtain ⟨_, cur, hc, _⟩ := h.gs.at_ b hb; exact ⟨cur, _, hc, .inl rfl⟩
  · obtain ⟨_, cur, hc, _⟩ := h.ga.at_ b hb; exact ⟨cur, _, hc, .inr rfl⟩
  · obtain ⟨_, cur, hc, _⟩ := h.ws.at_ b hb; exact ⟨cur, _, hc, .inl rfl⟩
  · obtain ⟨_, cur, hc, _⟩ := h.wa.at_ b hb; exact ⟨cur, _, hc, .inr rfl⟩
theorem ItemAt.on {w w' : World} {B : Nat} {it : Item} (h : ItemAt w B it) (hb : Below w.heap.size w w') : ItemAt w' B it := h.same hb.size fun b hg => hb.block b (h.lt hg)

set_option maxHeartbeats 8000000 in
set_option maxRecDepth 100000 in
theorem eqAll_any (B B1 B2 : Nat) (its : List Item) (Q P : Option Addr) (cq cp : Nat) (w : World) (hq : w.ownsRow B1 TAr 2 (.slice Q its.length cq) its.length (arrVals (its.map Item.got))) (hp : w.ownsRow B2 TAr 2 (.slice P its.length cp) its.length (arrVals (its.map Item.want)))
    (hit : ∀ it ∈ its, ItemAt w B it) (hl : its.length ≤ 1099511627776) :
    Calls Tryd.prog 51 #[.slice Q its.length cq, .slice P its.length cp] w fun e w' => e = .returned (.bool true) ∧ Below w.heap.size w w' := by
  obtain ⟨n, hn⟩ : ∃ n, n = its.length := ⟨_, rfl⟩
  have HN := Lib.hid hn
  have HIT := Lib.hid hit
  have HQ : Hid (∀ W, Below w.heap.size w W → ∀ i it, its[i]? = some it → ∃ g g', Q = some ⟨g, 0, none⟩ ∧ P = some ⟨g', 0, none⟩ ∧ W.cell? ⟨g, i * 2, none⟩ = some it.gs.val ∧ W.cell? ⟨g, i * 2 + 1, none⟩ = some it.ga.val ∧ W.cell? ⟨g', i * 2, none⟩ = some it.ws.val ∧ W.cell? ⟨g', i * 2 + 1, none⟩ = some it.wa.val) := Lib.hid (fun W hb i it hi => by
    obtain ⟨hil, _⟩ := List.getElem?_eq_some_iff.1 hi
    have e1 : (its.map Item.got)[i]? = some it.got := by rw [List.getElem?_map, hi]; rfl
    have e2 : (its.map Item.want)[i]? = some it.want := by rw [List.getElem?_map, hi]; rfl
    obtain ⟨g, rfl, h1, h2⟩ := own_cell (own_on hq hb) (arrVals_get _ e1).1 (by omega)
    obtain ⟨g1, hg1, _, h3⟩ := own_cell (own_on hq hb) (arrVals_get _ e1).2 (by omega)
    obtain rfl : g = g1 := by injection hg1 with hg1; injection hg1
    obtain ⟨g', rfl, h4, h5⟩ := own_cell (own_on hp hb) (arrVals_get _ e2).1 (by omega)
    obtain ⟨g2, hg2, _, h6⟩ := own_cell (own_on hp hb) (arrVals_get _ e2).2 (by omega)
    obtain rfl : g' = g2 := by injection hg2 with hg2; injection hg2
    exact ⟨g, g', rfl, rfl, h2, h3, h5, h6⟩)
  rw [← hn] at hl ⊢
  clear hq hp hit hn
  go_enter Tryd.func51, Tryd.ntmps51
  go_wp2_with fail
  go_loopw [5] (fun v5 wr => ∃ i : Nat, i ≤ n ∧ v5 = .int .i64 i ∧ Hid (Below w.heap.size w wr)) (fun v5 _ => n - (intOf v5).toNat)
  case atStart => exact ⟨0, Nat.zero_le _, rfl, Lib.hid (Below.refl _ _)⟩
  case round =>
    obtain ⟨i, hi, rfl, HBl⟩ := hrel
    obtain ⟨W1, rfl⟩ : ∃ W1, W1 = wr := ⟨_, rfl⟩
    by_cases hlt : i < n
    · obtain ⟨it, hit⟩ : ∃ it, its[i]? = some it := ⟨_, List.getElem?_eq_getElem (by rw [← HN.out]; exact hlt)⟩
      obtain ⟨g, g', rfl, rfl, k0, k1, k2, k3⟩ := HQ.out W1 HBl.out i it hit
      have hI := (HIT.out it (List.mem_of_getElem? hit)).on HBl.out
      simp only [Rw.val, hI.gsl, hI.gal, hI.wsl, hI.wal] at k0 k1 k2 k3
      have HC := Lib.hid (eq_any _ _ _ _ it.gs.c it.ga.c it.ws.c it.wa.c it.sh it.at_ it.sh it.at_ W1.drew ⟨hI.gsi.on (Below.refl _ _).drew, hI.gai.on (Below.refl _ _).drew⟩ ⟨hI.wsi.on (Below.refl _ _).drew, hI.wai.on (Below.refl _ _).drew⟩ (by have := hI.shl; omega) (by have := hI.atl; omega) (by have := hI.shl; omega) (by have := hI.atl; omega))
      clear hit hI
      go_upto_region 6 with fail
      go_cut [26] from 11 to 26 (fun v wx => v = .bool false ∧ Hid (Below w.heap.size w wx))
      case first =>
        go_region_with (go_at_call 16; refine HC.out.mono ?_; rintro e w5 ⟨rfl, hb5⟩; have HB5 := Lib.hid hb5; clear hb5; simp only [and_self, decide_true])
        all_goals
          go_wp2_with fail
          go_meet
          case rel => exact ⟨rfl, Lib.hid (HBl.out.drew.then_ HB5.out)⟩
      obtain ⟨rfl, HB2⟩ := hcut
      clear k0 k1 k2 k3 HC
      go_wp2_with fail
      exact ⟨⟨i + 1, by omega, by go_num, HB2⟩, by simp [intOf]; omega⟩
    · obtain rfl : i = n := by omega
      have hge : ¬ (i : Int) < i := by omega
      clear hlt
      go_wp2_with fail
      go_ret
      exact ⟨rfl, HBl.out⟩
end Go.Proofs.YtpipcpjkfgdpcaaDoor
