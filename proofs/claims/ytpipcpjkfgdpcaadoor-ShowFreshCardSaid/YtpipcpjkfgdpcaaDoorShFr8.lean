/- abacuslaw4.(*Quiet).Untouched. Condition: sizes within reach. -/
import Derived.Test.YtpipcpjkfgdpcaaDoorShFr7
namespace Go.Proofs.YtpipcpjkfgdpcaaDoor
open Go.RowKit

set_option maxHeartbeats 8000000 in
set_option maxRecDepth 100000 in
theorem untouched_any (B pq : Nat) (gv wv : Value) (mu : Nat) (its : List Item) (w : World) (h : QuietAt w B pq gv wv mu its) (hit : ∀ it ∈ its, ItemAt w B it) (hap1 : (its.map Item.gs).Pairwise fun a b => a.g = none ∨ a.g ≠ b.g) (hap2 : (its.map Item.ga).Pairwise fun a b => a.g = none ∨ a.g ≠ b.g)
    (hl : its.length ≤ 1048576) (hB : B ≤ w.heap.size) :
    Calls Tryd.prog 21 #[.pointer (some ⟨pq, 0, none⟩)] w fun e w' => e = .returned (.bool true) ∧ Only (fun k => B ≤ k) w w' := by
  obtain ⟨Q, cq, rfl, _, _⟩ := own_form h.og
  obtain ⟨P, cp, rfl, _, _⟩ := own_form h.ow
  obtain ⟨n, hn⟩ : ∃ n, n = its.length := ⟨_, rfl⟩
  have HN := Lib.hid hn
  have HH := Lib.hid h
  have HI := Lib.hid hit
  have HAP := Lib.hid (And.intro hap1 hap2)
  have HB := Lib.hid hB
  have HEQ : Hid (∀ W, Below w.heap.size w W → Calls Tryd.prog 51 #[.slice Q n cq, .slice P n cp] W fun e w' => e = .returned (.bool true) ∧ Below W.heap.size W w') := Lib.hid (fun W hb => by
    have hq := h.on hb
    rw [hn]
    exact eqAll_any B B B its Q P cq cp W hq.og hq.ow (fun it hi => (hit it hi).on hb) (by omega))
  obtain ⟨x0, x1, x2, xf⟩ := heap3 h.bk
  rw [← hn] at hl x0 x1
  clear h hit hap1 hap2 hB hn x2 xf
  go_enter Tryd.func21, Tryd.ntmps21
  go_upto_region 1 with fail
  go_cut [13] from 4 (fun v wx => v = .bool false ∧ Hid (Below w.heap.size w wx))
  case first =>
    have HC := Lib.hid (HEQ.out w.drew (Below.refl _ _).drew)
    go_region_with (go_at_call 51; refine HC.out.mono ?_; rintro e w5 ⟨rfl, hb5⟩; have HB5 := Lib.hid hb5; clear hb5)
    all_goals
      go_wp2_with fail
      go_meet
      case rel => exact ⟨rfl, Lib.hid ((Below.refl _ _).drew.then_ HB5.out)⟩
  obtain ⟨rfl, HB1⟩ := hcut
  obtain ⟨W1, rfl⟩ : ∃ W1, W1 = wc := ⟨_, rfl⟩
  clear HEQ x0 x1
  obtain ⟨W2, hW2⟩ : ∃ W2, W2 = W1.alloc (.cells #[.slice none 0 0, .int .i64 0, .slice none 0 0] TBk) := ⟨_, rfl⟩
  have HB2 : Hid (Below w.heap.size w W2) := Lib.hid (by rw [hW2]; exact HB1.out.then_ ((Below.refl _ _).alloc (Nat.le_refl _) _))
  have hq := HH.out.on HB2.out
  obtain ⟨x0, x1, x2, xf⟩ := heap3 hq.bk
  have HTA := takeArrays_any B B W1.heap.size (.slice none 0 0) (.slice none 0 0) 0 [] [] (its.map Item.got) Q cq W2 (by rw [hW2]; exact book_new W1 B) (by rw [List.length_map]; exact hq.og) (fun p hp => by
      obtain ⟨it, hi, rfl⟩ := List.mem_map.1 hp
      have := (HI.out it hi).on HB2.out
      exact ⟨this.gs, this.ga, by show it.gs.n ≤ _; rw [this.gsl]; exact this.shl, by show it.ga.n ≤ _; rw [this.gal]; exact this.atl⟩)
    (by rw [List.map_map]; exact HAP.out.1) (by rw [List.map_map]; exact HAP.out.2) (fun s hs => by cases hs) (fun s hs => by cases hs) (by rw [List.length_map, ← HN.out]; omega) (by rw [List.length_map, ← HN.out]; simp; omega) (Nat.le_trans HB.out HB2.out.size)
  rw [List.length_map, ← HN.out] at HTA
  have HT := Lib.hid HTA
  have HW2 := Lib.hid hW2
  rw [← HN.out] at x0 x1
  rw [hW2] at x0 x1
  clear hq x2 xf HTA hW2
  go_wp2_with fail
  rw [← HW2.out]
  refine HT.out.mono ?_
  rintro e w3 ⟨rfl, iv', av', mu', ri', ra', hbook, _, hon, hl1, hl2⟩
  have HBK := Lib.hid (And.intro hbook (And.intro hon (And.intro hl1 hl2)))
  clear hbook hon hl1 hl2 x0 x1
  go_wp2_with fail
  refine (allWhole_any B W1.heap.size iv' av' mu' ri' ra' w3 HBK.out.1 (by have := HBK.out.2.2.1; simp at this; omega) (by have := HBK.out.2.2.2; simp at this; omega)).mono ?_
  rintro e w4 ⟨rfl, hb4⟩
  have HB4 := Lib.hid hb4
  clear hb4
  go_wp2_with fail
  go_ret
  refine ⟨rfl, ?_⟩
  have hs := HB1.out.size
  have h1 : Only (fun k => B ≤ k) w W2 := (Only.refl _ _).below HB2.out
  refine (h1.then HBK.out.2.1 fun k _ hk => ?_).below HB4.out
  rcases hk with hk | hk | hk | ⟨p, hp, hk⟩
  · have := HB.out; omega
  · cases hk
  · cases hk
  · obtain ⟨it, hi, rfl⟩ := List.mem_map.1 hp
    rcases hk with hk | hk
    · exact ((HI.out it hi).gs.at_ k hk).1
    · exact ((HI.out it hi).ga.at_ k hk).1
end Go.Proofs.YtpipcpjkfgdpcaaDoor
