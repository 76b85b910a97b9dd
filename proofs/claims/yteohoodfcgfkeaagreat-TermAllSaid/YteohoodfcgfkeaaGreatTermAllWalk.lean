/- The walk of TermAll: it returns true. Condition: sizes within reach. -/
import Derived.Test.YteohoodfcgfkeaaGreatTeD4
import Derived.Test.YteohoodfcgfkeaaGreatTeOo
namespace Go.Proofs.YteohoodfcgfkeaaGreat
open Go.RowKit

set_option maxRecDepth 100000 in
set_option maxHeartbeats 4000000 in
theorem termAll_any (X : Option Addr) (n c : Nat) (w : World) (hn : n ≤ 140737488351232) (h : ∀ i, i < n → ∃ b off cs, X = some ⟨b, off, none⟩ ∧ b < w.heap.size ∧ OpIs w cs ∧ ∀ q u, cs[q]? = some u → w.cell? ⟨b, off + i * 14 + q, none⟩ = some u) :
    Calls Tryz.prog 6 #[.slice X n c] w fun e w' => e = .returned (.bool true) ∧ Below w.heap.size w w' := by
  have HH := Lib.hid h
  clear h
  go_enter Tryz.func6, Tryz.ntmps6
  go_wp2_with fail
  refine (begun_any w).mono ?_
  rintro e w2 ⟨rfl, hb2⟩
  have HB2 := Lib.hid hb2
  clear hb2
  go_wp2_with fail
  go_loopw [3] (fun v W => ∃ i : Nat, i ≤ n ∧ v = .int .i64 i ∧ Hid (Below w.heap.size w W)) (fun v _ => n - (intOf v).toNat)
  case atStart => exact ⟨0, Nat.zero_le _, rfl, HB2⟩
  case round =>
    obtain ⟨i, hi, rfl, HI⟩ := hrel
    by_cases hlt0 : i < n
    · obtain ⟨b, off, cs, rfl, hlt, hop, hcs⟩ := HH.out i hlt0
      obtain ⟨k, t, A, ca, B, cb, K, ck, u, A', ca', B', cb', K', ck', m, rfl, h1, w1, h2, w2⟩ := hop
      have c0 : wr.cell? ⟨b, off + i * 14, none⟩ = some (.int .i64 k) := (HI.out.cell (p := ⟨b, off + i * 14, none⟩) hlt).trans (hcs 0 _ rfl)
      have c1 : wr.cell? ⟨b, off + i * 14 + 1, none⟩ = some (.int .i64 t.kind) := (HI.out.cell (p := ⟨b, off + i * 14 + 1, none⟩) hlt).trans (hcs 1 _ rfl)
      have c2 : wr.cell? ⟨b, off + i * 14 + 2, none⟩ = some (.string t.text) := (HI.out.cell (p := ⟨b, off + i * 14 + 2, none⟩) hlt).trans (hcs 2 _ rfl)
      have c3 : wr.cell? ⟨b, off + i * 14 + 3, none⟩ = some (.int .i64 t.n) := (HI.out.cell (p := ⟨b, off + i * 14 + 3, none⟩) hlt).trans (hcs 3 _ rfl)
      have c4 : wr.cell? ⟨b, off + i * 14 + 4, none⟩ = some (.slice A t.sh.length ca) := (HI.out.cell (p := ⟨b, off + i * 14 + 4, none⟩) hlt).trans (hcs 4 _ rfl)
      have c5 : wr.cell? ⟨b, off + i * 14 + 5, none⟩ = some (.slice B t.at_.length cb) := (HI.out.cell (p := ⟨b, off + i * 14 + 5, none⟩) hlt).trans (hcs 5 _ rfl)
      have c6 : wr.cell? ⟨b, off + i * 14 + 6, none⟩ = some (.slice K t.kids.length ck) := (HI.out.cell (p := ⟨b, off + i * 14 + 6, none⟩) hlt).trans (hcs 6 _ rfl)
      have c7 : wr.cell? ⟨b, off + i * 14 + 7, none⟩ = some (.int .i64 u.kind) := (HI.out.cell (p := ⟨b, off + i * 14 + 7, none⟩) hlt).trans (hcs 7 _ rfl)
      have c8 : wr.cell? ⟨b, off + i * 14 + 8, none⟩ = some (.string u.text) := (HI.out.cell (p := ⟨b, off + i * 14 + 8, none⟩) hlt).trans (hcs 8 _ rfl)
      have c9 : wr.cell? ⟨b, off + i * 14 + 9, none⟩ = some (.int .i64 u.n) := (HI.out.cell (p := ⟨b, off + i * 14 + 9, none⟩) hlt).trans (hcs 9 _ rfl)
      have c10 : wr.cell? ⟨b, off + i * 14 + 10, none⟩ = some (.slice A' u.sh.length ca') := (HI.out.cell (p := ⟨b, off + i * 14 + 10, none⟩) hlt).trans (hcs 10 _ rfl)
      have c11 : wr.cell? ⟨b, off + i * 14 + 11, none⟩ = some (.slice B' u.at_.length cb') := (HI.out.cell (p := ⟨b, off + i * 14 + 11, none⟩) hlt).trans (hcs 11 _ rfl)
      have c12 : wr.cell? ⟨b, off + i * 14 + 12, none⟩ = some (.slice K' u.kids.length ck') := (HI.out.cell (p := ⟨b, off + i * 14 + 12, none⟩) hlt).trans (hcs 12 _ rfl)
      have c13 : wr.cell? ⟨b, off + i * 14 + 13, none⟩ = some (.int .i64 m) := (HI.out.cell (p := ⟨b, off + i * 14 + 13, none⟩) hlt).trans (hcs 13 _ rfl)
      have HPL := Lib.hid (plays_any k t A ca B cb K ck u A' ca' B' cb' K' ck' m wr (h1.on HI.out) w1 (h2.on HI.out) w2)
      have q1 : (0 : Int) ≤ (i : Int) := by omega
      have q2 : (i : Int) < (n : Int) := by omega
      clear h1 w1 h2 w2 hcs
      unfold opArr at HPL
      go_wp2_with fail
      refine HPL.out.mono ?_
      rintro e w4 ⟨rfl, hb4⟩
      have HB4 := Lib.hid (HI.out.then_ hb4)
      clear hb4 c0 c1 c2 c3 c4 c5 c6 c7 c8 c9 c10 c11 c12 c13
      go_wp2_with fail
      exact ⟨⟨i + 1, by omega, by go_num, HB4⟩, by simp [intOf]; omega⟩
    · obtain rfl : i = n := by omega
      clear hlt0
      go_wp2_with fail
      go_ret
      exact ⟨rfl, HI.out⟩
end Go.Proofs.YteohoodfcgfkeaaGreat
