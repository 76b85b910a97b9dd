/- show.cut: the words of a text, or an error with a place. Condition: the text is at most 2^20 bytes. -/
import Derived.Test.YtpipcpjkfgdpcaaDoorShCut5
namespace Go.Proofs.YtpipcpjkfgdpcaaDoor
open Go.RowKit

abbrev wzero : Obj := .cells #[.slice none 0 0, .slice none 0 0, .int .i64 0] 96
theorem cut_begin (s : ByteArray) (w : World) : CutW s w (((w.alloc wzero).alloc wzero).setRow (w.heap.size + 1) #[.slice none 0 0, .slice none 0 0, .int .i64 (-1)]) ⟨.slice none 0 0, [], .slice none 0 0, [], false, -1⟩ := by
  have h1 : (w.alloc wzero).heap[w.heap.size]? = some wzero := heap_alloc_new w _
  have h2 : ((w.alloc wzero).alloc wzero).heap[w.heap.size]? = some wzero := (Below.heap_alloc (w.alloc wzero) _ _ (by simp)).trans h1
  have h3 : ((w.alloc wzero).alloc wzero).heap[w.heap.size + 1]? = some wzero := by
    have := heap_alloc_new (w.alloc wzero) wzero
    simpa using this
  refine ⟨below_setRow (((Below.refl _ _).alloc (Nat.le_refl _) _).alloc (by simp) _) (Nat.le_succ _) _, (setRow_other _ _ _ _ (by omega)).trans h2, setRow_heap _ _ _ _ _ _ h3, World.ownsRow_nil _ _ _ _, World.ownsRow_nil _ _ _ _, .inl rfl, fun x hx => (by cases hx), fun x hx => (by cases hx), .inl ⟨rfl, rfl, rfl⟩⟩

set_option maxHeartbeats 8000000 in
set_option maxRecDepth 100000 in
theorem cut_any (s : ByteArray) (w : World) (hs : s.size ≤ 1048576) : Calls Tryd.prog 42 #[.string s] w (CutPost s w) := by
  go_enter Tryd.func42, Tryd.ntmps42
  go_wp2_with fail
  refine wp_scope_labels cutAt (cutJ s w) (cutM s) (8 * s.size + 7) ?_ ?_ ?_
  · rintro l a w' ⟨c, n, i, f, b, o, u, rfl, _, _, _, _, ht, _⟩
    match l, ht with
    | 0, _ => exact ⟨_, rfl, rfl⟩
    | 1, _ => exact ⟨_, rfl, rfl⟩
    | 2, _ => exact ⟨_, rfl, rfl⟩
    | 3, _ => exact ⟨_, rfl, rfl⟩
    | 4, _ => exact ⟨_, rfl, rfl⟩
  · intro Q1 hret hgo hfall
    have HFall := Lib.hid hfall
    have hblk : ((w.alloc wzero).alloc wzero).heap[w.heap.size + 1]? = some wzero := by
      have := heap_alloc_new (w.alloc wzero) wzero
      simpa using this
    clear hret hgo hfall
    go_wp2_with (refine wp_store_words _ (w.heap.size + 1) _ (.tmp 5) (.tmp 13) rfl rfl hblk rfl rfl _ _ _ rfl rfl ?_)
    rename_i hK
    refine wp_label (hK _ _ (HFall.out 0 _ _ _ rfl (cutJ_of ⟨.slice none 0 0, [], .slice none 0 0, [], false, -1⟩ 0 0 0 false false rfl (Nat.zero_le _) (Nat.zero_le _) (by decide) (cut_begin s w) rfl rfl) ?_))
    show 8 * (s.size - 0) + 6 < 8 * s.size + 7
    omega
  · intro l r a w' hR hJ
    have hJ' := hJ
    obtain ⟨c, n, i, f, b, o, u, _, _, _, _, _, ht, _⟩ := hJ'
    match l, ht, hJ, hR with
    | 0, _, hJ, hR => exact cut_start s w hs r hR a w' hJ
    | 1, _, hJ, hR => exact cut_end s w r hR a w' hJ
    | 2, _, hJ, hR => exact cut_blank s w hs r hR a w' hJ
    | 3, _, hJ, hR => exact cut_done s w hs r hR a w' hJ
    | 4, _, hJ, hR => exact cut_more s w hs r hR a w' hJ
end Go.Proofs.YtpipcpjkfgdpcaaDoor
