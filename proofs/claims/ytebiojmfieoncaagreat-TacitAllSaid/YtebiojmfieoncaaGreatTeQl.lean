/- abacusref24.turned. Condition: sizes within reach. -/
import Derived.Test.YtebiojmfieoncaaGreatTeQc
import Derived.Test.YtebiojmfieoncaaGreatTeQ8
import Derived.Test.YtebiojmfieoncaaGreatTeQ7
import Derived.Test.YtebiojmfieoncaaGreatTeQg
namespace Go.Proofs.YtebiojmfieoncaaGreat
open Go.RowKit

theorem wpList_append_none_tm {P : Program} {w : World} {ops : Array Oper} {rest : List Oper} {o : Oper} {a : Act} {Q : Exit → Act → World → Prop} (hgd : o.guard = none) (s x : Operand) (t : TypeId)
    (ho : o.op = .call { callee := .builtin .append, args := #[s, x], argTypes := #[t, t] }) {e : TypeId} {i : TypeInfo} (ht : P.underlying t = some (.slice e)) (hi : P.info? e = some i) (K : Option Addr) (ck : Nat) (hs : a.eval s = .slice none 0 0) (hx : a.eval x = .slice K 0 ck)
    (h : wpList P ops Q rest (a.put o.dst (.slice none 0 0)) w) : wpList P ops Q (o :: rest) a w := by
  refine wpList_plain hgd fun K' hK => ?_
  have hs0 : Src P i.size t (.slice K 0 ck) 0 [] w := by
    cases K with
    | none => exact Src.ofNil w ht ck
    | some ad => exact Src.ofSlice w ht ad 0 ck [] (by simp) (fun j u hu => by simp at hu) (fun u hu => by simp at hu)
  have hr := run_append_nothing (P := P) w t t o.type e i ht hi none 0 0 (Nat.le_refl _) _ hs0
  unfold Oper.wp execOp
  simp only [ho, resolve, invoke, builtin, Sem.run_bind, Sem.run_pure, Result.andThen_ok, List.map_toArray, List.map_cons, List.map_nil, hs, hx, hr]
  exact hK _ _ h
set_option maxRecDepth 100000 in
set_option maxHeartbeats 32000000 in
theorem dturned_yes (t : Tm) (A : Option Addr) (ca : Nat) (B : Option Addr) (cb : Nat) (K : Option Addr) (ck : Nat) (v : Int) (N : Nat) (ihT : TrN 82 N) (lo : Nat) (b : Bool) (w : World) (hN : cnt t ≤ N + 1) (hlo : lo ≤ w.heap.size) (hat : TmAt (mask w lo w.heap.size) t A B K) (hwf : WfT t) (hg : goodT b t = true) (hp : plainT t = true) (hn : t.n = v) :
    Calls Tryz.prog 124 #[tmVal t A ca B cb K ck, .int .i64 v] w (TrPost (trd (N + 1) v t) lo w) := by
  obtain ⟨W1, hW1⟩ : ∃ W1, W1 = (w.alloc (.cells (tmCells t A ca B cb K ck) TTm)).alloc (.cells tm0 TTm) := ⟨_, rfl⟩
  have hb1 : Below w.heap.size w W1 := by rw [hW1]; exact ((Below.refl _ _).alloc (Nat.le_refl _) _).alloc (by simp) _
  have hx1 : W1.heap[w.heap.size]? = some (.cells (tmCells t A ca B cb K ck) TTm (0, 0)) := by rw [hW1]; exact (Below.heap_alloc _ _ _ (by simp)).trans (heap_alloc_new w _)
  have hz1 : W1.heap[w.heap.size + 1]? = some (.cells #[.int .i64 0, .string ⟨#[]⟩, .int .i64 0, .slice none 0 0, .slice none 0 0, .slice none 0 0] TTm (0, 0)) := by rw [hW1]; exact heap_new2 _ _ _
  have CX : Hid (TrCx w W1 lo) := Lib.hid ⟨hlo, by rw [hW1]; simp, hz1⟩
  have HW1 := Lib.hid hW1
  have HB1 := Lib.hid hb1
  have HX1 : Hid (∀ W, Below (w.heap.size + 1) W1 W → W.heap[w.heap.size]? = some (.cells (tmCells t A ca B cb K ck) TTm (0, 0))) := Lib.hid fun W h => (h.block _ (by omega)).trans hx1
  have HAT := Lib.hid hat
  have HWF := Lib.hid hwf
  have HG := Lib.hid hg
  have k0 : W1.cell? ⟨w.heap.size, 0, none⟩ = some (.int .i64 t.kind) := cell_at hx1 rfl
  have k1 : W1.cell? ⟨w.heap.size, 1, none⟩ = some (.string t.text) := cell_at hx1 rfl
  have k2 : W1.cell? ⟨w.heap.size, 2, none⟩ = some (.int .i64 t.n) := cell_at hx1 rfl
  have k3 : W1.cell? ⟨w.heap.size, 3, none⟩ = some (.slice A t.sh.length ca) := cell_at hx1 rfl
  have k4 : W1.cell? ⟨w.heap.size, 4, none⟩ = some (.slice B t.at_.length cb) := cell_at hx1 rfl
  have k5 : W1.cell? ⟨w.heap.size, 5, none⟩ = some (.slice K t.kids.length ck) := cell_at hx1 rfl
  have kl := heap_lt hx1
  obtain ⟨hcl, ⟨bz, hgz⟩, hcz⟩ := noun_parts hg hp
  have hk23 : t.kind = 23 := by
    obtain ⟨_, _, _, _, _, _, _, h, _⟩ := plain_parts hg hp
    exact h
  have kk23 : (t.kind == 23) = true := by rw [hk23]; rfl
  have HR : Hid (trd (N + 1) v t = trn N (nounT t)) := Lib.hid (trd_yes hp hn)
  have hnv : (t.n == v) = true := by rw [hn]; simp
  have HZC : Hid (cnt (nounT t) ≤ N ∧ WfT (nounT t) ∧ goodT bz (nounT t) = true ∧ cls (nounT t).kind = 1) := Lib.hid ⟨by omega, by unfold nounT; exact nth_wf (nth_wf (nth_wf hwf 0) 0) 0, hgz, hcl⟩
  have IH := Lib.hid ihT
  have HLO := Lib.hid hlo
  have HP2 := Lib.hid hp
  have HPL := Lib.hid (dPlain_any t A ca B cb K ck b lo W1 (mask_grow hat hb1) hwf hg)
  have HNO := Lib.hid (fun W (h : Below W1.heap.size W1 W) => dnoun_any t A ca B cb K ck b lo W (mask_grow hat (hb1.then_ h)) hwf hg hp)
  clear hat hwf hb1 hx1 hz1 hW1 hg hN hlo ihT hp hn hcl hgz hcz hk23
  go_enter Tryz.func124, Tryz.ntmps124
  go_upto_region 1 with fail
  rw [← HW1.out]
  unfold tmVal at HPL
  go_wp2_with fail
  refine HPL.out.mono ?_
  rintro e w2 ⟨rfl, hb2⟩
  have HB3 := Lib.hid hb2
  rw [HP2.out]
  have HNL := Lib.hid (HNO.out w2 hb2)
  clear k0 k1 k2 k3 k4 k5 kl hb2
  have hx := HX1.out w2 (HB3.out.mono (by rw [CX.out.s1]; omega))
  have k0 : w2.cell? ⟨w.heap.size, 0, none⟩ = some (.int .i64 t.kind) := cell_at hx rfl
  have k1 : w2.cell? ⟨w.heap.size, 1, none⟩ = some (.string t.text) := cell_at hx rfl
  have k2 : w2.cell? ⟨w.heap.size, 2, none⟩ = some (.int .i64 t.n) := cell_at hx rfl
  have k3 : w2.cell? ⟨w.heap.size, 3, none⟩ = some (.slice A t.sh.length ca) := cell_at hx rfl
  have k4 : w2.cell? ⟨w.heap.size, 4, none⟩ = some (.slice B t.at_.length cb) := cell_at hx rfl
  have k5 : w2.cell? ⟨w.heap.size, 5, none⟩ = some (.slice K t.kids.length ck) := cell_at hx rfl
  have kl := heap_lt hx
  clear hx
  unfold tmVal at HNL
  go_wp2_with fail
  refine HNL.out.mono ?_
  rintro e w3 ⟨z, A', ca', B', cb', K', ck', hz, rfl, hatz, hb3⟩
  have HB4 := Lib.hid (HB3.out.then_ hb3)
  have HCL : Hid (Calls Tryz.prog 82 #[tmVal z A' ca' B' cb' K' ck'] w3 (TrPost (trn N (nounT t)) lo w3)) := Lib.hid (by
    have h := HZC.out
    rw [← hz] at h ⊢
    exact IH.out z A' ca' B' cb' K' ck' lo bz w3 h.1 (Nat.le_trans HLO.out (HB1.out.then_ (HB3.out.then_ hb3)).size) (mask_grow hatz hb3) h.2.1 h.2.2.1 h.2.2.2)
  clear k0 k1 k2 k3 k4 k5 kl hb3 hatz hz
  unfold tmVal at HCL
  go_wp2_with fail
  refine HCL.out.mono ?_
  rintro e w4 ⟨Au, cau, Bu, cbu, Ku, cku, rfl, hu, hb4⟩
  have HU : Hid (TmAt (mask w4 lo W1.heap.size) (trn N (nounT t)) Au Bu Ku) := Lib.hid (mask_less hu HB4.out.size)
  have HB2 := Lib.hid (HB4.out.then_ hb4)
  clear hu hb4
  have hz := (HB2.out.block (w.heap.size + 1) (heap_lt CX.out.hz)).trans CX.out.hz
  have z0 := cell_at hz (j := 0) rfl
  have z1 := cell_at hz (j := 1) rfl
  have z2 := cell_at hz (j := 2) rfl
  have z3 := cell_at hz (j := 3) rfl
  have z4 := cell_at hz (j := 4) rfl
  have z5 := cell_at hz (j := 5) rfl
  have fz := unfrozen hz
  have lz := heap_lt hz
  clear hz
  go_wp2_with fail
  obtain ⟨e1, e2, e3⟩ := tr_done (u := trn N (nounT t)) (A := Au) (ca := cau) (B := Bu) (cb := cbu) (K := Ku) (ck := cku) CX.out HB1.out HB2.out HU.out rfl
  exact bodyPost_ret (results_tm1 (p := 4) rfl rfl e1) rfl (TrPost.mk HR.out e2 e3)
set_option maxRecDepth 100000 in
set_option maxHeartbeats 32000000 in
theorem dturned_other (t : Tm) (A : Option Addr) (ca : Nat) (B : Option Addr) (cb : Nat) (K : Option Addr) (ck : Nat) (v : Int) (N : Nat) (lo : Nat) (b : Bool) (w : World) (hlo : lo ≤ w.heap.size) (hat : TmAt (mask w lo w.heap.size) t A B K) (hwf : WfT t) (hg : goodT b t = true) (hk : t.kind = 23) (hn : ¬ t.n = v) :
    Calls Tryz.prog 124 #[tmVal t A ca B cb K ck, .int .i64 v] w (TrPost (trd (N + 1) v t) lo w) := by
  obtain ⟨W1, hW1⟩ : ∃ W1, W1 = (w.alloc (.cells (tmCells t A ca B cb K ck) TTm)).alloc (.cells tm0 TTm) := ⟨_, rfl⟩
  have hb1 : Below w.heap.size w W1 := by rw [hW1]; exact ((Below.refl _ _).alloc (Nat.le_refl _) _).alloc (by simp) _
  have hx1 : W1.heap[w.heap.size]? = some (.cells (tmCells t A ca B cb K ck) TTm (0, 0)) := by rw [hW1]; exact (Below.heap_alloc _ _ _ (by simp)).trans (heap_alloc_new w _)
  have hz1 : W1.heap[w.heap.size + 1]? = some (.cells #[.int .i64 0, .string ⟨#[]⟩, .int .i64 0, .slice none 0 0, .slice none 0 0, .slice none 0 0] TTm (0, 0)) := by rw [hW1]; exact heap_new2 _ _ _
  have CX : Hid (TrCx w W1 lo) := Lib.hid ⟨hlo, by rw [hW1]; simp, hz1⟩
  have HW1 := Lib.hid hW1
  have HB1 := Lib.hid hb1
  have HX1 : Hid (∀ W, Below (w.heap.size + 1) W1 W → W.heap[w.heap.size]? = some (.cells (tmCells t A ca B cb K ck) TTm (0, 0))) := Lib.hid fun W h => (h.block _ (by omega)).trans hx1
  have HAT := Lib.hid hat
  have HWF := Lib.hid hwf
  have HG := Lib.hid hg
  have k0 : W1.cell? ⟨w.heap.size, 0, none⟩ = some (.int .i64 t.kind) := cell_at hx1 rfl
  have k1 : W1.cell? ⟨w.heap.size, 1, none⟩ = some (.string t.text) := cell_at hx1 rfl
  have k2 : W1.cell? ⟨w.heap.size, 2, none⟩ = some (.int .i64 t.n) := cell_at hx1 rfl
  have k3 : W1.cell? ⟨w.heap.size, 3, none⟩ = some (.slice A t.sh.length ca) := cell_at hx1 rfl
  have k4 : W1.cell? ⟨w.heap.size, 4, none⟩ = some (.slice B t.at_.length cb) := cell_at hx1 rfl
  have k5 : W1.cell? ⟨w.heap.size, 5, none⟩ = some (.slice K t.kids.length ck) := cell_at hx1 rfl
  have kl := heap_lt hx1
  have kk23 : (t.kind == 23) = true := by rw [hk]; rfl
  have hnv : (t.n == v) = false := beq_no hn
  have HR : Hid (trd (N + 1) v t = t) := Lib.hid (by
    cases hp : plainT t with
    | true => exact trd_no hp hn
    | false => exact trd_none hp (by unfold valT; rw [if_neg (by omega), if_neg (by omega), if_neg (by omega), if_neg (by omega), if_neg (by omega), if_neg (by omega), if_neg (by omega), if_neg (by omega), if_neg (by omega), if_neg (by omega), if_neg (by omega), if_neg (by omega), if_neg (by omega), if_neg (by omega), if_neg (by omega), if_neg (by omega)]))
  have HB2 : Hid (Below W1.heap.size W1 W1) := Lib.hid (Below.refl _ _)
  have HU : Hid (TmAt (mask W1 lo W1.heap.size) t A B K) := Lib.hid (mask_grow hat hb1)
  clear hat hwf hb1 hx1 hz1 hW1 hg hlo hk hn
  go_enter Tryz.func124, Tryz.ntmps124
  go_upto_region 1 with fail
  rw [← HW1.out]
  have hz := (HB2.out.block (w.heap.size + 1) (heap_lt CX.out.hz)).trans CX.out.hz
  have z0 := cell_at hz (j := 0) rfl
  have z1 := cell_at hz (j := 1) rfl
  have z2 := cell_at hz (j := 2) rfl
  have z3 := cell_at hz (j := 3) rfl
  have z4 := cell_at hz (j := 4) rfl
  have z5 := cell_at hz (j := 5) rfl
  have fz := unfrozen hz
  have lz := heap_lt hz
  clear hz
  go_wp2_with fail
  obtain ⟨e1, e2, e3⟩ := tr_done (u := t) (A := A) (ca := ca) (B := B) (cb := cb) (K := K) (ck := ck) CX.out HB1.out HB2.out HU.out rfl
  exact bodyPost_ret (results_tm1 (p := 4) rfl rfl e1) rfl (TrPost.mk HR.out e2 e3)
set_option maxRecDepth 100000 in
set_option maxHeartbeats 32000000 in
theorem dturned_not (t : Tm) (A : Option Addr) (ca : Nat) (B : Option Addr) (cb : Nat) (K : Option Addr) (ck : Nat) (v : Int) (N : Nat) (lo : Nat) (b : Bool) (w : World) (hlo : lo ≤ w.heap.size) (hat : TmAt (mask w lo w.heap.size) t A B K) (hwf : WfT t) (hg : goodT b t = true) (hk : t.kind = 23) (hn : t.n = v) (hp : plainT t = false) :
    Calls Tryz.prog 124 #[tmVal t A ca B cb K ck, .int .i64 v] w (TrPost (trd (N + 1) v t) lo w) := by
  obtain ⟨W1, hW1⟩ : ∃ W1, W1 = (w.alloc (.cells (tmCells t A ca B cb K ck) TTm)).alloc (.cells tm0 TTm) := ⟨_, rfl⟩
  have hb1 : Below w.heap.size w W1 := by rw [hW1]; exact ((Below.refl _ _).alloc (Nat.le_refl _) _).alloc (by simp) _
  have hx1 : W1.heap[w.heap.size]? = some (.cells (tmCells t A ca B cb K ck) TTm (0, 0)) := by rw [hW1]; exact (Below.heap_alloc _ _ _ (by simp)).trans (heap_alloc_new w _)
  have hz1 : W1.heap[w.heap.size + 1]? = some (.cells #[.int .i64 0, .string ⟨#[]⟩, .int .i64 0, .slice none 0 0, .slice none 0 0, .slice none 0 0] TTm (0, 0)) := by rw [hW1]; exact heap_new2 _ _ _
  have CX : Hid (TrCx w W1 lo) := Lib.hid ⟨hlo, by rw [hW1]; simp, hz1⟩
  have HW1 := Lib.hid hW1
  have HB1 := Lib.hid hb1
  have HX1 : Hid (∀ W, Below (w.heap.size + 1) W1 W → W.heap[w.heap.size]? = some (.cells (tmCells t A ca B cb K ck) TTm (0, 0))) := Lib.hid fun W h => (h.block _ (by omega)).trans hx1
  have HAT := Lib.hid hat
  have HWF := Lib.hid hwf
  have HG := Lib.hid hg
  have k0 : W1.cell? ⟨w.heap.size, 0, none⟩ = some (.int .i64 t.kind) := cell_at hx1 rfl
  have k1 : W1.cell? ⟨w.heap.size, 1, none⟩ = some (.string t.text) := cell_at hx1 rfl
  have k2 : W1.cell? ⟨w.heap.size, 2, none⟩ = some (.int .i64 t.n) := cell_at hx1 rfl
  have k3 : W1.cell? ⟨w.heap.size, 3, none⟩ = some (.slice A t.sh.length ca) := cell_at hx1 rfl
  have k4 : W1.cell? ⟨w.heap.size, 4, none⟩ = some (.slice B t.at_.length cb) := cell_at hx1 rfl
  have k5 : W1.cell? ⟨w.heap.size, 5, none⟩ = some (.slice K t.kids.length ck) := cell_at hx1 rfl
  have kl := heap_lt hx1
  have kk23 : (t.kind == 23) = true := by rw [hk]; rfl
  have hnv : (t.n == v) = true := by rw [hn]; simp
  have HR : Hid (trd (N + 1) v t = t) := Lib.hid (trd_none hp (by unfold valT; rw [if_neg (by omega), if_neg (by omega), if_neg (by omega), if_neg (by omega), if_neg (by omega), if_neg (by omega), if_neg (by omega), if_neg (by omega), if_neg (by omega), if_neg (by omega), if_neg (by omega), if_neg (by omega), if_neg (by omega), if_neg (by omega), if_neg (by omega), if_neg (by omega)]))
  have HP2 := Lib.hid hp
  have HPL := Lib.hid (dPlain_any t A ca B cb K ck b lo W1 (mask_grow hat hb1) hwf hg)
  clear hat hwf hb1 hx1 hz1 hW1 hg hlo hk hn hp
  go_enter Tryz.func124, Tryz.ntmps124
  go_upto_region 1 with fail
  rw [← HW1.out]
  unfold tmVal at HPL
  go_wp2_with fail
  refine HPL.out.mono ?_
  rintro e w2 ⟨rfl, hb2⟩
  have HB2 := Lib.hid hb2
  rw [HP2.out]
  have HU : Hid (TmAt (mask w2 lo W1.heap.size) t A B K) := Lib.hid (mask_grow HAT.out (HB1.out.then_ hb2))
  clear k0 k1 k2 k3 k4 k5 kl hb2
  have hx := HX1.out w2 (HB2.out.mono (by rw [CX.out.s1]; omega))
  have k0 : w2.cell? ⟨w.heap.size, 0, none⟩ = some (.int .i64 t.kind) := cell_at hx rfl
  have k1 : w2.cell? ⟨w.heap.size, 1, none⟩ = some (.string t.text) := cell_at hx rfl
  have k2 : w2.cell? ⟨w.heap.size, 2, none⟩ = some (.int .i64 t.n) := cell_at hx rfl
  have k3 : w2.cell? ⟨w.heap.size, 3, none⟩ = some (.slice A t.sh.length ca) := cell_at hx rfl
  have k4 : w2.cell? ⟨w.heap.size, 4, none⟩ = some (.slice B t.at_.length cb) := cell_at hx rfl
  have k5 : w2.cell? ⟨w.heap.size, 5, none⟩ = some (.slice K t.kids.length ck) := cell_at hx rfl
  have kl := heap_lt hx
  clear hx
  have hz := (HB2.out.block (w.heap.size + 1) (heap_lt CX.out.hz)).trans CX.out.hz
  have z0 := cell_at hz (j := 0) rfl
  have z1 := cell_at hz (j := 1) rfl
  have z2 := cell_at hz (j := 2) rfl
  have z3 := cell_at hz (j := 3) rfl
  have z4 := cell_at hz (j := 4) rfl
  have z5 := cell_at hz (j := 5) rfl
  have fz := unfrozen hz
  have lz := heap_lt hz
  clear hz
  go_wp2_with fail
  obtain ⟨e1, e2, e3⟩ := tr_done (u := t) (A := A) (ca := ca) (B := B) (cb := cb) (K := K) (ck := ck) CX.out HB1.out HB2.out HU.out rfl
  exact bodyPost_ret (results_tm1 (p := 4) rfl rfl e1) rfl (TrPost.mk HR.out e2 e3)
set_option maxRecDepth 100000 in
set_option maxHeartbeats 32000000 in
theorem dturned_leaf (t : Tm) (A : Option Addr) (ca : Nat) (B : Option Addr) (cb : Nat) (K : Option Addr) (ck : Nat) (v : Int) (N : Nat) (lo : Nat) (b : Bool) (w : World) (hlo : lo ≤ w.heap.size) (hat : TmAt (mask w lo w.heap.size) t A B K) (hwf : WfT t) (hg : goodT b t = true) (hv : v = 1 ∨ v = 2) (hk : ¬ t.kind = 23) (h0 : t.kids.length = 0) :
    Calls Tryz.prog 124 #[tmVal t A ca B cb K ck, .int .i64 v] w (TrPost (trd (N + 1) v t) lo w) := by
  obtain ⟨W1, hW1⟩ : ∃ W1, W1 = (w.alloc (.cells (tmCells t A ca B cb K ck) TTm)).alloc (.cells tm0 TTm) := ⟨_, rfl⟩
  have hb1 : Below w.heap.size w W1 := by rw [hW1]; exact ((Below.refl _ _).alloc (Nat.le_refl _) _).alloc (by simp) _
  have hx1 : W1.heap[w.heap.size]? = some (.cells (tmCells t A ca B cb K ck) TTm (0, 0)) := by rw [hW1]; exact (Below.heap_alloc _ _ _ (by simp)).trans (heap_alloc_new w _)
  have hz1 : W1.heap[w.heap.size + 1]? = some (.cells #[.int .i64 0, .string ⟨#[]⟩, .int .i64 0, .slice none 0 0, .slice none 0 0, .slice none 0 0] TTm (0, 0)) := by rw [hW1]; exact heap_new2 _ _ _
  have CX : Hid (TrCx w W1 lo) := Lib.hid ⟨hlo, by rw [hW1]; simp, hz1⟩
  have HW1 := Lib.hid hW1
  have HB1 := Lib.hid hb1
  have HX1 : Hid (∀ W, Below (w.heap.size + 1) W1 W → W.heap[w.heap.size]? = some (.cells (tmCells t A ca B cb K ck) TTm (0, 0))) := Lib.hid fun W h => (h.block _ (by omega)).trans hx1
  have HAT := Lib.hid hat
  have HWF := Lib.hid hwf
  have HG := Lib.hid hg
  have k0 : W1.cell? ⟨w.heap.size, 0, none⟩ = some (.int .i64 t.kind) := cell_at hx1 rfl
  have k1 : W1.cell? ⟨w.heap.size, 1, none⟩ = some (.string t.text) := cell_at hx1 rfl
  have k2 : W1.cell? ⟨w.heap.size, 2, none⟩ = some (.int .i64 t.n) := cell_at hx1 rfl
  have k3 : W1.cell? ⟨w.heap.size, 3, none⟩ = some (.slice A t.sh.length ca) := cell_at hx1 rfl
  have k4 : W1.cell? ⟨w.heap.size, 4, none⟩ = some (.slice B t.at_.length cb) := cell_at hx1 rfl
  have k5 : W1.cell? ⟨w.heap.size, 5, none⟩ = some (.slice K t.kids.length ck) := cell_at hx1 rfl
  have kl := heap_lt hx1
  have kk23 : (t.kind == 23) = false := beq_no hk
  have hp : plainT t = false := not_plain1 hk
  obtain ⟨n, hn⟩ : ∃ n, n = t.kids.length := ⟨_, rfl⟩
  have HR : Hid (trd (N + 1) v t = withK t (mixT N v t n)) := Lib.hid (trd_mix hp (.inr (by omega)))
  have HN := Lib.hid hn
  have HVA := Lib.hid (dkv_any t A ca B cb K ck v b W1 (mask_out (hi := W1.heap.size) (mask_grow hat hb1)) hwf hg hv)
  have HLO := Lib.hid hlo
  have hn0 : n = 0 := by omega
  clear hat hwf hb1 hx1 hz1 hW1 hg hlo hv hk h0 hp hn
  go_enter Tryz.func124, Tryz.ntmps124
  go_upto_region 1 with fail
  rw [← HW1.out]
  unfold tmVal at HVA
  go_wp2_with fail
  refine HVA.out.mono ?_
  rintro e w2 ⟨⟨P, c, l, rfl, hi, hl1, hl2⟩, hb2⟩
  have HB3 := Lib.hid hb2
  obtain ⟨m, hm⟩ : ∃ m, m = l.length := ⟨_, rfl⟩
  rw [← hm]
  clear k0 k1 k2 k3 k4 k5 kl hb2 hi hl1 hl2
  have hx := HX1.out w2 (HB3.out.mono (by rw [CX.out.s1]; omega))
  have k0 : w2.cell? ⟨w.heap.size, 0, none⟩ = some (.int .i64 t.kind) := cell_at hx rfl
  have k1 : w2.cell? ⟨w.heap.size, 1, none⟩ = some (.string t.text) := cell_at hx rfl
  have k2 : w2.cell? ⟨w.heap.size, 2, none⟩ = some (.int .i64 t.n) := cell_at hx rfl
  have k3 : w2.cell? ⟨w.heap.size, 3, none⟩ = some (.slice A t.sh.length ca) := cell_at hx rfl
  have k4 : w2.cell? ⟨w.heap.size, 4, none⟩ = some (.slice B t.at_.length cb) := cell_at hx rfl
  have k5 : w2.cell? ⟨w.heap.size, 5, none⟩ = some (.slice K t.kids.length ck) := cell_at hx rfl
  have kl := heap_lt hx
  clear hx
  have HX2 := Lib.hid (HX1.out w2 (HB3.out.mono (by rw [CX.out.s1]; omega)))
  rw [← HN.out, hn0] at k5
  obtain ⟨j0, hj, y0, y1, y2⟩ := info_parts info_tm
  go_wp2_with (at_builtin; refine wpList_append_none_tm rfl (.const (.slice none 0 0)) (.tmp 28) 22 rfl Tryz.underlying22 hj K ck rfl rfl ?_)
  go_wp2_with fail
  go_loopw [7] (fun v7 W => v7 = .int .i64 0 ∧ Hid (W = w2)) (fun _ _ => 0)
  case atStart => exact ⟨rfl, Lib.hid rfl⟩
  case round =>
    obtain ⟨rfl, HW⟩ := hrel
    have hW := HW.out
    subst hW
    have hx := HX2.out
    have hz := (HB3.out.block (w.heap.size + 1) (heap_lt CX.out.hz)).trans CX.out.hz
    have HE : Hid (mixT N v t n = []) := Lib.hid (List.eq_nil_of_length_eq_zero (by rw [mix_len, ← HN.out, hn0]))
    have fk := unfrozen hx 5
    have k5' := cell_at hx (j := 5) rfl
    have kl' := heap_lt hx
    have HXE := Lib.hid hx
    have HZE := Lib.hid hz
    clear hx hz
    go_upto_region 14 with fail
    obtain ⟨W9, hW9⟩ : ∃ W, W = wr.setCell ⟨w.heap.size, 5, none⟩ (.slice none 0 0) := ⟨_, rfl⟩
    have hx9 : W9.heap[w.heap.size]? = some (.cells #[.int .i64 t.kind, .string t.text, .int .i64 t.n, .slice A t.sh.length ca, .slice B t.at_.length cb, .slice none 0 0] TTm (0, 0)) := by rw [hW9]; exact Go.heap_setCell_same _ _ 5 _ TTm _ HXE.out
    have hz9 : W9.heap[w.heap.size + 1]? = some (.cells #[.int .i64 0, .string ⟨#[]⟩, .int .i64 0, .slice none 0 0, .slice none 0 0, .slice none 0 0] TTm (0, 0)) := by
      rw [hW9, Below.heap_setCell _ _ _ _ (by show w.heap.size + 1 ≠ w.heap.size; omega)]
      exact HZE.out
    have HBE : Hid (Below w.heap.size w W9) := Lib.hid (by rw [hW9]; exact (HB1.out.then_ HB3.out).setCell (Nat.le_refl _) _)
    have HU : Hid (TmAt (mask W9 lo (W1.heap.size)) (withK t (mixT N v t n)) A B (none)) := Lib.hid (by
      have h : TmAt (mask W9 lo (W1.heap.size)) (withK t (mixT N v t n)) A B (none) := by
        refine ⟨(mask_grow HAT.out HBE.out).sh, (mask_grow HAT.out HBE.out).at_, ?_⟩
        have h2 := HE.out
        show KidsAt _ none (mixT N v t n) 0; rw [h2]; exact KidsAt.nil _ _
      exact h)
    have HML : Hid ((mixT N v t n).length = 0) := Lib.hid (by rw [HE.out]; rfl)
    have HZ9 := Lib.hid hz9
    rw [← hW9]
    have k0 := cell_at hx9 (j := 0) rfl
    have k1 := cell_at hx9 (j := 1) rfl
    have k2 := cell_at hx9 (j := 2) rfl
    have k3 := cell_at hx9 (j := 3) rfl
    have k4 := cell_at hx9 (j := 4) rfl
    have k5 := cell_at hx9 (j := 5) rfl
    have kl := heap_lt hx9
    have z0 := cell_at hz9 (j := 0) rfl
    have z1 := cell_at hz9 (j := 1) rfl
    have z2 := cell_at hz9 (j := 2) rfl
    have z3 := cell_at hz9 (j := 3) rfl
    have z4 := cell_at hz9 (j := 4) rfl
    have z5 := cell_at hz9 (j := 5) rfl
    have fz := unfrozen hz9
    have lz := heap_lt hz9
    clear hx9 hz9 hW9 fk k5' kl'
    go_wp2_with fail
    have hW : sixPutQ W9 (w.heap.size + 1) (.int .i64 t.kind) (.string t.text) (.int .i64 t.n) (.slice A t.sh.length ca) (.slice B t.at_.length cb) (.slice none 0 0) = sixPutQ W9 (w.heap.size + 1) (.int .i64 (withK t (mixT N v t n)).kind) (.string (withK t (mixT N v t n)).text) (.int .i64 (withK t (mixT N v t n)).n) (.slice A (withK t (mixT N v t n)).sh.length ca) (.slice B (withK t (mixT N v t n)).at_.length cb) (.slice (none) (withK t (mixT N v t n)).kids.length 0) := by
      rw [show (withK t (mixT N v t n)).kids.length = 0 from HML.out]
      rfl
    obtain ⟨e1, e2, e3⟩ := tr_done2 (u := withK t (mixT N v t n)) (A := A) (ca := ca) (B := B) (cb := cb) (K := none) (ck := 0) HLO.out (by rw [CX.out.s1]; omega) HZ9.out HBE.out HU.out hW
    exact bodyPost_ret (results_tm1 (p := 4) rfl rfl e1) rfl (TrPost.mk HR.out e2 e3)
set_option maxRecDepth 100000 in
set_option maxHeartbeats 32000000 in
theorem dturned_some (t : Tm) (A : Option Addr) (ca : Nat) (B : Option Addr) (cb : Nat) (K : Option Addr) (ck : Nat) (v : Int) (N : Nat) (ihD : TdN 124 N) (lo : Nat) (b : Bool) (w : World) (hN : cnt t ≤ N + 1) (hlo : lo ≤ w.heap.size) (hat : TmAt (mask w lo w.heap.size) t A B K) (hwf : WfT t) (hg : goodT b t = true) (hv : v = 1 ∨ v = 2) (hk : ¬ t.kind = 23) (h0 : ¬ t.kids.length = 0) :
    Calls Tryz.prog 124 #[tmVal t A ca B cb K ck, .int .i64 v] w (TrPost (trd (N + 1) v t) lo w) := by
  obtain ⟨W1, hW1⟩ : ∃ W1, W1 = (w.alloc (.cells (tmCells t A ca B cb K ck) TTm)).alloc (.cells tm0 TTm) := ⟨_, rfl⟩
  have hb1 : Below w.heap.size w W1 := by rw [hW1]; exact ((Below.refl _ _).alloc (Nat.le_refl _) _).alloc (by simp) _
  have hx1 : W1.heap[w.heap.size]? = some (.cells (tmCells t A ca B cb K ck) TTm (0, 0)) := by rw [hW1]; exact (Below.heap_alloc _ _ _ (by simp)).trans (heap_alloc_new w _)
  have hz1 : W1.heap[w.heap.size + 1]? = some (.cells #[.int .i64 0, .string ⟨#[]⟩, .int .i64 0, .slice none 0 0, .slice none 0 0, .slice none 0 0] TTm (0, 0)) := by rw [hW1]; exact heap_new2 _ _ _
  have CX : Hid (TrCx w W1 lo) := Lib.hid ⟨hlo, by rw [hW1]; simp, hz1⟩
  have HW1 := Lib.hid hW1
  have HB1 := Lib.hid hb1
  have HX1 : Hid (∀ W, Below (w.heap.size + 1) W1 W → W.heap[w.heap.size]? = some (.cells (tmCells t A ca B cb K ck) TTm (0, 0))) := Lib.hid fun W h => (h.block _ (by omega)).trans hx1
  have HAT := Lib.hid hat
  have HWF := Lib.hid hwf
  have HG := Lib.hid hg
  have k0 : W1.cell? ⟨w.heap.size, 0, none⟩ = some (.int .i64 t.kind) := cell_at hx1 rfl
  have k1 : W1.cell? ⟨w.heap.size, 1, none⟩ = some (.string t.text) := cell_at hx1 rfl
  have k2 : W1.cell? ⟨w.heap.size, 2, none⟩ = some (.int .i64 t.n) := cell_at hx1 rfl
  have k3 : W1.cell? ⟨w.heap.size, 3, none⟩ = some (.slice A t.sh.length ca) := cell_at hx1 rfl
  have k4 : W1.cell? ⟨w.heap.size, 4, none⟩ = some (.slice B t.at_.length cb) := cell_at hx1 rfl
  have k5 : W1.cell? ⟨w.heap.size, 5, none⟩ = some (.slice K t.kids.length ck) := cell_at hx1 rfl
  have kl := heap_lt hx1
  have kk23 : (t.kind == 23) = false := beq_no hk
  have hp : plainT t = false := not_plain1 hk
  obtain ⟨n, hn⟩ : ∃ n, n = t.kids.length := ⟨_, rfl⟩
  have HR : Hid (trd (N + 1) v t = withK t (mixT N v t n)) := Lib.hid (trd_mix hp (.inr (by omega)))
  have HN := Lib.hid hn
  have HVA := Lib.hid (dkv_any t A ca B cb K ck v b W1 (mask_out (hi := W1.heap.size) (mask_grow hat hb1)) hwf hg hv)
  have HLO := Lib.hid hlo
  have hn0 : 0 < n := by omega
  obtain ⟨k0', hk0'⟩ : ∃ k, t.kids[0]? = some k := ⟨_, List.getElem?_eq_getElem (by omega)⟩
  obtain ⟨gk, ok, hK, _⟩ := hat.kids.get hk0'
  have HG2 : Hid (∀ i, 0 < (valT t v).getD i 0 → (valT t v).getD i 0 = 1 ∨ (valT t v).getD i 0 = 2) := Lib.hid fun i h => by have := valT_get (t := t) hv i; omega
  have HKD : Hid (∀ i k, t.kids[i]? = some k → cnt k ≤ N ∧ WfT k ∧ ∃ c, goodT c k = true) := Lib.hid fun i k h => ⟨by have := cnt_kid h; omega, hwf.node.each k (List.mem_of_getElem? h), ⟨_, good_kid hg h⟩⟩
  have hn104 : n * 104 ≤ 140737488351232 := by rw [hn]; exact hwf.node.kids104
  have IH := Lib.hid ihD
  have HKK := Lib.hid hK
  obtain ⟨j0, hj, y0, y1, y2⟩ := info_parts info_tm
  clear hat hwf hb1 hx1 hz1 hW1 hg hN hlo ihD hv hk h0 hp hk0' hn hK
  go_enter Tryz.func124, Tryz.ntmps124
  go_upto_region 1 with fail
  rw [← HW1.out]
  unfold tmVal at HVA
  go_wp2_with fail
  refine HVA.out.mono ?_
  rintro e w2 ⟨⟨P, c, l, rfl, hi, hl1, hl2⟩, hb2⟩
  have HB3 := Lib.hid hb2
  obtain ⟨m, hm⟩ : ∃ m, m = l.length := ⟨_, rfl⟩
  have hnm : n ≤ m := by rw [HN.out, hm]; exact hl1
  have HI2 := Lib.hid hi
  have HL := Lib.hid hl2
  have HM := Lib.hid hm
  rw [← hm]
  clear k0 k1 k2 k3 k4 k5 kl hb2 hi hl1 hl2 hm
  have hx := HX1.out w2 (HB3.out.mono (by rw [CX.out.s1]; omega))
  have k0 : w2.cell? ⟨w.heap.size, 0, none⟩ = some (.int .i64 t.kind) := cell_at hx rfl
  have k1 : w2.cell? ⟨w.heap.size, 1, none⟩ = some (.string t.text) := cell_at hx rfl
  have k2 : w2.cell? ⟨w.heap.size, 2, none⟩ = some (.int .i64 t.n) := cell_at hx rfl
  have k3 : w2.cell? ⟨w.heap.size, 3, none⟩ = some (.slice A t.sh.length ca) := cell_at hx rfl
  have k4 : w2.cell? ⟨w.heap.size, 4, none⟩ = some (.slice B t.at_.length cb) := cell_at hx rfl
  have k5 : w2.cell? ⟨w.heap.size, 5, none⟩ = some (.slice K t.kids.length ck) := cell_at hx rfl
  have kl := heap_lt hx
  clear hx
  have HX2 := Lib.hid (HX1.out w2 (HB3.out.mono (by rw [CX.out.s1]; omega)))
  rw [← HN.out, HKK.out] at k5
  obtain ⟨rs0, r1, r2, r3⟩ := kids_rows (w := mask w2 lo w2.heap.size) (b := gk) (off := ok) t.kids 0 (by rw [← HKK.out]; exact (mask_grow HAT.out (HB1.out.then_ HB3.out)).kids)
  obtain ⟨vs, hvs⟩ : ∃ vs, vs = rtCellsL t.kids rs0 := ⟨_, rfl⟩
  have HVL : Hid (vs.length = n * 6) := Lib.hid (by rw [hvs, rtCellsL_len r1, HN.out])
  have HNEW : Hid (∀ j u, vs[j]? = some u → w2.cell? ((⟨gk, ok, none⟩ : Addr).add j) = some u) := Lib.hid fun j u hu => by
    have e2 : (⟨gk, ok, none⟩ : Addr).add j = ⟨gk, ok + j, none⟩ := by unfold Addr.add; split <;> simp_all
    rw [hvs] at hu
    have h1 := r3 j u hu
    rw [Nat.zero_mul, Nat.add_zero] at h1
    rw [e2]
    exact (mask_cell h1).2
  have HONE : Hid (∀ u ∈ vs, u.oneCell' = true) := Lib.hid (by rw [hvs]; exact rt_one t.kids rs0)
  have HS0 := Lib.hid r2
  have HRL := Lib.hid r1
  have HVS := Lib.hid hvs
  clear r1 r2 r3 hvs
  go_wp2_with (at_builtin; refine wpList_append_lies _ rfl (.const (.slice none 0 0)) (.tmp 28) 22 rfl w2.heap.size TTm j0 (.agg tm0) 6 104 Tryz.underlying22 hj y0 y1 y2 rfl (by decide) (.slice none 0 0) 0 [] rfl (World.ownsRow_nil _ _ _ _) ⟨gk, ok, none⟩ n ck vs rfl HVL.out HNEW.out HONE.out hn0 (by unfold maxLen; omega) (by omega) (Nat.le_refl _) _ rfl ?_)
  intro g cap w5 hown hgr hor hlt
  have hb5 : Below w2.heap.size w2 w5 := (Below.refl _ _).grown hgr (Nat.le_refl _) (fun k hk => by cases hk)
  have hg5 : w2.heap.size ≤ g := by rcases hor with h | h; cases h; omega
  have HB5 := Lib.hid hb5
  have HG5 := Lib.hid hg5
  have HP5 : Hid (TdW w5 w5 w2.heap.size lo N v t 0 rs0 rs0 g n cap) := Lib.hid ⟨Below.refl _ _, by
    rw [mix_zero]
    exact ⟨by rw [← HN.out, ← HVS.out]; exact hown, HRL.out, fun i u r hu hr => (HS0.out i u r hu hr).sub (fun a x hx => by
      obtain ⟨e1, e2⟩ := mask_cell hx
      have hl := cell_lt' e2
      exact holed_cell' (fun g' hg' => by injection hg' with hg'; have : g = g' := hg'; omega) (mask_cell' e1 ((hb5.cell hl).trans e2))) (by rw [holed_size, mask_size, mask_size]; exact hb5.size)⟩, fun _ _ => rfl⟩
  have hsz2 : w.heap.size + 2 ≤ w2.heap.size := by have h1 := HB3.out.size; have h2 := CX.out.s1; omega
  clear hown hgr hor hlt hb5 hg5 k0 k1 k2 k3 k4 k5 kl hj y0 y1 y2
  go_wp2_with fail
  go_loopw [7] (fun v7 W => ∃ (i : Nat) (rs : List Rt), i ≤ n ∧ v7 = .int .i64 i ∧ Hid (TdW w5 W w2.heap.size lo N v t i rs rs0 g n cap)) (fun v7 _ => n - (intOf v7).toNat)
  case atStart => exact ⟨0, rs0, Nat.zero_le _, rfl, HP5⟩
  case round =>
    obtain ⟨i, rs, hi, rfl, HI⟩ := hrel
    by_cases hlt : i < n
    · obtain ⟨z, hz⟩ : ∃ z, l[i]? = some z := ⟨_, List.getElem?_eq_getElem (by rw [← HM.out]; omega)⟩
      have HZD : Hid ((valT t v).getD i 0 = z) := Lib.hid (by rw [← HL.out i, List.getD_eq_getElem?_getD, hz]; rfl)
      obtain ⟨pb, po, hP, hpb, hc2⟩ := HI2.out i z hz
      subst hP
      have HCR : Hid (wr.cell? ⟨pb, po + i, none⟩ = some (.int .i64 z) ∧ pb < wr.heap.size) := Lib.hid ⟨(HI.out.be.cell (p := ⟨pb, po + i, none⟩) hpb).trans ((HB5.out.cell (p := ⟨pb, po + i, none⟩) hpb).trans hc2), Nat.lt_of_lt_of_le hpb (Nat.le_trans HB5.out.size HI.out.be.size)⟩
      obtain ⟨hcr, hpl⟩ := HCR.out
      have q1 : (0 : Int) ≤ (i : Int) := by omega
      have q2 : (i : Int) < (n : Int) := by omega
      have q3 : (i : Int) < (m : Int) := by omega
      clear hz hc2 hpb
      by_cases hz0 : 0 < z
      · obtain ⟨k, hk⟩ : ∃ k, t.kids[i]? = some k := ⟨_, List.getElem?_eq_getElem (by rw [← HN.out]; exact hlt)⟩
        obtain ⟨r, hr⟩ : ∃ r, rs0[i]? = some r := ⟨_, List.getElem?_eq_getElem (by rw [← HRL.out, ← HN.out]; exact hlt)⟩
        have hst := HS0.out i k r hk hr
        obtain ⟨⟨Ax, n1, cax⟩, ⟨Bx, n2, cbx⟩, ⟨Kx, n3, ckx⟩, q⟩ := r
        obtain ⟨hst1, rfl, rfl, rfl⟩ := hst
        have FC := Lib.hid (HI.out.cells HN.out hk hr)
        have FX : Hid (∀ W, Below wr.heap.size wr W → W.cell? ⟨g, i * 6, none⟩ = some (.int .i64 k.kind) ∧ W.cell? ⟨g, i * 6 + 1, none⟩ = some (.string k.text) ∧ W.cell? ⟨g, i * 6 + 2, none⟩ = some (.int .i64 k.n) ∧ W.cell? ⟨g, i * 6 + 3, none⟩ = some (.slice Ax k.sh.length cax) ∧ W.cell? ⟨g, i * 6 + 4, none⟩ = some (.slice Bx k.at_.length cbx) ∧ W.cell? ⟨g, i * 6 + 5, none⟩ = some (.slice Kx k.kids.length ckx) ∧ g < W.heap.size ∧ W.cell? ⟨pb, po + i, none⟩ = some (.int .i64 z) ∧ pb < W.heap.size) := Lib.hid fun W h => by
          obtain ⟨⟨a0, a1, a2, a3, a4, a5, al⟩, _⟩ := FC.out W h
          exact ⟨a0, a1, a2, a3, a4, a5, al, (h.cell (p := ⟨pb, po + i, none⟩) HCR.out.2).trans HCR.out.1, Nat.lt_of_lt_of_le HCR.out.2 h.size⟩
        obtain ⟨hc1, hc2, ⟨bk, hc3⟩⟩ := HKD.out i k hk
        have HBW : Hid (Below w.heap.size w wr) := Lib.hid ((HB1.out.then_ (HB3.out.then_ HB5.out)).trans (HI.out.be.mono (by omega)))
        have HCD : Hid (∀ W, Below wr.heap.size wr W → Calls Tryz.prog 124 #[tmVal k Ax cax Bx cbx Kx ckx, .int .i64 z] W (TrPost (trd N z k) lo W)) := Lib.hid fun W h => by
          have hw := HBW.out.then_ h
          have hback := mask_back (w := w) hst1 (HB1.out.then_ HB3.out) HLO.out
          have hzd := HZD.out
          exact IH.out k Ax cax Bx cbx Kx ckx z lo bk W hc1 (Nat.le_trans HLO.out hw.size) (mask_grow hback hw) hc2 hc3 (by rw [← hzd]; exact HG2.out i (by rw [hzd]; exact hz0))
        have HHK := Lib.hid (And.intro hk hz0)
        have HSZ : Hid (lo ≤ w2.heap.size ∧ w2.heap.size ≤ wr.heap.size ∧ lo ≤ wr.heap.size) := Lib.hid (by have h1 := HLO.out; have h2 := Nat.le_trans HB5.out.size HI.out.be.size; omega)
        have him : i < m := by omega
        clear hk hr hst1 hc1 hc2 hc3
        go_upto_region 11 with fail
        refine dtd11 FX.out HSZ.out.2.2 hlt him HCD.out ?_ ?_
        · exact fun _ _ _ _ _ h => h
        intro _ _ _ _ _ _ _ _ _ g8 Au cau Bu cbu Ku cku W' hb h8 hm
        obtain ⟨V, hV⟩ : ∃ V, V = sixAt W' g (i * 6) (.int .i64 (trd N z k).kind) (.string (trd N z k).text) (.int .i64 (trd N z k).n) (.slice Au (trd N z k).sh.length cau) (.slice Bu (trd N z k).at_.length cbu) (.slice Ku (trd N z k).kids.length cku) := ⟨_, rfl⟩
        have HE : Hid (TdW w5 V w2.heap.size lo N v t (i + 1) (rs.set i (rtOf (trd N z k) Au cau Bu cbu Ku cku)) rs0 g n cap) := Lib.hid (by
          have hzd := HZD.out
          subst hzd
          exact HI.out.put HN.out HHK.out.1 HHK.out.2 HSZ.out.1 HSZ.out.2.1 hb hm hV)
        obtain ⟨⟨a0, a1, a2, a3, a4, a5, al⟩, fz⟩ := FC.out W' hb
        have u0 := cell_at h8 (j := 0) rfl
        have u1 := cell_at h8 (j := 1) rfl
        have u2 := cell_at h8 (j := 2) rfl
        have u3 := cell_at h8 (j := 3) rfl
        have u4 := cell_at h8 (j := 4) rfl
        have u5 := cell_at h8 (j := 5) rfl
        have ul := heap_lt h8
        have HV := Lib.hid hV
        clear hb h8 hm hV hcr hpl
        try simp only [Exit.then]
        go_wp2_with fail
        have hVV := HV.out
        unfold sixAt at hVV
        rw [← hVV]
        exact ⟨⟨i + 1, _, by omega, by go_num, HE⟩, by simp [intOf]; omega⟩
      · have HE : Hid (TdW w5 wr w2.heap.size lo N v t (i + 1) rs rs0 g n cap) := Lib.hid (HI.out.skip (by rw [HZD.out]; exact hz0))
        go_wp2_with fail
        exact ⟨⟨i + 1, _, by omega, by go_num, HE⟩, by simp [intOf]; omega⟩
    · obtain rfl : i = n := by omega
      have hx := (HI.out.be.block w.heap.size (by omega)).trans ((HB5.out.block _ (heap_lt HX2.out)).trans HX2.out)
      have hz := (HI.out.be.block (w.heap.size + 1) (by omega)).trans (((HB3.out.then_ HB5.out).block (w.heap.size + 1) (heap_lt CX.out.hz)).trans CX.out.hz)
      clear hlt
      have fk := unfrozen hx 5
      have k5' := cell_at hx (j := 5) rfl
      have kl' := heap_lt hx
      have HXE := Lib.hid hx
      have HZE := Lib.hid hz
      clear hx hz
      go_upto_region 14 with fail
      obtain ⟨W9, hW9⟩ : ∃ W, W = wr.setCell ⟨w.heap.size, 5, none⟩ (.slice (some ⟨g, 0, none⟩) i cap) := ⟨_, rfl⟩
      have hx9 : W9.heap[w.heap.size]? = some (.cells #[.int .i64 t.kind, .string t.text, .int .i64 t.n, .slice A t.sh.length ca, .slice B t.at_.length cb, .slice (some ⟨g, 0, none⟩) i cap] TTm (0, 0)) := by rw [hW9]; exact Go.heap_setCell_same _ _ 5 _ TTm _ HXE.out
      have hz9 : W9.heap[w.heap.size + 1]? = some (.cells #[.int .i64 0, .string ⟨#[]⟩, .int .i64 0, .slice none 0 0, .slice none 0 0, .slice none 0 0] TTm (0, 0)) := by
        rw [hW9, Below.heap_setCell _ _ _ _ (by show w.heap.size + 1 ≠ w.heap.size; omega)]
        exact HZE.out
      have HBE : Hid (Below w.heap.size w W9) := Lib.hid (by rw [hW9]; exact ((HB1.out.then_ (HB3.out.then_ HB5.out)).trans (HI.out.be.mono (by omega))).setCell (Nat.le_refl _) _)
      have HU : Hid (TmAt (mask W9 lo (w2.heap.size)) (withK t (mixT N v t i)) A B (some ⟨g, 0, none⟩)) := Lib.hid (by
        have h : TmAt (mask W9 lo (w2.heap.size)) (withK t (mixT N v t i)) A B (some ⟨g, 0, none⟩) := by
          refine ⟨(mask_grow HAT.out HBE.out).sh, (mask_grow HAT.out HBE.out).at_, ?_⟩
          have h2 := (HI.out.sh.set (a := ⟨w.heap.size, 5, none⟩) HLO.out (by show w.heap.size < w2.heap.size; omega) (.slice (some ⟨g, 0, none⟩) i cap)).kids (Nat.le_refl _)
          rw [hW9]; exact h2
        exact h)
      have HML : Hid ((mixT N v t i).length = i) := Lib.hid (by rw [mix_len, HN.out])
      have HZ9 := Lib.hid hz9
      rw [← hW9]
      have k0 := cell_at hx9 (j := 0) rfl
      have k1 := cell_at hx9 (j := 1) rfl
      have k2 := cell_at hx9 (j := 2) rfl
      have k3 := cell_at hx9 (j := 3) rfl
      have k4 := cell_at hx9 (j := 4) rfl
      have k5 := cell_at hx9 (j := 5) rfl
      have kl := heap_lt hx9
      have z0 := cell_at hz9 (j := 0) rfl
      have z1 := cell_at hz9 (j := 1) rfl
      have z2 := cell_at hz9 (j := 2) rfl
      have z3 := cell_at hz9 (j := 3) rfl
      have z4 := cell_at hz9 (j := 4) rfl
      have z5 := cell_at hz9 (j := 5) rfl
      have fz := unfrozen hz9
      have lz := heap_lt hz9
      clear hx9 hz9 hW9 fk k5' kl'
      go_wp2_with fail
      have hW : sixPutQ W9 (w.heap.size + 1) (.int .i64 t.kind) (.string t.text) (.int .i64 t.n) (.slice A t.sh.length ca) (.slice B t.at_.length cb) (.slice (some ⟨g, 0, none⟩) i cap) = sixPutQ W9 (w.heap.size + 1) (.int .i64 (withK t (mixT N v t i)).kind) (.string (withK t (mixT N v t i)).text) (.int .i64 (withK t (mixT N v t i)).n) (.slice A (withK t (mixT N v t i)).sh.length ca) (.slice B (withK t (mixT N v t i)).at_.length cb) (.slice (some ⟨g, 0, none⟩) (withK t (mixT N v t i)).kids.length cap) := by
        rw [show (withK t (mixT N v t i)).kids.length = i from HML.out]
        rfl
      obtain ⟨e1, e2, e3⟩ := tr_done2 (u := withK t (mixT N v t i)) (A := A) (ca := ca) (B := B) (cb := cb) (K := some ⟨g, 0, none⟩) (ck := cap) HLO.out (by omega) HZ9.out HBE.out HU.out hW
      exact bodyPost_ret (results_tm1 (p := 4) rfl rfl e1) rfl (TrPost.mk HR.out e2 e3)
theorem dturned_step (N : Nat) (ihT : TrN 82 N) (ihD : TdN 124 N) : TdN 124 (N + 1) := by
  intro t A ca B cb K ck v lo b w hN hlo hat hwf hg hv
  by_cases hk : t.kind = 23
  · by_cases hn : t.n = v
    · cases hp : plainT t with
      | true => exact dturned_yes t A ca B cb K ck v N ihT lo b w hN hlo hat hwf hg hp hn
      | false => exact dturned_not t A ca B cb K ck v N lo b w hlo hat hwf hg hk hn hp
    · exact dturned_other t A ca B cb K ck v N lo b w hlo hat hwf hg hk hn
  · by_cases h0 : t.kids.length = 0
    · exact dturned_leaf t A ca B cb K ck v N lo b w hlo hat hwf hg hv hk h0
    · exact dturned_some t A ca B cb K ck v N ihD lo b w hN hlo hat hwf hg hv hk h0
theorem dtr_all (N : Nat) : TrN 82 N ∧ TdN 124 N := by
  induction N with
  | zero => exact ⟨fun t _ _ _ _ _ _ _ _ _ h => by cases t; simp [cnt] at h, fun t _ _ _ _ _ _ _ _ _ _ h => by cases t; simp [cnt] at h⟩
  | succ N ih => exact ⟨dtrain_step N ih.1 ih.2, dturned_step N ih.1 ih.2⟩
end Go.Proofs.YtebiojmfieoncaaGreat
