/- The walk of TermParts: it returns true. Condition: sizes within reach. -/
import Derived.Test.YteohoodfcgfkeaaGreatTeL0
namespace Go.Proofs.YteohoodfcgfkeaaGreat
open Go.RowKit

theorem cntL_take {l : List Tm} {i : Nat} {k : Tm} (h : l[i]? = some k) : cntL (l.take (i + 1)) = cntL (l.take i) + cnt k := by
  rw [List.take_add_one, h]
  have app : ∀ (p : List Tm) (x : Tm), cntL (p ++ [x]) = cntL p + cnt x := fun p x => by
    induction p with
    | nil => simp [cntL]
    | cons y r ih => simp only [List.cons_append, cntL, ih]; omega
  exact app _ _
theorem depL_take {l : List Tm} {i : Nat} {k : Tm} (h : l[i]? = some k) : depL (l.take (i + 1)) = max (depL (l.take i)) (dep k) := by
  rw [List.take_add_one, h]
  have app : ∀ (p : List Tm) (x : Tm), depL (p ++ [x]) = max (depL p) (dep x) := fun p x => by
    induction p with
    | nil => simp [depL]
    | cons y r ih => simp only [List.cons_append, depL, ih]; omega
  exact app _ _
theorem cntL_le {l : List Tm} (i : Nat) : cntL (l.take i) ≤ cntL l := by
  have app : ∀ (p q : List Tm), cntL (p ++ q) = cntL p + cntL q := fun p q => by
    induction p with
    | nil => simp [cntL]
    | cons y r ih => simp only [List.cons_append, cntL, ih]; omega
  have := app (l.take i) (l.drop i)
  rw [List.take_append_drop] at this
  omega
theorem dep_kid {t : Tm} {i : Nat} {k : Tm} (h : t.kids[i]? = some k) : dep k < dep t := by
  have main : ∀ (l : List Tm) (i : Nat), l[i]? = some k → dep k ≤ depL l := by
    intro l
    induction l with
    | nil => intro i h; simp at h
    | cons u r ih =>
      intro i h
      simp only [depL]
      cases i with
      | zero => simp only [List.getElem?_cons_zero, Option.some.injEq] at h; subst h; omega
      | succ i => have := ih i (by simpa using h); omega
  cases t with
  | mk kk s n sh a ks =>
    simp only [Tm.kids] at h
    have := main ks i h
    simp only [dep]
    omega
theorem size_small {t : Tm} (h : greatT t = false) : sizeT t = (cnt t, dep t) ∧ cnt t ≤ 4096 ∧ dep t ≤ 256 := by
  unfold sizeT
  rw [h]
  unfold greatT at h
  simp at h
  exact ⟨rfl, by omega, by omega⟩
theorem great_kid {t : Tm} (h : greatT t = false) {i : Nat} {k : Tm} (hk : t.kids[i]? = some k) : greatT k = false := by
  obtain ⟨_, h1, h2⟩ := size_small h
  have := cnt_kid hk
  have := dep_kid hk
  unfold greatT
  simp
  omega
theorem cls_range (k : Int) : cls k = 0 ∨ cls k = 1 ∨ cls k = 2 ∨ cls k = 3 := by
  unfold cls
  repeat' split
  all_goals simp
theorem may_self (t : Tm) (hc : cls t.kind ≠ 0) : mayT t (cls t.kind) = if greatT t = true then 2 else if goodT false t = false then 33 else 0 := by
  unfold mayT
  rw [if_neg (by have := cls_range t.kind; omega)]
  simp
/-- what a term that may be tells of its kids -/
theorem good_kid {t : Tm} {b : Bool} (h : goodT b t = true) {i : Nat} {k : Tm} (hk : t.kids[i]? = some k) : goodT (lowOf t.kind t.n b) k = true := by
  rw [goodT_node, Bool.and_eq_true] at h
  have main : ∀ (l : List Tm) (i : Nat) (c : Bool), goodL c l = true → l[i]? = some k → goodT c k = true := by
    intro l
    induction l with
    | nil => intro i c _ h; simp at h
    | cons u r ih =>
      intro i c hg h
      simp only [goodL, Bool.and_eq_true] at hg
      cases i with
      | zero => simp only [List.getElem?_cons_zero, Option.some.injEq] at h; subst h; exact hg.1
      | succ i => exact ih i c hg.2 (by simpa using h)
  exact main _ _ _ h.2 hk
theorem good_cls {t : Tm} {b : Bool} (h : goodT b t = true) : cls t.kind ≠ 0 := by
  rw [goodT_node, Bool.and_eq_true] at h
  have h1 := h.1
  unfold nodeB at h1
  intro e
  rw [decide_eq_true e] at h1
  simp at h1
theorem may_kid {t : Tm} (hg : greatT t = false) (h : goodT false t = true) (h23 : ¬ t.kind = 23) {i : Nat} {k : Tm} (hk : t.kids[i]? = some k) : mayT k (cls k.kind) = 0 := by
  have hgk := good_kid h hk
  rw [show lowOf t.kind t.n false = false by unfold lowOf; rw [if_neg h23]] at hgk
  rw [may_self k (good_cls hgk), great_kid hg hk, hgk]
  rfl
set_option maxRecDepth 100000 in
set_option maxHeartbeats 16000000 in
theorem termParts_any (t : Tm) (A : Option Addr) (ca : Nat) (B : Option Addr) (cb : Nat) (K : Option Addr) (ck : Nat) (w : World) (hat : TmAt w t A B K) (hwf : WfT t) :
    Calls Tryz.prog 3 #[tmVal t A ca B cb K ck] w fun e w' => e = .returned (.bool true) ∧ Below w.heap.size w w' := by
  obtain ⟨W1, hW1⟩ : ∃ W1, W1 = w.alloc (.cells (tmCells t A ca B cb K ck) TTm) := ⟨_, rfl⟩
  have hb1 : Below w.heap.size w W1 := by rw [hW1]; exact (Below.refl _ _).alloc (Nat.le_refl _) _
  have hc1 : W1.heap[w.heap.size]? = some (.cells (tmCells t A ca B cb K ck) TTm (0, 0)) := by rw [hW1]; exact heap_alloc_new w _
  have HX := Lib.hid (And.intro hb1 (And.intro hc1 (hat.on hb1)))
  have HWF := Lib.hid hwf
  have HW1 := Lib.hid hW1
  have HK : Hid (∀ W, Below W1.heap.size W1 W → W.cell? ⟨w.heap.size, 0, none⟩ = some (.int .i64 t.kind) ∧ W.cell? ⟨w.heap.size, 1, none⟩ = some (.string t.text) ∧ W.cell? ⟨w.heap.size, 2, none⟩ = some (.int .i64 t.n) ∧ W.cell? ⟨w.heap.size, 3, none⟩ = some (.slice A t.sh.length ca) ∧ W.cell? ⟨w.heap.size, 4, none⟩ = some (.slice B t.at_.length cb) ∧ W.cell? ⟨w.heap.size, 5, none⟩ = some (.slice K t.kids.length ck)) := Lib.hid fun W h => by
    have hh := (h.block _ (heap_lt HX.out.2.1)).trans HX.out.2.1
    exact ⟨cell_at hh rfl, cell_at hh rfl, cell_at hh rfl, cell_at hh rfl, cell_at hh rfl, cell_at hh rfl⟩
  clear hat hwf hb1 hc1 hW1
  have cs : (cls t.kind = 0 ∧ mayT t (cls t.kind) = 1) ∨ (cls t.kind ≠ 0 ∧ (mayT t (cls t.kind) = 2 ∨ mayT t (cls t.kind) = 33)) ∨ (cls t.kind ≠ 0 ∧ mayT t (cls t.kind) = 0 ∧ greatT t = false ∧ goodT false t = true) := by
    by_cases h0 : cls t.kind = 0
    · exact .inl ⟨h0, by rw [h0]; rfl⟩
    · rw [may_self t h0]
      cases hg : greatT t with
      | true => exact .inr (.inl ⟨h0, .inl rfl⟩)
      | false =>
        cases hd : goodT false t with
        | false => exact .inr (.inl ⟨h0, .inr rfl⟩)
        | true => exact .inr (.inr ⟨h0, rfl, rfl, rfl⟩)
  rcases cs with ⟨h0, hm⟩ | ⟨h0, hm⟩ | ⟨h0, hm, hg, hd⟩
  · have HM := Lib.hid hm
    have d0 : (cls t.kind == 0) = true := beq_yes h0
    clear hm h0
    go_enter Tryz.func3, Tryz.ntmps3
    go_wp2_with fail
    rw [← HW1.out]
    refine (begun_any W1).mono ?_
    rintro e w2 ⟨rfl, hb2⟩
    have HB2 := Lib.hid hb2
    obtain ⟨q0, q1, q2, q3, q4, q5⟩ := HK.out w2 hb2
    clear hb2
    go_wp2_with fail
    refine (class_k t.kind _ _ _ _ _ w2).mono ?_
    rintro e w3 ⟨rfl, hb3⟩
    have HB3 := Lib.hid (HB2.out.then_ hb3)
    clear hb3 q0 q1 q2 q3 q4 q5
    obtain ⟨q0, q1, q2, q3, q4, q5⟩ := HK.out w3 HB3.out
    go_wp2_with fail
    refine (may_any t A ca B cb K ck (cls t.kind) w3 (HX.out.2.2.on HB3.out) HWF.out).mono ?_
    rintro e w4 ⟨rfl, hb4⟩
    have HB4 := Lib.hid (HB3.out.then_ hb4)
    clear hb4 q0 q1 q2 q3 q4 q5
    rw [HM.out]
    go_wp2_with fail
    go_ret
    exact ⟨rfl, HX.out.1.then_ HB4.out⟩
  · have d0 : (cls t.kind == 0) = false := beq_no h0
    clear h0
    rcases hm with hm | hm
    all_goals
      have HM := Lib.hid hm
      clear hm
      go_enter Tryz.func3, Tryz.ntmps3
      go_wp2_with fail
      rw [← HW1.out]
      refine (begun_any W1).mono ?_
      rintro e w2 ⟨rfl, hb2⟩
      have HB2 := Lib.hid hb2
      obtain ⟨q0, q1, q2, q3, q4, q5⟩ := HK.out w2 hb2
      clear hb2
      go_wp2_with fail
      refine (class_k t.kind _ _ _ _ _ w2).mono ?_
      rintro e w3 ⟨rfl, hb3⟩
      have HB3 := Lib.hid (HB2.out.then_ hb3)
      clear hb3 q0 q1 q2 q3 q4 q5
      obtain ⟨q0, q1, q2, q3, q4, q5⟩ := HK.out w3 HB3.out
      go_wp2_with fail
      refine (may_any t A ca B cb K ck (cls t.kind) w3 (HX.out.2.2.on HB3.out) HWF.out).mono ?_
      rintro e w4 ⟨rfl, hb4⟩
      have HB4 := Lib.hid (HB3.out.then_ hb4)
      clear hb4 q0 q1 q2 q3 q4 q5
      rw [HM.out]
      go_wp2_with fail
      go_ret
      exact ⟨rfl, HX.out.1.then_ HB4.out⟩
  · have d0 : (cls t.kind == 0) = false := beq_no h0
    have HM := Lib.hid hm
    have HG := Lib.hid hg
    have HD := Lib.hid hd
    have HC0 := Lib.hid h0
    obtain ⟨hsz, hn1, hd1⟩ := size_small hg
    have HSZ := Lib.hid hsz
    obtain ⟨n, hn⟩ : ∃ n, n = t.kids.length := ⟨_, rfl⟩
    have HN := Lib.hid hn
    have hnk : n ≤ 140737488351232 := by rw [hn]; exact HWF.out.node.kids
    have HCD : Hid (cnt t = cntL t.kids + 1 ∧ dep t = depL t.kids + 1) := Lib.hid (by cases t; simp only [cnt, dep, Tm.kids]; exact ⟨trivial, trivial⟩)
    rw [← hn] at HK
    clear h0 hm hg hd hsz hn
    go_enter Tryz.func3, Tryz.ntmps3
    go_wp2_with fail
    rw [← HW1.out]
    refine (begun_any W1).mono ?_
    rintro e w2 ⟨rfl, hb2⟩
    have HB2 := Lib.hid hb2
    obtain ⟨q0, q1, q2, q3, q4, q5⟩ := HK.out w2 hb2
    rw [HN.out] at q5
    clear hb2
    go_wp2_with fail
    refine (class_k t.kind _ _ _ _ _ w2).mono ?_
    rintro e w3 ⟨rfl, hb3⟩
    have HB3 := Lib.hid (HB2.out.then_ hb3)
    clear hb3 q0 q1 q2 q3 q4 q5
    obtain ⟨q0, q1, q2, q3, q4, q5⟩ := HK.out w3 HB3.out
    rw [HN.out] at q5
    go_wp2_with fail
    refine (may_any t A ca B cb K ck (cls t.kind) w3 (HX.out.2.2.on HB3.out) HWF.out).mono ?_
    rintro e w4 ⟨rfl, hb4⟩
    have HB4 := Lib.hid (HB3.out.then_ hb4)
    clear hb4 q0 q1 q2 q3 q4 q5
    rw [HM.out]
    obtain ⟨q0, q1, q2, q3, q4, q5⟩ := HK.out w4 HB4.out
    rw [HN.out] at q5
    go_wp2_with fail
    refine (size_any t A ca B cb K ck w4 (HX.out.2.2.on HB4.out) HWF.out).mono ?_
    rintro e w5 ⟨rfl, hb5⟩
    rw [HSZ.out]
    have HB5 := Lib.hid (HB4.out.then_ hb5)
    clear hb5 q0 q1 q2 q3 q4 q5
    go_wp2_with fail
    go_loopw [7, 8, 9] (fun v7 v8 v9 W => ∃ i al mo : Nat, i ≤ n ∧ v9 = .int .i64 i ∧ v7 = .int .i64 al ∧ v8 = .int .i64 mo ∧ al ≤ 5000 ∧ mo ≤ 300 ∧ Hid (al = 1 + cntL (t.kids.take i) ∧ mo = depL (t.kids.take i) ∧ Below W1.heap.size W1 W)) (fun _ _ v9 _ => n - (intOf v9).toNat)
    case atStart => exact ⟨0, 1, 0, Nat.zero_le _, rfl, rfl, rfl, by omega, by omega, Lib.hid ⟨rfl, rfl, HB5.out⟩⟩
    case round =>
      obtain ⟨i, al, mo, hi, rfl, rfl, rfl, hal, hmo, HI⟩ := hrel
      obtain ⟨q0, q1, q2, q3, q4, q5⟩ := HK.out _ HI.out.2.2
      by_cases hlt : i < n
      · obtain ⟨k, hk2⟩ : ∃ k, t.kids[i]? = some k := ⟨_, List.getElem?_eq_getElem (by rw [← HN.out]; exact hlt)⟩
        obtain ⟨b', off', rfl, hpk⟩ := (HX.out.2.2.kids.on HI.out.2.2).get hk2
        rw [Nat.zero_add] at hpk
        obtain ⟨A', ca', B', cb', K', ck', hlt', r0, r1, r2, r3, r4, r5, hat'⟩ := hpk.cells
        have hgk := great_kid HG.out hk2
        obtain ⟨hszk, hn2, hd2⟩ := size_small hgk
        have HKK := Lib.hid (And.intro hk2 (And.intro hat' (HWF.out.node.each k (List.mem_of_getElem? hk2))))
        have HSK := Lib.hid hszk
        have HOB : Hid (∀ o : Obj, Below wr.heap.size wr (wr.alloc o)) := Lib.hid fun o => (Below.refl _ _).alloc (Nat.le_refl _) o
        have hal2 : al + cnt k ≤ 5000 := by have h1 := HI.out.1; have h2 := cntL_take hk2; have h3 := cntL_le (l := t.kids) (i + 1); have h4 := HCD.out.1; omega
        clear hk2 hpk hat' hgk hszk q0 q1 q2 q3 q4
        go_wp2_with fail
        refine (size_any k A' ca' B' cb' K' ck' _ (HKK.out.2.1.on (HOB.out _)) HKK.out.2.2).mono ?_
        rintro e w7 ⟨rfl, hb7⟩
        rw [HSK.out]
        have hbw7 : Below W1.heap.size W1 w7 := (HI.out.2.2.then_ (HOB.out _)).then_ hb7
        have hx7 := (hb7.block wr.heap.size (by simp)).trans (heap_alloc_new wr _)
        have HC7 : Hid (∀ w' : World, Below w7.heap.size w7 w' → (w'.cell? ⟨wr.heap.size, 0, none⟩ = some (.int .i64 k.kind) ∧ w'.cell? ⟨wr.heap.size, 1, none⟩ = some (.string k.text) ∧ w'.cell? ⟨wr.heap.size, 2, none⟩ = some (.int .i64 k.n) ∧ w'.cell? ⟨wr.heap.size, 3, none⟩ = some (.slice A' k.sh.length ca') ∧ w'.cell? ⟨wr.heap.size, 4, none⟩ = some (.slice B' k.at_.length cb') ∧ w'.cell? ⟨wr.heap.size, 5, none⟩ = some (.slice K' k.kids.length ck')) ∧ w'.cell? ⟨w.heap.size, 0, none⟩ = some (.int .i64 t.kind)) := Lib.hid fun W h => by
          have hh := (h.block _ (heap_lt hx7)).trans hx7
          exact ⟨⟨cell_at hh rfl, cell_at hh rfl, cell_at hh rfl, cell_at hh rfl, cell_at hh rfl, cell_at hh rfl⟩, (HK.out W (hbw7.then_ h)).1⟩
        have HB7 := Lib.hid hbw7
        have HAT7 := Lib.hid (HKK.out.2.1.on ((HOB.out _).then_ hb7))
        have HCK : Hid (cls k.kind ≠ 0) := Lib.hid (good_cls (good_kid HD.out HKK.out.1))
        have e1 : (cls k.kind == 0) = false := beq_no HCK.out
        have mx : ∃ M : Nat, Hid (M = max mo (dep k)) ∧ ((mo < dep k ∧ (mo : Int) < dep k) ∧ dep k = M ∨ (dep k ≤ mo ∧ ¬ (mo : Int) < dep k) ∧ mo = M) := by
          rcases Nat.lt_or_ge mo (dep k) with h | h
          · exact ⟨dep k, Lib.hid (by omega), .inl ⟨⟨h, by omega⟩, rfl⟩⟩
          · exact ⟨mo, Lib.hid (by omega), .inr ⟨⟨h, by omega⟩, rfl⟩⟩
        obtain ⟨M, HM2, hM⟩ := mx
        have hM3 : M ≤ 300 := by omega
        have HNX : Hid (al + cnt k = 1 + cntL (t.kids.take (i + 1)) ∧ M = depL (t.kids.take (i + 1))) := Lib.hid ⟨by rw [cntL_take HKK.out.1, HI.out.1]; omega, by rw [depL_take HKK.out.1, HM2.out, HI.out.2.1]⟩
        obtain ⟨⟨r0, r1, r2, r3, r4, r5⟩, z0⟩ := HC7.out w7 (Below.refl _ _)
        have MK : Hid (¬ t.kind = 23 → ∀ W, Below w7.heap.size w7 W → Calls Tryz.prog 17 #[tmVal k A' ca' B' cb' K' ck', .int .i64 (cls k.kind)] W fun e w' => e = .returned (.int .i64 0) ∧ Below W.heap.size W w') := Lib.hid fun h W hW => by
          have h1 := may_any k A' ca' B' cb' K' ck' (cls k.kind) W (HAT7.out.on hW) HKK.out.2.2
          rw [may_kid HG.out HD.out h HKK.out.1] at h1
          exact h1
        have ks : (t.kind = 23) ∨ (¬ t.kind = 23 ∧ cls t.kind = 2) ∨ (¬ t.kind = 23 ∧ ¬ cls t.kind = 2) := by omega
        clear hb7 hbw7 hx7
        rcases ks with h23 | ⟨h23, h2⟩ | ⟨h23, h2⟩
        · have g1 : (t.kind != 23) = false := by simp [h23]
          clear h23
          rcases hM with ⟨⟨m1, m2⟩, hM⟩ | ⟨⟨m1, m2⟩, hM⟩
          all_goals
            have HM4 := Lib.hid hM
            clear hM
            go_wp2_with fail
            refine wp_region_quiet (C := fun W' => Below w7.heap.size w7 W') (by kernel_rfl) (by kernel_rfl) ((Below.refl _ _).drew) ?_
            repeat
              (refine wpQuiet_step (fun K hK => ?_)
               go_simp
               first
               | (refine hK _ ?_; clear hK K)
               | (apply Exists.intro
                  refine ⟨fun W' hC => ?_, hK _ ?_⟩
                  (obtain ⟨⟨r0, r1, r2, r3, r4, r5⟩, z0⟩ := HC7.out W' hC
                   first
                   | (go_simp; rfl)
                   | (go_simp; done)
                   | (refine (class_k k.kind _ _ _ _ _ W').mono ?_
                      rintro e w' ⟨rfl, hb'⟩
                      exact ⟨rfl, hC.then_ hb'⟩)
                   | (refine (MK.out W' hC).mono ?_
                      rintro e w' ⟨rfl, hb'⟩
                      exact ⟨rfl, hC.then_ hb'⟩))
                  clear hK K))
            refine wpQuiet_nil ?_
            intro w8 hC8
            have HC8 := Lib.hid hC8
            clear hC8
            go_wp2_with fail
            exact ⟨⟨i + 1, al + cnt k, M, by omega, by go_num, by go_num, by rw [← HM4.out], hal2, hM3, Lib.hid ⟨HNX.out.1, HNX.out.2, HB7.out.then_ HC8.out⟩⟩, by simp [intOf]; omega⟩
        · have g1 : (t.kind != 23) = true := by simp [h23]
          have g2 : (cls t.kind != 2) = false := by simp [h2]
          clear h23 h2
          rcases hM with ⟨⟨m1, m2⟩, hM⟩ | ⟨⟨m1, m2⟩, hM⟩
          all_goals
            have HM4 := Lib.hid hM
            clear hM
            go_wp2_with fail
            refine wp_region_quiet (C := fun W' => Below w7.heap.size w7 W') (by kernel_rfl) (by kernel_rfl) ((Below.refl _ _).drew) ?_
            repeat
              (refine wpQuiet_step (fun K hK => ?_)
               go_simp
               first
               | (refine hK _ ?_; clear hK K)
               | (apply Exists.intro
                  refine ⟨fun W' hC => ?_, hK _ ?_⟩
                  (obtain ⟨⟨r0, r1, r2, r3, r4, r5⟩, z0⟩ := HC7.out W' hC
                   first
                   | (go_simp; rfl)
                   | (go_simp; done)
                   | (refine (class_k k.kind _ _ _ _ _ W').mono ?_
                      rintro e w' ⟨rfl, hb'⟩
                      exact ⟨rfl, hC.then_ hb'⟩)
                   | (refine (MK.out W' hC).mono ?_
                      rintro e w' ⟨rfl, hb'⟩
                      exact ⟨rfl, hC.then_ hb'⟩))
                  clear hK K))
            refine wpQuiet_nil ?_
            intro w8 hC8
            have HC8 := Lib.hid hC8
            clear hC8
            go_wp2_with fail
            exact ⟨⟨i + 1, al + cnt k, M, by omega, by go_num, by go_num, by rw [← HM4.out], hal2, hM3, Lib.hid ⟨HNX.out.1, HNX.out.2, HB7.out.then_ HC8.out⟩⟩, by simp [intOf]; omega⟩
        · have g1 : (t.kind != 23) = true := by simp [h23]
          have g2 : (cls t.kind != 2) = true := by simp [h2]
          have MK := Lib.hid (MK.out h23)
          clear h23 h2
          rcases hM with ⟨⟨m1, m2⟩, hM⟩ | ⟨⟨m1, m2⟩, hM⟩
          all_goals
            have HM4 := Lib.hid hM
            clear hM
            go_wp2_with fail
            refine wp_region_quiet (C := fun W' => Below w7.heap.size w7 W') (by kernel_rfl) (by kernel_rfl) ((Below.refl _ _).drew) ?_
            repeat
              (refine wpQuiet_step (fun K hK => ?_)
               go_simp
               first
               | (refine hK _ ?_; clear hK K)
               | (apply Exists.intro
                  refine ⟨fun W' hC => ?_, hK _ ?_⟩
                  (obtain ⟨⟨r0, r1, r2, r3, r4, r5⟩, z0⟩ := HC7.out W' hC
                   first
                   | (go_simp; rfl)
                   | (go_simp; done)
                   | (refine (class_k k.kind _ _ _ _ _ W').mono ?_
                      rintro e w' ⟨rfl, hb'⟩
                      exact ⟨rfl, hC.then_ hb'⟩)
                   | (refine (MK.out W' hC).mono ?_
                      rintro e w' ⟨rfl, hb'⟩
                      exact ⟨rfl, hC.then_ hb'⟩))
                  clear hK K))
            refine wpQuiet_nil ?_
            intro w8 hC8
            have HC8 := Lib.hid hC8
            clear hC8
            go_wp2_with fail
            exact ⟨⟨i + 1, al + cnt k, M, by omega, by go_num, by go_num, by rw [← HM4.out], hal2, hM3, Lib.hid ⟨HNX.out.1, HNX.out.2, HB7.out.then_ HC8.out⟩⟩, by simp [intOf]; omega⟩
      · obtain rfl : i = n := by omega
        have ht : t.kids.take i = t.kids := by rw [HN.out]; exact List.take_length
        have hal3 : al = cnt t := by rw [HI.out.1, ht, HCD.out.1]; omega
        have hmo3 : mo + 1 = dep t := by rw [HI.out.2.1, ht, HCD.out.2]
        have e1 : ((cnt t : Int) == (al : Int)) = true := beq_yes (by omega)
        have e2 : ((dep t : Int) == (mo : Int) + 1) = true := beq_yes (by omega)
        have e3 : (cnt t : Int) ≤ 4096 := by omega
        have e4 : (dep t : Int) ≤ 256 := by omega
        have HBF := Lib.hid HI.out.2.2
        clear ht hal3 hmo3 hlt q0 q1 q2 q3 q4
        go_wp2_with fail
        go_ret
        exact ⟨rfl, HX.out.1.then_ HBF.out⟩
end Go.Proofs.YteohoodfcgfkeaaGreat
