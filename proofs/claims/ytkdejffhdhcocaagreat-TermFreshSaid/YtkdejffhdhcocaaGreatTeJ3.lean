/- How much a term's lists take in a book's count; abacuslaw13.(*Book).Whole, Take. Condition: sizes within reach. -/
import Derived.Test.YtkdejffhdhcocaaGreatTeJ2
namespace Go.Proofs.YtkdejffhdhcocaaGreat
open Go.RowKit

theorem nodes_own {w : World} {B : Nat} : ∀ (N : Nat) {t : Tm} {r : Rt}, cnt t ≤ N → OwnT w B t r → WfT t → ∀ q ∈ nodes r, ∃ t', OwnT w B t' q ∧ WfT t' := by
  intro N
  induction N with
  | zero => intro t r h; cases t; simp [cnt] at h
  | succ N ih =>
    intro t r hN ho hwf q hq
    rw [nodes_eq] at hq
    rcases List.mem_cons.1 hq with rfl | hq
    · exact ⟨t, ho, hwf⟩
    · obtain ⟨_, _, _, hl, hk⟩ := ho.parts
      have : ∀ (rs : List Rt) (ts : List Tm), OwnL w B ts rs → (∀ t' ∈ ts, cnt t' ≤ N ∧ WfT t') → q ∈ nodesL rs → ∃ t', OwnT w B t' q ∧ WfT t' := by
        intro rs
        induction rs with
        | nil => intro ts _ _ h; simp only [nodesL] at h; cases h
        | cons r' rs ihr =>
          intro ts ho' hts h
          cases ts with
          | nil => simp only [OwnL] at ho'
          | cons t' ts =>
            simp only [OwnL] at ho'
            simp only [nodesL, List.mem_append] at h
            rcases h with h | h
            · exact ih (hts t' List.mem_cons_self).1 ho'.1 (hts t' List.mem_cons_self).2 q h
            · exact ihr ts ho'.2 (fun x hx => hts x (List.mem_cons_of_mem _ hx)) h
      refine this r.kids t.kids hk (fun x hx => ?_) hq
      obtain ⟨i, hi⟩ := List.getElem?_of_mem hx
      exact ⟨by have := cnt_kid hi; omega, hwf.node.each x hx⟩
theorem roomOf_far (n c : Nat) : roomOf n c ≤ n + 70000 := by unfold roomOf; split <;> omega
theorem wt_len : ∀ (l : List Rt) (M : Nat), (∀ q ∈ l, wtN q ≤ M) → wt l ≤ l.length * M
  | [], M, _ => by simp [wt]
  | q :: l, M, h => by
    have h1 := h q List.mem_cons_self
    have h2 := wt_len l M fun x hx => h x (List.mem_cons_of_mem _ hx)
    rw [wt_cons, List.length_cons, Nat.add_mul, Nat.one_mul]
    omega
theorem wt_fit {w : World} {B : Nat} {t : Tm} {r : Rt} (ho : OwnT w B t r) (hwf : WfT t) (hg : cnt t ≤ 4096) : wt (nodes r) ≤ 4611826755915743232 := by
  have h1 : wt (nodes r) ≤ (nodes r).length * 443865000000000 := wt_len _ _ fun q hq => by
    obtain ⟨t', ho', hw'⟩ := nodes_own (cnt t) (Nat.le_refl _) ho hwf q hq
    obtain ⟨_, e1, e2, e3⟩ := ho'.read
    have a1 := hw'.node.sh8
    have a2 := hw'.node.at8
    have a3 := hw'.node.kids104
    rw [← e1] at a1
    rw [← e2] at a2
    rw [← e3] at a3
    have b1 := roomOf_far q.s.n q.s.c
    have b2 := roomOf_far q.a.n q.a.c
    have b3 := roomOf_far q.k.n q.k.c
    unfold wtN
    omega
  rw [nodes_cnt ho] at h1
  have h2 : cnt t * 443865000000000 ≤ 4096 * 443865000000000 := Nat.mul_le_mul_right _ hg
  omega

/-- the cells of an element that holds its mark -/
theorem ZwAt.here {t : TypeId} {z : Nat} {w : World} {B k : Nat} {r : Bw} {cs : List Value} (hr : ZwAt t z w B r) (hm : MkZ w r z r.n cs) (hk : k < r.n) : ∃ b, r.g = Option.some b ∧ b < w.heap.size ∧ r.adr = Option.some ⟨b, 0, none⟩ ∧ ∀ o u, cs[o]? = Option.some u → w.cell? ⟨b, k * z + o, none⟩ = Option.some u := by
  obtain ⟨b, hb⟩ := hr.some (Nat.lt_of_lt_of_le hk hr.le)
  exact ⟨b, hb, hr.lt hb, Bw.adr_some hb, fun o u hu => hm b hb k o u hk hu⟩
set_option maxRecDepth 100000 in
set_option maxHeartbeats 16000000 in
theorem whole13_any (w : World) (B pb : Nat) (P : Nat → Prop) (h : BkF w B pb P) : Calls Tryz.prog 15 #[.pointer (some ⟨pb, 0, none⟩)] w fun e w' => e = .returned (.bool true) ∧ Below w.heap.size w w' := by
  obtain ⟨z, S, A, K, hbk, hla, hlk, hz1, hz2⟩ := h
  obtain ⟨N, hN⟩ : ∃ N, N = S.length := ⟨_, rfl⟩
  rw [← hN] at hbk hla hlk hz1
  obtain ⟨As, cs, Aa, ca, Ak, ck, hb⟩ := hbk.open4 hN.symm hla hlk
  have hN2 : N ≤ 3843188963291081 := by omega
  have HB : Hid (∀ W, Below w.heap.size w W → Bk4 w W B pb P As cs Aa ca Ak ck z N S A K N N N) := Lib.hid fun W hW => hb.below hW
  have HL := Lib.hid (And.intro hN (And.intro hla hlk))
  have HR : Hid ((∀ r ∈ S, r.n ≤ maxLen) ∧ (∀ r ∈ A, r.n ≤ maxLen) ∧ (∀ r ∈ K, r.n ≤ maxLen)) := Lib.hid ⟨fun r hr => Nat.le_trans (hb.ls.row r hr).le (hb.ls.row r hr).max, fun r hr => Nat.le_trans (hb.la.row r hr).le (hb.la.row r hr).max, fun r hr => Nat.le_trans (hb.lk.row r hr).le (hb.lk.row r hr).max⟩
  clear hbk hb hN hla hlk hz1 hz2
  go_enter Tryz.func15, Tryz.ntmps15
  go_wp2_with fail
  go_loopw [3] (fun v W => ∃ k : Nat, k ≤ N ∧ v = .int .i64 k ∧ Hid (Below w.heap.size w W)) (fun v _ => N - (intOf v).toNat)
  case atStart => exact ⟨0, Nat.zero_le _, rfl, Lib.hid (Below.refl _ _)⟩
  case round =>
    obtain ⟨k, hk, rfl, HI⟩ := hrel
    obtain ⟨W0, rfl⟩ : ∃ V, V = wr := ⟨_, rfl⟩
    obtain ⟨x0, x1, x2, _, _, hpl⟩ := (HB.out W0 HI.out).cells
    by_cases hlt : k < N
    · obtain ⟨rs, hrs⟩ : ∃ rs, S[k]? = some rs := ⟨_, List.getElem?_eq_getElem (by have := HL.out; omega)⟩
      obtain ⟨ra, hra⟩ : ∃ ra, A[k]? = some ra := ⟨_, List.getElem?_eq_getElem (by have := HL.out; omega)⟩
      obtain ⟨rk, hrk⟩ : ∃ rk, K[k]? = some rk := ⟨_, List.getElem?_eq_getElem (by have := HL.out; omega)⟩
      obtain ⟨gs, rfl⟩ := (HB.out W0 HI.out).ls.head hrs
      obtain ⟨gl, rfl⟩ := (HB.out W0 HI.out).la.head hra
      obtain ⟨gk, rfl⟩ := (HB.out W0 HI.out).lk.head hrk
      have hm1 := HR.out.1 rs (List.mem_of_getElem? hrs)
      have hm2 := HR.out.2.1 ra (List.mem_of_getElem? hra)
      have hm3 := HR.out.2.2 rk (List.mem_of_getElem? hrk)
      have hw1 : IntKind.i64.wrap (1099511627776 + (k : Int)) = 1099511627776 + (k : Int) := by rw [IntKind.wrap_i64]; omega
      have hw2 : IntKind.i64.wrap (-2199023255552 - (k : Int)) = -2199023255552 - (k : Int) := by rw [IntKind.wrap_i64]; omega
      have hw3 : IntKind.i64.wrap (4398046511104 + (k : Int)) = 4398046511104 + (k : Int) := by rw [IntKind.wrap_i64]; omega
      unfold maxLen at hm1 hm2 hm3
      have HRS := Lib.hid hrs
      have HRA := Lib.hid hra
      have HRK := Lib.hid hrk
      have HK := Lib.hid hlt
      clear hrs hra hrk
      go_wp2_with fail
      clear x0 x1 x2 hpl
      go_loopw [4] (fun v W => ∃ i : Nat, i ≤ rs.n ∧ v = .int .i64 i ∧ Hid (Below w.heap.size w W)) (fun v _ => rs.n - (intOf v).toNat)
      case atStart => exact ⟨0, Nat.zero_le _, rfl, HI⟩
      case round =>
        obtain ⟨i, hi, rfl, HI⟩ := hrel
        obtain ⟨W1, rfl⟩ : ∃ V, V = wr := ⟨_, rfl⟩
        obtain ⟨x0, _, _, _, _, hpl⟩ := (HB.out W1 HI.out).cells
        obtain ⟨kq, _, hgl⟩ := (HB.out W1 HI.out).ls.at_ HRS.out
        simp only [Bw.val] at kq
        by_cases hlt2 : i < rs.n
        · obtain ⟨b, hb, hbl, hba, hc⟩ := ((HB.out W1 HI.out).ls.row rs (List.mem_of_getElem? HRS.out)).here ((HB.out W1 HI.out).ls.mks k rs HRS.out HK.out) hlt2
          have c0 := hc 0 _ rfl
          rw [Nat.mul_one, Nat.add_zero] at c0
          rw [hba] at kq
          clear hb hba hc
          go_wp2_with fail
          exact ⟨⟨i + 1, by omega, by go_num, HI⟩, by simp [intOf]; omega⟩
        · obtain rfl : i = rs.n := by omega
          have hge : ¬ (rs.n : Int) < rs.n := by omega
          clear hlt2
          go_wp2_with fail
          clear x0 kq hgl hpl
          go_loopw [5] (fun v W => ∃ i : Nat, i ≤ ra.n ∧ v = .int .i64 i ∧ Hid (Below w.heap.size w W)) (fun v _ => ra.n - (intOf v).toNat)
          case atStart => exact ⟨0, Nat.zero_le _, rfl, HI⟩
          case round =>
            obtain ⟨i, hi, rfl, HI⟩ := hrel
            obtain ⟨W2, rfl⟩ : ∃ V, V = wr := ⟨_, rfl⟩
            obtain ⟨_, x1, _, _, _, hpl⟩ := (HB.out W2 HI.out).cells
            obtain ⟨kq, _, hgl⟩ := (HB.out W2 HI.out).la.at_ HRA.out
            simp only [Bw.val] at kq
            by_cases hlt2 : i < ra.n
            · obtain ⟨b, hb, hbl, hba, hc⟩ := ((HB.out W2 HI.out).la.row ra (List.mem_of_getElem? HRA.out)).here ((HB.out W2 HI.out).la.mks k ra HRA.out HK.out) hlt2
              have c0 := hc 0 _ rfl
              rw [Nat.mul_one, Nat.add_zero] at c0
              rw [hba] at kq
              clear hb hba hc
              go_wp2_with fail
              exact ⟨⟨i + 1, by omega, by go_num, HI⟩, by simp [intOf]; omega⟩
            · obtain rfl : i = ra.n := by omega
              have hge : ¬ (ra.n : Int) < ra.n := by omega
              clear hlt2
              go_wp2_with fail
              clear x1 kq hgl hpl
              go_loopw [6] (fun v W => ∃ i : Nat, i ≤ rk.n ∧ v = .int .i64 i ∧ Hid (Below w.heap.size w W)) (fun v _ => rk.n - (intOf v).toNat)
              case atStart => exact ⟨0, Nat.zero_le _, rfl, HI⟩
              case round =>
                obtain ⟨i, hi, rfl, HI⟩ := hrel
                obtain ⟨W3, rfl⟩ : ∃ V, V = wr := ⟨_, rfl⟩
                obtain ⟨_, _, x2, _, _, hpl⟩ := (HB.out W3 HI.out).cells
                obtain ⟨kq, _, hgl⟩ := (HB.out W3 HI.out).lk.at_ HRK.out
                simp only [Bw.val] at kq
                by_cases hlt2 : i < rk.n
                · obtain ⟨b, hb, hbl, hba, hc⟩ := ((HB.out W3 HI.out).lk.row rk (List.mem_of_getElem? HRK.out)).here ((HB.out W3 HI.out).lk.mks k rk HRK.out HK.out) hlt2
                  have c0 := hc 0 _ rfl
                  have c1 := hc 1 _ rfl
                  have c2 := hc 2 _ rfl
                  have c3 := hc 3 _ rfl
                  have c4 := hc 4 _ rfl
                  have c5 := hc 5 _ rfl
                  rw [Nat.add_zero] at c0
                  rw [hba] at kq
                  have HNB : Hid (∀ o, Below w.heap.size w (W3.alloc o)) := Lib.hid fun o => HI.out.alloc HI.out.size _
                  clear hb hba hc
                  go_wp2_with fail
                  exact ⟨⟨i + 1, by omega, by go_num, Lib.hid (HNB.out _)⟩, by simp [intOf]; omega⟩
                · obtain rfl : i = rk.n := by omega
                  have hge : ¬ (rk.n : Int) < rk.n := by omega
                  clear hlt2
                  go_wp2_with fail
                  exact ⟨⟨k + 1, by omega, by go_num, HI⟩, by simp [intOf]; omega⟩
    · obtain rfl : k = N := by omega
      clear hlt
      go_wp2_with fail
      go_ret
      exact ⟨rfl, HI.out⟩
theorem BkF.below {w w' : World} {B pb : Nat} {P : Nat → Prop} (h : BkF w B pb P) (hk : ∀ x, P x → x < w.heap.size → w'.heap[x]? = w.heap[x]?) : BkF w' B pb P := by
  obtain ⟨z, S, A, K, ⟨sv, av, kv, h⟩, hla, hlk, hz1, hz2⟩ := h
  exact ⟨z, S, A, K, ⟨sv, av, kv, (hk pb h.pp (heap_lt h.bk)).trans h.bk, h.pp, h.bb, h.ls.kept hk, h.la.kept hk, h.lk.kept hk, OnlyP.refl _ _⟩, hla, hlk, hz1, hz2⟩
theorem BkF.inP {w : World} {B pb : Nat} {P P' : Nat → Prop} (h : BkF w B pb P) (hP : ∀ x, P x → x < w.heap.size → P' x) : BkF w B pb P' := by
  obtain ⟨z, S, A, K, ⟨sv, av, kv, h⟩, hla, hlk, hz1, hz2⟩ := h
  exact ⟨z, S, A, K, ⟨sv, av, kv, h.bk, hP pb h.pp (heap_lt h.bk), h.bb, h.ls.inP hP, h.la.inP hP, h.lk.inP hP, OnlyP.refl _ _⟩, hla, hlk, hz1, hz2⟩
/-- a new book -/
theorem BkF.new {w : World} {B pb : Nat} {P : Nat → Prop} (h : w.heap[pb]? = some (.cells #[.slice none 0 0, .slice none 0 0, .slice none 0 0, .int .i64 0] TB3 (0, 0))) (hp : P pb) (hB : B ≤ pb) : BkF w B pb P := by
  have e : ∀ (t ts : TypeId) (z : Nat) (mk : Nat → List Value), LsAt w B P t ts z mk (.slice none 0 0) [] 0 := fun t ts z mk =>
    ⟨World.ownsRow_nil _ _ _ _, fun r hr => (by cases hr), List.Pairwise.nil, fun k hk => (by cases hk), fun r hr => (by cases hr), fun q r hq => (by simp at hq)⟩
  exact ⟨0, [], [], [], ⟨_, _, _, h, hp, hB, e _ _ _ _, e _ _ _ _, e _ _ _ _, OnlyP.refl _ _⟩, rfl, rfl, by simp, by omega⟩
set_option maxRecDepth 100000 in
set_option maxHeartbeats 16000000 in
theorem take13_full (ga : Nat) (w : World) (B pb : Nat) (P : Nat → Prop) (z : Int) (S A K : List Bw) (hbk : BkE w w B pb P z S A K S.length S.length S.length) (hla : A.length = S.length) (hlk : K.length = S.length) (hz : ¬ z < 33554432) (hz1 : (1200 * S.length : Int) ≤ z) (hz2 : z ≤ 4611826755949297664) :
    Calls Tryz.prog 11 #[.pointer (some ⟨pb, 0, none⟩), .slice (some ⟨ga, 0, none⟩) 1 1] w fun e w' => e = .returned (.tuple #[]) ∧ Below w.heap.size w w' := by
  obtain ⟨N, hN⟩ : ∃ N, N = S.length := ⟨_, rfl⟩
  rw [← hN] at hbk hla hlk hz1
  obtain ⟨As, cs, Aa, ca, Ak, ck, hb⟩ := hbk.open4 hN.symm hla hlk
  have hN2 : N ≤ 3843188963291081 := by omega
  have HB : Hid (∀ W, Below w.heap.size w W → Bk4 w W B pb P As cs Aa ca Ak ck z N S A K N N N) := Lib.hid fun W hW => hb.below hW
  obtain ⟨x0, x1, x2, x3, _, xl⟩ := hb.cells
  clear hbk hb hN hla hlk hz1 hz2
  go_enter Tryz.func11, Tryz.ntmps11
  go_wp2_with fail
  clear x0 x1 x2 x3 xl
  go_loopw [5] (fun v W => v = .int .i64 0 ∧ Hid (Below w.heap.size w W)) (fun _ _ => 0)
  case atStart => exact ⟨rfl, Lib.hid (Below.refl _ _)⟩
  case round =>
    obtain ⟨rfl, HI⟩ := hrel
    obtain ⟨W0, rfl⟩ : ∃ V, V = wr := ⟨_, rfl⟩
    obtain ⟨x0, x1, x2, x3, _, xl⟩ := (HB.out W0 HI.out).cells
    go_wp2_with fail
    clear x0 x1 x2 x3 xl
    go_loopw [6] (fun v W => v = .int .i64 N ∧ Hid (Below w.heap.size w W)) (fun _ _ => 0)
    case atStart => exact ⟨rfl, HI⟩
    case round =>
      obtain ⟨rfl, HI⟩ := hrel
      obtain ⟨W1, rfl⟩ : ∃ V, V = wr := ⟨_, rfl⟩
      obtain ⟨x0, x1, x2, x3, _, xl⟩ := (HB.out W1 HI.out).cells
      have hge : ¬ (N : Int) < N := by omega
      go_wp2_with fail
      clear x0 x1 x2 x3 xl
      go_loopw [10] (fun v W => v = .int .i64 N ∧ Hid (Below w.heap.size w W)) (fun _ _ => 0)
      case atStart => exact ⟨rfl, HI⟩
      case round =>
        obtain ⟨rfl, HI⟩ := hrel
        obtain ⟨W2, rfl⟩ : ∃ V, V = wr := ⟨_, rfl⟩
        obtain ⟨x0, x1, x2, x3, _, xl⟩ := (HB.out W2 HI.out).cells
        have hge2 : ¬ (N : Int) < N := by omega
        go_wp2_with fail
        exact bodyPost_end (results_none rfl _ _ _) rfl ⟨rfl, HI.out⟩
/-- a term more in a book, or none, where it is full -/
theorem take13_any (t : Tm) (r : Rt) (ga : Nat) (w : World) (B pb : Nat) (P : Nat → Prop) (hga : w.heap[ga]? = some (.cells #[.int .i64 t.kind, .string t.text, .int .i64 t.n, .slice r.s.p r.s.n r.s.c, .slice r.a.p r.a.n r.a.c, .slice r.k.p r.k.n r.k.c] TTm (0, 0)))
    (ho : OwnT w B t r) (hnd : (blksT r).Nodup) (hwf : WfT t) (hP : ∀ x ∈ blksT r, ¬ P x) (hB : B ≤ w.heap.size) (hg : cnt t ≤ 4096) (hbk : BkF w B pb P) :
    Calls Tryz.prog 11 #[.pointer (some ⟨pb, 0, none⟩), .slice (some ⟨ga, 0, none⟩) 1 1] w fun e w' => e = .returned (.tuple #[]) ∧ OnlyP (fun x => P x ∨ x ∈ blksT r) w w' ∧ BkF w' B pb (fun x => P x ∨ x ∈ blksT r ∨ (w.heap.size ≤ x ∧ x < w'.heap.size)) := by
  obtain ⟨z, S, A, K, h1, h2, h3, h4, h5⟩ := hbk
  by_cases hz : z < 33554432
  · exact take13_less t r ga w B pb P hga ho hnd hwf hP hB hg (wt_fit ho hwf hg) ⟨z, S, A, K, h1, h2, h3, h4, hz⟩
  · refine (take13_full ga w B pb P z S A K h1 h2 h3 hz h4 h5).mono ?_
    rintro e w' ⟨rfl, hb⟩
    exact ⟨rfl, ⟨hb.os, hb.tape, hb.output, hb.size, fun k hk _ => hb.block k hk⟩, BkF.inP (BkF.below (P := P) ⟨z, S, A, K, h1, h2, h3, h4, h5⟩ fun x _ hx => hb.block x hx) fun x hx _ => .inl hx⟩
end Go.Proofs.YtkdejffhdhcocaaGreat
