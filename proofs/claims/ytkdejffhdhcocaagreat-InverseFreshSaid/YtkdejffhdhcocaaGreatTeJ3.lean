/- How much a term's lists take in a book's count; abacuslaw13.(*Book).Whole, Take. Condition: sizes within reach. · abacuslaw13.(*Shelf).Ends: the terms of a shelf are what they were; then all are written full. Condition: sizes within reach. · What the Fresh laws of terms know between their calls: a book, a shelf, copies in boxes. Plain laws. No condition. · Marks, books and shelves while some blocks turn. Plain laws. No condition. -/
import Derived.Test.YtkdejffhdhcocaaGreatTeJ2
import Derived.Test.YtkdejffhdhcocaaGreatTeBx
import Derived.Test.YtkdejffhdhcocaaGreatTeD3
import Derived.Test.YtkdejffhdhcocaaGreatTeJ5
import Derived.StillTailTactics
import Derived.Test.YtkdejffhdhcocaaGreatTeKp
import Derived.Test.YtkdejffhdhcocaaGreatTeNt
import Derived.Test.YtkdejffhdhcocaaGreatTeMa
namespace Go.Proofs.YtkdejffhdhcocaaGreat
open Go.RowKit

theorem nodes_own {w : World} {B : Nat} : ∀ (N : Nat) {t : Tm} {r : Rt}, cnt t ≤ N → OwnT w B t r → WfT t → ∀ q ∈ nodes r, ∃ t', OwnT w B t' q ∧ WfT t' := by
  intro N
  induction N with
  | zero => intro t r h; cases t; simp [cnt] at h
  | succ N ih =>
    intro t r hN ho hwf q hq
    rw [nodes_eq] at hq
    rcases List.mem_cons.1 hq with rfl | hq
    · exact ⟨t, ho, hwf⟩
    · obtain ⟨_, _, _, hl, hk⟩ := ho.parts
      have : ∀ (rs : List Rt) (ts : List Tm), OwnL w B ts rs → (∀ t' ∈ ts, cnt t' ≤ N ∧ WfT t') → q ∈ nodesL rs → ∃ t', OwnT w B t' q ∧ WfT t' := by
        intro rs
        induction rs with
        | nil => intro ts _ _ h; simp only [nodesL] at h; cases h
        | cons r' rs ihr =>
          intro ts ho' hts h
          cases ts with
          | nil => simp only [OwnL] at ho'
          | cons t' ts =>
            simp only [OwnL] at ho'
            simp only [nodesL, List.mem_append] at h
            rcases h with h | h
            · exact ih (hts t' List.mem_cons_self).1 ho'.1 (hts t' List.mem_cons_self).2 q h
            · exact ihr ts ho'.2 (fun x hx => hts x (List.mem_cons_of_mem _ hx)) h
      refine this r.kids t.kids hk (fun x hx => ?_) hq
      obtain ⟨i, hi⟩ := List.getElem?_of_mem hx
      exact ⟨by have := cnt_kid hi; omega, hwf.node.each x hx⟩
theorem roomOf_far (n c : Nat) : roomOf n c ≤ n + 70000 := by unfold roomOf; split <;> omega
theorem wt_len : ∀ (l : List Rt) (M : Nat), (∀ q ∈ l, wtN q ≤ M) → wt l ≤ l.length * M
  | [], M, _ => by simp [wt]
  | q :: l, M, h => by
    have h1 := h q List.mem_cons_self
    have h2 := wt_len l M fun x hx => h x (List.mem_cons_of_mem _ hx)
    rw [wt_cons, List.length_cons, Nat.add_mul, Nat.one_mul]
    omega
theorem wt_fit {w : World} {B : Nat} {t : Tm} {r : Rt} (ho : OwnT w B t r) (hwf : WfT t) (hg : cnt t ≤ 4096) : wt (nodes r) ≤ 4611826755915743232 := by
  have h1 : wt (nodes r) ≤ (nodes r).length * 443865000000000 := wt_len _ _ fun q hq => by
    obtain ⟨t', ho', hw'⟩ := nodes_own (cnt t) (Nat.le_refl _) ho hwf q hq
    obtain ⟨_, e1, e2, e3⟩ := ho'.read
    have a1 := hw'.node.sh8
    have a2 := hw'.node.at8
    have a3 := hw'.node.kids104
    rw [← e1] at a1
    rw [← e2] at a2
    rw [← e3] at a3
    have b1 := roomOf_far q.s.n q.s.c
    have b2 := roomOf_far q.a.n q.a.c
    have b3 := roomOf_far q.k.n q.k.c
    unfold wtN
    omega
  rw [nodes_cnt ho] at h1
  have h2 : cnt t * 443865000000000 ≤ 4096 * 443865000000000 := Nat.mul_le_mul_right _ hg
  omega

/-- the cells of an element that holds its mark -/
theorem ZwAt.here {t : TypeId} {z : Nat} {w : World} {B k : Nat} {r : Bw} {cs : List Value} (hr : ZwAt t z w B r) (hm : MkZ w r z r.n cs) (hk : k < r.n) : ∃ b, r.g = Option.some b ∧ b < w.heap.size ∧ r.adr = Option.some ⟨b, 0, none⟩ ∧ ∀ o u, cs[o]? = Option.some u → w.cell? ⟨b, k * z + o, none⟩ = Option.some u := by
  obtain ⟨b, hb⟩ := hr.some (Nat.lt_of_lt_of_le hk hr.le)
  exact ⟨b, hb, hr.lt hb, Bw.adr_some hb, fun o u hu => hm b hb k o u hk hu⟩
set_option maxRecDepth 100000 in
set_option maxHeartbeats 16000000 in
theorem whole13_any (w : World) (B pb : Nat) (P : Nat → Prop) (h : BkF w B pb P) : Calls Tryz.prog 15 #[.pointer (some ⟨pb, 0, none⟩)] w fun e w' => e = .returned (.bool true) ∧ Below w.heap.size w w' := by
  obtain ⟨z, S, A, K, hbk, hla, hlk, hz1, hz2⟩ := h
  obtain ⟨N, hN⟩ : ∃ N, N = S.length := ⟨_, rfl⟩
  rw [← hN] at hbk hla hlk hz1
  obtain ⟨As, cs, Aa, ca, Ak, ck, hb⟩ := hbk.open4 hN.symm hla hlk
  have hN2 : N ≤ 3843188963291081 := by omega
  have HB : Hid (∀ W, Below w.heap.size w W → Bk4 w W B pb P As cs Aa ca Ak ck z N S A K N N N) := Lib.hid fun W hW => hb.below hW
  have HL := Lib.hid (And.intro hN (And.intro hla hlk))
  have HR : Hid ((∀ r ∈ S, r.n ≤ maxLen) ∧ (∀ r ∈ A, r.n ≤ maxLen) ∧ (∀ r ∈ K, r.n ≤ maxLen)) := Lib.hid ⟨fun r hr => Nat.le_trans (hb.ls.row r hr).le (hb.ls.row r hr).max, fun r hr => Nat.le_trans (hb.la.row r hr).le (hb.la.row r hr).max, fun r hr => Nat.le_trans (hb.lk.row r hr).le (hb.lk.row r hr).max⟩
  clear hbk hb hN hla hlk hz1 hz2
  go_enter Tryz.func15, Tryz.ntmps15
  go_wp2_with fail
  go_loopw [3] (fun v W => ∃ k : Nat, k ≤ N ∧ v = .int .i64 k ∧ Hid (Below w.heap.size w W)) (fun v _ => N - (intOf v).toNat)
  case atStart => exact ⟨0, Nat.zero_le _, rfl, Lib.hid (Below.refl _ _)⟩
  case round =>
    obtain ⟨k, hk, rfl, HI⟩ := hrel
    obtain ⟨W0, rfl⟩ : ∃ V, V = wr := ⟨_, rfl⟩
    obtain ⟨x0, x1, x2, _, _, hpl⟩ := (HB.out W0 HI.out).cells
    by_cases hlt : k < N
    · obtain ⟨rs, hrs⟩ : ∃ rs, S[k]? = some rs := ⟨_, List.getElem?_eq_getElem (by have := HL.out; omega)⟩
      obtain ⟨ra, hra⟩ : ∃ ra, A[k]? = some ra := ⟨_, List.getElem?_eq_getElem (by have := HL.out; omega)⟩
      obtain ⟨rk, hrk⟩ : ∃ rk, K[k]? = some rk := ⟨_, List.getElem?_eq_getElem (by have := HL.out; omega)⟩
      obtain ⟨gs, rfl⟩ := (HB.out W0 HI.out).ls.head hrs
      obtain ⟨gl, rfl⟩ := (HB.out W0 HI.out).la.head hra
      obtain ⟨gk, rfl⟩ := (HB.out W0 HI.out).lk.head hrk
      have hm1 := HR.out.1 rs (List.mem_of_getElem? hrs)
      have hm2 := HR.out.2.1 ra (List.mem_of_getElem? hra)
      have hm3 := HR.out.2.2 rk (List.mem_of_getElem? hrk)
      have hw1 : IntKind.i64.wrap (1099511627776 + (k : Int)) = 1099511627776 + (k : Int) := by rw [IntKind.wrap_i64]; omega
      have hw2 : IntKind.i64.wrap (-2199023255552 - (k : Int)) = -2199023255552 - (k : Int) := by rw [IntKind.wrap_i64]; omega
      have hw3 : IntKind.i64.wrap (4398046511104 + (k : Int)) = 4398046511104 + (k : Int) := by rw [IntKind.wrap_i64]; omega
      unfold maxLen at hm1 hm2 hm3
      have HRS := Lib.hid hrs
      have HRA := Lib.hid hra
      have HRK := Lib.hid hrk
      have HK := Lib.hid hlt
      clear hrs hra hrk
      go_wp2_with fail
      clear x0 x1 x2 hpl
      go_loopw [4] (fun v W => ∃ i : Nat, i ≤ rs.n ∧ v = .int .i64 i ∧ Hid (Below w.heap.size w W)) (fun v _ => rs.n - (intOf v).toNat)
      case atStart => exact ⟨0, Nat.zero_le _, rfl, HI⟩
      case round =>
        obtain ⟨i, hi, rfl, HI⟩ := hrel
        obtain ⟨W1, rfl⟩ : ∃ V, V = wr := ⟨_, rfl⟩
        obtain ⟨x0, _, _, _, _, hpl⟩ := (HB.out W1 HI.out).cells
        obtain ⟨kq, _, hgl⟩ := (HB.out W1 HI.out).ls.at_ HRS.out
        simp only [Bw.val] at kq
        by_cases hlt2 : i < rs.n
        · obtain ⟨b, hb, hbl, hba, hc⟩ := ((HB.out W1 HI.out).ls.row rs (List.mem_of_getElem? HRS.out)).here ((HB.out W1 HI.out).ls.mks k rs HRS.out HK.out) hlt2
          have c0 := hc 0 _ rfl
          rw [Nat.mul_one, Nat.add_zero] at c0
          rw [hba] at kq
          clear hb hba hc
          go_wp2_with fail
          exact ⟨⟨i + 1, by omega, by go_num, HI⟩, by simp [intOf]; omega⟩
        · obtain rfl : i = rs.n := by omega
          have hge : ¬ (rs.n : Int) < rs.n := by omega
          clear hlt2
          go_wp2_with fail
          clear x0 kq hgl hpl
          go_loopw [5] (fun v W => ∃ i : Nat, i ≤ ra.n ∧ v = .int .i64 i ∧ Hid (Below w.heap.size w W)) (fun v _ => ra.n - (intOf v).toNat)
          case atStart => exact ⟨0, Nat.zero_le _, rfl, HI⟩
          case round =>
            obtain ⟨i, hi, rfl, HI⟩ := hrel
            obtain ⟨W2, rfl⟩ : ∃ V, V = wr := ⟨_, rfl⟩
            obtain ⟨_, x1, _, _, _, hpl⟩ := (HB.out W2 HI.out).cells
            obtain ⟨kq, _, hgl⟩ := (HB.out W2 HI.out).la.at_ HRA.out
            simp only [Bw.val] at kq
            by_cases hlt2 : i < ra.n
            · obtain ⟨b, hb, hbl, hba, hc⟩ := ((HB.out W2 HI.out).la.row ra (List.mem_of_getElem? HRA.out)).here ((HB.out W2 HI.out).la.mks k ra HRA.out HK.out) hlt2
              have c0 := hc 0 _ rfl
              rw [Nat.mul_one, Nat.add_zero] at c0
              rw [hba] at kq
              clear hb hba hc
              go_wp2_with fail
              exact ⟨⟨i + 1, by omega, by go_num, HI⟩, by simp [intOf]; omega⟩
            · obtain rfl : i = ra.n := by omega
              have hge : ¬ (ra.n : Int) < ra.n := by omega
              clear hlt2
              go_wp2_with fail
              clear x1 kq hgl hpl
              go_loopw [6] (fun v W => ∃ i : Nat, i ≤ rk.n ∧ v = .int .i64 i ∧ Hid (Below w.heap.size w W)) (fun v _ => rk.n - (intOf v).toNat)
              case atStart => exact ⟨0, Nat.zero_le _, rfl, HI⟩
              case round =>
                obtain ⟨i, hi, rfl, HI⟩ := hrel
                obtain ⟨W3, rfl⟩ : ∃ V, V = wr := ⟨_, rfl⟩
                obtain ⟨_, _, x2, _, _, hpl⟩ := (HB.out W3 HI.out).cells
                obtain ⟨kq, _, hgl⟩ := (HB.out W3 HI.out).lk.at_ HRK.out
                simp only [Bw.val] at kq
                by_cases hlt2 : i < rk.n
                · obtain ⟨b, hb, hbl, hba, hc⟩ := ((HB.out W3 HI.out).lk.row rk (List.mem_of_getElem? HRK.out)).here ((HB.out W3 HI.out).lk.mks k rk HRK.out HK.out) hlt2
                  have c0 := hc 0 _ rfl
                  have c1 := hc 1 _ rfl
                  have c2 := hc 2 _ rfl
                  have c3 := hc 3 _ rfl
                  have c4 := hc 4 _ rfl
                  have c5 := hc 5 _ rfl
                  rw [Nat.add_zero] at c0
                  rw [hba] at kq
                  have HNB : Hid (∀ o, Below w.heap.size w (W3.alloc o)) := Lib.hid fun o => HI.out.alloc HI.out.size _
                  clear hb hba hc
                  go_wp2_with fail
                  exact ⟨⟨i + 1, by omega, by go_num, Lib.hid (HNB.out _)⟩, by simp [intOf]; omega⟩
                · obtain rfl : i = rk.n := by omega
                  have hge : ¬ (rk.n : Int) < rk.n := by omega
                  clear hlt2
                  go_wp2_with fail
                  exact ⟨⟨k + 1, by omega, by go_num, HI⟩, by simp [intOf]; omega⟩
    · obtain rfl : k = N := by omega
      clear hlt
      go_wp2_with fail
      go_ret
      exact ⟨rfl, HI.out⟩
theorem BkF.below {w w' : World} {B pb : Nat} {P : Nat → Prop} (h : BkF w B pb P) (hk : ∀ x, P x → x < w.heap.size → w'.heap[x]? = w.heap[x]?) : BkF w' B pb P := by
  obtain ⟨z, S, A, K, ⟨sv, av, kv, h⟩, hla, hlk, hz1, hz2⟩ := h
  exact ⟨z, S, A, K, ⟨sv, av, kv, (hk pb h.pp (heap_lt h.bk)).trans h.bk, h.pp, h.bb, h.ls.kept hk, h.la.kept hk, h.lk.kept hk, OnlyP.refl _ _⟩, hla, hlk, hz1, hz2⟩
theorem BkF.inP {w : World} {B pb : Nat} {P P' : Nat → Prop} (h : BkF w B pb P) (hP : ∀ x, P x → x < w.heap.size → P' x) : BkF w B pb P' := by
  obtain ⟨z, S, A, K, ⟨sv, av, kv, h⟩, hla, hlk, hz1, hz2⟩ := h
  exact ⟨z, S, A, K, ⟨sv, av, kv, h.bk, hP pb h.pp (heap_lt h.bk), h.bb, h.ls.inP hP, h.la.inP hP, h.lk.inP hP, OnlyP.refl _ _⟩, hla, hlk, hz1, hz2⟩
/-- a new book -/
theorem BkF.new {w : World} {B pb : Nat} {P : Nat → Prop} (h : w.heap[pb]? = some (.cells #[.slice none 0 0, .slice none 0 0, .slice none 0 0, .int .i64 0] TB3 (0, 0))) (hp : P pb) (hB : B ≤ pb) : BkF w B pb P := by
  have e : ∀ (t ts : TypeId) (z : Nat) (mk : Nat → List Value), LsAt w B P t ts z mk (.slice none 0 0) [] 0 := fun t ts z mk =>
    ⟨World.ownsRow_nil _ _ _ _, fun r hr => (by cases hr), List.Pairwise.nil, fun k hk => (by cases hk), fun r hr => (by cases hr), fun q r hq => (by simp at hq)⟩
  exact ⟨0, [], [], [], ⟨_, _, _, h, hp, hB, e _ _ _ _, e _ _ _ _, e _ _ _ _, OnlyP.refl _ _⟩, rfl, rfl, by simp, by omega⟩
set_option maxRecDepth 100000 in
set_option maxHeartbeats 16000000 in
theorem take13_full (ga : Nat) (w : World) (B pb : Nat) (P : Nat → Prop) (z : Int) (S A K : List Bw) (hbk : BkE w w B pb P z S A K S.length S.length S.length) (hla : A.length = S.length) (hlk : K.length = S.length) (hz : ¬ z < 33554432) (hz1 : (1200 * S.length : Int) ≤ z) (hz2 : z ≤ 4611826755949297664) :
    Calls Tryz.prog 11 #[.pointer (some ⟨pb, 0, none⟩), .slice (some ⟨ga, 0, none⟩) 1 1] w fun e w' => e = .returned (.tuple #[]) ∧ Below w.heap.size w w' := by
  obtain ⟨N, hN⟩ : ∃ N, N = S.length := ⟨_, rfl⟩
  rw [← hN] at hbk hla hlk hz1
  obtain ⟨As, cs, Aa, ca, Ak, ck, hb⟩ := hbk.open4 hN.symm hla hlk
  have hN2 : N ≤ 3843188963291081 := by omega
  have HB : Hid (∀ W, Below w.heap.size w W → Bk4 w W B pb P As cs Aa ca Ak ck z N S A K N N N) := Lib.hid fun W hW => hb.below hW
  obtain ⟨x0, x1, x2, x3, _, xl⟩ := hb.cells
  clear hbk hb hN hla hlk hz1 hz2
  go_enter Tryz.func11, Tryz.ntmps11
  go_wp2_with fail
  clear x0 x1 x2 x3 xl
  go_loopw [5] (fun v W => v = .int .i64 0 ∧ Hid (Below w.heap.size w W)) (fun _ _ => 0)
  case atStart => exact ⟨rfl, Lib.hid (Below.refl _ _)⟩
  case round =>
    obtain ⟨rfl, HI⟩ := hrel
    obtain ⟨W0, rfl⟩ : ∃ V, V = wr := ⟨_, rfl⟩
    obtain ⟨x0, x1, x2, x3, _, xl⟩ := (HB.out W0 HI.out).cells
    go_wp2_with fail
    clear x0 x1 x2 x3 xl
    go_loopw [6] (fun v W => v = .int .i64 N ∧ Hid (Below w.heap.size w W)) (fun _ _ => 0)
    case atStart => exact ⟨rfl, HI⟩
    case round =>
      obtain ⟨rfl, HI⟩ := hrel
      obtain ⟨W1, rfl⟩ : ∃ V, V = wr := ⟨_, rfl⟩
      obtain ⟨x0, x1, x2, x3, _, xl⟩ := (HB.out W1 HI.out).cells
      have hge : ¬ (N : Int) < N := by omega
      go_wp2_with fail
      clear x0 x1 x2 x3 xl
      go_loopw [10] (fun v W => v = .int .i64 N ∧ Hid (Below w.heap.size w W)) (fun _ _ => 0)
      case atStart => exact ⟨rfl, HI⟩
      case round =>
        obtain ⟨rfl, HI⟩ := hrel
        obtain ⟨W2, rfl⟩ : ∃ V, V = wr := ⟨_, rfl⟩
        obtain ⟨x0, x1, x2, x3, _, xl⟩ := (HB.out W2 HI.out).cells
        have hge2 : ¬ (N : Int) < N := by omega
        go_wp2_with fail
        exact bodyPost_end (results_none rfl _ _ _) rfl ⟨rfl, HI.out⟩
/-- a term more in a book, or none, where it is full -/
theorem take13_any (t : Tm) (r : Rt) (ga : Nat) (w : World) (B pb : Nat) (P : Nat → Prop) (hga : w.heap[ga]? = some (.cells #[.int .i64 t.kind, .string t.text, .int .i64 t.n, .slice r.s.p r.s.n r.s.c, .slice r.a.p r.a.n r.a.c, .slice r.k.p r.k.n r.k.c] TTm (0, 0)))
    (ho : OwnT w B t r) (hnd : (blksT r).Nodup) (hwf : WfT t) (hP : ∀ x ∈ blksT r, ¬ P x) (hB : B ≤ w.heap.size) (hg : cnt t ≤ 4096) (hbk : BkF w B pb P) :
    Calls Tryz.prog 11 #[.pointer (some ⟨pb, 0, none⟩), .slice (some ⟨ga, 0, none⟩) 1 1] w fun e w' => e = .returned (.tuple #[]) ∧ OnlyP (fun x => P x ∨ x ∈ blksT r) w w' ∧ BkF w' B pb (fun x => P x ∨ x ∈ blksT r ∨ (w.heap.size ≤ x ∧ x < w'.heap.size)) := by
  obtain ⟨z, S, A, K, h1, h2, h3, h4, h5⟩ := hbk
  by_cases hz : z < 33554432
  · exact take13_less t r ga w B pb P hga ho hnd hwf hP hB hg (wt_fit ho hwf hg) ⟨z, S, A, K, h1, h2, h3, h4, hz⟩
  · refine (take13_full ga w B pb P z S A K h1 h2 h3 hz h4 h5).mono ?_
    rintro e w' ⟨rfl, hb⟩
    exact ⟨rfl, ⟨hb.os, hb.tape, hb.output, hb.size, fun k hk _ => hb.block k hk⟩, BkF.inP (BkF.below (P := P) ⟨z, S, A, K, h1, h2, h3, h4, h5⟩ fun x _ hx => hb.block x hx) fun x hx _ => .inl hx⟩
end Go.Proofs.YtkdejffhdhcocaaGreat

namespace Go.Proofs.YtkdejffhdhcocaaGreat
open Go.RowKit

theorem only_then {p q : Nat → Prop} {a b c : World} (h : OnlyP p a b) (k : OnlyP q b c) (hq : ∀ j, j < a.heap.size → q j → p j) : OnlyP p a c :=
  ⟨k.os.trans h.os, k.tape.trans h.tape, k.output.trans h.output, Nat.le_trans h.size k.size, fun j hj hn => (k.block j (Nat.lt_of_lt_of_le hj h.size) fun e => hn (hq j hj e)).trans (h.block j hj hn)⟩
theorem only_below {p : Nat → Prop} {a b : World} (h : Below a.heap.size a b) : OnlyP p a b := (OnlyP.refl _ _).below h
theorem blksL_take {rs : List Rt} {i : Nat} {q : Rt} (h : rs[i]? = some q) : blksL (rs.take (i + 1)) = blksL (rs.take i) ++ blksT q := by
  obtain ⟨hl, rfl⟩ := List.getElem?_eq_some_iff.1 h
  rw [← List.take_append_getElem hl, blksL_app]
  simp only [blksL, List.append_nil]
theorem blksL_mem {rs : List Rt} {i : Nat} {q : Rt} (h : rs[i]? = some q) {x : Nat} (hx : x ∈ blksT q) : x ∈ blksL rs := by
  rw [blksL_split rs i, blksL_drop h]
  exact List.mem_append_right _ (List.mem_append_left _ hx)
/-- a shelf's pair at hand, while some of its terms have been written over -/
def PairF (w : World) (B gA gU i : Nat) (L : List Nat) (kd : Tm) (r u : Rt) : Prop := ∀ W, OnlyP (fun x => x ∈ L) w W →
  (W.cell? ⟨gA, i * 6, none⟩ = some (.int .i64 kd.kind) ∧ W.cell? ⟨gA, i * 6 + 1, none⟩ = some (.string kd.text) ∧ W.cell? ⟨gA, i * 6 + 2, none⟩ = some (.int .i64 kd.n) ∧ W.cell? ⟨gA, i * 6 + 3, none⟩ = some (.slice r.s.p r.s.n r.s.c) ∧ W.cell? ⟨gA, i * 6 + 4, none⟩ = some (.slice r.a.p r.a.n r.a.c) ∧ W.cell? ⟨gA, i * 6 + 5, none⟩ = some (.slice r.k.p r.k.n r.k.c) ∧ gA < W.heap.size) ∧
  (W.cell? ⟨gU, i * 6, none⟩ = some (.int .i64 kd.kind) ∧ W.cell? ⟨gU, i * 6 + 1, none⟩ = some (.string kd.text) ∧ W.cell? ⟨gU, i * 6 + 2, none⟩ = some (.int .i64 kd.n) ∧ W.cell? ⟨gU, i * 6 + 3, none⟩ = some (.slice u.s.p u.s.n u.s.c) ∧ W.cell? ⟨gU, i * 6 + 4, none⟩ = some (.slice u.a.p u.a.n u.a.c) ∧ W.cell? ⟨gU, i * 6 + 5, none⟩ = some (.slice u.k.p u.k.n u.k.c) ∧ gU < W.heap.size) ∧
  OwnT W B kd r ∧ OwnT W B kd u
theorem ShE.pair {w : World} {B ps cA cU : Nat} {Q : Nat → Prop} {ts : List Tm} {rs us : List Rt} {AA AU : Option Addr} {n : Int} (h : ShE w B ps Q ts ts rs us (.slice AA ts.length cA) (.slice AU ts.length cU) n) {i : Nat} {kd : Tm} (hkd : ts[i]? = some kd) :
    ∃ r u gA gU, rs[i]? = some r ∧ us[i]? = some u ∧ AA = some ⟨gA, 0, none⟩ ∧ AU = some ⟨gU, 0, none⟩ ∧ PairF w B gA gU i (blksL (rs.take i)) kd r u ∧ (blksT r).Nodup ∧ (∀ x ∈ blksT r, x < w.heap.size ∧ x ∉ blksL (rs.take i)) := by
  have hlt := (List.getElem?_eq_some_iff.1 hkd).1
  obtain ⟨r, hr, hor⟩ := h.la.get hkd
  obtain ⟨u, hu, hou⟩ := h.lu.get hkd
  obtain ⟨gA, rfl, _, _⟩ := own_cell h.ra (rtCells_get (q := 0) hkd hr rfl) (by omega)
  obtain ⟨gU, rfl, _, _⟩ := own_cell h.ru (rtCells_get (q := 0) hkd hu rfl) (by omega)
  obtain ⟨cu1, hc1⟩ := row_type' h.ra gA rfl
  obtain ⟨cu2, hc2⟩ := row_type' h.ru gU rfl
  have hsub : ∀ x, x ∈ blksL (rs.take i) → x ∈ blksL rs := fun x hx => by rw [blksL_split rs i]; exact List.mem_append_left _ hx
  obtain ⟨n1, _, n3⟩ := List.nodup_append.1 h.nd
  rw [blksL_split rs i, blksL_drop hr] at n1
  obtain ⟨_, n4, n5⟩ := List.nodup_append.1 n1
  have hx : ∀ x ∈ blksT r, x < w.heap.size ∧ x ∉ blksL (rs.take i) := fun x hx => ⟨(hor.blk x hx).2, fun e => n5 x e x (List.mem_append_left _ hx) rfl⟩
  refine ⟨r, u, gA, gU, hr, hu, rfl, rfl, fun W hW => ?_, (List.nodup_append.1 n4).1, hx⟩
  have kA : W.heap[gA]? = w.heap[gA]? := hW.block gA (heap_lt hc1) fun e => (h.aa gA rfl).1 (hsub _ e)
  have kU : W.heap[gU]? = w.heap[gU]? := hW.block gU (heap_lt hc2) fun e => (h.au gU rfl).1 (hsub _ e)
  have cA : ∀ o v, (rtCells kd r)[o]? = some v → W.cell? ⟨gA, i * 6 + o, none⟩ = some v := fun o v hv => by
    obtain ⟨g, e, _, h2⟩ := own_cell h.ra (rtCells_get hkd hr hv) (by omega)
    simp only [Option.some.injEq, Addr.mk.injEq, and_true] at e
    subst e
    exact (World.cell?_of_block (a := ⟨gA, i * 6 + o, none⟩) kA).trans h2
  have cU : ∀ o v, (rtCells kd u)[o]? = some v → W.cell? ⟨gU, i * 6 + o, none⟩ = some v := fun o v hv => by
    obtain ⟨g, e, _, h2⟩ := own_cell h.ru (rtCells_get hkd hu hv) (by omega)
    simp only [Option.some.injEq, Addr.mk.injEq, and_true] at e
    subst e
    exact (World.cell?_of_block (a := ⟨gU, i * 6 + o, none⟩) kU).trans h2
  exact ⟨⟨cA 0 _ rfl, cA 1 _ rfl, cA 2 _ rfl, cA 3 _ rfl, cA 4 _ rfl, cA 5 _ rfl, Nat.lt_of_lt_of_le (heap_lt hc1) hW.size⟩, ⟨cU 0 _ rfl, cU 1 _ rfl, cU 2 _ rfl, cU 3 _ rfl, cU 4 _ rfl, cU 5 _ rfl, Nat.lt_of_lt_of_le (heap_lt hc2) hW.size⟩,
    hor.kept fun g hg => hW.block g (hor.blk g hg).2 (hx g hg).2, hou.kept fun g hg => hW.block g (hou.blk g hg).2 fun e => n3 g (hsub g e) g (blksL_mem hu hg) rfl⟩

set_option maxRecDepth 100000 in
set_option maxHeartbeats 32000000 in
theorem ends13_any (w : World) (B ps : Nat) (Q : Nat → Prop) (hB : B ≤ w.heap.size) (hs : ShX w B ps Q) :
    Calls Tryz.prog 14 #[.pointer (some ⟨ps, 0, none⟩)] w fun e w' => e = .returned (.bool true) ∧ OnlyP Q w w' := by
  obtain ⟨ts, rs, us, va, vu, n, hs, hs1, hs2⟩ := hs
  obtain ⟨m, hm⟩ : ∃ m, m = ts.length := ⟨_, rfl⟩
  have hm2 : m ≤ 36864 := by omega
  obtain ⟨AA, cA, rfl, _, _⟩ := own_form hs.ra
  obtain ⟨AU, cU, rfl, _, _⟩ := own_form hs.ru
  have HPR : Hid (∀ (i : Nat) (kd : Tm), ts[i]? = some kd → ∃ r u gA gU, rs[i]? = some r ∧ us[i]? = some u ∧ AA = some ⟨gA, 0, none⟩ ∧ AU = some ⟨gU, 0, none⟩ ∧ PairF w B gA gU i (blksL (rs.take i)) kd r u ∧ (blksT r).Nodup ∧ (∀ x ∈ blksT r, x < w.heap.size ∧ x ∉ blksL (rs.take i))) := Lib.hid fun i kd hkd => hs.pair hkd
  have HPS : Hid (∀ (i : Nat) W, OnlyP (fun x => x ∈ blksL (rs.take i)) w W → W.cell? ⟨ps, 0, none⟩ = some (.slice AA m cA) ∧ W.cell? ⟨ps, 1, none⟩ = some (.slice AU m cU) ∧ ps < W.heap.size) := Lib.hid fun i W h => by
    have hh := (h.block ps (heap_lt hs.sh) fun e => hs.apart.2.2.1 (by rw [blksL_split rs i]; exact List.mem_append_left _ e)).trans hs.sh
    rw [← hm] at hh
    exact ⟨cell_at hh rfl, cell_at hh rfl, heap_lt hh⟩
  have HQ : Hid (∀ (i : Nat) x, x ∈ blksL (rs.take i) → Q x) := Lib.hid fun i x hx => hs.qra x (by rw [blksL_split rs i]; exact List.mem_append_left _ hx)
  have HFI := Lib.hid hs.fit
  have HM := Lib.hid hm
  have HBB := Lib.hid hB
  clear hs hs1 hs2 hm hB
  go_enter Tryz.func14, Tryz.ntmps14
  go_wp2_with fail
  go_loopw [3] (fun v W => ∃ i : Nat, i ≤ m ∧ v = .int .i64 i ∧ Hid (Below w.heap.size w W)) (fun v _ => m - (intOf v).toNat)
  case atStart => exact ⟨0, Nat.zero_le _, rfl, Lib.hid (Below.refl _ _)⟩
  case round =>
    obtain ⟨i, hi, rfl, HI⟩ := hrel
    obtain ⟨W0, rfl⟩ : ∃ V, V = wr := ⟨_, rfl⟩
    obtain ⟨x0, x1, xl⟩ := HPS.out i W0 (only_below HI.out)
    by_cases hlt : i < m
    · obtain ⟨kd, hkd⟩ : ∃ kd, ts[i]? = some kd := ⟨_, List.getElem?_eq_getElem (by rw [← HM.out]; exact hlt)⟩
      obtain ⟨r, u, gA, gU, _, _, rfl, rfl, hpf, _, _⟩ := HPR.out i kd hkd
      have HF := Lib.hid hpf
      have HFT := Lib.hid (HFI.out kd (List.mem_of_getElem? hkd))
      obtain ⟨⟨c0, c1, c2, c3, c4, c5, cl⟩, ⟨d0, d1, d2, d3, d4, d5, dl⟩, _, _⟩ := HF.out W0 (only_below HI.out)
      have HEQ : Hid (Calls Tryz.prog 13 #[rtVal kd r, rtVal kd u] W0.drew fun e w' => e = .returned (.bool true) ∧ Below W0.drew.heap.size W0.drew w') := Lib.hid (by
        obtain ⟨_, _, h1, h2⟩ := HF.out W0.drew (only_below (HI.out.then_ (Below.refl _ _).drew))
        rw [own_val h1, own_val h2]
        exact eq_any kd _ _ _ _ _ _ _ _ _ _ _ _ _ h1.read.1 h2.read.1 HFT.out.1 HFT.out.2)
      have b1 : (0 : Int) ≤ (i : Int) := by omega
      have b2 : (i : Int) < (m : Int) := by omega
      clear hkd hpf
      unfold rtVal at HEQ
      go_upto_region 4 with fail
      go_still_tail 14, (by kernel_rfl)
      change wpList _ _ _ _ _ W0.drew
      go_wp2_with fail
      refine HEQ.out.mono ?_
      rintro e w2 ⟨rfl, hb2⟩
      have H2 := Lib.hid ((HI.out.then_ (Below.refl _ _).drew).then_ hb2)
      clear hb2 c0 c1 c2 c3 c4 c5 cl d0 d1 d2 d3 d4 d5 dl x0 x1 xl
      go_wp2_with fail
      exact ⟨⟨i + 1, by omega, by go_num, H2⟩, by simp [intOf]; omega⟩
    · obtain rfl : i = m := by omega
      have hge : ¬ (i : Int) < i := by omega
      clear hlt
      go_upto_region 7 with fail
      obtain ⟨W1, hW1⟩ : ∃ V, V = W0.alloc (.cells #[.slice none 0 0, .slice none 0 0, .slice none 0 0, .int .i64 0] TB3) := ⟨_, rfl⟩
      have hb1 : Below W0.heap.size W0 W1 := by rw [hW1]; exact (Below.refl _ _).alloc (Nat.le_refl _) _
      have hs1 : W1.heap.size = W0.heap.size + 1 := by rw [hW1]; simp
      have HB1 : Hid (BkF W1 B W0.heap.size (fun x => x ∈ blksL (rs.take 0) ∨ (w.heap.size ≤ x ∧ x < W1.heap.size))) := Lib.hid (BkF.new (by rw [hW1]; exact heap_alloc_new W0 _) (.inr ⟨HI.out.size, by omega⟩) (Nat.le_trans HBB.out HI.out.size))
      have H1 := Lib.hid (HI.out.then_ hb1)
      rw [← hW1]
      obtain ⟨pb, hpb⟩ : ∃ pb, pb = W0.heap.size := ⟨_, rfl⟩
      rw [← hpb] at HB1 ⊢
      clear hW1 hb1 hs1 hpb HI x0 x1 xl
      go_wp2_with fail
      go_loopw [5] (fun v W => ∃ k : Nat, k ≤ i ∧ v = .int .i64 k ∧ Hid (OnlyP (fun x => x ∈ blksL (rs.take k)) w W) ∧ Hid (BkF W B pb (fun x => x ∈ blksL (rs.take k) ∨ (w.heap.size ≤ x ∧ x < W.heap.size)))) (fun v _ => i - (intOf v).toNat)
      case atStart => exact ⟨0, Nat.zero_le _, rfl, Lib.hid (only_below H1.out), HB1⟩
      case round =>
        obtain ⟨k, hk, rfl, HO, HK⟩ := hrel
        obtain ⟨W2, rfl⟩ : ∃ V, V = wr := ⟨_, rfl⟩
        obtain ⟨x0, x1, xl⟩ := HPS.out k W2 HO.out
        by_cases hlt : k < i
        · obtain ⟨kd, hkd⟩ : ∃ kd, ts[k]? = some kd := ⟨_, List.getElem?_eq_getElem (by rw [← HM.out]; exact hlt)⟩
          obtain ⟨r, u, gA, gU, hr, _, rfl, rfl, hpf, hnd, hx⟩ := HPR.out k kd hkd
          have HF := Lib.hid hpf
          have HFT := Lib.hid (HFI.out kd (List.mem_of_getElem? hkd))
          have HR := Lib.hid (And.intro hr (And.intro hnd hx))
          obtain ⟨⟨c0, c1, c2, c3, c4, c5, cl⟩, ⟨d0, d1, d2, d3, d4, d5, dl⟩, _, _⟩ := HF.out W2 HO.out
          have HEQ : Hid (Calls Tryz.prog 13 #[rtVal kd r, rtVal kd u] W2.drew fun e w' => e = .returned (.bool true) ∧ Below W2.drew.heap.size W2.drew w') := Lib.hid (by
            obtain ⟨_, _, h1, h2⟩ := HF.out W2.drew HO.out.drew
            rw [own_val h1, own_val h2]
            exact eq_any kd _ _ _ _ _ _ _ _ _ _ _ _ _ h1.read.1 h2.read.1 HFT.out.1 HFT.out.2)
          have b1 : (0 : Int) ≤ (k : Int) := by omega
          have b2 : (k : Int) < (i : Int) := by omega
          clear hkd hpf hr hnd hx
          unfold rtVal at HEQ
          go_upto_region 10 with fail
          go_still_tail 14, (by kernel_rfl)
          change wpList _ _ _ _ _ W2.drew
          go_wp2_with fail
          refine HEQ.out.mono ?_
          rintro e w3 ⟨rfl, hb3⟩
          have HB3 := Lib.hid ((Below.refl W2.heap.size W2).drew.then_ hb3)
          clear hb3 c0 c1 c2 c3 c4 c5 cl d0 d1 d2 d3 d4 d5 dl x0 x1 xl
          obtain ⟨x0, x1, xl⟩ := HPS.out k w3 (HO.out.below HB3.out)
          obtain ⟨⟨c0, c1, c2, c3, c4, c5, cl⟩, _, _, _⟩ := HF.out w3 (HO.out.below HB3.out)
          have HTK : Hid (∀ W5, W5 = w3.alloc (.cells #[.int .i64 kd.kind, .string kd.text, .int .i64 kd.n, .slice r.s.p r.s.n r.s.c, .slice r.a.p r.a.n r.a.c, .slice r.k.p r.k.n r.k.c] TTm) → Calls Tryz.prog 11 #[.pointer (some ⟨pb, 0, none⟩), .slice (some ⟨w3.heap.size, 0, none⟩) 1 1] W5 fun e w' => e = .returned (.tuple #[]) ∧ OnlyP (fun x => x ∈ blksL (rs.take (k + 1))) w w' ∧ BkF w' B pb (fun x => x ∈ blksL (rs.take (k + 1)) ∨ (w.heap.size ≤ x ∧ x < w'.heap.size))) := Lib.hid fun W5 hW5 => by
            have hb5 : Below w3.heap.size w3 W5 := by rw [hW5]; exact (Below.refl _ _).alloc (Nat.le_refl _) _
            have ho5 := (HO.out.below HB3.out).below hb5
            have hbw : Below W2.heap.size W2 W5 := HB3.out.then_ hb5
            obtain ⟨hr, hnd, hx⟩ := HR.out
            have hs5 := ho5.size
            refine (take13_any kd r w3.heap.size W5 B pb (fun x => x ∈ blksL (rs.take k) ∨ (w.heap.size ≤ x ∧ x < W2.heap.size)) (by rw [hW5]; exact heap_alloc_new w3 _) (HF.out W5 ho5).2.2.1 hnd HFT.out.1 ?_ (Nat.le_trans HBB.out hs5) (size_small HFT.out.2).2.1 (HK.out.below fun x _ hlt => hbw.block x hlt)).mono ?_
            · intro x hx1 hx2
              rcases hx2 with hx2 | hx2
              · exact (hx x hx1).2 hx2
              · have := (hx x hx1).1; omega
            · rintro e w7 ⟨rfl, h1, h2⟩
              rw [blksL_take hr]
              refine ⟨rfl, only_then (ho5.mono fun x _ hx => List.mem_append_left _ hx) h1 fun x hlt hx => ?_, h2.inP fun x hx hlt => ?_⟩
              · rcases hx with (hx | hx) | hx
                · exact List.mem_append_left _ hx
                · omega
                · exact List.mem_append_right _ hx
              · have := hbw.size
                have := h1.size
                rcases hx with (hx | hx) | hx | hx
                · exact .inl (List.mem_append_left _ hx)
                · exact .inr ⟨hx.1, hlt⟩
                · exact .inl (List.mem_append_right _ hx)
                · exact .inr ⟨by omega, hlt⟩
          go_wp2_with fail
          refine (HTK.out _ rfl).mono ?_
          rintro e w7 ⟨rfl, ho7, hb7⟩
          have H7 := Lib.hid ho7
          have HB7 := Lib.hid hb7
          clear ho7 hb7 c0 c1 c2 c3 c4 c5 cl x0 x1 xl
          go_wp2_with fail
          exact ⟨⟨k + 1, by omega, by go_num, H7, HB7⟩, by simp [intOf]; omega⟩
        · obtain rfl : k = i := by omega
          have hge2 : ¬ (k : Int) < k := by omega
          clear hlt
          go_wp2_with fail
          refine (whole13_any W2 B pb _ HK.out).mono ?_
          rintro e w5 ⟨rfl, hb5⟩
          go_wp2_with fail
          go_ret
          exact ⟨rfl, (HO.out.mono fun x _ hx => HQ.out k x hx).below hb5⟩
end Go.Proofs.YtkdejffhdhcocaaGreat

namespace Go.Proofs.YtkdejffhdhcocaaGreat
open Go.RowKit

/-- a book and a shelf, apart, in new memory -/
structure FrI (w W : World) (pb ps : Nat) (P Q : Nat → Prop) : Prop where
  be : Below w.heap.size w W
  bk : BkF W w.heap.size pb P
  sh : ShX W w.heap.size ps Q
  dj : ∀ x, P x → ¬ Q x
  pl : ∀ x, P x → w.heap.size ≤ x ∧ x < W.heap.size
  ql : ∀ x, Q x → w.heap.size ≤ x ∧ x < W.heap.size
theorem FrI.kept {w W W' : World} {pb ps : Nat} {P Q : Nat → Prop} (h : FrI w W pb ps P Q) (hb : Below w.heap.size w W') (hs : W.heap.size ≤ W'.heap.size) (hk : ∀ x, w.heap.size ≤ x → x < W.heap.size → W'.heap[x]? = W.heap[x]?) : FrI w W' pb ps P Q :=
  ⟨hb, h.bk.below fun x hx hlt => hk x (h.pl x hx).1 hlt, h.sh.kept fun x hx hlt => hk x (h.ql x hx).1 hlt, h.dj, fun x hx => ⟨(h.pl x hx).1, Nat.lt_of_lt_of_le (h.pl x hx).2 hs⟩, fun x hx => ⟨(h.ql x hx).1, Nat.lt_of_lt_of_le (h.ql x hx).2 hs⟩⟩
theorem FrI.below {w W W' : World} {pb ps : Nat} {P Q : Nat → Prop} (h : FrI w W pb ps P Q) (hb : Below W.heap.size W W') : FrI w W' pb ps P Q := h.kept (h.be.then_ hb) hb.size fun x _ hx => hb.block x hx
theorem FrI.only {w W W' : World} {pb ps : Nat} {P Q : Nat → Prop} {l : List Nat} (h : FrI w W pb ps P Q) (ho : Only W W' l) (hl : ∀ g ∈ l, W.heap.size ≤ g) : FrI w W' pb ps P Q :=
  h.below ⟨ho.os, ho.tape, ho.output, ho.size, fun k hk => ho.block k hk fun e => by have := hl k e; omega⟩
/-- a boxed term in memory of its own, from lo on -/
structure BxO (W : World) (lo g : Nat) (t : Tm) (r : Rt) : Prop where
  bx : W.heap[g]? = some (.cells #[.int .i64 t.kind, .string t.text, .int .i64 t.n, .slice r.s.p r.s.n r.s.c, .slice r.a.p r.a.n r.a.c, .slice r.k.p r.k.n r.k.c] TTm (0, 0))
  own : OwnT W lo t r
  le : lo ≤ g
  nd : (blksT r).Nodup
theorem BxO.kept {W W' : World} {lo g : Nat} {t : Tm} {r : Rt} (h : BxO W lo g t r) (hk : ∀ x, x < W.heap.size → x = g ∨ x ∈ blksT r → W'.heap[x]? = W.heap[x]?) : BxO W' lo g t r :=
  ⟨(hk g (heap_lt h.bx) (.inl rfl)).trans h.bx, h.own.kept fun x hx => hk x (h.own.blk x hx).2 (.inr hx), h.le, h.nd⟩
theorem BxO.below {W W' : World} {lo g : Nat} {t : Tm} {r : Rt} (h : BxO W lo g t r) (hb : Below W.heap.size W W') : BxO W' lo g t r := h.kept fun x hx _ => hb.block x hx
theorem BxO.lo {W : World} {lo lo' g : Nat} {t : Tm} {r : Rt} (h : BxO W lo g t r) (hl : lo' ≤ lo) : BxO W lo' g t r := ⟨h.bx, h.own.mono hl, Nat.le_trans hl h.le, h.nd⟩
theorem BxO.new {w W : World} {lo : Nat} {t : Tm} {r : Rt} (hW : W = w.alloc (.cells #[.int .i64 t.kind, .string t.text, .int .i64 t.n, .slice r.s.p r.s.n r.s.c, .slice r.a.p r.a.n r.a.c, .slice r.k.p r.k.n r.k.c] TTm)) (ho : OwnT w lo t r) (hn : (blksT r).Nodup) (hl : lo ≤ w.heap.size) : BxO W lo w.heap.size t r ∧ Below w.heap.size w W := by
  have hb : Below w.heap.size w W := by rw [hW]; exact (Below.refl _ _).alloc (Nat.le_refl _) _
  exact ⟨⟨by rw [hW]; exact heap_alloc_new w _, ho.on hb, hl, hn⟩, hb⟩
theorem BxO.six {W : World} {lo g : Nat} {t : Tm} {r : Rt} (h : BxO W lo g t r) : W.cell? ⟨g, 0, none⟩ = some (.int .i64 t.kind) ∧ W.cell? ⟨g, 1, none⟩ = some (.string t.text) ∧ W.cell? ⟨g, 2, none⟩ = some (.int .i64 t.n) ∧ W.cell? ⟨g, 3, none⟩ = some (.slice r.s.p r.s.n r.s.c) ∧ W.cell? ⟨g, 4, none⟩ = some (.slice r.a.p r.a.n r.a.c) ∧ W.cell? ⟨g, 5, none⟩ = some (.slice r.k.p r.k.n r.k.c) ∧ g < W.heap.size :=
  ⟨cell_at h.bx rfl, cell_at h.bx rfl, cell_at h.bx rfl, cell_at h.bx rfl, cell_at h.bx rfl, cell_at h.bx rfl, heap_lt h.bx⟩
/-- its own blocks: the box, the lists' -/
theorem BxO.ge {W : World} {lo g : Nat} {t : Tm} {r : Rt} (h : BxO W lo g t r) : ∀ x, x = g ∨ x ∈ blksT r → lo ≤ x ∧ x < W.heap.size := fun x hx => by
  rcases hx with rfl | hx
  · exact ⟨h.le, heap_lt h.bx⟩
  · exact h.own.blk x hx
/-- two terms that are put by, one that is written full -/
theorem FrI.more {w W0 Wk W1 Wt W2 : World} {pb ps lo : Nat} {P Q : Nat → Prop} {rx ry rz : Rt} (h : FrI w W0 pb ps P Q) (hlo : W0.heap.size ≤ lo) (h01 : W0.heap.size ≤ Wk.heap.size) (h1t : W1.heap.size ≤ Wt.heap.size) (h12 : Wt.heap.size ≤ W2.heap.size) (hk1 : Wk.heap.size ≤ W1.heap.size)
    (hx : ∀ x ∈ blksT rx, lo ≤ x ∧ x < Wk.heap.size) (hy : ∀ x ∈ blksT ry, lo ≤ x ∧ x < Wk.heap.size) (hz : ∀ x ∈ blksT rz, lo ≤ x ∧ x < Wk.heap.size) (hxy : ∀ x ∈ blksT rx, x ∉ blksT ry) (hxz : ∀ x ∈ blksT rx, x ∉ blksT rz)
    (hbe : Below w.heap.size w W2) (hbk : BkF W2 w.heap.size pb (fun x => P x ∨ x ∈ blksT rx ∨ (Wt.heap.size ≤ x ∧ x < W2.heap.size))) (hsh : ShX W2 w.heap.size ps (fun x => Q x ∨ x ∈ blksL [ry, rz] ∨ (Wk.heap.size ≤ x ∧ x < W1.heap.size))) :
    FrI w W2 pb ps (fun x => P x ∨ x ∈ blksT rx ∨ (Wt.heap.size ≤ x ∧ x < W2.heap.size)) (fun x => Q x ∨ x ∈ blksL [ry, rz] ∨ (Wk.heap.size ≤ x ∧ x < W1.heap.size)) := by
  have hyz : ∀ x, x ∈ blksL [ry, rz] → x ∈ blksT ry ∨ x ∈ blksT rz := fun x hx => by simpa [blksL] using hx
  have hw := h.be.size
  refine ⟨hbe, hbk, hsh, fun x hp hq => ?_, fun x hp => ?_, fun x hq => ?_⟩
  · rcases hp with hp | hp | hp
    · have h1 := h.pl x hp
      rcases hq with hq | hq | hq
      · exact h.dj x hp hq
      · rcases hyz x hq with e | e
        · have := hy x e; omega
        · have := hz x e; omega
      · omega
    · have h1 := hx x hp
      rcases hq with hq | hq | hq
      · have := h.ql x hq; omega
      · rcases hyz x hq with e | e
        · exact hxy x hp e
        · exact hxz x hp e
      · omega
    · rcases hq with hq | hq | hq
      · have := h.ql x hq; omega
      · rcases hyz x hq with e | e
        · have := hy x e; omega
        · have := hz x e; omega
      · omega
  · rcases hp with hp | hp | hp
    · have h1 := h.pl x hp; omega
    · have h1 := hx x hp; omega
    · omega
  · rcases hq with hq | hq | hq
    · have h1 := h.ql x hq; omega
    · rcases hyz x hq with e | e
      · have := hy x e; omega
      · have := hz x e; omega
    · omega
section
variable {w W0 Wk W1 Wt W2 : World} {pb ps lo : Nat} {P Q : Nat → Prop} {rx ry rz : Rt}
/-- the book's and the shelf's blocks stay apart -/
theorem FrI.apart (h : FrI w W0 pb ps P Q) (hlo : W0.heap.size ≤ lo) (h01 : W0.heap.size ≤ Wk.heap.size)
    (hx : ∀ x ∈ blksT rx, lo ≤ x ∧ x < Wk.heap.size) (hy : ∀ x ∈ blksT ry, lo ≤ x ∧ x < Wk.heap.size) (hz : ∀ x ∈ blksT rz, lo ≤ x ∧ x < Wk.heap.size) (hxy : ∀ x ∈ blksT rx, x ∉ blksT ry) (hxz : ∀ x ∈ blksT rx, x ∉ blksT rz) :
    ∀ x, (Q x ∨ x ∈ blksL [ry, rz] ∨ (Wk.heap.size ≤ x ∧ x < W1.heap.size)) → ¬ (P x ∨ x ∈ blksT rx) := fun x hq hp => by
  have hyz : ∀ x, x ∈ blksL [ry, rz] → x ∈ blksT ry ∨ x ∈ blksT rz := fun x hx => by simpa [blksL] using hx
  rcases hp with hp | hp
  · have h1 := h.pl x hp
    rcases hq with hq | hq | hq
    · exact h.dj x hp hq
    · rcases hyz x hq with e | e
      · have := hy x e; omega
      · have := hz x e; omega
    · omega
  · have h1 := hx x hp
    rcases hq with hq | hq | hq
    · have := h.ql x hq; omega
    · rcases hyz x hq with e | e
      · exact hxy x hp e
      · exact hxz x hp e
    · omega
end
theorem ShX.new {w : World} {B ps : Nat} {Q : Nat → Prop} (h : w.heap[ps]? = some (.cells #[.slice none 0 0, .slice none 0 0, .int .i64 0] TShf (0, 0))) (hq : Q ps) (hB : B ≤ ps) : ShX w B ps Q :=
  ⟨[], [], [], _, _, 0, ⟨h, hq, hB, World.ownsRow_nil _ _ _ _, World.ownsRow_nil _ _ _ _, by simp only [OwnL], by simp only [OwnL], fun x hx => (by cases hx), fun x hx => (by cases hx), fun x hx => (by simp only [blksL] at hx; cases hx), fun x hx => (by simp only [blksL] at hx; cases hx), by simp only [blksL, List.append_nil]; exact List.nodup_nil, fun x hx => (by cases hx), fun x hx => (by cases hx), fun x hx => (by cases hx)⟩, by simp, by omega⟩
section
variable {W : World} {B0 : Nat} {t : Tm} {r : Rt}
theorem copy_rt (ho : OwnT W B0 t r) (hwf : WfT t) : Calls Tryz.prog 30 #[rtVal t r] W (CopyPost t W) := by rw [own_val ho]; exact copy_any _ _ _ _ _ _ _ _ ho.read.1 hwf
theorem names_rt (ho : OwnT W B0 t r) (hwf : WfT t) : Calls Tryz.prog 31 #[rtVal t r] W (NamesPost t W) := by rw [own_val ho]; exact names_any _ _ _ _ _ _ _ _ ho.read.1 hwf
theorem may_rt (ho : OwnT W B0 t r) (hwf : WfT t) (c : Int) : Calls Tryz.prog 32 #[rtVal t r, .int .i64 c] W fun e w' => e = .returned (.int .i64 (mayT t c)) ∧ Below W.heap.size W w' := by rw [own_val ho]; exact may_any _ _ _ _ _ _ _ _ _ ho.read.1 hwf
theorem same_rt {A B K : Option Addr} {ca cb ck : Nat} (ho : OwnT W B0 t r) (hat : TmAt W t A B K) (hwf : WfT t) (hg : greatT t = false) : Calls Tryz.prog 33 #[rtVal t r, tmVal t A ca B cb K ck] W fun e w' => e = .returned (.bool true) ∧ Below W.heap.size W w' := by
  have hs : sameT t t = true := by unfold sameT; rw [hg, (eqT_iff t t).2 rfl]; rfl
  rw [own_val ho, ← hs]
  exact sameV_any _ _ _ _ _ _ _ _ _ _ _ _ _ _ _ ho.read.1 hat hwf hwf
theorem eq_rt {A B K : Option Addr} {ca cb ck : Nat} (ho : OwnT W B0 t r) (hat : TmAt W t A B K) (hwf : WfT t) (hg : greatT t = false) : Calls Tryz.prog 13 #[rtVal t r, tmVal t A ca B cb K ck] W fun e w' => e = .returned (.bool true) ∧ Below W.heap.size W w' := by
  rw [own_val ho]
  exact eq_any _ _ _ _ _ _ _ _ _ _ _ _ _ _ ho.read.1 hat hwf hg
end
end Go.Proofs.YtkdejffhdhcocaaGreat

namespace Go.Proofs.YtkdejffhdhcocaaGreat
open Go.RowKit

theorem FrI.keep {w W W' : World} {pb ps : Nat} {P Q : Nat → Prop} (h : FrI w W pb ps P Q) (hb : Below w.heap.size w W') (hs : W.heap.size ≤ W'.heap.size) (hk : ∀ x, P x ∨ Q x → x < W.heap.size → W'.heap[x]? = W.heap[x]?) : FrI w W' pb ps P Q :=
  ⟨hb, h.bk.below fun x hx hlt => hk x (.inl hx) hlt, h.sh.kept fun x hx hlt => hk x (.inr hx) hlt, h.dj, fun x hx => ⟨(h.pl x hx).1, Nat.lt_of_lt_of_le (h.pl x hx).2 hs⟩, fun x hx => ⟨(h.ql x hx).1, Nat.lt_of_lt_of_le (h.ql x hx).2 hs⟩⟩
theorem BxO.only {W W' : World} {lo g : Nat} {t : Tm} {r : Rt} {p : Nat → Prop} (h : BxO W lo g t r) (ho : OnlyP p W W') (hp : ∀ x, x = g ∨ x ∈ blksT r → ¬ p x) : BxO W' lo g t r := h.kept fun x hx he => ho.block x hx (hp x he)
end Go.Proofs.YtkdejffhdhcocaaGreat
