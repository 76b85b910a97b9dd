/- abacuslaw13.(*Book).Take of one term: all its lists are written full of marks and grown. Condition: sizes within reach. -/
import Derived.Test.YtkdejffhdhcocaaGreatTeJ1
import Derived.BigQuiet
import Derived.BigRegion
namespace Go.Proofs.YtkdejffhdhcocaaGreat
open Go.RowKit

/-- a full book: all its lists hold their marks -/
def BkF (w : World) (B pb : Nat) (P : Nat → Prop) : Prop := ∃ z S A K, BkE w w B pb P z S A K S.length S.length S.length ∧ A.length = S.length ∧ K.length = S.length ∧ (1200 * S.length : Int) ≤ z ∧ z ≤ 4611826755949297664
/-- a full book that takes more -/
def BkZ (w : World) (B pb : Nat) (P : Nat → Prop) : Prop := ∃ z S A K, BkE w w B pb P z S A K S.length S.length S.length ∧ A.length = S.length ∧ K.length = S.length ∧ (1200 * S.length : Int) ≤ z ∧ z < 33554432
theorem info_tm6 : (Tryz.prog.info? TTm).map (fun i => (i.zero, i.size, i.bytes)) = some (some (.agg #[.int .i64 0, .string ⟨#[]⟩, .int .i64 0, .slice none 0 0, .slice none 0 0, .slice none 0 0]), 6, 104) := by kernel_rfl
theorem info_t64 : (Tryz.prog.info? TI6).map (fun i => (i.zero, i.size, i.bytes)) = some (some (.int .i64 0), 1, 8) := by kernel_rfl
theorem info_t63 : (Tryz.prog.info? TIn).map (fun i => (i.zero, i.size, i.bytes)) = some (some (.int .i64 0), 1, 8) := by kernel_rfl
theorem cells_at3 (w : World) (vs : List Value) (t : TypeId) : ∀ j u, vs[j]? = some u → (w.alloc (.cells vs.toArray t)).cell? ((⟨w.heap.size, 0, none⟩ : Addr).add j) = some u := by
  intro j u h
  have h1 : (w.alloc (.cells vs.toArray t)).heap[w.heap.size]? = some (.cells vs.toArray t (0, 0)) := heap_alloc_new w _
  have hadd : (⟨w.heap.size, 0, none⟩ : Addr).add j = ⟨w.heap.size, j, none⟩ := by unfold Addr.add; split <;> simp_all
  rw [hadd]
  exact cell_at h1 (by simpa using h)
theorem setCells6 (w : World) (b k : Nat) (v0 v1 v2 v3 v4 v5 : Value) : w.setCells b k [v0, v1, v2, v3, v4, v5] = sixW w b k v0 v1 v2 v3 v4 v5 := by simp [World.setCells, sixW]
theorem wpList_append_room6 {P : Program} (w : World) {ops : Array Oper} {rest : List Oper} {o : Oper} {a : Act} {Q : Exit → Act → World → Prop}
    (hg : o.guard = none) (s x : Operand) (t tx : TypeId) (hop : o.op = Op.call { callee := Callee.builtin Builtin.append, args := #[s, x], argTypes := #[t, tx] })
    (e : TypeId) (z : Value) (bytes : Nat) (ht : P.underlying t = some (.slice e)) (hinfo : (P.info? e).map (fun i => (i.zero, i.size, i.bytes)) = some (some z, 6, bytes))
    (b off sLen sCap : Nat) (hs : a.eval s = .slice (some ⟨b, off, none⟩) sLen sCap) (xv : Value) (hx : a.eval x = xv) (n : Nat) (news : List Value) (hsrc : Src P 6 tx xv n news w)
    (hroom : sLen + n ≤ sCap) (hc : ∀ j, j < news.length → (w.cell? ⟨b, off + sLen * 6 + j, none⟩).isSome = true) (hf : ∀ j, j < news.length → w.frozen? ⟨b, off + sLen * 6 + j, none⟩ = false)
    (hK : wpList P ops Q rest (a.put o.dst (.slice (some ⟨b, off, none⟩) (sLen + n) sCap)) (w.setCells b (off + sLen * 6) news)) :
    wpList P ops Q (o :: rest) a w := by
  obtain ⟨i, hi, hzz⟩ := Option.map_eq_some_iff.1 hinfo
  simp only [Prod.mk.injEq] at hzz
  obtain ⟨_, hs1, _⟩ := hzz
  exact wpList_append_room_src w hg s x t tx hop e i ht hi b off sLen sCap hs xv hx n news (by rw [hs1]; exact hsrc) hroom (by rw [hs1]; exact hc) (by rw [hs1]; exact hf) (by rw [hs1]; exact hK)
theorem wt_ge : ∀ (l : List Rt), 1200 * l.length ≤ wt l
  | [] => by simp [wt]
  | q :: l => by rw [wt_cons, List.length_cons]; have := wt_ge l; unfold wtN; omega
theorem LsAt.at_ {w : World} {B : Nat} {P : Nat → Prop} {t ts : TypeId} {z : Nat} {mk : Nat → List Value} {S : List Bw} {m g n c q : Nat} {r : Bw} (h : LsAt w B P t ts z mk (.slice (some ⟨g, 0, none⟩) n c) S m) (hq : S[q]? = some r) : w.cell? ⟨g, q, none⟩ = some r.val ∧ w.frozen? ⟨g, q, none⟩ = false ∧ g < w.heap.size := by
  obtain ⟨g', c', e, h1, h2, h3⟩ := h.cell hq
  simp only [Value.slice.injEq, Option.some.injEq, Addr.mk.injEq, and_true] at e
  obtain ⟨rfl, _, _⟩ := e
  exact ⟨h2, h3, h1⟩
theorem LsAt.head {w : World} {B : Nat} {P : Nat → Prop} {t ts : TypeId} {z : Nat} {mk : Nat → List Value} {S : List Bw} {m n c q : Nat} {A : Option Addr} {r : Bw} (h : LsAt w B P t ts z mk (.slice A n c) S m) (hq : S[q]? = some r) : ∃ g, A = some ⟨g, 0, none⟩ := by
  obtain ⟨g', c', e, h1, h2, h3⟩ := h.cell hq
  simp only [Value.slice.injEq] at e
  exact ⟨g', e.1⟩
def lenV3 : Value → Nat
  | .slice _ n _ => n
  | _ => 0
theorem nodes_len {w : World} {B : Nat} : ∀ {t : Tm} {r : Rt}, OwnT w B t r → WfT t → ∀ q ∈ nodes r, q.s.n ≤ 140737488351232 ∧ q.a.n ≤ 140737488351232 ∧ q.k.n ≤ 140737488351232 := by
  have key : ∀ (N : Nat) {t : Tm} {r : Rt}, cnt t ≤ N → OwnT w B t r → WfT t → ∀ q ∈ nodes r, q.s.n ≤ 140737488351232 ∧ q.a.n ≤ 140737488351232 ∧ q.k.n ≤ 140737488351232 := by
    intro N
    induction N with
    | zero => intro t r h; cases t; simp [cnt] at h
    | succ N ih =>
      intro t r hN ho hwf q hq
      obtain ⟨_, e1, e2, e3⟩ := ho.read
      rw [nodes_eq] at hq
      rcases List.mem_cons.1 hq with rfl | hq
      · exact ⟨by rw [e1]; exact hwf.node.sh, by rw [e2]; exact hwf.node.at_, by rw [e3]; exact hwf.node.kids⟩
      · obtain ⟨_, _, _, hl, hk⟩ := ho.parts
        have : ∀ (rs : List Rt) (ts : List Tm), OwnL w B ts rs → (∀ t' ∈ ts, cnt t' ≤ N ∧ WfT t') → q ∈ nodesL rs → q.s.n ≤ 140737488351232 ∧ q.a.n ≤ 140737488351232 ∧ q.k.n ≤ 140737488351232 := by
          intro rs
          induction rs with
          | nil => intro ts _ _ h; simp only [nodesL] at h; cases h
          | cons r' rs ihr =>
            intro ts ho' hts h
            cases ts with
            | nil => simp only [OwnL] at ho'
            | cons t' ts =>
              simp only [OwnL] at ho'
              simp only [nodesL, List.mem_append] at h
              rcases h with h | h
              · exact ih (hts t' List.mem_cons_self).1 ho'.1 (hts t' List.mem_cons_self).2 q h
              · exact ihr ts ho'.2 (fun x hx => hts x (List.mem_cons_of_mem _ hx)) h
        refine this r.kids t.kids hk (fun x hx => ?_) hq
        obtain ⟨i, hi⟩ := List.getElem?_of_mem hx
        exact ⟨by have := cnt_kid hi; omega, hwf.node.each x hx⟩
  intro t r ho hwf
  exact key (cnt t) (Nat.le_refl _) ho hwf

/-- a book at hand, its lists' values known -/
abbrev Bk4 (w W : World) (B pb : Nat) (P : Nat → Prop) (As : Option Addr) (cs : Nat) (Aa : Option Addr) (ca : Nat) (Ak : Option Addr) (ck : Nat) (z : Int) (N : Nat) (S A K : List Bw) (i j k : Nat) : Prop :=
  Bk3 w W B pb P (.slice As N cs) (.slice Aa N ca) (.slice Ak N ck) z S A K i j k
theorem BkE.open4 {w W : World} {B pb : Nat} {P : Nat → Prop} {z : Int} {N : Nat} {S A K : List Bw} {i j k : Nat} (h : BkE w W B pb P z S A K i j k) (hs : S.length = N) (ha : A.length = N) (hk : K.length = N) : ∃ As cs Aa ca Ak ck, Bk4 w W B pb P As cs Aa ca Ak ck z N S A K i j k := by
  obtain ⟨sv, av, kv, h⟩ := h
  obtain ⟨As, cs, rfl, _, _⟩ := h.ls.form
  obtain ⟨Aa, ca, rfl, _, _⟩ := h.la.form
  obtain ⟨Ak, ck, rfl, _, _⟩ := h.lk.form
  rw [hs, ha, hk] at h
  exact ⟨As, cs, Aa, ca, Ak, ck, h⟩

set_option maxRecDepth 100000 in
set_option maxHeartbeats 32000000 in
theorem take13_less (t : Tm) (r : Rt) (ga : Nat) (w : World) (B pb : Nat) (P : Nat → Prop) (hga : w.heap[ga]? = some (.cells #[.int .i64 t.kind, .string t.text, .int .i64 t.n, .slice r.s.p r.s.n r.s.c, .slice r.a.p r.a.n r.a.c, .slice r.k.p r.k.n r.k.c] TTm (0, 0)))
    (ho : OwnT w B t r) (hnd : (blksT r).Nodup) (hwf : WfT t) (hP : ∀ x ∈ blksT r, ¬ P x) (hB : B ≤ w.heap.size) (hg : cnt t ≤ 4096) (hwt : wt (nodes r) ≤ 4611826755915743232) (hbk : BkZ w B pb P) :
    Calls Tryz.prog 11 #[.pointer (some ⟨pb, 0, none⟩), .slice (some ⟨ga, 0, none⟩) 1 1] w fun e w' => e = .returned (.tuple #[]) ∧ OnlyP (fun x => P x ∨ x ∈ blksT r) w w' ∧ BkF w' B pb (fun x => P x ∨ x ∈ blksT r ∨ (w.heap.size ≤ x ∧ x < w'.heap.size)) := by
  obtain ⟨z, S, A, K, hbk, hla, hlk, hz1, hzl⟩ := hbk
  have hz2 : z ≤ 33554432 := by omega
  obtain ⟨P', hP'⟩ : ∃ P' : Nat → Prop, P' = fun x => P x ∨ x ∈ blksT r ∨ w.heap.size ≤ x := ⟨_, rfl⟩
  have hbk1 : BkE w w B pb P' z S A K S.length S.length S.length := by
    obtain ⟨sv, av, kv, h⟩ := hbk
    have hp : ∀ k, P k → k < w.heap.size → P' k := fun k hk _ => by rw [hP']; exact .inl hk
    exact ⟨sv, av, kv, h.bk, by rw [hP']; exact .inl h.pp, h.bb, h.ls.inP hp, h.la.inP hp, h.lk.inP hp, OnlyP.refl _ _⟩
  have hfree : Free P' S A K (blksT r) := fun x hx => by
    obtain ⟨sv, av, kv, h⟩ := hbk
    exact ⟨by rw [hP']; exact .inr (.inl hx), fun s hs e => hP x hx (h.ls.pr s hs x e), fun s hs e => hP x hx (h.la.pr s hs x e), fun s hs e => hP x hx (h.lk.pr s hs x e)⟩
  obtain ⟨n0, hn0⟩ : ∃ n, n = S.length := ⟨_, rfl⟩
  rw [← hn0] at hla hlk hz1 hbk1
  have hnn : (nodes r).length ≤ 4096 := by rw [nodes_cnt ho]; exact hg
  have HNL := Lib.hid (nodes_len ho hwf)
  have HGA : Hid (∀ W, Calm w W → W.cell? ⟨ga, 0, none⟩ = some (.int .i64 t.kind) ∧ W.cell? ⟨ga, 1, none⟩ = some (.string t.text) ∧ W.cell? ⟨ga, 2, none⟩ = some (.int .i64 t.n) ∧ W.cell? ⟨ga, 3, none⟩ = some (.slice r.s.p r.s.n r.s.c) ∧ W.cell? ⟨ga, 4, none⟩ = some (.slice r.a.p r.a.n r.a.c) ∧ W.cell? ⟨ga, 5, none⟩ = some (.slice r.k.p r.k.n r.k.c) ∧ ga < W.heap.size) := Lib.hid fun W h => by
    have hh := (h.block _ _ _ hga (.inr (.inr rfl))).trans hga
    exact ⟨cell_at hh rfl, cell_at hh rfl, cell_at hh rfl, cell_at hh rfl, cell_at hh rfl, cell_at hh rfl, heap_lt hh⟩
  have HGAT : Hid (Calls Tryz.prog 44 #[.pointer (some ⟨pb, 0, none⟩), rtVal t r] w fun e w' => e = .returned (.tuple #[]) ∧ Calm w w' ∧ BkE w w' B pb P' (z + (wt (nodes r) : Nat)) (S ++ (nodes r).map bS) (A ++ (nodes r).map bA) (K ++ (nodes r).map bK) n0 n0 n0) := Lib.hid (
    gather_any (cnt t) t r w w B pb P' z S A K n0 n0 n0 (Nat.le_refl _) ho hnd hwf hbk1 hfree (fun x hx => by rw [hP']; exact .inr (.inr hx)) hB (by omega) (by omega) (by omega) (by omega))
  have HP := Lib.hid hP'
  have HB0 := Lib.hid hbk1
  have HLA := Lib.hid (And.intro hn0 (And.intro hla hlk))
  have HZ := Lib.hid (And.intro hz1 (And.intro hz2 (And.intro hwt hnn)))
  clear hbk hla hlk hz1 hz2 hP' hbk1 hfree hnn hga ho hnd hwf hP hB hg hwt hn0
  obtain ⟨As0, cs0, Aa0, ca0, Ak0, ck0, hb0⟩ := HB0.out.open4 HLA.out.1.symm HLA.out.2.1 HLA.out.2.2
  obtain ⟨x0, x1, x2, x3, _, _⟩ := hb0.cells
  clear hb0 x0 x1 x3
  have h0 : n0 ≤ 3843188963291081 := by have := HZ.out; omega
  go_enter Tryz.func11, Tryz.ntmps11
  go_wp2_with fail
  clear x2
  go_loopw [5] (fun v W => ∃ (i : Nat) (z' : Int) (S' A' K' : List Bw), i ≤ 1 ∧ v = .int .i64 i ∧ Hid (i = 0 → W = w ∧ z' = z ∧ S' = S ∧ A' = A ∧ K' = K) ∧ Hid (Calm w W) ∧ Hid (BkE w W B pb P' z' S' A' K' n0 n0 n0) ∧ Hid (A'.length = S'.length ∧ K'.length = S'.length ∧ n0 ≤ S'.length ∧ (1200 * S'.length : Int) ≤ z' ∧ z' ≤ 4611826755949297664) ∧
    Hid (∀ q, n0 ≤ q → (∀ s, S'[q]? = some s → s.n ≤ 140737488351232) ∧ (∀ s, A'[q]? = some s → s.n ≤ 140737488351232) ∧ ∀ s, K'[q]? = some s → s.n ≤ 140737488351232)) (fun v _ => 1 - (intOf v).toNat)
  case atStart => exact ⟨0, z, S, A, K, by omega, rfl, Lib.hid fun _ => ⟨rfl, rfl, rfl, rfl, rfl⟩, Lib.hid (Calm.refl _), HB0, Lib.hid ⟨by rw [← HLA.out.1]; exact HLA.out.2.1, by rw [← HLA.out.1]; exact HLA.out.2.2, by rw [← HLA.out.1]; exact Nat.le_refl _, by rw [← HLA.out.1]; exact HZ.out.1, by have := HZ.out.2.1; omega⟩, Lib.hid fun q hq => by
    obtain ⟨e1, e2, e3⟩ := HLA.out
    refine ⟨fun s h => ?_, fun s h => ?_, fun s h => ?_⟩ <;> (have := (List.getElem?_eq_some_iff.1 h).1; omega)⟩
  case round =>
    obtain ⟨i, z', S', A', K', hi, rfl, HI0, HC, HB, HL, HR⟩ := hrel
    obtain ⟨As, cs, Aa, ca, Ak, ck, hb⟩ := HB.out.open4 rfl HL.out.1 HL.out.2.1
    obtain ⟨x0, x1, x2, x3, _, _⟩ := hb.cells
    by_cases hgo : i = 0
    · subst hgo
      obtain ⟨rfl, rfl, rfl, rfl, rfl⟩ := HI0.out rfl
      have HG := HGAT
      obtain ⟨c0, c1, c2, c3, c4, c5, cl⟩ := HGA.out _ HC.out
      clear hb x0 x1 x2
      unfold rtVal at HG
      go_wp2_with fail
      refine HG.out.mono ?_
      rintro e w7 ⟨rfl, hc7, hb7⟩
      have H7 := Lib.hid (And.intro hc7 hb7)
      clear hc7 hb7 x3 c0 c1 c2 c3 c4 c5 cl
      go_wp2_with fail
      refine ⟨⟨1, _, _, _, _, by omega, rfl, Lib.hid fun h => absurd h (by omega), Lib.hid H7.out.1, Lib.hid H7.out.2, Lib.hid ?_, Lib.hid ?_⟩, by simp [intOf]⟩
      · obtain ⟨e1, e2, e3⟩ := HLA.out
        obtain ⟨f1, f2, f3, f4⟩ := HZ.out
        have hwl := wt_ge (nodes r)
        simp only [List.length_append, List.length_map]
        omega
      · intro q hq
        obtain ⟨e1, e2, e3⟩ := HLA.out
        refine ⟨fun s h => ?_, fun s h => ?_, fun s h => ?_⟩
        · rw [List.getElem?_append_right (by omega), List.getElem?_map] at h
          obtain ⟨n, hn, rfl⟩ := Option.map_eq_some_iff.1 h
          exact (HNL.out n (List.mem_of_getElem? hn)).1
        · rw [List.getElem?_append_right (by omega), List.getElem?_map] at h
          obtain ⟨n, hn, rfl⟩ := Option.map_eq_some_iff.1 h
          exact (HNL.out n (List.mem_of_getElem? hn)).2.1
        · rw [List.getElem?_append_right (by omega), List.getElem?_map] at h
          obtain ⟨n, hn, rfl⟩ := Option.map_eq_some_iff.1 h
          exact (HNL.out n (List.mem_of_getElem? hn)).2.2
    · obtain rfl : i = 1 := by omega
      rw [show ((1 : Nat) : Int) = 1 from rfl]
      obtain ⟨N, hN⟩ : ∃ N, N = S'.length := ⟨_, rfl⟩
      rw [← hN] at HL
      have hb := hb
      clear hgo HI0 hb x0 x1 x3 HGAT HGA HNL
      have hN1 : n0 ≤ N ∧ N ≤ 3843188963291081 := by have := HL.out; omega
      obtain ⟨hN1, hN2⟩ := hN1
      have HN := Lib.hid hN
      rw [← hN] at x2
      clear hN
      go_wp2_with fail
      clear x2
      go_loopw [6] (fun v W => ∃ k : Nat, n0 ≤ k ∧ k ≤ N ∧ v = .int .i64 k ∧ Hid (BkE w W B pb P' z' S' A' K' k k k)) (fun v _ => N - (intOf v).toNat)
      case atStart => exact ⟨n0, Nat.le_refl _, hN1, rfl, HB⟩
      case round =>
        obtain ⟨k, hk1, hk2, rfl, HK⟩ := hrel
        obtain ⟨As, cs, Aa, ca, Ak, ck, hb⟩ := HK.out.open4 HN.out.symm HL.out.1 HL.out.2.1
        obtain ⟨x0, x1, x2, x3, _, _⟩ := hb.cells
        clear x3
        by_cases hlt : k < N
        · obtain ⟨rs, hrs⟩ : ∃ rs, S'[k]? = some rs := ⟨_, List.getElem?_eq_getElem (by have := HN.out; omega)⟩
          obtain ⟨ra, hra⟩ : ∃ ra, A'[k]? = some ra := ⟨_, List.getElem?_eq_getElem (by have := HL.out; omega)⟩
          obtain ⟨rk, hrk⟩ : ∃ rk, K'[k]? = some rk := ⟨_, List.getElem?_eq_getElem (by have := HL.out; omega)⟩
          obtain ⟨gs, rfl⟩ := hb.ls.head hrs
          obtain ⟨gl, rfl⟩ := hb.la.head hra
          obtain ⟨gk, rfl⟩ := hb.lk.head hrk
          have hls := (hb.ls.row rs (List.mem_of_getElem? hrs)).max
          have hlsa := (hb.la.row ra (List.mem_of_getElem? hra)).max
          have hlsk := (hb.lk.row rk (List.mem_of_getElem? hrk)).max
          have hlr := HR.out k hk1
          have hls1 := hlr.1 rs hrs
          have hls2 := hlr.2.1 ra hra
          have hls3 := hlr.2.2 rk hrk
          have HB4 := Lib.hid hb
          have HRS := Lib.hid hrs
          have HRA := Lib.hid hra
          have HRK := Lib.hid hrk
          clear hb hrs hra hrk hls hlsa hlsk hlr
          go_wp2_with fail
          clear x0 x1 x2
          go_loopw [7] (fun v W => ∃ i : Nat, i ≤ rs.n ∧ v = .int .i64 i ∧ Hid (Bk4 w W B pb P' (some ⟨gs, 0, none⟩) cs (some ⟨gl, 0, none⟩) ca (some ⟨gk, 0, none⟩) ck z' N S' A' K' k k k ∧ MkZ W rs 1 i (mS k))) (fun v _ => rs.n - (intOf v).toNat)
          case atStart => exact ⟨0, Nat.zero_le _, rfl, Lib.hid ⟨HB4.out, MkZ.zero _ _ _ _⟩⟩
          case round =>
            obtain ⟨i, hi, rfl, HI⟩ := hrel
            obtain ⟨W2, rfl⟩ : ∃ V, V = wr := ⟨_, rfl⟩
            obtain ⟨x0, _, _, _, _, _⟩ := HI.out.1.cells
            obtain ⟨kq, _, hgl⟩ := HI.out.1.ls.at_ HRS.out
            have hrow := HI.out.1.ls.row rs (List.mem_of_getElem? HRS.out)
            simp only [Bw.val] at kq
            by_cases hlt2 : i < rs.n
            · obtain ⟨b, hb⟩ := hrow.some (Nat.lt_of_lt_of_le hlt2 hrow.le)
              obtain ⟨old, ko, fo⟩ := hrow.free hb (k := i) (by have := hrow.le; omega)
              have HNX := Lib.hid (And.intro (HI.out.1.markS HRS.out hb (x := i) (.inl (Nat.le_refl _)) (.int .i64 (1099511627776 + (k : Int)))) (HI.out.2.put1 hrow hb (Nat.lt_of_lt_of_le hlt2 hrow.le)))
              rw [Bw.adr_some hb] at kq
              clear hrow hb
              go_wp2_with fail
              exact ⟨⟨i + 1, by omega, by go_num, HNX⟩, by simp [intOf]; omega⟩
            · obtain rfl : i = rs.n := by omega
              have hge : ¬ (rs.n : Int) < rs.n := by omega
              have HB5 : Hid (Bk4 w W2 B pb P' (some ⟨gs, 0, none⟩) cs (some ⟨gl, 0, none⟩) ca (some ⟨gk, 0, none⟩) ck z' N S' A' K' (k + 1) k k) := Lib.hid { HI.out.1 with ls := HI.out.1.ls.done HRS.out HI.out.2 }
              clear hrow hlt2 HI
              go_wp2_with fail
              clear x0 kq hgl
              go_loopw [8] (fun v W => ∃ i : Nat, i ≤ ra.n ∧ v = .int .i64 i ∧ Hid (Bk4 w W B pb P' (some ⟨gs, 0, none⟩) cs (some ⟨gl, 0, none⟩) ca (some ⟨gk, 0, none⟩) ck z' N S' A' K' (k + 1) k k ∧ MkZ W ra 1 i (mA k))) (fun v _ => ra.n - (intOf v).toNat)
              case atStart => exact ⟨0, Nat.zero_le _, rfl, Lib.hid ⟨HB5.out, MkZ.zero _ _ _ _⟩⟩
              case round =>
                obtain ⟨i, hi, rfl, HI⟩ := hrel
                obtain ⟨W3, rfl⟩ : ∃ V, V = wr := ⟨_, rfl⟩
                obtain ⟨_, x1, _, _, _, _⟩ := HI.out.1.cells
                obtain ⟨kq, _, hgl⟩ := HI.out.1.la.at_ HRA.out
                have hrow := HI.out.1.la.row ra (List.mem_of_getElem? HRA.out)
                simp only [Bw.val] at kq
                by_cases hlt2 : i < ra.n
                · obtain ⟨b, hb⟩ := hrow.some (Nat.lt_of_lt_of_le hlt2 hrow.le)
                  obtain ⟨old, ko, fo⟩ := hrow.free hb (k := i) (by have := hrow.le; omega)
                  have HNX := Lib.hid (And.intro (HI.out.1.markA HRA.out hb (x := i) (.inl (Nat.le_refl _)) (.int .i64 (-2199023255552 - (k : Int)))) (HI.out.2.put1 hrow hb (Nat.lt_of_lt_of_le hlt2 hrow.le)))
                  rw [Bw.adr_some hb] at kq
                  clear hrow hb
                  go_wp2_with fail
                  exact ⟨⟨i + 1, by omega, by go_num, HNX⟩, by simp [intOf]; omega⟩
                · obtain rfl : i = ra.n := by omega
                  have hge : ¬ (ra.n : Int) < ra.n := by omega
                  have HB6 : Hid (Bk4 w W3 B pb P' (some ⟨gs, 0, none⟩) cs (some ⟨gl, 0, none⟩) ca (some ⟨gk, 0, none⟩) ck z' N S' A' K' (k + 1) (k + 1) k) := Lib.hid { HI.out.1 with la := HI.out.1.la.done HRA.out HI.out.2 }
                  clear hrow hlt2 HI
                  go_wp2_with fail
                  clear x1 kq hgl
                  go_loopw [9] (fun v W => ∃ i : Nat, i ≤ rk.n ∧ v = .int .i64 i ∧ Hid (Bk4 w W B pb P' (some ⟨gs, 0, none⟩) cs (some ⟨gl, 0, none⟩) ca (some ⟨gk, 0, none⟩) ck z' N S' A' K' (k + 1) (k + 1) k ∧ MkZ W rk 6 i (mK k))) (fun v _ => rk.n - (intOf v).toNat)
                  case atStart => exact ⟨0, Nat.zero_le _, rfl, Lib.hid ⟨HB6.out, MkZ.zero _ _ _ _⟩⟩
                  case round =>
                    obtain ⟨i, hi, rfl, HI⟩ := hrel
                    obtain ⟨W4, rfl⟩ : ∃ V, V = wr := ⟨_, rfl⟩
                    obtain ⟨_, _, x2, _, _, _⟩ := HI.out.1.cells
                    obtain ⟨kq, _, hgl⟩ := HI.out.1.lk.at_ HRK.out
                    have hrow := HI.out.1.lk.row rk (List.mem_of_getElem? HRK.out)
                    simp only [Bw.val] at kq
                    by_cases hlt2 : i < rk.n
                    · obtain ⟨b, hb⟩ := hrow.some (Nat.lt_of_lt_of_le hlt2 hrow.le)
                      have hle := hrow.le
                      obtain ⟨v0, d0, g0⟩ := hrow.free hb (k := i * 6) (by omega)
                      obtain ⟨v1, d1, g1⟩ := hrow.free hb (k := i * 6 + 1) (by omega)
                      obtain ⟨v2, d2, g2⟩ := hrow.free hb (k := i * 6 + 2) (by omega)
                      obtain ⟨v3, d3, g3⟩ := hrow.free hb (k := i * 6 + 3) (by omega)
                      obtain ⟨v4, d4, g4⟩ := hrow.free hb (k := i * 6 + 4) (by omega)
                      obtain ⟨v5, d5, g5⟩ := hrow.free hb (k := i * 6 + 5) (by omega)
                      have hmark : ∀ W (o : Nat) (u : Value), Bk4 w W B pb P' (some ⟨gs, 0, none⟩) cs (some ⟨gl, 0, none⟩) ca (some ⟨gk, 0, none⟩) ck z' N S' A' K' (k + 1) (k + 1) k → Bk4 w (W.setCell ⟨b, o, none⟩ u) B pb P' (some ⟨gs, 0, none⟩) cs (some ⟨gl, 0, none⟩) ca (some ⟨gk, 0, none⟩) ck z' N S' A' K' (k + 1) (k + 1) k := fun W o u h => h.markK HRK.out hb (.inl (Nat.le_refl _)) u
                      have HNX : Hid (Bk4 w (sixW W4 b (i * 6) (.int .i64 0) (.string ⟨#[]⟩) (.int .i64 (4398046511104 + (k : Int))) (.slice none 0 0) (.slice none 0 0) (.slice none 0 0)) B pb P' (some ⟨gs, 0, none⟩) cs (some ⟨gl, 0, none⟩) ca (some ⟨gk, 0, none⟩) ck z' N S' A' K' (k + 1) (k + 1) k ∧ MkZ (sixW W4 b (i * 6) (.int .i64 0) (.string ⟨#[]⟩) (.int .i64 (4398046511104 + (k : Int))) (.slice none 0 0) (.slice none 0 0) (.slice none 0 0)) rk 6 (i + 1) (mK k)) := Lib.hid ⟨hmark _ _ _ (hmark _ _ _ (hmark _ _ _ (hmark _ _ _ (hmark _ _ _ (hmark _ _ _ HI.out.1))))), HI.out.2.put6 hrow hb (Nat.lt_of_lt_of_le hlt2 hrow.le)⟩
                      rw [Bw.adr_some hb] at kq
                      clear hrow hb hmark hle
                      go_wp2_with fail
                      exact ⟨⟨i + 1, by omega, by go_num, HNX⟩, by simp [intOf]; omega⟩
                    · obtain rfl : i = rk.n := by omega
                      have hge : ¬ (rk.n : Int) < rk.n := by omega
                      have HB7 : Hid (BkE w W4 B pb P' z' S' A' K' (k + 1) (k + 1) (k + 1)) := Lib.hid ⟨_, _, _, { HI.out.1 with lk := HI.out.1.lk.done HRK.out HI.out.2 }⟩
                      clear hrow hlt2 HI
                      go_wp2_with fail
                      exact ⟨⟨k + 1, by omega, by omega, by go_num, HB7⟩, by simp [intOf]; omega⟩
        · obtain rfl : N = k := by omega
          have hge : ¬ (N : Int) < N := by omega
          clear hb hlt
          go_wp2_with fail
          clear x2
          have HBS : Hid (BkE w wr B pb P' z' S' A' K' N N N) := HK
          clear HK
          go_loopw [10] (fun v W => ∃ (k : Nat) (Sx Ax Kx : List Bw), n0 ≤ k ∧ k ≤ N ∧ v = .int .i64 k ∧ Hid (BkE w W B pb P' z' Sx Ax Kx N N N) ∧ Hid (Sx.length = N ∧ Ax.length = N ∧ Kx.length = N) ∧ Hid (∀ q, k ≤ q → Sx[q]? = S'[q]? ∧ Ax[q]? = A'[q]? ∧ Kx[q]? = K'[q]?)) (fun v _ => N - (intOf v).toNat)
          case atStart => exact ⟨n0, S', A', K', Nat.le_refl _, hN1, rfl, HBS, Lib.hid ⟨HN.out.symm, HL.out.1, HL.out.2.1⟩, Lib.hid fun q _ => ⟨rfl, rfl, rfl⟩⟩
          case round =>
            obtain ⟨k, Sx, Ax, Kx, hk1, hk2, rfl, HK, HLX, HEQ⟩ := hrel
            obtain ⟨As, cs, Aa, ca, Ak, ck, hb⟩ := HK.out.open4 HLX.out.1 HLX.out.2.1 HLX.out.2.2
            obtain ⟨x0, x1, x2, x3, _, _⟩ := hb.cells
            clear x3
            obtain ⟨W1, rfl⟩ : ∃ V, V = wr := ⟨_, rfl⟩
            by_cases hlt : k < N
            · obtain ⟨rs, hrs⟩ : ∃ rs, Sx[k]? = some rs := ⟨_, List.getElem?_eq_getElem (by have := HLX.out; omega)⟩
              obtain ⟨ra, hra⟩ : ∃ ra, Ax[k]? = some ra := ⟨_, List.getElem?_eq_getElem (by have := HLX.out; omega)⟩
              obtain ⟨rk, hrk⟩ : ∃ rk, Kx[k]? = some rk := ⟨_, List.getElem?_eq_getElem (by have := HLX.out; omega)⟩
              obtain ⟨gs, rfl⟩ := hb.ls.head hrs
              obtain ⟨gl, rfl⟩ := hb.la.head hra
              obtain ⟨gk, rfl⟩ := hb.lk.head hrk
              have hrs0 := hb.ls.row rs (List.mem_of_getElem? hrs)
              have hra0 := hb.la.row ra (List.mem_of_getElem? hra)
              have hrk0 := hb.lk.row rk (List.mem_of_getElem? hrk)
              have hls := hrs0.max
              have hlsa := hra0.max
              have hlsk := hrk0.max
              have hlr := HR.out k hk1
              have hls1 := hlr.1 rs ((HEQ.out k (Nat.le_refl _)).1.symm.trans hrs)
              have hls2 := hlr.2.1 ra ((HEQ.out k (Nat.le_refl _)).2.1.symm.trans hra)
              have hls3 := hlr.2.2 rk ((HEQ.out k (Nat.le_refl _)).2.2.symm.trans hrk)
              have hfs := roomOf_le hrs0.le
              have hfa := roomOf_le hra0.le
              have hfk := roomOf_le hrk0.le
              obtain ⟨ks, _, hgs⟩ := hb.ls.at_ hrs
              obtain ⟨ka, _, hga⟩ := hb.la.at_ hra
              obtain ⟨kk, _, hgk⟩ := hb.lk.at_ hrk
              have HRS := Lib.hid hrs
              have HRA := Lib.hid hra
              have HRK := Lib.hid hrk
              obtain ⟨Ps, hPs⟩ : ∃ P, P = rs.adr := ⟨_, rfl⟩
              obtain ⟨Pa, hPa⟩ : ∃ P, P = ra.adr := ⟨_, rfl⟩
              obtain ⟨Pk, hPk⟩ : ∃ P, P = rk.adr := ⟨_, rfl⟩
              simp only [Bw.val] at ks ka kk
              rw [← hPs] at ks
              rw [← hPa] at ka
              rw [← hPk] at kk
              have HPS := Lib.hid hPs
              have HPA := Lib.hid hPa
              have HPK := Lib.hid hPk
              have HBK1 := Lib.hid hb
              clear hb hrs hra hrk hlr hrs0 hra0 hrk0 hPs hPa hPk
              go_wp2_with fail
              go_quiet (fail)
              clear x0 x1 x2 ks ka kk hgs hga hgk
              obtain ⟨W5, hW5⟩ : ∃ V, V = W1.drewN nq := ⟨_, rfl⟩
              have HB4 : Hid (Bk4 w W5 B pb P' (some ⟨gs, 0, none⟩) cs (some ⟨gl, 0, none⟩) ca (some ⟨gk, 0, none⟩) ck z' N Sx Ax Kx N N N) := Lib.hid (by rw [hW5]; exact HBK1.out.below (bdn (Below.refl _ _) nq))
              rw [← hW5]
              clear hW5
              have HLS : Hid (Bk4 w W5 B pb P' (some ⟨gs, 0, none⟩) cs (some ⟨gl, 0, none⟩) ca (some ⟨gk, 0, none⟩) ck z' N Sx Ax Kx N N N ∧ MkZ W5 rs 1 rs.n (mS k)) := Lib.hid ⟨HB4.out, HB4.out.ls.mks k rs HRS.out hlt⟩
              go_wp2_with fail
              refine (far_any rs.n rs.c _ (by omega)).mono ?_
              rintro e w5 ⟨rfl, rfl⟩
              go_wp2_with fail
              go_loopw [11] (fun v W => ∃ i : Nat, rs.n ≤ i ∧ i ≤ roomOf rs.n rs.c ∧ v = .slice Ps i rs.c ∧ Hid (Bk4 w W B pb P' (some ⟨gs, 0, none⟩) cs (some ⟨gl, 0, none⟩) ca (some ⟨gk, 0, none⟩) ck z' N Sx Ax Kx N N N ∧ MkZ W rs 1 i (mS k))) (fun v _ => roomOf rs.n rs.c - lenV3 v)
              case atStart => exact ⟨rs.n, Nat.le_refl _, hfs.1, rfl, HLS⟩
              case round =>
                obtain ⟨i, hi1, hi2, rfl, HI⟩ := hrel
                obtain ⟨W4, rfl⟩ : ∃ V, V = wr := ⟨_, rfl⟩
                have hrow := HI.out.1.ls.row rs (List.mem_of_getElem? HRS.out)
                by_cases hlt2 : i < roomOf rs.n rs.c
                · have hkc : i < rs.c := Nat.lt_of_lt_of_le hlt2 hfs.2
                  obtain ⟨b, hb⟩ := hrow.some hkc
                  obtain rfl : Ps = some ⟨b, 0, none⟩ := by rw [HPS.out, Bw.adr_some hb]
                  have hii : (i : Int) < (roomOf rs.n rs.c : Nat) := by omega
                  obtain ⟨W5, hW5⟩ : ∃ W5, W5 = W4.alloc (.cells #[Value.int .i64 (1099511627776 + (k : Int))] TIn) := ⟨_, rfl⟩
                  have hb5 : Below W4.heap.size W4 W5 := by rw [hW5]; exact (Below.refl _ _).alloc (Nat.le_refl _) _
                  have hbk5 := HI.out.1.below hb5
                  have hr5 := hbk5.ls.row rs (List.mem_of_getElem? HRS.out)
                  have hk5 := (HI.out.2).kept (w' := W5) fun b hb => hb5.block b (hrow.lt hb)
                  obtain ⟨old, ko, fo⟩ := hr5.free hb (k := i) (by omega)
                  have HNX := Lib.hid (And.intro (hbk5.markS HRS.out hb (x := i) (.inr (by omega)) (.int .i64 (1099511627776 + (k : Int)))) ((hk5.put1 hr5 hb hkc)))
                  have HSP : Hid (∀ j, j < [Value.int .i64 (1099511627776 + (k : Int))].length → (W5.cell? ⟨b, 0 + i + j, none⟩).isSome = true ∧ W5.frozen? ⟨b, 0 + i + j, none⟩ = false) := Lib.hid (fun j hj => by
                    obtain rfl : j = 0 := by simpa using hj
                    simp [ko, fo])
                  rw [hW5] at HNX HSP
                  clear hrow hb hW5 hb5 hr5 hk5 ko fo hbk5 
                  go_wp2_with (at_builtin; refine wpList_append_room1 _ rfl (.tmp 161) (.tmp 164) 33 33 rfl TIn (.int .i64 0) 8 Tryz.underlying33 info_t63 b 0 i rs.c rfl (.slice (some ⟨W4.heap.size, 0, none⟩) 1 1) rfl 1 [.int .i64 (1099511627776 + (k : Int))] (Src.ofSlice _ Tryz.underlying33 _ 1 1 _ (by simp) (cell_one3 _ _ _) (by simp [Value.oneCell'])) (by omega) (fun j hj => (HSP.out j hj).1) (fun j hj => (HSP.out j hj).2) ?_)
                  rw [show ∀ W : World, W.setCells b i [Value.int .i64 (1099511627776 + (k : Int))] = W.setCell ⟨b, i, none⟩ (.int .i64 (1099511627776 + (k : Int))) from fun W => by simp [World.setCells]]
                  exact ⟨⟨i + 1, by omega, by omega, rfl, HNX⟩, by simp [lenV3]; omega⟩
                · obtain rfl : i = roomOf rs.n rs.c := by omega
                  have hge : ¬ ((roomOf rs.n rs.c : Nat) : Int) < (roomOf rs.n rs.c : Nat) := by omega
                  clear hrow hlt2
                  have HLA : Hid (Bk4 w W4 B pb P' (some ⟨gs, 0, none⟩) cs (some ⟨gl, 0, none⟩) ca (some ⟨gk, 0, none⟩) ck z' N Sx Ax Kx N N N ∧ MkZ W4 rs 1 (roomOf rs.n rs.c) (mS k) ∧ MkZ W4 ra 1 ra.n (mA k)) := Lib.hid ⟨HI.out.1, HI.out.2, HI.out.1.la.mks k ra HRA.out hlt⟩
                  clear HI HLS
                  go_wp2_with fail
                  refine (far_any ra.n ra.c _ (by omega)).mono ?_
                  rintro e w5 ⟨rfl, rfl⟩
                  go_wp2_with fail
                  go_loopw [12] (fun v W => ∃ i : Nat, ra.n ≤ i ∧ i ≤ roomOf ra.n ra.c ∧ v = .slice Pa i ra.c ∧ Hid (Bk4 w W B pb P' (some ⟨gs, 0, none⟩) cs (some ⟨gl, 0, none⟩) ca (some ⟨gk, 0, none⟩) ck z' N Sx Ax Kx N N N ∧ MkZ W rs 1 (roomOf rs.n rs.c) (mS k) ∧ MkZ W ra 1 i (mA k))) (fun v _ => roomOf ra.n ra.c - lenV3 v)
                  case atStart => exact ⟨ra.n, Nat.le_refl _, hfa.1, rfl, HLA⟩
                  case round =>
                    obtain ⟨i, hi1, hi2, rfl, HI⟩ := hrel
                    obtain ⟨W4, rfl⟩ : ∃ V, V = wr := ⟨_, rfl⟩
                    have hrow := HI.out.1.la.row ra (List.mem_of_getElem? HRA.out)
                    by_cases hlt2 : i < roomOf ra.n ra.c
                    · have hkc : i < ra.c := Nat.lt_of_lt_of_le hlt2 hfa.2
                      obtain ⟨b, hb⟩ := hrow.some hkc
                      obtain rfl : Pa = some ⟨b, 0, none⟩ := by rw [HPA.out, Bw.adr_some hb]
                      have hii : (i : Int) < (roomOf ra.n ra.c : Nat) := by omega
                      obtain ⟨W5, hW5⟩ : ∃ W5, W5 = W4.alloc (.cells #[Value.int .i64 (-2199023255552 - (k : Int))] TI6) := ⟨_, rfl⟩
                      have hb5 : Below W4.heap.size W4 W5 := by rw [hW5]; exact (Below.refl _ _).alloc (Nat.le_refl _) _
                      have hbk5 := HI.out.1.below hb5
                      have hr5 := hbk5.la.row ra (List.mem_of_getElem? HRA.out)
                      have hd0 := (HI.out.2.1).kept (w' := W5) fun b hb => hb5.block b ((HI.out.1.ls.row rs (List.mem_of_getElem? HRS.out)).lt hb)
                      have hk5 := (HI.out.2.2).kept (w' := W5) fun b hb => hb5.block b (hrow.lt hb)
                      obtain ⟨old, ko, fo⟩ := hr5.free hb (k := i) (by omega)
                      have hd0' := hd0.kept (w' := W5.setCell ⟨b, i, none⟩ (.int .i64 (-2199023255552 - (k : Int)))) fun b' hb' => Below.heap_setCell _ _ _ _ fun e => by
                        obtain ⟨_, c1, hc1, _⟩ := (hbk5.ls.row rs (List.mem_of_getElem? HRS.out)).at_ b' hb'
                        obtain ⟨_, c2, hc2, _⟩ := hr5.at_ b hb
                        rw [show b' = b from e] at hc1
                        exact absurd (types_apart hc1 hc2) (by decide)
                      have HNX := Lib.hid (And.intro (hbk5.markA HRA.out hb (x := i) (.inr (by omega)) (.int .i64 (-2199023255552 - (k : Int)))) (And.intro hd0' (hk5.put1 hr5 hb hkc)))
                      have HSP : Hid (∀ j, j < [Value.int .i64 (-2199023255552 - (k : Int))].length → (W5.cell? ⟨b, 0 + i + j, none⟩).isSome = true ∧ W5.frozen? ⟨b, 0 + i + j, none⟩ = false) := Lib.hid (fun j hj => by
                        obtain rfl : j = 0 := by simpa using hj
                        simp [ko, fo])
                      rw [hW5] at HNX HSP
                      clear hrow hb hW5 hb5 hr5 hk5 ko fo hbk5 hd0 hd0'
                      go_wp2_with (at_builtin; refine wpList_append_room1 _ rfl (.tmp 175) (.tmp 178) 34 34 rfl TI6 (.int .i64 0) 8 Tryz.underlying34 info_t64 b 0 i ra.c rfl (.slice (some ⟨W4.heap.size, 0, none⟩) 1 1) rfl 1 [.int .i64 (-2199023255552 - (k : Int))] (Src.ofSlice _ Tryz.underlying34 _ 1 1 _ (by simp) (cell_one3 _ _ _) (by simp [Value.oneCell'])) (by omega) (fun j hj => (HSP.out j hj).1) (fun j hj => (HSP.out j hj).2) ?_)
                      rw [show ∀ W : World, W.setCells b i [Value.int .i64 (-2199023255552 - (k : Int))] = W.setCell ⟨b, i, none⟩ (.int .i64 (-2199023255552 - (k : Int))) from fun W => by simp [World.setCells]]
                      exact ⟨⟨i + 1, by omega, by omega, rfl, HNX⟩, by simp [lenV3]; omega⟩
                    · obtain rfl : i = roomOf ra.n ra.c := by omega
                      have hge : ¬ ((roomOf ra.n ra.c : Nat) : Int) < (roomOf ra.n ra.c : Nat) := by omega
                      clear hrow hlt2
                      have HLK : Hid (Bk4 w W4 B pb P' (some ⟨gs, 0, none⟩) cs (some ⟨gl, 0, none⟩) ca (some ⟨gk, 0, none⟩) ck z' N Sx Ax Kx N N N ∧ MkZ W4 rs 1 (roomOf rs.n rs.c) (mS k) ∧ MkZ W4 ra 1 (roomOf ra.n ra.c) (mA k) ∧ MkZ W4 rk 6 rk.n (mK k)) := Lib.hid ⟨HI.out.1, HI.out.2.1, HI.out.2.2, HI.out.1.lk.mks k rk HRK.out hlt⟩
                      clear HI HLA
                      go_wp2_with fail
                      refine (far_any rk.n rk.c _ (by omega)).mono ?_
                      rintro e w5 ⟨rfl, rfl⟩
                      go_wp2_with fail
                      go_loopw [13] (fun v W => ∃ i : Nat, rk.n ≤ i ∧ i ≤ roomOf rk.n rk.c ∧ v = .slice Pk i rk.c ∧ Hid (Bk4 w W B pb P' (some ⟨gs, 0, none⟩) cs (some ⟨gl, 0, none⟩) ca (some ⟨gk, 0, none⟩) ck z' N Sx Ax Kx N N N ∧ MkZ W rs 1 (roomOf rs.n rs.c) (mS k) ∧ MkZ W ra 1 (roomOf ra.n ra.c) (mA k) ∧ MkZ W rk 6 i (mK k))) (fun v _ => roomOf rk.n rk.c - lenV3 v)
                      case atStart => exact ⟨rk.n, Nat.le_refl _, hfk.1, rfl, HLK⟩
                      case round =>
                        obtain ⟨i, hi1, hi2, rfl, HI⟩ := hrel
                        obtain ⟨W4, rfl⟩ : ∃ V, V = wr := ⟨_, rfl⟩
                        have hrow := HI.out.1.lk.row rk (List.mem_of_getElem? HRK.out)
                        by_cases hlt2 : i < roomOf rk.n rk.c
                        · have hkc : i < rk.c := Nat.lt_of_lt_of_le hlt2 hfk.2
                          obtain ⟨b, hb⟩ := hrow.some hkc
                          obtain rfl : Pk = some ⟨b, 0, none⟩ := by rw [HPK.out, Bw.adr_some hb]
                          have hii : (i : Int) < (roomOf rk.n rk.c : Nat) := by omega
                          obtain ⟨W5, hW5⟩ : ∃ W5, W5 = W4.alloc (.cells #[Value.int .i64 0, .string ⟨#[]⟩, .int .i64 (4398046511104 + (k : Int)), .slice none 0 0, .slice none 0 0, .slice none 0 0] TTm) := ⟨_, rfl⟩
                          have hb5 : Below W4.heap.size W4 W5 := by rw [hW5]; exact (Below.refl _ _).alloc (Nat.le_refl _) _
                          have hbk5 := HI.out.1.below hb5
                          have hr5 := hbk5.lk.row rk (List.mem_of_getElem? HRK.out)
                          have hd0 := (HI.out.2.1).kept (w' := W5) fun b hb => hb5.block b ((HI.out.1.ls.row rs (List.mem_of_getElem? HRS.out)).lt hb)
                          have hd1 := (HI.out.2.2.1).kept (w' := W5) fun b hb => hb5.block b ((HI.out.1.la.row ra (List.mem_of_getElem? HRA.out)).lt hb)
                          have hk5 := (HI.out.2.2.2).kept (w' := W5) fun b hb => hb5.block b (hrow.lt hb)
                          have hle5 := hr5.le
                          have hcs : ∀ j, j < 6 → ∃ old, W5.cell? ⟨b, i * 6 + j, none⟩ = some old ∧ W5.frozen? ⟨b, i * 6 + j, none⟩ = false := fun j hj => hr5.free hb (by omega)
                          have hmark : ∀ W (o : Nat) (u : Value), rk.n * 6 ≤ o → Bk4 w W B pb P' (some ⟨gs, 0, none⟩) cs (some ⟨gl, 0, none⟩) ca (some ⟨gk, 0, none⟩) ck z' N Sx Ax Kx N N N → Bk4 w (W.setCell ⟨b, o, none⟩ u) B pb P' (some ⟨gs, 0, none⟩) cs (some ⟨gl, 0, none⟩) ca (some ⟨gk, 0, none⟩) ck z' N Sx Ax Kx N N N := fun W o u ho h => h.markK HRK.out hb (.inr ho) u
                          have hsx : Bk4 w (sixW W5 b (i * 6) (.int .i64 0) (.string ⟨#[]⟩) (.int .i64 (4398046511104 + (k : Int))) (.slice none 0 0) (.slice none 0 0) (.slice none 0 0)) B pb P' (some ⟨gs, 0, none⟩) cs (some ⟨gl, 0, none⟩) ca (some ⟨gk, 0, none⟩) ck z' N Sx Ax Kx N N N := hmark _ _ _ (by omega) (hmark _ _ _ (by omega) (hmark _ _ _ (by omega) (hmark _ _ _ (by omega) (hmark _ _ _ (by omega) (hmark _ _ _ (by omega) hbk5)))))
                          have hd0' := hd0.kept (w' := sixW W5 b (i * 6) (.int .i64 0) (.string ⟨#[]⟩) (.int .i64 (4398046511104 + (k : Int))) (.slice none 0 0) (.slice none 0 0) (.slice none 0 0)) fun b' hb' => by
                            have hne : b' ≠ b := fun e => by
                              obtain ⟨_, c1, hc1, _⟩ := (hbk5.ls.row rs (List.mem_of_getElem? HRS.out)).at_ b' hb'
                              obtain ⟨_, c2, hc2, _⟩ := hr5.at_ b hb
                              rw [e] at hc1
                              exact absurd (types_apart hc1 hc2) (by decide)
                            unfold sixW
                            rw [Below.heap_setCell _ _ _ _ hne, Below.heap_setCell _ _ _ _ hne, Below.heap_setCell _ _ _ _ hne, Below.heap_setCell _ _ _ _ hne, Below.heap_setCell _ _ _ _ hne, Below.heap_setCell _ _ _ _ hne]
                          have hd1' := hd1.kept (w' := sixW W5 b (i * 6) (.int .i64 0) (.string ⟨#[]⟩) (.int .i64 (4398046511104 + (k : Int))) (.slice none 0 0) (.slice none 0 0) (.slice none 0 0)) fun b' hb' => by
                            have hne : b' ≠ b := fun e => by
                              obtain ⟨_, c1, hc1, _⟩ := (hbk5.la.row ra (List.mem_of_getElem? HRA.out)).at_ b' hb'
                              obtain ⟨_, c2, hc2, _⟩ := hr5.at_ b hb
                              rw [e] at hc1
                              exact absurd (types_apart hc1 hc2) (by decide)
                            unfold sixW
                            rw [Below.heap_setCell _ _ _ _ hne, Below.heap_setCell _ _ _ _ hne, Below.heap_setCell _ _ _ _ hne, Below.heap_setCell _ _ _ _ hne, Below.heap_setCell _ _ _ _ hne, Below.heap_setCell _ _ _ _ hne]
                          have HNX := Lib.hid (And.intro hsx (And.intro hd0' (And.intro hd1' (hk5.put6 hr5 hb hkc))))
                          have HSP : Hid (∀ j, j < [Value.int .i64 0, .string ⟨#[]⟩, .int .i64 (4398046511104 + (k : Int)), .slice none 0 0, .slice none 0 0, .slice none 0 0].length → (W5.cell? ⟨b, 0 + i * 6 + j, none⟩).isSome = true ∧ W5.frozen? ⟨b, 0 + i * 6 + j, none⟩ = false) := Lib.hid (fun j hj => by
                            obtain ⟨old, h1, h2⟩ := hcs j (by simpa using hj)
                            rw [Nat.zero_add, h1]
                            exact ⟨rfl, h2⟩)
                          rw [hW5] at HNX HSP
                          clear hrow hb hW5 hb5 hr5 hk5 hbk5 hle5 hcs hmark hsx hd0 hd0' hd1 hd1'
                          go_wp2_with (at_builtin; refine wpList_append_room6 _ rfl (.tmp 189) (.tmp 193) 22 22 rfl TTm (.agg #[.int .i64 0, .string ⟨#[]⟩, .int .i64 0, .slice none 0 0, .slice none 0 0, .slice none 0 0]) 104 Tryz.underlying22 info_tm6 b 0 i rk.c rfl (.slice (some ⟨W4.heap.size, 0, none⟩) 1 1) rfl 1 [.int .i64 0, .string ⟨#[]⟩, .int .i64 (4398046511104 + (k : Int)), .slice none 0 0, .slice none 0 0, .slice none 0 0] (Src.ofSlice _ Tryz.underlying22 _ 1 1 _ (by simp) (cells_at3 _ [Value.int .i64 0, .string ⟨#[]⟩, .int .i64 (4398046511104 + (k : Int)), .slice none 0 0, .slice none 0 0, .slice none 0 0] _) (by simp [Value.oneCell'])) (by omega) (fun j hj => (HSP.out j hj).1) (fun j hj => (HSP.out j hj).2) ?_)
                          rw [setCells6]
                          exact ⟨⟨i + 1, by omega, by omega, rfl, HNX⟩, by simp [lenV3]; omega⟩
                        · obtain rfl : i = roomOf rk.n rk.c := by omega
                          have hge : ¬ ((roomOf rk.n rk.c : Nat) : Int) < (roomOf rk.n rk.c : Nat) := by omega
                          clear hrow hlt2
                          have hupS : MkZ W4 rs 1 (roomOf rs.n rs.c) (mS k) := HI.out.2.1
                          obtain ⟨x0, x1, x2, _, _, _⟩ := HI.out.1.cells
                          obtain ⟨ks, fs, hgs⟩ := HI.out.1.ls.at_ HRS.out
                          obtain ⟨ka, fa, hga⟩ := HI.out.1.la.at_ HRA.out
                          obtain ⟨kk, fk, hgk⟩ := HI.out.1.lk.at_ HRK.out
                          obtain ⟨cu1, hc1⟩ := row_type HI.out.1.ls.own gs rfl
                          obtain ⟨cu2, hc2⟩ := row_type HI.out.1.la.own gl rfl
                          obtain ⟨cu3, hc3⟩ := row_type HI.out.1.lk.own gk rfl
                          have n12 : gs ≠ gl := fun e => by rw [e] at hc1; exact absurd (types_apart hc1 hc2) (by decide)
                          have n13 : gs ≠ gk := fun e => by rw [e] at hc1; exact absurd (types_apart hc1 hc3) (by decide)
                          have n23 : gl ≠ gk := fun e => by rw [e] at hc2; exact absurd (types_apart hc2 hc3) (by decide)
                          have HST : Hid (Bk4 w (((W4.setCell ⟨gs, k, none⟩ (.slice Ps (roomOf rs.n rs.c) rs.c)).setCell ⟨gl, k, none⟩ (.slice Pa (roomOf ra.n ra.c) ra.c)).setCell ⟨gk, k, none⟩ (.slice Pk (roomOf rk.n rk.c) rk.c)) B pb P' (some ⟨gs, 0, none⟩) cs (some ⟨gl, 0, none⟩) ca (some ⟨gk, 0, none⟩) ck z' N (Sx.set k rs.up) (Ax.set k ra.up) (Kx.set k rk.up) N N N) := Lib.hid (by
                            rw [HPS.out, HPA.out, HPK.out]
                            have h1 := HI.out.1.upS HRS.out HI.out.2.1
                            have kp : ∀ {t : TypeId} {z m : Nat} {mk : Nat → List Value} {cs : List Value} {rr : Bw} {tt : TypeId} {g : Nat} {cu : Array Value} {v : Value} {W : World}, W.heap[g]? = some (.cells cu tt (0, 0)) → ZwAt t z W B rr → t ≠ tt → MkZ W rr z m cs → MkZ (W.setCell ⟨g, k, none⟩ v) rr z m cs := fun {t z m mk cs rr tt g cu v W} hg hr ht hm => hm.kept fun b hb => Below.heap_setCell _ _ _ _ fun e => by
                              obtain ⟨_, c2, h2, _⟩ := hr.at_ b hb
                              rw [show b = g from e] at h2
                              exact ht (types_apart h2 hg)
                            have m1 := kp (mk := mA) (v := rs.up.val) hc1 (HI.out.1.la.row ra (List.mem_of_getElem? HRA.out)) (by decide) HI.out.2.2.1
                            have m2 := kp (mk := mA) (v := rs.up.val) hc1 (HI.out.1.lk.row rk (List.mem_of_getElem? HRK.out)) (by decide) HI.out.2.2.2
                            have h2 := h1.upA HRA.out m1
                            obtain ⟨cu4, hc4⟩ := row_type h1.la.own gl rfl
                            have m3 := kp (mk := mA) (v := ra.up.val) hc4 (h1.lk.row rk (List.mem_of_getElem? HRK.out)) (by decide) m2
                            exact h2.upK HRK.out m3)
                          clear hupS HI hc1 hc2 hc3 HLK
                          go_wp2_with fail
                          go_region
                          all_goals go_wp2_with fail
                          refine ⟨⟨k + 1, Sx.set k rs.up, Ax.set k ra.up, Kx.set k rk.up, by omega, by omega, by go_num, Lib.hid ⟨_, _, _, HST.out.below (Below.refl _ _).drew⟩, Lib.hid (by simpa using HLX.out), Lib.hid fun q hq => ?_⟩, by simp [intOf]; omega⟩
                          rw [List.getElem?_set_ne (by omega), List.getElem?_set_ne (by omega), List.getElem?_set_ne (by omega)]
                          exact HEQ.out q (by omega)
            · obtain rfl : N = k := by omega
              have hge2 : ¬ (N : Int) < N := by omega
              clear hlt hb
              go_wp2_with fail
              refine bodyPost_end (results_none rfl _ _ _) rfl ⟨rfl, ?_, ?_⟩
              · obtain ⟨sv, av, kv, h⟩ := HK.out
                exact h.on.mono fun x hx hp => by
                  rw [HP.out] at hp
                  rcases hp with hp | hp | hp
                  · exact .inl hp
                  · exact .inr hp
                  · omega
              · obtain ⟨sv, av, kv, h⟩ := HK.out
                obtain ⟨e1, e2, e3⟩ := HLX.out
                have hp : ∀ x, P' x → x < W1.heap.size → P x ∨ x ∈ blksT r ∨ (w.heap.size ≤ x ∧ x < W1.heap.size) := fun x hx hlt => by
                  rw [HP.out] at hx
                  rcases hx with hx | hx | hx
                  · exact .inl hx
                  · exact .inr (.inl hx)
                  · exact .inr (.inr ⟨hx, hlt⟩)
                refine ⟨z', Sx, Ax, Kx, ⟨sv, av, kv, h.bk, hp pb h.pp (heap_lt h.bk), h.bb, ?_, ?_, ?_, OnlyP.refl _ _⟩, by rw [e1, e2], by rw [e1, e3], by rw [e1]; exact HL.out.2.2.2.1, HL.out.2.2.2.2⟩
                · rw [e1]; exact h.ls.inP hp
                · rw [e1]; exact h.la.inP hp
                · rw [e1]; exact h.lk.inP hp
end Go.Proofs.YtkdejffhdhcocaaGreat
