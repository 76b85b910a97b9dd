/- The walk of told: number, place, names and text of an error are as its book says. Conditions: the listed variables of Go's library are as laid; at most 65536 names. -/
import Derived.Test.YtcohinfpcafcpaaDoorFaultStep
import Derived.Deep.RegionWith
import Derived.Deep.RegionHeld3
import Derived.Deep.QuietTactic
import Derived.BigQuiet
namespace Go.Proofs.YtcohinfpcafcpaaDoor
open Go.RowKit Go.Extern.Stop Go.Stop Go.Extern Go.Sort

theorem OwnsTexts.len {w : World} {B : Nat} {nv : Value} {l : List (List UInt8)} (h : OwnsTexts w B nv l) : ∃ A cp, nv = .slice A l.length cp := by
  rcases h.2 with ⟨rfl, h0⟩ | ⟨g, cap, cur, rfl, _⟩
  · exact ⟨none, 0, by rw [h0]⟩
  · exact ⟨_, _, rfl⟩
/-- the text at an index -/
def textAt (l : List (List UInt8)) (i : Nat) : ByteArray := ⟨(l[i]?.getD []).toArray⟩
theorem OwnsTexts.cell {w : World} {B : Nat} {A : Option Addr} {n cp : Nat} {l : List (List UInt8)} (h : OwnsTexts w B (.slice A n cp) l) {i : Nat} (hi : i < l.length) :
    ∃ g, A = some ⟨g, 0, none⟩ ∧ g < w.heap.size ∧ w.cell? ⟨g, i, none⟩ = some (.string (textAt l i)) := by
  rcases h.2 with ⟨_, h0⟩ | ⟨g, cap, cur, hv, _, hb, hl, _, hs, ht⟩
  · omega
  · simp only [Value.slice.injEq] at hv
    obtain ⟨rfl, -, -⟩ := hv
    refine ⟨g, rfl, at_lt hb, ?_⟩
    have h1 : (cur.toList.take (l.length * 1))[i]? = (l.map encStr)[i]? := by rw [ht]
    rw [List.getElem?_take, if_pos (by omega)] at h1
    simp only [World.cell?, hb, List.getElem?_map] at h1 ⊢
    simp only [Array.getElem?_toList] at h1
    simp [h1, List.getElem?_eq_getElem hi, encStr, textAt]

set_option maxRecDepth 100000 in
set_option maxHeartbeats 4000000 in
theorem told_none (bk : Bk) (nv : Value) (B : Nat) (w : World) (hS : StAt B w none bk nv) :
    Calls Tryd.prog 15 #[.nilIface, bk.val nv] w fun e w' => e = .returned (.bool true) ∧ Below w.heap.size w w' := by
  obtain ⟨th, bc, bp, bn, bt⟩ := bk
  have hth : th = false := hS.none_ rfl
  subst hth
  obtain ⟨A, cp, rfl⟩ := hS.names.len
  clear hS
  simp only [Bk.val]
  go_enter Tryd.func15, Tryd.ntmps15
  go_wp2_with fail
  go_quiet (fail)
  go_wp2_with fail
  refine (code_nil _).mono ?_
  rintro r w1 ⟨rfl, h1⟩
  have H1 := Lib.hid ((bdn ((Below.refl w.heap.size w).alloc (Nat.le_refl _) _) _).trans (h1.mono (by simp)))
  clear h1
  go_wp2_with fail
  refine (place_nil _).mono ?_
  rintro r w2 ⟨rfl, h2⟩
  have H2 := Lib.hid (H1.out.then_ h2)
  clear h2
  go_wp2_with fail
  refine (trail_nil _).mono ?_
  rintro r w3 ⟨v, rfl, hv, h3⟩
  have H3 := Lib.hid (H2.out.then_ h3)
  obtain ⟨A', cp', rfl⟩ := hv.len
  simp only [List.length_nil]
  clear h3 hv
  go_wp2_with fail
  go_ret
  exact ⟨rfl, H3.out⟩

theorem keep_four {w wp wn : World} {g : Nat} {a b c d : Value} (k : Below wp.heap.size wp wn)
    (h : (wp.cell? ⟨g, 1, none⟩ = some a ∧ wp.cell? ⟨g, 2, none⟩ = some b ∧ wp.cell? ⟨g, 3, none⟩ = some c ∧ wp.cell? ⟨g, 4, none⟩ = some d) ∧ Hid (Below w.heap.size w wp))
    (ka : w.cell? ⟨g, 1, none⟩ = some a) (kb : w.cell? ⟨g, 2, none⟩ = some b) (kc : w.cell? ⟨g, 3, none⟩ = some c) (kd : w.cell? ⟨g, 4, none⟩ = some d) (hg : g < w.heap.size) :
    (wn.cell? ⟨g, 1, none⟩ = some a ∧ wn.cell? ⟨g, 2, none⟩ = some b ∧ wn.cell? ⟨g, 3, none⟩ = some c ∧ wn.cell? ⟨g, 4, none⟩ = some d) ∧ Hid (Below w.heap.size w wn) :=
  have hb := keep_call h.2 k
  ⟨⟨keep_cell ka hb hg, keep_cell kb hb hg, keep_cell kc hb hg, keep_cell kd hb hg⟩, hb⟩

set_option maxRecDepth 100000 in
set_option maxHeartbeats 4000000 in
theorem told_some (e : Err) (nv : Value) (B : Nat) (w : World) (hS : StAt B w (some e) e.book nv) (hp : Pow10 w) (hg : ErrTy w) (hn : e.names.length ≤ 65536) :
    Calls Tryd.prog 15 #[.iface e.ty e.dat, e.book.val nv] w fun r w' => r = .returned (.bool true) ∧ Below w.heap.size w w' := by
  have hE := (hS.some_ e rfl).1
  have hfit := (hS.some_ e rfl).2.1
  have hN0 : OwnsTexts w B nv e.names := hS.names
  obtain ⟨A, cp, rfl⟩ := hN0.len
  have HG := Lib.hid hg
  have HP := Lib.hid hp
  have HE := Lib.hid hE
  have HN := Lib.hid hn
  have HFit := Lib.hid hfit
  have HN0 := Lib.hid hN0
  clear hS hE hfit hN0 hg hp hn
  simp only [Err.book, Bk.val]
  go_enter Tryd.func15, Tryd.ntmps15
  go_wp2_with fail
  obtain ⟨w0, hw0⟩ : ∃ w0, w0 = w.alloc (.cells #[.bool true, .int .i64 e.code, .int .i64 e.place, .slice A e.names.length cp, .string ⟨e.text.toArray⟩] 32) := ⟨_, rfl⟩
  have hb0 : Below w.heap.size w w0 := by rw [hw0]; exact (Below.refl _ _).alloc (Nat.le_refl _) _
  have hbk0 : w0.heap[w.heap.size]? = some (.cells #[.bool true, .int .i64 e.code, .int .i64 e.place, .slice A e.names.length cp, .string ⟨e.text.toArray⟩] 32 (0, 0)) := by rw [hw0]; exact heap_alloc_new w _
  rw [← hw0]
  have H0 := Lib.hid hb0
  have HBK := Lib.hid hbk0
  clear hw0 hb0 hbk0
  obtain ⟨q0, q1, q2, q3, q4⟩ := cells5 HBK.out
  go_quiet (fail)
  clear q0 q1 q2 q3 q4
  generalize hx : World.drewN w0 _ = wq
  have hb1 : Below w.heap.size w wq := by rw [← hx]; exact bdn H0.out _
  have hbk1 : wq.heap[w.heap.size]? = some (.cells #[.bool true, .int .i64 e.code, .int .i64 e.place, .slice A e.names.length cp, .string ⟨e.text.toArray⟩] 32 (0, 0)) := by rw [← hx]; exact HBK.out
  clear H0 HBK hx w0
  have H0 := Lib.hid hb1
  have HBK := Lib.hid hbk1
  clear hb1 hbk1
  go_wp2_with fail
  refine (code_any e wq (HE.out.on H0.out) (HG.out.on H0.out)).mono ?_
  rintro r w1 ⟨rfl, h1⟩
  have H1 := Lib.hid h1
  clear h1
  go_wp2_with fail
  refine (place_any e w1 ((HE.out.on H0.out).on H1.out) ((HG.out.on H0.out).on H1.out)).mono ?_
  rintro r w2 ⟨rfl, h2⟩
  have H2 := Lib.hid (H1.out.then_ h2)
  clear h2 H1
  go_wp2_with fail
  refine (trail_any e w2 ((HE.out.on H0.out).on H2.out) ((HG.out.on H0.out).on H2.out) HN.out).mono ?_
  rintro r w3 ⟨v, rfl, hv, h3⟩
  have H3 := Lib.hid (H2.out.then_ h3)
  obtain ⟨A', cp', rfl⟩ := hv.len
  have HV := Lib.hid hv
  clear h3 hv H2
  obtain ⟨q0, q1, q2, q3, q4⟩ := cells5 ((H3.out.block _ (at_lt HBK.out)).trans HBK.out)
  obtain ⟨f, ⟨un, um, uf⟩, hc⟩ := err_error e w3 ((HE.out.on H0.out).on H3.out) HFit.out
  have HC := Lib.hid hc
  have HP3 := Lib.hid ((HP.out.on H0.out).on H3.out)
  have hlt := Nat.lt_of_lt_of_le (at_lt HBK.out) H3.out.size
  clear hc
  go_wp2_with fail
  go_region_held3 (fun w' => (w'.cell? ⟨w.heap.size, 1, none⟩ = some (.int .i64 e.code) ∧ w'.cell? ⟨w.heap.size, 2, none⟩ = some (.int .i64 e.place) ∧ w'.cell? ⟨w.heap.size, 3, none⟩ = some (.slice A e.names.length cp) ∧ w'.cell? ⟨w.heap.size, 4, none⟩ = some (.string ⟨e.text.toArray⟩)) ∧ Hid (Below w3.heap.size w3 w'))
    (first | exact ⟨⟨q1, q2, q3, q4⟩, keep_start _⟩ | exact keep_four hb' hH q1 q2 q3 q4 hlt)
    (first | (rename_i hH _ _; refine (HC.out _ hH.2.out (HP3.out.on hH.2.out)).mono ?_; rintro r w' ⟨rfl, hb'⟩))
  all_goals
    rename_i hH
    go_wp2_with fail
    obtain ⟨n, hn⟩ : ∃ n, n = e.names.length := ⟨_, rfl⟩
    have HV' := Lib.hid (HV.out.keptBelow hH.2.out)
    have HN' := Lib.hid (((HN0.out.keptBelow H0.out).keptBelow H3.out).keptBelow hH.2.out)
    have HW := Lib.hid (((H0.out.trans (H3.out.mono H0.out.size)).trans (hH.2.out.mono (Nat.le_trans H0.out.size H3.out.size))))
    have k3 : w'.cell? ⟨w.heap.size, 3, none⟩ = some (.slice A n cp) := by rw [hn]; exact hH.1.2.2.1
    have hltw : w.heap.size < w'.heap.size := Nat.lt_of_lt_of_le hlt hH.2.out.size
    clear hlt HC HP3 un um uf q0 q1 q2 q3 q4 H3 HBK H0 HN0 hH hb'
    have HNN := Lib.hid hn
    rw [← hn] at HV' HN' ⊢
    clear hn
    go_loopw [8] (fun v8 wr => ∃ i : Nat, i ≤ n ∧ v8 = .int .i64 i ∧ Below w'.heap.size w' wr) (fun v8 _ => n - (intOf v8).toNat)
    case atStart => exact ⟨0, Nat.zero_le _, rfl, Below.refl _ _⟩
    case round =>
      obtain ⟨i, hi, rfl, hb⟩ := hrel
      have HB := Lib.hid hb
      by_cases hlt : i < n
      · have hlt' : i < e.names.length := by rw [← HNN.out]; exact hlt
        obtain ⟨g, rfl, hg1, c1⟩ := (HV'.out.keptBelow hb).cell hlt'
        obtain ⟨g', rfl, hg2, c2⟩ := (HN'.out.keptBelow hb).cell hlt'
        have k3' := (hb.cell (p := ⟨w.heap.size, 3, none⟩) hltw).trans k3
        clear hb hlt' hg1 hg2 k3
        have hlen : n ≤ 65536 := by have := HN.out; have := HNN.out; omega
        go_wp2_with fail
        go_quiet (fail)
        go_wp2_with fail
        refine ⟨⟨i + 1, by omega, by go_num, ?_⟩, ?_⟩
        · exact bdn HB.out _
        · simp [intOf]; omega
      · have hge : ¬ (i : Int) < n := by omega
        go_wp2_with fail
        go_ret
        exact ⟨rfl, HW.out.then_ HB.out⟩
/-- told of an error and its book: true -/
theorem told_any (o : Option Err) (bk : Bk) (nv : Value) (B : Nat) (w : World) (hS : StAt B w o bk nv) (hp : Pow10 w) (hg : ErrTy w) (hn : bk.names.length ≤ 65536) :
    Calls Tryd.prog 15 #[oval o, bk.val nv] w fun r w' => r = .returned (.bool true) ∧ Below w.heap.size w w' := by
  cases o with
  | none => exact told_none bk nv B w hS
  | some e =>
    obtain rfl := (hS.some_ e rfl).2.2
    exact told_some e nv B w hS hp hg hn

/-- what more leaves, with all that a caller keeps beside it: books in memory stay as they are, errors that lay in memory lie so still -/
def MoreAt2 (k : Int) (s : ByteArray) (o : Option Err) (bk : Bk) (B : Nat) (w0 w : World) (e : Ending) (w' : World) : Prop :=
  ∃ (o' : Option Err) (bk' : Bk) (A : Option Addr) (n cp : Nat), e = .returned (.tuple #[oval o', .agg #[.bool bk'.there, .int .i64 bk'.code, .int .i64 bk'.place, .slice A n cp, .string ⟨bk'.text.toArray⟩]]) ∧ StAt B w' o' bk' (.slice A n cp) ∧
    StepRel k s o o' ∧ (o = none → bk' = bk) ∧ Below B w0 w' ∧ (∀ (g : Nat) (old : Array Value), w.heap[g]? = some (.cells old 32 (0, 0)) → w'.heap[g]? = w.heap[g]?) ∧ (∀ e0, ErrAt w e0 → ErrAt w' e0) ∧ w.heap.size ≤ w'.heap.size
theorem more_at2 (k : Int) (s : ByteArray) (o : Option Err) (bk : Bk) (A : Option Addr) (n cp : Nat) (B : Nat) (w0 w : World) (hS : StAt B w o bk (.slice A n cp)) (hB : B ≤ w.heap.size) (hb : Below B w0 w)
    (hl : s.size + 9 + bk.text.length ≤ 9223372036854775807) (hn : bk.names.length ≤ 65536) :
    Calls Tryd.prog 13 #[oval o, .agg #[.bool bk.there, .int .i64 bk.code, .int .i64 bk.place, .slice A n cp, .string ⟨bk.text.toArray⟩], .agg #[.int .i64 k, .string s]] w (MoreAt2 k s o bk B w0 w) :=
  (more_any k s o bk (.slice A n cp) B w hS hB hl hn).mono fun e w' ⟨o', bk', nv', he, hS', hgr, hr, hn', _⟩ => by
    obtain ⟨A', n', cp', rfl⟩ := hS'.names.form
    refine ⟨o', bk', A', n', cp', he, hS', hr, hn', hb.grown hgr hB (fun k hk => (hS.names.lt k hk).1), fun g old hg => ?_, fun e0 h0 => h0.grown hgr (OwnsTexts.row hS.names), hgr.size⟩
    refine hgr.block g (at_lt hg) (fun h => ?_)
    obtain ⟨cur, hc⟩ := OwnsTexts.row hS.names g h.symm
    rw [hg] at hc
    injection hc with hc
    injection hc with _ ht
    cases ht
theorem step_few {k : Int} {s : ByteArray} {o o' : Option Err} {bk bk' : Bk} {nv nv' : Value} {B : Nat} {w w' : World} (hS : StAt B w o bk nv) (hS' : StAt B w' o' bk' nv') (hr : StepRel k s o o') (hb : o = none → bk' = bk) : bk'.names.length ≤ bk.names.length + 1 := by
  cases o with
  | none => rw [hb rfl]; omega
  | some e =>
    obtain rfl := (hS.some_ e rfl).2.2
    rcases hr with ⟨_, b, rfl⟩ | ⟨_, b, rfl⟩ | ⟨_, _, rfl⟩
    · obtain rfl := (hS'.some_ _ rfl).2.2
      simp [Err.book, Err.names]
    · obtain rfl := (hS'.some_ _ rfl).2.2
      simp [Err.book, Err.names]
    · obtain rfl := (hS'.some_ _ rfl).2.2
      omega
theorem Inv.few {sz : Nat} {bk : Bk} (h : Inv sz bk) (hlt : sz < 65536) : bk.names.length ≤ 65535 := by
  obtain ⟨Tp, h1, h2, h3, h4, h5⟩ := h
  omega
end Go.Proofs.YtcohinfpcafcpaaDoor
