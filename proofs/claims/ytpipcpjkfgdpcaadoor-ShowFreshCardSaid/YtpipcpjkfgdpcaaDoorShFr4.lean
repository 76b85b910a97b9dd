/- abacuslaw4.(*Book).TakeArrays. Condition: sizes within reach. -/
import Derived.Test.YtpipcpjkfgdpcaaDoorShFr3
namespace Go.Proofs.YtpipcpjkfgdpcaaDoor
open Go.RowKit

/-- a book's cells, its list of numbers at hand -/
def csA (iv : Value) (v : Value) (m : Nat) : Array Value := #[iv, .int .i64 m, v]
theorem csA_count (iv v : Value) (m m' : Nat) : (csA iv v m).setIfInBounds 1 (.int .i64 ((m' : Nat) : Int)) = csA iv v m' := rfl
theorem csA_list (iv v v' : Value) (m : Nat) : (csA iv v m).setIfInBounds 2 v' = csA iv v' m := rfl
theorem info_tsa : (Tryd.prog.info? TA).map (fun i => (i.zero, i.size, i.bytes)) = some (some (.int .i64 0), 1, 8) := by kernel_rfl
theorem info_tsl2 : (Tryd.prog.info? TSA).map (fun i => (i.zero, i.size, i.bytes)) = some (some (.slice none 0 0), 1, 24) := by kernel_rfl

/-- the blocks that TakeArrays writes -/
def AP (pb : Nat) (iv av : Value) (l : List (Rw × Rw)) (k : Nat) : Prop := k = pb ∨ some k = iv.ownBlock ∨ some k = av.ownBlock ∨ ∃ p ∈ l, p.1.g = some k ∨ p.2.g = some k

theorem T1.other {t ts t' : TypeId} {cs : Value → Nat → Array Value} {W0 W W' : World} {B pb : Nat} {iv iv' : Value} {rs ns ks : List Rw} {i mu : Nat} {row : Option Nat} (h : T1 t ts cs W0 B pb iv rs ns i W iv' mu ks) (hg : W.grownBy W' row)
    (hr : ∀ k, row = some k → W0.heap.size ≤ k ∧ ∃ cur, W.heap[k]? = some (.cells cur t' (0, 0))) (h1 : t' ≠ TBk) (h2 : t' ≠ ts) (h3 : t ≠ t') : T1 t ts cs W0 B pb iv rs ns i W' iv' mu ks := by
  have keep : ∀ s ∈ ns, ∀ b, s.g = some b → W'.heap[b]? = W.heap[b]? := fun s hs b hb => hg.block b ((h.ra s hs).lt hb) (fun e => by
    obtain ⟨_, cur, hc⟩ := hr b e.symm
    exact (h.ra s hs).ne hc h3 hb)
  refine ⟨fun s hs => (h.ra s hs).kept (keep s hs), fun j s hj => (h.km j s hj).kept (keep s ((h.sub.trans (List.take_sublist _ _)).subset (List.mem_of_getElem? hj))), h.sub, (hg.block _ (heap_lt h.bk) (fun e => ?_)).trans h.bk, own_kept h.oi fun k hk => ?_, h.on.grown hg (fun k hk hlt => ?_), h.at_⟩
  · obtain ⟨_, cur, hc⟩ := hr _ e.symm
    exact h1 (types_apart hc h.bk)
  · obtain ⟨c2, hc2⟩ := own_type h.oi k hk
    exact hg.block k (heap_lt hc2) (fun e => by
      obtain ⟨_, cur, hc⟩ := hr k e.symm
      exact h2 (types_apart hc hc2))
  · have := (hr k hk).1
    omega

/-- behind Take, the numbers' list as it stood: its rows are to be grown now -/
theorem T1.again {cs cs2 : Value → Nat → Array Value} {W0 W1 w2 : World} {B pb i mu mu2 n : Nat} {av av' iv : Value} {xs : List Value} {rs ns ks ns' : List Rw} {cb : Array Value} (h : T1 TA TSA cs W0 B pb av rs ns i W1 av' mu ks) (h2 : Only (BP pb iv ns') W1 w2)
    (hpb : W1.heap[pb]? = some (.cells cb TBk (0, 0))) (hiv : W1.ownsRow B TSI 1 iv n xs) (hns : ∀ r ∈ ns', RowAt TI W1 B r) (hbk : w2.heap[pb]? = some (.cells (cs2 av' mu2) TBk (0, 0))) : T2 TA TSA cs2 w2 B pb av' rs ns ks 0 w2 av' mu2 := by
  have keep : ∀ r ∈ ns, ∀ b, r.g = some b → w2.heap[b]? = W1.heap[b]? := fun r hr b hb => by
    obtain ⟨_, c, hc, _⟩ := (h.ra r hr).at_ b hb
    exact h2.block b (heap_lt hc) (bp_not hpb hiv hns hc (by decide) (by decide) (by decide))
  have ho : w2.ownsRow B TSA 1 av' (rs.length + ks.length) ((rs ++ ks).map Rw.val) := own_kept h.oi fun k hk => by
    obtain ⟨c, hc⟩ := own_type h.oi k hk
    exact h2.block k (heap_lt hc) (bp_not hpb hiv hns hc (by decide) (by decide) (by decide))
  exact { ra := fun r hr => (h.ra r hr).kept (keep r hr), km := fun j r hj => by
            rw [if_neg (Nat.not_lt_zero j)]
            exact (h.km j r hj).kept (keep r ((h.sub.trans (List.take_sublist _ _)).subset (List.mem_of_getElem? hj))),
          sub := h.sub.trans (List.take_sublist _ _), bk := hbk, oi := by rw [upTo_zero]; exact ho, on := Only.refl _ _, at_ := .inl rfl }
theorem bp_row {t ts : TypeId} {w : World} {B pb b n : Nat} {v : Value} {xs : List Value} {ns : List Rw} {cs c : Array Value} (hb : w.heap[pb]? = some (.cells cs TBk (0, 0))) (ho : w.ownsRow B ts 1 v n xs) (hk : w.heap[b]? = some (.cells c t (0, 0))) (h1 : t ≠ TBk) (h2 : t ≠ ts)
    (hns : ∀ s ∈ ns, s.g ≠ some b) : ¬ BP pb v ns b := fun hp => by
  rcases hp with hp | hp | ⟨s, hs, hp⟩
  · subst hp; exact h1 (types_apart hk hb)
  · obtain ⟨cur, hc⟩ := own_type ho b hp.symm
    exact h2 (types_apart hk hc)
  · exact hns s hs hp
theorem takeArrays_end {w W1 w2 W3 : World} {B pb mu mu' mu2 i n : Nat} {iv av av' iv2 : Value} {ri ra ks ks2 : List Rw} {l : List (Rw × Rw)} (hbook : BookAt w B pb iv av mu ri ra) (hra2 : ∀ r ∈ l.map Prod.snd, RowAt TA w B r)
    (hf1 : ∀ s ∈ ri, ∀ p ∈ l, ∀ b, p.1.g = some b → s.g ≠ some b) (hf2 : ∀ s ∈ ra, ∀ p ∈ l, ∀ b, p.2.g = some b → s.g ≠ some b)
    (hT : T1 TA TSA (csA iv) w B pb av ra (l.map Prod.snd) i W1 av' mu' ks) (hoi1 : W1.ownsRow B TSI 1 iv ri.length (ri.map Rw.val)) (hra11 : ∀ r ∈ l.map Prod.fst, RowAt TI W1 B r)
    (hT2 : T2 TI TSI (csI av') W1 B pb iv ri (l.map Prod.fst) ks2 ks2.length w2 iv2 mu2) (hG : ∀ r ∈ l.map Prod.snd, RowAt TA w2 B r) (hT3 : T2 TA TSA (csA iv2) w2 B pb av' ra (l.map Prod.snd) ks ks.length W3 av' mu2)
    (hk : ks.length ≤ l.length) (hk2 : ks2.length ≤ l.length) (hn : n = l.length) (hm : mu' ≤ mu + 33554432 * n) (hm2 : mu2 ≤ mu' + 33554432 * n) :
    Ending.returned (.tuple #[]) = Ending.returned (.tuple #[]) ∧ ∃ iv3 av3 mu3 ri3 ra3, BookAt W3 B pb iv3 av3 mu3 ri3 ra3 ∧ mu3 ≤ mu + 67108864 * n ∧ Only (AP pb iv av l) w W3 ∧ ri3.length ≤ ri.length + n ∧ ra3.length ≤ ra.length + n := by
  subst hn
  have hW3 := hT3.on
  have hW2 := hT2.on
  have hW1 := hT.on
  have hoa2 : ∃ m xs, w2.ownsRow B TSA 1 av' m xs := ⟨_, _, own_kept hT.oi fun k hk => by
    obtain ⟨c, hc⟩ := own_type hT.oi k hk
    exact hW2.block k (heap_lt hc) (bp_not hT.bk hoi1 hra11 hc (by decide) (by decide) (by decide))⟩
  obtain ⟨m2, xs2, hoa2⟩ := hoa2
  have m1 : ∀ b, (∀ p ∈ l, p.1.g ≠ some b) → ∀ s ∈ l.map Prod.fst, s.g ≠ some b := fun b h s hs => by obtain ⟨p, hp, rfl⟩ := List.mem_map.1 hs; exact h p hp
  have m2' : ∀ b, (∀ p ∈ l, p.2.g ≠ some b) → ∀ s ∈ l.map Prod.snd, s.g ≠ some b := fun b h s hs => by obtain ⟨p, hp, rfl⟩ := List.mem_map.1 hs; exact h p hp
  -- the old rows, at each of the worlds
  have oldI : ∀ j r, ri[j]? = some r → RowAt TI w2 B r ∧ MkAt w2 r r.n (mkN j) := fun j r hj => by
    have h0 := hbook.fi j r hj
    have hm0 := List.mem_of_getElem? hj
    have k1 : ∀ b, r.g = some b → W1.heap[b]? = w.heap[b]? := fun b hb => by
      obtain ⟨_, c, hc, _⟩ := h0.1.at_ b hb
      exact hW1.block b (heap_lt hc) (bp_not hbook.bk hbook.oa hra2 hc (by decide) (by decide) (by decide))
    have h1 := h0.1.kept k1
    have k2 : ∀ b, r.g = some b → w2.heap[b]? = W1.heap[b]? := fun b hb => by
      obtain ⟨_, c, hc, _⟩ := h1.at_ b hb
      exact hW2.block b (heap_lt hc) (bp_row hT.bk hoi1 hc (by decide) (by decide) (m1 b fun p hp e => hf1 r hm0 p hp b e hb))
    exact ⟨h1.kept k2, (h0.2.kept k1).kept k2⟩
  have oldA : ∀ j r, ra[j]? = some r → RowAt TA W3 B r ∧ MkAt W3 r r.n (mkN j) := fun j r hj => by
    have h0 := hbook.fa j r hj
    have hm0 := List.mem_of_getElem? hj
    have k1 : ∀ b, r.g = some b → W1.heap[b]? = w.heap[b]? := fun b hb => by
      obtain ⟨_, c, hc, _⟩ := h0.1.at_ b hb
      exact hW1.block b (heap_lt hc) (bp_row hbook.bk hbook.oa hc (by decide) (by decide) (m2' b fun p hp e => hf2 r hm0 p hp b e hb))
    have h1 := h0.1.kept k1
    have k2 : ∀ b, r.g = some b → w2.heap[b]? = W1.heap[b]? := fun b hb => by
      obtain ⟨_, c, hc, _⟩ := h1.at_ b hb
      exact hW2.block b (heap_lt hc) (bp_not hT.bk hoi1 hra11 hc (by decide) (by decide) (by decide))
    have h2 := h1.kept k2
    have k3 : ∀ b, r.g = some b → W3.heap[b]? = w2.heap[b]? := fun b hb => by
      obtain ⟨_, c, hc, _⟩ := h2.at_ b hb
      exact hW3.block b (heap_lt hc) (bp_row hT2.bk hoa2 hc (by decide) (by decide) (m2' b fun p hp e => hf2 r hm0 p hp b e hb))
    exact ⟨h2.kept k3, ((h0.2.kept k1).kept k2).kept k3⟩
  have hT2b : w2.heap[pb]? = some (.cells (csI av' iv2 mu2) TBk (0, 0)) := hT2.bk
  have keep3 : ∀ (k : Nat) (c : Array Value) (t : TypeId), w2.heap[k]? = some (.cells c t (0, 0)) → t = TI ∨ t = TSI → W3.heap[k]? = w2.heap[k]? := fun k c t hc ht => by
    rcases ht with rfl | rfl
    · exact hW3.block k (heap_lt hc) (bp_not hT2b hoa2 hG hc (by decide) (by decide) (by decide))
    · exact hW3.block k (heap_lt hc) (bp_not hT2b hoa2 hG hc (by decide) (by decide) (by decide))
  have e1 : (ri ++ ks2.map Rw.up).length = ri.length + ks2.length := by simp
  have e2 : (ra ++ ks.map Rw.up).length = ra.length + ks.length := by simp
  refine ⟨rfl, iv2, av', mu2, ri ++ ks2.map Rw.up, ra ++ ks.map Rw.up, ⟨hT3.bk, ?_, ?_, fun j r hj => ?_, fun j r hj => grown_marks hT3 oldA j r hj⟩, by omega, ?_, by omega, by omega⟩
  · have h := hT2.oi
    rw [upTo_all] at h
    rw [e1]
    exact own_kept h fun k hk => by obtain ⟨c, hc⟩ := own_type h k hk; exact keep3 k c _ hc (.inr rfl)
  · have h := hT3.oi
    rw [upTo_all] at h
    rw [e2]
    exact h
  · obtain ⟨h1, h2⟩ := grown_marks hT2 oldI j r hj
    have k3 : ∀ b, r.g = some b → W3.heap[b]? = w2.heap[b]? := fun b hb => by
      obtain ⟨_, c, hc, _⟩ := h1.at_ b hb
      exact keep3 b c _ hc (.inl rfl)
    exact ⟨h1.kept k3, h2.kept k3⟩
  · have a1 : Only (AP pb iv av l) w W1 := hW1.mono fun k _ hk => by
      rcases hk with hk | hk | ⟨s, hs, hk⟩
      · exact .inl hk
      · exact .inr (.inr (.inl hk))
      · obtain ⟨p, hp, rfl⟩ := List.mem_map.1 hs
        exact .inr (.inr (.inr ⟨p, hp, .inr hk⟩))
    have a2 : Only (AP pb iv av l) w w2 := a1.then hW2 fun k _ hk => by
      rcases hk with hk | hk | ⟨s, hs, hk⟩
      · exact .inl hk
      · exact .inr (.inl hk)
      · obtain ⟨p, hp, rfl⟩ := List.mem_map.1 hs
        exact .inr (.inr (.inr ⟨p, hp, .inl hk⟩))
    refine a2.then hW3 fun k hlt hk => ?_
    rcases hk with hk | hk | ⟨s, hs, hk⟩
    · exact .inl hk
    · rcases hT.at_ with h0 | ⟨k', h1, h2⟩
      · exact .inr (.inr (.inl (hk.trans h0)))
      · rw [h1] at hk; injection hk with hk; omega
    · obtain ⟨p, hp, rfl⟩ := List.mem_map.1 hs
      exact .inr (.inr (.inr ⟨p, hp, .inr hk⟩))

set_option maxHeartbeats 32000000 in
set_option maxRecDepth 100000 in
theorem takeArrays_any (B B' pb : Nat) (iv av : Value) (mu : Nat) (ri ra : List Rw) (l : List (Rw × Rw)) (Q : Option Addr) (cq : Nat) (w : World) (hbook : BookAt w B pb iv av mu ri ra) (hQ : w.ownsRow B' TAr 2 (.slice Q l.length cq) l.length (arrVals l))
    (hra : ∀ p ∈ l, RowAt TI w B p.1 ∧ RowAt TA w B p.2 ∧ p.1.n ≤ 1048576 ∧ p.2.n ≤ 1048576) (hap1 : (l.map Prod.fst).Pairwise fun a b => a.g = none ∨ a.g ≠ b.g) (hap2 : (l.map Prod.snd).Pairwise fun a b => a.g = none ∨ a.g ≠ b.g)
    (hf1 : ∀ s ∈ ri, ∀ p ∈ l, ∀ b, p.1.g = some b → s.g ≠ some b) (hf2 : ∀ s ∈ ra, ∀ p ∈ l, ∀ b, p.2.g = some b → s.g ≠ some b)
    (hmu : mu + 67108864 * l.length ≤ 1125899906842624) (hlen : ri.length + ra.length + l.length ≤ 1099511627776) (hB : B ≤ w.heap.size) :
    Calls Tryd.prog 18 #[.pointer (some ⟨pb, 0, none⟩), .slice Q l.length cq] w fun e w' => e = .returned (.tuple #[]) ∧ ∃ iv' av' mu' ri' ra', BookAt w' B pb iv' av' mu' ri' ra' ∧ mu' ≤ mu + 67108864 * l.length ∧ Only (AP pb iv av l) w w' ∧
      ri'.length ≤ ri.length + l.length ∧ ra'.length ≤ ra.length + l.length := by
  have HBOOK := Lib.hid hbook
  have HRA := Lib.hid hra
  have HAP := Lib.hid (And.intro hap1 hap2)
  have HF := Lib.hid (And.intro hf1 hf2)
  have HB := Lib.hid hB
  have HRA2 : Hid (∀ r ∈ l.map Prod.snd, RowAt TA w B r) := Lib.hid (fun r hr => by obtain ⟨p, hp, rfl⟩ := List.mem_map.1 hr; exact (hra p hp).2.1)
  have HRA1 : Hid (∀ r ∈ l.map Prod.fst, RowAt TI w B r) := Lib.hid (fun r hr => by obtain ⟨p, hp, rfl⟩ := List.mem_map.1 hr; exact (hra p hp).1)
  have HS : Hid (T1 TA TSA (csA iv) w B pb av ra (l.map Prod.snd) 0 w av mu []) := Lib.hid (T1.start HRA2.out hbook.bk hbook.oa)
  obtain ⟨n, hnl⟩ : ∃ n, n = l.length := ⟨_, rfl⟩
  have HN := Lib.hid hnl
  have HQ : Hid (∀ W, Only (BP pb av (l.map Prod.snd)) w W → ∀ i p, l[i]? = some p → ∃ g, Q = some ⟨g, 0, none⟩ ∧ g < W.heap.size ∧ W.cell? ⟨g, i * 2, none⟩ = some p.1.val ∧ W.cell? ⟨g, i * 2 + 1, none⟩ = some p.2.val) := Lib.hid (fun W hO i p hi => by
    obtain ⟨hil, _⟩ := List.getElem?_eq_some_iff.1 hi
    obtain ⟨g, rfl, h1, h2⟩ := own_cell hQ (arrVals_get l hi).1 (by omega)
    obtain ⟨g', hg', _, h3⟩ := own_cell hQ (arrVals_get l hi).2 (by omega)
    obtain rfl : g = g' := by injection hg' with hg'; injection hg'
    obtain ⟨cur, hc⟩ := own_type hQ g rfl
    have hk := hO.block g h1 (bp_not hbook.bk hbook.oa HRA2.out hc (by decide) (by decide) (by decide))
    exact ⟨g, rfl, Nat.lt_of_lt_of_le h1 hO.size, (World.cell?_of_block hk).trans h2, (World.cell?_of_block hk).trans h3⟩)
  obtain ⟨A0, c0, rfl, hA1, hA2⟩ := own_form hbook.oa
  obtain ⟨k0, k1, k2⟩ := heap3 hbook.bk
  obtain ⟨R, hR⟩ : ∃ R, R = ra.length := ⟨_, rfl⟩
  have HR := Lib.hid hR
  rw [← hnl] at hmu hlen ⊢
  rw [← hR] at hlen k2 HS HQ
  obtain ⟨j0, hj, hz0, hz1, hz2⟩ := info_parts info_tsl2
  obtain ⟨j1, hi, hy0, hy1, hy2⟩ := info_parts info_tsl
  clear hbook hQ hra hap1 hap2 hf1 hf2 hnl hR k0 k1 hB hA1 hA2
  go_enter Tryd.func18, Tryd.ntmps18
  go_wp2_with fail
  clear k2
  go_loopw [4, 6] (fun v4 v6 W => ∃ (i : Nat) (av' : Value) (mu' : Nat) (ks : List Rw), i ≤ n ∧ v6 = .int .i64 i ∧ mu' ≤ mu + 33554432 * i ∧ Hid (T1 TA TSA (csA iv) w B pb (.slice A0 R c0) ra (l.map Prod.snd) i W av' mu' ks ∧ W.ownsRow w.heap.size TSI 1 v4 i (((l.map Prod.fst).take i).map Rw.val))) (fun _ v6 _ => n - (intOf v6).toNat)
  case atStart => exact ⟨0, _, mu, [], Nat.zero_le _, rfl, by omega, Lib.hid ⟨HS.out, World.ownsRow_nil _ _ _ _⟩⟩
  case round =>
    obtain ⟨i, av', mu', ks, hi', rfl, hmu', HT⟩ := hrel
    obtain ⟨A', c', rfl, hA1, hA2⟩ := own_form HT.out.1.oi
    obtain ⟨S4, c4, rfl, _, _⟩ := own_form HT.out.2
    have hkl : ks.length ≤ i := by have := HT.out.1.sub.length_le; rw [List.length_take] at this; omega
    obtain ⟨W1, rfl⟩ : ∃ W1, W1 = wr := ⟨_, rfl⟩
    obtain ⟨N, hNN⟩ : ∃ N, N = ra.length + ks.length := ⟨_, rfl⟩
    have HNN' := Lib.hid hNN
    have hNR : N ≤ R + i := by have := HR.out; omega
    rw [← hNN] at HT hA1
    have hbk : W1.heap[pb]? = some (.cells #[iv, .int .i64 mu', .slice A' N c'] TBk (0, 0)) := HT.out.1.bk
    clear hNN
    by_cases hlt : i < n
    · obtain ⟨p, hp⟩ : ∃ p, l[i]? = some p := ⟨_, List.getElem?_eq_getElem (by rw [← HN.out]; exact hlt)⟩
      have hpm := List.mem_of_getElem? hp
      obtain ⟨_, _, hrn1, hrn⟩ := HRA.out p hpm
      have HP := Lib.hid hp
      have HP2 : Hid ((l.map Prod.snd)[i]? = some p.2) := Lib.hid (by rw [List.getElem?_map, hp]; rfl)
      have HM2 : Hid (p.2 ∈ l.map Prod.snd) := Lib.hid (List.mem_of_getElem? HP2.out)
      obtain ⟨q, rfl, hq, kq0, kq1⟩ := HQ.out W1 HT.out.1.on i p hp
      obtain ⟨r1, r, rfl⟩ : ∃ r1 r, p = (r1, r) := ⟨_, _, rfl⟩
      have hrl := HT.out.1.ra r HM2.out
      have hroom := roomOf_le hrl.le
      have hroom2 : roomOf r.n r.c ≤ r.n + 70000 := by unfold roomOf; split <;> omega
      have hcm : r.c ≤ 9223372036854775807 := hrl.max
      have hws : w.heap.size ≤ W1.heap.size := HT.out.1.on.size
      simp only [Rw.val] at kq0 kq1
      simp only at hrn hrn1
      clear hp hpm hrl hA2 hbk kq1
      go_wp2_with (at_builtin; refine wpList_append_lies _ rfl (.tmp 23) (.tmp 29) 52 rfl w.heap.size TSI j1 (.slice none 0 0) 1 24 Tryd.underlying52 hi hy0 hy1 hy2 rfl (by decide) (.slice S4 i c4) i (((l.map Prod.fst).take i).map Rw.val) rfl (World.ownsRow.alloc HT.out.2 _) ⟨W1.heap.size, 0, none⟩ 1 1 [.slice (r1.g.map fun b => ⟨b, 0, none⟩) r1.n r1.c] rfl rfl (cell_one_at _ _ _) (by simp [Value.oneCell']) (by decide) (by unfold maxLen; omega) (by omega) (by simp; omega) _ rfl ?_)
      intro g4 cap4 W6 hown6 hgr6 hor6 hlt6
      have HT6 : Hid (T1 TA TSA (csA iv) w B pb (.slice A0 R c0) ra (l.map Prod.snd) i W6 (.slice A' N c') mu' ks) := Lib.hid (by
        refine (HT.out.1.below ((Below.refl _ _).alloc (Nat.le_refl _) _)).other hgr6 (t' := TSI) (fun k hk => ?_) (by decide) (by decide) (by decide)
        have ho := own_on HT.out.2 ((Below.refl _ _).alloc (Nat.le_refl _) (.cells #[.slice (r1.g.map fun b => (⟨b, 0, none⟩ : Addr)) r1.n r1.c] TSI))
        exact ⟨(ho.lt k hk).1, own_type ho k hk⟩)
      have HS6 : Hid (W6.ownsRow w.heap.size TSI 1 (.slice (some ⟨g4, 0, none⟩) (i + 1) cap4) (i + 1) (((l.map Prod.fst).take (i + 1)).map Rw.val)) := Lib.hid (by
        have e : ((l.map Prod.fst).take (i + 1)).map Rw.val = ((l.map Prod.fst).take i).map Rw.val ++ [.slice (r1.g.map fun b => ⟨b, 0, none⟩) r1.n r1.c] := by
          have h0 : (l.map Prod.fst)[i]? = some r1 := by rw [List.getElem?_map, HP.out]; rfl
          obtain ⟨hl0, e0⟩ := List.getElem?_eq_some_iff.1 h0
          rw [← List.take_append_getElem hl0, e0, List.map_append]
          rfl
        have e2 : List.take i (List.map (Rw.val ∘ Prod.fst) l) = ((l.map Prod.fst).take i).map Rw.val := by rw [List.map_take, List.map_map]
        rw [e]
        first | exact hown6 | (rw [← e2]; exact hown6))
      obtain ⟨q', hq1, _, kq0, kq1⟩ := HQ.out W6 HT6.out.on i _ HP.out
      obtain rfl : q = q' := by injection hq1 with hq1; injection hq1
      have hbk : W6.heap[pb]? = some (.cells #[iv, .int .i64 mu', .slice A' N c'] TBk (0, 0)) := HT6.out.bk
      have HFULL := Lib.hid (full_any pb iv (.slice A' N c') mu' (16 * roomOf r.n r.c) W6.drew hbk (by omega) (by omega))
      have HROOM := Lib.hid (fun W => room_any r.n r.c W (by omega))
      have hmul : IntKind.i64.wrap (16 * ((roomOf r.n r.c : Nat) : Int)) = ((16 * roomOf r.n r.c : Nat) : Int) := by rw [IntKind.wrap_i64]; omega
      simp only [Rw.val] at kq0 kq1
      clear hown6 hgr6 hor6 hlt6 hq1 hbk kq0
      go_upto_region 6 with fail
      go_cut [48] from 17 to 86 (fun v wx => v = .bool (decide (33554432 < mu' + 400 + 16 * roomOf r.n r.c)) ∧ Hid (T1 TA TSA (csA iv) w B pb (.slice A0 R c0) ra (l.map Prod.snd) i wx (.slice A' N c') (mu' + 400 + 16 * roomOf r.n r.c) ks ∧ wx.ownsRow w.heap.size TSI 1 (.slice (some ⟨g4, 0, none⟩) (i + 1) cap4) (i + 1) (((l.map Prod.fst).take (i + 1)).map Rw.val)))
      case first =>
        go_region_with (first | (go_at_call 48; refine (HROOM.out _).mono ?_; rintro e w5 ⟨rfl, rfl⟩) | (go_at_call 47; refine HFULL.out.mono ?_; rintro e w5 ⟨rfl, rfl⟩))
        all_goals
          go_wp2_with fail
          go_meet
          case rel =>
            have h1 := (HT6.out.below (Below.refl _ _).drew)
            exact ⟨rfl, Lib.hid ⟨h1.count (csA_count iv) (by decide) (by decide) _, own_set HS6.out.drew h1.bk (by decide) _ _⟩⟩
      obtain ⟨rfl, HT1⟩ := hcut
      obtain ⟨mu2, hmu2⟩ : ∃ mu2, mu2 = mu' + 400 + 16 * roomOf r.n r.c := ⟨_, rfl⟩
      rw [← hmu2] at HT1 ⊢
      have hmu3 : mu2 ≤ mu + 33554432 * (i + 1) := by omega
      clear kq1 HFULL HROOM hmul hmu2
      by_cases hfull : 33554432 < mu2
      · rw [decide_eq_true hfull]
        clear hfull
        go_wp2_with fail
        exact ⟨⟨i + 1, _, mu2, ks, by omega, by go_num, hmu3, Lib.hid ⟨HT1.out.1.skip, HT1.out.2⟩⟩, by simp [intOf]; omega⟩
      · rw [decide_eq_false hfull]
        have hbk2 : wc.heap[pb]? = some (.cells #[iv, .int .i64 mu2, .slice A' N c'] TBk (0, 0)) := HT1.out.1.bk
        obtain ⟨x0, x1, x2⟩ := heap3 hbk2
        clear hbk2 hfull
        go_wp2_with fail
        clear x0 x1 x2
        go_loopw [8] (fun v8 W => ∃ k : Nat, k ≤ r.n ∧ v8 = .int .i64 k ∧ Hid (T1 TA TSA (csA iv) w B pb (.slice A0 R c0) ra (l.map Prod.snd) i W (.slice A' N c') mu2 ks ∧ MkAt W r k (mkN N) ∧ W.ownsRow w.heap.size TSI 1 (.slice (some ⟨g4, 0, none⟩) (i + 1) cap4) (i + 1) (((l.map Prod.fst).take (i + 1)).map Rw.val))) (fun v8 _ => r.n - (intOf v8).toNat)
        case atStart => exact ⟨0, Nat.zero_le _, rfl, Lib.hid ⟨HT1.out.1, MkAt.zero _ _ _, HT1.out.2⟩⟩
        case round =>
          obtain ⟨k, hk, rfl, HI⟩ := hrel
          obtain ⟨W2, rfl⟩ : ∃ W2, W2 = wr := ⟨_, rfl⟩
          obtain ⟨g2, hg2, hgl, kq0, kq⟩ := HQ.out W2 HI.out.1.on i _ HP.out
          obtain rfl : q = g2 := by injection hg2 with hg2; injection hg2
          have hrl := HI.out.1.ra r HM2.out
          simp only [Rw.val] at kq
          clear hg2 kq0
          by_cases hlt2 : k < r.n
          · obtain ⟨b, hb⟩ := hrl.some (Nat.lt_of_lt_of_le hlt2 hrl.le)
            obtain ⟨old, ko, fo⟩ := hrl.free hb (Nat.lt_of_lt_of_le hlt2 hrl.le)
            have hbt : ∃ cur, W2.heap[b]? = some (.cells cur TA (0, 0)) := by obtain ⟨_, cur, hc, _⟩ := hrl.at_ b hb; exact ⟨cur, hc⟩
            have HNX : Hid (T1 TA TSA (csA iv) w B pb (.slice A0 R c0) ra (l.map Prod.snd) i (W2.setCell ⟨b, k, none⟩ (.int .i64 (mkN N))) (.slice A' N c') mu2 ks ∧ MkAt (W2.setCell ⟨b, k, none⟩ (.int .i64 (mkN N))) r (k + 1) (mkN N) ∧
                (W2.setCell ⟨b, k, none⟩ (.int .i64 (mkN N))).ownsRow w.heap.size TSI 1 (.slice (some ⟨g4, 0, none⟩) (i + 1) cap4) (i + 1) (((l.map Prod.fst).take (i + 1)).map Rw.val)) := Lib.hid
              ⟨HI.out.1.mark HAP.out.2 HP2.out hb (by decide) (by decide) k _, HI.out.2.1.set hrl hb (Nat.lt_of_lt_of_le hlt2 hrl.le), by obtain ⟨cur, hc⟩ := hbt; exact own_set HI.out.2.2 hc (by decide) _ _⟩
            simp only [hb, Option.map_some] at kq
            clear hrl hb hbt
            go_wp2_with fail
            exact ⟨⟨k + 1, by omega, by go_num, HNX⟩, by simp [intOf]; omega⟩
          · obtain rfl : k = r.n := by omega
            have hge : ¬ (r.n : Int) < r.n := by omega
            have hbk3 : W2.heap[pb]? = some (.cells #[iv, .int .i64 mu2, .slice A' N c'] TBk (0, 0)) := HI.out.1.bk
            obtain ⟨x0, x1, x2⟩ := heap3 hbk3
            have hpl := heap_lt hbk3
            have kA0 := (World.cell?_of_block (a := ⟨pb, 2, none⟩) (Below.heap_alloc W2 (.cells #[.slice (r.g.map fun b => ⟨b, 0, none⟩) r.n r.c] TSA) pb hpl)).trans x2.1
            clear hlt2 hrl
            go_upto_region 12 with fail
            obtain ⟨W3, hW3⟩ : ∃ W3, W3 = (W2.alloc (.cells #[.slice (r.g.map fun b => ⟨b, 0, none⟩) r.n r.c] TSA)).drew := ⟨_, rfl⟩
            have HB3 : Hid (Below W2.heap.size W2 W3) := Lib.hid (by rw [hW3]; exact ((Below.refl _ _).alloc (Nat.le_refl _) _).drew)
            have HO3 : Hid (W3.ownsRow B TSA 1 (.slice A' N c') N ((ra ++ ks).map Rw.val)) := Lib.hid (by rw [HNN'.out]; have h := (HI.out.1.below HB3.out).oi; rw [← HNN'.out] at h ⊢; exact h)
            have HC3 : Hid (∀ (j : Nat) (u : Value), [Value.slice (r.g.map fun b => ⟨b, 0, none⟩) r.n r.c][j]? = some u → W3.cell? ((⟨W2.heap.size, 0, none⟩ : Addr).add j) = some u) := Lib.hid (by rw [hW3]; exact cell_one_at _ _ _)
            have HZ3 : Hid (W3.heap.size = W2.heap.size + 1) := Lib.hid (by rw [hW3]; simp)
            have HBB : Hid (B ≤ W3.heap.size) := Lib.hid (Nat.le_trans HB.out (Nat.le_trans HI.out.1.on.size HB3.out.size))
            have HW3 := Lib.hid hW3
            have HP3 : Hid (W3.heap[pb]? = some (.cells #[iv, .int .i64 mu2, .slice A' N c'] TBk (0, 0)) ∧ pb < W3.heap.size ∧ (Value.slice A' N c').ownBlock ≠ some pb) := Lib.hid ⟨(HB3.out.block pb hpl).trans hbk3, Nat.lt_of_lt_of_le hpl HB3.out.size, fun e => by
              obtain ⟨cur, hc⟩ := own_type HI.out.1.oi pb e
              exact absurd (types_apart hc hbk3) (by decide)⟩
            clear hW3 hbk3 hpl
            go_region_law (go_loud (rw [← HW3.out]; refine step_append_lies _ rfl (.tmp 77) (.tmp 83) 55 rfl B TSA j0 (.slice none 0 0) 1 24 Tryd.underlying55 hj hz0 hz1 hz2 rfl (by decide) (.slice A' N c') N ((ra ++ ks).map Rw.val) (by simp [Act.eval]) HO3.out ⟨W2.heap.size, 0, none⟩ 1 1 [.slice (r.g.map fun b => ⟨b, 0, none⟩) r.n r.c] (by simp [Act.eval]) rfl HC3.out (by simp [Value.oneCell']) (by decide) (by unfold maxLen; omega) (by omega) HBB.out (W2.heap.size + 1) HZ3.out ?_; intro g' cap' w' hown' hgr' hor' hlt'; have hq' := (hgr'.block pb HP3.out.2.1 (fun e => HP3.out.2.2 e.symm)).trans HP3.out.1; obtain ⟨_, _, kq0⟩ := heap3 hq'; have fq0 := unfrozen hq' 2))
            all_goals
              have HST : Hid (T1 TA TSA (csA iv) w B pb (.slice A0 R c0) ra (l.map Prod.snd) (i + 1) (w'.setCell ⟨pb, 2, none⟩ (.slice (some ⟨g', 0, none⟩) (N + 1) cap')) (.slice (some ⟨g', 0, none⟩) (N + 1) cap') mu2 (ks ++ [r]) ∧
                  (w'.setCell ⟨pb, 2, none⟩ (.slice (some ⟨g', 0, none⟩) (N + 1) cap')).ownsRow w.heap.size TSI 1 (.slice (some ⟨g4, 0, none⟩) (i + 1) cap4) (i + 1) (((l.map Prod.fst).take (i + 1)).map Rw.val)) := Lib.hid (by
                refine ⟨(HI.out.1.below HB3.out).take 2 (csA_list iv) (by decide) (by decide) (by decide) HP2.out ?_ hgr' ?_ ?_, own_set (own_grown (own_on HI.out.2.2 HB3.out) HO3.out hgr' (by decide)) hq' (by decide) _ _⟩
                · rw [← HNN'.out]
                  exact HI.out.2.1.kept fun b hb => HB3.out.block b ((HI.out.1.ra r HM2.out).lt hb)
                · rw [← HNN'.out]; exact hown'
                · rcases hor' with h | h
                  · exact .inl h.symm
                  · exact .inr (by rw [h, ← HZ3.out]; rfl))
              clear hown' hgr' hor' hlt' hq' kq0 fq0
              go_wp2_with fail
              exact ⟨⟨i + 1, _, mu2, ks ++ [r], by omega, by go_num, hmu3, HST⟩, by simp [intOf]; omega⟩
    · obtain rfl : i = n := by omega
      have hge : ¬ (i : Int) < i := by omega
      have hW : Only (BP pb (.slice A0 ra.length c0) (l.map Prod.snd)) w W1 := by rw [← HR.out]; exact HT.out.1.on
      have hoi1 : W1.ownsRow B TSI 1 iv ri.length (ri.map Rw.val) := own_kept HBOOK.out.oi fun k hk => by
        obtain ⟨c, hc⟩ := own_type HBOOK.out.oi k hk
        exact hW.block k (heap_lt hc) (bp_not HBOOK.out.bk HBOOK.out.oa HRA2.out hc (by decide) (by decide) (by decide))
      have hra1 : ∀ r ∈ l.map Prod.fst, RowAt TI W1 B r := fun r hr => (HRA1.out r hr).kept fun b hb => by
        obtain ⟨_, c, hc, _⟩ := (HRA1.out r hr).at_ b hb
        exact hW.block b (heap_lt hc) (bp_not HBOOK.out.bk HBOOK.out.oa HRA2.out hc (by decide) (by decide) (by decide))
      have hS : W1.ownsRow w.heap.size TSI 1 (.slice S4 (l.map Prod.fst).length c4) (l.map Prod.fst).length ((l.map Prod.fst).map Rw.val) := by
        have h := HT.out.2
        rw [List.take_of_length_le (by rw [List.length_map, ← HN.out]; exact Nat.le_refl _)] at h
        rw [List.length_map, ← HN.out]
        exact h
      have HTAKE := take_any B w.heap.size pb iv (.slice A' N c') mu' ri (l.map Prod.fst) S4 c4 W1 hbk hoi1 hS (fun k hk he => by
        have h1 := (hS.lt k hk).1
        obtain ⟨c, hc⟩ := own_type HBOOK.out.oi k he
        have h2 := heap_lt hc
        omega) hra1 HAP.out.1 (fun r hr => by obtain ⟨p, hp, rfl⟩ := List.mem_map.1 hr; exact (HRA.out p hp).2.2.1) (by rw [List.length_map, ← HN.out]; omega) (by rw [List.length_map, ← HN.out]; omega) (Nat.le_trans HB.out hW.size)
      simp only [List.length_map] at HTAKE
      rw [← HN.out] at HTAKE
      have HT' := Lib.hid HTAKE
      have H1 := Lib.hid (And.intro hoi1 (And.intro hra1 hbk))
      clear hlt HS hbk hoi1 hra1 hS HTAKE hW
      go_wp2_with fail
      refine HT'.out.mono ?_
      rintro e w2 ⟨rfl, iv2, mu2, ks2, hmu2, hT2⟩
      have HT2 := Lib.hid hT2
      have hW2 := hT2.on
      have HG : Hid (T2 TA TSA (csA iv2) w2 B pb (.slice A' N c') ra (l.map Prod.snd) ks 0 w2 (.slice A' N c') mu2) := Lib.hid (HT.out.1.again hW2 H1.out.2.2 H1.out.1 H1.out.2.1 hT2.bk)
      have hbk2 : w2.heap[pb]? = some (.cells #[iv2, .int .i64 mu2, .slice A' N c'] TBk (0, 0)) := HG.out.bk
      obtain ⟨x0, x1, x2⟩ := heap3 hbk2
      clear hT2 hW2 hbk2 HT'
      go_wp2_with fail
      clear x0 x1 x2
      go_loopw [9] (fun v9 W => ∃ i2 p : Nat, p ≤ ks.length ∧ v9 = .int .i64 i2 ∧ Hid (i2 = R + p) ∧ Hid (T2 TA TSA (csA iv2) w2 B pb (.slice A' N c') ra (l.map Prod.snd) ks p W (.slice A' N c') mu2)) (fun v9 _ => N - (intOf v9).toNat)
      case atStart => exact ⟨R, 0, Nat.zero_le _, rfl, Lib.hid (by omega), HG⟩
      case round =>
        obtain ⟨i2, p, hp, rfl, HIP, HT3⟩ := hrel
        obtain ⟨W2, rfl⟩ : ∃ W2, W2 = wr := ⟨_, rfl⟩
        have hbk2 : W2.heap[pb]? = some (.cells #[iv2, .int .i64 mu2, .slice A' N c'] TBk (0, 0)) := HT3.out.bk
        obtain ⟨x0, x1, x2⟩ := heap3 hbk2
        clear hbk2
        by_cases hlt : p < ks.length
        · obtain ⟨r, hr⟩ : ∃ r, ks[p]? = some r := ⟨_, List.getElem?_eq_getElem hlt⟩
          have HRr := Lib.hid hr
          have hrm := HT3.out.mem hr
          have hrl := HT3.out.ra r hrm
          have hrn : r.n ≤ 1048576 := by obtain ⟨q, hq, rfl⟩ := List.mem_map.1 hrm; exact (HRA.out q hq).2.2.2
          have hroom := roomOf_le hrl.le
          have hcm : r.c ≤ 9223372036854775807 := hrl.max
          have hi2N : (i2 : Int) < N := by have h1 := HIP.out; have h2 := HNN'.out; have h3 := HR.out; omega
          have HCELL : Hid (∀ W, T2 TA TSA (csA iv2) w2 B pb (.slice A' N c') ra (l.map Prod.snd) ks p W (.slice A' N c') mu2 → ∃ g, A' = some ⟨g, 0, none⟩ ∧ g < W.heap.size ∧ W.cell? ⟨g, i2, none⟩ = some r.val) := Lib.hid (fun W h => by
            have h1 := h.oi
            rw [← HNN'.out] at h1
            refine own_cell h1 ?_ (by omega)
            rw [HIP.out, HR.out, List.getElem?_map, List.getElem?_append_right (by omega), Nat.add_sub_cancel_left, upTo_get hr]
            rfl)
          obtain ⟨g, rfl, hgl, kg⟩ := HCELL.out W2 HT3.out
          obtain ⟨P, hP⟩ : ∃ P, P = r.g.map fun b => (⟨b, 0, none⟩ : Addr) := ⟨_, rfl⟩
          simp only [Rw.val] at kg
          rw [← hP] at kg
          have HP := Lib.hid hP
          clear hr hrm hrl hP
          go_wp2_with fail
          refine (room_any r.n r.c _ (by omega)).mono ?_
          rintro e w5 ⟨rfl, rfl⟩
          go_wp2_with fail
          clear kg x0 x1 x2
          go_loopw [10] (fun v10 W => ∃ k : Nat, r.n ≤ k ∧ k ≤ roomOf r.n r.c ∧ v10 = .slice P k r.c ∧ Hid (T2 TA TSA (csA iv2) w2 B pb (.slice (some ⟨g, 0, none⟩) N c') ra (l.map Prod.snd) ks p W (.slice (some ⟨g, 0, none⟩) N c') mu2 ∧ MkAt W r k (mkN i2))) (fun v10 _ => roomOf r.n r.c - lenV v10)
          case atStart => exact ⟨r.n, Nat.le_refl _, hroom.1, rfl, Lib.hid ⟨HT3.out, by
            have h := HT3.out.km p r HRr.out
            rw [if_neg (Nat.lt_irrefl p), ← HR.out, ← HIP.out] at h
            exact h⟩⟩
          case round =>
            obtain ⟨k, hk1, hk2, rfl, HI⟩ := hrel
            obtain ⟨W4, rfl⟩ : ∃ W4, W4 = wr := ⟨_, rfl⟩
            have hrl := HI.out.1.ra r (HI.out.1.mem HRr.out)
            by_cases hlt2 : k < roomOf r.n r.c
            · have hkc : k < r.c := Nat.lt_of_lt_of_le hlt2 hroom.2
              obtain ⟨b, hb⟩ := hrl.some hkc
              obtain rfl : P = some ⟨b, 0, none⟩ := by rw [HP.out, hb]; rfl
              have hii : (k : Int) < (roomOf r.n r.c : Nat) := by omega
              have hbl := hrl.lt hb
              obtain ⟨W5, hW5⟩ : ∃ W5, W5 = W4.alloc (.cells #[.int .i64 (mkN i2)] TA) := ⟨_, rfl⟩
              have hb5 : Below W4.heap.size W4 W5 := by rw [hW5]; exact (Below.refl _ _).alloc (Nat.le_refl _) _
              have hr5 := hrl.on hb5
              have hk5 := HI.out.2.kept (w' := W5) fun b hb => hb5.block b (hrl.lt hb)
              obtain ⟨old, ko, fo⟩ := hr5.free hb hkc
              have HNX := Lib.hid (And.intro ((HI.out.1.below hb5).mark HAP.out.2 HRr.out hb (by decide) (by decide) hk1 (.int .i64 (mkN i2))) (hk5.set hr5 hb hkc))
              have HSP : Hid (∀ j, j < [Value.int .i64 (mkN i2)].length → (W5.cell? ⟨b, 0 + k + j, none⟩).isSome = true ∧ W5.frozen? ⟨b, 0 + k + j, none⟩ = false) := Lib.hid (fun j hj => by
                obtain rfl : j = 0 := by simpa using hj
                simp [ko, fo])
              rw [hW5] at HNX HSP
              unfold mkN at HSP
              clear hrl hb hbl hW5 hb5 hr5 hk5 ko fo
              go_wp2_with (at_builtin; refine wpList_append_room1 _ rfl (.tmp 118) (.tmp 121) 28 28 rfl TA (.int .i64 0) 8 Tryd.underlying28 info_tsa b 0 k r.c rfl (.slice (some ⟨W4.heap.size, 0, none⟩) 1 1) rfl 1 [.int .i64 (-1 - (i2 : Int))] (Src.ofSlice _ Tryd.underlying28 _ 1 1 _ (by simp) (cell_one_at _ _ _) (by simp [Value.oneCell'])) (by omega) (fun j hj => (HSP.out j hj).1) (fun j hj => (HSP.out j hj).2) ?_)
              rw [show ∀ W : World, W.setCells b k [Value.int .i64 (-1 - (i2 : Int))] = W.setCell ⟨b, k, none⟩ (.int .i64 (-1 - (i2 : Int))) from fun W => by simp [World.setCells]]
              exact ⟨⟨k + 1, by omega, by omega, rfl, HNX⟩, by simp [lenV]; omega⟩
            · obtain rfl : k = roomOf r.n r.c := by omega
              have hge : ¬ ((roomOf r.n r.c : Nat) : Int) < (roomOf r.n r.c : Nat) := by omega
              obtain ⟨g2, hg2, hgl2, kg⟩ := HCELL.out W4 HI.out.1
              obtain rfl : g = g2 := by injection hg2 with hg2; injection hg2
              have fg : W4.frozen? ⟨g, i2, none⟩ = false := by
                obtain ⟨cur, hc⟩ := own_type HI.out.1.oi g rfl
                exact unfrozen hc _
              have hbk4 : W4.heap[pb]? = some (.cells #[iv2, .int .i64 mu2, .slice (some ⟨g, 0, none⟩) N c'] TBk (0, 0)) := HI.out.1.bk
              obtain ⟨x0, x1, x2⟩ := heap3 hbk4
              have HNX : Hid (T2 TA TSA (csA iv2) w2 B pb (.slice (some ⟨g, 0, none⟩) N c') ra (l.map Prod.snd) ks (p + 1) (W4.setCell ⟨g, i2, none⟩ (.slice P (roomOf r.n r.c) r.c)) (.slice (some ⟨g, 0, none⟩) N c') mu2) := Lib.hid (by
                have h := HI.out.1.step (by decide) (by decide) HRr.out (by rw [← HR.out, ← HIP.out]; exact HI.out.2) rfl
                rw [← HR.out, ← HIP.out] at h
                rw [HP.out]
                exact h)
              clear hg2 hbk4 hrl hlt2
              go_wp2_with fail
              exact ⟨⟨i2 + 1, p + 1, by omega, by go_num, Lib.hid (by have := HIP.out; omega), HNX⟩, by simp [intOf]; omega⟩
        · obtain rfl : p = ks.length := by omega
          have hge2 : ¬ (i2 : Int) < N := by have h1 := HIP.out; have h2 := HNN'.out; have h3 := HR.out; omega
          clear hlt
          go_wp2_with fail
          refine bodyPost_end (results_none rfl _ _ _) rfl ?_
          have hk1 : ks2.length ≤ i := by have h := HT2.out.sub.length_le; rw [List.length_map, ← HN.out] at h; exact h
          have hT0 := HT.out.1
          rw [HR.out] at hT0
          exact takeArrays_end HBOOK.out HRA2.out HF.out.1 HF.out.2 hT0 H1.out.1 H1.out.2.1 HT2.out HG.out.ra HT3.out (by rw [← HN.out]; exact hkl) (by rw [← HN.out]; exact hk1) HN.out hmu' hmu2
end Go.Proofs.YtpipcpjkfgdpcaaDoor
