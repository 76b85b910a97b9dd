/- show.Read: what it leaves. No condition. -/
import Derived.Test.YtpipcpjkfgdpcaaDoorShCut6
import Derived.Test.YtpipcpjkfgdpcaaDoorShText
namespace Go.Proofs.YtpipcpjkfgdpcaaDoor
open Go.RowKit

/-- lengths that the call owns -/
def OwnsI (w : World) (B : Nat) (v : Value) (l : List Int) : Prop := w.ownsRow B 3 1 v l.length (l.map fun x => .int .i64 x)
theorem row_type {w : World} {B : Nat} {e : TypeId} {v : Value} {n : Nat} {xs : List Value} (h : w.ownsRow B e 1 v n xs) : ∀ k, v.ownBlock = some k → ∃ cur, w.heap[k]? = some (.cells cur e (0, 0)) := by
  intro k hk
  rcases h.2 with ⟨rfl, _⟩ | ⟨g, cap, cur, rfl, _, hb, _⟩
  · simp [Value.ownBlock] at hk
  · simp only [Value.ownBlock, Option.some.injEq] at hk
    subst hk
    exact ⟨cur, hb⟩
/-- a block of another type is written -/
theorem row_other {w w' : World} {B : Nat} {e t : TypeId} {v : Value} {n g : Nat} {xs : List Value} {cs : Array Value} (h : w.ownsRow B e 1 v n xs) (hg : w.grownBy w' (some g)) (hb : w.heap[g]? = some (.cells cs t (0, 0))) (ht : t ≠ e) : w'.ownsRow B e 1 v n xs :=
  World.ownsRow.kept h hg (.inr fun hk => by obtain ⟨cur, hc⟩ := row_type h g hk; rw [hb] at hc; injection hc with hc; injection hc with _ h2; exact ht h2)
theorem row_apart {w : World} {B : Nat} {e t : TypeId} {v v' : Value} {n n' : Nat} {xs ys : List Value} (h : w.ownsRow B e 1 v n xs) (h' : w.ownsRow B t 1 v' n' ys) (ht : e ≠ t) : v.ownBlock = none ∨ v.ownBlock ≠ v'.ownBlock := by
  cases hv : v.ownBlock with
  | none => exact .inl rfl
  | some k =>
    refine .inr fun e' => ?_
    obtain ⟨c1, h1⟩ := row_type h k hv
    obtain ⟨c2, h2⟩ := row_type h' k e'.symm
    rw [h1] at h2; injection h2 with h2; injection h2 with _ h3; exact ht h3
theorem row_form {w : World} {B : Nat} {e : TypeId} {v : Value} {l : List Int} (h : w.ownsRow B e 1 v l.length (l.map fun x => .int .i64 x)) : ∃ A cp, v = .slice A l.length cp := by
  rcases h.2 with ⟨rfl, h0⟩ | ⟨g, cap, cur, rfl, _⟩
  · exact ⟨none, 0, by rw [h0]⟩
  · exact ⟨_, _, rfl⟩
theorem row_ints {w : World} {B : Nat} {e : TypeId} {A : Option Addr} {n cp : Nat} {l : List Int} (h : w.ownsRow B e 1 (.slice A n cp) l.length (l.map fun x => .int .i64 x)) : IntsAt w A l := fun i x hx => by
  have hil := (List.getElem?_eq_some_iff.1 hx).1
  rcases h.2 with ⟨_, h0⟩ | ⟨g, cap, cur, hv, _, hb, hl, _, hs, ht⟩
  · omega
  · simp only [Value.slice.injEq] at hv
    obtain ⟨rfl, -, -⟩ := hv
    refine ⟨g, 0, rfl, (Array.getElem?_eq_some_iff.1 hb).1, ?_⟩
    have h1 : (cur.toList.take (l.length * 1))[i]? = (l.map fun x => Value.int .i64 x)[i]? := by rw [ht]
    rw [List.getElem?_take, if_pos (by omega), List.getElem?_map, hx] at h1
    simp only [Array.getElem?_toList, Option.map_some] at h1
    simpa [World.cell?, hb] using h1

structure ReadW (w wr : World) (q : Nat) (av lv : Value) (ahead l : List Int) (mark : Int) : Prop where
  be : Below w.heap.size w wr
  p : wr.heap[w.heap.size]? = some (.cells #[.slice none 0 0, .slice none 0 0] 36 (0, 0))
  q : wr.heap[q]? = some (.cells #[av, lv, .int .i64 mark] 96 (0, 0))
  oa : OwnsInts wr w.heap.size av ahead
  ol : OwnsInts wr w.heap.size lv l
theorem ReadW.grown {w wr wr' : World} {q : Nat} {av lv : Value} {ahead l : List Int} {mark : Int} {row : Option Nat} (h : ReadW w wr q av lv ahead l mark) (hg : wr.grownBy wr' row)
    (hrow : ∀ k, row = some k → w.heap.size ≤ k ∧ ∃ cur, wr.heap[k]? = some (.cells cur 3 (0, 0))) : ReadW w wr' q av lv ahead l mark := by
  have keep : ∀ (k : Nat) (cs : Array Value) (t : TypeId), wr.heap[k]? = some (.cells cs t (0, 0)) → t ≠ 3 → wr'.heap[k]? = wr.heap[k]? := fun k cs t hk ht =>
    hg.block k (Array.getElem?_eq_some_iff.1 hk).1 fun e => by
      obtain ⟨_, cur, hc⟩ := hrow k e.symm
      rw [hk] at hc; injection hc with hc; injection hc with _ h2; exact ht h2
  have keepRow : ∀ (v : Value) (n : Nat) (xs : List Value), wr.ownsRow w.heap.size 2 1 v n xs → wr'.ownsRow w.heap.size 2 1 v n xs := fun v n xs hv => World.ownsRow.kept hv hg (by
    cases hvb : v.ownBlock with
    | none => exact .inl rfl
    | some k =>
      refine .inr fun e => ?_
      obtain ⟨c1, h1⟩ := row_type hv k hvb
      obtain ⟨_, c2, h2⟩ := hrow k e.symm
      rw [h1] at h2; injection h2 with h2; injection h2 with _ h3; cases h3)
  exact ⟨h.be.grown hg h.be.size fun k hk => (hrow k hk).1, (keep _ _ _ h.p (by decide)).trans h.p, (keep _ _ _ h.q (by decide)).trans h.q, keepRow _ _ _ h.oa, keepRow _ _ _ h.ol⟩

/-- Read's answer: lengths, numbers, place, error -/
def readSpec (t : List UInt8) : List Int × List Int × Int × Int :=
  if 1048576 < t.length then ([], [], 0, 2) else
  match allWords t with
  | .bad e p => ([], [], p, e)
  | .ok l a m =>
    if m < 0 then (if l.length = 1 then ([], l, 0, 0) else if 4096 < l.length then ([], [], 0, 17) else ([(l.length : Int)], l, 0, 0))
    else if a.length = 0 then ([], [], m, 37) else if shMay a ≠ 0 then ([], [], 0, 17) else if places a ≠ l.length then ([], [], t.length, 11) else if a.length = 1 ∧ 1 < l.length then ([], [], m, 37) else (a, l, 0, 0)
theorem spec_long {s : ByteArray} (h : 1048576 < s.size) : readSpec (lst s) = ([], [], 0, 2) := by unfold readSpec; rw [len_data, if_pos h]
theorem spec_bad {s : ByteArray} (h : s.size ≤ 1048576) {e p : Int} (ht : allWords (lst s) = .bad e p) : readSpec (lst s) = ([], [], p, e) := by unfold readSpec; rw [len_data, if_neg (by omega), ht]
theorem spec_one {s : ByteArray} (h : s.size ≤ 1048576) {l a : List Int} {m : Int} (ht : allWords (lst s) = .ok l a m) (hm : m < 0) (hl : l.length = 1) : readSpec (lst s) = ([], l, 0, 0) := by unfold readSpec; rw [len_data, if_neg (by omega), ht]; simp only []; rw [if_pos hm, if_pos hl]
theorem spec_many {s : ByteArray} (h : s.size ≤ 1048576) {l a : List Int} {m : Int} (ht : allWords (lst s) = .ok l a m) (hm : m < 0) (hl : l.length ≠ 1) (hb : 4096 < l.length) : readSpec (lst s) = ([], [], 0, 17) := by unfold readSpec; rw [len_data, if_neg (by omega), ht]; simp only []; rw [if_pos hm, if_neg hl, if_pos hb]
theorem spec_list {s : ByteArray} (h : s.size ≤ 1048576) {l a : List Int} {m : Int} (ht : allWords (lst s) = .ok l a m) (hm : m < 0) (hl : l.length ≠ 1) (hb : ¬ 4096 < l.length) : readSpec (lst s) = ([(l.length : Int)], l, 0, 0) := by unfold readSpec; rw [len_data, if_neg (by omega), ht]; simp only []; rw [if_pos hm, if_neg hl, if_neg hb]
theorem spec_bare {s : ByteArray} (h : s.size ≤ 1048576) {l a : List Int} {m : Int} (ht : allWords (lst s) = .ok l a m) (hm : ¬ m < 0) (ha : a.length = 0) : readSpec (lst s) = ([], [], m, 37) := by unfold readSpec; rw [len_data, if_neg (by omega), ht]; simp only []; rw [if_neg hm, if_pos ha]
theorem spec_not {s : ByteArray} (h : s.size ≤ 1048576) {l a : List Int} {m : Int} (ht : allWords (lst s) = .ok l a m) (hm : ¬ m < 0) (ha : a.length ≠ 0) (hs : shMay a ≠ 0) : readSpec (lst s) = ([], [], 0, 17) := by unfold readSpec; rw [len_data, if_neg (by omega), ht]; simp only []; rw [if_neg hm, if_neg ha, if_pos hs]
theorem spec_len {s : ByteArray} (h : s.size ≤ 1048576) {l a : List Int} {m : Int} (ht : allWords (lst s) = .ok l a m) (hm : ¬ m < 0) (ha : a.length ≠ 0) (hs : shMay a = 0) (hp : places a ≠ l.length) : readSpec (lst s) = ([], [], (s.size : Int), 11) := by unfold readSpec; rw [len_data, if_neg (by omega), ht]; simp only []; rw [if_neg hm, if_neg ha, if_neg (fun x => x hs), if_pos hp]
theorem spec_mark {s : ByteArray} (h : s.size ≤ 1048576) {l a : List Int} {m : Int} (ht : allWords (lst s) = .ok l a m) (hm : ¬ m < 0) (ha : a.length ≠ 0) (hs : shMay a = 0) (hp : places a = l.length) (ho : a.length = 1 ∧ 1 < l.length) : readSpec (lst s) = ([], [], m, 37) := by unfold readSpec; rw [len_data, if_neg (by omega), ht]; simp only []; rw [if_neg hm, if_neg ha, if_neg (fun x => x hs), if_neg (fun x => x hp), if_pos ho]
theorem spec_ok {s : ByteArray} (h : s.size ≤ 1048576) {l a : List Int} {m : Int} (ht : allWords (lst s) = .ok l a m) (hm : ¬ m < 0) (ha : a.length ≠ 0) (hs : shMay a = 0) (hp : places a = l.length) (ho : ¬ (a.length = 1 ∧ 1 < l.length)) : readSpec (lst s) = (a, l, 0, 0) := by unfold readSpec; rw [len_data, if_neg (by omega), ht]; simp only []; rw [if_neg hm, if_neg ha, if_neg (fun x => x hs), if_neg (fun x => x hp), if_neg ho]
/-- what Read leaves -/
def ReadPost (s : ByteArray) (w : World) (e : Ending) (w' : World) : Prop :=
  ∃ (sv av : Value) (place err : Int), e = .returned (.tuple #[.agg #[sv, av], .int .i64 place, .int .i64 err]) ∧ Below w.heap.size w w' ∧
    ((err = 0 ∧ place = 0 ∧ ∃ sh at_ : List Int, OwnsI w' w.heap.size sv sh ∧ OwnsInts w' w.heap.size av at_ ∧ All64 sh ∧ All64 at_ ∧ flat sh at_ = s.data.toList ∧ arMay sh at_ = 0 ∧ s.size ≤ 1048576 ∧ readSpec (lst s) = (sh, at_, 0, 0)) ∨
      (err ≠ 0 ∧ 0 ≤ place ∧ place ≤ s.size ∧ sv = .slice none 0 0 ∧ av = .slice none 0 0 ∧ readSpec (lst s) = ([], [], place, err)))
theorem read_ok {s : ByteArray} {w wr : World} {q : Nat} {av lv : Value} {ahead l : List Int} {mark : Int} (h : ReadW w wr q av lv ahead l mark) (sv : Value) (sh : List Int) (hsv : OwnsI wr w.heap.size sv sh) (h64 : All64 sh) (hl64 : All64 l)
    (hf : flat sh l = s.data.toList) (hm : arMay sh l = 0) (hs : s.size ≤ 1048576) (hr : readSpec (lst s) = (sh, l, 0, 0)) : ReadPost s w (.returned (.tuple #[.agg #[sv, lv], .int .i64 0, .int .i64 0])) (wr.setRow w.heap.size #[sv, lv]) := by
  have g := grown_row wr w.heap.size #[sv, lv]
  exact ⟨sv, lv, 0, 0, rfl, below_setRow h.be (Nat.le_refl _) _, .inl ⟨rfl, rfl, sh, l, row_other hsv g h.p (by decide), row_other h.ol g h.p (by decide), h64, hl64, hf, hm, hs, hr⟩⟩
theorem read_err {s : ByteArray} {w wr : World} (h : Below w.heap.size w wr) (cs : Array Value) (place err : Int) (he : err ≠ 0) (h0 : 0 ≤ place) (h1 : place ≤ s.size) (hr : readSpec (lst s) = ([], [], place, err)) :
    ReadPost s w (.returned (.tuple #[.agg #[.slice none 0 0, .slice none 0 0], .int .i64 place, .int .i64 err])) (wr.setRow w.heap.size cs) :=
  ⟨_, _, place, err, rfl, below_setRow h (Nat.le_refl _) _, .inr ⟨he, h0, h1, rfl, rfl, hr⟩⟩

theorem heap2 {w : World} {g : Nat} {a b : Value} {t : TypeId} (h : w.heap[g]? = some (.cells #[a, b] t (0, 0))) : w.cell? ⟨g, 0, none⟩ = some a ∧ w.cell? ⟨g, 1, none⟩ = some b := by
  constructor <;> simp [World.cell?, h]
theorem arrInfo : (Tryd.prog.info? 36).map (·.size) = some 2 := by kernel_rfl
/-- a whole array is stored into a block that holds one -/
theorem wp_store_arr {ops : Array Oper} {rest : List Oper} {o : Oper} {a : Act} {Q : Exit → Act → World → Prop} (w : World) (g : Nat) (old : Array Value) (x y : Operand) (ho : o.op = .store 36 x y) (hgd : o.guard = none)
    (hg : w.heap[g]? = some (.cells old 36 (0, 0))) (hs : old.size = 2) (hx : a.eval x = .pointer (some ⟨g, 0, none⟩)) (c0 c1 : Value) (hy : a.eval y = .agg #[c0, c1])
    (h1 : (c0.oneCell' && c1.oneCell') = true) (h : wpList Tryd.prog ops Q rest (a.put o.dst undef) (w.setRow g #[c0, c1])) : wpList Tryd.prog ops Q (o :: rest) a w :=
  wpList_store_row hgd 36 x y ho g #[c0, c1] hx hy 36 old hg arrInfo hs (by simpa [Bool.and_assoc] using h1) h
theorem results_arr {fn : Func} {p t u : Tmp} (h : fn.results = #[.cell p 36, .tmp t, .tmp u]) {tmps : Array Value} {w : World} {g : Nat} (hp : tmps.getD p undef = .pointer (some ⟨g, 0, none⟩)) {c0 c1 : Value}
    (hg : w.heap[g]? = some (.cells #[c0, c1] 36 (0, 0))) : (results fn tmps).run Tryd.prog w = .ok (.tuple #[.agg #[c0, c1], tmps.getD t undef, tmps.getD u undef]) w := by
  obtain ⟨k0, k1⟩ := heap2 hg
  rw [Array.getD_eq_getD_getElem?] at hp
  simp only [results, h]
  simp [go_sem, hp, k0, k1]
theorem info_int : (Tryd.prog.info? 3).map (fun i => (i.zero, i.size, i.bytes)) = some (some (.int .i64 0), 1, 8) := by kernel_rfl
/-- a list of one length, new -/
theorem owns_one (w : World) (B : Nat) (hB : B ≤ w.heap.size) (x : Int) : OwnsI (w.alloc (.cells #[.int .i64 x] 3)) B (.slice (some ⟨w.heap.size, 0, none⟩) 1 1) [x] :=
  ⟨by simp, .inr ⟨w.heap.size, 1, #[.int .i64 x], rfl, hB, heap_alloc_new w _, Nat.le_refl _, by unfold maxLen; omega, rfl, rfl⟩⟩
theorem cut_ne {c : Cst} {t : List UInt8} (h : t ++ [32] = c.pre) : (c.dol = false → c.l ≠ [] ∧ t = joined c.l) ∧ (c.dol = true → t ++ [32] = bl c.ahead ++ [36, 32] ++ bl c.l) := by
  refine ⟨fun hd => ?_, fun hd => ?_⟩
  · rw [Cst.pre, hd] at h
    exact cut_list (by simpa using h)
  · rw [Cst.pre, hd] at h
    simpa using h
end Go.Proofs.YtpipcpjkfgdpcaaDoor
