/- The helpers of the laws of package fault: awake, begun, more. Conditions: the listed variables of Go's library are as laid; sizes that fit. -/
import Derived.Test.YtcohinfpcafcpaaDoorFaultTrail
namespace Go.Proofs.YtcohinfpcafcpaaDoor
open Go.RowKit Go.Extern.Stop Go.Stop Go.Extern Go.Sort

/-- a Book -/
structure Bk where
  there : Bool
  code : Int
  place : Int
  names : List (List UInt8)
  text : List UInt8
def Bk.val (b : Bk) (nv : Value) : Value := .agg #[.bool b.there, .int .i64 b.code, .int .i64 b.place, nv, .string ⟨b.text.toArray⟩]
def Err.book (e : Err) : Bk := ⟨true, e.code, e.place, e.names, e.text⟩
/-- an error, or nil -/
def oval : Option Err → Value
  | some e => .iface e.ty e.dat
  | none => .nilIface

theorem ErrAt.grown {w w' : World} {row : Option Nat} (hg : w.grownBy w' row) (hrow : ∀ k, row = some k → ∃ cur, w.heap[k]? = some (.cells cur 9 (0, 0))) : ∀ {e : Err}, ErrAt w e → ErrAt w' e
  | .met b _ _, h => (hg.block b (at_lt h) (fun hk => by obtain ⟨cur, hc⟩ := hrow b hk.symm; have h' : w.heap[b]? = _ := h; rw [h'] at hc; injection hc with hc; injection hc with _ ht; cases ht)).trans h
  | .within b _ _, ⟨h, h3⟩ => ⟨(hg.block b (at_lt h) (fun hk => by obtain ⟨cur, hc⟩ := hrow b hk.symm; rw [h] at hc; injection hc with hc; injection hc with _ ht; cases ht)).trans h, ErrAt.grown hg hrow h3⟩
  | .outer b _, ⟨h, h3⟩ => ⟨(hg.block b (at_lt h) (fun hk => by obtain ⟨cur, hc⟩ := hrow b hk.symm; rw [h] at hc; injection hc with hc; injection hc with _ ht; cases ht)).trans h, ErrAt.grown hg hrow h3⟩
  | .other b _, h => (hg.block b (at_lt h) (fun hk => by obtain ⟨cur, hc⟩ := hrow b hk.symm; have h' : w.heap[b]? = _ := h; rw [h'] at hc; injection hc with hc; injection hc with _ ht; cases ht)).trans h
  | .errno _, h => h
/-- a row of texts lies in a block of texts -/
theorem OwnsTexts.row {w : World} {B : Nat} {nv : Value} {l : List (List UInt8)} (h : OwnsTexts w B nv l) : ∀ k, nv.ownBlock = some k → ∃ cur, w.heap[k]? = some (.cells cur 9 (0, 0)) := by
  intro k hk
  rcases h.2 with ⟨rfl, _⟩ | ⟨g, cap, cur, rfl, _, hb, _⟩
  · simp [Value.ownBlock] at hk
  · simp only [Value.ownBlock, Option.some.injEq] at hk
    subst hk
    exact ⟨cur, hb⟩

/-- an error and its book agree, in w; the book's names lie in memory from block B on -/
structure StAt (B : Nat) (w : World) (o : Option Err) (bk : Bk) (nv : Value) : Prop where
  some_ : ∀ e, o = some e → ErrAt w e ∧ e.fits ∧ bk = e.book
  none_ : o = none → bk.there = false
  names : OwnsTexts w B nv bk.names

theorem within_error_at {w : World} {b : Nat} {e : Err} {s : ByteArray} (h : ErrAt w (.within b e s)) (hf : (Err.within b e s).fits) (hp : Pow10 w) :
    Calls Tryd.prog 69 #[.pointer (some ⟨b, 0, none⟩)] w (Tells (Err.within b e s).text w) := by
  obtain ⟨f, hM, hc⟩ := err_error e w h.2 hf.1
  exact within_error b e.ty e.dat s f e w hp h.1 hM hf.2 hc
theorem awake_any (w : World) (hp : Pow10 w) (hg : ErrTy w) : Calls Tryd.prog 11 #[] w fun e w' => e = .returned (.bool true) ∧ Below w.heap.size w w' := by
  have HP := Lib.hid hp
  have HG := Lib.hid hg
  clear hp hg
  go_enter Tryd.func11, Tryd.ntmps11
  go_wp2_with fail
  refine (new_some 10 (-1) w rfl).mono ?_
  rintro r w' ⟨rfl, rfl⟩
  go_wp2_with fail
  refine (in_some (.met w.heap.size 10 (-1)) ⟨#[77, 101, 97, 110]⟩ _).mono ?_
  rintro r w' ⟨rfl, rfl⟩
  go_wp2_with fail
  have hb1 : Below w.heap.size w ((w.alloc (.cells #[.int .i64 10, .int .i64 (-1)] 79)).alloc (.cells #[.iface (Err.met w.heap.size 10 (-1)).ty (Err.met w.heap.size 10 (-1)).dat, .string ⟨#[77, 101, 97, 110]⟩] 72)) := ((Below.refl _ _).alloc (Nat.le_refl _) _).alloc (by simp) _
  have hE : ErrAt ((w.alloc (.cells #[.int .i64 10, .int .i64 (-1)] 79)).alloc (.cells #[.iface (Err.met w.heap.size 10 (-1)).ty (Err.met w.heap.size 10 (-1)).dat, .string ⟨#[77, 101, 97, 110]⟩] 72)) (.within (w.heap.size + 1) (.met w.heap.size 10 (-1)) ⟨#[77, 101, 97, 110]⟩) := by
    refine ⟨?_, ?_⟩
    · have := heap_alloc_new (w.alloc (.cells #[.int .i64 10, .int .i64 (-1)] 79)) (.cells #[.iface (Err.met w.heap.size 10 (-1)).ty (Err.met w.heap.size 10 (-1)).dat, .string ⟨#[77, 101, 97, 110]⟩] 72)
      have e1 : (w.alloc (.cells #[.int .i64 10, .int .i64 (-1)] 79)).heap.size = w.heap.size + 1 := by simp
      rw [e1] at this
      exact this
    · exact (Below.heap_alloc _ _ _ (by simp)).trans (heap_alloc_new w _)
  have hM := within_error_at hE (by refine ⟨⟨⟨by decide, by decide⟩, by decide, by decide⟩, ?_⟩; show 4 + 2 + (tErr ++ Lib.itoa 10 ++ tAt ++ Lib.itoa (-1)).length ≤ 9223372036854775807; decide +kernel) (HP.out.on hb1)
  have htx : (Err.within (w.heap.size + 1) (.met w.heap.size 10 (-1)) ⟨#[77, 101, 97, 110]⟩).text = [77, 101, 97, 110, 58, 32, 101, 114, 114, 111, 114, 32, 49, 48, 32, 97, 116, 32, 45, 49] := by
    show _ ++ _ ++ (_ ++ _ ++ _ ++ _) = _
    decide +kernel
  rw [htx] at hM
  refine hM.mono ?_
  rintro r w2 ⟨rfl, hb2⟩
  have hC := code_any (.within (w.heap.size + 1) (.met w.heap.size 10 (-1)) ⟨#[77, 101, 97, 110]⟩) w2 (hE.on hb2) ((HG.out.on hb1).on hb2)
  have HB := Lib.hid (hb1.then_ hb2)
  have HC := Lib.hid hC
  clear hb1 hE hM htx hC hb2
  go_wp2_with fail
  refine HC.out.mono ?_
  rintro r w3 ⟨rfl, hb3⟩
  have HB3 := Lib.hid (HB.out.then_ hb3)
  clear hb3
  go_wp2_with fail
  go_ret
  exact ⟨rfl, HB3.out⟩

def In64 (n : Int) : Prop := -9223372036854775808 ≤ n ∧ n ≤ 9223372036854775807
/-- what begun begins with -/
def BegunRel (kind code a : Int) (s : ByteArray) (o : Option Err) (bk : Bk) : Prop :=
  (kind = 1 ∧ code = 0 ∧ o = none ∧ bk = ⟨false, code, a, [], tErr ++ Lib.itoa code ++ tAt ++ Lib.itoa a⟩) ∨
  (kind = 1 ∧ code ≠ 0 ∧ ∃ b, o = some (.met b code a) ∧ bk = (Err.met b code a).book) ∨
  (kind = 2 ∧ ∃ b, o = some (.other b s) ∧ bk = (Err.other b s).book) ∨
  (kind = 3 ∧ o = some (.errno code) ∧ bk = (Err.errno code).book) ∨
  (kind ≠ 1 ∧ kind ≠ 2 ∧ kind ≠ 3 ∧ o = none ∧ bk = ⟨false, 0, 0, [], []⟩)
def BegunPost (kind code a : Int) (s : ByteArray) (B : Nat) (w : World) (e : Ending) (w' : World) : Prop :=
  ∃ o bk, e = .returned (.tuple #[oval o, bk.val (.slice none 0 0)]) ∧ StAt B w' o bk (.slice none 0 0) ∧ Below w.heap.size w w' ∧ BegunRel kind code a s o bk

theorem cells5 {w : World} {g : Nat} {a b c d e : Value} {t : TypeId} (h : w.heap[g]? = some (.cells #[a, b, c, d, e] t (0, 0))) :
    w.cell? ⟨g, 0, none⟩ = some a ∧ w.cell? ⟨g, 1, none⟩ = some b ∧ w.cell? ⟨g, 2, none⟩ = some c ∧ w.cell? ⟨g, 3, none⟩ = some d ∧ w.cell? ⟨g, 4, none⟩ = some e := by simp [World.cell?, h]
theorem below_setRow {B g : Nat} {a w : World} (h : Below B a w) (hB : B ≤ g) (cs : Array Value) : Below B a (w.setRow g cs) :=
  h.trans ⟨rfl, rfl, rfl, by simp, fun k hk => setRow_other w g k cs (by omega)⟩
theorem bookInfo : (Tryd.prog.info? 32).map (·.size) = some 5 := by kernel_rfl
/-- a whole Book is stored into a block that holds one -/
theorem wp_store_book {ops : Array Oper} {rest : List Oper} {o : Oper} {a : Act} {Q : Exit → Act → World → Prop} (w : World) (g : Nat) (old : Array Value) (x y : Operand) (ho : o.op = .store 32 x y) (hgd : o.guard = none)
    (hg : w.heap[g]? = some (.cells old 32 (0, 0))) (hs : old.size = 5) (hx : a.eval x = .pointer (some ⟨g, 0, none⟩)) (c0 c1 c2 c3 c4 : Value) (hy : a.eval y = .agg #[c0, c1, c2, c3, c4])
    (h1 : (c0.oneCell' && c1.oneCell' && c2.oneCell' && c3.oneCell' && c4.oneCell') = true) (h : wpList Tryd.prog ops Q rest (a.put o.dst undef) (w.setRow g #[c0, c1, c2, c3, c4])) : wpList Tryd.prog ops Q (o :: rest) a w :=
  wpList_store_row hgd 32 x y ho g #[c0, c1, c2, c3, c4] hx hy 32 old hg bookInfo hs (by simpa [Bool.and_assoc] using h1) h
/-- a function that returns an error (or whatever one slot holds) and a Book that lies in a block -/
theorem results_book {fn : Func} {t p : Tmp} (h : fn.results = #[.tmp t, .cell p 32]) {tmps : Array Value} {w : World} {g : Nat} (hp : tmps.getD p undef = .pointer (some ⟨g, 0, none⟩)) {c0 c1 c2 c3 c4 : Value}
    (hg : w.heap[g]? = some (.cells #[c0, c1, c2, c3, c4] 32 (0, 0))) : (results fn tmps).run Tryd.prog w = .ok (.tuple #[tmps.getD t undef, .agg #[c0, c1, c2, c3, c4]]) w := by
  obtain ⟨k0, k1, k2, k3, k4⟩ := cells5 hg
  rw [Array.getD_eq_getD_getElem?] at hp
  simp only [results, h]
  simp [go_sem, hp, k0, k1, k2, k3, k4]
set_option maxRecDepth 100000 in
set_option maxHeartbeats 1000000 in
theorem begun_met0 (a : Int) (s : ByteArray) (B : Nat) (w : World) (hp : Pow10 w) (ha : In64 a) :
    Calls Tryd.prog 12 #[.int .i64 1, .int .i64 0, .int .i64 a, .string s] w (BegunPost 1 0 a s B w) := by
  have l0 := itoa_len 0 (by decide) (by decide)
  have l1 := itoa_len a ha.1 ha.2
  have q1 : ¬ 9223372036854775807 < 6 + (Lib.itoa 0).length := by omega
  have q2 : ¬ 9223372036854775807 < 6 + (Lib.itoa 0).length + 4 := by omega
  have q3 : ¬ 9223372036854775807 < 6 + (Lib.itoa 0).length + 4 + (Lib.itoa a).length := by omega
  have HP := Lib.hid hp
  clear hp l0 l1
  go_enter Tryd.func12, Tryd.ntmps12
  go_wp2_with fail
  refine (new_none a _).mono ?_
  rintro r w1 ⟨rfl, rfl⟩
  go_wp2_with fail
  have hb1 : Below w.heap.size w (w.alloc (.cells #[.bool false, .int .i64 0, .int .i64 0, .slice none 0 0, .string ⟨#[]⟩] 32)) := (Below.refl _ _).alloc (Nat.le_refl _) _
  refine (itoa_any 0 (by decide) (by decide) _ (HP.out.on hb1)).mono ?_
  rintro r w2 ⟨rfl, hb2⟩
  have HB1 := Lib.hid hb1
  have HB2 := Lib.hid hb2
  clear hb1 hb2
  go_wp2_with fail
  refine (itoa_any a ha.1 ha.2 _ (HP.out.on (HB1.out.then_ HB2.out))).mono ?_
  rintro r w3 ⟨rfl, hb3⟩
  have hblk : w3.heap[w.heap.size]? = some (.cells #[.bool false, .int .i64 0, .int .i64 0, .slice none 0 0, .string ⟨#[]⟩] 32 (0, 0)) := ((HB2.out.then_ hb3).block _ (by simp)).trans (heap_alloc_new w _)
  have HB3 := Lib.hid (HB1.out.then_ (HB2.out.then_ hb3))
  clear hb3
  go_wp2_with (refine wp_store_book _ w.heap.size _ (.tmp 9) (.tmp 27) rfl rfl hblk rfl rfl _ _ _ _ _ rfl rfl ?_)
  refine bodyPost_ret (results_book rfl rfl (setRow_heap _ _ _ _ _ _ hblk)) rfl ?_
  refine ⟨none, ⟨false, 0, a, [], tErr ++ Lib.itoa 0 ++ tAt ++ Lib.itoa a⟩, ?_, ⟨fun _ h => (by cases h), fun _ => rfl, World.ownsRow_nil _ _ _ _⟩, below_setRow HB3.out (Nat.le_refl _) _, .inl ⟨rfl, rfl, rfl, rfl⟩⟩
  show _ = Ending.returned (.tuple #[.nilIface, .agg #[.bool false, .int .i64 0, .int .i64 a, .slice none 0 0, .string ⟨(Err.met 0 0 a).text.toArray⟩]])
  rw [← met_text 0]
  rfl

theorem blk_new {w w' : World} {o : Obj} (hb : Below (w.alloc o).heap.size (w.alloc o) w') : w'.heap[w.heap.size]? = some o := (hb.block _ (by simp)).trans (heap_alloc_new w o)
abbrev book0 : Obj := (.cells #[.bool false, .int .i64 0, .int .i64 0, .slice none 0 0, .string ⟨#[]⟩] 32)
set_option maxRecDepth 100000 in
set_option maxHeartbeats 1000000 in
theorem begun_met (c a : Int) (s : ByteArray) (B : Nat) (w : World) (hp : Pow10 w) (hc : In64 c) (ha : In64 a) (h0 : c ≠ 0) :
    Calls Tryd.prog 12 #[.int .i64 1, .int .i64 c, .int .i64 a, .string s] w (BegunPost 1 c a s B w) := by
  have l0 := itoa_len c hc.1 hc.2
  have l1 := itoa_len a ha.1 ha.2
  have q1 : ¬ 9223372036854775807 < 6 + (Lib.itoa c).length := by omega
  have q2 : ¬ 9223372036854775807 < 6 + (Lib.itoa c).length + 4 := by omega
  have q3 : ¬ 9223372036854775807 < 6 + (Lib.itoa c).length + 4 + (Lib.itoa a).length := by omega
  have hcb : (c == 0) = false := by simpa using h0
  have hcn : (c != 0) = true := by simpa using h0
  have HP := Lib.hid hp
  clear hp l0 l1
  go_enter Tryd.func12, Tryd.ntmps12
  go_wp2_with fail
  refine (new_some c a _ hcb).mono ?_
  rintro r w1 ⟨rfl, rfl⟩
  go_wp2_with fail
  have hb1 : Below (w.alloc book0).heap.size (w.alloc book0) ((w.alloc book0).alloc (.cells #[.int .i64 c, .int .i64 a] 79)) := (Below.refl _ _).alloc (Nat.le_refl _) _
  have hb0 : Below w.heap.size w (w.alloc book0) := (Below.refl _ _).alloc (Nat.le_refl _) _
  refine (itoa_any c hc.1 hc.2 _ (HP.out.on (hb0.then_ hb1))).mono ?_
  rintro r w2 ⟨rfl, hb2⟩
  have HB0 := Lib.hid hb0
  have HB1 := Lib.hid hb1
  have HB2 := Lib.hid hb2
  clear hb0 hb1 hb2
  go_wp2_with fail
  refine (itoa_any a ha.1 ha.2 _ (HP.out.on (HB0.out.then_ (HB1.out.then_ HB2.out)))).mono ?_
  rintro r w3 ⟨rfl, hb3⟩
  have hblk : w3.heap[w.heap.size]? = some book0 := blk_new (HB1.out.then_ (HB2.out.then_ hb3))
  have hmet : w3.heap[(w.alloc book0).heap.size]? = some (.cells #[.int .i64 c, .int .i64 a] 79 (0, 0)) := blk_new (HB2.out.then_ hb3)
  have HM := Lib.hid hmet
  have HB3 := Lib.hid (HB0.out.then_ (HB1.out.then_ (HB2.out.then_ hb3)))
  clear hb3 hmet
  go_wp2_with (refine wp_store_book _ w.heap.size _ (.tmp 9) (.tmp 27) rfl rfl hblk rfl rfl _ _ _ _ _ rfl rfl ?_)
  refine bodyPost_ret (results_book rfl rfl (setRow_heap _ _ _ _ _ _ hblk)) rfl ?_
  have hM1 := (setRow_other w3 w.heap.size (w.alloc book0).heap.size #[.bool true, .int .i64 c, .int .i64 a, .slice none 0 0, .string ⟨(Err.met (w.alloc book0).heap.size c a).text.toArray⟩] (by simp)).trans HM.out
  have e1 : (w.alloc book0).heap.size = w.heap.size + 1 := by simp
  refine ⟨some (.met (w.heap.size + 1) c a), (Err.met (w.heap.size + 1) c a).book, ?_, ⟨fun e h => ?_, fun h => (by cases h), World.ownsRow_nil _ _ _ _⟩, below_setRow HB3.out (Nat.le_refl _) _, .inr (.inl ⟨rfl, h0, _, rfl, rfl⟩)⟩
  · show _ = Ending.returned (.tuple #[.iface 77 (.pointer (some ⟨w.heap.size + 1, 0, none⟩)), .agg #[.bool true, .int .i64 c, .int .i64 a, .slice none 0 0, .string ⟨(Err.met 0 c a).text.toArray⟩]])
    rw [← met_text 0]
    rfl
  · cases h
    rw [e1] at hM1
    refine ⟨?_, ⟨hc, ha⟩, rfl⟩
    have e2 : (⟨#[101, 114, 114, 111, 114, 32]⟩ ++ ⟨(Lib.itoa c).toArray⟩ ++ ⟨#[32, 97, 116, 32]⟩ ++ ⟨(Lib.itoa a).toArray⟩ : ByteArray) = _ := met_text (w.heap.size + 1) c a
    rw [← e2] at hM1
    exact hM1

set_option maxRecDepth 100000 in
theorem begun_other (c a : Int) (s : ByteArray) (B : Nat) (w : World) :
    Calls Tryd.prog 12 #[.int .i64 2, .int .i64 c, .int .i64 a, .string s] w (BegunPost 2 c a s B w) := by
  go_enter Tryd.func12, Tryd.ntmps12
  go_wp2_with fail
  refine (errors_new s _).mono ?_
  rintro r w1 ⟨rfl, rfl⟩
  go_wp2_with fail
  refine bodyPost_ret (results_book rfl rfl ((Below.heap_alloc _ _ _ (by simp)).trans (heap_alloc_new w _))) rfl ?_
  refine ⟨some (.other (w.heap.size + 1) s), (Err.other (w.heap.size + 1) s).book, ?_, ⟨fun e h => ?_, fun h => (by cases h), World.ownsRow_nil _ _ _ _⟩, ((Below.refl _ _).alloc (Nat.le_refl _) _).alloc (by simp) _, .inr (.inr (.inl ⟨rfl, _, rfl, rfl⟩))⟩
  · rfl
  · cases h
    refine ⟨?_, trivial, rfl⟩
    have := heap_alloc_new (w.alloc (.cells #[.bool true, .int .i64 39, .int .i64 (-1), .slice none 0 0, .string s] 32)) (.cells #[.string s] 82)
    have e1 : (w.alloc (.cells #[.bool true, .int .i64 39, .int .i64 (-1), .slice none 0 0, .string s] 32)).heap.size = w.heap.size + 1 := by simp
    rw [e1] at this
    exact this

set_option maxRecDepth 100000 in
theorem begun_errno (c a : Int) (s : ByteArray) (B : Nat) (w : World) (hp : Pow10 w) (hc : In64 c) :
    Calls Tryd.prog 12 #[.int .i64 3, .int .i64 c, .int .i64 a, .string s] w (BegunPost 3 c a s B w) := by
  have l0 := itoa_len c hc.1 hc.2
  have q1 : ¬ 9223372036854775807 < 6 + (Lib.itoa c).length := by omega
  have HP := Lib.hid hp
  clear hp l0
  go_enter Tryd.func12, Tryd.ntmps12
  go_wp2_with fail
  have hb0 : Below w.heap.size w (w.alloc book0) := (Below.refl _ _).alloc (Nat.le_refl _) _
  refine (itoa_any c hc.1 hc.2 _ (HP.out.on hb0)).mono ?_
  rintro r w2 ⟨rfl, hb2⟩
  have hblk : w2.heap[w.heap.size]? = some book0 := blk_new hb2
  have HB3 := Lib.hid (hb0.then_ hb2)
  clear hb2 hb0
  go_wp2_with (refine wp_store_book _ w.heap.size _ (.tmp 9) (.tmp 42) rfl rfl hblk rfl rfl _ _ _ _ _ rfl rfl ?_)
  refine bodyPost_ret (results_book rfl rfl (setRow_heap _ _ _ _ _ _ hblk)) rfl ?_
  refine ⟨some (.errno c), (Err.errno c).book, ?_, ⟨fun e h => ?_, fun h => (by cases h), World.ownsRow_nil _ _ _ _⟩, below_setRow HB3.out (Nat.le_refl _) _, .inr (.inr (.inr (.inl ⟨rfl, rfl, rfl⟩)))⟩
  · show Ending.returned (.tuple #[.iface 24 (.int .i64 c), .agg #[.bool true, .int .i64 c, .int .i64 (-1), .slice none 0 0, .string (⟨tErr.toArray⟩ ++ ⟨(Lib.itoa c).toArray⟩)]]) = _
    rw [ByteArray.mk_append_mk]
    rfl
  · cases h
    exact ⟨trivial, hc, rfl⟩

set_option maxRecDepth 100000 in
theorem begun_none (k c a : Int) (s : ByteArray) (B : Nat) (w : World) (h1 : k ≠ 1) (h2 : k ≠ 2) (h3 : k ≠ 3) :
    Calls Tryd.prog 12 #[.int .i64 k, .int .i64 c, .int .i64 a, .string s] w (BegunPost k c a s B w) := by
  have k1 : (k == 1) = false := by simpa using h1
  have k2 : (k == 2) = false := by simpa using h2
  have k3 : (k == 3) = false := by simpa using h3
  have H := Lib.hid (And.intro h1 (And.intro h2 h3))
  clear h1 h2 h3
  go_enter Tryd.func12, Tryd.ntmps12
  go_wp2_with fail
  refine bodyPost_ret (results_book rfl rfl (heap_alloc_new w _)) rfl ?_
  exact ⟨none, ⟨false, 0, 0, [], []⟩, rfl, ⟨fun e h => (by cases h), fun _ => rfl, World.ownsRow_nil _ _ _ _⟩, (Below.refl _ _).alloc (Nat.le_refl _) _, .inr (.inr (.inr (.inr ⟨H.out.1, H.out.2.1, H.out.2.2, rfl, rfl⟩)))⟩

theorem begun_any (k c a : Int) (s : ByteArray) (B : Nat) (w : World) (hp : Pow10 w) (hc : In64 c) (ha : In64 a) :
    Calls Tryd.prog 12 #[.int .i64 k, .int .i64 c, .int .i64 a, .string s] w (BegunPost k c a s B w) := by
  by_cases h1 : k = 1
  · subst h1
    by_cases h0 : c = 0
    · subst h0
      exact begun_met0 a s B w hp ha
    · exact begun_met c a s B w hp hc ha h0
  · by_cases h2 : k = 2
    · subst h2
      exact begun_other c a s B w
    · by_cases h3 : k = 3
      · subst h3
        exact begun_errno c a s B w hp hc
      · exact begun_none k c a s B w h1 h2 h3
end Go.Proofs.YtcohinfpcafcpaaDoor
