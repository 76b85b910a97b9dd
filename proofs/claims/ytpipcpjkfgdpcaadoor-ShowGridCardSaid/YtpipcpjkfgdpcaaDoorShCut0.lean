/- show.cut: what holds at its labels. No condition. -/
import Derived.Test.YtpipcpjkfgdpcaaDoorShWords
import Derived.Test.YtpipcpjkfgdpcaaDoorShJumps
import Derived.WalkMore
namespace Go.Proofs.YtpipcpjkfgdpcaaDoor
open Go.RowKit

/-- numbers that the call owns -/
def OwnsInts (w : World) (B : Nat) (v : Value) (l : List Int) : Prop := w.ownsRow B 2 1 v l.length (l.map fun x => .int .i64 x)
/-- numbers, a blank behind each -/
def bl (l : List Int) : List UInt8 := l.flatMap fun x => digits x ++ [32]
/-- what has been read: the numbers so far, those ahead of '$', whether there was one, and where -/
structure Cst where
  L : Value
  l : List Int
  av : Value
  ahead : List Int
  dol : Bool
  mark : Int
/-- the text that has been read, with the blank behind it -/
def Cst.pre (c : Cst) : List UInt8 := (if c.dol then bl c.ahead ++ [36, 32] else []) ++ bl c.l
structure CutW (s : ByteArray) (w0 wr : World) (c : Cst) : Prop where
  be : Below w0.heap.size w0 wr
  p2 : wr.heap[w0.heap.size]? = some (.cells #[.slice none 0 0, .slice none 0 0, .int .i64 0] 96 (0, 0))
  p5 : wr.heap[w0.heap.size + 1]? = some (.cells #[c.av, .slice none 0 0, .int .i64 c.mark] 96 (0, 0))
  ol : OwnsInts wr w0.heap.size c.L c.l
  oa : OwnsInts wr w0.heap.size c.av c.ahead
  ap : c.av.ownBlock = none ∨ c.av.ownBlock ≠ c.L.ownBlock
  al : All64 c.l
  aa : All64 c.ahead
  dol : (c.dol = false ∧ c.mark = -1 ∧ c.ahead = []) ∨ (c.dol = true ∧ 0 ≤ c.mark ∧ c.mark ≤ s.size)
noncomputable def cutBody : Code := match Tryd.f42.body with | some (.seq _ (.scope c)) => c | _ => .skip
/-- the code behind a label -/
noncomputable def cutAt (l : Nat) : Option Code := match findLabel cutBody l with | some (.seq .skip r) => some r | _ => none
/-- the frame at a label -/
abbrev cutFrame (s : ByteArray) (p : Nat) (L : Value) (n i f : Nat) (b o : Bool) (u : Nat → Value) : Act := { tmps := #[.string s, undef, .pointer (some ⟨p, 0, none⟩), .int .i64 0, .int .i64 0, .pointer (some ⟨p + 1, 0, none⟩), L, .int .u64 n, .int .i64 i, .int .i64 f, .bool b, .bool o, u 12, u 13, u 14, u 15, u 16, u 17, u 18, u 19, u 20, u 21, u 22, u 23, u 24, u 25, u 26, u 27, u 28, u 29, u 30, u 31, u 32, u 33, u 34, u 35, u 36, u 37, u 38, u 39, u 40, u 41, u 42, u 43, u 44, u 45, u 46, u 47, u 48, u 49, u 50, u 51, u 52, u 53, u 54, u 55, u 56, u 57, u 58, u 59, u 60, u 61, u 62, u 63, u 64, u 65, u 66, u 67, u 68, u 69, u 70, u 71, u 72, u 73, u 74, u 75, u 76, u 77, u 78, u 79, u 80, u 81, u 82, u 83, u 84, u 85, u 86, u 87, u 88, u 89, u 90, u 91, u 92, u 93, u 94, u 95, u 96, u 97, u 98, u 99, u 100, u 101, u 102, u 103, u 104, u 105, u 106, u 107, u 108, u 109, u 110, u 111, u 112, u 113, u 114, u 115, u 116, u 117, u 118, u 119, u 120, u 121, u 122, u 123, u 124, u 125, u 126, u 127, u 128, u 129, u 130, u 131, u 132, u 133, u 134, u 135, u 136, u 137, u 138, u 139, u 140, u 141, u 142, u 143, u 144, u 145, u 146, u 147, u 148, u 149, u 150, u 151, u 152, u 153, u 154, u 155, u 156, u 157, u 158, u 159, u 160, u 161], defers := [] }
def sg (b : Bool) : List UInt8 := if b then [95] else []
def numText (n : Nat) : List UInt8 := if n = 0 then [] else Lib.decDigits n
/-- the first i bytes -/
def upto (s : ByteArray) (i : Nat) : List UInt8 := s.data.toList.take i
/-- what the text says at a label -/
def cutText (s : ByteArray) (c : Cst) (n i : Nat) (b o : Bool) : Nat → Prop
  | 0 => upto s i = c.pre
  | 1 => i = s.size ∧ upto s i ++ [32] = c.pre
  | 2 => i < s.size ∧ upto s i ++ [32] = c.pre
  | 3 => o = false → upto s i = c.pre ++ sg b ++ Lib.decDigits n ∧ (b = true → 1 ≤ n)
  | 4 => o = false → upto s i = c.pre ++ sg b ++ numText n ∧ (n = 0 → ∃ x, s.data[i]? = some x ∧ 49 ≤ x.toNat ∧ x.toNat ≤ 57)
  | _ => False
abbrev lst (s : ByteArray) : List UInt8 := s.data.toList
/-- what the words from here on come to, is what the whole text's come to -/
def cutAns (s : ByteArray) (c : Cst) (n i f : Nat) (b o : Bool) : Nat → Prop
  | 0 => words (lst s) i c.l c.ahead c.mark = allWords (lst s)
  | 1 => Res.ok c.l c.ahead c.mark = allWords (lst s)
  | 2 => afterK (lst s) (words (lst s)) i c.l c.ahead c.mark = allWords (lst s)
  | 3 => ∃ N, Num o n N ∧ finK (lst s) (words (lst s)) b N f i c.l c.ahead c.mark = allWords (lst s)
  | 4 => ∃ N, Num o n N ∧ moreK (lst s) (words (lst s)) b N f i c.l c.ahead c.mark = allWords (lst s)
  | _ => False
def cutJ (s : ByteArray) (w0 : World) (l : Nat) (a : Act) (wr : World) : Prop :=
  ∃ (c : Cst) (n i f : Nat) (b o : Bool) (u : Nat → Value), a = cutFrame s w0.heap.size c.L n i f b o u ∧ i ≤ s.size ∧ f ≤ s.size ∧ n < 18446744073709551616 ∧ CutW s w0 wr c ∧ cutText s c n i b o l ∧ cutAns s c n i f b o l
def cutRank : Nat → Nat | 0 => 6 | 4 => 5 | 3 => 4 | 2 => 3 | _ => 0
def cutM (s : ByteArray) (l : Nat) (a : Act) (_ : World) : Nat := 8 * (s.size - (intOf (a.tmps.getD 8 undef)).toNat) + cutRank l
/-- what cut leaves -/
def CutPost (s : ByteArray) (w0 : World) (e : Ending) (w' : World) : Prop :=
  ∃ (av lv : Value) (mark place err : Int), e = .returned (.tuple #[.agg #[av, lv, .int .i64 mark], .int .i64 place, .int .i64 err]) ∧ Below w0.heap.size w0 w' ∧ (∃ A n cp, av = .slice A n cp) ∧ (∃ A n cp, lv = .slice A n cp) ∧
    ((err = 0 ∧ place = 0 ∧ ∃ c : Cst, c.av = av ∧ c.L = lv ∧ c.mark = mark ∧ OwnsInts w' w0.heap.size lv c.l ∧ OwnsInts w' w0.heap.size av c.ahead ∧ (av.ownBlock = none ∨ av.ownBlock ≠ lv.ownBlock) ∧ All64 c.l ∧ All64 c.ahead ∧
        ((c.dol = false ∧ c.mark = -1 ∧ c.ahead = []) ∨ (c.dol = true ∧ 0 ≤ c.mark ∧ c.mark ≤ s.size)) ∧ s.data.toList ++ [32] = c.pre ∧ allWords (lst s) = .ok c.l c.ahead c.mark) ∨
      ((err = 37 ∨ err = 30) ∧ 0 ≤ place ∧ place ≤ s.size ∧ allWords (lst s) = .bad err place))
abbrev cutQ (s : ByteArray) (w0 : World) : Exit → Act → World → Prop := bodyPost Tryd.prog Tryd.f42 (CutPost s w0)
abbrev CutPasses (s : ByteArray) (w0 : World) (n : Nat) (r : Code) (a : Act) (w : World) : Prop := Passes Tryd.prog cutAt (cutJ s w0) (cutM s) (cutQ s w0) n r a w
theorem frame_back {a : Act} {s : ByteArray} {p : Nat} {L : Value} {n i f : Nat} {b o : Bool} (h : a = cutFrame s p L n i f b o (fun k => a.tmps.getD k undef)) : ∃ u, a = cutFrame s p L n i f b o u := ⟨_, h⟩

theorem heap3 {w : World} {g : Nat} {a b c : Value} {t : TypeId} (h : w.heap[g]? = some (.cells #[a, b, c] t (0, 0))) :
    w.cell? ⟨g, 0, none⟩ = some a ∧ w.cell? ⟨g, 1, none⟩ = some b ∧ w.cell? ⟨g, 2, none⟩ = some c ∧ ∀ j, w.frozen? ⟨g, j, none⟩ = false := by
  refine ⟨?_, ?_, ?_, fun j => ?_⟩
  · simp [World.cell?, h]
  · simp [World.cell?, h]
  · simp [World.cell?, h]
  · simp [World.frozen?, h]
theorem upto_all (s : ByteArray) : upto s s.size = s.data.toList := List.take_of_length_le (by rw [Array.length_toList]; exact Nat.le_refl _)
theorem below_setRow {B g : Nat} {a w : World} (h : Below B a w) (hB : B ≤ g) (cs : Array Value) : Below B a (w.setRow g cs) :=
  h.trans ⟨rfl, rfl, rfl, by simp, fun k hk => setRow_other w g k cs (by omega)⟩
theorem wordsInfo : (Tryd.prog.info? 96).map (·.size) = some 3 := by kernel_rfl
/-- a whole words is stored into a block that holds one -/
theorem wp_store_words {ops : Array Oper} {rest : List Oper} {o : Oper} {a : Act} {Q : Exit → Act → World → Prop} (w : World) (g : Nat) (old : Array Value) (x y : Operand) (ho : o.op = .store 96 x y) (hgd : o.guard = none)
    (hg : w.heap[g]? = some (.cells old 96 (0, 0))) (hs : old.size = 3) (hx : a.eval x = .pointer (some ⟨g, 0, none⟩)) (c0 c1 c2 : Value) (hy : a.eval y = .agg #[c0, c1, c2])
    (h1 : (c0.oneCell' && c1.oneCell' && c2.oneCell') = true) (h : wpList Tryd.prog ops Q rest (a.put o.dst undef) (w.setRow g #[c0, c1, c2])) : wpList Tryd.prog ops Q (o :: rest) a w :=
  wpList_store_row hgd 96 x y ho g #[c0, c1, c2] hx hy 96 old hg wordsInfo hs (by simpa [Bool.and_assoc] using h1) h
theorem results_words {fn : Func} {p t u : Tmp} (h : fn.results = #[.cell p 96, .tmp t, .tmp u]) {tmps : Array Value} {w : World} {g : Nat} (hp : tmps.getD p undef = .pointer (some ⟨g, 0, none⟩)) {c0 c1 c2 : Value}
    (hg : w.heap[g]? = some (.cells #[c0, c1, c2] 96 (0, 0))) : (results fn tmps).run Tryd.prog w = .ok (.tuple #[.agg #[c0, c1, c2], tmps.getD t undef, tmps.getD u undef]) w := by
  obtain ⟨k0, k1, k2, _⟩ := heap3 hg
  rw [Array.getD_eq_getD_getElem?] at hp
  simp only [results, h]
  simp [go_sem, hp, k0, k1, k2]
/-- a cell of a words is written: what else the call owns stays -/
theorem grown_cell (w : World) (g j : Nat) (v : Value) : w.grownBy (w.setCell ⟨g, j, none⟩ v) (some g) := by
  have hb0 : Below 0 w (w.setCell ⟨g, j, none⟩ v) := (Below.refl _ _).setCell (Nat.zero_le _) _
  exact ⟨hb0.os, hb0.tape, hb0.output, hb0.size, fun k _ hne => Below.heap_setCell _ _ _ _ (fun e => hne (by rw [e]))⟩
theorem grown_row (w : World) (g : Nat) (cs : Array Value) : w.grownBy (w.setRow g cs) (some g) :=
  ⟨rfl, rfl, rfl, by simp, fun k _ hne => setRow_other w g k cs (fun e => hne (by rw [e]))⟩
theorem OwnsInts.row {w : World} {B : Nat} {v : Value} {l : List Int} (h : OwnsInts w B v l) : ∀ k, v.ownBlock = some k → ∃ cur, w.heap[k]? = some (.cells cur 2 (0, 0)) := by
  intro k hk
  rcases h.2 with ⟨rfl, _⟩ | ⟨g, cap, cur, rfl, _, hb, _⟩
  · simp [Value.ownBlock] at hk
  · simp only [Value.ownBlock, Option.some.injEq] at hk
    subst hk
    exact ⟨cur, hb⟩
theorem OwnsInts.words {w w' : World} {B g : Nat} {v : Value} {l : List Int} {cs : Array Value} (h : OwnsInts w B v l) (hg : w.grownBy w' (some g)) (hb : w.heap[g]? = some (.cells cs 96 (0, 0))) : OwnsInts w' B v l :=
  World.ownsRow.kept h hg (.inr fun hk => by obtain ⟨cur, hc⟩ := OwnsInts.row h g hk; rw [hb] at hc; injection hc with hc; injection hc with _ ht; cases ht)
theorem OwnsInts.form {w : World} {B : Nat} {v : Value} {l : List Int} (h : OwnsInts w B v l) : ∃ A cp, v = .slice A l.length cp := by
  rcases h.2 with ⟨rfl, h0⟩ | ⟨g, cap, cur, rfl, _⟩
  · exact ⟨none, 0, by rw [h0]⟩
  · exact ⟨_, _, rfl⟩
theorem cell3_0 {w : World} {g : Nat} {a b c : Value} {t : TypeId} (h : w.heap[g]? = some (.cells #[a, b, c] t (0, 0))) (v : Value) : (w.setCell ⟨g, 0, none⟩ v).heap[g]? = some (.cells #[v, b, c] t (0, 0)) := by simp [World.setCell, Array.getElem?_modify, h]
theorem cell3_1 {w : World} {g : Nat} {a b c : Value} {t : TypeId} (h : w.heap[g]? = some (.cells #[a, b, c] t (0, 0))) (v : Value) : (w.setCell ⟨g, 1, none⟩ v).heap[g]? = some (.cells #[a, v, c] t (0, 0)) := by simp [World.setCell, Array.getElem?_modify, h]
theorem cell3_2 {w : World} {g : Nat} {a b c : Value} {t : TypeId} (h : w.heap[g]? = some (.cells #[a, b, c] t (0, 0))) (v : Value) : (w.setCell ⟨g, 2, none⟩ v).heap[g]? = some (.cells #[a, b, v] t (0, 0)) := by simp [World.setCell, Array.getElem?_modify, h]
theorem cutJ_of {s : ByteArray} {w0 : World} {l : Nat} {a : Act} {wr : World} (c : Cst) (n i f : Nat) (b o : Bool) (ha : a = cutFrame s w0.heap.size c.L n i f b o (fun k => a.tmps.getD k undef)) (hi : i ≤ s.size) (hf : f ≤ s.size) (hn : n < 18446744073709551616) (hW : CutW s w0 wr c) (ht : cutText s c n i b o l) (hA : cutAns s c n i f b o l) : cutJ s w0 l a wr :=
  ⟨c, n, i, f, b, o, _, ha, hi, hf, hn, hW, ht, hA⟩
theorem CutW.err {s : ByteArray} {w0 wr : World} {c : Cst} (h : CutW s w0 wr c) (cs : Array Value) (av lv : Value) (mark place err : Int) (he : err = 37 ∨ err = 30) (h0 : 0 ≤ place) (h1 : place ≤ s.size) (hT : allWords (lst s) = .bad err place)
    (hav : ∃ A n cp, av = .slice A n cp := by exact ⟨_, _, _, rfl⟩) (hlv : ∃ A n cp, lv = .slice A n cp := by exact ⟨_, _, _, rfl⟩) :
    CutPost s w0 (.returned (.tuple #[.agg #[av, lv, .int .i64 mark], .int .i64 place, .int .i64 err])) (wr.setRow w0.heap.size cs) :=
  ⟨av, lv, mark, place, err, rfl, below_setRow h.be (Nat.le_refl _) _, hav, hlv, .inr ⟨he, h0, h1, hT⟩⟩
/-- the byte at i, and what one byte more is -/
theorem upto_succ {s : ByteArray} {i : Nat} (h : i < s.size) : upto s (i + 1) = upto s i ++ [s[i]] := by
  have h' : i < s.data.toList.length := by rw [Array.length_toList]; exact h
  unfold upto
  rw [List.take_add_one, List.getElem?_eq_getElem h']
  rfl
theorem cutM_at (s : ByteArray) (l p : Nat) (L : Value) (n i f : Nat) (b o : Bool) (u : Nat → Value) (w : World) : cutM s l (cutFrame s p L n i f b o u) w = 8 * (s.size - i) + cutRank l := rfl
theorem byte_eq {x : UInt8} {k : Nat} (h : (x.toNat : Int) = k) (hk : k < 256) : x = UInt8.ofNat k := by
  apply UInt8.toNat_inj.1
  rw [UInt8.toNat_ofNat_of_lt' hk]
  omega
end Go.Proofs.YtpipcpjkfgdpcaaDoor
