/- TraitMade in pieces: the region of a number in a function's body; what the pieces know. No condition. -/
import Derived.Test.YtebiojmfieoncaaGreatTeTc
import Derived.Test.YtebiojmfieoncaaGreatTeNo
import Derived.Test.YtebiojmfieoncaaGreatTeSt
namespace Go.Proofs.YtebiojmfieoncaaGreat
open Go.RowKit

/-- the region of a number in code -/
def regAt (n : Nat) : Code → Option Code
  | .region i ops d => if i = n then some (.region i ops d) else none
  | .seq a b => match regAt n a with | some c => some c | none => regAt n b
  | .cond _ a b => match regAt n a with | some c => some c | none => regAt n b
  | .block _ b => regAt n b
  | .loop b => regAt n b
  | .scope b => regAt n b
  | _ => none
/-- the region of a number in a function's body -/
def regOf (f : Func) (n : Nat) : Code := (f.body.bind (regAt n)).getD .skip
/-- what each piece of TraitMade knows -/
structure MadeCx (u v : Tm) (Au : Option Addr) (cau : Nat) (Bu : Option Addr) (cbu : Nat) (Ku : Option Addr) (cku : Nat) (Av : Option Addr) (cav : Nat) (Bv : Option Addr) (cbv : Nat) (Kv : Option Addr) (ckv : Nat) (w W0 : World) (gu gv : Nat) : Prop where
  fc : ∀ W, Below W0.heap.size W0 W → W.cell? ⟨w.heap.size, 0, none⟩ = some (.int .i64 u.kind) ∧ W.cell? ⟨w.heap.size, 1, none⟩ = some (.string u.text) ∧ W.cell? ⟨w.heap.size, 2, none⟩ = some (.int .i64 u.n) ∧ W.cell? ⟨w.heap.size, 3, none⟩ = some (.slice Au u.sh.length cau) ∧ W.cell? ⟨w.heap.size, 4, none⟩ = some (.slice Bu u.at_.length cbu) ∧ W.cell? ⟨w.heap.size, 5, none⟩ = some (.slice Ku u.kids.length cku) ∧ w.heap.size < W.heap.size ∧ W.cell? ⟨w.heap.size + 1, 0, none⟩ = some (.int .i64 v.kind) ∧ W.cell? ⟨w.heap.size + 1, 1, none⟩ = some (.string v.text) ∧ W.cell? ⟨w.heap.size + 1, 2, none⟩ = some (.int .i64 v.n) ∧ W.cell? ⟨w.heap.size + 1, 3, none⟩ = some (.slice Av v.sh.length cav) ∧ W.cell? ⟨w.heap.size + 1, 4, none⟩ = some (.slice Bv v.at_.length cbv) ∧ W.cell? ⟨w.heap.size + 1, 5, none⟩ = some (.slice Kv v.kids.length ckv) ∧ w.heap.size + 1 < W.heap.size ∧ W.cell? ⟨gu, 0, none⟩ = some (.int .i64 (rkT u).a) ∧ W.cell? ⟨gu, 1, none⟩ = some (.int .i64 (rkT u).b) ∧ W.cell? ⟨gu, 2, none⟩ = some (.int .i64 (rkT u).c) ∧ gu < W.heap.size ∧ W.cell? ⟨gv, 0, none⟩ = some (.int .i64 (rkT v).a) ∧ W.cell? ⟨gv, 1, none⟩ = some (.int .i64 (rkT v).b) ∧ W.cell? ⟨gv, 2, none⟩ = some (.int .i64 (rkT v).c) ∧ gv < W.heap.size ∧ W.cell? ⟨gv + 1, 0, none⟩ = some (.int .i64 64) ∧ W.cell? ⟨gv + 1, 1, none⟩ = some (.int .i64 64) ∧ W.cell? ⟨gv + 1, 2, none⟩ = some (.int .i64 64) ∧ gv + 1 < W.heap.size
  bow : ∀ W, Below W0.heap.size W0 W → TmAt W u Au Bu Ku ∧ TmAt W v Av Bv Kv
  wu : WfT u
  wv : WfT v
  mo : MadeOk u v
theorem MadeCx.wff {u v : Tm} {Au : Option Addr} {cau : Nat} {Bu : Option Addr} {cbu : Nat} {Ku : Option Addr} {cku : Nat} {Av : Option Addr} {cav : Nat} {Bv : Option Addr} {cbv : Nat} {Kv : Option Addr} {ckv : Nat} {w W0 : World} {gu gv : Nat} (h : MadeCx u v Au cau Bu cbu Ku cku Av cav Bv cbv Kv ckv w W0 gu gv) : WfT (tOf 45 [u, v, u]) := wf_ofL ⟨by decide, by decide⟩ (fun x hx => by
  simp only [List.mem_cons, List.not_mem_nil, or_false] at hx
  rcases hx with rfl | rfl | rfl
  · exact h.wu
  · exact h.wv
  · exact h.wu) (by simp)
theorem MadeCx.wf2 {u v : Tm} {Au : Option Addr} {cau : Nat} {Bu : Option Addr} {cbu : Nat} {Ku : Option Addr} {cku : Nat} {Av : Option Addr} {cav : Nat} {Bv : Option Addr} {cbv : Nat} {Kv : Option Addr} {ckv : Nat} {w W0 : World} {gu gv : Nat} (h : MadeCx u v Au cau Bu cbu Ku cku Av cav Bv cbv Kv ckv w W0 gu gv) (k : Int) (hk : In64 k) : WfT (tOf k [u, v]) := wf_ofL hk (fun x hx => by
  simp only [List.mem_cons, List.not_mem_nil, or_false] at hx
  rcases hx with rfl | rfl
  · exact h.wu
  · exact h.wv) (by simp)
theorem MadeCx.wf1 {u v : Tm} {Au : Option Addr} {cau : Nat} {Bu : Option Addr} {cbu : Nat} {Ku : Option Addr} {cku : Nat} {Av : Option Addr} {cav : Nat} {Bv : Option Addr} {cbv : Nat} {Kv : Option Addr} {ckv : Nat} {w W0 : World} {gu gv : Nat} (h : MadeCx u v Au cau Bu cbu Ku cku Av cav Bv cbv Kv ckv w W0 gu gv) (k : Int) (hk : In64 k) : WfT (tOf k [u]) := wf_ofL hk (fun x hx => by
  simp only [List.mem_cons, List.not_mem_nil, or_false] at hx
  subst hx
  exact h.wu) (by simp)
end Go.Proofs.YtebiojmfieoncaaGreat
