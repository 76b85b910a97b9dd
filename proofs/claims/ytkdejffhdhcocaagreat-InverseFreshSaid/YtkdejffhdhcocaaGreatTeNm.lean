/- Terms: a name more. Plain laws. No condition. -/
import Derived.Test.YtkdejffhdhcocaaGreatTeNt
namespace Go.Proofs.YtkdejffhdhcocaaGreat
open Go.RowKit

def tName (s : ByteArray) : Tm := .mk 2 s 0 [] [] []
/-- a noun that speaks of a name more -/
def tMore (t : Tm) (s : ByteArray) : Tm := .mk 3 ⟨#[]⟩ 0 [] [] [t, tName s]
theorem more_names (t : Tm) (s x : ByteArray) : x ∈ nmT (tMore t s) ↔ x ∈ nmT t ∨ x = s := by
  have e1 : isNm 3 = false := by decide
  have e2 : isNm 2 = true := by decide
  simp [tMore, tName, nmT, nmL, e1, e2]
theorem more_great {t : Tm} {s : ByteArray} (h : cnt t ≤ 4000) (hd : dep t < 256) : greatT (tMore t s) = false := by
  unfold greatT
  simp only [tMore, tName, cnt, cntL, dep, depL, decide_eq_false_iff_not]
  omega
theorem more_wf {t : Tm} {s : ByteArray} (h : WfT t) (hs : s.size ≤ 140737488351232) : WfT (tMore t s) := by
  simp only [tMore, tName, WfT, WfL, and_true]
  exact ⟨⟨by decide, by decide⟩, ⟨by decide, by decide⟩, fun x hx => (by cases hx), fun x hx => (by cases hx), by decide, by decide, by decide, (by show 2 * 104 ≤ 140737488351232; decide), h, ⟨by decide, by decide⟩, ⟨by decide, by decide⟩, fun x hx => (by cases hx), fun x hx => (by cases hx), hs, by decide, by decide, by decide⟩
def hasN (l : List ByteArray) (s : ByteArray) : Bool := l.any fun x => decide (x = s)
theorem hasN_iff {l : List ByteArray} {s : ByteArray} : hasN l s = true ↔ s ∈ l := by
  unfold hasN
  rw [List.any_eq_true]
  exact ⟨fun ⟨x, hx, e⟩ => (of_decide_eq_true e) ▸ hx, fun h => ⟨s, h, decide_eq_true rfl⟩⟩
theorem hasN_take {l : List ByteArray} {i : Nat} {x s : ByteArray} (h : l[i]? = some x) : hasN (l.take (i + 1)) s = (hasN (l.take i) s || decide (x = s)) := by
  unfold hasN
  rw [List.take_add_one, h, List.any_append]
  simp
/-- a noun of two kids in a new block -/
theorem two_at {w : World} {g : Nat} {x y : Tm} {A B K A' B' K' : Option Addr} {ca cb ck ca' cb' ck' : Nat} (k : Int) (hx : TmAt w x A B K) (hy : TmAt w y A' B' K')
    (hg : w.heap[g]? = some (.cells (#[.int .i64 x.kind, .string x.text, .int .i64 x.n, .slice A x.sh.length ca, .slice B x.at_.length cb, .slice K x.kids.length ck, .int .i64 y.kind, .string y.text, .int .i64 y.n, .slice A' y.sh.length ca', .slice B' y.at_.length cb', .slice K' y.kids.length ck']) TTm (0, 0))) :
    TmAt w (.mk k ⟨#[]⟩ 0 [] [] [x, y]) none none (some ⟨g, 0, none⟩) := by
  refine ⟨IntsAt.nil _ _, IntsAt.nil _ _, kids_block (rs := [.mk ⟨A, x.sh.length, ca⟩ ⟨B, x.at_.length, cb⟩ ⟨K, x.kids.length, ck⟩ [], .mk ⟨A', y.sh.length, ca'⟩ ⟨B', y.at_.length, cb'⟩ ⟨K', y.kids.length, ck'⟩ []]) hg rfl fun i t r ht hr => ?_⟩
  match i, ht, hr with
  | 0, ht, hr =>
    obtain rfl := Option.some.inj ht
    obtain rfl := Option.some.inj hr
    exact ⟨hx, rfl, rfl, rfl⟩
  | 1, ht, hr =>
    obtain rfl := Option.some.inj ht
    obtain rfl := Option.some.inj hr
    exact ⟨hy, rfl, rfl, rfl⟩
end Go.Proofs.YtkdejffhdhcocaaGreat
