/- A term that may be, with one field another one: it is another one, and may not be. Plain Lean. No condition. · A term in memory of its own, one of whose rows has grown. No condition. -/
import Derived.Test.YtkdejffhdhcocaaGreatTePa
import Derived.Test.YtkdejffhdhcocaaGreatTeLa
namespace Go.Proofs.YtkdejffhdhcocaaGreat

/-- a field another one -/
def chgT (m : Nat) (n : Int) : Tm → Tm
  | .mk k s a sh at_ ks => if m = 0 then .mk 99 s a sh at_ ks else if m = 1 then .mk k s n sh at_ ks else if m = 2 then .mk k (s ++ ⟨#[63]⟩) a sh at_ ks else if m = 3 then .mk k s a sh (at_ ++ [n]) ks else if m = 4 then .mk k s a sh at_ (ks ++ [.mk n ⟨#[]⟩ 0 [] [] []]) else .mk k s a (sh ++ [1]) at_ ks
/-- may it not be any more? -/
def badB (m : Nat) (n : Int) (t : Tm) : Bool := if m = 1 then !decide (t.kind = 23) || (!decide (n = 1) && !decide (n = 2)) else if m = 4 then decide (n < 1) || (!decide (t.kind = 5) && !decide (t.kind = 14) && !decide (t.kind = 43)) else true

theorem opIn_mem : ∀ (l : List (List UInt8)) (k : Nat) (s : List UInt8), 0 < opIn l k s → s ∈ l
  | [], _, _, h => by simp [opIn] at h
  | c :: r, k, s, h => by
    unfold opIn at h
    split at h
    · next e => rw [e]; exact List.mem_cons_self ..
    · exact List.mem_cons_of_mem _ (opIn_mem r (k + 1) s h)
theorem opOf_mem {s : List UInt8} (h : 0 < opOf s) : s ∈ spells := opIn_mem _ _ _ h
theorem spells_facts : ∀ s ∈ spells, s.length ≤ 2 ∧ s.getLast? ≠ some 63 := by decide
theorem isName_len {s : List UInt8} {lo hi : UInt8} (h : isName s lo hi = true) : s.length ≤ 32 := by
  cases s with
  | nil => simp
  | cons c r =>
    simp only [isName, Bool.and_eq_true, decide_eq_true_eq] at h
    simp only [List.length_cons]
    omega
theorem isName_ask {s : List UInt8} {lo hi lo' hi' : UInt8} (h : isName s lo hi = true) : isName (s ++ [63]) lo' hi' = false := by
  cases s with
  | nil => simp [isName] at h
  | cons c r =>
    simp only [List.cons_append, isName, List.all_append, List.all_cons, List.all_nil]
    simp [alnum]
theorem text_len {k : Int} {s : List UInt8} (h : textB k s = true) : s.length ≤ 32 := by
  unfold textB at h
  split at h
  · exact isName_len h
  · split at h
    · have := (spells_facts s (opOf_mem (of_decide_eq_true h))).1; omega
    · split at h
      · exact isName_len h
      · rw [List.isEmpty_iff] at h; subst h; simp
theorem text_ask {k : Int} {s : List UInt8} (h : textB k s = true) : textB k (s ++ [63]) = false := by
  unfold textB at h ⊢
  by_cases h1 : k = 2 ∨ k = 11
  · rw [if_pos h1] at h ⊢; exact isName_ask h
  · rw [if_neg h1] at h ⊢
    by_cases h2 : k = 20
    · rw [if_pos h2] at h ⊢
      apply decide_eq_false
      intro h3
      have := (spells_facts _ (opOf_mem h3)).2
      rw [List.getLast?_concat] at this
      exact this rfl
    · rw [if_neg h2] at h ⊢
      by_cases h3 : k = 21
      · rw [if_pos h3] at h ⊢; exact isName_ask h
      · rw [if_neg h3]; simp
theorem num_small {k : Int} {sh at_ : List Int} (h : numB k sh at_ = true) : sh.length ≤ 1 ∧ at_.length ≤ 64 := by
  unfold numB at h
  split at h
  · unfold litOk at h
    split at h
    · have h := of_decide_eq_true h; simp; omega
    · have h := of_decide_eq_true h; simp; omega
    · cases h
  · split at h
    · unfold rankOk at h
      split at h
      · simp only [Bool.and_eq_true, decide_eq_true_eq] at h; simp; omega
      · cases h
    · simp only [Bool.and_eq_true, List.isEmpty_iff] at h
      rw [h.1, h.2]; simp
theorem num_more {k : Int} {sh at_ : List Int} (n : Int) (h : numB k sh at_ = true) : numB k sh (at_ ++ [n]) = false := by
  unfold numB at h ⊢
  by_cases h1 : k = 1
  · rw [if_pos h1] at h ⊢
    unfold litOk at h ⊢
    split at h
    · have h := of_decide_eq_true h; apply decide_eq_false; simp only [List.length_append, List.length_cons, List.length_nil]; omega
    · have h := of_decide_eq_true h; apply decide_eq_false; simp only [List.length_append, List.length_cons, List.length_nil]; omega
    · cases h
  · rw [if_neg h1] at h ⊢
    by_cases h2 : k = 42
    · rw [if_pos h2] at h ⊢
      unfold rankOk at h ⊢
      split at h
      · simp only [Bool.and_eq_true, decide_eq_true_eq] at h
        rw [Bool.and_eq_false_iff]; left
        apply decide_eq_false
        simp
        omega
      · cases h
    · rw [if_neg h2]; simp
theorem num_wide {k : Int} {sh at_ : List Int} (h : numB k sh at_ = true) : numB k (sh ++ [1]) at_ = false := by
  unfold numB at h ⊢
  by_cases h1 : k = 1
  · rw [if_pos h1] at h ⊢
    cases sh with
    | nil => simp [litOk]
    | cons x r => cases r <;> simp [litOk] at h ⊢
  · rw [if_neg h1] at h ⊢
    by_cases h2 : k = 42
    · rw [if_pos h2] at h ⊢
      cases sh with
      | nil => simp [rankOk] at h
      | cons x r => cases r <;> simp [rankOk] at h ⊢
    · rw [if_neg h2]; simp
theorem zipFits_len : ∀ {ks : List Tm} {p : List UInt8}, zipFits ks p = true → ks.length = p.length
  | [], [], _ => rfl
  | t :: r, c :: p, h => by
    simp only [zipFits, Bool.and_eq_true] at h
    simp [zipFits_len h.2]
  | [], _ :: _, h => by simp [zipFits] at h
  | _ :: _, [], h => by simp [zipFits] at h
theorem kids_more {k : Int} {ks : List Tm} (x : Tm) (h : kidsB k ks = true) (h5 : k ≠ 5) (h14 : k ≠ 14) (h43 : k ≠ 43) : kidsB k (ks ++ [x]) = false := by
  unfold kidsB at h ⊢
  rw [if_neg h14, if_neg h5, if_neg h43] at h ⊢
  have h1 := zipFits_len h
  cases hz : zipFits (ks ++ [x]) (patOf k) with
  | false => rfl
  | true =>
    have h2 := zipFits_len hz
    simp at h2
    omega
theorem goodL_app (b : Bool) (x : Tm) : ∀ ks : List Tm, goodL b (ks ++ [x]) = true → goodT b x = true
  | [], h => by simpa [goodL] using h
  | t :: r, h => by
    simp only [List.cons_append, goodL, Bool.and_eq_true] at h
    exact goodL_app b x r h.2
theorem node_parts {t : Tm} {b : Bool} (h : goodT b t = true) : cls t.kind ≠ 0 ∧ textB t.kind t.text.data.toList = true ∧ nB t.kind t.n = true ∧ numB t.kind t.sh t.at_ = true ∧ kidsB t.kind t.kids = true := by
  have hc := good_cls h
  rw [goodT_node, Bool.and_eq_true] at h
  have h1 := h.1
  unfold nodeB fieldsB at h1
  simp only [Bool.and_eq_true] at h1
  exact ⟨hc, h1.1.1.2.1.1, h1.1.1.2.1.2, h1.1.1.2.2, h1.1.2⟩
theorem bad_node {t : Tm} {b : Bool} (h : cls t.kind = 0 ∨ textB t.kind t.text.data.toList = false ∨ nB t.kind t.n = false ∨ numB t.kind t.sh t.at_ = false ∨ kidsB t.kind t.kids = false ∨ ∃ (i : Nat) (k : Tm), t.kids[i]? = some k ∧ cls k.kind = 0) : goodT b t = false := by
  cases hg : goodT b t with
  | false => rfl
  | true =>
    obtain ⟨h1, h2, h3, h4, h5⟩ := node_parts hg
    rcases h with h | h | h | h | h | ⟨i, k, hi, h⟩
    · exact absurd h h1
    · rw [h] at h2; cases h2
    · rw [h] at h3; cases h3
    · rw [h] at h4; cases h4
    · rw [h] at h5; cases h5
    · exact absurd h (good_cls (good_kid hg hi))
/-- the changed one is not good -/
theorem chg_bad {t : Tm} (hg : goodT false t = true) {m : Nat} {n : Int} (hm : m < 6) (h1 : m = 1 → n ≠ t.n) (hb : badB m n t = true) : goodT false (chgT m n t) = false := by
  obtain ⟨p1, p2, p3, p4, p5⟩ := node_parts hg
  cases t with
  | mk k s a sh at_ ks =>
    simp only [Tm.kind, Tm.text, Tm.n, Tm.sh, Tm.at_, Tm.kids] at p1 p2 p3 p4 p5 h1 hb
    have hm : m = 0 ∨ m = 1 ∨ m = 2 ∨ m = 3 ∨ m = 4 ∨ m = 5 := by omega
    rcases hm with rfl | rfl | rfl | rfl | rfl | rfl
    · exact bad_node (.inl (show cls 99 = 0 by decide))
    · refine bad_node (.inr (.inr (.inl ?_)))
      show nB k n = false
      have hn := h1 rfl
      change (!decide (k = 23) || (!decide (n = 1) && !decide (n = 2))) = true at hb
      unfold nB at p3 ⊢
      by_cases h23 : k = 23
      · rw [if_pos h23]
        simp [h23] at hb
        simp
        exact hb
      · rw [if_neg h23] at p3 ⊢
        have := of_decide_eq_true p3
        apply decide_eq_false
        omega
    · refine bad_node (.inr (.inl ?_))
      show textB k (s ++ ⟨#[63]⟩).data.toList = false
      have e : (s ++ ⟨#[63]⟩ : ByteArray).data.toList = s.data.toList ++ [63] := by simp [ByteArray.data_append]
      rw [e]
      exact text_ask p2
    · exact bad_node (.inr (.inr (.inr (.inl (num_more n p4)))))
    · change (decide (n < 1) || (!decide (k = 5) && !decide (k = 14) && !decide (k = 43))) = true at hb
      simp only [Bool.or_eq_true, Bool.and_eq_true, Bool.not_eq_true', decide_eq_false_iff_not, decide_eq_true_eq] at hb
      rcases hb with hb | ⟨⟨h5, h14⟩, h43⟩
      · refine bad_node (.inr (.inr (.inr (.inr (.inr ⟨ks.length, .mk n ⟨#[]⟩ 0 [] [] [], ?_, ?_⟩)))))
        · show (ks ++ [_])[ks.length]? = _
          simp
        · show cls n = 0
          unfold cls
          rw [if_neg (by omega), if_neg (by omega), if_neg (by omega)]
      · exact bad_node (.inr (.inr (.inr (.inr (.inl (kids_more _ p5 h5 h14 h43))))))
    · exact bad_node (.inr (.inr (.inr (.inl (num_wide p4)))))
theorem chg_ne {t : Tm} (hg : goodT false t = true) {m : Nat} {n : Int} (hm : m < 6) (h1 : m = 1 → n ≠ t.n) : chgT m n t ≠ t := by
  obtain ⟨p1, _⟩ := node_parts hg
  cases t with
  | mk k s a sh at_ ks =>
    simp only [Tm.kind, Tm.n] at p1 h1
    have hm : m = 0 ∨ m = 1 ∨ m = 2 ∨ m = 3 ∨ m = 4 ∨ m = 5 := by omega
    rcases hm with rfl | rfl | rfl | rfl | rfl | rfl
    · intro e
      have e1 : (99 : Int) = k := congrArg Tm.kind e
      rw [← e1] at p1
      exact p1 (by decide)
    · intro e
      exact h1 rfl (congrArg Tm.n e)
    · intro e
      have e1 : s ++ ⟨#[63]⟩ = s := congrArg Tm.text e
      have e2 := congrArg (fun x : ByteArray => x.data.toList.length) e1
      simp [ByteArray.data_append] at e2
    · intro e
      have e1 : at_ ++ [n] = at_ := congrArg Tm.at_ e
      have e2 := congrArg List.length e1
      simp at e2
    · intro e
      have e1 : ks ++ [.mk n ⟨#[]⟩ 0 [] [] []] = ks := congrArg Tm.kids e
      have e2 := congrArg List.length e1
      simp at e2
    · intro e
      have e1 : sh ++ [1] = sh := congrArg Tm.sh e
      have e2 := congrArg List.length e1
      simp at e2
theorem chg_same {t : Tm} (hg : goodT false t = true) {m : Nat} {n : Int} (hm : m < 6) (h1 : m = 1 → n ≠ t.n) : sameT t (chgT m n t) = false ∧ sameT (chgT m n t) t = false := by
  have h := chg_ne hg hm h1
  unfold sameT
  constructor
  · cases he : eqT t (chgT m n t) with
    | false => simp
    | true => exact absurd ((eqT_iff _ _).1 he).symm h
  · cases he : eqT (chgT m n t) t with
    | false => simp
    | true => exact absurd ((eqT_iff _ _).1 he) h
theorem chg_may {t : Tm} (hg : goodT false t = true) {m : Nat} {n : Int} (hm : m < 6) (h1 : m = 1 → n ≠ t.n) (hb : badB m n t = true) : mayT (chgT m n t) (cls t.kind) = 33 ∨ mayT (chgT m n t) (cls t.kind) = 2 := by
  unfold mayT
  have := cls_range t.kind
  have := good_cls hg
  rw [if_neg (by omega)]
  cases greatT (chgT m n t) with
  | true => exact .inr rfl
  | false => rw [chg_bad hg hm h1 hb]; exact .inl rfl
/-- a good term's lists are short -/
theorem good_small {t : Tm} (hg : goodT false t = true) (hn : greatT t = false) : t.text.size ≤ 32 ∧ t.sh.length ≤ 1 ∧ t.at_.length ≤ 64 ∧ t.kids.length ≤ 4096 := by
  obtain ⟨_, p2, _, p4, _⟩ := node_parts hg
  obtain ⟨q1, q2⟩ := num_small p4
  have h1 := text_len p2
  obtain ⟨_, h2, _⟩ := size_small hn
  refine ⟨by simpa using h1, q1, q2, ?_⟩
  cases t with
  | mk k s a sh at_ ks =>
    have h3 : ∀ l : List Tm, l.length ≤ cntL l := by
      intro l
      induction l with
      | nil => simp
      | cons u r ih => cases u; simp only [cntL, cnt, List.length_cons]; omega
    have := h3 ks
    simp only [cnt] at h2
    show ks.length ≤ _
    omega
theorem chg_wf {t : Tm} (hw : WfT t) (hg : goodT false t = true) (hn : greatT t = false) (m : Nat) {n : Int} (h64 : In64 n) : WfT (chgT m n t) := by
  obtain ⟨s1, s2, s3, s4⟩ := good_small hg hn
  cases t with
  | mk k s a sh at_ ks =>
    simp only [Tm.text, Tm.sh, Tm.at_, Tm.kids] at s1 s2 s3 s4
    simp only [WfT] at hw
    obtain ⟨h1, h2, h3, h4, h5, h6, h7, h8, h9⟩ := hw
    simp only [chgT]
    repeat' split
    · simp only [WfT]; exact ⟨⟨by decide, by decide⟩, h2, h3, h4, h5, h6, h7, h8, h9⟩
    · simp only [WfT]; exact ⟨h1, h64, h3, h4, h5, h6, h7, h8, h9⟩
    · simp only [WfT]; exact ⟨h1, h2, h3, h4, by rw [ByteArray.size_append]; show s.size + 1 ≤ _; omega, h6, h7, h8, h9⟩
    · simp only [WfT]
      refine ⟨h1, h2, h3, fun x hx => ?_, h5, h6, by simp; omega, h8, h9⟩
      rcases List.mem_append.1 hx with hx | hx
      · exact h4 x hx
      · rw [List.mem_singleton.1 hx]; exact h64
    · simp only [WfT]
      refine ⟨h1, h2, h3, h4, h5, h6, h7, by simp; omega, WfL.of fun u hu => ?_⟩
      rcases List.mem_append.1 hu with hu | hu
      · exact h9.get u hu
      · rw [List.mem_singleton.1 hu]
        simp only [WfT, WfL]
        exact ⟨h64, ⟨by decide, by decide⟩, fun x hx => (by cases hx), fun x hx => (by cases hx), by decide, by decide, by decide, by decide, trivial⟩
    · simp only [WfT]
      refine ⟨h1, h2, fun x hx => ?_, h4, h5, by simp; omega, h7, h8, h9⟩
      rcases List.mem_append.1 hx with hx | hx
      · exact h3 x hx
      · rw [List.mem_singleton.1 hx]; exact ⟨by decide, by decide⟩
end Go.Proofs.YtkdejffhdhcocaaGreat

namespace Go.Proofs.YtkdejffhdhcocaaGreat
open Go.RowKit

theorem OwnT.parts {w : World} {B : Nat} {t : Tm} {r : Rt} (h : OwnT w B t r) : RowOwn w B TIn 1 r.s (intVals t.sh) ∧ RowOwn w B TI6 1 r.a (intVals t.at_) ∧ RowOwn w B TTm 6 r.k (rtCellsL t.kids r.kids) ∧ t.kids.length = r.kids.length ∧ OwnL w B t.kids r.kids := by
  cases t; cases r
  simp only [OwnT] at h
  exact h
theorem top_apart {r : Rt} (h : (topBlks r).Nodup) : (∀ g, r.s.val.ownBlock = some g → r.a.val.ownBlock ≠ some g ∧ r.k.val.ownBlock ≠ some g ∧ g ∉ blksL r.kids) ∧ (∀ g, r.a.val.ownBlock = some g → r.k.val.ownBlock ≠ some g ∧ g ∉ blksL r.kids) ∧ (∀ g, r.k.val.ownBlock = some g → g ∉ blksL r.kids) := by
  unfold topBlks at h
  obtain ⟨h1, _, h2⟩ := List.nodup_append.1 h
  obtain ⟨h3, _, h4⟩ := List.nodup_append.1 h1
  obtain ⟨_, _, h5⟩ := List.nodup_append.1 h3
  refine ⟨fun g hg => ⟨fun e => ?_, fun e => ?_, fun e => ?_⟩, fun g hg => ⟨fun e => ?_, fun e => ?_⟩, fun g hg e => ?_⟩
  · exact h5 g (Option.mem_toList.2 hg) g (Option.mem_toList.2 e) rfl
  · exact h4 g (List.mem_append_left _ (Option.mem_toList.2 hg)) g (Option.mem_toList.2 e) rfl
  · exact h2 g (List.mem_append_left _ (List.mem_append_left _ (Option.mem_toList.2 hg))) g e rfl
  · exact h4 g (List.mem_append_right _ (Option.mem_toList.2 hg)) g (Option.mem_toList.2 e) rfl
  · exact h2 g (List.mem_append_left _ (List.mem_append_right _ (Option.mem_toList.2 hg))) g e rfl
  · exact h2 g (List.mem_append_right _ (Option.mem_toList.2 hg)) g e rfl
section
variable {w w' : World} {B m : Nat} {t : Tm} {r : Rt} {q : Rw}
theorem own_more_at {x : Int} (ho : OwnT w B t r) (hn : (topBlks r).Nodup) (hgr : w.grownBy w' r.a.val.ownBlock) (hq : w'.ownsRow B TI6 1 q.val m (intVals (t.at_ ++ [x]))) : OwnT w' B (.mk t.kind t.text t.n t.sh (t.at_ ++ [x]) t.kids) (.mk r.s q r.k r.kids) := by
  obtain ⟨h1, h2, h3, h4, h5⟩ := ho.parts
  obtain ⟨n1, n2, n3⟩ := top_apart hn
  refine OwnT.mk_ (h1.kept fun g hg => hgr.block g ?_ fun e => ?_) (row_ours hq).2 (h3.kept fun g hg => hgr.block g ?_ fun e => ?_) h4 (h5.kept fun g hg => hgr.block g ?_ fun e => ?_)
  · obtain ⟨_, cur, hc⟩ := h1.blk_lt hg; exact heap_lt hc
  · exact (n1 g (blk_own hg)).1 e.symm
  · obtain ⟨_, cur, hc⟩ := h3.blk_lt hg; exact heap_lt hc
  · exact (n2 g e.symm).1 (blk_own hg)
  · exact (h5.blk g hg).2
  · exact (n2 g e.symm).2 hg
theorem own_more_sh {x : Int} (ho : OwnT w B t r) (hn : (topBlks r).Nodup) (hgr : w.grownBy w' r.s.val.ownBlock) (hq : w'.ownsRow B TIn 1 q.val m (intVals (t.sh ++ [x]))) : OwnT w' B (.mk t.kind t.text t.n (t.sh ++ [x]) t.at_ t.kids) (.mk q r.a r.k r.kids) := by
  obtain ⟨h1, h2, h3, h4, h5⟩ := ho.parts
  obtain ⟨n1, n2, n3⟩ := top_apart hn
  refine OwnT.mk_ (row_ours hq).2 (h2.kept fun g hg => hgr.block g ?_ fun e => ?_) (h3.kept fun g hg => hgr.block g ?_ fun e => ?_) h4 (h5.kept fun g hg => hgr.block g ?_ fun e => ?_)
  · obtain ⟨_, cur, hc⟩ := h2.blk_lt hg; exact heap_lt hc
  · exact (n1 g e.symm).1 (blk_own hg)
  · obtain ⟨_, cur, hc⟩ := h3.blk_lt hg; exact heap_lt hc
  · exact (n1 g e.symm).2.1 (blk_own hg)
  · exact (h5.blk g hg).2
  · exact (n1 g e.symm).2.2 hg
theorem own_more_kid {x : Int} (ho : OwnT w B t r) (hn : (topBlks r).Nodup) (hgr : w.grownBy w' r.k.val.ownBlock) (hq : w'.ownsRow B TTm 6 q.val m (rtCellsL t.kids r.kids ++ rtCells (.mk x ⟨#[]⟩ 0 [] [] []) (.mk nil0 nil0 nil0 []))) : OwnT w' B (.mk t.kind t.text t.n t.sh t.at_ (t.kids ++ [.mk x ⟨#[]⟩ 0 [] [] []])) (.mk r.s r.a q (r.kids ++ [.mk nil0 nil0 nil0 []])) := by
  obtain ⟨h1, h2, h3, h4, h5⟩ := ho.parts
  obtain ⟨n1, n2, n3⟩ := top_apart hn
  refine OwnT.mk_ (h1.kept fun g hg => hgr.block g ?_ fun e => ?_) (h2.kept fun g hg => hgr.block g ?_ fun e => ?_) ?_ (show (t.kids ++ [_]).length = (r.kids ++ [_]).length by rw [List.length_append, List.length_append, h4]; rfl) ((h5.kept fun g hg => hgr.block g ?_ fun e => ?_).app ?_)
  · obtain ⟨_, cur, hc⟩ := h1.blk_lt hg; exact heap_lt hc
  · exact (n1 g (blk_own hg)).2.1 e.symm
  · obtain ⟨_, cur, hc⟩ := h2.blk_lt hg; exact heap_lt hc
  · exact (n2 g (blk_own hg)).1 e.symm
  · show RowOwn w' B TTm 6 q (rtCellsL (t.kids ++ [_]) (r.kids ++ [_]))
    rw [rtCellsL_app h4]
    simp only [rtCellsL, List.append_nil]
    exact (row_ours hq).2
  · exact (h5.blk g hg).2
  · exact n3 g e.symm hg
  · simp only [OwnL, OwnT, rtCellsL, and_true, List.length_nil]
    exact ⟨⟨rfl, .inl ⟨rfl, rfl⟩⟩, ⟨rfl, .inl ⟨rfl, rfl⟩⟩, ⟨rfl, .inl ⟨rfl, rfl⟩⟩⟩
end
theorem chg0 (n : Int) (t : Tm) : chgT 0 n t = .mk 99 t.text t.n t.sh t.at_ t.kids := by cases t; rfl
theorem chg1 (n : Int) (t : Tm) : chgT 1 n t = .mk t.kind t.text n t.sh t.at_ t.kids := by cases t; rfl
theorem chg2 (n : Int) (t : Tm) : chgT 2 n t = .mk t.kind (t.text ++ ⟨#[63]⟩) t.n t.sh t.at_ t.kids := by cases t; rfl
theorem chg3 (n : Int) (t : Tm) : chgT 3 n t = .mk t.kind t.text t.n t.sh (t.at_ ++ [n]) t.kids := by cases t; rfl
theorem chg4 (n : Int) (t : Tm) : chgT 4 n t = .mk t.kind t.text t.n t.sh t.at_ (t.kids ++ [.mk n ⟨#[]⟩ 0 [] [] []]) := by cases t; rfl
theorem chg5 (n : Int) (t : Tm) : chgT 5 n t = .mk t.kind t.text t.n (t.sh ++ [1]) t.at_ t.kids := by cases t; rfl
theorem chg_own {w : World} {B : Nat} {t : Tm} {r : Rt} {n : Int} {m : Nat} (hm : m = 0 ∨ m = 1 ∨ m = 2) (h : OwnT w B t r) : OwnT w B (chgT m n t) r := by
  obtain ⟨h1, h2, h3, h4, h5⟩ := h.parts
  cases r
  rcases hm with rfl | rfl | rfl
  · rw [chg0]; exact OwnT.mk_ h1 h2 h3 h4 h5
  · rw [chg1]; exact OwnT.mk_ h1 h2 h3 h4 h5
  · rw [chg2]; exact OwnT.mk_ h1 h2 h3 h4 h5
/-- what stands behind the change: the changed term's cells, its rows -/
def TurnAt (w0 w : World) (D B : Nat) (u : Tm) : Prop := ∃ r : Rt, w.heap[D]? = some (.cells (rtCells u r).toArray TTm (0, 0)) ∧ OwnT w B u r ∧ Below w0.heap.size w0 w
theorem TurnAt.cells {w0 w : World} {D B : Nat} {u : Tm} (h : TurnAt w0 w D B u) : ∃ A ca B' cb K ck, w.heap[D]? = some (.cells (tmCells u A ca B' cb K ck) TTm (0, 0)) ∧ TmAt w u A B' K ∧ Below w0.heap.size w0 w := by
  obtain ⟨r, h1, h2, h3⟩ := h
  obtain ⟨k, f1, f2, f3⟩ := h2.read
  refine ⟨r.s.p, r.s.c, r.a.p, r.a.c, r.k.p, r.k.c, ?_, k, h3⟩
  rw [h1]
  unfold rtCells tmCells
  rw [← f1, ← f2, ← f3]
/-- a cell of the term's own block is written -/
theorem TurnAt.put {w0 w : World} {D B : Nat} {u : Tm} {r : Rt} {j : Nat} {v : Value} {cs : Array Value} (hd : w.heap[D]? = some (.cells cs TTm (0, 0))) (ho : OwnT w B u r) (hb : Below w0.heap.size w0 w) (h0 : w0.heap.size ≤ D) (hB : D < B) (he : cs.setIfInBounds j v = (rtCells u r).toArray) : TurnAt w0 (w.setCell ⟨D, j, none⟩ v) D B u := by
  refine ⟨r, ?_, ho.kept fun g hg => Below.heap_setCell _ _ _ _ (by have := (ho.blk g hg).1; show g ≠ D; omega), hb.setCell h0 _⟩
  rw [Go.heap_setCell_same _ _ j _ TTm v hd]
  first
  | rw [he]
  | rw [← he]; simp
end Go.Proofs.YtkdejffhdhcocaaGreat
