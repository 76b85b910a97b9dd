/- A scope with several labels: what holds at each label, and a measure that each way from label to label lowers. No condition. -/
import Derived.Scope
import Derived.Control
namespace Go.Proofs.YtpipcpjkfgdpcaaDoor
open Go

/-- As Q; by a goto to a label: J. -/
def jumps (J : Nat → Act → World → Prop) (Q : Exit → Act → World → Prop) : Exit → Act → World → Prop
  | .goto l, a, w => J l a w
  | e, a, w => Q e a w

/-- what is to be shown of the code behind a label: it returns as Q asks, or comes, by a goto or by going on, to a label at which J holds, the measure being less -/
def Passes (P : Program) (R : Nat → Option Code) (J : Nat → Act → World → Prop) (μ : Nat → Act → World → Nat) (Q : Exit → Act → World → Prop) (n : Nat) (r : Code) (a : Act) (w : World) : Prop :=
  ∀ Q1 : Exit → Act → World → Prop, (∀ a' w', Q .ret a' w' → Q1 .ret a' w') → (∀ l' a' w', J l' a' w' → μ l' a' w' < n → Q1 (.goto l') a' w') →
    (∀ l' r' a' w', R l' = some r' → J l' a' w' → μ l' a' w' < n → r'.wp P Q1 a' w') → r.wp P Q1 a w

theorem wp_scope_labels {P : Program} {c : Code} {a : Act} {w : World} {Q : Exit → Act → World → Prop} (R : Nat → Option Code) (J : Nat → Act → World → Prop) (μ : Nat → Act → World → Nat) (N : Nat)
    (hf : ∀ l a w, J l a w → ∃ r, R l = some r ∧ findLabel c l = some (.seq .skip r))
    (first : Passes P R J μ Q N c a w) (pass : ∀ l r a w, R l = some r → J l a w → Passes P R J μ Q (μ l a w) r a w) : (Code.scope c).wp P Q a w := by
  have run : ∀ m l r a w, R l = some r → J l a w → μ l a w < m → r.wp P (jumps (fun l' a' w' => J l' a' w' ∧ μ l' a' w' < m) Q) a w := by
    intro m
    induction m with
    | zero => intro l r a w _ _ h; omega
    | succ m ih =>
      intro l r a w hR hJ hm
      refine pass l r a w hR hJ _ (fun a' w' h => h) (fun l' a' w' hJ' hm' => ⟨hJ', by omega⟩) fun l' r' a' w' hR' hJ' hm' => ?_
      refine wp_mono (ih l' r' a' w' hR' hJ' (by omega)) ?_
      intro e a'' w'' h
      cases e with
      | goto l'' => exact ⟨h.1, Nat.lt_succ_of_lt h.2⟩
      | normal => exact h
      | exit id => exact h
      | ret => exact h
      | panic ch => exact h
      | outgrown => exact h
  have one : ∀ l r a w, R l = some r → J l a w → r.wp P (jumps (fun l' a' w' => J l' a' w' ∧ μ l' a' w' < μ l a w) Q) a w := fun l r a w hR hJ =>
    pass l r a w hR hJ _ (fun a' w' h => h) (fun l' a' w' hJ' hm' => ⟨hJ', hm'⟩) fun l' r' a' w' hR' hJ' hm' => run _ l' r' a' w' hR' hJ' hm'
  have start : c.wp P (jumps (fun l' a' w' => J l' a' w') Q) a w := by
    refine first _ (fun a' w' h => h) (fun l' a' w' hJ' _ => hJ') fun l' r' a' w' hR' hJ' hm' => ?_
    refine wp_mono (run _ l' r' a' w' hR' hJ' hm') ?_
    intro e a'' w'' h
    cases e with
    | goto l'' => exact h.1
    | normal => exact h
    | exit id => exact h
    | ret => exact h
    | panic ch => exact h
    | outgrown => exact h
  intro b k cs
  have key : ∀ n l r a w, μ l a w = n → R l = some r → J l a w → ∃ e a' w', Q e a' w' ∧ Arrives P (lone (b.at a (.code (.seq .skip r) :: .inScope c :: k)) cs w) b k cs e a' w' := by
    intro n
    induction n using Nat.strongRecOn with
    | _ n ih =>
      intro l r a w hn hR hJ
      have h1 : (Code.seq .skip r).wp P (jumps (fun l' a' w' => J l' a' w' ∧ μ l' a' w' < μ l a w) Q) a w := wp_seq (wp_skip (one l r a w hR hJ))
      obtain ⟨e, a₁, w₁, hq, harr⟩ := h1 b (.inScope c :: k) cs
      cases e with
      | normal => exact ⟨.normal, a₁, w₁, hq, Steps.trans harr (.one step_inScope)⟩
      | exit id => exact ⟨.exit id, a₁, w₁, hq, fun k' hk => harr k' (by simp [exitTo, hk])⟩
      | goto l' =>
        obtain ⟨hJ', hlt⟩ := hq
        obtain ⟨r', hR', hf'⟩ := hf l' a₁ w₁ hJ'
        have hg : gotoIn l' (.inScope c :: k) = some (.code (.seq .skip r') :: .inScope c :: k) := by simp [gotoIn, hf']
        obtain ⟨e₂, a₂, w₂, hq₂, harr₂⟩ := ih _ (by omega) l' r' a₁ w₁ rfl hR' hJ'
        exact ⟨e₂, a₂, w₂, hq₂, .of_steps (harr _ hg) harr₂⟩
      | ret => exact ⟨_, a₁, w₁, hq, harr⟩
      | panic ch => exact ⟨_, a₁, w₁, hq, harr⟩
      | outgrown => exact ⟨_, a₁, w₁, hq, harr⟩
  obtain ⟨e, a₁, w₁, hq, harr⟩ := start b (.inScope c :: k) cs
  cases e with
  | normal => exact ⟨.normal, a₁, w₁, hq, .head step_scope (Steps.trans harr (.one step_inScope))⟩
  | exit id => exact ⟨.exit id, a₁, w₁, hq, fun k' hk => .head step_scope (harr k' (by simp [exitTo, hk]))⟩
  | goto l' =>
    obtain ⟨r', hR', hf'⟩ := hf l' a₁ w₁ hq
    have hg : gotoIn l' (.inScope c :: k) = some (.code (.seq .skip r') :: .inScope c :: k) := by simp [gotoIn, hf']
    obtain ⟨e₂, a₂, w₂, hq₂, harr₂⟩ := key _ l' r' a₁ w₁ rfl hR' hq
    exact ⟨e₂, a₂, w₂, hq₂, .of_steps (.head step_scope (harr _ hg)) harr₂⟩
  | ret => exact ⟨_, a₁, w₁, hq, .of_steps (.one step_scope) harr⟩
  | panic ch => exact ⟨_, a₁, w₁, hq, .of_steps (.one step_scope) harr⟩
  | outgrown => exact ⟨_, a₁, w₁, hq, .of_steps (.one step_scope) harr⟩
end Go.Proofs.YtpipcpjkfgdpcaaDoor
