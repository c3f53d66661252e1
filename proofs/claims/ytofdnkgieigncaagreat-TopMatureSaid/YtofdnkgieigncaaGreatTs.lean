/- The layer 'SL': a scope with one label, to which is gone back. -/
import Derived.Test.YtofdnkgieigncaaGreatSk
import Derived.Scope
namespace Go
open Go.RowKit
def Exit.atLabel (l : Nat) (K : Act → World → Prop) (Q : Exit → Act → World → Prop) : Exit → Act → World → Prop
  | .goto l', a, w => l' = l ∧ K a w
  | e, a, w => Q e a w
/-- a scope whose code goes back to its one label, which stands ahead of the rest -/
theorem wp_scope_back {P : Program} {Q : Exit → Act → World → Prop} {a : Act} {w : World} {c rest : Code} {l : Nat} (hl : findLabel c l = some rest) (I : Act → World → Prop) (μ : Act → World → Nat)
    (h0 : c.wp P (Exit.atLabel l I Q) a w) (h1 : ∀ a w, I a w → rest.wp P (Exit.atLabel l (fun a' w' => I a' w' ∧ μ a' w' < μ a w) Q) a w) : (Code.scope c).wp P Q a w := by
  intro b k cs
  have hgo : gotoIn l (.inScope c :: k) = some (.code rest :: .inScope c :: k) := by simp [gotoIn, hl]
  have fin : ∀ {m : Machine} {e : Exit} {a' : Act} {w' : World} {K : Act → World → Prop}, Exit.atLabel l K Q e a' w' → (∀ x, e ≠ .goto x) → Arrives P m b (.inScope c :: k) cs e a' w' → Q e a' w' ∧ Arrives P m b k cs e a' w' := by
    intro m e a' w' K hq hne harr
    cases e with
    | normal => exact ⟨hq, Steps.trans harr (.one step_inScope)⟩
    | exit id => exact ⟨hq, fun k' hk => harr k' (by simp [exitTo, hk])⟩
    | goto x => exact absurd rfl (hne x)
    | ret => exact ⟨hq, harr⟩
    | panic ch => exact ⟨hq, harr⟩
    | outgrown => exact ⟨hq, harr⟩
  have key : ∀ (n : Nat) (a : Act) (w : World), I a w → μ a w = n → ∃ e a' w', Q e a' w' ∧ Arrives P (lone (b.at a (.code rest :: .inScope c :: k)) cs w) b k cs e a' w' := by
    intro n
    induction n using Nat.strongRecOn with
    | _ n ih =>
      intro a w hI hn
      obtain ⟨e, a₁, w₁, hq, harr⟩ := h1 a w hI b (.inScope c :: k) cs
      by_cases hg : ∃ x, e = .goto x
      · obtain ⟨x, rfl⟩ := hg
        obtain ⟨rfl, hI', hlt⟩ := hq
        obtain ⟨e₂, a₂, w₂, q2, r2⟩ := ih (μ a₁ w₁) (by omega) a₁ w₁ hI' rfl
        exact ⟨e₂, a₂, w₂, q2, .of_steps (harr _ hgo) r2⟩
      · obtain ⟨q1, r1⟩ := fin hq (fun x hx => hg ⟨x, hx⟩) harr
        exact ⟨e, a₁, w₁, q1, r1⟩
  obtain ⟨e, a₁, w₁, hq, harr⟩ := h0 b (.inScope c :: k) cs
  by_cases hg : ∃ x, e = .goto x
  · obtain ⟨x, rfl⟩ := hg
    obtain ⟨rfl, hI'⟩ := hq
    obtain ⟨e₂, a₂, w₂, q2, r2⟩ := key _ a₁ w₁ hI' rfl
    exact ⟨e₂, a₂, w₂, q2, .of_steps (.one step_scope) (.of_steps (harr _ hgo) r2)⟩
  · obtain ⟨q1, r1⟩ := fin hq (fun x hx => hg ⟨x, hx⟩) harr
    exact ⟨e, a₁, w₁, q1, .of_steps (.one step_scope) r1⟩
end Go
namespace Go.SL
open Go.RowKit
section
variable {P : Program} {O : Org} {Q : Exit → Env → Hp → Prop} {env : Env} {h : Hp}
def scopeQ (l : Nat) (K : Env → Hp → Prop) (Q : Exit → Env → Hp → Prop) : Exit → Env → Hp → Prop
  | .goto l', env, h => l' = l ∧ K env h
  | e, env, h => Q e env h
theorem AW_goto {l : Nat} (H : Q (.goto l) env h) : AW P O (.goto l) Q env h := fun _ _ _ r => wp_goto ⟨env, h, _, r, H⟩
/-- A scope whose label stands behind A: the states at the label by a parameter. -/
theorem AW_scopeB {A B : Code} {l : Nat} {S : Type} (I : S → Prop) (E : S → Env) (Hh : S → Hp) (μ : S → Nat) (hA : findLabel A l = none)
    (H : AW P O A (thenQ (fun env' h' => ∃ s, I s ∧ (∀ t, lk (E s) t = lk env' t ∨ lk (E s) t = .any) ∧ (∀ id o, hget (Hh s) id = some o → hget h' id = some o)) (scopeQ l (fun _ _ => False) Q)) env h)
    (round : ∀ s, I s → AW P O B (scopeQ l (fun env' h' => ∃ s', I s' ∧ μ s' < μ s ∧ (∀ t, lk (E s') t = lk env' t ∨ lk (E s') t = .any) ∧ (∀ id o, hget (Hh s') id = some o → hget h' id = some o)) Q) (E s) (Hh s)) :
    AW P O (.scope (.seq A (.seq (.label l) B))) Q env h := by
  intro a w G r
  have hl : findLabel (.seq A (.seq (.label l) B)) l = some (.seq .skip B) := by simp [findLabel, hA]
  have roundW : ∀ a w m, LoopAt O I E Hh μ a w m → (∀ j, LoopAt O I E Hh μ a w j → m ≤ j) → B.wp P (Exit.atLabel l (fun a' w' => (∃ j, LoopAt O I E Hh μ a' w' j) ∧ leastOf (LoopAt O I E Hh μ a' w') < m) (lift O Q)) a w := by
    intro a w m hm hle
    obtain ⟨s, G, hs1, hr1, rfl⟩ := hm
    refine Code.wp_mono (fun e a' w' => ?_) (round s hs1 a w G hr1)
    rintro ⟨env', h', G', r', q⟩
    cases e with
    | goto x =>
      obtain ⟨rfl, s', i1, i2, i3, i4⟩ := q
      have hJ : LoopAt O I E Hh μ a' w' (μ s') := ⟨s', G', i1, r'.weak i3 i4, rfl⟩
      refine ⟨rfl, ⟨_, hJ⟩, ?_⟩
      have := (leastOf_spec ⟨_, hJ⟩).2 _ hJ
      omega
    | _ => exact ⟨env', h', G', r', q⟩
  have roundL : ∀ a w, (∃ j, LoopAt O I E Hh μ a w j) → B.wp P (Exit.atLabel l (fun a' w' => (∃ j, LoopAt O I E Hh μ a' w' j) ∧ leastOf (LoopAt O I E Hh μ a' w') < leastOf (LoopAt O I E Hh μ a w)) (lift O Q)) a w := fun a w hj => by
    obtain ⟨h1, h2⟩ := leastOf_spec hj
    exact roundW a w _ h1 h2
  refine wp_scope_back hl (fun a w => ∃ j, LoopAt O I E Hh μ a w j) (fun a w => leastOf (LoopAt O I E Hh μ a w)) ?_ (fun a w hj => wp_seq (wp_skip (roundL a w hj)))
  refine wp_seq (Code.wp_mono (fun e a' w' => ?_) (H a w G r))
  rintro ⟨env', h', G', r', q⟩
  cases e with
  | normal =>
    obtain ⟨s, i1, i3, i4⟩ := q
    have hJ : LoopAt O I E Hh μ a' w' (μ s) := ⟨s, G', i1, r'.weak i3 i4, rfl⟩
    refine wp_seq (wp_label (Code.wp_mono (fun e a w => ?_) (roundL a' w' ⟨_, hJ⟩)))
    intro q
    cases e with
    | goto x => exact ⟨q.1, q.2.1⟩
    | _ => exact q
  | goto x => exact q.2.elim
  | _ => exact ⟨env', h', G', r', q⟩
theorem AW_scopeE {A B : Code} {l : Nat} {S : Type} (I : S → Prop) (E : S → Env) (Hh : S → Hp) (μ : S → Nat) (hA : findLabel A l = none)
    (H : AW P O A (thenQ (fun env' h' => ∃ s, I s ∧ WeakL (E s) env' ∧ SubH (Hh s) h') (scopeQ l (fun _ _ => False) Q)) env h)
    (round : ∀ s, I s → AW P O B (scopeQ l (fun env' h' => ∃ s', I s' ∧ μ s' < μ s ∧ WeakL (E s') env' ∧ SubH (Hh s') h') Q) (E s) (Hh s)) :
    AW P O (.scope (.seq A (.seq (.label l) B))) Q env h := by
  refine AW_scopeB I E Hh μ hA (H.mono (fun e env' h' q => ?_)) (fun s hI => (round s hI).mono (fun e env' h' q => ?_))
  · cases e with
    | normal => obtain ⟨s, i1, i3, i4⟩ := q; exact ⟨s, i1, i3.each, i4.each⟩
    | _ => exact q
  · cases e with
    | goto x => obtain ⟨rfl, s', i1, i2, i3, i4⟩ := q; exact ⟨rfl, s', i1, i2, i3.each, i4.each⟩
    | _ => exact q
end
end Go.SL
