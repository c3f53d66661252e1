import Derived.Test.YtofdnkgieigncaaRA
namespace Go.Proofs.Ytofdnkgieigncaa
open Go.SL
/-! ### who has a rate with whom: plain -/
def appR (k v : ByteArray) (N : List (ByteArray × List ByteArray)) : List (ByteArray × List ByteArray) := aput k ((aget k N).getD [] ++ [v]) N
def nbS (N : List (ByteArray × List ByteArray)) (p : Pr) : List (ByteArray × List ByteArray) := appR p.2 p.1 (appR p.1 p.2 N)
def nbM (τ : List Pr) : List (ByteArray × List ByteArray) := τ.foldl nbS []
theorem nbM_snoc (τ : List Pr) (p : Pr) : nbM (τ ++ [p]) = nbS (nbM τ) p := by unfold nbM; rw [List.foldl_append]; rfl
/-- the neighbours, pair by pair -/
def nbrs (τ : List Pr) (a : ByteArray) : List ByteArray := τ.flatMap fun p => (if p.1 = a then [p.2] else []) ++ (if p.2 = a then [p.1] else [])
theorem nbrs_snoc (τ : List Pr) (p : Pr) (a : ByteArray) : nbrs (τ ++ [p]) a = nbrs τ a ++ ((if p.1 = a then [p.2] else []) ++ (if p.2 = a then [p.1] else [])) := by
  unfold nbrs
  rw [List.flatMap_append]
  simp
theorem appR_get (k v : ByteArray) (N : List (ByteArray × List ByteArray)) (a : ByteArray) : (aget a (appR k v N)).getD [] = (aget a N).getD [] ++ (if k = a then [v] else []) := by
  unfold appR
  rw [aget_put]
  by_cases e : k = a
  · subst e
    rw [if_pos rfl, if_pos rfl]
    rfl
  · rw [if_neg e, if_neg e, List.append_nil]
theorem appR_ne (k v : ByteArray) {N : List (ByteArray × List ByteArray)} (h : ∀ p ∈ N, p.2 ≠ []) : ∀ p ∈ appR k v N, p.2 ≠ [] := by
  intro p hp
  unfold appR at hp
  have : ∀ {l : List (ByteArray × List ByteArray)} {c : List ByteArray}, c ≠ [] → (∀ p ∈ l, p.2 ≠ []) → ∀ p ∈ aput k c l, p.2 ≠ [] := by
    intro l
    induction l with
    | nil => intro c hc _ p hp; rw [aput, List.mem_singleton] at hp; rw [hp]; exact hc
    | cons q r ih =>
      intro c hc hl p hp
      obtain ⟨q1, q2⟩ := q
      rw [aput] at hp
      split at hp
      · rcases List.mem_cons.1 hp with e | e
        · rw [e]; exact hc
        · exact hl p (List.mem_cons_of_mem _ e)
      · rcases List.mem_cons.1 hp with e | e
        · rw [e]; exact hl _ List.mem_cons_self
        · exact ih hc (fun p hp => hl p (List.mem_cons_of_mem _ hp)) p e
  exact this (by simp) h p hp
theorem nbM_spec (τ : List Pr) : (akeys (nbM τ)).Nodup ∧ (∀ p ∈ nbM τ, p.2 ≠ []) ∧ ∀ a, (aget a (nbM τ)).getD [] = nbrs τ a := by
  refine list_snocR (C := fun τ => (akeys (nbM τ)).Nodup ∧ (∀ p ∈ nbM τ, p.2 ≠ []) ∧ ∀ a, (aget a (nbM τ)).getD [] = nbrs τ a) τ ⟨List.nodup_nil, fun p hp => (by cases hp), fun a => rfl⟩ (fun τ p ih => ?_)
  obtain ⟨i1, i2, i3⟩ := ih
  rw [nbM_snoc]
  refine ⟨?_, ?_, fun a => ?_⟩
  · unfold nbS appR
    exact nodup_put (nodup_put i1)
  · unfold nbS
    exact appR_ne _ _ (appR_ne _ _ i2)
  · unfold nbS
    rw [appR_get, appR_get, i3, nbrs_snoc, List.append_assoc]
theorem nbrs_perm {τ υ : List Pr} (h : τ.Perm υ) (a : ByteArray) : (nbrs τ a).Perm (nbrs υ a) := h.flatMap_right _
theorem mem_nbrs {τ : List Pr} {a b : ByteArray} : b ∈ nbrs τ a ↔ (a, b) ∈ τ ∨ (b, a) ∈ τ := by
  unfold nbrs
  rw [List.mem_flatMap]
  constructor
  · rintro ⟨⟨p, q⟩, hp, hb⟩
    rcases List.mem_append.1 hb with h | h
    · split at h
      · rename_i e
        rw [List.mem_singleton] at h
        dsimp only at e h
        subst e; subst h
        exact .inl hp
      · cases h
    · split at h
      · rename_i e
        rw [List.mem_singleton] at h
        dsimp only at e h
        subst e; subst h
        exact .inr hp
      · cases h
  · rintro (h | h)
    · exact ⟨_, h, by simp⟩
    · exact ⟨_, h, by simp⟩
/-- rising rows with the same members, as often, are the same -/
theorem sortS_perm_eq {l m : List ByteArray} (h : l.Perm m) : sortS l = sortS m := by
  have h1 := sortS_sorted l
  have h2 := sortS_sorted m
  have hp : (sortS l).Perm (sortS m) := (sortS_perm l).trans (h.trans (sortS_perm m).symm)
  refine hp.eq_of_pairwise (le := fun x y => lts y x = false) (fun a b _ _ x y => ?_) h1 h2
  exact lts_tri y x
def srtN (N : List (ByteArray × List ByteArray)) : List (ByteArray × List ByteArray) := N.map fun p => (p.1, sortS p.2)
theorem nbM_perm {τ υ : List Pr} (h : τ.Perm υ) : (srtN (nbM τ)).Perm (srtN (nbM υ)) := by
  have half : ∀ {τ υ : List Pr}, τ.Perm υ → ∀ x, x ∈ srtN (nbM τ) → x ∈ srtN (nbM υ) := by
    intro τ υ h x hx
    obtain ⟨h1, h2, h3⟩ := nbM_spec τ
    obtain ⟨g1, g2, g3⟩ := nbM_spec υ
    obtain ⟨⟨k, r⟩, hp, rfl⟩ := List.mem_map.1 hx
    have e1 := aget_of_mem h1 hp
    have e2 := h3 k
    rw [e1] at e2
    have e2 : r = nbrs τ k := e2
    have hr := h2 _ hp
    dsimp only at hr
    have hpm := nbrs_perm h k
    have e3 := g3 k
    cases hq : aget k (nbM υ) with
    | none =>
      rw [hq] at e3
      have e3 : [] = nbrs υ k := e3
      rw [← e2, ← e3] at hpm
      exact absurd hpm.eq_nil hr
    | some r' =>
      rw [hq] at e3
      have e3 : r' = nbrs υ k := e3
      refine List.mem_map.2 ⟨(k, r'), aget_mem hq, ?_⟩
      show (k, sortS r') = (k, sortS r)
      rw [e2, e3, sortS_perm_eq hpm]
  have nd : ∀ τ : List Pr, (srtN (nbM τ)).Nodup := fun τ => by
    have h1 := (nbM_spec τ).1
    unfold akeys at h1
    unfold srtN
    rw [List.nodup_iff_pairwise_ne, List.pairwise_map] at h1 ⊢
    exact h1.imp (fun {a b} hne e => hne (Prod.mk.inj e).1)
  exact (List.perm_ext_iff_of_nodup (nd τ) (nd υ)).2 (fun x => ⟨half h x, half h.symm x⟩)
def nb (l : List RP) (day : Int) (a : ByteArray) : List ByteArray := sortS (nbrs (akeys (chM l day)) a)
/-! #### a rate of the day between two -/
def linkR (l : List RP) (day : Int) (a b : ByteArray) : Option (Int × Int) := match lat l (a, b) day with
  | some x => some (x.2.1, x.2.2)
  | none => match lat l (b, a) day with
    | some x => some (x.2.2, x.2.1)
    | none => none
theorem mem_nb {l : List RP} {day : Int} {a b : ByteArray} : b ∈ nb l day a ↔ (linkR l day a b).isSome = true := by
  have hk : ∀ p : Pr, p ∈ akeys (chM l day) ↔ (lat l p day).isSome = true := fun p => by
    have := (chM_get day l).2 p
    constructor
    · intro h
      cases hq : lat l p day with
      | some x => rfl
      | none =>
        rw [hq] at this
        exact absurd h (aget_none.1 this)
    · intro h
      apply Classical.byContradiction
      intro hn
      rw [aget_none.2 hn] at this
      cases hq : lat l p day with
      | none => rw [hq] at h; cases h
      | some x => rw [hq] at this; cases this
  unfold nb linkR
  rw [(sortS_perm _).mem_iff, mem_nbrs, hk, hk]
  cases lat l (a, b) day with
  | some x => simp
  | none =>
    cases lat l (b, a) day with
    | some x => simp
    | none => simp
def hasL (l : List RP) (day : Int) (a b : ByteArray) : Bool := (linkR l day a b).isSome
/-- the first of the shortest rows -/
def rowP (l : List RP) (day : Int) (f t : ByteArray) : List ByteArray :=
  if f = t then [f] else if hasL l day f t then [f, t] else match (nb l day f).find? (fun a => hasL l day a t) with
    | some a => [f, a, t]
    | none => match (nb l day f).findSome? (fun a => ((nb l day a).find? fun b => !(decide (b = f)) && hasL l day b t).map fun b => [f, a, b, t]) with
      | some r => r
      | none => []
end Go.Proofs.Ytofdnkgieigncaa
