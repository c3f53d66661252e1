import Derived.Test.YtofdnkgieigncaaGreatSx
import Derived.Test.YtofdnkgieigncaaGreatTab
import Derived.Test.YtofdnkgieigncaaGreatPl
import Derived.Test.YtofdnkgieigncaaGreatRows
namespace Go.Proofs.YtofdnkgieigncaaGreat
open Go.SL

/-! ### maps as lists -/
section
variable {κ α : Type} [DecidableEq κ]
def aget (k : κ) : List (κ × α) → Option α
  | [] => none
  | (k', c) :: r => if k' = k then some c else aget k r
def aidx (k : κ) : List (κ × α) → Nat
  | [] => 0
  | (k', _) :: r => if k' = k then 0 else aidx k r + 1
def aput (k : κ) (c : α) : List (κ × α) → List (κ × α)
  | [] => [(k, c)]
  | (k', c') :: r => if k' = k then (k, c) :: r else (k', c') :: aput k c r
def adel (k : κ) : List (κ × α) → List (κ × α)
  | [] => []
  | (k', c') :: r => if k' = k then r else (k', c') :: adel k r
def akeys (l : List (κ × α)) : List κ := l.map (·.1)
omit [DecidableEq κ] in
theorem akeys_cons (p : κ × α) (l : List (κ × α)) : akeys (p :: l) = p.1 :: akeys l := rfl
theorem aget_none {k : κ} : ∀ {l : List (κ × α)}, aget k l = none ↔ k ∉ akeys l
  | [] => by simp [aget, akeys]
  | (k', c) :: r => by
    rw [aget]
    by_cases e : k' = k
    · rw [if_pos e]; simp [akeys, e]
    · rw [if_neg e, aget_none]
      have : ¬ k = k' := fun x => e x.symm
      simp [akeys, this]
theorem aget_mem {k : κ} {c : α} : ∀ {l : List (κ × α)}, aget k l = some c → (k, c) ∈ l
  | [], h => by cases h
  | (k', c') :: r, h => by
    rw [aget] at h
    by_cases e : k' = k
    · rw [if_pos e] at h; cases h; rw [e]; exact List.mem_cons_self
    · rw [if_neg e] at h; exact List.mem_cons_of_mem _ (aget_mem h)
theorem aget_of_mem {k : κ} {c : α} : ∀ {l : List (κ × α)}, (akeys l).Nodup → (k, c) ∈ l → aget k l = some c
  | [], _, h => by cases h
  | (k', c') :: r, hn, h => by
    rw [akeys, List.map_cons, List.nodup_cons] at hn
    rw [aget]
    rcases List.mem_cons.1 h with e | h
    · cases e; rw [if_pos rfl]
    · have : ¬ k' = k := fun e => hn.1 (by rw [e]; exact List.mem_map.2 ⟨_, h, rfl⟩)
      rw [if_neg this]; exact aget_of_mem hn.2 h
theorem aget_put (k k' : κ) (c : α) : ∀ (l : List (κ × α)), aget k' (aput k c l) = if k = k' then some c else aget k' l
  | [] => by simp [aput, aget]
  | (q, c') :: r => by
    rw [aput]
    by_cases e : q = k
    · subst e
      rw [if_pos rfl, aget, aget]
      by_cases e' : q = k'
      · simp [e']
      · simp [e']
    · rw [if_neg e, aget, aget, aget_put k k' c r]
      by_cases e' : q = k'
      · have : ¬ k = k' := fun x => e (by rw [e', x])
        simp [e', this]
      · simp [e']
theorem akeys_put (k : κ) (c : α) : ∀ (l : List (κ × α)), akeys (aput k c l) = if k ∈ akeys l then akeys l else akeys l ++ [k]
  | [] => by simp [aput, akeys]
  | (q, c') :: r => by
    rw [aput]
    by_cases e : q = k
    · subst e; simp [akeys]
    · have e' : ¬ k = q := fun x => e x.symm
      rw [if_neg e, akeys_cons, akeys_cons, akeys_put k c r]
      by_cases hm : k ∈ akeys r
      · rw [if_pos hm, if_pos (List.mem_cons_of_mem _ hm)]
      · rw [if_neg hm, if_neg (by simp [e', hm])]; rfl
theorem nodup_put {k : κ} {c : α} {l : List (κ × α)} (h : (akeys l).Nodup) : (akeys (aput k c l)).Nodup := by
  rw [akeys_put]
  split
  · exact h
  · rename_i hk
    rw [List.nodup_append]
    exact ⟨h, by simp, fun a ha b hb => by simp at hb; subst hb; exact fun e => hk (e ▸ ha)⟩
theorem aput_same {k : κ} {c : α} : ∀ {l : List (κ × α)}, aget k l = some c → aput k c l = l
  | [], h => by cases h
  | (q, c') :: r, h => by
    rw [aget] at h
    rw [aput]
    by_cases e : q = k
    · rw [if_pos e] at h ⊢; cases h; rw [e]
    · rw [if_neg e] at h ⊢; rw [aput_same h]
theorem aput_new {k : κ} {c : α} : ∀ {l : List (κ × α)}, aget k l = none → aput k c l = l ++ [(k, c)]
  | [], _ => rfl
  | (q, c') :: r, h => by
    rw [aget] at h
    rw [aput]
    by_cases e : q = k
    · rw [if_pos e] at h; cases h
    · rw [if_neg e] at h ⊢; rw [aput_new h]; rfl
theorem aidx_new {k : κ} : ∀ {l : List (κ × α)}, aget k l = none → aidx k l = l.length
  | [], _ => rfl
  | (q, c') :: r, h => by
    rw [aget] at h
    rw [aidx]
    by_cases e : q = k
    · rw [if_pos e] at h; cases h
    · rw [if_neg e] at h ⊢; rw [aidx_new h]; rfl
theorem aput_set (k : κ) (x c : α) : ∀ (l : List (κ × α)), (aput k x l).set (aidx k l) (k, c) = aput k c l ∧ (aput k x l)[aidx k l]? = some (k, x)
  | [] => by simp [aput, aidx]
  | (q, c') :: r => by
    obtain ⟨h1, h2⟩ := aput_set k x c r
    rw [aput, aput, aidx]
    by_cases e : q = k
    · simp [e]
    · simp [e, h1, h2]
theorem aget_del (k k' : κ) : ∀ (l : List (κ × α)), (akeys l).Nodup → aget k' (adel k l) = if k = k' then none else aget k' l
  | [], _ => by simp [adel, aget]
  | (q, c') :: r, hn => by
    have hn' := hn
    rw [akeys, List.map_cons, List.nodup_cons] at hn
    rw [adel]
    by_cases e : q = k
    · subst e
      rw [if_pos rfl, aget]
      by_cases e' : q = k'
      · subst e'; simp; exact aget_none.2 hn.1
      · simp [e']
    · rw [if_neg e, aget, aget, aget_del k k' r hn.2]
      by_cases e' : q = k'
      · have : ¬ k = k' := fun x => e (by rw [e', x])
        simp [e', this]
      · simp [e']
theorem del_sub (k : κ) : ∀ (l : List (κ × α)), (adel k l).Sublist l
  | [] => by simp [adel]
  | (q, c') :: r => by
    rw [adel]
    split
    · exact List.sublist_cons_self _ _
    · exact (del_sub k r).cons_cons _
theorem nodup_del {k : κ} {l : List (κ × α)} (h : (akeys l).Nodup) : (akeys (adel k l)).Nodup := h.sublist ((del_sub k l).map _)

variable (kv : κ → Value) (cv : α → AV)
def emap (l : List (κ × α)) : List (Value × AV) := l.map fun p => (kv p.1, cv p.2)
variable {kv cv}
theorem mat_emap (hq : ∀ a b : κ, keq (kv a) (kv b) = decide (b = a)) (k : κ) : ∀ (l : List (κ × α)) (i : Nat), mat (kv k) (emap kv cv l) i = (aget k l).map fun c => (i + aidx k l, cv c)
  | [], _ => rfl
  | (q, c) :: r, i => by
    show (bif keq (kv k) (kv q) then some (i, cv c) else mat (kv k) (emap kv cv r) (i + 1)) = _
    rw [hq, mat_emap hq k r (i + 1), aget, aidx]
    by_cases e : q = k
    · simp [e]
    · simp only [e, decide_false, cond_false, if_false]
      rw [show i + (aidx k r + 1) = i + 1 + aidx k r by omega]
theorem mfind_emap (hq : ∀ a b : κ, keq (kv a) (kv b) = decide (b = a)) (k : κ) (l : List (κ × α)) : mfind (kv k) (emap kv cv l) = (aget k l).map cv := by
  unfold mfind
  rw [mat_emap hq]
  cases aget k l <;> rfl
omit [DecidableEq κ] in
theorem emap_set (l : List (κ × α)) (j : Nat) (k : κ) (c : α) : (emap kv cv l).set j (kv k, cv c) = emap kv cv (l.set j (k, c)) := by unfold emap; rw [List.map_set]
theorem aput_some {k : κ} {c x : α} : ∀ {l : List (κ × α)}, aget k l = some x → aput k c l = l.set (aidx k l) (k, c)
  | [], h => by cases h
  | (q, c') :: r, h => by
    rw [aget] at h
    rw [aput, aidx]
    by_cases e : q = k
    · rw [if_pos e, if_pos e]; rfl
    · rw [if_neg e] at h
      rw [if_neg e, if_neg e, aput_some h]; rfl
theorem adel_some {k : κ} {x : α} : ∀ {l : List (κ × α)}, aget k l = some x → adel k l = l.eraseIdx (aidx k l)
  | [], h => by cases h
  | (q, c') :: r, h => by
    rw [aget] at h
    rw [adel, aidx]
    by_cases e : q = k
    · rw [if_pos e, if_pos e]; rfl
    · rw [if_neg e] at h
      rw [if_neg e, if_neg e, adel_some h]; rfl
theorem adel_none {k : κ} : ∀ {l : List (κ × α)}, aget k l = none → adel k l = l
  | [], _ => rfl
  | (q, c') :: r, h => by
    rw [aget] at h
    rw [adel]
    by_cases e : q = k
    · rw [if_pos e] at h; cases h
    · rw [if_neg e] at h; rw [if_neg e, adel_none h]
theorem mdel_emap (hq : ∀ a b : κ, keq (kv a) (kv b) = decide (b = a)) (k : κ) (l : List (κ × α)) : mdel (kv k) (emap kv cv l) = emap kv cv (adel k l) := by
  unfold mdel
  rw [mat_emap hq]
  cases h : aget k l with
  | none => rw [adel_none h]; rfl
  | some x =>
    show (emap kv cv l).eraseIdx (0 + aidx k l) = _
    rw [Nat.zero_add, adel_some h]
    generalize aidx k l = j
    clear h x
    unfold emap
    induction l generalizing j with
    | nil => simp
    | cons p l ih => cases j <;> simp [ih]
theorem mentry_emap (hq : ∀ a b : κ, keq (kv a) (kv b) = decide (b = a)) (k : κ) (z : α) (l : List (κ × α)) : mentry (kv k) (cv z) (emap kv cv l) = (cv ((aget k l).getD z), aidx k l, emap kv cv (aput k ((aget k l).getD z) l)) := by
  unfold mentry
  rw [mat_emap hq]
  cases h : aget k l with
  | none => rw [aput_new (by exact h), aidx_new h]; simp [emap]
  | some x => simp [aput_same h]
omit [DecidableEq κ] in
theorem emap_len (l : List (κ × α)) : (emap kv cv l).length = l.length := by simp [emap]
omit [DecidableEq κ] in
theorem emap_keys {l : List (κ × α)} {q : Value → Prop} (h : ∀ k, q (kv k)) : ∀ p ∈ emap kv cv l, q p.1 := by
  intro p hp
  obtain ⟨x, _, rfl⟩ := List.mem_map.1 hp
  exact h _
omit [DecidableEq κ] in
theorem emap_nodup (hi : ∀ a b : κ, kv a = kv b → a = b) {l : List (κ × α)} (h : (akeys l).Nodup) : ((emap kv cv l).map (·.1)).Nodup := by
  unfold emap akeys at *
  rw [List.map_map]
  rw [List.nodup_iff_pairwise_ne, List.pairwise_map] at h ⊢
  exact h.imp (fun h e => h (hi _ _ e))
end
abbrev K2 := ByteArray × ByteArray
def iV (n : Int) : AV := .d (.sc (.int .i64 n))
/-! ### what a loop over a map has still to do -/
theorem etodo_split {κ α : Type} {kv : κ → Value} {cv : α → AV} {pre post : List Value} {k : Value} : ∀ {mt : List (κ × α)}, (emap kv cv mt).map (·.1) = pre ++ k :: post → ∃ a p b, mt = a ++ p :: b ∧ pre = (emap kv cv a).map (·.1) ∧ k = kv p.1 ∧ post = (emap kv cv b).map (·.1)
  | [], h => by simp [emap] at h
  | x :: mt, h => by
    cases pre with
    | nil =>
      simp only [emap, List.map_cons, List.nil_append, List.cons.injEq] at h
      exact ⟨[], x, mt, rfl, rfl, h.1.symm, by rw [← h.2]; rfl⟩
    | cons y pre =>
      simp only [emap, List.map_cons, List.cons_append, List.cons.injEq] at h
      obtain ⟨a, p, b, h1, h2, h3, h4⟩ := etodo_split (kv := kv) (cv := cv) (mt := mt) h.2
      exact ⟨x :: a, p, b, by rw [h1]; rfl, by rw [← h.1, h2]; rfl, h3, h4⟩
theorem etodo_join {κ α : Type} {kv : κ → Value} {cv : α → AV} (a b : List (κ × α)) : (emap kv cv (a ++ b)).map (·.1) = (emap kv cv a).map (·.1) ++ (emap kv cv b).map (·.1) := by simp [emap]
theorem etodo_nil {κ α : Type} {kv : κ → Value} {cv : α → AV} {mt : List (κ × α)} (h : (emap kv cv mt).map (·.1) = []) : mt = [] := by
  cases mt with
  | nil => rfl
  | cons x r => simp [emap] at h
end Go.Proofs.YtofdnkgieigncaaGreat
