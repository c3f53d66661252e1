/- The layer 'SL': a nil slice within a structure that is handed in; sorted rows, compacted. -/
import Derived.Test.YtnfgkccocknloaaSl
import Derived.Lib.SlicesCompact
namespace Go.SL

theorem AC.nilAgg {P : Program} {f : FuncId} {pre post rest : List AV} {sz : Nat} {h : Hp} {ids : List Nat} {R : AV → Hp → Prop} (H : AC P f (.agg (pre ++ .d (.sl sz []) :: post) :: rest) h ids R) :
    AC P f (.agg (pre ++ .d (.sc (.slice none 0 0)) :: post) :: rest) h ids R := by
  refine ⟨H.1, fun w X G vs r hl hv => H.2 w X G vs r hl (fun i x v hx hi => ?_)⟩
  cases i with
  | succ i => exact hv (i + 1) x v hx hi
  | zero =>
    cases hx
    have h0 := hv 0 _ v rfl hi
    cases h0 with
    | agg cs vs hs hc h1 =>
      refine .agg _ vs (by simpa using hs) (fun i c v hc' hv' => ?_) h1
      rcases Nat.lt_trichotomy i pre.length with hlt | rfl | hgt
      · exact hc i c v (by rw [List.getElem?_append_left hlt] at hc' ⊢; exact hc') hv'
      · rw [List.getElem?_append_right (Nat.le_refl _), Nat.sub_self] at hc'
        cases hc'
        have := hc pre.length (.d (.sc (.slice none 0 0))) v (by rw [List.getElem?_append_right (Nat.le_refl _), Nat.sub_self]; rfl) hv'
        exact (CoeA.nil sz).rep this
      · refine hc i c v ?_ hv'
        rw [List.getElem?_append_right (by omega)] at hc' ⊢
        obtain ⟨m, hm⟩ : ∃ m, i - pre.length = m + 1 := ⟨i - pre.length - 1, by omega⟩
        rw [hm] at hc' ⊢
        exact hc'

section
open Go.Lib
theorem compactUpTo_sorted {d : Array Int} (hs : ∀ i j : Nat, i ≤ j → j < d.size → d[i]! ≤ d[j]!) : ∀ m, m ≤ d.size → (∀ x, x ∈ compactUpTo d m ↔ ∃ j, j < m ∧ d[j]! = x) ∧ (compactUpTo d m).Pairwise (· < ·)
  | 0, _ => ⟨fun x => by simp [compactUpTo], by simp [compactUpTo]⟩
  | m + 1, hm => by
    obtain ⟨h1, h2⟩ := compactUpTo_sorted hs m (by omega)
    rw [compactUpTo_succ]
    by_cases hk : keeps d m = true
    · rw [if_pos hk]
      refine ⟨fun x => ?_, ?_⟩
      · rw [List.mem_append, h1 x, List.mem_singleton]
        constructor
        · rintro (⟨j, hj, e⟩ | e)
          · exact ⟨j, by omega, e⟩
          · exact ⟨m, by omega, e.symm⟩
        · rintro ⟨j, hj, e⟩
          rcases Nat.lt_or_ge j m with h | h
          · exact .inl ⟨j, h, e⟩
          · obtain rfl : j = m := by omega
            exact .inr e.symm
      · rw [List.pairwise_append]
        refine ⟨h2, by simp, fun x hx y hy => ?_⟩
        obtain ⟨j, hj, rfl⟩ := (h1 x).1 hx
        rw [List.mem_singleton] at hy
        subst hy
        have hne : d[m]! ≠ d[m - 1]! := by
          have := of_decide_eq_true hk
          rcases this with h | h
          · omega
          · exact h
        have a1 := hs j (m - 1) (by omega) (by omega)
        have a2 := hs (m - 1) m (by omega) (by omega)
        omega
    · rw [if_neg hk, List.append_nil]
      refine ⟨fun x => ?_, h2⟩
      rw [h1 x]
      have hne : m ≠ 0 ∧ d[m]! = d[m - 1]! := by
        have : ¬ (m = 0 ∨ d[m]! ≠ d[m - 1]!) := fun h => hk (decide_eq_true h)
        refine ⟨fun h => this (.inl h), ?_⟩
        by_cases h : d[m]! = d[m - 1]!
        · exact h
        · exact absurd (.inr h) this
      constructor
      · rintro ⟨j, hj, e⟩
        exact ⟨j, by omega, e⟩
      · rintro ⟨j, hj, e⟩
        rcases Nat.lt_or_ge j m with h | h
        · exact ⟨j, h, e⟩
        · obtain rfl : j = m := by omega
          exact ⟨j - 1, by omega, by rw [← e, hne.2]⟩
theorem compact_sorted {zs : List Int} (hs : zs.Pairwise (· ≤ ·)) : (∀ x, x ∈ compact zs ↔ x ∈ zs) ∧ (compact zs).Pairwise (· < ·) := by
  have hg : ∀ i : Nat, ∀ hi : i < zs.length, zs.toArray[i]! = zs[i] := fun i hi => by rw [getElem!_pos zs.toArray i (by simpa using hi)]; simp
  have h0 : ∀ i j : Nat, i ≤ j → j < zs.toArray.size → zs.toArray[i]! ≤ zs.toArray[j]! := by
    intro i j hij hj
    have hj' : j < zs.length := by simpa using hj
    rw [hg i (by omega), hg j hj']
    rcases Nat.lt_or_ge i j with h | h
    · exact List.pairwise_iff_getElem.1 hs i j (by omega) hj' h
    · obtain rfl : i = j := by omega
      exact Int.le_refl _
  obtain ⟨h1, h2⟩ := compactUpTo_sorted h0 zs.length (by simp)
  refine ⟨fun x => ?_, h2⟩
  unfold compact
  rw [h1 x]
  constructor
  · rintro ⟨j, hj, e⟩
    rw [hg j hj] at e
    exact e ▸ List.getElem_mem hj
  · intro hx
    obtain ⟨j, hj, e⟩ := List.getElem_of_mem hx
    exact ⟨j, hj, by rw [hg j hj]; exact e⟩
theorem sort_sorted (zs : List Int) : (zs.mergeSort fun x y => decide (x ≤ y)).Pairwise (· ≤ ·) := by
  have := List.pairwise_mergeSort (le := fun x y : Int => decide (x ≤ y)) (fun a b c h1 h2 => by simp at *; omega) (fun a b => by simp; omega) zs
  exact this.imp (fun h => by simpa using h)
end
end Go.SL
