import Derived.Test.YtnfgkccocknloaaJ7
namespace Go.Proofs.Ytnfgkccocknloaa
open Go.SL

/-! ### what is left, where it is known what was taken -/
theorem getM_filter (g : ByteArray) : ∀ {m : List P2}, (m.map (·.1)).Nodup → getM g (m.filter fun p => decide (p.2 ≠ 0)) = (getM g m).bind fun v => if v = 0 then none else some v
  | [], _ => rfl
  | p :: r, h => by
    rw [List.map_cons, List.nodup_cons] at h
    have ih := getM_filter g h.2
    by_cases e : g = p.1
    · have hr : getM g (r.filter fun p => decide (p.2 ≠ 0)) = none := getM_none (fun h2 => by
        obtain ⟨q, hq, e2⟩ := List.mem_map.1 h2
        exact h.1 (List.mem_map.2 ⟨q, (List.mem_filter.1 hq).1, by rw [e2, e]⟩))
      by_cases h0 : p.2 = 0
      · rw [List.filter_cons_of_neg (by simp [h0]), getM, if_pos e, hr]
        simp [h0]
      · rw [List.filter_cons_of_pos (by simp [h0]), getM, getM, if_pos e, if_pos e]
        simp [h0]
    · by_cases h0 : p.2 = 0
      · rw [List.filter_cons_of_neg (by simp [h0]), getM, if_neg e, ih]
      · rw [List.filter_cons_of_pos (by simp [h0]), getM, getM, if_neg e, if_neg e, ih]
theorem take_eq {a b c : List Lot} (h : ∀ g, posSum g a = posSum g b + posSum g c) : takeOk (cntM a) (cntM b) = true ∧ takeS (cntM a) (cntM b) = sortM (cntM c) := by
  refine ⟨(take_ok_iff a b).2 (fun g => by have := posSum_nonneg g c; have := h g; omega), ?_⟩
  have hS : ((subM (cntM b) (cntM a)).map (·.1)).Nodup := by rw [subM_keys]; exact (cntM_nodup a).1
  have hF : (((subM (cntM b) (cntM a)).filter fun p => decide (p.2 ≠ 0)).map (·.1)).Nodup := (List.filter_sublist.map _).nodup hS
  refine sortM_perm_eq hF (perm_getM hF (cntM_nodup c).1 (fun g => ?_))
  have h1 := posSum_nonneg g a
  have h2 := posSum_nonneg g b
  have h3 := posSum_nonneg g c
  have h4 := h g
  rw [getM_filter g hS, getM_sub, getM_cntM, getM_cntM, getM_cntM]
  have hd : ((if 0 < posSum g b then some (posSum g b) else none : Option Int).getD 0) = posSum g b := by
    split
    · rfl
    · rw [Option.getD_none]; omega
  rw [hd]
  by_cases ha : 0 < posSum g a
  · rw [if_pos ha, Option.map_some, Option.bind_some]
    by_cases hc : 0 < posSum g c
    · rw [if_pos hc, if_neg (by omega)]
      congr 1
      omega
    · rw [if_neg hc, if_pos (by omega)]
  · rw [if_neg ha, if_neg (by omega), Option.map_none, Option.bind_none]

/-! ### a cut's consignments are of the order -/
theorem colS_le {j : Nat} : ∀ {ps : List (List Int)}, (∀ p ∈ ps, ∀ n ∈ p, 0 ≤ n) → 0 ≤ colS j ps ∧ ∀ p ∈ ps, p.getD j 0 ≤ colS j ps
  | [], _ => ⟨by simp [colS], fun p hp => by cases hp⟩
  | q :: ps, h => by
    obtain ⟨h1, h2⟩ := colS_le (j := j) (ps := ps) (fun p hp => h p (by simp [hp]))
    have h0 : 0 ≤ q.getD j 0 := by
      rw [List.getD_eq_getElem?_getD]
      cases hq : q[j]? with
      | none => exact Int.le_refl _
      | some n => exact h q (by simp) n (List.mem_of_getElem? hq)
    rw [colS]
    refine ⟨by omega, fun p hp => ?_⟩
    rcases List.mem_cons.1 hp with rfl | hp
    · omega
    · have := h2 p hp
      omega
theorem lotsOf_mem {x : Lot} : ∀ {xs : List Line} {ns : List Int}, x ∈ lotsOf xs ns → ∃ (j : Nat) (y : Line) (n : Int), xs[j]? = some y ∧ ns[j]? = some n ∧ 0 < n ∧ x = ⟨y.good, n⟩
  | [], ns, h => by cases ns <;> cases h
  | _ :: _, [], h => by cases h
  | y :: xs, n :: ns, h => by
    rw [lotsOf] at h
    have hrec : x ∈ lotsOf xs ns → ∃ (j : Nat) (y' : Line) (n' : Int), (y :: xs)[j]? = some y' ∧ (n :: ns)[j]? = some n' ∧ 0 < n' ∧ x = ⟨y'.good, n'⟩ := fun h => by
      obtain ⟨j, y', n', h1, h2, h3, h4⟩ := lotsOf_mem h
      exact ⟨j + 1, y', n', h1, h2, h3, h4⟩
    split at h
    · rename_i hn
      rcases List.mem_cons.1 h with h | h
      · exact ⟨0, y, n, rfl, rfl, hn, h⟩
      · exact hrec h
    · exact hrec h
theorem cutAll_mem {o : Ord} {c : Cons} : ∀ {ds : List Int} {ps : List (List Int)} {i : Nat}, c ∈ cutAll o ds ps i → c.order = o.number ∧ ∃ p ∈ ps, c.lots = lotsOf o.lines p
  | [], _, _, h => by cases h
  | _ :: _, [], _, h => by cases h
  | d :: ds, p :: ps, i, h => by
    rw [cutAll] at h
    rcases List.mem_cons.1 h with rfl | h
    · exact ⟨rfl, p, by simp, rfl⟩
    · obtain ⟨h1, q, hq, h2⟩ := cutAll_mem h
      exact ⟨h1, q, by simp [hq], h2⟩
theorem whole_at {ps : List (List Int)} : ∀ {xs : List Line} {j : Nat}, wholeB ps xs j = true → ∀ (i : Nat) (x : Line), xs[i]? = some x → takeL (j + i) ps x.count = some 0
  | [], _, _, i, x, h => by simp at h
  | y :: r, j, hw, i, x, h => by
    rw [wholeB, Bool.and_eq_true] at hw
    cases i with
    | zero => cases h; exact of_decide_eq_true hw.1
    | succ i =>
      have := whole_at hw.2 i x h
      rwa [Nat.add_assoc, Nat.add_comm 1 i] at this
theorem lot_cut {o : Ord} {dates : List Int} {parts : List (List Int)} (h : cutCode o dates parts = 0) {c : Cons} (hc : c ∈ cutAll o dates parts 0) : c.order = o.number ∧ ∀ x ∈ c.lots, ∃ y ∈ o.lines, x.good = y.good ∧ 0 < x.count ∧ x.count ≤ y.count := by
  obtain ⟨e1, e2, _, _, e5⟩ := code_of h
  obtain ⟨_, _, _, _, e6⟩ := pMay_of e2
  obtain ⟨h1, p, hp, h2⟩ := cutAll_mem hc
  refine ⟨h1, fun x hx => ?_⟩
  rw [h2] at hx
  obtain ⟨j, y, n, g1, g2, g3, rfl⟩ := lotsOf_mem hx
  refine ⟨y, List.mem_of_getElem? g1, rfl, g3, ?_⟩
  have h3 := takeL_sum _ parts y.count (whole_at e5 j y g1)
  rw [Nat.zero_add] at h3
  have h4 := (colS_le (j := j) (ps := parts) (fun p hp n hn => (e6 p hp).2 n hn)).2 p hp
  rw [getD_at g2, h3] at h4
  exact h4
/-- Consignments that are of a cut have no error. -/
theorem chk_cut {o : Ord} {dates : List Int} {parts : List (List Int)} (h : cutCode o dates parts = 0) {l : List Cons} (hl : ∀ c ∈ l, c ∈ cutAll o dates parts 0) : chkCode o l = 0 := by
  obtain ⟨e1, _⟩ := code_of h
  obtain ⟨_, e8⟩ := may_lines e1
  have h1 : (!o.may || l.any fun c => !ofB o c) = false := by
    rw [e1, Bool.not_true, Bool.false_or, Bool.eq_false_iff]
    intro h2
    obtain ⟨c, hc, h2⟩ := List.any_eq_true.1 h2
    obtain ⟨h3, h4⟩ := lot_cut h (hl c hc)
    have : ofB o c = true := by
      unfold ofB
      rw [decide_eq_true h3, Bool.true_and, List.all_eq_true]
      intro x hx
      obtain ⟨y, hy, g1, g2, g3⟩ := h4 x hx
      have := e8 y hy
      unfold lotOk countB
      rw [g1, this.1, Bool.true_and, Bool.and_eq_true, decide_eq_true_eq, decide_eq_true_eq]
      omega
    rw [this] at h2
    cases h2
  have h2 : (l.any fun c => c.lots.any fun x => (lastL x.good o.lines).isNone) = false := by
    rw [Bool.eq_false_iff]
    intro h2
    obtain ⟨c, hc, h2⟩ := List.any_eq_true.1 h2
    obtain ⟨x, hx, h2⟩ := List.any_eq_true.1 h2
    obtain ⟨y, hy, g1, _⟩ := (lot_cut h (hl c hc)).2 x hx
    rw [Option.isNone_iff_eq_none, lastL_none] at h2
    exact h2 (List.mem_map.2 ⟨y, hy, g1.symm⟩)
  unfold chkCode
  rw [if_neg (by rw [h1]; simp), if_neg (by rw [h2]; simp)]
end Go.Proofs.Ytnfgkccocknloaa
