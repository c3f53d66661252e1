import Derived.Test.YtaejikoicbbeeaaWL
namespace Go.Proofs.Ytaejikoicbbeeaa
open Go.SL
/-! ### NettingLeast: plain -/
def onS (c : ByteArray) (P : List (SK × Int)) : List (SK × Int) := P.filter fun x => decide (x.1.2 = c)
def owd (P : List (SK × Int)) : Int := (P.map fun x => mx0 x.2).sum
theorem onS_row (l : List Db) (c : ByteArray) : (onS c (posN l)).map (fun x => (x.1.1, x.2)) = nz (rowC l c) := by
  obtain ⟨r1, r2⟩ := nz_row l c
  refine sorted_one (lt := fun a b : PA => lts a.1 b.1) (fun a => lts_irrefl a.1) (fun h k => lts_trans h k) (List.pairwise_map.2 ?_) r1 (fun x => ?_)
  · refine List.Pairwise.imp_of_mem ?_ (List.Pairwise.filter _ (posN_sorted l))
    intro a b ha hb h
    have h1 := of_decide_eq_true (List.mem_filter.1 ha).2
    have h2 := of_decide_eq_true (List.mem_filter.1 hb).2
    unfold ltN at h
    dsimp only at h1 h2 ⊢
    rw [h1, h2, lts_irrefl, Bool.and_false, Bool.or_false] at h
    exact h
  · rw [r2]
    constructor
    · intro h
      obtain ⟨y, hy, rfl⟩ := List.mem_map.1 h
      obtain ⟨h1, h2⟩ := List.mem_filter.1 hy
      have h3 := of_decide_eq_true h2
      obtain ⟨h4, h5⟩ := (posN_mem l y).1 h1
      dsimp only
      rw [← h3]
      exact ⟨h4, h5⟩
    · rintro ⟨h1, h2⟩
      exact List.mem_map.2 ⟨((x.1, c), x.2), List.mem_filter.2 ⟨(posN_mem l _).2 ⟨h1, h2⟩, decide_eq_true rfl⟩, rfl⟩
theorem sumP_pss : ∀ A : List PA, sumP (pss A) = (A.map fun x => mx0 x.2).sum
  | [] => rfl
  | a :: A => by
    rw [pss_cons, List.map_cons, List.sum_cons, ← sumP_pss A]
    unfold mx0
    split
    · rw [sumP_cons]
    · omega
theorem least_sum (l : List Db) (c : ByteArray) : sumC (netN l) c = owd (onS c (posN l)) := by
  rw [netN_sum, ← pss_nz, sumP_pss, ← onS_row, List.map_map]
  rfl
theorem least_len (l : List Db) (c : ByteArray) : (onC c (netN l)).length < max (onS c (posN l)).length 1 := by
  have h1 : (onS c (posN l)).length = (nz (rowC l c)).length := by rw [← onS_row, List.length_map]
  have h2 := set2_len (ngs (rowC l c)) (pss (rowC l c)) (ngs_pos _) (pss_pos _) (set_sums l c)
  have h3 := ngs_pss_len (nz (rowC l c))
  rw [ngs_nz, pss_nz] at h3
  rw [netN_onC, h1]
  unfold tagC setA
  rw [List.length_map]
  omega
theorem onS_snoc (c : ByteArray) {P : List (SK × Int)} {k : Nat} {x : SK × Int} (hx : P[k]? = some x) : onS c (P.take (k + 1)) = onS c (P.take k) ++ (if x.1.2 = c then [x] else []) := by
  unfold onS
  rw [take_at hx, List.filter_append, List.filter_cons, List.filter_nil]
  by_cases e : x.1.2 = c
  · rw [if_pos (decide_eq_true e), if_pos e]
  · rw [if_neg (by rw [decide_eq_false e]; decide), if_neg e]
theorem owd_snoc (P : List (SK × Int)) (x : SK × Int) : owd (P ++ [x]) = owd P + mx0 x.2 := by
  unfold owd
  rw [List.map_append, List.sum_append]
  simp
theorem owd_bd {P : List (SK × Int)} (h : ∀ x ∈ P, x.2 ≤ 1099511627776) : 0 ≤ owd P ∧ owd P ≤ 1099511627776 * (P.length : Int) := by
  induction P with
  | nil => exact ⟨Int.le_refl 0, Int.le_refl 0⟩
  | cons x P ih =>
    obtain ⟨h1, h2⟩ := ih (fun y hy => h y (List.mem_cons_of_mem _ hy))
    have h3 := h x List.mem_cons_self
    have e : owd (x :: P) = mx0 x.2 + owd P := by unfold owd; rw [List.map_cons, List.sum_cons]
    rw [e, List.length_cons, Int.natCast_add, Int.mul_add]
    unfold mx0
    split <;> omega
end Go.Proofs.Ytaejikoicbbeeaa
