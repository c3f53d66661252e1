import Derived.Test.YtldfncafkdmoiaaFK
import Derived.Test.YtldfncafkdmoiaaFJ
namespace Go.Proofs.Ytldfncafkdmoiaa
open Go.SL
/-! ### Money: plain -/
def plcF (r : Int) : List Cl → Nat → List Nat
  | [], _ => []
  | x :: l, i => if x.rt = r then i :: plcF r l (i + 1) else plcF r l (i + 1)
def wtsF (r : Int) : List Cl → List Nat
  | [] => []
  | x :: l => if x.rt = r then x.am.toNat :: wtsF r l else wtsF r l
theorem plcF_snoc (r : Int) (x : Cl) : ∀ (l : List Cl) (i : Nat), plcF r (l ++ [x]) i = plcF r l i ++ (if x.rt = r then [i + l.length] else [])
  | [], i => by simp [plcF]
  | y :: l, i => by
    rw [List.cons_append, plcF, plcF, plcF_snoc r x l (i + 1), List.length_cons, show i + 1 + l.length = i + (l.length + 1) by omega]
    split <;> simp
theorem wtsF_snoc (r : Int) (x : Cl) : ∀ l : List Cl, wtsF r (l ++ [x]) = wtsF r l ++ (if x.rt = r then [x.am.toNat] else [])
  | [] => by simp [wtsF]
  | y :: l => by
    rw [List.cons_append, wtsF, wtsF, wtsF_snoc r x l]
    split <;> simp
theorem plc_wts (r : Int) : ∀ (l : List Cl) (i : Nat), (plcF r l i).length = (wtsF r l).length
  | [], _ => rfl
  | x :: l, i => by
    rw [plcF, wtsF]
    split
    · rw [List.length_cons, List.length_cons, plc_wts r l (i + 1)]
    · exact plc_wts r l (i + 1)
theorem wts_len (r : Int) : ∀ (l : List Cl), (wtsF r l).length ≤ l.length
  | [] => Nat.le_refl _
  | x :: l => by
    have := wts_len r l
    rw [wtsF]
    split
    · rw [List.length_cons, List.length_cons]; omega
    · rw [List.length_cons]; omega
theorem plc_lt (r : Int) : ∀ (l : List Cl) (i : Nat), ∀ j ∈ plcF r l i, j < i + l.length
  | [], i, j, h => by cases h
  | x :: l, i, j, h => by
    rw [plcF] at h
    rw [List.length_cons]
    split at h
    · rcases List.mem_cons.1 h with q | q
      · omega
      · have := plc_lt r l (i + 1) j q; omega
    · have := plc_lt r l (i + 1) j h; omega
theorem wts_mem (r : Int) : ∀ (l : List Cl), ∀ w ∈ wtsF r l, ∃ x ∈ l, x.am.toNat = w
  | [], w, h => by cases h
  | x :: l, w, h => by
    rw [wtsF] at h
    split at h
    · rcases List.mem_cons.1 h with q | q
      · exact ⟨x, List.mem_cons_self, q.symm⟩
      · obtain ⟨y, hy, e⟩ := wts_mem r l w q
        exact ⟨y, List.mem_cons_of_mem _ hy, e⟩
    · obtain ⟨y, hy, e⟩ := wts_mem r l w h
      exact ⟨y, List.mem_cons_of_mem _ hy, e⟩
theorem sum_set (l : List Nat) (i : Nat) (v : Nat) (h : i < l.length) : (l.set i v).sum + l[i] = l.sum + v := by
  induction l generalizing i with
  | nil => exact absurd h (Nat.not_lt_zero _)
  | cons x l ih =>
    cases i with
    | zero => simp only [List.set_cons_zero, List.sum_cons, List.getElem_cons_zero]; omega
    | succ i =>
      have := ih i (by simpa using h)
      simp only [List.set_cons_succ, List.sum_cons, List.getElem_cons_succ]
      omega
theorem bump_sum : ∀ (l ps : List Nat), (∀ j ∈ l, j < ps.length) → (bump ps l).sum = ps.sum + l.length
  | [], ps, _ => by simp [bump]
  | j :: l, ps, h => by
    have hj := h j List.mem_cons_self
    have ih := bump_sum l (ps.set j (ps.getD j 0 + 1)) (fun i hi => by rw [List.length_set]; exact h i (List.mem_cons_of_mem _ hi))
    have hs := sum_set ps j (ps.getD j 0 + 1) hj
    have hg : ps.getD j 0 = ps[j] := by rw [List.getD_eq_getElem?_getD, List.getElem?_eq_getElem hj, Option.getD_some]
    show (bump (ps.set j (ps.getD j 0 + 1)) l).sum = _
    rw [ih, List.length_cons]
    rw [hg] at hs ⊢
    omega
theorem splitN_len (t : Nat) (ws : List Nat) : (splitN t ws).length = ws.length := by
  unfold splitN
  split
  · simp
  · rw [bump_len]; unfold shQ; simp
theorem splitN_sum {t : Nat} {ws : List Nat} (h : 0 < ws.sum) : (splitN t ws).sum = t := by
  unfold splitN
  split
  · simp_all
  · have h1 := shQ_le (t := t) h rfl
    have h2 := left_le (t := t) h rfl
    have lr : (shR t ws.sum ws).length = ws.length := by unfold shR; simp
    have hp := isL_perm (lt := ltOf (cmpR (shR t ws.sum ws))) (List.range (shR t ws.sum ws).length)
    rw [bump_sum]
    · rw [List.length_take]
      unfold ordR
      rw [hp.length_eq, List.length_range, lr]
      omega
    · intro j hj
      have := List.mem_range.1 (hp.mem_iff.1 (List.mem_of_mem_take hj))
      unfold shQ
      rw [List.length_map]
      omega
def partsOf (t : Nat) (ws : List Nat) : List Nat := if t < ws.sum then splitN t ws else ws
theorem parts_len (t : Nat) (ws : List Nat) : (partsOf t ws).length = ws.length := by unfold partsOf; split; exact splitN_len t ws; rfl
theorem parts_sum (t : Nat) (ws : List Nat) : (partsOf t ws).sum ≤ t := by
  unfold partsOf
  split
  · rw [splitN_sum (by omega)]; exact Nat.le_refl _
  · omega
def putP (o : List Nat) (ps : List (Nat × Nat)) : List Nat := ps.foldl (fun o p => o.set p.1 p.2) o
theorem putP_len : ∀ (ps : List (Nat × Nat)) (o : List Nat), (putP o ps).length = o.length
  | [], _ => rfl
  | p :: ps, o => by
    show (putP (o.set p.1 p.2) ps).length = _
    rw [putP_len ps, List.length_set]
theorem putP_snoc (o : List Nat) (ps : List (Nat × Nat)) (p : Nat × Nat) : putP o (ps ++ [p]) = (putP o ps).set p.1 p.2 := by unfold putP; rw [List.foldl_append]; rfl
def monS (l : List Cl) (s : List Nat × Nat) (r : Nat) : List Nat × Nat :=
  (putP s.1 ((plcF ((r : Nat) : Int) l 0).zip (partsOf s.2 (wtsF ((r : Nat) : Int) l))), s.2 - (partsOf s.2 (wtsF ((r : Nat) : Int) l)).sum)
def monN (l : List Cl) (t : Nat) : Nat → List Nat × Nat
  | 0 => (List.replicate l.length 0, t)
  | r + 1 => monS l (monN l t r) r
theorem monN_len (l : List Cl) (t r : Nat) : (monN l t r).1.length = l.length := by
  induction r with
  | zero => simp [monN]
  | succ r ih => show (putP _ _).length = _; rw [putP_len, ih]
theorem monN_le (l : List Cl) (t r : Nat) : (monN l t r).2 ≤ t := by
  induction r with
  | zero => exact Nat.le_refl _
  | succ r ih => show (monN l t r).2 - _ ≤ t; omega
/-- the splits that Money asks for -/
def spl (l : List Cl) (t : Nat) : Prop := ∀ (u : Nat) (ws : List Nat), u ≤ t → ws ≠ [] → ws.length ≤ l.length → (∀ w ∈ ws, ∃ x ∈ l, x.am.toNat = w) → u < ws.sum →
  AC Try.prog 30 [.d (.sc (.int .i64 ((u : Nat) : Int))), .d (.sl 1 (ws.map nN))] [] [] (fun r _ => r = .tup [.d (.sl 1 ((splitN u ws).map nN)), .d (.sc (.int .i64 0))])
end Go.Proofs.Ytldfncafkdmoiaa
