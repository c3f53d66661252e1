import Derived.Test.YtnfgkccocknloaaGreatJ9
import Derived.Test.YtnfgkccocknloaaGreatI1
namespace Go.Proofs.YtnfgkccocknloaaGreat
open Go.SL

/-! ### the document's Join and Take are the program's -/
def insJ (g : ByteArray) (n : Int) : List P2 → List P2
  | [] => [(g, n)]
  | p :: r => if lts p.1 g = true then p :: insJ g n r else if p.1 = g then (p.1, p.2 + n) :: r else (g, n) :: p :: r
def refJ (l : List Lot) : List P2 := l.foldl (fun m x => if 0 < x.count then insJ x.good x.count m else m) []
theorem refJ_snoc (l : List Lot) (x : Lot) : refJ (l ++ [x]) = if 0 < x.count then insJ x.good x.count (refJ l) else refJ l := by simp [refJ]
def SortedS (m : List P2) : Prop := m.Pairwise fun p q => lts p.1 q.1 = true
theorem insJ_keys {g : ByteArray} {n : Int} {p : P2} : ∀ {m : List P2}, p ∈ insJ g n m → p.1 = g ∨ ∃ q ∈ m, q.1 = p.1
  | [], h => by rw [insJ, List.mem_singleton] at h; subst h; exact .inl rfl
  | q :: r, h => by
    rw [insJ] at h
    split at h
    · rcases List.mem_cons.1 h with rfl | h
      · exact .inr ⟨p, by simp, rfl⟩
      · rcases insJ_keys h with h | ⟨s, hs, e⟩
        · exact .inl h
        · exact .inr ⟨s, by simp [hs], e⟩
    · split at h
      · rename_i e
        rcases List.mem_cons.1 h with rfl | h
        · exact .inl e
        · exact .inr ⟨p, by simp [h], rfl⟩
      · rcases List.mem_cons.1 h with rfl | h
        · exact .inl rfl
        · exact .inr ⟨p, h, rfl⟩
theorem insJ_sorted {g : ByteArray} {n : Int} : ∀ {m : List P2}, SortedS m → SortedS (insJ g n m)
  | [], _ => List.pairwise_singleton _ _
  | p :: r, h => by
    obtain ⟨h1, h2⟩ := List.pairwise_cons.1 h
    rw [insJ]
    split
    · rename_i hl
      refine List.pairwise_cons.2 ⟨fun q hq => ?_, insJ_sorted h2⟩
      rcases insJ_keys hq with e | ⟨s, hs, e⟩
      · rw [e]; exact hl
      · rw [← e]; exact h1 s hs
    · split
      · exact List.pairwise_cons.2 ⟨h1, h2⟩
      · rename_i hl he
        have hg : lts g p.1 = true := by
          cases hq : lts g p.1 with
          | true => rfl
          | false => exact absurd (lts_tri (by simpa using hl) hq) he
        refine List.pairwise_cons.2 ⟨fun q hq => ?_, h⟩
        rcases List.mem_cons.1 hq with rfl | hq
        · exact hg
        · exact lts_trans hg (h1 q hq)
theorem getM_above {g : ByteArray} : ∀ {m : List P2}, (∀ q ∈ m, lts g q.1 = true) → getM g m = none
  | [], _ => rfl
  | p :: r, h => by
    rw [getM, if_neg (fun e => by have := h p (by simp); rw [← e, lts_irrefl] at this; cases this)]
    exact getM_above (fun q hq => h q (by simp [hq]))
theorem getM_insJ {g k : ByteArray} {n : Int} : ∀ {m : List P2}, SortedS m → getM g (insJ k n m) = if g = k then some ((getM g m).getD 0 + n) else getM g m
  | [], _ => by simp [insJ, getM]
  | p :: r, h => by
    obtain ⟨h1, h2⟩ := List.pairwise_cons.1 h
    rw [insJ]
    split
    · rename_i hl
      rw [getM, getM]
      by_cases e : g = p.1
      · have : g ≠ k := fun e2 => by rw [← e, e2, lts_irrefl] at hl; cases hl
        rw [if_pos e, if_pos e, if_neg this]
      · rw [if_neg e, if_neg e, getM_insJ h2]
    · split
      · rename_i e
        rw [getM, getM]
        by_cases e2 : g = p.1
        · rw [if_pos e2, if_pos e2, if_pos (e2.trans e)]; rfl
        · rw [if_neg e2, if_neg e2, if_neg (fun e3 => e2 (e3.trans e.symm))]
      · rename_i hl he
        rw [getM]
        by_cases e : g = k
        · rw [if_pos e, if_pos e]
          have hg : lts k p.1 = true := by
            cases hq : lts k p.1 with
            | true => rfl
            | false => exact absurd (lts_tri (by simpa using hl) hq) he
          have : getM g (p :: r) = none := getM_above (fun q hq => by
            rw [e]
            rcases List.mem_cons.1 hq with rfl | hq
            · exact hg
            · exact lts_trans hg (h1 q hq))
          rw [this, Option.getD_none, Int.zero_add]
        · rw [if_neg e, if_neg e]
theorem refJ_sorted (l : List Lot) : SortedS (refJ l) := by
  refine list_snoc (p := fun l => SortedS (refJ l)) List.Pairwise.nil (fun l x ih => ?_) l
  rw [refJ_snoc]
  split
  · exact insJ_sorted ih
  · exact ih
theorem getM_refJ (g : ByteArray) (l : List Lot) : getM g (refJ l) = getM g (cntM l) := by
  refine list_snoc (p := fun l => getM g (refJ l) = getM g (cntM l)) rfl (fun l x ih => ?_) l
  rw [refJ_snoc, cntM_snoc]
  split
  · rw [getM_insJ (refJ_sorted l), getM_add, ih]
  · exact ih
theorem SortedS.nodup {m : List P2} (h : SortedS m) : (m.map (·.1)).Nodup := by
  rw [List.nodup_iff_pairwise_ne, List.pairwise_map]
  exact h.imp (fun h e => by rw [e, lts_irrefl] at h; cases h)
theorem SortedS.weak {m : List P2} (h : SortedS m) : m.Pairwise fun p q => lts q.1 p.1 = false := h.imp (fun h => lts_asymm h)
theorem sorted_eq {a b : List P2} (ha : SortedS a) (hb : b.Pairwise fun p q => lts q.1 p.1 = false) (hp : a.Perm b) : a = b :=
  hp.eq_of_pairwise (le := fun p q => lts q.1 p.1 = false) (fun _ _ hp1 hq1 h3 h4 => fst_inj ha.nodup hp1 (hp.mem_iff.2 hq1) (lts_tri h4 h3)) ha.weak hb
theorem refJ_eq (l : List Lot) : refJ l = sortM (cntM l) :=
  sorted_eq (refJ_sorted l) (sortM_sorted _) ((perm_getM (refJ_sorted l).nodup (cntM_nodup l).1 (fun g => getM_refJ g l)).trans (sortM_perm _).symm)
/-- how many of a good, in joined lots -/
theorem has_joined (g : ByteArray) (l : List Lot) : posSum g ((sortM (cntM l)).map toLot) = posSum g l := by
  have hn : ((sortM (cntM l)).map (·.1)).Nodup := ((sortM_perm (cntM l)).map _).nodup_iff.2 (cntM_nodup l).1
  have key : ∀ m : List P2, (m.map (·.1)).Nodup → (∀ p ∈ m, 0 < p.2) → posSum g (m.map toLot) = (getM g m).getD 0 := by
    intro m
    induction m with
    | nil => intro _ _; rfl
    | cons p r ih =>
      intro h hp
      rw [List.map_cons, List.nodup_cons] at h
      have h0 := hp p (by simp)
      have ih := ih h.2 (fun q hq => hp q (by simp [hq]))
      rw [List.map_cons, posSum, getM, ih]
      show (if p.1 = g ∧ 0 < p.2 then p.2 else 0) + _ = _
      by_cases e : g = p.1
      · rw [if_pos ⟨e.symm, h0⟩, if_pos e, getM_none (e ▸ h.1)]
        simp
      · rw [if_neg (fun h => e h.1.symm), if_neg e]
        omega
  have hg : ∀ g, getM g (sortM (cntM l)) = getM g (cntM l) := fun g => by
    cases h : getM g (cntM l) with
    | none =>
      cases h2 : getM g (sortM (cntM l)) with
      | none => rfl
      | some v =>
        have := (getM_mem (cntM_nodup l).1).2 ((sortM_perm _).mem_iff.1 ((getM_mem hn).1 h2))
        rw [h] at this
        cases this
    | some v => exact (getM_mem hn).2 ((sortM_perm _).mem_iff.2 ((getM_mem (cntM_nodup l).1).1 h))
  rw [key _ hn (fun p hp => ?_), hg, getM_cntM]
  · have := posSum_nonneg g l
    split
    · rfl
    · rw [Option.getD_none]; omega
  · have h1 := (getM_mem (cntM_nodup l).1).2 ((sortM_perm _).mem_iff.1 hp : (p.1, p.2) ∈ cntM l)
    rw [getM_cntM] at h1
    split at h1
    · have := Option.some.inj h1; omega
    · cases h1
def refTakeOk (a b : List P2) : Bool := b.all fun p => decide (p.2 ≤ posSum p.1 (a.map toLot))
def refTake (a b : List P2) : List P2 := a.filterMap fun p => if p.2 - posSum p.1 (b.map toLot) ≠ 0 then some (p.1, p.2 - posSum p.1 (b.map toLot)) else none
theorem refTakeOk_eq (l m : List Lot) : refTakeOk (sortM (cntM l)) (sortM (cntM m)) = takeOk (cntM l) (cntM m) := by
  rw [Bool.eq_iff_iff, take_ok_iff]
  unfold refTakeOk
  rw [List.all_eq_true]
  constructor
  · intro h g
    have h0 := posSum_nonneg g l
    by_cases hp : 0 < posSum g m
    · have h1 : (g, posSum g m) ∈ sortM (cntM m) := (sortM_perm _).mem_iff.2 ((getM_mem (cntM_nodup m).1).1 (by rw [getM_cntM, if_pos hp]))
      have := of_decide_eq_true (h _ h1)
      rw [has_joined] at this
      exact this
    · omega
  · intro h p hp
    have h1 := (getM_mem (cntM_nodup m).1).2 ((sortM_perm _).mem_iff.1 hp : (p.1, p.2) ∈ cntM m)
    rw [getM_cntM] at h1
    refine decide_eq_true ?_
    rw [has_joined]
    split at h1
    · have e := Option.some.inj h1; have := h p.1; omega
    · cases h1
theorem refTake_eq (l m : List Lot) : refTake (sortM (cntM l)) (sortM (cntM m)) = takeS (cntM l) (cntM m) := by
  have hd : ∀ g, (getM g (cntM m)).getD 0 = posSum g m := fun g => by
    have := posSum_nonneg g m
    rw [getM_cntM]
    split
    · rfl
    · rw [Option.getD_none]; omega
  have hk : ∀ a : List P2, refTake a (sortM (cntM m)) = ((subM (cntM m) a).filter fun p => decide (p.2 ≠ 0)) := by
    intro a
    unfold refTake subM
    induction a with
    | nil => rfl
    | cons p r ih =>
      rw [List.filterMap_cons, List.map_cons, List.filter_cons, ih, has_joined, hd]
      by_cases h0 : p.2 - posSum p.1 m = 0
      · rw [if_neg (by simp [h0])]; simp [h0]
      · rw [if_pos h0]; simp [h0]
  rw [hk]
  have hn : ((cntM l).map (·.1)).Nodup := (cntM_nodup l).1
  have hs : SortedS (sortM (cntM l)) := by rw [← refJ_eq]; exact refJ_sorted l
  have hss : SortedS ((subM (cntM m) (sortM (cntM l))).filter fun p => decide (p.2 ≠ 0)) := by
    refine List.Pairwise.filter _ ?_
    unfold subM
    rw [List.pairwise_map]
    exact hs
  refine sorted_eq hss (sortM_sorted _) ?_
  refine List.Perm.trans ?_ (sortM_perm _).symm
  unfold subM
  exact ((sortM_perm (cntM l)).map _).filter _
end Go.Proofs.YtnfgkccocknloaaGreat
