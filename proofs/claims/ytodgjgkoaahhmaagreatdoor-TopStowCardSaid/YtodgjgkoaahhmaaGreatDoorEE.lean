import Derived.Test.YtodgjgkoaahhmaaGreatDoorEC
namespace Go.Proofs.YtodgjgkoaahhmaaGreatDoor
open Go.SL
/-! ### StowKeeps -/
structure Planned (S : Ship) (l : List Load) (D : List Load) (W : List ByteArray) : Prop where
  hS : shipOk S = true
  hv : Inv2 S D
  sort : DSort D
  safe : safeE S D = 0
  falls : Falls D
  all : (D.map (·.box) ++ W).Perm (l.map (·.box))
  nd : (l.map (·.box)).Nodup
  mem : ∀ y ∈ D, ∃ x ∈ l, ∃ s, y = atL x s
theorem planned {S : Ship} {l : List Load} (hE : planE S l = 0) : Planned S l (lsort (planL S (bN S) (rN S) l)) (sortS (planO S (bN S) (rN S) l)) := by
  have hm : mayAllB S l = true := by
    cases h : mayAllB S l with
    | true => rfl
    | false => unfold planE at hE; rw [h] at hE; cases hE
  have ht : twiceB l = false := by
    cases h : twiceB l with
    | false => rfl
    | true => unfold planE at hE; rw [hm, h] at hE; cases hE
  unfold mayAllB at hm
  rw [Bool.and_eq_true] at hm
  have hS := hm.1
  have hv := planL_inv (B := bN S) (R := rN S) hS l
  have hp := lsort_perm hv.nS
  refine ⟨hS, hv.perm hp.symm, (lsort_doc hv.nS).sort, ?_, falls_perm (plan_falls hS l) hp.symm, ?_, ?_, fun y hy => plan_mem (hp.mem_iff.1 hy)⟩
  · rw [safeE_perm hp]
    exact plan_safe hS l
  · exact ((hp.map _).append (sortS_perm _)).trans (plan_all l)
  · unfold twiceB at ht
    simpa using ht
theorem Planned.right {S : Ship} {l D : List Load} {W : List ByteArray} (h : Planned S l D W) : rightE S D = 0 := rightE_iff.2 ⟨⟨h.hS, h.hv⟩, h.safe⟩
theorem Planned.len {S : Ship} {l D : List Load} {W : List ByteArray} (h : Planned S l D W) : D.length + W.length = l.length := by
  have := h.all.length_eq
  rw [List.length_append, List.length_map, List.length_map] at this
  exact this
theorem Planned.one {S : Ship} {l D : List Load} {W : List ByteArray} (h : Planned S l D W) {x : Load} (hx : x ∈ l) : (∃ (j : Nat) (s : Sl), D[j]? = some (atL x s) ∧ fI (fun y => eqs y.box x.box) D 0 = (j : Nat) ∧ x.box ∉ W) ∨ (fI (fun y => eqs y.box x.box) D 0 = -1 ∧ x.box ∈ W) := by
  have hnd := h.all.nodup_iff.2 h.nd
  rw [List.nodup_append] at hnd
  have hm : x.box ∈ D.map (·.box) ++ W := h.all.mem_iff.2 (List.mem_map.2 ⟨x, hx, rfl⟩)
  rcases by_place h.hv.nB x.box with ⟨g1, g2⟩ | ⟨j, y, g0, g1, g2⟩
  · refine .inr ⟨g2, ?_⟩
    rcases List.mem_append.1 hm with q | q
    · obtain ⟨z, hz, e⟩ := List.mem_map.1 q
      exact absurd e (byB_none.1 g1 z hz)
    · exact q
  · obtain ⟨h1, h2⟩ := (byB_some h.hv.nB).1 g1
    obtain ⟨z, hz, s, rfl⟩ := h.mem y h1
    have : z = x := inj_of_nodup h.nd z hz x hx h2
    subst this
    exact .inl ⟨j, s, g0, g2, fun hw => hnd.2.2 _ (List.mem_map.2 ⟨_, h1, rfl⟩) _ hw rfl⟩
end Go.Proofs.YtodgjgkoaahhmaaGreatDoor
