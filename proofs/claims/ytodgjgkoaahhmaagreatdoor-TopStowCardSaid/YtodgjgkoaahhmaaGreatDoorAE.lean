import Derived.Test.YtodgjgkoaahhmaaGreatDoorA6
namespace Go.Proofs.YtodgjgkoaahhmaaGreatDoor
open Go.SL
/-! ### the document's rows of loads -/
/-- the place of the first that is so, from one on -/
def fI (p : Load → Bool) : List Load → Int → Int
  | [], _ => -1
  | x :: l, i => if p x = true then i else fI p l (i + 1)








end Go.Proofs.YtodgjgkoaahhmaaGreatDoor
namespace Go.Proofs.YtodgjgkoaahhmaaGreatDoor
open Go.SL
/-! ### the document's sums, clashes, rows alike -/
end Go.Proofs.YtodgjgkoaahhmaaGreatDoor
namespace Go.Proofs.YtodgjgkoaahhmaaGreatDoor
open Go.SL
/-! ### the document's Without, Put -/
end Go.Proofs.YtodgjgkoaahhmaaGreatDoor
namespace Go.Proofs.YtodgjgkoaahhmaaGreatDoor
open Go.SL
/-! ### the document's Above, Over -/






end Go.Proofs.YtodgjgkoaahhmaaGreatDoor
namespace Go.Proofs.YtodgjgkoaahhmaaGreatDoor
open Go.SL
/-! ### places: plain -/
theorem fI_none {p : Load → Bool} : ∀ {l : List Load} {i : Int}, (∀ x ∈ l, p x = false) → fI p l i = -1
  | [], _, _ => rfl
  | x :: l, i, h => by
    rw [fI, if_neg (by rw [h x List.mem_cons_self]; decide), fI_none (fun y hy => h y (List.mem_cons_of_mem _ hy))]
theorem fI_some {p : Load → Bool} : ∀ {l : List Load} {i : Int}, (∃ x ∈ l, p x = true) → ∃ (j : Nat) (x : Load), l[j]? = some x ∧ p x = true ∧ fI p l i = i + j
  | [], _, ⟨x, hx, _⟩ => by cases hx
  | y :: l, i, ⟨x, hx, hp⟩ => by
    by_cases h : p y = true
    · exact ⟨0, y, rfl, h, by rw [fI, if_pos h]; simp⟩
    · have hx' : x ∈ l := (List.mem_cons.1 hx).resolve_left (fun e => h (e ▸ hp))
      obtain ⟨j, z, h1, h2, h3⟩ := fI_some (i := i + 1) ⟨x, hx', hp⟩
      refine ⟨j + 1, z, by simpa using h1, h2, ?_⟩
      rw [fI, if_neg h, h3, Int.natCast_succ]
      omega
theorem by_place {M : List Load} (hn : (M.map (·.box)).Nodup) (s : ByteArray) : (byB M s = none ∧ fI (fun y => eqs y.box s) M 0 = -1) ∨ ∃ (j : Nat) (y : Load), M[j]? = some y ∧ byB M s = some y ∧ fI (fun y => eqs y.box s) M 0 = (j : Nat) := by
  cases hq : byB M s with
  | none =>
    refine .inl ⟨rfl, fI_none (fun x hx => ?_)⟩
    cases h : eqs x.box s with
    | false => rfl
    | true => exact absurd (eqs_t.1 h) (byB_none.1 hq x hx)
  | some y =>
    obtain ⟨h1, h2⟩ := (byB_some hn).1 hq
    obtain ⟨j, z, g1, g2, g3⟩ := fI_some (p := fun y => eqs y.box s) (i := 0) ⟨y, h1, eqs_t.2 h2⟩
    have := (byB_some hn).2 ⟨List.mem_of_getElem? g1, eqs_t.1 g2⟩
    rw [hq] at this
    injection this with this
    subst this
    exact .inr ⟨j, y, g1, rfl, by rw [g3]; simp⟩
end Go.Proofs.YtodgjgkoaahhmaaGreatDoor
namespace Go.Proofs.YtodgjgkoaahhmaaGreatDoor
open Go.SL
/-! ### the document's Wrong -/






end Go.Proofs.YtodgjgkoaahhmaaGreatDoor
