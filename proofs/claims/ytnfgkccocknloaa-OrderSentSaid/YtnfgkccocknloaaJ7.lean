import Derived.Test.YtnfgkccocknloaaJ6
import Derived.Test.YtnfgkccocknloaaF1
namespace Go.Proofs.Ytnfgkccocknloaa
open Go.SL

/-! ### a cut's pieces, summed -/
/-- of a good, in a part -/
def dot (g : ByteArray) : List Line → List Int → Int
  | x :: xs, n :: ns => (if x.good = g then n else 0) + dot g xs ns
  | _, _ => 0
theorem posSum_lotsOf (g : ByteArray) : ∀ (xs : List Line) (ns : List Int), (∀ n ∈ ns, 0 ≤ n) → posSum g (lotsOf xs ns) = dot g xs ns
  | [], ns, _ => by cases ns <;> rfl
  | _ :: _, [], _ => rfl
  | x :: xs, n :: ns, h => by
    have ih := posSum_lotsOf g xs ns (fun m hm => h m (by simp [hm]))
    have hn := h n (by simp)
    rw [lotsOf, dot]
    by_cases hp : 0 < n
    · rw [if_pos hp, posSum, ih]
      simp only
      by_cases e : x.good = g <;> simp [e, hp]
    · have : n = 0 := by omega
      subst this
      rw [if_neg hp, ih]
      simp
def dots (g : ByteArray) (xs : List Line) : List (List Int) → Int
  | [] => 0
  | p :: ps => dot g xs p + dots g xs ps
theorem posSum_cutAll (g : ByteArray) (o : Ord) : ∀ (ds : List Int) (ps : List (List Int)) (i : Nat), ps.length = ds.length → (∀ p ∈ ps, ∀ n ∈ p, 0 ≤ n) → posSum g (sentL (cutAll o ds ps i)) = dots g o.lines ps
  | [], [], _, _, _ => rfl
  | [], _ :: _, _, h, _ => by simp at h
  | _ :: _, [], _, h, _ => by simp at h
  | d :: ds, p :: ps, i, h, hp => by
    rw [cutAll, dots]
    show posSum g (lotsOf o.lines p ++ sentL (cutAll o ds ps (i + 1))) = _
    rw [posSum_append, posSum_lotsOf g _ _ (hp p (by simp)), posSum_cutAll g o ds ps (i + 1) (by simpa using h) (fun q hq => hp q (by simp [hq]))]
/-- of a line, in all parts -/
def colS (j : Nat) : List (List Int) → Int
  | [] => 0
  | p :: ps => p.getD j 0 + colS j ps
theorem takeL_sum (j : Nat) : ∀ (ps : List (List Int)) (n : Int), takeL j ps n = some 0 → colS j ps = n
  | [], n, h => by
    unfold takeL at h
    cases h
    rfl
  | p :: ps, n, h => by
    unfold takeL at h
    split at h
    · cases h
    · have := takeL_sum j ps _ h
      rw [colS]
      omega
def lineSum (g : ByteArray) (ps : List (List Int)) : List Line → Nat → Int
  | [], _ => 0
  | x :: r, j => (if x.good = g then colS j ps else 0) + lineSum g ps r (j + 1)
theorem lineSum_nil (g : ByteArray) : ∀ (xs : List Line) (j : Nat), lineSum g [] xs j = 0
  | [], _ => rfl
  | x :: r, j => by
    rw [lineSum, lineSum_nil g r (j + 1)]
    simp [colS]
theorem dot_drop (g : ByteArray) (p : List Int) : ∀ (xs : List Line) (j : Nat), xs.length + j = p.length → ∀ ps, dot g xs (p.drop j) + lineSum g ps xs j = lineSum g (p :: ps) xs j
  | [], j, h, ps => by
    have : p.drop j = [] := List.drop_eq_nil_of_le (by simp at h; omega)
    rw [this]; rfl
  | x :: r, j, h, ps => by
    have hj : j < p.length := by simp at h; omega
    rw [List.drop_eq_getElem_cons hj, dot, lineSum, lineSum, colS]
    have ih := dot_drop g p r (j + 1) (by simp at h ⊢; omega) ps
    have hg : p.getD j 0 = p[j] := by rw [List.getD_eq_getElem?_getD, List.getElem?_eq_getElem hj]; rfl
    rw [hg]
    split <;> omega
theorem dots_lineSum (g : ByteArray) (xs : List Line) : ∀ ps : List (List Int), (∀ p ∈ ps, p.length = xs.length) → dots g xs ps = lineSum g ps xs 0
  | [], _ => (lineSum_nil g xs 0).symm
  | p :: ps, h => by
    rw [dots, dots_lineSum g xs ps (fun q hq => h q (by simp [hq]))]
    have := dot_drop g p xs 0 (by rw [h p (by simp)]; omega) ps
    rw [List.drop_zero] at this
    exact this
theorem lineSum_whole (g : ByteArray) (ps : List (List Int)) : ∀ (xs : List Line) (j : Nat), (∀ x ∈ xs, 1 ≤ x.count) → wholeB ps xs j = true → lineSum g ps xs j = posSum g (ordL xs)
  | [], _, _, _ => rfl
  | x :: r, j, hx, h => by
    rw [wholeB, Bool.and_eq_true] at h
    have h1 := takeL_sum j ps x.count (of_decide_eq_true h.1)
    have ih := lineSum_whole g ps r (j + 1) (fun y hy => hx y (by simp [hy])) h.2
    have hc := hx x (by simp)
    rw [lineSum, ih, h1]
    show _ = posSum g (⟨x.good, x.count⟩ :: ordL r)
    rw [posSum]
    by_cases e : x.good = g
    · rw [if_pos e, if_pos ⟨e, by dsimp only; omega⟩]
    · rw [if_neg e, if_neg (fun h => e h.1)]
/-- WHAT IS CUT IS THE ORDER, good by good -/
theorem cut_sums {o : Ord} {dates : List Int} {parts : List (List Int)} (h : cutCode o dates parts = 0) (g : ByteArray) : posSum g (sentL (cutAll o dates parts 0)) = posSum g (ordL o.lines) := by
  obtain ⟨e1, e2, _, _, e5⟩ := code_of h
  obtain ⟨e3, _, _, _, e6⟩ := pMay_of e2
  obtain ⟨_, e8⟩ := may_lines e1
  rw [posSum_cutAll g o dates parts 0 e3 (fun p hp n hn => (e6 p hp).2 n hn), dots_lineSum g o.lines parts (fun p hp => (e6 p hp).1)]
  exact lineSum_whole g parts o.lines 0 (fun x hx => (e8 x hx).2.1) e5
end Go.Proofs.Ytnfgkccocknloaa
