import Derived.Test.YtjadbgmohmgaaaaJ5
import Derived.Test.YtjadbgmohmgaaaaF1
namespace Go.Proofs.Ytjadbgmohmgaaaa
open Go.SL

/-! ### goods.Join, and what counts and sorted counts are -/

def posSum (g : ByteArray) : List Lot → Int
  | [] => 0
  | x :: l => (if x.good = g ∧ 0 < x.count then x.count else 0) + posSum g l
theorem posSum_append (g : ByteArray) : ∀ a b : List Lot, posSum g (a ++ b) = posSum g a + posSum g b
  | [], b => by simp [posSum]
  | x :: a, b => by
    show _ + posSum g (a ++ b) = _ + posSum g a + posSum g b
    rw [posSum_append g a b]
    omega
theorem posSum_nonneg (g : ByteArray) : ∀ l : List Lot, 0 ≤ posSum g l
  | [] => by simp [posSum]
  | x :: l => by
    have := posSum_nonneg g l
    unfold posSum
    split <;> omega
/-- the counts, by their sums -/
theorem getM_cntM (g : ByteArray) (l : List Lot) : getM g (cntM l) = if 0 < posSum g l then some (posSum g l) else none := by
  refine list_snoc (p := fun l => getM g (cntM l) = if 0 < posSum g l then some (posSum g l) else none) rfl (fun l x ih => ?_) l
  have hn := posSum_nonneg g l
  rw [cntM_snoc, posSum_append]
  by_cases hp : 0 < x.count
  · rw [if_pos hp, getM_add]
    by_cases e : g = x.good
    · have h1 : posSum g [x] = x.count := by simp [posSum, e, hp]
      rw [if_pos e, ih, h1]
      have h3 : 0 < posSum g l + x.count := by omega
      by_cases h2 : 0 < posSum g l
      · simp [h2, h3]
      · have : posSum g l = 0 := by omega
        simp [this, hp]
    · have h1 : posSum g [x] = 0 := by simp [posSum, Ne.symm e]
      rw [if_neg e, ih, h1, Int.add_zero]
  · have h1 : posSum g [x] = 0 := by simp [posSum, hp]
    rw [if_neg hp, ih, h1, Int.add_zero]
/-- what is taken, where it is there -/
theorem take_ok_iff (a b : List Lot) : takeOk (cntM a) (cntM b) = true ↔ ∀ g, posSum g b ≤ posSum g a := by
  unfold takeOk
  rw [List.all_eq_true]
  have hd : ∀ g, (getM g (cntM a)).getD 0 = posSum g a := fun g => by
    have := posSum_nonneg g a
    rw [getM_cntM]
    split
    · rfl
    · rw [Option.getD_none]; omega
  constructor
  · intro h g
    have h0 := posSum_nonneg g a
    by_cases hb : 0 < posSum g b
    · have := of_decide_eq_true (h (g, posSum g b) ((getM_mem (cntM_nodup b).1).1 (by rw [getM_cntM, if_pos hb])))
      dsimp only at this
      rw [hd] at this
      exact this
    · omega
  · intro h p hp
    obtain ⟨g, v⟩ := p
    have h1 := (getM_mem (cntM_nodup b).1).2 hp
    rw [getM_cntM] at h1
    split at h1
    · cases h1
      refine decide_eq_true ?_
      dsimp only
      rw [hd]
      exact h g
    · cases h1
end Go.Proofs.Ytjadbgmohmgaaaa
namespace Go.Proofs.Ytjadbgmohmgaaaa
open Go.SL

/-! ### a cut's pieces, summed -/
/-- of a good, in a part -/
def dot (g : ByteArray) : List Line → List Int → Int
  | x :: xs, n :: ns => (if x.good = g then n else 0) + dot g xs ns
  | _, _ => 0
theorem posSum_lotsOf (g : ByteArray) : ∀ (xs : List Line) (ns : List Int), (∀ n ∈ ns, 0 ≤ n) → posSum g (lotsOf xs ns) = dot g xs ns
  | [], ns, _ => by cases ns <;> rfl
  | _ :: _, [], _ => rfl
  | x :: xs, n :: ns, h => by
    have ih := posSum_lotsOf g xs ns (fun m hm => h m (by simp [hm]))
    have hn := h n (by simp)
    rw [lotsOf, dot]
    by_cases hp : 0 < n
    · rw [if_pos hp, posSum, ih]
      simp only
      by_cases e : x.good = g <;> simp [e, hp]
    · have : n = 0 := by omega
      subst this
      rw [if_neg hp, ih]
      simp
def dots (g : ByteArray) (xs : List Line) : List (List Int) → Int
  | [] => 0
  | p :: ps => dot g xs p + dots g xs ps
theorem posSum_cutAll (g : ByteArray) (o : Ord) : ∀ (ds : List Int) (ps : List (List Int)) (i : Nat), ps.length = ds.length → (∀ p ∈ ps, ∀ n ∈ p, 0 ≤ n) → posSum g (sentL (cutAll o ds ps i)) = dots g o.lines ps
  | [], [], _, _, _ => rfl
  | [], _ :: _, _, h, _ => by simp at h
  | _ :: _, [], _, h, _ => by simp at h
  | d :: ds, p :: ps, i, h, hp => by
    rw [cutAll, dots]
    show posSum g (lotsOf o.lines p ++ sentL (cutAll o ds ps (i + 1))) = _
    rw [posSum_append, posSum_lotsOf g _ _ (hp p (by simp)), posSum_cutAll g o ds ps (i + 1) (by simpa using h) (fun q hq => hp q (by simp [hq]))]
/-- of a line, in all parts -/
def colS (j : Nat) : List (List Int) → Int
  | [] => 0
  | p :: ps => p.getD j 0 + colS j ps
theorem takeL_sum (j : Nat) : ∀ (ps : List (List Int)) (n : Int), takeL j ps n = some 0 → colS j ps = n
  | [], n, h => by
    unfold takeL at h
    cases h
    rfl
  | p :: ps, n, h => by
    unfold takeL at h
    split at h
    · cases h
    · have := takeL_sum j ps _ h
      rw [colS]
      omega
def lineSum (g : ByteArray) (ps : List (List Int)) : List Line → Nat → Int
  | [], _ => 0
  | x :: r, j => (if x.good = g then colS j ps else 0) + lineSum g ps r (j + 1)
theorem lineSum_nil (g : ByteArray) : ∀ (xs : List Line) (j : Nat), lineSum g [] xs j = 0
  | [], _ => rfl
  | x :: r, j => by
    rw [lineSum, lineSum_nil g r (j + 1)]
    simp [colS]
theorem dot_drop (g : ByteArray) (p : List Int) : ∀ (xs : List Line) (j : Nat), xs.length + j = p.length → ∀ ps, dot g xs (p.drop j) + lineSum g ps xs j = lineSum g (p :: ps) xs j
  | [], j, h, ps => by
    have : p.drop j = [] := List.drop_eq_nil_of_le (by simp at h; omega)
    rw [this]; rfl
  | x :: r, j, h, ps => by
    have hj : j < p.length := by simp at h; omega
    rw [List.drop_eq_getElem_cons hj, dot, lineSum, lineSum, colS]
    have ih := dot_drop g p r (j + 1) (by simp at h ⊢; omega) ps
    have hg : p.getD j 0 = p[j] := by rw [List.getD_eq_getElem?_getD, List.getElem?_eq_getElem hj]; rfl
    rw [hg]
    split <;> omega
theorem dots_lineSum (g : ByteArray) (xs : List Line) : ∀ ps : List (List Int), (∀ p ∈ ps, p.length = xs.length) → dots g xs ps = lineSum g ps xs 0
  | [], _ => (lineSum_nil g xs 0).symm
  | p :: ps, h => by
    rw [dots, dots_lineSum g xs ps (fun q hq => h q (by simp [hq]))]
    have := dot_drop g p xs 0 (by rw [h p (by simp)]; omega) ps
    rw [List.drop_zero] at this
    exact this
theorem lineSum_whole (g : ByteArray) (ps : List (List Int)) : ∀ (xs : List Line) (j : Nat), (∀ x ∈ xs, 1 ≤ x.count) → wholeB ps xs j = true → lineSum g ps xs j = posSum g (ordL xs)
  | [], _, _, _ => rfl
  | x :: r, j, hx, h => by
    rw [wholeB, Bool.and_eq_true] at h
    have h1 := takeL_sum j ps x.count (of_decide_eq_true h.1)
    have ih := lineSum_whole g ps r (j + 1) (fun y hy => hx y (by simp [hy])) h.2
    have hc := hx x (by simp)
    rw [lineSum, ih, h1]
    show _ = posSum g (⟨x.good, x.count⟩ :: ordL r)
    rw [posSum]
    by_cases e : x.good = g
    · rw [if_pos e, if_pos ⟨e, by dsimp only; omega⟩]
    · rw [if_neg e, if_neg (fun h => e h.1)]
/-- WHAT IS CUT IS THE ORDER, good by good -/
theorem cut_sums {o : Ord} {dates : List Int} {parts : List (List Int)} (h : cutCode o dates parts = 0) (g : ByteArray) : posSum g (sentL (cutAll o dates parts 0)) = posSum g (ordL o.lines) := by
  obtain ⟨e1, e2, _, _, e5⟩ := code_of h
  obtain ⟨e3, _, _, _, e6⟩ := pMay_of e2
  obtain ⟨_, e8⟩ := may_lines e1
  rw [posSum_cutAll g o dates parts 0 e3 (fun p hp n hn => (e6 p hp).2 n hn), dots_lineSum g o.lines parts (fun p hp => (e6 p hp).1)]
  exact lineSum_whole g parts o.lines 0 (fun x hx => (e8 x hx).2.1) e5
end Go.Proofs.Ytjadbgmohmgaaaa
namespace Go.Proofs.Ytjadbgmohmgaaaa
open Go.SL

/-! ### what is left, where it is known what was taken -/
/-! ### a cut's consignments are of the order -/
theorem colS_le {j : Nat} : ∀ {ps : List (List Int)}, (∀ p ∈ ps, ∀ n ∈ p, 0 ≤ n) → 0 ≤ colS j ps ∧ ∀ p ∈ ps, p.getD j 0 ≤ colS j ps
  | [], _ => ⟨by simp [colS], fun p hp => by cases hp⟩
  | q :: ps, h => by
    obtain ⟨h1, h2⟩ := colS_le (j := j) (ps := ps) (fun p hp => h p (by simp [hp]))
    have h0 : 0 ≤ q.getD j 0 := by
      rw [List.getD_eq_getElem?_getD]
      cases hq : q[j]? with
      | none => exact Int.le_refl _
      | some n => exact h q (by simp) n (List.mem_of_getElem? hq)
    rw [colS]
    refine ⟨by omega, fun p hp => ?_⟩
    rcases List.mem_cons.1 hp with rfl | hp
    · omega
    · have := h2 p hp
      omega
theorem lotsOf_mem {x : Lot} : ∀ {xs : List Line} {ns : List Int}, x ∈ lotsOf xs ns → ∃ (j : Nat) (y : Line) (n : Int), xs[j]? = some y ∧ ns[j]? = some n ∧ 0 < n ∧ x = ⟨y.good, n⟩
  | [], ns, h => by cases ns <;> cases h
  | _ :: _, [], h => by cases h
  | y :: xs, n :: ns, h => by
    rw [lotsOf] at h
    have hrec : x ∈ lotsOf xs ns → ∃ (j : Nat) (y' : Line) (n' : Int), (y :: xs)[j]? = some y' ∧ (n :: ns)[j]? = some n' ∧ 0 < n' ∧ x = ⟨y'.good, n'⟩ := fun h => by
      obtain ⟨j, y', n', h1, h2, h3, h4⟩ := lotsOf_mem h
      exact ⟨j + 1, y', n', h1, h2, h3, h4⟩
    split at h
    · rename_i hn
      rcases List.mem_cons.1 h with h | h
      · exact ⟨0, y, n, rfl, rfl, hn, h⟩
      · exact hrec h
    · exact hrec h
theorem cutAll_mem {o : Ord} {c : Cons} : ∀ {ds : List Int} {ps : List (List Int)} {i : Nat}, c ∈ cutAll o ds ps i → c.order = o.number ∧ ∃ p ∈ ps, c.lots = lotsOf o.lines p
  | [], _, _, h => by cases h
  | _ :: _, [], _, h => by cases h
  | d :: ds, p :: ps, i, h => by
    rw [cutAll] at h
    rcases List.mem_cons.1 h with rfl | h
    · exact ⟨rfl, p, by simp, rfl⟩
    · obtain ⟨h1, q, hq, h2⟩ := cutAll_mem h
      exact ⟨h1, q, by simp [hq], h2⟩
theorem whole_at {ps : List (List Int)} : ∀ {xs : List Line} {j : Nat}, wholeB ps xs j = true → ∀ (i : Nat) (x : Line), xs[i]? = some x → takeL (j + i) ps x.count = some 0
  | [], _, _, i, x, h => by simp at h
  | y :: r, j, hw, i, x, h => by
    rw [wholeB, Bool.and_eq_true] at hw
    cases i with
    | zero => cases h; exact of_decide_eq_true hw.1
    | succ i =>
      have := whole_at hw.2 i x h
      rwa [Nat.add_assoc, Nat.add_comm 1 i] at this
theorem lot_cut {o : Ord} {dates : List Int} {parts : List (List Int)} (h : cutCode o dates parts = 0) {c : Cons} (hc : c ∈ cutAll o dates parts 0) : c.order = o.number ∧ ∀ x ∈ c.lots, ∃ y ∈ o.lines, x.good = y.good ∧ 0 < x.count ∧ x.count ≤ y.count := by
  obtain ⟨e1, e2, _, _, e5⟩ := code_of h
  obtain ⟨_, _, _, _, e6⟩ := pMay_of e2
  obtain ⟨h1, p, hp, h2⟩ := cutAll_mem hc
  refine ⟨h1, fun x hx => ?_⟩
  rw [h2] at hx
  obtain ⟨j, y, n, g1, g2, g3, rfl⟩ := lotsOf_mem hx
  refine ⟨y, List.mem_of_getElem? g1, rfl, g3, ?_⟩
  have h3 := takeL_sum _ parts y.count (whole_at e5 j y g1)
  rw [Nat.zero_add] at h3
  have h4 := (colS_le (j := j) (ps := parts) (fun p hp n hn => (e6 p hp).2 n hn)).2 p hp
  rw [getD_at g2, h3] at h4
  exact h4
/-- Consignments that are of a cut have no error. -/
theorem chk_cut {o : Ord} {dates : List Int} {parts : List (List Int)} (h : cutCode o dates parts = 0) {l : List Cons} (hl : ∀ c ∈ l, c ∈ cutAll o dates parts 0) : chkCode o l = 0 := by
  obtain ⟨e1, _⟩ := code_of h
  obtain ⟨_, e8⟩ := may_lines e1
  have h1 : (!o.may || l.any fun c => !ofB o c) = false := by
    rw [e1, Bool.not_true, Bool.false_or, Bool.eq_false_iff]
    intro h2
    obtain ⟨c, hc, h2⟩ := List.any_eq_true.1 h2
    obtain ⟨h3, h4⟩ := lot_cut h (hl c hc)
    have : ofB o c = true := by
      unfold ofB
      rw [decide_eq_true h3, Bool.true_and, List.all_eq_true]
      intro x hx
      obtain ⟨y, hy, g1, g2, g3⟩ := h4 x hx
      have := e8 y hy
      unfold lotOk countB
      rw [g1, this.1, Bool.true_and, Bool.and_eq_true, decide_eq_true_eq, decide_eq_true_eq]
      omega
    rw [this] at h2
    cases h2
  have h2 : (l.any fun c => c.lots.any fun x => (lastL x.good o.lines).isNone) = false := by
    rw [Bool.eq_false_iff]
    intro h2
    obtain ⟨c, hc, h2⟩ := List.any_eq_true.1 h2
    obtain ⟨x, hx, h2⟩ := List.any_eq_true.1 h2
    obtain ⟨y, hy, g1, _⟩ := (lot_cut h (hl c hc)).2 x hx
    rw [Option.isNone_iff_eq_none, lastL_none] at h2
    exact h2 (List.mem_map.2 ⟨y, hy, g1.symm⟩)
  unfold chkCode
  rw [if_neg (by rw [h1]; simp), if_neg (by rw [h2]; simp)]
end Go.Proofs.Ytjadbgmohmgaaaa
namespace Go.Proofs.Ytjadbgmohmgaaaa
open Go.SL

/-! ### a cut's values -/
end Go.Proofs.Ytjadbgmohmgaaaa
