import Derived.Test.YtofdnkgieigncaaGreatNA
namespace Go.Proofs.YtofdnkgieigncaaGreat
open Go.SL
/-! ### rings: plain (over any kind of party) -/
section
variable {α : Type} [DecidableEq α] (z : α)
def fstR (r : List α) : α := r.headD z
def lstR (r : List α) : α := r.getLastD z
/-- the first ring from a row on; S: who may come, in their order; lt: who stands behind whom -/
def alongR (T : α → α → Int) (S : List α) (lt : α → α → Bool) : Nat → List α → Option (List α)
  | 0, _ => none
  | f + 1, r => if 1 < r.length ∧ 0 < T (lstR z r) (fstR z r) then some r else (S.filter fun x => lt (fstR z r) x && (decide (0 < T (lstR z r) x) && !(decide (x ∈ r)))).findSome? fun x => alongR T S lt f (r ++ [x])
/-- in a list without repetition of members of S there are at most as many -/
theorem nodup_le {r S : List α} (hr : r.Nodup) (h : ∀ x ∈ r, x ∈ S) : r.length ≤ S.length := by
  induction r generalizing S with
  | nil => simp
  | cons a r ih =>
    rw [List.nodup_cons] at hr
    have ha := h a List.mem_cons_self
    have := ih (S := S.erase a) hr.2 (fun x hx => (List.mem_erase_of_ne (fun e : x = a => hr.1 (e ▸ hx))).2 (h x (List.mem_cons_of_mem _ hx)))
    rw [List.length_erase_of_mem ha] at this
    have := List.length_pos_of_mem ha
    rw [List.length_cons]
    omega
omit [DecidableEq α] in
theorem snoc_nodup {r : List α} {x : α} (hr : r.Nodup) (hx : x ∉ r) : (r ++ [x]).Nodup := by
  rw [List.nodup_append]
  exact ⟨hr, by simp, fun a ha b hb e => hx (by rw [List.mem_singleton.1 hb] at e; exact e ▸ ha)⟩
theorem cand_mem {T : α → α → Int} {S : List α} {lt : α → α → Bool} {r : List α} {x : α} (h : x ∈ S.filter fun x => lt (fstR z r) x && (decide (0 < T (lstR z r) x) && !(decide (x ∈ r)))) : x ∈ S ∧ lt (fstR z r) x = true ∧ 0 < T (lstR z r) x ∧ x ∉ r := by
  rw [List.mem_filter, Bool.and_eq_true, Bool.and_eq_true, decide_eq_true_eq, Bool.not_eq_true', decide_eq_false_iff_not] at h
  exact ⟨h.1, h.2.1, h.2.2.1, h.2.2.2⟩
theorem findSome_congr {α β : Type} {l : List α} {f g : α → Option β} (h : ∀ x ∈ l, f x = g x) : l.findSome? f = l.findSome? g := by
  induction l with
  | nil => rfl
  | cons a l ih =>
    rw [List.findSome?_cons, List.findSome?_cons, h a List.mem_cons_self, ih (fun x hx => h x (List.mem_cons_of_mem _ hx))]
/-- more time finds no other ring -/
theorem alongR_fuel (T : α → α → Int) (S : List α) (lt : α → α → Bool) : ∀ (f g : Nat) (r : List α), r.Nodup → (∀ x ∈ r, x ∈ S) → S.length < f + r.length → S.length < g + r.length → alongR z T S lt f r = alongR z T S lt g r
  | 0, g, r, hr, hS, h, _ => absurd (nodup_le hr hS) (by omega)
  | f + 1, 0, r, hr, hS, _, h => absurd (nodup_le hr hS) (by omega)
  | f + 1, g + 1, r, hr, hS, h1, h2 => by
    unfold alongR
    split
    · rfl
    · refine findSome_congr (fun x hx => ?_)
      obtain ⟨a, _, _, b⟩ := cand_mem z hx
      refine alongR_fuel T S lt f g (r ++ [x]) (snoc_nodup hr b) (fun y hy => ?_) (by rw [List.length_append]; simp only [List.length_cons, List.length_nil]; omega) (by rw [List.length_append]; simp only [List.length_cons, List.length_nil]; omega)
      rcases List.mem_append.1 hy with q | q
      · exact hS y q
      · rw [List.mem_singleton.1 q]; exact a
/-- who has no debts plays no part -/
theorem alongR_sub (T : α → α → Int) (S S' : List α) (lt : α → α → Bool) (hc : ∀ a, S.filter (fun x => decide (0 < T a x)) = S'.filter fun x => decide (0 < T a x)) : ∀ (f : Nat) (r : List α), alongR z T S lt f r = alongR z T S' lt f r
  | 0, _ => rfl
  | f + 1, r => by
    have e : ∀ S : List α, (S.filter fun x => lt (fstR z r) x && (decide (0 < T (lstR z r) x) && !(decide (x ∈ r)))) = (S.filter fun x => decide (0 < T (lstR z r) x)).filter fun x => lt (fstR z r) x && !(decide (x ∈ r)) := fun S => by
      rw [List.filter_filter]
      refine List.filter_congr (fun x _ => ?_)
      generalize lt (fstR z r) x = a
      generalize decide (0 < T (lstR z r) x) = b
      generalize (!(decide (x ∈ r))) = c
      cases a <;> cases b <;> cases c <;> rfl
    unfold alongR
    rw [e S, e S', hc, findSome_congr (fun x _ => alongR_sub T S S' lt hc f (r ++ [x]))]
/-- the members of a row, each with the next one -/
def edg : List α → List (α × α)
  | [] => []
  | [_] => []
  | a :: b :: r => (a, b) :: edg (b :: r)
omit [DecidableEq α] in
theorem edg_snoc : ∀ (r : List α) (x : α), r ≠ [] → edg (r ++ [x]) = edg r ++ [(lstR z r, x)]
  | [], _, h => absurd rfl h
  | [a], x, _ => rfl
  | a :: b :: r, x, _ => by
    have := edg_snoc (b :: r) x (by simp)
    rw [List.cons_append, List.cons_append]
    show (a, b) :: edg (b :: (r ++ [x])) = _
    rw [List.cons_append] at this
    rw [this]
    rfl
/-- a ring's edges: each with the next, the last with the first -/
def rng (r : List α) : List (α × α) := edg r ++ [(lstR z r, fstR z r)]
/-- what a ring is -/
structure IsR (T : α → α → Int) (S : List α) (r : List α) : Prop where
  nd : r.Nodup
  sub : ∀ x ∈ r, x ∈ S
  two : 1 < r.length
  pos : ∀ e ∈ rng z r, 0 < T e.1 e.2
theorem alongR_is (T : α → α → Int) (S : List α) (lt : α → α → Bool) : ∀ (f : Nat) (r r' : List α), r.Nodup → (∀ x ∈ r, x ∈ S) → r ≠ [] → (∀ e ∈ edg r, 0 < T e.1 e.2) → alongR z T S lt f r = some r' → IsR z T S r'
  | 0, _, _, _, _, _, _, h => by cases h
  | f + 1, r, r', hr, hS, h0, he, h => by
    unfold alongR at h
    split at h
    · rename_i h1
      cases h
      refine ⟨hr, hS, h1.1, fun e hm => ?_⟩
      rcases List.mem_append.1 hm with q | q
      · exact he e q
      · rw [List.mem_singleton.1 q]; exact h1.2
    · obtain ⟨x, hx, hx2⟩ := List.exists_of_findSome?_eq_some h
      obtain ⟨a, _, b, c⟩ := cand_mem z hx
      refine alongR_is T S lt f (r ++ [x]) r' (snoc_nodup hr c) (fun y hy => ?_) (by simp) (fun e hm => ?_) hx2
      · rcases List.mem_append.1 hy with q | q
        · exact hS y q
        · rw [List.mem_singleton.1 q]; exact a
      · rw [edg_snoc z r x h0] at hm
        rcases List.mem_append.1 hm with q | q
        · exact he e q
        · rw [List.mem_singleton.1 q]; exact b
/-- the first ring of all -/
def ringR (T : α → α → Int) (S : List α) (lt : α → α → Bool) : Option (List α) := S.findSome? fun a => alongR z T S lt S.length [a]
theorem ringR_is {T : α → α → Int} {S : List α} {lt : α → α → Bool} {r : List α} (h : ringR z T S lt = some r) : IsR z T S r := by
  obtain ⟨a, ha, h2⟩ := List.exists_of_findSome?_eq_some h
  exact alongR_is z T S lt _ [a] r (by simp) (fun x hx => by rw [List.mem_singleton.1 hx]; exact ha) (by simp) (fun e he => by cases he) h2
/-- who owes nothing begins no ring -/
theorem alongR_dead (T : α → α → Int) (S : List α) (lt : α → α → Bool) (a : α) (f : Nat) (h : ∀ x ∈ S, ¬ 0 < T a x) : alongR z T S lt f [a] = none := by
  cases f with
  | zero => rfl
  | succ f =>
    unfold alongR
    rw [if_neg (by simp)]
    have : (S.filter fun x => lt (fstR z [a]) x && (decide (0 < T (lstR z [a]) x) && !(decide (x ∈ [a])))) = [] := by
      rw [List.filter_eq_nil_iff]
      intro x hx
      have h1 : lstR z [a] = a := rfl
      rw [h1, decide_eq_false (h x hx)]
      simp
    rw [this]
    rfl
theorem findSome_filter {β γ : Type} {l : List β} {p : β → Bool} {f : β → Option γ} (h : ∀ x ∈ l, p x = false → f x = none) : l.findSome? f = (l.filter p).findSome? f := by
  induction l with
  | nil => rfl
  | cons a l ih =>
    rw [List.findSome?_cons, List.filter_cons]
    have ih' := ih (fun x hx => h x (List.mem_cons_of_mem _ hx))
    cases hp : p a with
    | true => rw [if_pos rfl, List.findSome?_cons, ih']
    | false => rw [if_neg (by simp), h a List.mem_cons_self hp]; exact ih'
/-- a part of those that may come, within which all debts are, finds the same ring -/
theorem ringR_sub {T : α → α → Int} {S S' : List α} {lt : α → α → Bool} (_hn : S.Nodup) (_hn' : S'.Nodup) (hc : ∀ q : α → Bool, (∀ x, q x = true → (∃ y, 0 < T x y) ∨ ∃ y, 0 < T y x) → S.filter q = S'.filter q) (hsub : ∀ a x, 0 < T a x → a ∈ S ∧ x ∈ S) : ringR z T S lt = ringR z T S' lt := by
  have hcc : ∀ a, S.filter (fun x => decide (0 < T a x)) = S'.filter fun x => decide (0 < T a x) := fun a => hc _ (fun x hx => .inr ⟨a, of_decide_eq_true hx⟩)
  have hin : ∀ a x, 0 < T a x → a ∈ S' ∧ x ∈ S' := fun a x h => by
    have h1 := hsub a x h
    have e1 := hc (fun y => decide (y = a)) (fun y hy => .inl ⟨x, by rw [of_decide_eq_true hy]; exact h⟩)
    have e2 := hc (fun y => decide (y = x)) (fun y hy => .inr ⟨a, by rw [of_decide_eq_true hy]; exact h⟩)
    have m1 : a ∈ S.filter (fun y => decide (y = a)) := List.mem_filter.2 ⟨h1.1, by simp⟩
    have m2 : x ∈ S.filter (fun y => decide (y = x)) := List.mem_filter.2 ⟨h1.2, by simp⟩
    rw [e1] at m1
    rw [e2] at m2
    exact ⟨(List.mem_filter.1 m1).1, (List.mem_filter.1 m2).1⟩
  unfold ringR
  -- a party that owes something
  let q : α → Bool := fun a => S.any fun x => decide (0 < T a x)
  have hqf : ∀ a, q a = false → ∀ x, ¬ 0 < T a x := fun a hq x hx => by
    have : q a = true := List.any_eq_true.2 ⟨x, (hsub a x hx).2, by rw [decide_eq_true_eq]; exact hx⟩
    rw [hq] at this; cases this
  have hqt : ∀ a, q a = true → ∃ y, 0 < T a y := fun a hq => by
    obtain ⟨y, _, hy⟩ := List.any_eq_true.1 hq
    exact ⟨y, of_decide_eq_true hy⟩
  rw [findSome_filter (p := q) (fun a _ hq => alongR_dead z T S lt a _ (fun x _ => hqf a hq x)), findSome_filter (l := S') (p := q) (fun a _ hq => alongR_dead z T S' lt a _ (fun x _ => hqf a hq x)), hc q (fun x hx => .inl (hqt x hx))]
  refine findSome_congr (fun a ha => ?_)
  obtain ⟨ha', hqa⟩ := List.mem_filter.1 ha
  obtain ⟨y, hy⟩ := hqt a hqa
  have haS := (hsub a y hy).1
  rw [alongR_sub z T S S' lt hcc]
  -- the time: S.length and S'.length, both enough
  have key : ∀ f g : Nat, S'.length ≤ f → S'.length ≤ g → alongR z T S' lt f [a] = alongR z T S' lt g [a] := fun f g h1 h2 =>
    alongR_fuel z T S' lt f g [a] (by simp) (fun x hx => by rw [List.mem_singleton.1 hx]; exact ha') (by simp; omega) (by simp; omega)
  have key2 : ∀ f g : Nat, S.length ≤ f → S.length ≤ g → alongR z T S' lt f [a] = alongR z T S' lt g [a] := fun f g h1 h2 => by
    rw [← alongR_sub z T S S' lt hcc, ← alongR_sub z T S S' lt hcc]
    exact alongR_fuel z T S lt f g [a] (by simp) (fun x hx => by rw [List.mem_singleton.1 hx]; exact haS) (by simp; omega) (by simp; omega)
  by_cases hle : S.length ≤ S'.length
  · exact key2 _ _ (Nat.le_refl _) hle
  · exact key _ _ (by omega) (Nat.le_refl _)
end
end Go.Proofs.YtofdnkgieigncaaGreat
namespace Go.Proofs.YtofdnkgieigncaaGreat
open Go.SL
/-! ### rings are cleared: plain -/
section
variable {α : Type} [DecidableEq α] (z : α)
def miI (a b : Int) : Int := if b < a then b else a
def subR (T : α → α → Int) (E : List (α × α)) (n : Int) : α → α → Int := fun i j => if (i, j) ∈ E then T i j - n else T i j
def minE (T : α → α → Int) (m : Int) (E : List (α × α)) : Int := E.foldl (fun m e => miI m (T e.1 e.2)) m
def leastR (T : α → α → Int) (r : List α) : Int := minE T 1099511627776 (rng z r)
omit [DecidableEq α] in
theorem minE_cons (T : α → α → Int) (m : Int) (e : α × α) (E : List (α × α)) : minE T m (e :: E) = minE T (miI m (T e.1 e.2)) E := rfl
omit [DecidableEq α] in
theorem minE_le (T : α → α → Int) : ∀ (E : List (α × α)) (m : Int), minE T m E ≤ m ∧ ∀ e ∈ E, minE T m E ≤ T e.1 e.2
  | [], m => ⟨Int.le_refl _, fun e he => by cases he⟩
  | e :: E, m => by
    rw [minE_cons]
    obtain ⟨h1, h2⟩ := minE_le T E (miI m (T e.1 e.2))
    have h3 : miI m (T e.1 e.2) ≤ m ∧ miI m (T e.1 e.2) ≤ T e.1 e.2 := by unfold miI; split <;> omega
    refine ⟨by omega, fun x hx => ?_⟩
    rcases List.mem_cons.1 hx with q | q
    · rw [q]; omega
    · exact h2 x q
omit [DecidableEq α] in
theorem minE_at (T : α → α → Int) : ∀ (E : List (α × α)) (m : Int), minE T m E = m ∨ ∃ e ∈ E, minE T m E = T e.1 e.2
  | [], m => .inl rfl
  | e :: E, m => by
    rw [minE_cons]
    rcases minE_at T E (miI m (T e.1 e.2)) with h | ⟨x, hx, h⟩
    · rw [h]
      unfold miI
      split
      · exact .inr ⟨e, List.mem_cons_self, rfl⟩
      · exact .inl rfl
    · exact .inr ⟨x, List.mem_cons_of_mem _ hx, h⟩
omit [DecidableEq α] in
theorem rng_map_fst : ∀ (r : List α), r ≠ [] → (rng z r).map (·.1) = r
  | [], h => absurd rfl h
  | [a], _ => rfl
  | a :: b :: r, _ => by
    have := rng_map_fst (b :: r) (by simp)
    unfold rng at *
    rw [List.map_append] at *
    show a :: ((edg (b :: r)).map (·.1) ++ [lstR z (b :: r)]) = _
    congr 1
omit [DecidableEq α] in
theorem rng_nodup {r : List α} (h : r.Nodup) (h0 : r ≠ []) : (rng z r).Nodup := by
  have h1 : ((rng z r).map (·.1)).Nodup := by rw [rng_map_fst z r h0]; exact h
  exact (List.pairwise_map.1 h1).imp (fun h e => h (congrArg _ e))
omit [DecidableEq α] in
theorem rng_len (r : List α) (h0 : r ≠ []) : (rng z r).length = r.length := by
  have := congrArg List.length (rng_map_fst z r h0)
  rwa [List.length_map] at this
omit [DecidableEq α] in
theorem edg_in : ∀ (r : List α), ∀ e ∈ edg r, e.1 ∈ r ∧ e.2 ∈ r
  | [], e, h => by cases h
  | [_], e, h => by cases h
  | a :: b :: r, e, h => by
    rcases List.mem_cons.1 h with q | q
    · rw [q]; exact ⟨List.mem_cons_self, List.mem_cons_of_mem _ List.mem_cons_self⟩
    · obtain ⟨h1, h2⟩ := edg_in (b :: r) e q
      exact ⟨List.mem_cons_of_mem _ h1, List.mem_cons_of_mem _ h2⟩
omit [DecidableEq α] in
theorem lstR_in {r : List α} (h : r ≠ []) : lstR z r ∈ r := by
  unfold lstR
  cases r with
  | nil => exact absurd rfl h
  | cons a r => rw [List.getLastD_cons]; exact List.getLastD_mem_cons
omit [DecidableEq α] in
theorem fstR_in {r : List α} (h : r ≠ []) : fstR z r ∈ r := by
  cases r with
  | nil => exact absurd rfl h
  | cons a r => exact List.mem_cons_self
omit [DecidableEq α] in
theorem rng_in {r : List α} (h0 : r ≠ []) : ∀ e ∈ rng z r, e.1 ∈ r ∧ e.2 ∈ r := fun e h => by
  rcases List.mem_append.1 h with q | q
  · exact edg_in r e q
  · rw [List.mem_singleton.1 q]; exact ⟨lstR_in z h0, fstR_in z h0⟩
/-- a table: all its debts are between those of S, none above the greatest amount -/
structure Tab8 (T : α → α → Int) (S : List α) : Prop where
  nn : ∀ i j, 0 ≤ T i j
  top : ∀ i j, T i j ≤ 1099511627776
  inS : ∀ i j, 0 < T i j → i ∈ S ∧ j ∈ S
variable {z}
omit [DecidableEq α] in
theorem IsR.ne {T : α → α → Int} {S r : List α} (h : IsR z T S r) : r ≠ [] := by
  have := h.two
  intro e; rw [e] at this; simp at this
omit [DecidableEq α] in
theorem IsR.least {T : α → α → Int} {S r : List α} (hT : Tab8 T S) (h : IsR z T S r) : 1 ≤ leastR z T r ∧ (∀ e ∈ rng z r, leastR z T r ≤ T e.1 e.2) ∧ ∃ e ∈ rng z r, leastR z T r = T e.1 e.2 := by
  have h1 := minE_le T (rng z r) 1099511627776
  have hne : rng z r ≠ [] := by unfold rng; simp
  obtain ⟨e0, he0⟩ := List.exists_mem_of_ne_nil _ hne
  have h2 : ∃ e ∈ rng z r, leastR z T r = T e.1 e.2 := by
    rcases minE_at T (rng z r) 1099511627776 with q | q
    · refine ⟨e0, he0, ?_⟩
      have a1 := hT.top e0.1 e0.2
      have a2 := h1.2 e0 he0
      unfold leastR
      omega
    · exact q
  obtain ⟨e, he, q⟩ := h2
  have := h.pos e he
  exact ⟨by omega, h1.2, e, he, q⟩
theorem subR_le {T : α → α → Int} {E : List (α × α)} {n : Int} (h : 0 ≤ n) (i j : α) : subR T E n i j ≤ T i j := by unfold subR; split <;> omega
theorem Tab8.sub {T : α → α → Int} {S r : List α} (hT : Tab8 T S) (h : IsR z T S r) : Tab8 (subR T (rng z r) (leastR z T r)) S := by
  obtain ⟨h1, h2, _⟩ := h.least hT
  have hle := fun i j => subR_le (T := T) (E := rng z r) (n := leastR z T r) (by omega) i j
  refine ⟨fun i j => ?_, fun i j => Int.le_trans (hle i j) (hT.top i j), fun i j hp => hT.inS i j (Int.lt_of_lt_of_le hp (hle i j))⟩
  unfold subR
  split
  · rename_i hm
    have := h2 (i, j) hm
    dsimp only at this
    omega
  · exact hT.nn i j
def prs (S : List α) : List (α × α) := S.flatMap fun i => S.map fun j => (i, j)
omit [DecidableEq α] in
theorem prs_mem {S : List α} {e : α × α} : e ∈ prs S ↔ e.1 ∈ S ∧ e.2 ∈ S := by
  unfold prs
  rw [List.mem_flatMap]
  constructor
  · rintro ⟨i, hi, h⟩
    obtain ⟨j, hj, rfl⟩ := List.mem_map.1 h
    exact ⟨hi, hj⟩
  · rintro ⟨h1, h2⟩
    exact ⟨e.1, h1, List.mem_map.2 ⟨e.2, h2, rfl⟩⟩
def cntR (T : α → α → Int) (S : List α) : Nat := ((prs S).filter fun e => decide (0 < T e.1 e.2)).length
theorem filter_lt {β : Type} {p q : β → Bool} : ∀ {l : List β}, (∀ x ∈ l, q x = true → p x = true) → (∃ x ∈ l, p x = true ∧ q x = false) → (l.filter q).length < (l.filter p).length
  | [], _, ⟨x, h, _⟩ => by cases h
  | a :: l, h, ⟨x, hx, h1, h2⟩ => by
    have hle : (l.filter q).length ≤ (l.filter p).length := by
      have : ∀ m : List β, (∀ x ∈ m, q x = true → p x = true) → (m.filter q).length ≤ (m.filter p).length := fun m => by
        induction m with
        | nil => intro _; exact Nat.le_refl _
        | cons b m ih =>
          intro hb
          have i := ih (fun y hy => hb y (List.mem_cons_of_mem _ hy))
          have hbb := hb b List.mem_cons_self
          rw [List.filter_cons, List.filter_cons]
          cases hq : q b with
          | true => rw [if_pos rfl, if_pos (hbb hq), List.length_cons, List.length_cons]; omega
          | false =>
            rw [if_neg (by decide)]
            split
            · rw [List.length_cons]; omega
            · exact i
      exact this l (fun y hy => h y (List.mem_cons_of_mem _ hy))
    rw [List.filter_cons, List.filter_cons]
    rcases List.mem_cons.1 hx with e | e
    · subst e
      rw [if_neg (by rw [h2]; decide), if_pos h1, List.length_cons]
      omega
    · have ih := filter_lt (fun y hy => h y (List.mem_cons_of_mem _ hy)) ⟨x, e, h1, h2⟩
      have ha := h a List.mem_cons_self
      cases hq : q a with
      | true => rw [if_pos rfl, if_pos (ha hq), List.length_cons, List.length_cons]; omega
      | false =>
        rw [if_neg (by decide)]
        split
        · rw [List.length_cons]; omega
        · exact ih
theorem cntR_sub {T : α → α → Int} {S r : List α} (hT : Tab8 T S) (h : IsR z T S r) : cntR (subR T (rng z r) (leastR z T r)) S < cntR T S := by
  obtain ⟨h1, _, e, he, h3⟩ := h.least hT
  have hp := h.pos e he
  refine filter_lt (fun x _ hx => ?_) ⟨e, prs_mem.2 (hT.inS _ _ hp), by rw [decide_eq_true_eq]; exact hp, ?_⟩
  · rw [decide_eq_true_eq] at *
    exact Int.lt_of_lt_of_le hx (subR_le (by omega) _ _)
  · rw [decide_eq_false_iff_not]
    unfold subR
    rw [if_pos he]
    omega
variable (z)
def loosF (S : List α) (lt : α → α → Bool) : Nat → (α → α → Int) → (α → α → Int) × Int
  | 0, T => (T, 0)
  | f + 1, T => match ringR z T S lt with
    | none => (T, 0)
    | some r => ((loosF S lt f (subR T (rng z r) (leastR z T r))).1, (loosF S lt f (subR T (rng z r) (leastR z T r))).2 + leastR z T r * (r.length : Int))
theorem loosF_fuel (S : List α) (lt : α → α → Bool) : ∀ (f g : Nat) (T : α → α → Int), Tab8 T S → cntR T S < f → cntR T S < g → loosF z S lt f T = loosF z S lt g T
  | 0, _, _, _, h, _ => by omega
  | _ + 1, 0, _, _, _, h => by omega
  | f + 1, g + 1, T, hT, h1, h2 => by
    unfold loosF
    cases hr : ringR z T S lt with
    | none => rfl
    | some r =>
      have hi := ringR_is z hr
      have := cntR_sub hT hi
      dsimp only
      rw [loosF_fuel S lt f g _ (hT.sub hi) (by omega) (by omega)]
/-- all rings cleared: the table, and how much less it is -/
def losR (S : List α) (lt : α → α → Bool) (T : α → α → Int) : (α → α → Int) × Int := loosF z S lt (cntR T S + 1) T
theorem losR_none {S : List α} {lt : α → α → Bool} {T : α → α → Int} (h : ringR z T S lt = none) : losR z S lt T = (T, 0) := by
  unfold losR loosF
  rw [h]
theorem losR_some {S : List α} {lt : α → α → Bool} {T : α → α → Int} (hT : Tab8 T S) {r : List α} (h : ringR z T S lt = some r) :
    losR z S lt T = ((losR z S lt (subR T (rng z r) (leastR z T r))).1, (losR z S lt (subR T (rng z r) (leastR z T r))).2 + leastR z T r * (r.length : Int)) := by
  have hi := ringR_is z h
  have hc := cntR_sub hT hi
  unfold losR
  conv => lhs; unfold loosF
  rw [h]
  dsimp only
  rw [loosF_fuel z S lt _ (cntR (subR T (rng z r) (leastR z T r)) S + 1) _ (hT.sub hi) (by omega) (by omega)]
theorem losR_ind (S : List α) (lt : α → α → Bool) {M : (α → α → Int) → Prop} (h0 : ∀ T, Tab8 T S → ringR z T S lt = none → M T) (h1 : ∀ T r, Tab8 T S → ringR z T S lt = some r → IsR z T S r → M (subR T (rng z r) (leastR z T r)) → M T) (T : α → α → Int) (hT : Tab8 T S) : M T := by
  have key : ∀ n T, Tab8 T S → cntR T S ≤ n → M T := by
    intro n
    induction n with
    | zero =>
      intro T hT hn
      cases hr : ringR z T S lt with
      | none => exact h0 T hT hr
      | some r => have := cntR_sub hT (ringR_is z hr); omega
    | succ n ih =>
      intro T hT hn
      cases hr : ringR z T S lt with
      | none => exact h0 T hT hr
      | some r =>
        have hi := ringR_is z hr
        have := cntR_sub hT hi
        exact h1 T r hT hr hi (ih _ (hT.sub hi) (by omega))
  exact key _ T hT (Nat.le_refl _)
theorem losR_tab {S : List α} {lt : α → α → Bool} {T : α → α → Int} (hT : Tab8 T S) : Tab8 (losR z S lt T).1 S ∧ (∀ i j, (losR z S lt T).1 i j ≤ T i j) ∧ ringR z (losR z S lt T).1 S lt = none := by
  refine losR_ind z S lt (M := fun T => Tab8 (losR z S lt T).1 S ∧ (∀ i j, (losR z S lt T).1 i j ≤ T i j) ∧ ringR z (losR z S lt T).1 S lt = none) (fun T hT h => ?_) (fun T r hT h hi ih => ?_) T hT
  · rw [losR_none z h]
    exact ⟨hT, fun i j => Int.le_refl _, h⟩
  · rw [losR_some z hT h]
    obtain ⟨l1, _, _⟩ := hi.least hT
    exact ⟨ih.1, fun i j => Int.le_trans (ih.2.1 i j) (subR_le (by omega) i j), ih.2.2⟩
/-! what each one gains and loses along a ring -/
def dE (p : α) (e : α × α) : Int := (if e.2 = p then 1 else 0) - (if e.1 = p then 1 else 0)
theorem dE_edg (p : α) : ∀ (r : List α), r ≠ [] → ((edg r).map (dE p)).sum = (if lstR z r = p then 1 else 0) - (if fstR z r = p then 1 else 0)
  | [], h => absurd rfl h
  | [a], _ => by simp [edg, lstR, fstR]
  | a :: b :: r, _ => by
    have := dE_edg p (b :: r) (by simp)
    show (dE p (a, b) :: (edg (b :: r)).map (dE p)).sum = _
    rw [List.sum_cons, this]
    have e1 : lstR z (a :: b :: r) = lstR z (b :: r) := rfl
    have e2 : fstR z (b :: r) = b := rfl
    have e3 : fstR z (a :: b :: r) = a := rfl
    rw [e1, e2, e3]
    unfold dE
    dsimp only
    omega
theorem dE_rng (p : α) (r : List α) (h : r ≠ []) : ((rng z r).map (dE p)).sum = 0 := by
  unfold rng
  rw [List.map_append, List.sum_append, dE_edg z p r h]
  simp only [List.map_cons, List.map_nil, List.sum_cons, List.sum_nil, dE]
  omega
theorem sumG_mulE (n : Int) (p : α) {S : List α} (hS : S.Nodup) : ∀ (E : List (α × α)), E.Nodup → (∀ e ∈ E, e.1 ∈ S ∧ e.2 ∈ S) →
    sumG S (fun q => (if (q, p) ∈ E then n else 0) - (if (p, q) ∈ E then n else 0)) = n * (E.map (dE p)).sum
  | [], _, _ => by
    have : (fun q : α => (if (q, p) ∈ ([] : List (α × α)) then n else 0) - (if (p, q) ∈ ([] : List (α × α)) then n else 0)) = fun _ => 0 := by funext q; simp
    rw [this, sumG_zero]
    simp
  | e :: E, hE, hin => by
    rw [List.nodup_cons] at hE
    have ih := sumG_mulE n p hS E hE.2 (fun x hx => hin x (List.mem_cons_of_mem _ hx))
    have h0 := hin e List.mem_cons_self
    have e1 : ∀ x : α × α, (if x ∈ e :: E then n else 0) = (if e = x then n else 0) + (if x ∈ E then n else 0) := fun x => by
      by_cases h : e = x
      · subst h; rw [if_pos List.mem_cons_self, if_pos rfl, if_neg hE.1]; omega
      · rw [if_neg h]
        by_cases hm : x ∈ E
        · rw [if_pos hm, if_pos (List.mem_cons_of_mem _ hm)]; omega
        · rw [if_neg hm, if_neg (by rw [List.mem_cons]; rintro (q | q); exact h q.symm; exact hm q)]; omega
    have e2 : (fun q => (if (q, p) ∈ e :: E then n else 0) - (if (p, q) ∈ e :: E then n else 0)) = fun q => ((if e.1 = q then (if e.2 = p then n else 0) else 0) - (if e.2 = q then (if e.1 = p then n else 0) else 0)) + ((if (q, p) ∈ E then n else 0) - (if (p, q) ∈ E then n else 0)) := by
      funext q
      rw [e1, e1]
      obtain ⟨a, b⟩ := e
      have g1 : (if (a, b) = (q, p) then n else 0) = if a = q then (if b = p then n else 0) else 0 := by
        by_cases h1 : a = q
        · rw [if_pos h1]; by_cases h2 : b = p
          · rw [if_pos h2, if_pos (by rw [h1, h2])]
          · rw [if_neg h2, if_neg (fun h => h2 (Prod.mk.inj h).2)]
        · rw [if_neg h1, if_neg (fun h => h1 (Prod.mk.inj h).1)]
      have g2 : (if (a, b) = (p, q) then n else 0) = if b = q then (if a = p then n else 0) else 0 := by
        by_cases h1 : b = q
        · rw [if_pos h1]; by_cases h2 : a = p
          · rw [if_pos h2, if_pos (by rw [h1, h2])]
          · rw [if_neg h2, if_neg (fun h => h2 (Prod.mk.inj h).1)]
        · rw [if_neg h1, if_neg (fun h => h1 (Prod.mk.inj h).2)]
      rw [g1, g2]
      dsimp only
      omega
    rw [e2, sumG_add, sumG_sub, ih, sumG_one _ _ hS, sumG_one _ _ hS, if_pos h0.1, if_pos h0.2, List.map_cons, List.sum_cons, Int.mul_add]
    congr 1
    unfold dE
    split <;> split <;> omega
/-- each one's position stays -/
theorem losR_pos {S : List α} (hS : S.Nodup) {lt : α → α → Bool} {T : α → α → Int} (hT : Tab8 T S) (p : α) :
    sumG S (fun q => (losR z S lt T).1 q p - (losR z S lt T).1 p q) = sumG S (fun q => T q p - T p q) := by
  refine losR_ind z S lt (M := fun T => sumG S (fun q => (losR z S lt T).1 q p - (losR z S lt T).1 p q) = sumG S (fun q => T q p - T p q)) (fun T hT h => ?_) (fun T r hT h hi ih => ?_) T hT
  · rw [losR_none z h]
  · rw [losR_some z hT h]
    dsimp only
    rw [ih]
    have e : (fun q => subR T (rng z r) (leastR z T r) q p - subR T (rng z r) (leastR z T r) p q) = fun q => (T q p - T p q) - ((if (q, p) ∈ rng z r then leastR z T r else 0) - (if (p, q) ∈ rng z r then leastR z T r else 0)) := by
      funext q
      unfold subR
      split <;> split <;> omega
    rw [e, sumG_sub, sumG_mulE (leastR z T r) p hS (rng z r) (rng_nodup z hi.nd hi.ne) (fun e he => ⟨hi.sub _ (rng_in z hi.ne e he).1, hi.sub _ (rng_in z hi.ne e he).2⟩), dE_rng z p r hi.ne]
    omega
end
end Go.Proofs.YtofdnkgieigncaaGreat
namespace Go.Proofs.YtofdnkgieigncaaGreat
open Go.SL
/-! ### rings by names and by numbers: one another's image: plain -/
abbrev zB : ByteArray := ByteArray.empty
section
variable {n : Nat} {g : Nat → ByteArray} {nm : List ByteArray}
/-- numbers below n name the parties, in their order -/
structure Nam (n : Nat) (g : Nat → ByteArray) (nm : List ByteArray) : Prop where
  img : nm = (List.range n).map g
  lt : ∀ i j, i < n → j < n → (lts (g i) (g j) = decide (i < j))
theorem Nam.inj (h : Nam n g nm) {i j : Nat} (hi : i < n) (hj : j < n) (e : g i = g j) : i = j := by
  have h1 := h.lt i j hi hj
  have h2 := h.lt j i hj hi
  rw [e, lts_irrefl] at h1
  rw [e, lts_irrefl] at h2
  have a := of_decide_eq_false h1.symm
  have b := of_decide_eq_false h2.symm
  omega
def ltI (i j : Nat) : Bool := decide (i < j)
/-- a table by numbers is the one by names -/
def Img (n : Nat) (g : Nat → ByteArray) (t : Nat → Nat → Int) (T : ByteArray → ByteArray → Int) : Prop := ∀ i j, i < n → j < n → t i j = T (g i) (g j)
theorem lst_map (g : Nat → ByteArray) {r : List Nat} (h : r ≠ []) : lstR zB (r.map g) = g (lstR 0 r) := by
  unfold lstR
  rw [List.getLastD_eq_getLast?, List.getLastD_eq_getLast?, List.getLast?_map]
  cases hq : r.getLast? with
  | none => rw [List.getLast?_eq_none_iff] at hq; exact absurd hq h
  | some x => rfl
theorem fst_map (g : Nat → ByteArray) {r : List Nat} (h : r ≠ []) : fstR zB (r.map g) = g (fstR 0 r) := by
  cases r with
  | nil => exact absurd rfl h
  | cons a r => rfl
theorem along_map (hN : Nam n g nm) {t : Nat → Nat → Int} {T : ByteArray → ByteArray → Int} (hI : Img n g t T) : ∀ (f : Nat) (r : List Nat), r ≠ [] → (∀ x ∈ r, x < n) → (alongR 0 t (List.range n) ltI f r).map (List.map g) = alongR zB T nm lts f (r.map g)
  | 0, _, _, _ => rfl
  | f + 1, r, h0, hr => by
    have hl : lstR 0 r < n := hr _ (lstR_in 0 h0)
    have hf : fstR 0 r < n := hr _ (fstR_in 0 h0)
    unfold alongR
    rw [lst_map g h0, fst_map g h0, List.length_map, ← hI _ _ hl hf]
    by_cases hc : 1 < r.length ∧ 0 < t (lstR 0 r) (fstR 0 r)
    · rw [if_pos hc, if_pos hc]; rfl
    · rw [if_neg hc, if_neg hc, hN.img, List.filter_map, List.findSome?_map]
      have e : ((List.range n).filter ((fun x => lts (g (fstR 0 r)) x && (decide (0 < T (g (lstR 0 r)) x) && !(decide (x ∈ r.map g)))) ∘ g)) = (List.range n).filter (fun x => ltI (fstR 0 r) x && (decide (0 < t (lstR 0 r) x) && !(decide (x ∈ r)))) := by
        refine List.filter_congr (fun x hx => ?_)
        have hx' := List.mem_range.1 hx
        dsimp only [Function.comp]
        rw [hN.lt _ _ hf hx', hI _ _ hl hx']
        have : decide (g x ∈ r.map g) = decide (x ∈ r) := by
          rw [decide_eq_decide, List.mem_map]
          constructor
          · rintro ⟨y, hy, e⟩
            rw [← hN.inj (hr y hy) hx' e]; exact hy
          · intro h; exact ⟨x, h, rfl⟩
        rw [this]; rfl
      rw [e, List.map_findSome?]
      refine findSome_congr (fun x hx => ?_)
      have hx' := List.mem_range.1 (List.mem_filter.1 hx).1
      dsimp only [Function.comp]
      rw [along_map hN hI f (r ++ [x]) (by simp) (fun y hy => by
        rcases List.mem_append.1 hy with q | q
        · exact hr y q
        · rw [List.mem_singleton.1 q]; exact hx'), List.map_append]
      simp only [hN.img]
      rfl
theorem ring_map (hN : Nam n g nm) {t : Nat → Nat → Int} {T : ByteArray → ByteArray → Int} (hI : Img n g t T) : (ringR 0 t (List.range n) ltI).map (List.map g) = ringR zB T nm lts := by
  have e : nm.length = n := by rw [hN.img]; simp
  unfold ringR
  rw [e, List.length_range, List.map_findSome?]
  conv => rhs; rw [hN.img]
  rw [List.findSome?_map]
  refine findSome_congr (fun x hx => ?_)
  have hx' := List.mem_range.1 hx
  dsimp only [Function.comp]
  rw [along_map hN hI n [x] (by simp) (fun y hy => by rw [List.mem_singleton.1 hy]; exact hx'), ← hN.img]
  rfl
theorem edg_map (g : Nat → ByteArray) : ∀ r : List Nat, edg (r.map g) = (edg r).map fun e => (g e.1, g e.2)
  | [] => rfl
  | [_] => rfl
  | a :: b :: r => by
    show (g a, g b) :: edg ((b :: r).map g) = _
    rw [edg_map g (b :: r)]; rfl
theorem rng_map (g : Nat → ByteArray) {r : List Nat} (h : r ≠ []) : rng zB (r.map g) = (rng 0 r).map fun e => (g e.1, g e.2) := by
  unfold rng
  rw [edg_map, lst_map g h, fst_map g h, List.map_append]; rfl
theorem minE_map {t : Nat → Nat → Int} {T : ByteArray → ByteArray → Int} (hI : Img n g t T) : ∀ (E : List (Nat × Nat)) (m : Int), (∀ e ∈ E, e.1 < n ∧ e.2 < n) → minE T m (E.map fun e => (g e.1, g e.2)) = minE t m E
  | [], _, _ => rfl
  | e :: E, m, h => by
    have h0 := h e List.mem_cons_self
    rw [List.map_cons, minE_cons, minE_cons, minE_map hI E _ (fun x hx => h x (List.mem_cons_of_mem _ hx)), hI _ _ h0.1 h0.2]
theorem sub_map (hN : Nam n g nm) {t : Nat → Nat → Int} {T : ByteArray → ByteArray → Int} (hI : Img n g t T) {E : List (Nat × Nat)} (hE : ∀ e ∈ E, e.1 < n ∧ e.2 < n) (m : Int) : Img n g (subR t E m) (subR T (E.map fun e => (g e.1, g e.2)) m) := fun i j hi hj => by
  unfold subR
  have : ((g i, g j) ∈ E.map fun e => (g e.1, g e.2)) ↔ (i, j) ∈ E := by
    rw [List.mem_map]
    constructor
    · rintro ⟨e, he, q⟩
      obtain ⟨q1, q2⟩ := Prod.mk.inj q
      have h0 := hE e he
      have e1 := hN.inj h0.1 hi q1
      have e2 := hN.inj h0.2 hj q2
      rw [← e1, ← e2]; exact he
    · intro h; exact ⟨_, h, rfl⟩
  by_cases h : (i, j) ∈ E
  · rw [if_pos h, if_pos (this.2 h), hI i j hi hj]
  · rw [if_neg h, if_neg (fun q => h (this.1 q)), hI i j hi hj]
theorem Img.tab (_hN : Nam n g nm) {t : Nat → Nat → Int} {T : ByteArray → ByteArray → Int} (hI : Img n g t T) (hT : Tab8 T nm) (h0 : ∀ i j, ¬ (i < n ∧ j < n) → t i j = 0) : Tab8 t (List.range n) := by
  refine ⟨fun i j => ?_, fun i j => ?_, fun i j h => ?_⟩
  · by_cases h : i < n ∧ j < n
    · rw [hI i j h.1 h.2]; exact hT.nn _ _
    · rw [h0 i j h]; exact Int.le_refl _
  · by_cases h : i < n ∧ j < n
    · rw [hI i j h.1 h.2]; exact hT.top _ _
    · rw [h0 i j h]; omega
  · by_cases q : i < n ∧ j < n
    · exact ⟨List.mem_range.2 q.1, List.mem_range.2 q.2⟩
    · rw [h0 i j q] at h; omega
theorem los_map (hN : Nam n g nm) {t : Nat → Nat → Int} (ht : Tab8 t (List.range n)) : ∀ {T : ByteArray → ByteArray → Int}, Img n g t T → Tab8 T nm →
    Img n g (losR 0 (List.range n) ltI t).1 (losR zB nm lts T).1 ∧ (losR 0 (List.range n) ltI t).2 = (losR zB nm lts T).2 := by
  refine losR_ind 0 (List.range n) ltI (M := fun t => ∀ {T : ByteArray → ByteArray → Int}, Img n g t T → Tab8 T nm → Img n g (losR 0 (List.range n) ltI t).1 (losR zB nm lts T).1 ∧ (losR 0 (List.range n) ltI t).2 = (losR zB nm lts T).2) (fun t ht hr T hI hT => ?_) (fun t r ht hr hi ih T hI hT => ?_) t ht
  · have hr' := ring_map hN hI
    rw [hr] at hr'
    rw [losR_none 0 hr, losR_none zB hr'.symm]
    exact ⟨hI, rfl⟩
  · have hr' := ring_map hN hI
    rw [hr] at hr'
    have hr2 : ringR zB T nm lts = some (r.map g) := hr'.symm
    have hi' := ringR_is zB hr2
    have hE : ∀ e ∈ rng 0 r, e.1 < n ∧ e.2 < n := fun e he => ⟨List.mem_range.1 (hi.sub _ (rng_in 0 hi.ne e he).1), List.mem_range.1 (hi.sub _ (rng_in 0 hi.ne e he).2)⟩
    have hle : leastR zB T (r.map g) = leastR 0 t r := by unfold leastR; rw [rng_map g hi.ne, minE_map hI _ _ hE]
    have hs := sub_map hN hI hE (leastR 0 t r)
    have hT2 := hT.sub hi'
    rw [rng_map g hi.ne, hle] at hT2
    obtain ⟨i1, i2⟩ := ih hs hT2
    rw [losR_some 0 ht hr, losR_some zB hT hr2, rng_map g hi.ne, hle, List.length_map]
    exact ⟨i1, by dsimp only; rw [i2]⟩
end
/-! ### what is owed, pair by pair -/
theorem ow_nil (k : DK) : ow [] k = 0 := rfl
theorem ow_grid_pos (P : List ByteArray) (hP : P.Nodup) (p c : ByteArray) (l : List Db) : among P l → psI l (p, c) = sumG P (fun q => ow l (c, q, p) - ow l (c, p, q)) := by
  refine list_snocN (C := fun l => among P l → psI l (p, c) = sumG P (fun q => ow l (c, q, p) - ow l (c, p, q))) l (fun _ => ?_) (fun l d ih h => ?_)
  · exact (sumG_zero P).symm
  · have h1 := ih (fun x hx => h x (List.mem_append_left _ hx))
    have h2 := h d (by simp)
    obtain ⟨⟨dc, df, dt⟩, n⟩ := d
    dsimp only at h2
    rw [psI_snoc, h1]
    have e : (fun q => ow (l ++ [((dc, df, dt), n)]) (c, q, p) - ow (l ++ [((dc, df, dt), n)]) (c, p, q)) = fun q => (ow l (c, q, p) - ow l (c, p, q)) + ((if df = q then (if dt = p ∧ dc = c then n else 0) else 0) - (if dt = q then (if df = p ∧ dc = c then n else 0) else 0)) := by
      funext q
      rw [ow_snoc, ow_snoc]
      dsimp only
      have a1 : ((dc, df, dt) = (c, q, p)) = (dc = c ∧ df = q ∧ dt = p) := by rw [Prod.mk.injEq, Prod.mk.injEq]
      have a2 : ((dc, df, dt) = (c, p, q)) = (dc = c ∧ df = p ∧ dt = q) := by rw [Prod.mk.injEq, Prod.mk.injEq]
      by_cases hc : dc = c
      · have b1 : (if (dc, df, dt) = (c, q, p) then ow l (c, q, p) + n else ow l (c, q, p)) = ow l (c, q, p) + if df = q then (if dt = p ∧ dc = c then n else 0) else 0 := by
          by_cases x1 : df = q
          · by_cases x2 : dt = p
            · rw [if_pos (a1.mpr ⟨hc, x1, x2⟩), if_pos x1, if_pos ⟨x2, hc⟩]
            · rw [if_neg (fun h => x2 (a1.mp h).2.2), if_pos x1, if_neg (fun h => x2 h.1)]; omega
          · rw [if_neg (fun h => x1 (a1.mp h).2.1), if_neg x1]; omega
        have b2 : (if (dc, df, dt) = (c, p, q) then ow l (c, p, q) + n else ow l (c, p, q)) = ow l (c, p, q) + if dt = q then (if df = p ∧ dc = c then n else 0) else 0 := by
          by_cases x1 : dt = q
          · by_cases x2 : df = p
            · rw [if_pos (a2.mpr ⟨hc, x2, x1⟩), if_pos x1, if_pos ⟨x2, hc⟩]
            · rw [if_neg (fun h => x2 (a2.mp h).2.1), if_pos x1, if_neg (fun h => x2 h.1)]; omega
          · rw [if_neg (fun h => x1 (a2.mp h).2.2), if_neg x1]; omega
        rw [b1, b2]; omega
      · have z0 : ∀ x : Prop, ¬ (x ∧ dc = c) := fun x h => hc h.2
        rw [if_neg (fun h => hc (a1.mp h).1), if_neg (fun h => hc (a2.mp h).1), if_neg (z0 _), if_neg (z0 _)]
        split <;> split <;> omega
    rw [e, sumG_add, sumG_sub P (fun q => if df = q then _ else 0), sumG_one _ _ hP, sumG_one _ _ hP, if_pos h2.1, if_pos h2.2]
    rfl
theorem ow_grid_sum (P : List ByteArray) (hP : P.Nodup) (c : ByteArray) (l : List Db) : among P l → sumC l c = sumG P (fun p => sumG P (fun q => ow l (c, p, q))) := by
  refine list_snocN (C := fun l => among P l → sumC l c = sumG P (fun p => sumG P (fun q => ow l (c, p, q)))) l (fun _ => ?_) (fun l d ih h => ?_)
  · have : (fun p : ByteArray => sumG P (fun q => ow [] (c, p, q))) = fun _ => 0 := by funext p; exact sumG_zero P
    rw [this, sumG_zero]; rfl
  · have h1 := ih (fun x hx => h x (List.mem_append_left _ hx))
    have h2 := h d (by simp)
    obtain ⟨⟨dc, df, dt⟩, n⟩ := d
    dsimp only at h2
    rw [sumC_snoc, h1]
    have e : (fun p => sumG P (fun q => ow (l ++ [((dc, df, dt), n)]) (c, p, q))) = fun p => sumG P (fun q => ow l (c, p, q)) + (if df = p then (if dc = c then n else 0) else 0) := by
      funext p
      have e1 : (fun q => ow (l ++ [((dc, df, dt), n)]) (c, p, q)) = fun q => ow l (c, p, q) + (if dt = q then (if df = p then (if dc = c then n else 0) else 0) else 0) := by
        funext q
        rw [ow_snoc]
        dsimp only
        have a2 : ((dc, df, dt) = (c, p, q)) = (dc = c ∧ df = p ∧ dt = q) := by rw [Prod.mk.injEq, Prod.mk.injEq]
        by_cases x1 : dt = q
        · by_cases x2 : df = p
          · by_cases x3 : dc = c
            · rw [if_pos (a2.mpr ⟨x3, x2, x1⟩), if_pos x1, if_pos x2, if_pos x3]
            · rw [if_neg (fun h => x3 (a2.mp h).1), if_pos x1, if_pos x2, if_neg x3]; omega
          · rw [if_neg (fun h => x2 (a2.mp h).2.1), if_pos x1, if_neg x2]; omega
        · rw [if_neg (fun h => x1 (a2.mp h).2.2), if_neg x1]; omega
      rw [e1, sumG_add, sumG_one _ _ hP, if_pos h2.2]
    rw [e, sumG_add, sumG_one _ _ hP, if_pos h2.1]
/-- a list told by what is owed, in strict order -/
def Told (X : List Db) (F : DK → Int) : Prop := X.Pairwise (fun a b => ltK a.1 b.1 = true) ∧ ∀ x, x ∈ X ↔ 0 < x.2 ∧ F x.1 = x.2
theorem ow_in_nodup {X : List Db} (hn : (X.map (·.1)).Nodup) : (∀ k n, (k, n) ∈ X → ow X k = n) ∧ ∀ k, k ∉ X.map (·.1) → ow X k = 0 := by
  revert hn
  refine list_snocN (C := fun X => (X.map (·.1)).Nodup → (∀ k n, (k, n) ∈ X → ow X k = n) ∧ ∀ k, k ∉ X.map (·.1) → ow X k = 0) X (fun _ => ⟨fun k n h => (by cases h), fun k _ => rfl⟩) (fun X d ih hn => ?_)
  rw [List.map_append, List.nodup_append] at hn
  obtain ⟨i1, i2⟩ := ih hn.1
  have hd : d.1 ∉ X.map (·.1) := fun h => hn.2.2 d.1 h d.1 (by simp) rfl
  refine ⟨fun k n h => ?_, fun k h => ?_⟩
  · rw [ow_snoc]
    rcases List.mem_append.1 h with q | q
    · rw [if_neg (fun e => hd (by rw [e]; exact List.mem_map.2 ⟨_, q, rfl⟩))]
      exact i1 k n q
    · rw [← List.mem_singleton.1 q, if_pos rfl]
      have : ow X k = 0 := i2 k (fun hk => hd (by rw [← List.mem_singleton.1 q]; exact hk))
      dsimp only
      rw [this]; omega
  · rw [List.map_append] at h
    rw [ow_snoc, if_neg (fun e => h (List.mem_append_right _ (by simp [e])))]
    exact i2 k (fun q => h (List.mem_append_left _ q))
theorem Told.nodup {X : List Db} {F : DK → Int} (h : Told X F) : (X.map (·.1)).Nodup :=
  List.pairwise_map.2 (h.1.imp (fun {a b} h e => by rw [e, ltK_irrefl] at h; cases h))
theorem Told.ow {X : List Db} {F : DK → Int} (h : Told X F) (hF : ∀ k, 0 ≤ F k) (k : DK) : ow X k = F k := by
  obtain ⟨h1, h2⟩ := ow_in_nodup h.nodup
  by_cases hk : k ∈ X.map (·.1)
  · obtain ⟨⟨k', n⟩, hx, e⟩ := List.mem_map.1 hk
    dsimp only at e
    subst e
    rw [h1 _ _ hx]
    exact ((h.2 _).1 hx).2.symm
  · rw [h2 k hk]
    have := hF k
    refine Decidable.byContradiction (fun hne => hk (List.mem_map.2 ⟨(k, F k), (h.2 _).2 ⟨?_, rfl⟩, rfl⟩))
    dsimp only
    omega
theorem ltK_trans {a b c : DK} (h : ltK a b = true) (k : ltK b c = true) : ltK a c = true := by
  unfold ltK at *
  rw [Bool.or_eq_true, Bool.and_eq_true, decide_eq_true_eq, Bool.or_eq_true, Bool.and_eq_true, decide_eq_true_eq] at *
  rcases h with h | ⟨h1, h2⟩
  · rcases k with k | ⟨k1, _⟩
    · exact .inl (lts_trans h k)
    · rw [← k1]; exact .inl h
  · rw [h1]
    rcases k with k | ⟨k1, k2⟩
    · exact .inl k
    · refine .inr ⟨k1, ?_⟩
      rcases h2 with h2 | ⟨h3, h4⟩
      · rcases k2 with k2 | ⟨k3, _⟩
        · exact .inl (lts_trans h2 k2)
        · rw [← k3]; exact .inl h2
      · rw [h3]
        rcases k2 with k2 | ⟨k3, k4⟩
        · exact .inl k2
        · exact .inr ⟨k3, lts_trans h4 k4⟩
theorem Told.one {X Y : List Db} {F G : DK → Int} (h : Told X F) (k : Told Y G) (e : ∀ k, F k = G k) : X = Y :=
  @sorted_one Db (fun a b => ltK a.1 b.1) (fun a => ltK_irrefl _) (fun h k => ltK_trans h k) X Y h.1 k.1 (fun x => by rw [h.2, k.2, e])
theorem pairN_told {l : List Db} (hl : ∀ d ∈ l, 1 ≤ d.2) : Told (pairN l) (fun k => mx0 (netI l k)) := by
  refine ⟨pairN_sorted l, fun x => ?_⟩
  rw [pairN_mem hl]
  dsimp only
  unfold owA mx0
  constructor
  · intro h
    split at h
    · rename_i h0; have := Option.some.inj h; rw [if_pos h0]; omega
    · cases h
  · rintro ⟨h1, h2⟩
    split at h2
    · rename_i h0; rw [if_pos h0, h2]
    · omega
end Go.Proofs.YtofdnkgieigncaaGreat
namespace Go.Proofs.YtofdnkgieigncaaGreat
open Go.SL
/-! ### what pairs and rings keep: plain -/
theorem mx0_nn (n : Int) : 0 ≤ mx0 n := by unfold mx0; split <;> omega
def tabN (l : List Db) (c p q : ByteArray) : Int := mx0 (netI l (c, p, q))
def rgN (l : List Db) (c : ByteArray) : (ByteArray → ByteArray → Int) × Int := losR zB (parN l) lts (tabN l c)
def rgF (l : List Db) (c p q : ByteArray) : List Db := if 0 < (rgN l c).1 p q then [((c, p, q), (rgN l c).1 p q)] else []
def ringsN (l : List Db) : List Db := (curN l).flatMap fun c => (parN l).flatMap fun p => (parN l).flatMap fun q => rgF l c p q
def goneN (l : List Db) : Int := sumG (curN l) fun c => (rgN l c).2
/-- amounts from 1 on; none too great, netted -/
structure OkD (l : List Db) : Prop where
  one : ∀ d ∈ l, 1 ≤ d.2
  top : ∀ k, netI l k ≤ 1099511627776
theorem ow_pos_dom {l : List Db} {k : DK} (h : ow l k ≠ 0) : k.1 ∈ curN l ∧ k.2.1 ∈ parN l ∧ k.2.2 ∈ parN l := by
  obtain ⟨d, hd, e⟩ := ow_pos_in h
  exact ⟨((curN_spec l).2 _).2 ⟨d, hd, by rw [e]⟩, ((parN_spec l).2 _).2 ⟨d, hd, .inl (by rw [e])⟩, ((parN_spec l).2 _).2 ⟨d, hd, .inr (by rw [e])⟩⟩
theorem ow_nn {l : List Db} (hl : ∀ d ∈ l, 1 ≤ d.2) (k : DK) : 0 ≤ ow l k := (owM_spec l hl).2.2 k
theorem tabN_pos {l : List Db} (hl : ∀ d ∈ l, 1 ≤ d.2) {c p q : ByteArray} (h : 0 < tabN l c p q) : ow l (c, p, q) ≠ 0 := by
  have := ow_nn hl (bk (c, p, q))
  unfold tabN mx0 at h
  split at h
  · rename_i h0; unfold netI at h0; omega
  · omega
theorem tabN_tab {l : List Db} (hl : OkD l) (c : ByteArray) : Tab8 (tabN l c) (parN l) :=
  ⟨fun i j => mx0_nn _, fun i j => by have := hl.top (c, i, j); unfold tabN mx0; split <;> omega, fun i j h => (ow_pos_dom (tabN_pos hl.one h)).2⟩
theorem rg_tab {l : List Db} (hl : OkD l) (c : ByteArray) : Tab8 (rgN l c).1 (parN l) ∧ (∀ i j, (rgN l c).1 i j ≤ tabN l c i j) ∧ ringR zB (rgN l c).1 (parN l) lts = none := losR_tab zB (tabN_tab hl c)
theorem rgF_in {l : List Db} {c p q : ByteArray} {x : Db} (h : x ∈ rgF l c p q) : x = ((c, p, q), (rgN l c).1 p q) ∧ 0 < (rgN l c).1 p q := by
  unfold rgF at h
  split at h
  · rename_i h0; exact ⟨List.mem_singleton.1 h, h0⟩
  · cases h
theorem ringsN_sorted (l : List Db) : (ringsN l).Pairwise fun a b => ltK a.1 b.1 = true := by
  have hc := (curN_spec l).1
  have hp := (parN_spec l).1
  refine fm_pw hc (fun c _ => fm_pw hp (fun p _ => fm_pw hp (fun q _ => ?_) (fun q q' hq x hx y hy => ?_)) (fun p p' hpp x hx y hy => ?_)) (fun c c' hcc x hx y hy => ?_)
  · unfold rgF
    split <;> simp
  · obtain ⟨rfl, _⟩ := rgF_in hx
    obtain ⟨rfl, _⟩ := rgF_in hy
    simp [ltK, hq]
  · obtain ⟨q, _, hx⟩ := List.mem_flatMap.1 hx
    obtain ⟨q', _, hy⟩ := List.mem_flatMap.1 hy
    obtain ⟨rfl, _⟩ := rgF_in hx
    obtain ⟨rfl, _⟩ := rgF_in hy
    simp [ltK, hpp]
  · obtain ⟨p, _, hx⟩ := List.mem_flatMap.1 hx
    obtain ⟨q, _, hx⟩ := List.mem_flatMap.1 hx
    obtain ⟨p', _, hy⟩ := List.mem_flatMap.1 hy
    obtain ⟨q', _, hy⟩ := List.mem_flatMap.1 hy
    obtain ⟨rfl, _⟩ := rgF_in hx
    obtain ⟨rfl, _⟩ := rgF_in hy
    simp [ltK, hcc]
def rgK (l : List Db) (k : DK) : Int := (rgN l k.1).1 k.2.1 k.2.2
theorem ringsN_told {l : List Db} (hl : OkD l) : Told (ringsN l) (rgK l) := by
  refine ⟨ringsN_sorted l, fun x => ?_⟩
  unfold ringsN
  constructor
  · intro h
    obtain ⟨c, _, h⟩ := List.mem_flatMap.1 h
    obtain ⟨p, _, h⟩ := List.mem_flatMap.1 h
    obtain ⟨q, _, h⟩ := List.mem_flatMap.1 h
    obtain ⟨rfl, h0⟩ := rgF_in h
    exact ⟨h0, rfl⟩
  · rintro ⟨h1, h2⟩
    obtain ⟨⟨c, p, q⟩, n⟩ := x
    unfold rgK at h2
    dsimp only at h1 h2
    have h3 := (rg_tab hl c).2.1 p q
    obtain ⟨d1, d2, d3⟩ := ow_pos_dom (tabN_pos hl.one (c := c) (p := p) (q := q) (by omega))
    refine List.mem_flatMap.2 ⟨c, d1, List.mem_flatMap.2 ⟨p, d2, List.mem_flatMap.2 ⟨q, d3, ?_⟩⟩⟩
    unfold rgF
    rw [if_pos (by omega), h2]
    exact List.mem_singleton.2 rfl
/-- two lists told by what is owed sum and stand alike -/
theorem pos_of_ow {a b : List Db} (h : ∀ c p q, ow a (c, q, p) - ow a (c, p, q) = ow b (c, q, p) - ow b (c, p, q)) (s : SK) : psI a s = psI b s := by
  obtain ⟨p, c⟩ := s
  have hP : (parN (a ++ b)).Nodup := ssn_nodup (parN_spec _).1
  have ha : among (parN (a ++ b)) a := fun d hd => among_par (a ++ b) d (List.mem_append_left _ hd)
  have hb : among (parN (a ++ b)) b := fun d hd => among_par (a ++ b) d (List.mem_append_right _ hd)
  rw [ow_grid_pos _ hP p c a ha, ow_grid_pos _ hP p c b hb]
  exact sumG_congr (fun q _ => h c p q)
theorem sum_of_ow {a b : List Db} (h : ∀ k, ow a k ≤ ow b k) (c : ByteArray) : sumC a c ≤ sumC b c := by
  have hP : (parN (a ++ b)).Nodup := ssn_nodup (parN_spec _).1
  have ha : among (parN (a ++ b)) a := fun d hd => among_par (a ++ b) d (List.mem_append_left _ hd)
  have hb : among (parN (a ++ b)) b := fun d hd => among_par (a ++ b) d (List.mem_append_right _ hd)
  rw [ow_grid_sum _ hP c a ha, ow_grid_sum _ hP c b hb]
  exact sumG_le (fun p _ => sumG_le (fun q _ => h _))
section
variable {l : List Db}
theorem pairN_ow (hl : ∀ d ∈ l, 1 ≤ d.2) (k : DK) : ow (pairN l) k = mx0 (netI l k) := (pairN_told hl).ow (fun _ => mx0_nn _) k
theorem pairN_net (hl : ∀ d ∈ l, 1 ≤ d.2) (k : DK) : netI (pairN l) k = netI l k := by
  have h := netI_bk l k
  show ow (pairN l) k - ow (pairN l) (bk k) = _
  rw [pairN_ow hl, pairN_ow hl, h]
  unfold mx0
  split <;> split <;> omega
theorem pairN_pos (hl : ∀ d ∈ l, 1 ≤ d.2) (s : SK) : psI (pairN l) s = psI l s := pos_of_ow (fun c p q => pairN_net hl (c, q, p)) s
theorem pairN_sum (hl : ∀ d ∈ l, 1 ≤ d.2) (c : ByteArray) : sumC (pairN l) c ≤ sumC l c := sum_of_ow (fun k => by
  rw [pairN_ow hl]
  have := ow_nn hl k
  have := ow_nn hl (bk k)
  unfold mx0 netI
  split <;> omega) c
theorem ringsN_ow (hl : OkD l) (k : DK) : ow (ringsN l) k = rgK l k := (ringsN_told hl).ow (fun k => (rg_tab hl k.1).1.nn _ _) k
theorem ringsN_pos (hl : OkD l) (s : SK) : psI (ringsN l) s = psI l s := by
  obtain ⟨p, c⟩ := s
  have hP : (parN l).Nodup := ssn_nodup (parN_spec l).1
  have hR : among (parN l) (ringsN l) := fun d hd => by
    obtain ⟨h1, h2⟩ := ((ringsN_told hl).2 d).1 hd
    exact (rg_tab hl d.1.1).1.inS d.1.2.1 d.1.2.2 (by unfold rgK at h2; omega)
  have hPr : among (parN l) (pairN l) := fun d hd => by
    obtain ⟨h1, h2⟩ := ((pairN_told hl.one).2 d).1 hd
    exact (tabN_tab hl d.1.1).inS d.1.2.1 d.1.2.2 (by show 0 < mx0 (netI l d.1); dsimp only at h2; omega)
  rw [← pairN_pos hl.one, ow_grid_pos _ hP p c _ hR, ow_grid_pos _ hP p c _ hPr]
  have e1 : (fun q => ow (ringsN l) (c, q, p) - ow (ringsN l) (c, p, q)) = fun q => (rgN l c).1 q p - (rgN l c).1 p q := by funext q; rw [ringsN_ow hl, ringsN_ow hl]; rfl
  have e2 : (fun q => ow (pairN l) (c, q, p) - ow (pairN l) (c, p, q)) = fun q => tabN l c q p - tabN l c p q := by funext q; rw [pairN_ow hl.one, pairN_ow hl.one]; rfl
  rw [e1, e2]
  exact losR_pos zB hP (tabN_tab hl c) p
theorem ringsN_sum (hl : OkD l) (c : ByteArray) : sumC (ringsN l) c ≤ sumC (pairN l) c := sum_of_ow (fun k => by
  rw [ringsN_ow hl, pairN_ow hl.one]
  exact (rg_tab hl k.1).2.1 _ _) c
end
/-! the same debts in another order, one of them cut -/
/-! one currency alone -/
def onC (c : ByteArray) (l : List Db) : List Db := l.filter fun d => decide (d.1.1 = c)
theorem onC_ow (c : ByteArray) (l : List Db) (k : DK) : ow (onC c l) k = if k.1 = c then ow l k else 0 := by
  refine list_snocN (C := fun l => ow (onC c l) k = if k.1 = c then ow l k else 0) l (by unfold onC; split <;> rfl) (fun l d ih => ?_)
  have e : onC c (l ++ [d]) = onC c l ++ if d.1.1 = c then [d] else [] := by
    unfold onC
    rw [List.filter_append, List.filter_cons, List.filter_nil]
    congr 1
    by_cases h : d.1.1 = c
    · rw [if_pos h, if_pos (by simpa using h)]
    · rw [if_neg h, if_neg (by simpa using h)]
  rw [e, ow_snoc]
  by_cases h : d.1.1 = c
  · rw [if_pos h, ow_snoc, ih]
    by_cases hk : d.1 = k
    · rw [if_pos hk, if_pos hk, ← hk, if_pos h, if_pos h]
    · rw [if_neg hk, if_neg hk]
  · rw [if_neg h, List.append_nil, ih]
    by_cases hk : d.1 = k
    · rw [← hk, if_neg h, if_neg h]
    · rw [if_neg hk]
theorem Told.on {X : List Db} {F : DK → Int} (h : Told X F) (c : ByteArray) : Told (onC c X) (fun k => if k.1 = c then F k else 0) := by
  refine ⟨List.Pairwise.filter _ h.1, fun x => ?_⟩
  unfold onC
  dsimp only
  rw [List.mem_filter, h.2, decide_eq_true_eq]
  constructor
  · rintro ⟨⟨a, b⟩, e⟩
    rw [if_pos e]
    exact ⟨a, b⟩
  · rintro ⟨a, b⟩
    by_cases e : x.1.1 = c
    · rw [if_pos e] at b; exact ⟨⟨a, b⟩, e⟩
    · rw [if_neg e] at b; omega
theorem flat_on {c : ByteArray} {g : ByteArray → List Db} (hg : ∀ c', onC c (g c') = if c' = c then g c else []) : ∀ {C : List ByteArray}, C.Nodup → onC c (C.flatMap g) = if c ∈ C then g c else []
  | [], _ => by unfold onC; simp
  | c' :: C, h => by
    rw [List.nodup_cons] at h
    have e : onC c ((c' :: C).flatMap g) = onC c (g c') ++ onC c (C.flatMap g) := by unfold onC; rw [List.flatMap_cons, List.filter_append]
    rw [e, hg, flat_on hg h.2]
    by_cases e : c' = c
    · subst e
      rw [if_pos rfl, if_neg h.1, if_pos List.mem_cons_self, List.append_nil]
    · rw [if_neg e]
      by_cases hm : c ∈ C
      · rw [if_pos hm, if_pos (List.mem_cons_of_mem _ hm)]; rfl
      · rw [if_neg hm, if_neg (by rw [List.mem_cons]; rintro (q | q); exact e q.symm; exact hm q)]; rfl
end Go.Proofs.YtofdnkgieigncaaGreat
