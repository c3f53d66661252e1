import Derived.Test.YtofdnkgieigncaaGreatNA
namespace Go.Proofs.YtofdnkgieigncaaGreat
open Go.SL
/-! ### rings: plain (over any kind of party) -/
section
variable {α : Type} [DecidableEq α] (z : α)
def fstR (r : List α) : α := r.headD z
def lstR (r : List α) : α := r.getLastD z
/-- the members of a row, each with the next one -/
def edg : List α → List (α × α)
  | [] => []
  | [_] => []
  | a :: b :: r => (a, b) :: edg (b :: r)
/-- a ring's edges: each with the next, the last with the first -/
def rng (r : List α) : List (α × α) := edg r ++ [(lstR z r, fstR z r)]
/-- what a ring is -/
structure IsR (T : α → α → Int) (S : List α) (r : List α) : Prop where
  nd : r.Nodup
  sub : ∀ x ∈ r, x ∈ S
  two : 1 < r.length
  pos : ∀ e ∈ rng z r, 0 < T e.1 e.2
end
end Go.Proofs.YtofdnkgieigncaaGreat
namespace Go.Proofs.YtofdnkgieigncaaGreat
open Go.SL
/-! ### rings are cleared: plain -/
section
variable {α : Type} [DecidableEq α] (z : α)
def miI (a b : Int) : Int := if b < a then b else a
def subR (T : α → α → Int) (E : List (α × α)) (n : Int) : α → α → Int := fun i j => if (i, j) ∈ E then T i j - n else T i j
def minE (T : α → α → Int) (m : Int) (E : List (α × α)) : Int := E.foldl (fun m e => miI m (T e.1 e.2)) m
def leastR (T : α → α → Int) (r : List α) : Int := minE T 1099511627776 (rng z r)
omit [DecidableEq α] in
theorem minE_cons (T : α → α → Int) (m : Int) (e : α × α) (E : List (α × α)) : minE T m (e :: E) = minE T (miI m (T e.1 e.2)) E := rfl
omit [DecidableEq α] in
theorem minE_le (T : α → α → Int) : ∀ (E : List (α × α)) (m : Int), minE T m E ≤ m ∧ ∀ e ∈ E, minE T m E ≤ T e.1 e.2
  | [], m => ⟨Int.le_refl _, fun e he => by cases he⟩
  | e :: E, m => by
    rw [minE_cons]
    obtain ⟨h1, h2⟩ := minE_le T E (miI m (T e.1 e.2))
    have h3 : miI m (T e.1 e.2) ≤ m ∧ miI m (T e.1 e.2) ≤ T e.1 e.2 := by unfold miI; split <;> omega
    refine ⟨by omega, fun x hx => ?_⟩
    rcases List.mem_cons.1 hx with q | q
    · rw [q]; omega
    · exact h2 x q
omit [DecidableEq α] in
theorem minE_at (T : α → α → Int) : ∀ (E : List (α × α)) (m : Int), minE T m E = m ∨ ∃ e ∈ E, minE T m E = T e.1 e.2
  | [], m => .inl rfl
  | e :: E, m => by
    rw [minE_cons]
    rcases minE_at T E (miI m (T e.1 e.2)) with h | ⟨x, hx, h⟩
    · rw [h]
      unfold miI
      split
      · exact .inr ⟨e, List.mem_cons_self, rfl⟩
      · exact .inl rfl
    · exact .inr ⟨x, List.mem_cons_of_mem _ hx, h⟩
/-- a table: all its debts are between those of S, none above the greatest amount -/
structure Tab8 (T : α → α → Int) (S : List α) : Prop where
  nn : ∀ i j, 0 ≤ T i j
  top : ∀ i j, T i j ≤ 1099511627776
  inS : ∀ i j, 0 < T i j → i ∈ S ∧ j ∈ S
variable {z}
omit [DecidableEq α] in
theorem IsR.least {T : α → α → Int} {S r : List α} (hT : Tab8 T S) (h : IsR z T S r) : 1 ≤ leastR z T r ∧ (∀ e ∈ rng z r, leastR z T r ≤ T e.1 e.2) ∧ ∃ e ∈ rng z r, leastR z T r = T e.1 e.2 := by
  have h1 := minE_le T (rng z r) 1099511627776
  have hne : rng z r ≠ [] := by unfold rng; simp
  obtain ⟨e0, he0⟩ := List.exists_mem_of_ne_nil _ hne
  have h2 : ∃ e ∈ rng z r, leastR z T r = T e.1 e.2 := by
    rcases minE_at T (rng z r) 1099511627776 with q | q
    · refine ⟨e0, he0, ?_⟩
      have a1 := hT.top e0.1 e0.2
      have a2 := h1.2 e0 he0
      unfold leastR
      omega
    · exact q
  obtain ⟨e, he, q⟩ := h2
  have := h.pos e he
  exact ⟨by omega, h1.2, e, he, q⟩
theorem subR_le {T : α → α → Int} {E : List (α × α)} {n : Int} (h : 0 ≤ n) (i j : α) : subR T E n i j ≤ T i j := by unfold subR; split <;> omega
theorem Tab8.sub {T : α → α → Int} {S r : List α} (hT : Tab8 T S) (h : IsR z T S r) : Tab8 (subR T (rng z r) (leastR z T r)) S := by
  obtain ⟨h1, h2, _⟩ := h.least hT
  have hle := fun i j => subR_le (T := T) (E := rng z r) (n := leastR z T r) (by omega) i j
  refine ⟨fun i j => ?_, fun i j => Int.le_trans (hle i j) (hT.top i j), fun i j hp => hT.inS i j (Int.lt_of_lt_of_le hp (hle i j))⟩
  unfold subR
  split
  · rename_i hm
    have := h2 (i, j) hm
    dsimp only at this
    omega
  · exact hT.nn i j
variable (z)
/-! what each one gains and loses along a ring -/
end
end Go.Proofs.YtofdnkgieigncaaGreat
namespace Go.Proofs.YtofdnkgieigncaaGreat
open Go.SL
/-! ### rings by names and by numbers: one another's image: plain -/
abbrev zB : ByteArray := ByteArray.empty
section
variable {n : Nat} {g : Nat → ByteArray} {nm : List ByteArray}
/-- numbers below n name the parties, in their order -/
structure Nam (n : Nat) (g : Nat → ByteArray) (nm : List ByteArray) : Prop where
  img : nm = (List.range n).map g
  lt : ∀ i j, i < n → j < n → (lts (g i) (g j) = decide (i < j))
theorem Nam.inj (h : Nam n g nm) {i j : Nat} (hi : i < n) (hj : j < n) (e : g i = g j) : i = j := by
  have h1 := h.lt i j hi hj
  have h2 := h.lt j i hj hi
  rw [e, lts_irrefl] at h1
  rw [e, lts_irrefl] at h2
  have a := of_decide_eq_false h1.symm
  have b := of_decide_eq_false h2.symm
  omega
/-- a table by numbers is the one by names -/
def Img (n : Nat) (g : Nat → ByteArray) (t : Nat → Nat → Int) (T : ByteArray → ByteArray → Int) : Prop := ∀ i j, i < n → j < n → t i j = T (g i) (g j)
theorem Img.tab (_hN : Nam n g nm) {t : Nat → Nat → Int} {T : ByteArray → ByteArray → Int} (hI : Img n g t T) (hT : Tab8 T nm) (h0 : ∀ i j, ¬ (i < n ∧ j < n) → t i j = 0) : Tab8 t (List.range n) := by
  refine ⟨fun i j => ?_, fun i j => ?_, fun i j h => ?_⟩
  · by_cases h : i < n ∧ j < n
    · rw [hI i j h.1 h.2]; exact hT.nn _ _
    · rw [h0 i j h]; exact Int.le_refl _
  · by_cases h : i < n ∧ j < n
    · rw [hI i j h.1 h.2]; exact hT.top _ _
    · rw [h0 i j h]; omega
  · by_cases q : i < n ∧ j < n
    · exact ⟨List.mem_range.2 q.1, List.mem_range.2 q.2⟩
    · rw [h0 i j q] at h; omega
end
/-! ### what is owed, pair by pair -/
theorem ow_nil (k : DK) : ow [] k = 0 := rfl
/-- a list told by what is owed, in strict order -/
def Told (X : List Db) (F : DK → Int) : Prop := X.Pairwise (fun a b => ltK a.1 b.1 = true) ∧ ∀ x, x ∈ X ↔ 0 < x.2 ∧ F x.1 = x.2
theorem ow_in_nodup {X : List Db} (hn : (X.map (·.1)).Nodup) : (∀ k n, (k, n) ∈ X → ow X k = n) ∧ ∀ k, k ∉ X.map (·.1) → ow X k = 0 := by
  revert hn
  refine list_snocN (C := fun X => (X.map (·.1)).Nodup → (∀ k n, (k, n) ∈ X → ow X k = n) ∧ ∀ k, k ∉ X.map (·.1) → ow X k = 0) X (fun _ => ⟨fun k n h => (by cases h), fun k _ => rfl⟩) (fun X d ih hn => ?_)
  rw [List.map_append, List.nodup_append] at hn
  obtain ⟨i1, i2⟩ := ih hn.1
  have hd : d.1 ∉ X.map (·.1) := fun h => hn.2.2 d.1 h d.1 (by simp) rfl
  refine ⟨fun k n h => ?_, fun k h => ?_⟩
  · rw [ow_snoc]
    rcases List.mem_append.1 h with q | q
    · rw [if_neg (fun e => hd (by rw [e]; exact List.mem_map.2 ⟨_, q, rfl⟩))]
      exact i1 k n q
    · rw [← List.mem_singleton.1 q, if_pos rfl]
      have : ow X k = 0 := i2 k (fun hk => hd (by rw [← List.mem_singleton.1 q]; exact hk))
      dsimp only
      rw [this]; omega
  · rw [List.map_append] at h
    rw [ow_snoc, if_neg (fun e => h (List.mem_append_right _ (by simp [e])))]
    exact i2 k (fun q => h (List.mem_append_left _ q))
theorem Told.nodup {X : List Db} {F : DK → Int} (h : Told X F) : (X.map (·.1)).Nodup :=
  List.pairwise_map.2 (h.1.imp (fun {a b} h e => by rw [e, ltK_irrefl] at h; cases h))
theorem Told.ow {X : List Db} {F : DK → Int} (h : Told X F) (hF : ∀ k, 0 ≤ F k) (k : DK) : ow X k = F k := by
  obtain ⟨h1, h2⟩ := ow_in_nodup h.nodup
  by_cases hk : k ∈ X.map (·.1)
  · obtain ⟨⟨k', n⟩, hx, e⟩ := List.mem_map.1 hk
    dsimp only at e
    subst e
    rw [h1 _ _ hx]
    exact ((h.2 _).1 hx).2.symm
  · rw [h2 k hk]
    have := hF k
    refine Decidable.byContradiction (fun hne => hk (List.mem_map.2 ⟨(k, F k), (h.2 _).2 ⟨?_, rfl⟩, rfl⟩))
    dsimp only
    omega
theorem ltK_trans {a b c : DK} (h : ltK a b = true) (k : ltK b c = true) : ltK a c = true := by
  unfold ltK at *
  rw [Bool.or_eq_true, Bool.and_eq_true, decide_eq_true_eq, Bool.or_eq_true, Bool.and_eq_true, decide_eq_true_eq] at *
  rcases h with h | ⟨h1, h2⟩
  · rcases k with k | ⟨k1, _⟩
    · exact .inl (lts_trans h k)
    · rw [← k1]; exact .inl h
  · rw [h1]
    rcases k with k | ⟨k1, k2⟩
    · exact .inl k
    · refine .inr ⟨k1, ?_⟩
      rcases h2 with h2 | ⟨h3, h4⟩
      · rcases k2 with k2 | ⟨k3, _⟩
        · exact .inl (lts_trans h2 k2)
        · rw [← k3]; exact .inl h2
      · rw [h3]
        rcases k2 with k2 | ⟨k3, k4⟩
        · exact .inl k2
        · exact .inr ⟨k3, lts_trans h4 k4⟩
theorem Told.one {X Y : List Db} {F G : DK → Int} (h : Told X F) (k : Told Y G) (e : ∀ k, F k = G k) : X = Y :=
  @sorted_one Db (fun a b => ltK a.1 b.1) (fun a => ltK_irrefl _) (fun h k => ltK_trans h k) X Y h.1 k.1 (fun x => by rw [h.2, k.2, e])
end Go.Proofs.YtofdnkgieigncaaGreat
namespace Go.Proofs.YtofdnkgieigncaaGreat
open Go.SL
/-! ### what pairs and rings keep: plain -/
/-- amounts from 1 on; none too great, netted -/
structure OkD (l : List Db) : Prop where
  one : ∀ d ∈ l, 1 ≤ d.2
  top : ∀ k, netI l k ≤ 1099511627776
theorem ow_pos_dom {l : List Db} {k : DK} (h : ow l k ≠ 0) : k.1 ∈ curN l ∧ k.2.1 ∈ parN l ∧ k.2.2 ∈ parN l := by
  obtain ⟨d, hd, e⟩ := ow_pos_in h
  exact ⟨((curN_spec l).2 _).2 ⟨d, hd, by rw [e]⟩, ((parN_spec l).2 _).2 ⟨d, hd, .inl (by rw [e])⟩, ((parN_spec l).2 _).2 ⟨d, hd, .inr (by rw [e])⟩⟩
theorem ow_nn {l : List Db} (hl : ∀ d ∈ l, 1 ≤ d.2) (k : DK) : 0 ≤ ow l k := (owM_spec l hl).2.2 k
section
variable {l : List Db}
end
/-! the same debts in another order, one of them cut -/
/-! one currency alone -/
def onC (c : ByteArray) (l : List Db) : List Db := l.filter fun d => decide (d.1.1 = c)
theorem Told.on {X : List Db} {F : DK → Int} (h : Told X F) (c : ByteArray) : Told (onC c X) (fun k => if k.1 = c then F k else 0) := by
  refine ⟨List.Pairwise.filter _ h.1, fun x => ?_⟩
  unfold onC
  dsimp only
  rw [List.mem_filter, h.2, decide_eq_true_eq]
  constructor
  · rintro ⟨⟨a, b⟩, e⟩
    rw [if_pos e]
    exact ⟨a, b⟩
  · rintro ⟨a, b⟩
    by_cases e : x.1.1 = c
    · rw [if_pos e] at b; exact ⟨⟨a, b⟩, e⟩
    · rw [if_neg e] at b; omega
end Go.Proofs.YtofdnkgieigncaaGreat
