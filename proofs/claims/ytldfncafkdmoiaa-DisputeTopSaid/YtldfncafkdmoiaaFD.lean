import Derived.Test.YtldfncafkdmoiaaTk
namespace Go.SL
/-! ### a stable merge: plain -/
section
variable {α : Type} {lt : α → α → Bool}
theorem insL_low {x : α} {Q : List α} (h : ∀ q ∈ Q, lt x q = true) : ∀ P : List α, insL lt x (P ++ Q) = insL lt x P ++ Q
  | [] => by
    show insL lt x Q = [x] ++ Q
    cases Q with
    | nil => rfl
    | cons q Q => unfold insL; rw [if_pos (h q List.mem_cons_self)]; rfl
  | y :: P => by
    rw [List.cons_append]
    unfold insL
    split
    · rfl
    · rw [insL_low h P]; rfl
theorem insL_high {x : α} {Q : List α} : ∀ {P : List α}, (∀ p ∈ P, lt x p = false) → insL lt x (P ++ Q) = P ++ insL lt x Q
  | [], _ => rfl
  | y :: P, h => by
    rw [List.cons_append]
    conv => lhs; unfold insL
    rw [if_neg (by rw [h y List.mem_cons_self]; decide), insL_high (fun p hp => h p (List.mem_cons_of_mem _ hp))]
    rfl
def insAll (lt : α → α → Bool) (P Y : List α) : List α := Y.foldl (fun acc x => insL lt x acc) P
theorem isL_app (X Y : List α) : isL lt (X ++ Y) = insAll lt (isL lt X) Y := by unfold isL insAll; rw [List.foldl_append]
theorem insAll_app (P X Y : List α) : insAll lt P (X ++ Y) = insAll lt (insAll lt P X) Y := by unfold insAll; rw [List.foldl_append]
theorem insAll_low {Q : List α} : ∀ {Y P : List α}, (∀ y ∈ Y, ∀ q ∈ Q, lt y q = true) → insAll lt (P ++ Q) Y = insAll lt P Y ++ Q
  | [], P, _ => rfl
  | y :: Y, P, h => by
    show insAll lt (insL lt y (P ++ Q)) Y = insAll lt (insL lt y P) Y ++ Q
    rw [insL_low (h y List.mem_cons_self), insAll_low (fun z hz => h z (List.mem_cons_of_mem _ hz))]
theorem insAll_high {P : List α} : ∀ {Y Q : List α}, (∀ y ∈ Y, ∀ p ∈ P, lt y p = false) → insAll lt (P ++ Q) Y = P ++ insAll lt Q Y
  | [], Q, _ => rfl
  | y :: Y, Q, h => by
    show insAll lt (insL lt y (P ++ Q)) Y = P ++ insAll lt (insL lt y Q) Y
    rw [insL_high (h y List.mem_cons_self), insAll_high (fun z hz => h z (List.mem_cons_of_mem _ hz))]
/-- the low ones and the high ones of two rows are sorted apart -/
theorem isL_parts {A1 A2 B1 B2 : List α} (h1 : ∀ y ∈ A2, ∀ p ∈ A1, lt y p = false) (h2 : ∀ y ∈ B1, ∀ q ∈ A2, lt y q = true) (h3 : ∀ y ∈ B2, ∀ p ∈ A1, lt y p = false) (h4 : ∀ y ∈ B2, ∀ p ∈ B1, lt y p = false) :
    isL lt (A1 ++ A2 ++ (B1 ++ B2)) = isL lt (A1 ++ B1) ++ isL lt (A2 ++ B2) := by
  have m1 : ∀ p, p ∈ isL lt A1 ↔ p ∈ A1 := fun p => (isL_perm A1).mem_iff
  have m2 : ∀ q, q ∈ isL lt A2 ↔ q ∈ A2 := fun q => (isL_perm A2).mem_iff
  have e1 : isL lt (A1 ++ A2) = isL lt A1 ++ isL lt A2 := by
    rw [isL_app]
    have := insAll_high (lt := lt) (P := isL lt A1) (Q := []) (Y := A2) (fun y hy p hp => h1 y hy p ((m1 p).1 hp))
    rw [List.append_nil] at this
    exact this
  rw [isL_app, e1, insAll_app, insAll_low (fun y hy q hq => h2 y hy q ((m2 q).1 hq)), ← isL_app]
  rw [insAll_high (fun y hy p hp => by
    have hp := (isL_perm (A1 ++ B1)).mem_iff.1 hp
    rcases List.mem_append.1 hp with q | q
    · exact h3 y hy p q
    · exact h4 y hy p q), ← isL_app]
def SortedL (lt : α → α → Bool) (l : List α) : Prop := l.Pairwise fun a b => lt b a = false
theorem isL_self (l : List α) : SortedL lt l → isL lt l = l := by
  have : ∀ (Y P : List α), SortedL lt (P ++ Y) → insAll lt P Y = P ++ Y := by
    intro Y
    induction Y with
    | nil => intro P _; unfold insAll; rw [List.append_nil]; rfl
    | cons y Y ih =>
      intro P h
      show insAll lt (insL lt y P) Y = _
      have h0 := h
      unfold SortedL at h
      rw [List.pairwise_append] at h
      have e : insL lt y P = P ++ [y] := by
        have := insL_at (lt := lt) (x := y) (A := P) (B := []) (fun p hp => h.2.2 p hp y List.mem_cons_self) (by simp)
        rw [List.append_nil] at this
        exact this
      rw [e, ih (P ++ [y]) (by rw [List.append_assoc]; exact h0), List.append_assoc]
      rfl
  intro h
  exact this l [] h
/-- by the two that lie at the cut -/
theorem cut_low (hO : Sort.SWO lt) {A2 B1 : List α} (ha : SortedL lt A2) (hb : SortedL lt B1) (h : ∀ b a, B1[B1.length - 1]? = some b → A2[0]? = some a → lt b a = true) : ∀ y ∈ B1, ∀ q ∈ A2, lt y q = true := by
  intro y hy q hq
  obtain ⟨i, hi⟩ := List.getElem?_of_mem hy
  obtain ⟨j, hj⟩ := List.getElem?_of_mem hq
  have hil := (List.getElem?_eq_some_iff.1 hi).1
  have hjl := (List.getElem?_eq_some_iff.1 hj).1
  obtain ⟨b, hb1⟩ : ∃ b, B1[B1.length - 1]? = some b := ⟨_, List.getElem?_eq_getElem (by omega)⟩
  obtain ⟨a, ha1⟩ : ∃ a, A2[0]? = some a := ⟨_, List.getElem?_eq_getElem (by omega)⟩
  have h0 := h b a hb1 ha1
  have rel : ∀ {l : List α} {i j : Nat} {x z : α}, SortedL lt l → l[i]? = some x → l[j]? = some z → i ≤ j → lt z x = false := by
    intro l i j x z hl hx hz hij
    obtain ⟨hx1, hx2⟩ := List.getElem?_eq_some_iff.1 hx
    obtain ⟨hz1, hz2⟩ := List.getElem?_eq_some_iff.1 hz
    by_cases e : i = j
    · subst e
      rw [hx2] at hz2
      rw [hz2]
      exact hO.irrefl _
    · have := List.pairwise_iff_getElem.1 hl i j hx1 hz1 (by omega)
      rwa [hx2, hz2] at this
  have h1 := rel hb hi hb1 (by omega)
  have h2 := rel ha ha1 hj (by omega)
  cases hq2 : lt y q with
  | true => rfl
  | false =>
    exfalso
    -- q ≤ y would give a ≤ b
    have h3 : lt b q = false := hO.ntrans _ _ _ h1 hq2
    have h4 : lt b a = false := hO.ntrans _ _ _ h3 h2
    rw [h0] at h4
    cases h4
theorem cut_high (hO : Sort.SWO lt) {A1 B2 : List α} (ha : SortedL lt A1) (hb : SortedL lt B2) (h : ∀ b a, B2[0]? = some b → A1[A1.length - 1]? = some a → lt b a = false) : ∀ y ∈ B2, ∀ p ∈ A1, lt y p = false := by
  intro y hy p hp
  obtain ⟨i, hi⟩ := List.getElem?_of_mem hy
  obtain ⟨j, hj⟩ := List.getElem?_of_mem hp
  have hil := (List.getElem?_eq_some_iff.1 hi).1
  have hjl := (List.getElem?_eq_some_iff.1 hj).1
  obtain ⟨b, hb1⟩ : ∃ b, B2[0]? = some b := ⟨_, List.getElem?_eq_getElem (by omega)⟩
  obtain ⟨a, ha1⟩ : ∃ a, A1[A1.length - 1]? = some a := ⟨_, List.getElem?_eq_getElem (by omega)⟩
  have h0 := h b a hb1 ha1
  have rel : ∀ {l : List α} {i j : Nat} {x z : α}, SortedL lt l → l[i]? = some x → l[j]? = some z → i ≤ j → lt z x = false := by
    intro l i j x z hl hx hz hij
    obtain ⟨hx1, hx2⟩ := List.getElem?_eq_some_iff.1 hx
    obtain ⟨hz1, hz2⟩ := List.getElem?_eq_some_iff.1 hz
    by_cases e : i = j
    · subst e
      rw [hx2] at hz2
      rw [hz2]
      exact hO.irrefl _
    · have := List.pairwise_iff_getElem.1 hl i j hx1 hz1 (by omega)
      rwa [hx2, hz2] at this
  have h1 := rel hb hb1 hi (by omega)
  have h2 := rel ha hj ha1 (by omega)
  exact hO.ntrans _ _ _ (hO.ntrans _ _ _ h1 h0) h2
end
end Go.SL
namespace Go.SL
/-! ### slices' symMerge: plain -/
section
variable {α : Type} {lt : α → α → Bool}
theorem sorted_rel (hO : Sort.SWO lt) {l : List α} {i j : Nat} {x z : α} (hl : SortedL lt l) (hx : l[i]? = some x) (hz : l[j]? = some z) (hij : i ≤ j) : lt z x = false := by
  obtain ⟨hx1, hx2⟩ := List.getElem?_eq_some_iff.1 hx
  obtain ⟨hz1, hz2⟩ := List.getElem?_eq_some_iff.1 hz
  by_cases e : i = j
  · subst e
    rw [hx2] at hz2
    rw [hz2]
    exact hO.irrefl _
  · have := List.pairwise_iff_getElem.1 hl i j hx1 hz1 (by omega)
    rwa [hx2, hz2] at this
theorem sorted_take {l : List α} (h : SortedL lt l) (k : Nat) : SortedL lt (l.take k) := List.Pairwise.sublist (List.take_sublist k l) h
theorem sorted_drop {l : List α} (h : SortedL lt l) (k : Nat) : SortedL lt (l.drop k) := List.Pairwise.sublist (List.drop_sublist k l) h
theorem sorted_cut {l : List α} (h : SortedL lt l) (k : Nat) : ∀ y ∈ l.drop k, ∀ p ∈ l.take k, lt y p = false := by
  unfold SortedL at h
  rw [← List.take_append_drop k l, List.pairwise_append] at h
  exact fun y hy p hp => h.2.2 p hp y hy
theorem mem_take_at {l : List α} {k : Nat} {y : α} (h : y ∈ l.take k) : ∃ i, i < k ∧ l[i]? = some y := by
  obtain ⟨i, hi⟩ := List.getElem?_of_mem h
  rw [List.getElem?_take] at hi
  split at hi
  · exact ⟨i, by omega, hi⟩
  · cases hi
theorem mem_drop_at {l : List α} {k : Nat} {y : α} (h : y ∈ l.drop k) : ∃ i, k ≤ i ∧ l[i]? = some y := by
  obtain ⟨i, hi⟩ := List.getElem?_of_mem h
  rw [List.getElem?_drop] at hi
  exact ⟨k + i, by omega, hi⟩
theorem merge_l {x : α} {Y : List α} {k : Nat} (hY : SortedL lt Y) (h1 : ∀ y ∈ Y.take k, lt y x = true) (h2 : ∀ y ∈ Y.drop k, lt y x = false) : isL lt ([x] ++ Y) = Y.take k ++ x :: Y.drop k := by
  have e : isL lt ([] ++ [x] ++ (Y.take k ++ Y.drop k)) = isL lt ([] ++ Y.take k) ++ isL lt ([x] ++ Y.drop k) :=
    isL_parts (by simp) (fun y hy q hq => by rw [List.mem_singleton.1 hq]; exact h1 y hy) (by simp) (sorted_cut hY k)
  rw [List.nil_append, List.take_append_drop, List.nil_append, isL_self _ (sorted_take hY k)] at e
  rw [e, isL_self _ (show SortedL lt ([x] ++ Y.drop k) from List.pairwise_cons.2 ⟨h2, sorted_drop hY k⟩)]
  rfl
theorem merge_r {y : α} {X : List α} {k : Nat} (hX : SortedL lt X) (h1 : ∀ z ∈ X.take k, lt y z = false) (h2 : ∀ z ∈ X.drop k, lt y z = true) : isL lt (X ++ [y]) = X.take k ++ y :: X.drop k := by
  rw [isL_snoc, isL_self _ hX]
  have := insL_at (lt := lt) h1 h2
  rwa [List.take_append_drop] at this
theorem low_up (hO : Sort.SWO lt) {x c : α} {Y : List α} {h : Nat} (hY : SortedL lt Y) (hc : Y[h]? = some c) (hl : lt c x = true) : ∀ y ∈ Y.take (h + 1), lt y x = true := by
  intro y hy
  obtain ⟨i, hi, e⟩ := mem_take_at hy
  have h1 := sorted_rel hO hY e hc (by omega)
  cases hq : lt y x with
  | true => rfl
  | false =>
    have := hO.ntrans _ _ _ h1 hq
    rw [hl] at this
    cases this
theorem low_dn (hO : Sort.SWO lt) {x c : α} {Y : List α} {h : Nat} (hY : SortedL lt Y) (hc : Y[h]? = some c) (hl : lt c x = false) : ∀ y ∈ Y.drop h, lt y x = false := by
  intro y hy
  obtain ⟨i, hi, e⟩ := mem_drop_at hy
  exact hO.ntrans _ _ _ (sorted_rel hO hY hc e hi) hl
theorem high_up (hO : Sort.SWO lt) {y c : α} {X : List α} {h : Nat} (hX : SortedL lt X) (hc : X[h]? = some c) (hl : lt y c = false) : ∀ z ∈ X.take (h + 1), lt y z = false := by
  intro z hz
  obtain ⟨i, hi, e⟩ := mem_take_at hz
  exact hO.ntrans _ _ _ hl (sorted_rel hO hX e hc (by omega))
theorem high_dn (hO : Sort.SWO lt) {y c : α} {X : List α} {h : Nat} (hX : SortedL lt X) (hc : X[h]? = some c) (hl : lt y c = true) : ∀ z ∈ X.drop h, lt y z = true := by
  intro z hz
  obtain ⟨i, hi, e⟩ := mem_drop_at hz
  have h1 := sorted_rel hO hX hc e hi
  cases hq : lt y z with
  | true => rfl
  | false =>
    have := hO.ntrans _ _ _ hq h1
    rw [hl] at this
    cases this
theorem sym_split (hO : Sort.SWO lt) {X Y : List α} (hX : SortedL lt X) (hY : SortedL lt Y) {i j : Nat} (hi : i ≤ X.length) (hj : j ≤ Y.length)
    (hlo : 0 < j → ∀ x y, X[i]? = some x → Y[j - 1]? = some y → lt y x = true) (hhi : 0 < i → ∀ x y, X[i - 1]? = some x → Y[j]? = some y → lt y x = false) :
    isL lt (X ++ Y) = isL lt (X.take i ++ Y.take j) ++ isL lt (X.drop i ++ Y.drop j) := by
  have e := isL_parts (lt := lt) (A1 := X.take i) (A2 := X.drop i) (B1 := Y.take j) (B2 := Y.drop j) (sorted_cut hX i)
    (cut_low hO (sorted_drop hX i) (sorted_take hY j) (fun b a hb ha => by
      rw [List.length_take, Nat.min_eq_left hj, List.getElem?_take] at hb
      split at hb
      · rw [List.getElem?_drop, Nat.add_zero] at ha
        exact hlo (by omega) a b ha hb
      · cases hb))
    (cut_high hO (sorted_take hX i) (sorted_drop hY j) (fun b a hb ha => by
      rw [List.length_take, Nat.min_eq_left hi, List.getElem?_take] at ha
      split at ha
      · rw [List.getElem?_drop, Nat.add_zero] at hb
        exact hhi (by omega) a b ha hb
      · cases ha))
    (sorted_cut hY j)
  rwa [List.take_append_drop, List.take_append_drop] at e
theorem isL_nilr {X : List α} (h : SortedL lt X) : isL lt (X ++ []) = X := by rw [List.append_nil]; exact isL_self _ h
theorem isL_nill {X : List α} (h : SortedL lt X) : isL lt ([] ++ X) = X := by rw [List.nil_append]; exact isL_self _ h
end
end Go.SL
