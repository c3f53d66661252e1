import Derived.Test.YtofdnkgieigncaaV0
import Derived.Test.YtofdnkgieigncaaTk
namespace Go.Proofs.Ytofdnkgieigncaa
open Go.SL
/-! ### rates: plain -/
abbrev RK := ByteArray × ByteArray × Int
abbrev Pr := ByteArray × ByteArray
/-- a rate: from, to, day; number, denominator -/
abbrev RP := RK × (Int × Int)
def rEnc (x : RP) : List D := [.sc (.string x.1.1), .sc (.string x.1.2.1), .sc (.int .i64 x.1.2.2), .sc (.int .i64 x.2.1), .sc (.int .i64 x.2.2)]
def cuB (c : UInt8) : Bool := decide (65 ≤ c.toNat) && decide (c.toNat ≤ 90)
def curOk (s : ByteArray) : Bool := decide (s.size = 3) && s.data.toList.all cuB
def mayR (x : RP) : Bool := curOk x.1.1 && (curOk x.1.2.1 && (!(decide (x.1.1 = x.1.2.1)) && (decide (0 ≤ x.1.2.2) && (decide (x.1.2.2 ≤ 1048576) && (decide (1 ≤ x.2.1) && (decide (x.2.1 ≤ 1048576) && (decide (1 ≤ x.2.2) && decide (x.2.2 ≤ 1048576))))))))
theorem mayR_t {x : RP} : mayR x = true ↔ curOk x.1.1 = true ∧ curOk x.1.2.1 = true ∧ x.1.1 ≠ x.1.2.1 ∧ (0 ≤ x.1.2.2 ∧ x.1.2.2 ≤ 1048576) ∧ (1 ≤ x.2.1 ∧ x.2.1 ≤ 1048576) ∧ (1 ≤ x.2.2 ∧ x.2.2 ≤ 1048576) := by
  simp only [mayR, Bool.and_eq_true, Bool.not_eq_true', decide_eq_true_eq, decide_eq_false_iff_not]
  simp only [and_assoc]
def setE (l : List RP) (x : RP) : Int := if mayR x = false then 1 else if (aget x.1 l).isSome = true then 5 else if 4096 ≤ l.length then 7 else 0
def setL (l : List RP) (x : RP) : List RP := if setE l x = 0 then l ++ [x] else l
theorem setE_zero {l : List RP} {x : RP} : setE l x = 0 ↔ mayR x = true ∧ x.1 ∉ akeys l ∧ l.length < 4096 := by
  unfold setE
  cases h : mayR x with
  | false => simp
  | true =>
    rw [if_neg (by decide)]
    cases h1 : aget x.1 l with
    | some a =>
      simp only [Option.isSome_some, if_true]
      have : x.1 ∈ akeys l := List.mem_map.2 ⟨_, aget_mem h1, rfl⟩
      simp [this]
    | none =>
      have := aget_none.1 h1
      simp only [if_false, Option.isSome_none, Bool.false_eq_true]
      by_cases h2 : 4096 ≤ l.length
      · rw [if_pos h2]; simp; omega
      · rw [if_neg h2]; simp [this]; omega
structure RInv (l : List RP) : Prop where
  nd : (akeys l).Nodup
  may : ∀ x ∈ l, mayR x = true
theorem setL_inv {l : List RP} (h : RInv l) (x : RP) : RInv (setL l x) ∧ (setL l x).length ≤ l.length + 1 := by
  unfold setL
  by_cases h0 : setE l x = 0
  · rw [if_pos h0]
    obtain ⟨h1, h2, _⟩ := setE_zero.1 h0
    refine ⟨⟨?_, fun y hy => ?_⟩, by simp⟩
    · unfold akeys at *
      rw [List.map_append, List.nodup_append]
      exact ⟨h.nd, by simp, fun a ha b hb e => by
        simp at hb
        subst hb
        exact h2 (e ▸ ha)⟩
    · rcases List.mem_append.1 hy with q | q
      · exact h.may y q
      · rw [List.mem_singleton.1 q]; exact h1
  · rw [if_neg h0]
    exact ⟨h, by omega⟩
/-! #### the rate of a day -/
def fitR (p : Pr) (day : Int) (x : RP) : Bool := decide (x.1.1 = p.1) && (decide (x.1.2.1 = p.2) && decide (x.1.2.2 ≤ day))
def latS (p : Pr) (day : Int) (b : Option RP) (x : RP) : Option RP := if fitR p day x && (match b with | none => true | some y => decide (y.1.2.2 < x.1.2.2)) then some x else b
def lat (l : List RP) (p : Pr) (day : Int) : Option RP := l.foldl (latS p day) none
theorem lat_snoc (l : List RP) (x : RP) (p : Pr) (day : Int) : lat (l ++ [x]) p day = latS p day (lat l p day) x := by unfold lat; rw [List.foldl_append]; rfl
theorem list_snocR {α : Type} {C : List α → Prop} (l : List α) (h0 : C []) (h1 : ∀ l x, C l → C (l ++ [x])) : C l := by
  have : ∀ m : List α, C m.reverse := by
    intro m
    induction m with
    | nil => exact h0
    | cons x m ih => rw [List.reverse_cons]; exact h1 _ _ ih
  have := this l.reverse
  rwa [List.reverse_reverse] at this
theorem lat_spec (p : Pr) (day : Int) (l : List RP) : (lat l p day = none → ∀ x ∈ l, fitR p day x = false) ∧ ∀ y, lat l p day = some y → y ∈ l ∧ fitR p day y = true ∧ ∀ x ∈ l, fitR p day x = true → x.1.2.2 ≤ y.1.2.2 := by
  refine list_snocR (C := fun l => (lat l p day = none → ∀ x ∈ l, fitR p day x = false) ∧ ∀ y, lat l p day = some y → y ∈ l ∧ fitR p day y = true ∧ ∀ x ∈ l, fitR p day x = true → x.1.2.2 ≤ y.1.2.2) l ⟨fun _ x hx => (by cases hx), fun y hy => (by cases hy)⟩ (fun l x ih => ?_)
  obtain ⟨i1, i2⟩ := ih
  rw [lat_snoc]
  unfold latS
  cases hb : lat l p day with
  | none =>
    have j1 := i1 hb
    cases hx : fitR p day x with
    | false =>
      simp only [Bool.false_and, Bool.false_eq_true, if_false]
      refine ⟨fun _ y hy => ?_, fun y hy => by cases hy⟩
      rcases List.mem_append.1 hy with q | q
      · exact j1 y q
      · rw [List.mem_singleton.1 q]; exact hx
    | true =>
      simp only [Bool.and_self, if_true]
      refine ⟨fun h => (by cases h), fun y hy => ?_⟩
      cases hy
      refine ⟨by simp, hx, fun z hz hf => ?_⟩
      rcases List.mem_append.1 hz with q | q
      · rw [j1 z q] at hf; cases hf
      · rw [List.mem_singleton.1 q]; exact Int.le_refl _
  | some y =>
    obtain ⟨k1, k2, k3⟩ := i2 y hb
    by_cases hc : fitR p day x = true ∧ y.1.2.2 < x.1.2.2
    · rw [if_pos (by simp [hc.1, hc.2])]
      refine ⟨fun h => (by cases h), fun z hz => ?_⟩
      cases hz
      refine ⟨by simp, hc.1, fun z hz hf => ?_⟩
      rcases List.mem_append.1 hz with q | q
      · have := k3 z q hf; omega
      · rw [List.mem_singleton.1 q]; exact Int.le_refl _
    · have hn : fitR p day x = true → ¬ y.1.2.2 < x.1.2.2 := fun a b => hc ⟨a, b⟩
      rw [if_neg (by
        rw [Bool.and_eq_true, decide_eq_true_eq]
        exact fun q => hn q.1 q.2)]
      refine ⟨fun h => (by cases h), fun z hz => ?_⟩
      cases hz
      refine ⟨List.mem_append_left _ k1, k2, fun z hz hf => ?_⟩
      rcases List.mem_append.1 hz with q | q
      · exact k3 z q hf
      · rw [List.mem_singleton.1 q] at hf ⊢
        have := hn hf
        omega
theorem fitR_t {p : Pr} {day : Int} {x : RP} : fitR p day x = true ↔ x.1.1 = p.1 ∧ x.1.2.1 = p.2 ∧ x.1.2.2 ≤ day := by
  simp only [fitR, Bool.and_eq_true, decide_eq_true_eq]
/-- in whatever order rates are looked at -/
theorem lat_perm {l m : List RP} (hp : l.Perm m) (hn : (akeys m).Nodup) (p : Pr) (day : Int) : lat l p day = lat m p day := by
  obtain ⟨a1, a2⟩ := lat_spec p day l
  obtain ⟨b1, b2⟩ := lat_spec p day m
  cases ha : lat l p day with
  | none =>
    have h1 := a1 ha
    cases hb : lat m p day with
    | none => rfl
    | some y =>
      obtain ⟨c1, c2, _⟩ := b2 y hb
      rw [h1 y (hp.mem_iff.2 c1)] at c2
      cases c2
  | some x =>
    obtain ⟨c1, c2, c3⟩ := a2 x ha
    cases hb : lat m p day with
    | none => rw [b1 hb x (hp.mem_iff.1 c1)] at c2; cases c2
    | some y =>
      obtain ⟨d1, d2, d3⟩ := b2 y hb
      have e1 := c3 y (hp.mem_iff.2 d1) d2
      have e2 := d3 x (hp.mem_iff.1 c1) c2
      obtain ⟨f1, f2, _⟩ := fitR_t.1 c2
      obtain ⟨g1, g2, _⟩ := fitR_t.1 d2
      have hk : x.1 = y.1 := Prod.ext (f1.trans g1.symm) (Prod.ext (f2.trans g2.symm) (by omega))
      have m1 := aget_of_mem hn (show (x.1, x.2) ∈ m from hp.mem_iff.1 c1)
      have m2 := aget_of_mem hn (show (y.1, y.2) ∈ m from d1)
      rw [hk, m2] at m1
      congr 1
      exact (Prod.ext hk (Option.some.inj m1).symm)
/-! #### the chart of a day -/
abbrev Dt := Int × Int × Int
def chS (day : Int) (M : List (Pr × Dt)) (x : RP) : List (Pr × Dt) :=
  if decide (x.1.2.2 ≤ day) && (match aget (x.1.1, x.1.2.1) M with | none => true | some o => decide (o.1 < x.1.2.2)) then aput (x.1.1, x.1.2.1) (x.1.2.2, x.2.1, x.2.2) M else M
def chM (l : List RP) (day : Int) : List (Pr × Dt) := l.foldl (chS day) []
theorem chM_snoc (l : List RP) (x : RP) (day : Int) : chM (l ++ [x]) day = chS day (chM l day) x := by unfold chM; rw [List.foldl_append]; rfl
def dtOf (x : RP) : Dt := (x.1.2.2, x.2.1, x.2.2)
theorem chM_get (day : Int) (l : List RP) : (akeys (chM l day)).Nodup ∧ ∀ p, aget p (chM l day) = (lat l p day).map dtOf := by
  refine list_snocR (C := fun l => (akeys (chM l day)).Nodup ∧ ∀ p, aget p (chM l day) = (lat l p day).map dtOf) l ⟨List.nodup_nil, fun p => rfl⟩ (fun l x ih => ?_)
  obtain ⟨i1, i2⟩ := ih
  rw [chM_snoc]
  unfold chS
  have hq := i2 (x.1.1, x.1.2.1)
  have other : ∀ p : Pr, (x.1.1, x.1.2.1) ≠ p → lat (l ++ [x]) p day = lat l p day := fun p hne => by
    rw [lat_snoc]
    unfold latS
    have : fitR p day x = false := by
      cases h : fitR p day x with
      | false => rfl
      | true => obtain ⟨h1, h2, _⟩ := fitR_t.1 h; exact absurd (Prod.ext h1 h2) hne
    rw [this]
    simp
  have same : lat (l ++ [x]) (x.1.1, x.1.2.1) day = if decide (x.1.2.2 ≤ day) && (match lat l (x.1.1, x.1.2.1) day with | none => true | some y => decide (y.1.2.2 < x.1.2.2)) then some x else lat l (x.1.1, x.1.2.1) day := by
    rw [lat_snoc]
    unfold latS fitR
    simp only [decide_true, Bool.true_and]
  have key : (match aget (x.1.1, x.1.2.1) (chM l day) with | none => true | some o => decide (o.1 < x.1.2.2)) = (match lat l (x.1.1, x.1.2.1) day with | none => true | some y => decide (y.1.2.2 < x.1.2.2)) := by
    rw [hq]
    cases lat l (x.1.1, x.1.2.1) day <;> rfl
  rw [key]
  by_cases hc : (decide (x.1.2.2 ≤ day) && (match lat l (x.1.1, x.1.2.1) day with | none => true | some y => decide (y.1.2.2 < x.1.2.2))) = true
  · rw [if_pos hc]
    rw [if_pos hc] at same
    refine ⟨nodup_put i1, fun p => ?_⟩
    rw [aget_put]
    by_cases e : (x.1.1, x.1.2.1) = p
    · subst e
      rw [if_pos rfl, same]
      rfl
    · rw [if_neg e, other p e]
      exact i2 p
  · rw [if_neg hc]
    rw [if_neg hc] at same
    refine ⟨i1, fun p => ?_⟩
    by_cases e : (x.1.1, x.1.2.1) = p
    · subst e
      rw [same]
      exact hq
    · rw [other p e]
      exact i2 p
end Go.Proofs.Ytofdnkgieigncaa
