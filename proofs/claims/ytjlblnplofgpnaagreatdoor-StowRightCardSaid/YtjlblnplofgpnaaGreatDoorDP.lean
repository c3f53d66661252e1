import Derived.Test.YtjlblnplofgpnaaGreatDoorDN
namespace Go.Proofs.YtjlblnplofgpnaaGreatDoor
open Go.SL
/-! ### the document's plan: plain -/
/-! #### texts that rise -/
end Go.Proofs.YtjlblnplofgpnaaGreatDoor
namespace Go.Proofs.YtjlblnplofgpnaaGreatDoor
open Go.SL
/-! ### what stays behind a port: plain -/
def keepB (port : Int) (x : Load) : Bool := decide (port < x.p)
def lowB (port : Int) (x y : Load) : Bool := inSt x.sl.b x.sl.r y && (decide (y.sl.t < x.sl.t) && keepB port y)
/-- how many of those that stay stand below -/
def newT (L : List Load) (port : Int) (x : Load) : Int := ((L.filter (lowB port x)).length : Nat)
def sink (L : List Load) (port : Int) (x : Load) : Load := atL x ⟨x.sl.b, x.sl.r, newT L port x⟩
def leftL (L : List Load) (port : Int) : List Load := ((lsort L).filter (keepB port)).map (sink L port)
theorem mem_left {S : Ship} {L : List Load} (hv : Inv S L) {port : Int} {y : Load} : y ∈ leftL L port ↔ ∃ x ∈ L, port < x.p ∧ y = sink L port x := by
  unfold leftL
  rw [List.mem_map]
  constructor
  · rintro ⟨x, hx, rfl⟩
    obtain ⟨h1, h2⟩ := List.mem_filter.1 hx
    exact ⟨x, (lsort_perm hv.nS).mem_iff.1 h1, by simpa [keepB] using h2, rfl⟩
  · rintro ⟨x, hx, hp, rfl⟩
    exact ⟨x, List.mem_filter.2 ⟨(lsort_perm hv.nS).mem_iff.2 hx, by simpa [keepB] using hp⟩, rfl⟩
end Go.Proofs.YtjlblnplofgpnaaGreatDoor
namespace Go.Proofs.YtjlblnplofgpnaaGreatDoor
open Go.SL
/-! ### what is planned comes off without a lift: plain -/
/-! #### a plan hangs on no order, no slots -/
end Go.Proofs.YtjlblnplofgpnaaGreatDoor
namespace Go.Proofs.YtjlblnplofgpnaaGreatDoor
open Go.SL
/-! ### a ship that is turned round: plain -/
section
variable {S : Ship} {e s : Bool}
end
end Go.Proofs.YtjlblnplofgpnaaGreatDoor
namespace Go.Proofs.YtjlblnplofgpnaaGreatDoor
open Go.SL
/-! ### the checker's order: plain -/
/-- the place of the first of the least ones, among so many -/
def nextK (l : List Load) : Nat → Nat
  | 0 => 0
  | n + 1 => match l[n + 1]?, l[nextK l n]? with
    | some x, some y => if ltP x y = true then n + 1 else nextK l n
    | _, _ => nextK l n
theorem nextK_le (l : List Load) : ∀ n, nextK l n ≤ n
  | 0 => Nat.le_refl _
  | n + 1 => by
    have := nextK_le l n
    unfold nextK
    split
    · split <;> omega
    · omega
theorem nextK_step {l : List Load} {n : Nat} {x y : Load} (hx : l[n + 1]? = some x) (hy : l[nextK l n]? = some y) : nextK l (n + 1) = if ltP x y = true then n + 1 else nextK l n := by
  rw [nextK]
  simp only [hx, hy]
theorem nextK_spec {l : List Load} : ∀ n : Nat, n < l.length → ∃ y, l[nextK l n]? = some y ∧ (∀ i z, i ≤ n → l[i]? = some z → ltP z y = false) ∧ ∀ i z, i < nextK l n → l[i]? = some z → ltP y z = true
  | 0, h => by
    obtain ⟨y, hy⟩ : ∃ y, l[0]? = some y := ⟨_, List.getElem?_eq_getElem h⟩
    refine ⟨y, hy, fun i z hi hz => ?_, fun i z hi _ => by unfold nextK at hi; omega⟩
    have : i = 0 := by omega
    subst this
    rw [hy] at hz
    rw [Option.some.inj hz]
    exact swoP.irrefl _
  | n + 1, h => by
    obtain ⟨y, hy, h1, h2⟩ := nextK_spec (l := l) n (by omega)
    obtain ⟨x, hx⟩ : ∃ x, l[n + 1]? = some x := ⟨_, List.getElem?_eq_getElem h⟩
    have hle := nextK_le l n
    rw [nextK_step hx hy]
    by_cases e : ltP x y = true
    · rw [if_pos e]
      refine ⟨x, hx, fun i z hi hz => ?_, fun i z hi hz => ?_⟩
      · by_cases q : i = n + 1
        · subst q
          rw [hx] at hz
          rw [Option.some.inj hz]
          exact swoP.irrefl _
        · cases hq : ltP z x with
          | false => rfl
          | true =>
            have := swoP.trans _ _ _ hq e
            rw [h1 i z (by omega) hz] at this
            cases this
      · cases hq : ltP x z with
        | true => rfl
        | false =>
          have := swoP.ntrans _ _ _ hq (h1 i z (by omega) hz)
          rw [e] at this
          cases this
    · have e : ltP x y = false := by simpa using e
      rw [if_neg (by rw [e]; decide)]
      refine ⟨y, hy, fun i z hi hz => ?_, h2⟩
      by_cases q : i = n + 1
      · subst q
        rw [hx] at hz
        rw [← Option.some.inj hz]
        exact e
      · exact h1 i z (by omega) hz
theorem insL_front {x : Load} : ∀ {l : List Load}, (∀ y ∈ l, ltP x y = true) → insL ltP x l = x :: l
  | [], _ => rfl
  | y :: l, h => by
    unfold insL
    rw [if_pos (h y List.mem_cons_self)]
/-- the first of the least ones stands first -/
theorem isP_first {A : List Load} {x : Load} (hA : ∀ y ∈ A, ltP x y = true) (B : List Load) (hB : ∀ y ∈ B, ltP y x = false) : isL ltP (A ++ x :: B) = x :: isL ltP (A ++ B) := by
  induction B using lsnoc with
  | h0 =>
    rw [List.append_nil, isL_snoc]
    exact insL_front (fun y hy => hA y ((isL_perm A).mem_iff.1 hy))
  | h1 B b ih =>
    have e1 : A ++ x :: (B ++ [b]) = (A ++ x :: B) ++ [b] := by simp
    have e2 : A ++ (B ++ [b]) = (A ++ B) ++ [b] := by simp
    rw [e1, e2, isL_snoc, isL_snoc, ih (fun y hy => hB y (List.mem_append_left _ hy))]
    show insL ltP b (x :: isL ltP (A ++ B)) = _
    rw [insL, if_neg (by rw [hB b (by simp)]; decide)]
theorem isP_next {l : List Load} {k : Nat} {x : Load} (hl : 0 < l.length) (hk : nextK l (l.length - 1) = k) (hx : l[k]? = some x) : isL ltP l = x :: isL ltP (l.eraseIdx k) := by
  obtain ⟨y, hy, h1, h2⟩ := nextK_spec (l := l) (l.length - 1) (by omega)
  rw [hk] at hy h2
  rw [hx] at hy
  obtain rfl := Option.some.inj hy
  obtain ⟨hlt, e⟩ := List.getElem?_eq_some_iff.1 hx
  have hs : l = l.take k ++ x :: l.drop (k + 1) := by rw [← e, List.getElem_cons_drop, List.take_append_drop]
  have h3 := isP_first (A := l.take k) (x := x) (fun y hy => by
    obtain ⟨i, hi⟩ := List.getElem?_of_mem hy
    rw [List.getElem?_take] at hi
    split at hi
    · exact h2 i y (by assumption) hi
    · cases hi) (l.drop (k + 1)) (fun y hy => by
    obtain ⟨i, hi⟩ := List.getElem?_of_mem hy
    rw [List.getElem?_drop] at hi
    have := (List.getElem?_eq_some_iff.1 hi).1
    exact h1 (k + 1 + i) y (by omega) hi)
  rw [← hs] at h3
  rw [h3, List.eraseIdx_eq_take_drop_succ]
end Go.Proofs.YtjlblnplofgpnaaGreatDoor
