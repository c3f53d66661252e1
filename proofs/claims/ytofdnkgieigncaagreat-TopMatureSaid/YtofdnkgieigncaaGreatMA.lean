/- TopMature, plain: calendars, the first day worked on; divisors put away. -/
import Derived.Test.YtofdnkgieigncaaGreatV0
namespace Go.Proofs.YtofdnkgieigncaaGreat
open Go.SL

def mI (n : Int) : List D := [.sc (.int .i64 n)]
/-- numbers that rise, each from 0 to most -/
def Rises (most : Int) (l : List Int) : Prop := ∀ (k : Nat) (n : Int), l[k]? = some n → (0 ≤ n ∧ n ≤ most) ∧ ∀ m, 0 < k → l[k - 1]? = some m → m < n
open Classical in
noncomputable def risB (most : Int) (l : List Int) : Bool := decide (Rises most l)
open Classical in
theorem risB_t {most : Int} {l : List Int} (h : Rises most l) : risB most l = true := by unfold risB; exact decide_eq_true h
open Classical in
theorem risB_f {most : Int} {l : List Int} (h : ¬ Rises most l) : risB most l = false := by unfold risB; exact decide_eq_false h
open Classical in
theorem risB_iff {most : Int} {l : List Int} : risB most l = true ↔ Rises most l := by unfold risB; exact decide_eq_true_iff
theorem Rises.ltAt {most : Int} {l : List Int} (h : Rises most l) {i : Nat} {a : Int} (ha : l[i]? = some a) : ∀ (n : Nat) {b : Int}, l[i + n + 1]? = some b → a < b
  | 0, b, hb => (h (i + 1) b (by simpa using hb)).2 a (by omega) (by simpa using ha)
  | n + 1, b, hb => by
    have hlt : i + n + 1 < l.length := by have := (List.getElem?_eq_some_iff.1 hb).1; omega
    have h1 := h.ltAt ha n (List.getElem?_eq_getElem hlt)
    have h2 := (h (i + (n + 1) + 1) b hb).2 l[i + n + 1] (by omega) (by rw [show i + (n + 1) + 1 - 1 = i + n + 1 by omega]; exact List.getElem?_eq_getElem hlt)
    omega
theorem Rises.lt {most : Int} {l : List Int} (h : Rises most l) {i j : Nat} {a b : Int} (ha : l[i]? = some a) (hb : l[j]? = some b) (hij : i < j) : a < b :=
  h.ltAt ha (j - i - 1) (by rw [show i + (j - i - 1) + 1 = j by omega]; exact hb)
/-- a search by halves -/
structure BSt (l : List Int) (d : Int) (i j : Nat) : Prop where
  le : i ≤ j
  len : j ≤ l.length
  lo : ∀ (t : Nat) (m : Int), t < i → l[t]? = some m → m < d
  hi : ∀ (t : Nat) (m : Int), j ≤ t → l[t]? = some m → d ≤ m
theorem BSt.zero (l : List Int) (d : Int) : BSt l d 0 l.length := ⟨by omega, by omega, fun t m h => by omega, fun t m h hm => by have := (List.getElem?_eq_some_iff.1 hm).1; omega⟩
theorem BSt.up {most : Int} {l : List Int} {d : Int} {i j : Nat} (h : BSt l d i j) (hr : Rises most l) {k : Nat} {x : Int} (hx : l[k]? = some x) (hik : i ≤ k) (hkj : k < j) (hlt : x < d) : BSt l d (k + 1) j := by
  refine ⟨by omega, h.len, fun t m ht hm => ?_, h.hi⟩
  rcases Nat.lt_or_ge t k with h1 | h1
  · have := hr.lt hm hx h1; omega
  · have : t = k := by omega
    subst this
    rw [hx] at hm; cases hm; exact hlt
theorem BSt.down {most : Int} {l : List Int} {d : Int} {i j : Nat} (h : BSt l d i j) (hr : Rises most l) {k : Nat} {x : Int} (hx : l[k]? = some x) (hik : i ≤ k) (hkj : k < j) (hge : d ≤ x) : BSt l d i k := by
  have := h.len
  refine ⟨hik, by omega, h.lo, fun t m ht hm => ?_⟩
  rcases Nat.lt_or_ge k t with h1 | h1
  · have := hr.lt hx hm h1; omega
  · have : t = k := by omega
    subst this
    rw [hx] at hm; cases hm; exact hge
theorem BSt.done {most : Int} {l : List Int} {d : Int} {i : Nat} (h : BSt l d i i) (hr : Rises most l) : d ∈ l ↔ l[i]? = some d := by
  constructor
  · intro hd
    obtain ⟨t, ht⟩ := List.getElem?_of_mem hd
    rcases Nat.lt_trichotomy t i with h1 | h1 | h1
    · have := h.lo t d h1 ht; omega
    · rw [← h1]; exact ht
    · exfalso
      have hi : i < l.length := by have := (List.getElem?_eq_some_iff.1 ht).1; omega
      have h2 := h.hi i _ (Nat.le_refl _) (List.getElem?_eq_getElem hi)
      have h3 := hr.lt (List.getElem?_eq_getElem hi) ht h1
      omega
  · exact fun h => List.mem_of_getElem? h
def loI (l : List Int) (d : Int) : Nat := l.countP fun x => decide (x < d)
theorem BSt.cnt {l : List Int} {d : Int} {i : Nat} (h : BSt l d i i) : loI l d = i := by
  have h1 : (l.take i).countP (fun x => decide (x < d)) = (l.take i).length := List.countP_eq_length.2 (fun x hx => by
    obtain ⟨t, ht⟩ := List.getElem?_of_mem hx
    rw [List.getElem?_take] at ht
    split at ht
    · rename_i hlt; exact decide_eq_true (h.lo t x hlt ht)
    · cases ht)
  have h2 : (l.drop i).countP (fun x => decide (x < d)) = 0 := List.countP_eq_zero.2 (fun x hx => by
    obtain ⟨t, ht⟩ := List.getElem?_of_mem hx
    rw [List.getElem?_drop] at ht
    have := h.hi (i + t) x (by omega) ht
    simp
    omega)
  unfold loI
  conv => lhs; rw [← List.take_append_drop i l]
  rw [List.countP_append, h1, h2, List.length_take]
  have := h.len
  omega
def wkB (R : List Int) (d : Int) : Bool := decide (d % 7 ∈ R)
def rstB (R H : List Int) (d : Int) : Bool := wkB R d || decide (d ∈ H)
/-- the first day that doesn't rest -/
def nxF (f : Int → Bool) : Nat → Int → Option Int
  | 0, _ => none
  | n + 1, d => if f d = true then nxF f n (d + 1) else some d
theorem nxF_some {f : Int → Bool} : ∀ {n : Nat} {d e : Int}, nxF f n d = some e → d ≤ e ∧ e < d + n ∧ f e = false
  | 0, _, _, h => by cases h
  | n + 1, d, e, h => by
    unfold nxF at h
    by_cases hf : f d = true
    · rw [if_pos hf] at h
      have := nxF_some h
      exact ⟨by omega, by omega, this.2.2⟩
    · rw [if_neg hf] at h
      cases h
      exact ⟨by omega, by omega, by simpa using hf⟩
/-! ### divisors put away -/
def stp (t : Nat) (s : List Nat × List Nat) : List Nat × List Nat :=
  (s.1.set (t / 2) (s.1.getD (t / 2) 0 / Nat.gcd (s.1.getD (t / 2) 0) (s.2.getD (t % 2) 1)), s.2.set (t % 2) (s.2.getD (t % 2) 1 / Nat.gcd (s.1.getD (t / 2) 0) (s.2.getD (t % 2) 1)))
def stN (s : List Nat × List Nat) : Nat → List Nat × List Nat
  | 0 => s
  | t + 1 => stp t (stN s t)
/-- three numbers from 0 on, two above 0 -/
structure StI (A B C D E : Nat) (s : List Nat × List Nat) : Prop where
  ex : ∃ a b c d e : Nat, s = ([a, b, c], [d, e]) ∧ a ≤ A ∧ b ≤ B ∧ c ≤ C ∧ (1 ≤ d ∧ d ≤ D) ∧ (1 ≤ e ∧ e ≤ E)
theorem div_ok {a g A : Nat} (h : a ≤ A) : a / g ≤ A := Nat.le_trans (Nat.div_le_self _ _) h
theorem den_ok {a d D : Nat} (h : 1 ≤ d ∧ d ≤ D) : 1 ≤ d / Nat.gcd a d ∧ d / Nat.gcd a d ≤ D :=
  ⟨Nat.div_pos (Nat.le_of_dvd (by omega) (Nat.gcd_dvd_right a d)) (Nat.gcd_pos_of_pos_right a (by omega)), div_ok h.2⟩
theorem StI.step {A B C D E : Nat} {s : List Nat × List Nat} (h : StI A B C D E s) (t : Nat) (ht : t < 6) : StI A B C D E (stp t s) := by
  obtain ⟨a, b, c, d, e, rfl, h1, h2, h3, h4, h5⟩ := h.ex
  have hc : t = 0 ∨ t = 1 ∨ t = 2 ∨ t = 3 ∨ t = 4 ∨ t = 5 := by omega
  rcases hc with rfl | rfl | rfl | rfl | rfl | rfl
  · exact ⟨_, _, _, _, _, rfl, div_ok h1, h2, h3, den_ok h4, h5⟩
  · exact ⟨_, _, _, _, _, rfl, div_ok h1, h2, h3, h4, den_ok h5⟩
  · exact ⟨_, _, _, _, _, rfl, h1, div_ok h2, h3, den_ok h4, h5⟩
  · exact ⟨_, _, _, _, _, rfl, h1, div_ok h2, h3, h4, den_ok h5⟩
  · exact ⟨_, _, _, _, _, rfl, h1, h2, div_ok h3, den_ok h4, h5⟩
  · exact ⟨_, _, _, _, _, rfl, h1, h2, div_ok h3, h4, den_ok h5⟩
theorem StI.all {A B C D E : Nat} {s : List Nat × List Nat} (h : StI A B C D E s) : ∀ t ≤ 6, StI A B C D E (stN s t)
  | 0, _ => h
  | t + 1, ht => (h.all t (by omega)).step t (by omega)
end Go.Proofs.YtofdnkgieigncaaGreat
