/- The layer 'SL': slices.Sort at strings, by the shelf's contract. -/
import Derived.Test.YtofdnkgieigncaaSp
import Derived.Test.YtofdnkgieigncaaSq
import Derived.Test.YtofdnkgieigncaaSm
import Derived.Test.YtofdnkgieigncaaTa
import Derived.Sort.EncStr
import Derived.Sort.Walk0
namespace Go.SL
open Go.RowKit Go.Proofs Go.Shelf
def sN (s : ByteArray) : List D := [.sc (.string s)]
def sortS (l : List ByteArray) : List ByteArray := l.mergeSort fun x y => !lts y x
def bL (s : ByteArray) : List UInt8 := s.data.toList
theorem lts_lt (a b : ByteArray) : lts a b = decide (bL a < bL b) := by rw [lts_d, ByteArray.toList_eq, ByteArray.toList_eq, bytesLess_eq]; rfl
theorem encStr_bL (s : ByteArray) : encStr (bL s) = .string s := rfl
theorem sortS_map (l : List ByteArray) : (l.map bL).mergeSort (fun x y => decide (x ≤ y)) = (sortS l).map bL := by
  unfold sortS
  rw [List.map_mergeSort (s := fun x y => decide (x ≤ y)) (fun a _ b _ => by
    rw [lts_lt]
    by_cases h : bL b < bL a
    · rw [decide_eq_true h, decide_eq_false (fun q => q h)]; rfl
    · rw [decide_eq_false h, decide_eq_true (show bL a ≤ bL b from h)]; rfl)]
theorem sortS_perm (l : List ByteArray) : (sortS l).Perm l := List.mergeSort_perm _ _
theorem sortS_sorted (l : List ByteArray) : (sortS l).Pairwise fun x y => lts y x = false := by
  have := List.pairwise_mergeSort (le := fun x y : ByteArray => !lts y x) (fun a b c h1 h2 => by simp only [Bool.not_eq_true'] at *; exact lts_ntrans h2 h1) (fun a b => by
    simp only [Bool.or_eq_true, Bool.not_eq_true']
    cases h : lts b a
    · exact .inl rfl
    · exact .inr (lts_asymm h)) l
  exact this.imp (fun h => by simpa using h)
section
variable {P : Program} {ρ : Ren} {w : World} {X : Nat → Prop}
theorem strs_holds {g e : Nat} {cur : Array Value} (hb : w.heap[g]? = some (.cells cur e (0, 0))) (zs : List ByteArray)
    (hc : ∀ (i : Nat) (x : List D), (zs.map sN)[i]? = some x → x.length = 1 ∧ ∀ (j : Nat) (y : D), x[j]? = some y → ∃ u, cur[i * 1 + j]? = some u ∧ RepD w X y u) : Sort.Holds encStr w g 0 (zs.map bL).toArray := by
  intro j hj
  have hj' : j < zs.length := by simpa using hj
  obtain ⟨_, h2⟩ := hc j (sN zs[j]) (by simp [hj'])
  obtain ⟨u, h3, h4⟩ := h2 0 (.sc (.string zs[j])) rfl
  cases h4
  refine ⟨?_, by simp [World.frozen?, hb]⟩
  rw [Nat.mul_one, Nat.add_zero] at h3
  simp only [World.cell?, hb, Nat.zero_add, Option.isSome_none, Bool.false_eq_true, if_false, h3]
  simp [bL, hj']
theorem strs_cells (ts : List ByteArray) {d : Array (List UInt8)} (h : ∀ i : Nat, i < ts.length → d[i]? = (ts.map bL)[i]?) : ∀ (i : Nat) (x : List D), (ts.map sN)[i]? = some x → ∀ (j : Nat) (y : D), x[j]? = some y → ∃ a, d[i * 1 + j]? = some a ∧ RepD w X y (encStr a) := by
  intro i x hi j y hj
  rw [List.getElem?_map, Option.map_eq_some_iff] at hi
  obtain ⟨z, hz, rfl⟩ := hi
  have hj0 : j = 0 := by
    have := (List.getElem?_eq_some_iff.1 hj).1
    simp [sN] at this
    exact this
  subst hj0
  cases hj
  refine ⟨bL z, ?_, by rw [encStr_bL]; exact .sc _ rfl⟩
  rw [Nat.mul_one, Nat.add_zero, h i (List.getElem?_eq_some_iff.1 hz).1, List.getElem?_map, hz]
  rfl
theorem strs_one (ts : List ByteArray) : ∀ (i : Nat) (x : List D), (ts.map sN)[i]? = some x → x.length = 1 := by
  intro i x hi
  rw [List.getElem?_map, Option.map_eq_some_iff] at hi
  obtain ⟨z, hz, rfl⟩ := hi
  rfl
theorem sortStrs_ac (L : Lays.n190 P ρ) (hf : Callable P (ρ.f 190)) (e n : Nat) (zs : List ByteArray) (hn : n = zs.length) (hz : zs.length ≤ 140737488351232) :
    AC P (ρ.f 190) [.own 1000 n] (H0 e 1 (zs.map sN)) [1000] (fun r h' => r = .tup [] ∧ SubH (H0 e 1 ((sortS zs).map sN)) h') := by
  refine ⟨hf, fun w X G vs r hl hv => ?_⟩
  match vs, hl with
  | [v], _ =>
    obtain ⟨e1, hrow⟩ := row_open r (by simpa using hn) (hv 0 _ v rfl rfl)
    rcases hrow with ⟨hnil, hes⟩ | ⟨g, cap, cur, e2, e3, e4, e5, e6, e7⟩
    · have : zs = [] := by simpa using hes
      subst this
      subst hnil
      refine (Any.slices_Sort_string_none L none 0 w).mono ?_
      rintro ex w' ⟨rfl, rfl⟩
      exact ⟨_, .tup [], H0 e 1 [], G, rfl, r, .tup [] #[] rfl (fun i c v hc _ => by simp at hc), rfl, by unfold sortS; rw [List.mergeSort_nil]; exact ⟨hget_one, trivial⟩⟩
    · have hl1 : (zs.map sN).length = zs.length := List.length_map _
      have hl2 : (zs.map bL).length = zs.length := List.length_map _
      rw [e2] at e1
      subst e2
      rw [hl1]
      have key := Any.slices_Sort_string L g 0 cap (zs.map bL) w (strs_holds e3 zs e7) (heap_lt e3) (by omega)
      rw [hl2] at key
      refine key.mono ?_
      rintro ex w' ⟨rfl, q, os, rfl⟩
      rw [sortS_map]
      have ht : (sortS zs).length = zs.length := (sortS_perm zs).length_eq
      generalize sortS zs = ts at ht ⊢
      have r' := row_put (es' := ts.map sN) (enc := encStr) (q := q) (os := os) r e1.symm e3 e4 e5 e6 (ts.map bL).toArray 1000 (fun _ => ⟨rfl, by simp [ht]⟩) (by simp [ht]) (by simp) (by simp [ht]) (strs_one ts) (strs_cells ts (fun i _ => by simp))
      exact ⟨_, .tup [], _, _, rfl, r', .tup [] #[] rfl (fun i c v hc _ => by simp at hc), rfl, hget_one, trivial⟩
end
end Go.SL
/- The layer 'SL': whole elements of own rows read and written; a stable insertion, plain. -/
namespace Go.SL
open Go.RowKit
section
variable {P : Program} {O : Org} {T : Tab P} {env : Env} {h : Hp} {o : Oper}
end
/-! ### a stable insertion: plain -/
section
variable {α : Type} (lt : α → α → Bool)
variable {lt}
end
end Go.SL
