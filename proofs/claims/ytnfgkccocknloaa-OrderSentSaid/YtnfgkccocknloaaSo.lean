/- The layer 'SL': the library's sorts and Compact, by the shelf's contracts. -/
import Derived.Test.YtnfgkccocknloaaSn
import Derived.Shelf.Sort.Plain
import Derived.Shelf.Slices.In.SortNone
import Derived.Shelf.Slices.CompactI
import Derived.Lib.RowBridge
namespace Go.SL
open Go.RowKit Go.Proofs Go.Shelf

def iN (n : Int) : List D := [.sc (.int .i64 n)]
section
variable {P : Program} {ρ : Ren} {w : World} {X : Nat → Prop}
theorem ints_holds {g e : Nat} {cur : Array Value} (hb : w.heap[g]? = some (.cells cur e (0, 0))) (zs : List Int)
    (hc : ∀ (i : Nat) (x : List D), (zs.map iN)[i]? = some x → x.length = 1 ∧ ∀ (j : Nat) (y : D), x[j]? = some y → ∃ u, cur[i * 1 + j]? = some u ∧ RepD w X y u) : Sort.Holds (Value.int .i64) w g 0 zs.toArray := by
  intro j hj
  have hj' : j < zs.length := by simpa using hj
  obtain ⟨_, h2⟩ := hc j (iN zs[j]) (by simp [hj'])
  obtain ⟨u, h3, h4⟩ := h2 0 (.sc (.int .i64 zs[j])) rfl
  cases h4
  refine ⟨?_, by simp [World.frozen?, hb]⟩
  rw [Nat.mul_one, Nat.add_zero] at h3
  simp only [World.cell?, hb, Nat.zero_add, Option.isSome_none, Bool.false_eq_true, if_false, h3]
  simp [hj']
theorem ints_cells (ts : List Int) {d : Array Int} (h : ∀ i : Nat, i < ts.length → d[i]? = ts[i]?) : ∀ (i : Nat) (x : List D), (ts.map iN)[i]? = some x → ∀ (j : Nat) (y : D), x[j]? = some y → ∃ a, d[i * 1 + j]? = some a ∧ RepD w X y (Value.int .i64 a) := by
  intro i x hi j y hj
  rw [List.getElem?_map, Option.map_eq_some_iff] at hi
  obtain ⟨z, hz, rfl⟩ := hi
  have hj0 : j = 0 := by
    have := (List.getElem?_eq_some_iff.1 hj).1
    simp [iN] at this
    exact this
  subst hj0
  cases hj
  refine ⟨z, ?_, .sc _ rfl⟩
  rw [Nat.mul_one, Nat.add_zero, h i (List.getElem?_eq_some_iff.1 hz).1, hz]
theorem ints_one (ts : List Int) : ∀ (i : Nat) (x : List D), (ts.map iN)[i]? = some x → x.length = 1 := by
  intro i x hi
  rw [List.getElem?_map, Option.map_eq_some_iff] at hi
  obtain ⟨z, hz, rfl⟩ := hi
  rfl

theorem sortInts_ac (L : Lays.n189 P ρ) (hf : Callable P (ρ.f 189)) (e n : Nat) (zs : List Int) (hn : n = zs.length) (hz : zs.length ≤ 140737488351232) :
    AC P (ρ.f 189) [.own 1000 n] (H0 e 1 (zs.map iN)) [1000] (fun r h' => r = .tup [] ∧ SubH (H0 e 1 ((zs.mergeSort fun x y => decide (x ≤ y)).map iN)) h') := by
  refine ⟨hf, fun w X G vs r hl hv => ?_⟩
  match vs, hl with
  | [v], _ =>
    obtain ⟨e1, hrow⟩ := row_open r (by simpa using hn) (hv 0 _ v rfl rfl)
    rcases hrow with ⟨hnil, hes⟩ | ⟨g, cap, cur, e2, e3, e4, e5, e6, e7⟩
    · have : zs = [] := by simpa using hes
      subst this
      subst hnil
      refine (Any.slices_Sort_int_none L none 0 w).mono ?_
      rintro ex w' ⟨rfl, rfl⟩
      exact ⟨_, .tup [], H0 e 1 [], G, rfl, r, .tup [] #[] rfl (fun i c v hc _ => by simp at hc), rfl, by rw [List.mergeSort_nil]; exact ⟨hget_one, trivial⟩⟩
    · have hl1 : (zs.map iN).length = zs.length := List.length_map _
      rw [e2] at e1
      subst e2
      rw [hl1]
      refine (Any.slices_Sort_int L g 0 cap zs w (ints_holds e3 zs e7) (heap_lt e3) (by omega)).mono ?_
      rintro ex w' ⟨rfl, q, os, rfl⟩
      have ht : (zs.mergeSort fun x y => decide (x ≤ y)).length = zs.length := by simp
      generalize (zs.mergeSort fun x y => decide (x ≤ y)) = ts at ht ⊢
      have r' := row_put (es' := ts.map iN) (enc := Value.int .i64) (q := q) (os := os) r e1.symm e3 e4 e5 e6 ts.toArray 1000 (fun _ => ⟨rfl, by simp [ht]⟩) (by simp [ht]) (by simp) (by simp [ht]) (ints_one ts) (ints_cells ts (fun i _ => by simp))
      exact ⟨_, .tup [], _, _, rfl, r', .tup [] #[] rfl (fun i c v hc _ => by simp at hc), rfl, hget_one, trivial⟩

/-- 'return slices.Compact(x)' -/
theorem compact_row (L : Lays2.n20 P ρ) {e : Nat} {zs : List Int} (hz : zs.length ≤ 140737488351232) (w : World) (X : Nat → Prop) (v : Value) (h : RowAt w w X e 1 v (zs.map iN)) :
    Calls P (ρ.f 20) #[v] w fun ex w' => ∃ A n c, v = .slice A n c ∧ ex = .returned (.slice A (Lib.compact zs).length c) ∧ Ext (fun b => blk v = some b) w w' ∧ RowAt w w' X e 1 v ((Lib.compact zs ++ List.replicate (zs.length - (Lib.compact zs).length) 0).map iN) := by
  rcases h with ⟨rfl, hes⟩ | ⟨g, cap, cur, rfl, e3, e4, e5, e6, e7⟩
  · have : zs = [] := by simpa using hes
    subst this
    refine (Any.slices_Compact_int_empty L none 0 w).mono ?_
    rintro ex w' ⟨rfl, rfl⟩
    exact ⟨none, 0, 0, rfl, rfl, Ext.refl _ _, .inl ⟨rfl, rfl⟩⟩
  · have hl1 : (zs.map iN).length = zs.length := List.length_map _
    rw [hl1] at e4 ⊢
    refine (Any.slices_Compact_int L g 0 cap zs w (ints_holds e3 zs e7) (by omega) e4).mono ?_
    rintro ex w' ⟨rfl, q, rfl⟩
    have hc : (Lib.compact zs).length ≤ zs.length := Lib.compact_length_le zs
    have hfl : (Lib.compact zs ++ List.replicate (zs.length - (Lib.compact zs).length) 0).length = zs.length := by simp; omega
    generalize (Lib.compact zs ++ List.replicate (zs.length - (Lib.compact zs).length) 0) = full at hfl ⊢
    have hx := putRow_ext (w := w) (enc := Value.int .i64) (g := g) (n := q) (os := #[]) full.toArray
    have ha := putRow_at (w := w) (enc := Value.int .i64) (n := q) (os := #[]) full.toArray e3
    rw [Sort.grow_empty] at hx ha
    refine ⟨_, _, _, rfl, rfl, hx.mono (fun b _ hb => by obtain rfl : b = g := hb; rfl), .inr ⟨g, cap, _, by rw [List.length_map, hfl], ha, by rw [List.length_map]; omega, e5, by simp [Sort.putCells, e6], fun i x hi => ⟨ints_one full i x hi, fun j y hj => ?_⟩⟩⟩
    obtain ⟨b, h1, h2⟩ := ints_cells (w := w) (X := X) full (d := full.toArray) (fun i _ => by simp) i x hi j y hj
    obtain ⟨h3, h4⟩ := Array.getElem?_eq_some_iff.1 h1
    refine ⟨_, ?_, h2⟩
    rw [putCells_get cur full.toArray (by simp; omega), dif_pos h3, h4]
end
end Go.SL
