import Derived.Test.YtnfgkccocknloaaGreatI1
import Derived.Test.YtnfgkccocknloaaGreatSq
namespace Go.Proofs.YtnfgkccocknloaaGreat
open Go.SL

theorem lateL_spec (day : Int) (l : List Cons) : (∀ x, x ∈ lateL day l ↔ ∃ c ∈ l, c.latest < day ∧ c.number = x) ∧ (lateL day l).Pairwise (· < ·) := by
  obtain ⟨h1, h2⟩ := compact_sorted (sort_sorted (lateN day l))
  refine ⟨fun x => ?_, h2⟩
  unfold lateL sortI
  rw [h1 x, List.mem_mergeSort]
  unfold lateN
  simp only [List.mem_map, List.mem_filter, decide_eq_true_eq]
  constructor
  · rintro ⟨c, ⟨a, b⟩, d⟩; exact ⟨c, a, b, d⟩
  · rintro ⟨c, a, b, d⟩; exact ⟨c, ⟨a, b⟩, d⟩
def o0 : Ord := { number := .empty, seller := .empty, buyer := .empty, currency := .empty, sfrom := .empty, sto := .empty, term := 0, lines := [] }
theorem fit0 : o0.Fit := by
  refine ⟨Nat.le_of_ble_eq_true rfl, Nat.le_of_ble_eq_true rfl, Nat.le_of_ble_eq_true rfl, Nat.le_of_ble_eq_true rfl, Nat.le_of_ble_eq_true rfl, Nat.le_of_ble_eq_true rfl, Nat.le_of_ble_eq_true rfl, fun x hx => ?_⟩
  cases hx
theorem fewNil_ac (l : List Cons) : AC Tryz.prog 5 [.agg [.d (.sc (.string .empty)), .d (.sc (.string .empty)), .d (.sc (.string .empty)), .d (.sc (.string .empty)), .d (.sc (.string .empty)), .d (.sc (.string .empty)), .d (.sc (.int .i64 0)), .d (.sc (.slice none 0 0))], .d (.sl 4 (l.map Cons.enc))] [] []
    (fun r _ => r = .d (.sc (.bool (o0.few && consFew l)))) :=
  AC.nilAgg (pre := [.d (.sc (.string .empty)), .d (.sc (.string .empty)), .d (.sc (.string .empty)), .d (.sc (.string .empty)), .d (.sc (.string .empty)), .d (.sc (.string .empty)), .d (.sc (.int .i64 0))]) (sz := 3) (post := []) (few_ac o0 l fit0)
def anyE (l : List Int) (n : Int) : Bool := l.any fun x => eqb x n
theorem anyE_cons (x : Int) (r : List Int) (n : Int) : anyE (x :: r) n = (eqb x n || anyE r n) := rfl
theorem anyE_mem {l : List Int} {n : Int} (h : n ∈ l) : anyE l n = true := List.any_eq_true.2 ⟨n, h, eqb_t.2 rfl⟩
/-- the place of what is in a rising row -/
theorem rise_at {B : List Int} (hB : B.Pairwise (· < ·)) {x : Int} (hx : x ∈ B) {k : Nat} (h : ∀ (j : Nat) (y : Int), j < k → B[j]? = some y → y < x) : ∃ y, B[k]? = some y ∧ y ≤ x := by
  obtain ⟨j, hj, e⟩ := List.getElem_of_mem hx
  have hkj : k ≤ j := by
    rcases Nat.lt_or_ge j k with h1 | h1
    · have := h j x h1 (by rw [List.getElem?_eq_getElem hj, e]); omega
    · exact h1
  refine ⟨B[k], List.getElem?_eq_getElem (by omega), ?_⟩
  rcases Nat.lt_or_ge k j with h1 | h1
  · have := List.pairwise_iff_getElem.1 hB k j (by omega) hj h1
    omega
  · obtain rfl : k = j := by omega
    omega
theorem rise_next {A : List Int} (hA : A.Pairwise (· < ·)) {i : Nat} {x : Int} (hx : A[i]? = some x) : ∀ z, A[i + 1]? = some z → x < z := by
  intro z hz
  obtain ⟨h1, e1⟩ := List.getElem?_eq_some_iff.1 hx
  obtain ⟨h2, e2⟩ := List.getElem?_eq_some_iff.1 hz
  have := List.pairwise_iff_getElem.1 hA i (i + 1) h1 h2 (by omega)
  rw [e1, e2] at this
  exact this
end Go.Proofs.YtnfgkccocknloaaGreat
