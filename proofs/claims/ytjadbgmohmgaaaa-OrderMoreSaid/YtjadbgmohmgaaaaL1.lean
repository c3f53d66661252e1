/- Arguments of this seat's laws, read: days, parts, flags. -/
import Derived.Test.YtjadbgmohmgaaaaL0
import Derived.Test.YtjadbgmohmgaaaaD1
namespace Go.Proofs.Ytjadbgmohmgaaaa
open Go.SL

def daS : List CS := [.sl 1 8 [.int .i64]]
def paS : List CS := [.sl 1 24 [.sl 1 8 [.int .i64]]]
theorem argK_d : argK Try.tab 25 = some (false, daS) := by kernel_rfl
theorem argK_p : argK Try.tab 26 = some (false, paS) := by kernel_rfl
theorem int_of (e : List D) (h : OkCs [.int .i64] e) : ∃ n : Int, e = iE n ∧ True := by
  obtain ⟨_, _, rfl, h1, h⟩ := h.cons_inv
  obtain rfl := h.nil_inv
  obtain ⟨n, rfl, _, _⟩ := h1.i64_inv
  exact ⟨n, rfl, trivial⟩
theorem ints_of (e : List D) (h : OkCs [.sl 1 8 [.int .i64]] e) : ∃ p : List Int, e = pE p ∧ p.length ≤ 140737488351232 := by
  obtain ⟨_, _, rfl, h1, h⟩ := h.cons_inv
  obtain rfl := h.nil_inv
  obtain ⟨l, rfl, hl, _⟩ := h1.list int_of
  exact ⟨l, rfl, by omega⟩
theorem da_of {x : AV} (h : OkArg (false, daS) x) : ∃ l : List Int, x = .d (.sl 1 (l.map iE)) ∧ l.length ≤ 140737488351232 := by
  obtain ⟨d, rfl, h⟩ := h
  obtain ⟨l, rfl, hl, _⟩ := h.list int_of
  exact ⟨l, rfl, by omega⟩
theorem pa_of {x : AV} (h : OkArg (false, paS) x) : ∃ l : List (List Int), x = .d (.sl 1 (l.map pE)) ∧ l.length ≤ 140737488351232 ∧ ∀ p ∈ l, p.length ≤ 140737488351232 := by
  obtain ⟨d, rfl, h⟩ := h
  obtain ⟨l, rfl, hl, hp⟩ := h.list ints_of
  exact ⟨l, rfl, by omega, hp⟩
def inS : List CS := [.int .i64]
theorem argK_i : argK Try.tab 3 = some (false, inS) := by kernel_rfl
theorem in_of {x : AV} (h : OkArg (false, inS) x) : ∃ n : Int, x = .d (.sc (.int .i64 n)) ∧ -9223372036854775808 ≤ n ∧ n ≤ 9223372036854775807 := by
  obtain ⟨d, rfl, h⟩ := h
  obtain ⟨n, rfl, h1, h2⟩ := h.i64_inv
  exact ⟨n, rfl, h1, h2⟩
end Go.Proofs.Ytjadbgmohmgaaaa
