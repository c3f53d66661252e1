import Derived.Test.YtaejikoicbbeeaaWQ
namespace Go.Proofs.Ytaejikoicbbeeaa
open Go.SL Go.ChangeShapes Go.WideShapes Go.ChangeAt Go.RowKit
def i64S : List CS := [.int .i64]
theorem argK_i64 : argK Try.tab 2 = some (false, i64S) := by kernel_rfl
theorem argK_int : argK Try.tab 3 = some (false, i64S) := by kernel_rfl
theorem i64_of {x : AV} (h : OkArg (false, i64S) x) : ∃ n : Int, x = .d (.sc (.int .i64 n)) ∧ -9223372036854775808 ≤ n ∧ n ≤ 9223372036854775807 := by
  obtain ⟨d, rfl, h⟩ := h
  obtain ⟨n, rfl, h1, h2⟩ := h.i64_inv
  exact ⟨n, rfl, by omega, by omega⟩
def strS : List CS := [.str]
theorem argK_str : argK Try.tab 9 = some (false, strS) := by kernel_rfl
theorem str_of {x : AV} (h : OkArg (false, strS) x) : ∃ s : ByteArray, x = .d (.sc (.string s)) ∧ s.size ≤ 140737488351232 := by
  obtain ⟨d, rfl, h⟩ := h
  obtain ⟨s, rfl, hs⟩ := h.str_inv
  exact ⟨s, rfl, by omega⟩
end Go.Proofs.Ytaejikoicbbeeaa
