import Derived.Test.YtfgmnhlopgaanaaW3
import Derived.Test.YtfgmnhlopgaanaaP0
namespace Go.Proofs.Ytfgmnhlopgaanaa
open Go.SL Go.ChangeShapes Go.WideShapes Go.ChangeAt Go.RowKit

def u32S : List CS := [.sl 1 4 [.int .u32]]
theorem argK_u32 : argK Try.tab 52 = some (false, u32S) := by kernel_rfl
theorem u32_of1 (e : List D) (h : OkCs [.int .u32] e) : ∃ n : Int, e = uE n ∧ 0 ≤ n ∧ n ≤ 4294967295 := by
  obtain ⟨_, _, rfl, h1, h⟩ := h.cons_inv
  obtain rfl := h.nil_inv
  obtain ⟨n, rfl, hw⟩ := h1.int_inv
  have : 0 ≤ n ∧ n ≤ 4294967295 := by
    simp [Lit.wf, IntKind.min, IntKind.max, IntKind.signed, IntKind.bits] at hw
    omega
  exact ⟨n, rfl, this⟩
theorem u32_of {x : AV} (h : OkArg (false, u32S) x) : ∃ l : List Int, x = .d (.sl 1 (l.map uE)) ∧ l.length ≤ 140737488351232 ∧ ∀ b ∈ l, 0 ≤ b ∧ b ≤ 4294967295 := by
  obtain ⟨d, rfl, h⟩ := h
  obtain ⟨l, rfl, hl, hp⟩ := h.list u32_of1
  exact ⟨l, rfl, by omega, hp⟩
def boS : List CS := [.sl 1 1 [.bool]]
theorem argK_bo : argK Try.tab 53 = some (false, boS) := by kernel_rfl
theorem bo_of1 (e : List D) (h : OkCs [.bool] e) : ∃ b : Bool, e = boE b ∧ True := by
  obtain ⟨_, _, rfl, h1, h⟩ := h.cons_inv
  obtain rfl := h.nil_inv
  obtain ⟨b, rfl⟩ := h1.bool_inv
  exact ⟨b, rfl, trivial⟩
theorem bo_of {x : AV} (h : OkArg (false, boS) x) : ∃ l : List Bool, x = .d (.sl 1 (l.map boE)) ∧ l.length ≤ 140737488351232 := by
  obtain ⟨d, rfl, h⟩ := h
  obtain ⟨l, rfl, hl, hp⟩ := h.list bo_of1
  exact ⟨l, rfl, by omega⟩
def u8S : List CS := [.int .u8]
theorem argK_u8 : argK Try.tab 5 = some (false, u8S) := by kernel_rfl
theorem u8_of {x : AV} (h : OkArg (false, u8S) x) : ∃ n : Int, x = .d (.sc (.int .u8 n)) ∧ 0 ≤ n ∧ n ≤ 255 := by
  obtain ⟨d, rfl, h⟩ := h
  obtain ⟨n, rfl, hw⟩ := h.int_inv
  have : 0 ≤ n ∧ n ≤ 255 := by
    simp [Lit.wf, IntKind.min, IntKind.max, IntKind.signed, IntKind.bits] at hw
    omega
  exact ⟨n, rfl, this⟩
end Go.Proofs.Ytfgmnhlopgaanaa
