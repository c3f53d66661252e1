import Derived.Test.YtldfncafkdmoiaaFQ
import Derived.WalkKit
import Derived.ProofKit
import Derived.OpenShut
import Derived.SizedLaws
namespace Go.Proofs.Ytldfncafkdmoiaa
open Go.SL Go.ChangeShapes Go.WideShapes Go.ChangeAt Go.RowKit
/-! ### what the rows of this seat ask of the program; claimants among the arguments, read -/
theorem own : ownKnob Try.prog.godebug = none := by kernel_rfl
theorem kids : Kids Try.prog (· < Try.prog.types.size) := kids_rows (by kernel_rfl) (by kernel_rfl)
theorem full : ∀ t e, t < Try.prog.types.size → Try.prog.underlying t = some (.slice e) → 0 < Try.prog.cellsOf e := slices_full_of _ (by kernel_rfl)
theorem small {t : Nat} (h : Nat.blt t Try.prog.types.size = true) : t < Try.prog.types.size := by rwa [Nat.blt_eq] at h
def clsS : List CS := [.sl 5 56 [.str, .str, .int .i64, .int .i64, .int .i64]]
theorem argK_cls : argK Try.tab 24 = some (false, clsS) := by kernel_rfl
def Cl.In (x : Cl) : Prop := x.nm.size ≤ 140737488351232 ∧ x.th.size ≤ 140737488351232
theorem clE_of (e : List D) (h : OkCs [.str, .str, .int .i64, .int .i64, .int .i64] e) : ∃ x : Cl, e = x.enc ∧ x.In := by
  obtain ⟨_, _, rfl, h1, h⟩ := h.cons_inv
  obtain ⟨_, _, rfl, h2, h⟩ := h.cons_inv
  obtain ⟨_, _, rfl, h3, h⟩ := h.cons_inv
  obtain ⟨_, _, rfl, h4, h⟩ := h.cons_inv
  obtain ⟨_, _, rfl, h5, h⟩ := h.cons_inv
  obtain rfl := h.nil_inv
  obtain ⟨s, rfl, q1⟩ := h1.str_inv
  obtain ⟨t, rfl, q2⟩ := h2.str_inv
  obtain ⟨n, rfl, _⟩ := h3.i64_inv
  obtain ⟨m, rfl, _⟩ := h4.i64_inv
  obtain ⟨k, rfl, _⟩ := h5.i64_inv
  exact ⟨⟨s, t, n, m, k⟩, rfl, q1, q2⟩
theorem cls_of {x : AV} (h : OkArg (false, clsS) x) : ∃ l : List Cl, x = .d (.sl 5 (l.map Cl.enc)) ∧ l.length ≤ 140737488351232 ∧ ∀ c ∈ l, c.In := by
  obtain ⟨d, rfl, h⟩ := h
  obtain ⟨l, rfl, hl, hf⟩ := h.list clE_of
  exact ⟨l, rfl, by omega, hf⟩
def i64S : List CS := [.int .i64]
theorem argK_i64 : argK Try.tab 2 = some (false, i64S) := by kernel_rfl
theorem argK_int : argK Try.tab 3 = some (false, i64S) := by kernel_rfl
theorem i64_of {x : AV} (h : OkArg (false, i64S) x) : ∃ n : Int, x = .d (.sc (.int .i64 n)) ∧ -9223372036854775808 ≤ n ∧ n ≤ 9223372036854775807 := by
  obtain ⟨d, rfl, h⟩ := h
  obtain ⟨n, rfl, h1, h2⟩ := h.i64_inv
  exact ⟨n, rfl, by omega, by omega⟩
/-! ### DisputeBetter -/
theorem few_len {l : List Cl} (h : fewCl l = true) : l.length ≤ 41 := by
  unfold fewCl at h
  rw [Bool.and_eq_true, decide_eq_true_eq] at h
  exact h.1
end Go.Proofs.Ytldfncafkdmoiaa
