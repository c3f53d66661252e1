/- What the rows of this seat ask of the program, once. -/
import Derived.Test.YtjadbgmohmgaaaaF1
import Derived.WalkKit
import Derived.ProofKit
import Derived.OpenShut
import Derived.SizedLaws
namespace Go.Proofs.Ytjadbgmohmgaaaa
open Go.SL Go.ChangeShapes Go.WideShapes Go.ChangeAt Go.RowKit

theorem own : ownKnob Try.prog.godebug = none := by kernel_rfl
theorem kids : Kids Try.prog (· < Try.prog.types.size) := kids_rows (by kernel_rfl) (by kernel_rfl)
theorem full : ∀ t e, t < Try.prog.types.size → Try.prog.underlying t = some (.slice e) → 0 < Try.prog.cellsOf e := slices_full_of _ (by kernel_rfl)
theorem small {t : Nat} (h : Nat.blt t Try.prog.types.size = true) : t < Try.prog.types.size := by rwa [Nat.blt_eq] at h

def ordS : List CS := [.str, .str, .str, .str, .str, .str, .int .i64, .sl 3 32 [.str, .int .i64, .int .i64]]
theorem argK_ord : argK Try.tab 24 = some (true, ordS) := by kernel_rfl
theorem line_of (e : List D) (h : OkCs [.str, .int .i64, .int .i64] e) : ∃ x : Line, e = x.enc ∧ x.Fit := by
  obtain ⟨_, _, rfl, h1, h⟩ := h.cons_inv
  obtain ⟨_, _, rfl, h2, h⟩ := h.cons_inv
  obtain ⟨_, _, rfl, h3, h⟩ := h.cons_inv
  obtain rfl := h.nil_inv
  obtain ⟨s, rfl, hs⟩ := h1.str_inv
  obtain ⟨n, rfl, n1, n2⟩ := h2.i64_inv
  obtain ⟨m, rfl, m1, m2⟩ := h3.i64_inv
  exact ⟨⟨s, n, m⟩, rfl, hs, n1, n2, m1, m2⟩
theorem ord_of {x : AV} (h : OkArg (true, ordS) x) : ∃ o : Ord, x = .agg o.cs ∧ o.Fit ∧ -9223372036854775808 ≤ o.term ∧ o.term ≤ 9223372036854775807 := by
  obtain ⟨ds, rfl, h⟩ := h
  unfold ordS at h
  obtain ⟨_, _, rfl, h1, h⟩ := h.cons_inv
  obtain ⟨_, _, rfl, h2, h⟩ := h.cons_inv
  obtain ⟨_, _, rfl, h3, h⟩ := h.cons_inv
  obtain ⟨_, _, rfl, h4, h⟩ := h.cons_inv
  obtain ⟨_, _, rfl, h5, h⟩ := h.cons_inv
  obtain ⟨_, _, rfl, h6, h⟩ := h.cons_inv
  obtain ⟨_, _, rfl, h7, h⟩ := h.cons_inv
  obtain ⟨_, _, rfl, h8, h⟩ := h.cons_inv
  obtain rfl := h.nil_inv
  obtain ⟨s1, rfl, q1⟩ := h1.str_inv
  obtain ⟨s2, rfl, q2⟩ := h2.str_inv
  obtain ⟨s3, rfl, q3⟩ := h3.str_inv
  obtain ⟨s4, rfl, q4⟩ := h4.str_inv
  obtain ⟨s5, rfl, q5⟩ := h5.str_inv
  obtain ⟨s6, rfl, q6⟩ := h6.str_inv
  obtain ⟨n, rfl, n1, n2⟩ := h7.i64_inv
  obtain ⟨l, rfl, hl, hf⟩ := h8.list line_of
  exact ⟨⟨s1, s2, s3, s4, s5, s6, n, l⟩, rfl, ⟨q1, q2, q3, q4, q5, q6, by dsimp only; omega, hf⟩, n1, n2⟩
end Go.Proofs.Ytjadbgmohmgaaaa
