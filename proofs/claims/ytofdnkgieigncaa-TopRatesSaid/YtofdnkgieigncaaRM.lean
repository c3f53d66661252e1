/- What the rows of this seat ask of the program, once; rates among the arguments, read. -/
import Derived.Test.YtofdnkgieigncaaRE
import Derived.Test.YtofdnkgieigncaaTf
import Derived.WalkKit
import Derived.ProofKit
import Derived.OpenShut
import Derived.SizedLaws
namespace Go.Proofs.Ytofdnkgieigncaa
open Go.SL Go.ChangeShapes Go.WideShapes Go.ChangeAt Go.RowKit

theorem own : ownKnob Try.prog.godebug = none := by kernel_rfl
theorem kids : Kids Try.prog (· < Try.prog.types.size) := kids_rows (by kernel_rfl) (by kernel_rfl)
theorem full : ∀ t e, t < Try.prog.types.size → Try.prog.underlying t = some (.slice e) → 0 < Try.prog.cellsOf e := slices_full_of _ (by kernel_rfl)
theorem small {t : Nat} (h : Nat.blt t Try.prog.types.size = true) : t < Try.prog.types.size := by rwa [Nat.blt_eq] at h
def rtS : List CS := [.str, .str, .int .i64, .int .i64, .int .i64]
def rtsS : List CS := [.sl 5 56 rtS]
theorem argK_rts : argK Try.tab 22 = some (false, rtsS) := by kernel_rfl
theorem rt_of (e : List D) (h : OkCs rtS e) : ∃ x : RP, e = rEnc x ∧ (x.1.1.size ≤ 140737488351232 ∧ x.1.2.1.size ≤ 140737488351232) := by
  unfold rtS at h
  obtain ⟨_, _, rfl, h1, h⟩ := h.cons_inv
  obtain ⟨_, _, rfl, h2, h⟩ := h.cons_inv
  obtain ⟨_, _, rfl, h3, h⟩ := h.cons_inv
  obtain ⟨_, _, rfl, h4, h⟩ := h.cons_inv
  obtain ⟨_, _, rfl, h5, h⟩ := h.cons_inv
  obtain rfl := h.nil_inv
  obtain ⟨s1, rfl, hs1⟩ := h1.str_inv
  obtain ⟨s2, rfl, hs2⟩ := h2.str_inv
  obtain ⟨n3, rfl, _⟩ := h3.i64_inv
  obtain ⟨n4, rfl, _⟩ := h4.i64_inv
  obtain ⟨n5, rfl, _⟩ := h5.i64_inv
  exact ⟨((s1, s2, n3), (n4, n5)), rfl, by omega, by omega⟩
theorem rts_of {x : AV} (h : OkArg (false, rtsS) x) : ∃ l : List RP, x = .d (.sl 5 (l.map rEnc)) ∧ l.length ≤ 140737488351232 ∧ ∀ o ∈ l, o.1.1.size ≤ 140737488351232 ∧ o.1.2.1.size ≤ 140737488351232 := by
  obtain ⟨d, rfl, h⟩ := h
  obtain ⟨l, rfl, h1, h2⟩ := h.list rt_of
  exact ⟨l, rfl, by omega, h2⟩
end Go.Proofs.Ytofdnkgieigncaa
