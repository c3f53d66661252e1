/- What the rows of this seat ask of the program, once; posts among the arguments, read. -/
import Derived.Test.YtfgmnhlopgaanaaQ8
import Derived.WalkKit
import Derived.ProofKit
import Derived.OpenShut
import Derived.SizedLaws
namespace Go.Proofs.Ytfgmnhlopgaanaa
open Go.SL Go.ChangeShapes Go.WideShapes Go.ChangeAt Go.RowKit

theorem own : ownKnob Try.prog.godebug = none := by kernel_rfl
theorem kids : Kids Try.prog (· < Try.prog.types.size) := kids_rows (by kernel_rfl) (by kernel_rfl)
theorem full : ∀ t e, t < Try.prog.types.size → Try.prog.underlying t = some (.slice e) → 0 < Try.prog.cellsOf e := slices_full_of _ (by kernel_rfl)
theorem small {t : Nat} (h : Nat.blt t Try.prog.types.size = true) : t < Try.prog.types.size := by rwa [Nat.blt_eq] at h
def poS : List CS := [.sl 3 48 [.int .i64, .str, .sl 3 40 [.str, .str, .int .i64]]]
theorem argK_po : argK Try.tab 22 = some (false, poS) := by kernel_rfl
theorem ent_of (e : List D) (h : OkCs [.str, .str, .int .i64] e) : ∃ x : Ent, e = x.enc ∧ True := by
  obtain ⟨_, _, rfl, h1, h⟩ := h.cons_inv
  obtain ⟨_, _, rfl, h2, h⟩ := h.cons_inv
  obtain ⟨_, _, rfl, h3, h⟩ := h.cons_inv
  obtain rfl := h.nil_inv
  obtain ⟨s, rfl, _⟩ := h1.str_inv
  obtain ⟨t, rfl, _⟩ := h2.str_inv
  obtain ⟨n, rfl, _, _⟩ := h3.i64_inv
  exact ⟨⟨s, t, n⟩, rfl, trivial⟩
theorem post_of (e : List D) (h : OkCs [.int .i64, .str, .sl 3 40 [.str, .str, .int .i64]] e) : ∃ p : Post, e = p.enc ∧ True := by
  obtain ⟨_, _, rfl, h1, h⟩ := h.cons_inv
  obtain ⟨_, _, rfl, h2, h⟩ := h.cons_inv
  obtain ⟨_, _, rfl, h3, h⟩ := h.cons_inv
  obtain rfl := h.nil_inv
  obtain ⟨n, rfl, _, _⟩ := h1.i64_inv
  obtain ⟨s, rfl, _⟩ := h2.str_inv
  obtain ⟨l, rfl, _, _⟩ := h3.list ent_of
  exact ⟨⟨n, s, l⟩, rfl, trivial⟩
theorem po_of {x : AV} (h : OkArg (false, poS) x) : ∃ l : List Post, x = .d (.sl 3 (l.map Post.enc)) ∧ l.length ≤ 140737488351232 := by
  obtain ⟨d, rfl, h⟩ := h
  obtain ⟨l, rfl, hl, _⟩ := h.list post_of
  exact ⟨l, rfl, by omega⟩
end Go.Proofs.Ytfgmnhlopgaanaa
