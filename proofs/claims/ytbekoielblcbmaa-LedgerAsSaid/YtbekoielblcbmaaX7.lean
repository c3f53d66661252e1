/- What the rows of this seat ask of the program, once; acts among the arguments, read. -/
import Derived.Test.YtbekoielblcbmaaV0
import Derived.Test.YtbekoielblcbmaaX3
import Derived.WalkKit
import Derived.ProofKit
import Derived.OpenShut
import Derived.SizedLaws
namespace Go.Proofs.Ytbekoielblcbmaa
open Go.SL Go.ChangeShapes Go.WideShapes Go.ChangeAt Go.RowKit

theorem own : ownKnob Try.prog.godebug = none := by kernel_rfl
theorem kids : Kids Try.prog (· < Try.prog.types.size) := kids_rows (by kernel_rfl) (by kernel_rfl)
theorem full : ∀ t e, t < Try.prog.types.size → Try.prog.underlying t = some (.slice e) → 0 < Try.prog.cellsOf e := slices_full_of _ (by kernel_rfl)
theorem small {t : Nat} (h : Nat.blt t Try.prog.types.size = true) : t < Try.prog.types.size := by rwa [Nat.blt_eq] at h
def acS : List CS := [.sl 6 88 [.int .u8, .str, .str, .str, .int .i64, .sl 3 40 [.str, .str, .int .i64]]]
theorem argK_ac : argK Try.tab 22 = some (false, acS) := by kernel_rfl
def i64S : List CS := [.int .i64]
theorem argK_i64 : argK Try.tab 2 = some (false, i64S) := by kernel_rfl
theorem i64_of {x : AV} (h : OkArg (false, i64S) x) : ∃ n : Int, x = .d (.sc (.int .i64 n)) ∧ -9223372036854775808 ≤ n ∧ n ≤ 9223372036854775807 := by
  obtain ⟨d, rfl, h⟩ := h
  obtain ⟨n, rfl, h1, h2⟩ := h.i64_inv
  exact ⟨n, rfl, by omega, by omega⟩
theorem argK_int : argK Try.tab 3 = some (false, i64S) := by kernel_rfl
theorem ent_of (e : List D) (h : OkCs [.str, .str, .int .i64] e) : ∃ x : Ent, e = x.enc ∧ (-9223372036854775808 ≤ x.amt ∧ x.amt ≤ 9223372036854775807) := by
  obtain ⟨_, _, rfl, h1, h⟩ := h.cons_inv
  obtain ⟨_, _, rfl, h2, h⟩ := h.cons_inv
  obtain ⟨_, _, rfl, h3, h⟩ := h.cons_inv
  obtain rfl := h.nil_inv
  obtain ⟨s, rfl, _⟩ := h1.str_inv
  obtain ⟨t, rfl, _⟩ := h2.str_inv
  obtain ⟨n, rfl, q1, q2⟩ := h3.i64_inv
  exact ⟨⟨s, t, n⟩, rfl, by simp only; omega⟩
def Act.In (x : Act) : Prop := 0 ≤ x.kind ∧ x.kind ≤ 255 ∧ -9223372036854775808 ≤ x.n ∧ x.n ≤ 9223372036854775807 ∧ ∀ e ∈ x.l, -9223372036854775808 ≤ e.amt ∧ e.amt ≤ 9223372036854775807
theorem act_of (e : List D) (h : OkCs [.int .u8, .str, .str, .str, .int .i64, .sl 3 40 [.str, .str, .int .i64]] e) : ∃ x : Act, e = x.enc ∧ x.In := by
  obtain ⟨_, _, rfl, h1, h⟩ := h.cons_inv
  obtain ⟨_, _, rfl, h2, h⟩ := h.cons_inv
  obtain ⟨_, _, rfl, h3, h⟩ := h.cons_inv
  obtain ⟨_, _, rfl, h4, h⟩ := h.cons_inv
  obtain ⟨_, _, rfl, h5, h⟩ := h.cons_inv
  obtain ⟨_, _, rfl, h6, h⟩ := h.cons_inv
  obtain rfl := h.nil_inv
  obtain ⟨n, rfl, hw⟩ := h1.int_inv
  have hn : 0 ≤ n ∧ n ≤ 255 := by
    simp [Lit.wf, IntKind.min, IntKind.max, IntKind.signed, IntKind.bits] at hw
    omega
  obtain ⟨a, rfl, _⟩ := h2.str_inv
  obtain ⟨b, rfl, _⟩ := h3.str_inv
  obtain ⟨c, rfl, _⟩ := h4.str_inv
  obtain ⟨m, rfl, q1, q2⟩ := h5.i64_inv
  obtain ⟨l, rfl, _, hl⟩ := h6.list ent_of
  exact ⟨⟨n, a, b, c, m, l⟩, rfl, hn.1, hn.2, by simp only; omega, by simp only; omega, hl⟩
def acS1 : List CS := [.int .u8, .str, .str, .str, .int .i64, .sl 3 40 [.str, .str, .int .i64]]
theorem argK_ac1 : argK Try.tab 31 = some (true, acS1) := by kernel_rfl
theorem ac1_of {x : AV} (h : OkArg (true, acS1) x) : ∃ a : Act, x = .agg a.cs ∧ a.In := by
  obtain ⟨ds, rfl, h⟩ := h
  obtain ⟨a, rfl, ha⟩ := act_of ds h
  exact ⟨a, rfl, ha⟩
theorem ac_of {x : AV} (h : OkArg (false, acS) x) : ∃ l : List Act, x = .d (.sl 6 (l.map Act.enc)) ∧ l.length ≤ 140737488351232 ∧ ∀ a ∈ l, a.In := by
  obtain ⟨d, rfl, h⟩ := h
  obtain ⟨l, rfl, hl, hp⟩ := h.list act_of
  exact ⟨l, rfl, by omega, hp⟩
end Go.Proofs.Ytbekoielblcbmaa
