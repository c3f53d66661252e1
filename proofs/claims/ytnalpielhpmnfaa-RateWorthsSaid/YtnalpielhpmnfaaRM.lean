/- What the rows of this seat ask of the program, once; rates among the arguments, read. -/
import Derived.Test.YtnalpielhpmnfaaRE
import Derived.Test.YtnalpielhpmnfaaTf
import Derived.WalkKit
import Derived.ProofKit
import Derived.OpenShut
import Derived.SizedLaws
namespace Go.Proofs.Ytnalpielhpmnfaa
open Go.SL Go.ChangeShapes Go.WideShapes Go.ChangeAt Go.RowKit

theorem own : ownKnob Try.prog.godebug = none := by kernel_rfl
theorem kids : Kids Try.prog (· < Try.prog.types.size) := kids_rows (by kernel_rfl) (by kernel_rfl)
theorem full : ∀ t e, t < Try.prog.types.size → Try.prog.underlying t = some (.slice e) → 0 < Try.prog.cellsOf e := slices_full_of _ (by kernel_rfl)
theorem small {t : Nat} (h : Nat.blt t Try.prog.types.size = true) : t < Try.prog.types.size := by rwa [Nat.blt_eq] at h
def rtS : List CS := [.str, .str, .int .i64, .int .i64, .int .i64]
def rtsS : List CS := [.sl 5 56 rtS]
theorem argK_rts : argK Try.tab 22 = some (false, rtsS) := by kernel_rfl
theorem argK_rate : argK Try.tab 48 = some (true, rtS) := by kernel_rfl
theorem rt_of (e : List D) (h : OkCs rtS e) : ∃ x : RP, e = rEnc x ∧ (x.1.1.size ≤ 140737488351232 ∧ x.1.2.1.size ≤ 140737488351232) := by
  unfold rtS at h
  obtain ⟨_, _, rfl, h1, h⟩ := h.cons_inv
  obtain ⟨_, _, rfl, h2, h⟩ := h.cons_inv
  obtain ⟨_, _, rfl, h3, h⟩ := h.cons_inv
  obtain ⟨_, _, rfl, h4, h⟩ := h.cons_inv
  obtain ⟨_, _, rfl, h5, h⟩ := h.cons_inv
  obtain rfl := h.nil_inv
  obtain ⟨s1, rfl, hs1⟩ := h1.str_inv
  obtain ⟨s2, rfl, hs2⟩ := h2.str_inv
  obtain ⟨n3, rfl, _⟩ := h3.i64_inv
  obtain ⟨n4, rfl, _⟩ := h4.i64_inv
  obtain ⟨n5, rfl, _⟩ := h5.i64_inv
  exact ⟨((s1, s2, n3), (n4, n5)), rfl, by omega, by omega⟩
theorem rts_of {x : AV} (h : OkArg (false, rtsS) x) : ∃ l : List RP, x = .d (.sl 5 (l.map rEnc)) ∧ l.length ≤ 140737488351232 ∧ ∀ o ∈ l, o.1.1.size ≤ 140737488351232 ∧ o.1.2.1.size ≤ 140737488351232 := by
  obtain ⟨d, rfl, h⟩ := h
  obtain ⟨l, rfl, h1, h2⟩ := h.list rt_of
  exact ⟨l, rfl, by omega, h2⟩
theorem rate_of {x : AV} (h : OkArg (true, rtS) x) : ∃ y : RP, x = rAV y ∧ (y.1.1.size ≤ 140737488351232 ∧ y.1.2.1.size ≤ 140737488351232) := by
  obtain ⟨ds, rfl, h⟩ := h
  obtain ⟨y, rfl, hy⟩ := rt_of _ h
  exact ⟨y, rfl, hy⟩
def monS : List CS := [.str, .int .i64]
theorem argK_mon : argK Try.tab 40 = some (true, monS) := by kernel_rfl
theorem mon_of {x : AV} (h : OkArg (true, monS) x) : ∃ m : ByteArray × Int, x = .agg [.d (.sc (.string m.1)), .d (.sc (.int .i64 m.2))] ∧ m.1.size ≤ 140737488351232 ∧ -9223372036854775808 ≤ m.2 ∧ m.2 ≤ 9223372036854775807 := by
  obtain ⟨ds, rfl, h⟩ := h
  unfold monS at h
  obtain ⟨_, _, rfl, h1, h⟩ := h.cons_inv
  obtain ⟨_, _, rfl, h2, h⟩ := h.cons_inv
  obtain rfl := h.nil_inv
  obtain ⟨s, rfl, hs⟩ := h1.str_inv
  obtain ⟨n, rfl, hn⟩ := h2.i64_inv
  exact ⟨(s, n), rfl, by omega, by omega, by omega⟩
def i64S : List CS := [.int .i64]
theorem argK_int : argK Try.tab 3 = some (false, i64S) := by kernel_rfl
theorem i64_of {x : AV} (h : OkArg (false, i64S) x) : ∃ n : Int, x = .d (.sc (.int .i64 n)) ∧ -9223372036854775808 ≤ n ∧ n ≤ 9223372036854775807 := by
  obtain ⟨d, rfl, h⟩ := h
  obtain ⟨n, rfl, h1, h2⟩ := h.i64_inv
  exact ⟨n, rfl, by omega, by omega⟩
def u32S : List CS := [.int .u32]
theorem argK_u32 : argK Try.tab 45 = some (false, u32S) := by kernel_rfl
def strS : List CS := [.str]
theorem argK_str : argK Try.tab 9 = some (false, strS) := by kernel_rfl
theorem str_of {x : AV} (h : OkArg (false, strS) x) : ∃ s : ByteArray, x = .d (.sc (.string s)) ∧ s.size ≤ 140737488351232 := by
  obtain ⟨d, rfl, h⟩ := h
  obtain ⟨s, rfl, hs⟩ := h.str_inv
  exact ⟨s, rfl, by omega⟩
def entS : List CS := [.sl 3 40 [.str, .str, .int .i64]]
theorem argK_ent : argK Try.tab 54 = some (false, entS) := by kernel_rfl
end Go.Proofs.Ytnalpielhpmnfaa
