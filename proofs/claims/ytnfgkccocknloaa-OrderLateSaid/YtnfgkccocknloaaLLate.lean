/- OrderLate: for any two days and any consignments the law's Go function returns true and leaves its arguments as they were. Conditions: none but the row's own. -/
import Derived.Test.YtnfgkccocknloaaL0
import Derived.Test.YtnfgkccocknloaaI2
namespace Go.Proofs.Ytnfgkccocknloaa.orderLate
open Go.SL Go.ChangeShapes Go.WideShapes Go.ChangeAt Go.RowKit

def coS : List CS := [.sl 4 56 [.str, .int .i64, .int .i64, .sl 2 24 [.str, .int .i64]]]
theorem argK_i : argK Try.tab 3 = some (false, [.int .i64]) := by kernel_rfl
theorem argK_c : argK Try.tab 34 = some (false, coS) := by kernel_rfl
theorem lot_of (e : List D) (h : OkCs [.str, .int .i64] e) : ∃ x : Lot, e = x.enc ∧ True := by
  obtain ⟨_, _, rfl, h1, h⟩ := h.cons_inv
  obtain ⟨_, _, rfl, h2, h⟩ := h.cons_inv
  obtain rfl := h.nil_inv
  obtain ⟨s, rfl, _⟩ := h1.str_inv
  obtain ⟨n, rfl, _, _⟩ := h2.i64_inv
  exact ⟨⟨s, n⟩, rfl, trivial⟩
theorem con_of (e : List D) (h : OkCs [.str, .int .i64, .int .i64, .sl 2 24 [.str, .int .i64]] e) : ∃ c : Cons, e = c.enc ∧ c.lots.length ≤ 140737488351232 := by
  obtain ⟨_, _, rfl, h1, h⟩ := h.cons_inv
  obtain ⟨_, _, rfl, h2, h⟩ := h.cons_inv
  obtain ⟨_, _, rfl, h3, h⟩ := h.cons_inv
  obtain ⟨_, _, rfl, h4, h⟩ := h.cons_inv
  obtain rfl := h.nil_inv
  obtain ⟨s, rfl, _⟩ := h1.str_inv
  obtain ⟨n, rfl, _, _⟩ := h2.i64_inv
  obtain ⟨m, rfl, _, _⟩ := h3.i64_inv
  obtain ⟨l, rfl, hl, _⟩ := h4.list lot_of
  exact ⟨⟨s, n, m, l⟩, rfl, by dsimp only; omega⟩
theorem all_args : ∀ args, OkArgs ([3, 3, 34].map (argK Try.tab)) args → AC Try.prog 5 args [] [] (fun r _ => r = .d (.sc (.bool true))) := by
  intro args h
  have e : [3, 3, 34].map (argK Try.tab) = [some (false, [.int .i64]), some (false, [.int .i64]), some (false, coS)] := by simp only [List.map_cons, List.map_nil, argK_i, argK_c]
  rw [e] at h
  obtain ⟨x, _, rfl, h1, h⟩ := h.cons_inv
  obtain ⟨y, _, rfl, h2, h⟩ := h.cons_inv
  obtain ⟨z, _, rfl, h3, h⟩ := h.cons_inv
  obtain rfl := h.nil_inv
  obtain ⟨d1, rfl, h1⟩ := h1
  obtain ⟨d2, rfl, h2⟩ := h2
  obtain ⟨d3, rfl, h3⟩ := h3
  obtain ⟨n, rfl, _, _⟩ := h1.i64_inv
  obtain ⟨m, rfl, _, _⟩ := h2.i64_inv
  obtain ⟨l, rfl, hl, hc⟩ := h3.list con_of
  exact orderLate_ac n m l (by omega)
theorem hk : ∀ t ∈ [3, 3, 34], ∃ k, argK Try.tab t = some k := by
  intro t ht
  simp only [List.mem_cons, List.not_mem_nil, or_false] at ht
  rcases ht with rfl | rfl | rfl
  · exact ⟨_, argK_i⟩
  · exact ⟨_, argK_i⟩
  · exact ⟨_, argK_c⟩
theorem hT : ∀ t ∈ [3, 3, 34], t < Try.prog.types.size := by
  intro t ht
  simp only [List.mem_cons, List.not_mem_nil, or_false] at ht
  rcases ht with rfl | rfl | rfl <;> exact small (by kernel_rfl)
theorem at_true (H : Type) : AnyTrue (H := H) Rows.orderLateSpec 3 := by
  intro ds hd
  match ds, hd with
  | [a, b, c], _ => rfl
set_option maxRecDepth 100000 in
theorem lifted (os : Os) (started : os.Started) (H : Type) (enc : TypeId × Value → H) :
    ReturnsInHanded {} Try.checked os 5 .any (Rows.orderLateSpec.pre6 enc Try.prog Try.f5 Rows.orderLateRow.domain false) (Rows.orderLateSpec.post enc Try.prog Try.f5 false true false false) := by
  refine returnsInHanded_of_change_sized (C := Try.checked) own started (by kernel_rfl) Try.func5
    (ChangeSpec.witness6 (enc := enc) (C := Try.checked) false ⟨#[], #[.int .i64 0, .int .i64 0, .slice none 0 0], []⟩ 8 (by kernel_rfl) (by kernel_rfl) (by kernel_rfl) (by kernel_rfl)) ?_
  intro W base args ds gs before hval hW _ hsz _
  exact law_contract Try.tab kids full (fn := Try.f5) (ts := [3, 3, 34]) (rt := 4) (by kernel_rfl) (by kernel_rfl) rfl rfl hT hk (at_true H) all_args W base args ds gs before hval hW hsz
theorem proved : Rows.OrderLateSaid :=
  OpenClaim.holds_of_wide 5 Try.f5 rfl rfl rfl rfl rfl rfl rfl ⟨rfl, rfl, rfl, rfl, rfl⟩ rfl rfl rfl rfl rfl (by kernel_rfl) Try.func5 (by kernel_rfl)
    (of_decide_eq_true (by kernel_rfl)) (by unfold Func.isWrapper; first | (rw [if_pos (by decide +kernel)]; kernel_rfl) | (rw [if_neg (by decide +kernel)]; exact ⟨rfl, rfl⟩))
    (fun os started H enc _ => lifted os started H enc)
end Go.Proofs.Ytnfgkccocknloaa.orderLate
