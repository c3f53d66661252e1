/- OrderTells: for any two orders the law's Go function returns true and leaves its arguments as they were. Conditions: none but the row's own. -/
import Derived.Test.YtnfgkccocknloaaL0
namespace Go.Proofs.Ytnfgkccocknloaa.orderTells
open Go.SL Go.ChangeShapes Go.WideShapes Go.ChangeAt Go.RowKit

theorem all_args : ∀ args, OkArgs ([24, 24].map (argK Try.tab)) args → AC Try.prog 3 args [] [] (fun r _ => r = .d (.sc (.bool true))) := by
  intro args h
  have e : [24, 24].map (argK Try.tab) = [some (true, ordS), some (true, ordS)] := by simp only [List.map_cons, List.map_nil, argK_ord]
  rw [e] at h
  obtain ⟨x, _, rfl, h1, h⟩ := h.cons_inv
  obtain ⟨y, _, rfl, h2, h⟩ := h.cons_inv
  obtain rfl := h.nil_inv
  obtain ⟨a, rfl, fa, _⟩ := ord_of h1
  obtain ⟨b, rfl, fb, _⟩ := ord_of h2
  exact orderTells_ac a b fa fb
theorem hk : ∀ t ∈ [24, 24], ∃ k, argK Try.tab t = some k := by
  intro t ht
  simp only [List.mem_cons, List.not_mem_nil, or_false] at ht
  rcases ht with rfl | rfl <;> exact ⟨_, argK_ord⟩
theorem hT : ∀ t ∈ [24, 24], t < Try.prog.types.size := by
  intro t ht
  simp only [List.mem_cons, List.not_mem_nil, or_false] at ht
  rcases ht with rfl | rfl <;> exact small (by kernel_rfl)
theorem at_true (H : Type) : AnyTrue (H := H) Rows.orderTellsSpec 2 := by
  intro ds hd
  match ds, hd with
  | [a, b], _ => rfl
set_option maxRecDepth 100000 in
theorem lifted (os : Os) (started : os.Started) (H : Type) (enc : TypeId × Value → H) :
    ReturnsInHanded {} Try.checked os 3 .any (Rows.orderTellsSpec.pre6 enc Try.prog Try.f3 Rows.orderTellsRow.domain false) (Rows.orderTellsSpec.post enc Try.prog Try.f3 false true false false) := by
  refine returnsInHanded_of_change_sized (C := Try.checked) own started (by kernel_rfl) Try.func3
    (ChangeSpec.witness6 (enc := enc) (C := Try.checked) false ⟨#[], #[.agg #[.string .empty, .string .empty, .string .empty, .string .empty, .string .empty, .string .empty, .int .i64 0, .slice none 0 0], .agg #[.string .empty, .string .empty, .string .empty, .string .empty, .string .empty, .string .empty, .int .i64 0, .slice none 0 0]], []⟩ 8 (by kernel_rfl) (by kernel_rfl) (by kernel_rfl) (by kernel_rfl)) ?_
  intro W base args ds gs before hval hW _ hsz _
  exact law_contract Try.tab kids full (fn := Try.f3) (ts := [24, 24]) (rt := 4) (by kernel_rfl) (by kernel_rfl) rfl rfl hT hk (at_true H) all_args W base args ds gs before hval hW hsz
theorem proved : Rows.OrderTellsSaid :=
  OpenClaim.holds_of_wide 3 Try.f3 rfl rfl rfl rfl rfl rfl rfl ⟨rfl, rfl, rfl, rfl, rfl⟩ rfl rfl rfl rfl rfl (by kernel_rfl) Try.func3 (by kernel_rfl)
    (of_decide_eq_true (by kernel_rfl)) (by unfold Func.isWrapper; first | (rw [if_pos (by decide +kernel)]; kernel_rfl) | (rw [if_neg (by decide +kernel)]; exact ⟨rfl, rfl⟩))
    (fun os started H enc _ => lifted os started H enc)
end Go.Proofs.Ytnfgkccocknloaa.orderTells
