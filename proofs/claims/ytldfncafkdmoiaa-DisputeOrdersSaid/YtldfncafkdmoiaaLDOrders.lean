/- DisputeOrders: for any three claimants the law's Go function returns true and leaves its arguments as they were. Conditions: none but the row's own. -/
import Derived.Test.YtldfncafkdmoiaaFS
namespace Go.Proofs.Ytldfncafkdmoiaa.disputeOrders
open Go.SL Go.ChangeShapes Go.WideShapes Go.ChangeAt Go.RowKit

theorem all_args : ∀ args, OkArgs ([23, 23, 23].map (argK Try.tab)) args → AC Try.prog 5 args [] [] (fun r _ => r = .d (.sc (.bool true))) := by
  intro args h
  have e : [23, 23, 23].map (argK Try.tab) = [some (true, clS), some (true, clS), some (true, clS)] := by simp only [List.map_cons, List.map_nil, argK_cl]
  rw [e] at h
  obtain ⟨x1, _, rfl, h1, h⟩ := h.cons_inv
  obtain ⟨x2, _, rfl, h2, h⟩ := h.cons_inv
  obtain ⟨x3, _, rfl, h3, h⟩ := h.cons_inv
  obtain rfl := h.nil_inv
  obtain ⟨a, rfl, ha⟩ := cl_of h1
  obtain ⟨b, rfl, hb⟩ := cl_of h2
  obtain ⟨c, rfl, hc⟩ := cl_of h3
  exact lorders_ac a b c ha hb hc
theorem hk : ∀ t ∈ [23, 23, 23], ∃ k, argK Try.tab t = some k := by
  intro t ht
  simp only [List.mem_cons, List.not_mem_nil, or_false] at ht
  rcases ht with rfl | rfl | rfl
  · exact ⟨_, argK_cl⟩
  · exact ⟨_, argK_cl⟩
  · exact ⟨_, argK_cl⟩
theorem hT : ∀ t ∈ [23, 23, 23], t < Try.prog.types.size := by
  intro t ht
  simp only [List.mem_cons, List.not_mem_nil, or_false] at ht
  rcases ht with rfl | rfl | rfl <;> exact small (by kernel_rfl)
theorem at_true (H : Type) : AnyTrue (H := H) Rows.disputeOrdersSpec 3 := by
  intro ds hd
  match ds, hd with
  | [d0, d1, d2], _ => rfl
set_option maxRecDepth 100000 in
theorem lifted (os : Os) (started : os.Started) (H : Type) (enc : TypeId × Value → H) :
    ReturnsInHanded {} Try.checked os 5 .any (Rows.disputeOrdersSpec.pre6 enc Try.prog Try.f5 Rows.disputeOrdersRow.domain false) (Rows.disputeOrdersSpec.post enc Try.prog Try.f5 false true false false) := by
  refine returnsInHanded_of_change_sized (C := Try.checked) own started (by kernel_rfl) Try.func5
    (ChangeSpec.witness6 (enc := enc) (C := Try.checked) false ⟨#[], #[.agg #[.string .empty, .string .empty, .int .i64 0, .int .i64 0, .int .i64 0], .agg #[.string .empty, .string .empty, .int .i64 0, .int .i64 0, .int .i64 0], .agg #[.string .empty, .string .empty, .int .i64 0, .int .i64 0, .int .i64 0]], []⟩ 8 (by kernel_rfl) (by kernel_rfl) (by kernel_rfl) (by kernel_rfl)) ?_
  intro W base args ds gs before hval hW _ hsz _
  exact law_contract Try.tab kids full (fn := Try.f5) (ts := [23, 23, 23]) (rt := 4) (by kernel_rfl) (by kernel_rfl) rfl rfl hT hk (at_true H) all_args W base args ds gs before hval hW hsz
theorem proved : Rows.DisputeOrdersSaid :=
  OpenClaim.holds_of_wide 5 Try.f5 rfl rfl rfl rfl rfl rfl rfl ⟨rfl, rfl, rfl, rfl, rfl⟩ rfl rfl rfl rfl rfl (by kernel_rfl) Try.func5 (by kernel_rfl)
    (of_decide_eq_true (by kernel_rfl)) (by unfold Func.isWrapper; first | (rw [if_pos (by decide +kernel)]; kernel_rfl) | (rw [if_neg (by decide +kernel)]; exact ⟨rfl, rfl⟩))
    (fun os started H enc _ => lifted os started H enc)
end Go.Proofs.Ytldfncafkdmoiaa.disputeOrders
