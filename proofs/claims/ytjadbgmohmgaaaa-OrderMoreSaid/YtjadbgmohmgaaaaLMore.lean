/- OrderMore: for any order, dates, parts and places the law's Go function returns true and leaves its arguments as they were. Conditions: none but the row's own. -/
import Derived.Test.YtjadbgmohmgaaaaL1
import Derived.Test.YtjadbgmohmgaaaaON
namespace Go.Proofs.Ytjadbgmohmgaaaa.orderMore
open Go.SL Go.ChangeShapes Go.WideShapes Go.ChangeAt Go.RowKit

theorem all_args : ∀ args, OkArgs ([24, 25, 26, 3, 3].map (argK Try.tab)) args → AC Try.prog 3 args [] [] (fun r _ => r = .d (.sc (.bool true))) := by
  intro args h
  have e : [24, 25, 26, 3, 3].map (argK Try.tab) = [some (true, ordS), some (false, daS), some (false, paS), some (false, inS), some (false, inS)] := by simp only [List.map_cons, List.map_nil, argK_ord, argK_d, argK_p, argK_i]
  rw [e] at h
  obtain ⟨x1, _, rfl, h1, h⟩ := h.cons_inv
  obtain ⟨x2, _, rfl, h2, h⟩ := h.cons_inv
  obtain ⟨x3, _, rfl, h3, h⟩ := h.cons_inv
  obtain ⟨x4, _, rfl, h4, h⟩ := h.cons_inv
  obtain ⟨x5, _, rfl, h5, h⟩ := h.cons_inv
  obtain rfl := h.nil_inv
  obtain ⟨o, rfl, fo, _⟩ := ord_of h1
  obtain ⟨da, rfl, hd⟩ := da_of h2
  obtain ⟨pa, rfl, hp, hq⟩ := pa_of h3
  obtain ⟨n, rfl, n1, n2⟩ := in_of h4
  obtain ⟨m, rfl, m1, m2⟩ := in_of h5
  exact orderMore_ac o da pa n m fo ⟨hd, hp, fo.ll, hq⟩ n1 n2 m1 m2
theorem hk : ∀ t ∈ [24, 25, 26, 3, 3], ∃ k, argK Try.tab t = some k := by
  intro t ht
  simp only [List.mem_cons, List.not_mem_nil, or_false] at ht
  rcases ht with rfl | rfl | rfl | rfl | rfl
  · exact ⟨_, argK_ord⟩
  · exact ⟨_, argK_d⟩
  · exact ⟨_, argK_p⟩
  · exact ⟨_, argK_i⟩
  · exact ⟨_, argK_i⟩
theorem hT : ∀ t ∈ [24, 25, 26, 3, 3], t < Try.prog.types.size := by
  intro t ht
  simp only [List.mem_cons, List.not_mem_nil, or_false] at ht
  rcases ht with rfl | rfl | rfl | rfl | rfl <;> exact small (by kernel_rfl)
theorem at_true (H : Type) : AnyTrue (H := H) Rows.orderMoreSpec 5 := by
  intro ds hd
  match ds, hd with
  | [d0, d1, d2, d3, d4], _ => rfl
set_option maxRecDepth 100000 in
theorem lifted (os : Os) (started : os.Started) (H : Type) (enc : TypeId × Value → H) :
    ReturnsInHanded {} Try.checked os 3 .any (Rows.orderMoreSpec.pre6 enc Try.prog Try.f3 Rows.orderMoreRow.domain false) (Rows.orderMoreSpec.post enc Try.prog Try.f3 false true false false) := by
  refine returnsInHanded_of_change_sized (C := Try.checked) own started (by kernel_rfl) Try.func3
    (ChangeSpec.witness6 (enc := enc) (C := Try.checked) false ⟨#[], #[.agg #[.string .empty, .string .empty, .string .empty, .string .empty, .string .empty, .string .empty, .int .i64 0, .slice none 0 0], .slice none 0 0, .slice none 0 0, .int .i64 0, .int .i64 0], []⟩ 8 (by kernel_rfl) (by kernel_rfl) (by kernel_rfl) (by kernel_rfl)) ?_
  intro W base args ds gs before hval hW _ hsz _
  exact law_contract Try.tab kids full (fn := Try.f3) (ts := [24, 25, 26, 3, 3]) (rt := 4) (by kernel_rfl) (by kernel_rfl) rfl rfl hT hk (at_true H) all_args W base args ds gs before hval hW hsz
theorem proved : Rows.OrderMoreSaid :=
  OpenClaim.holds_of_wide 3 Try.f3 rfl rfl rfl rfl rfl rfl rfl ⟨rfl, rfl, rfl, rfl, rfl⟩ rfl rfl rfl rfl rfl (by kernel_rfl) Try.func3 (by kernel_rfl)
    (of_decide_eq_true (by kernel_rfl)) (by unfold Func.isWrapper; first | (rw [if_pos (by decide +kernel)]; kernel_rfl) | (rw [if_neg (by decide +kernel)]; exact ⟨rfl, rfl⟩))
    (fun os started H enc _ => lifted os started H enc)
end Go.Proofs.Ytjadbgmohmgaaaa.orderMore
