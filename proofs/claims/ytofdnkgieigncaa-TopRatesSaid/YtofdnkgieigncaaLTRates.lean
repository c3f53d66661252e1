/- TopRates: for any rates, amounts and day the law's Go function returns true and leaves its arguments as they were. Conditions: none but the row's own. -/
import Derived.Test.YtofdnkgieigncaaUR
namespace Go.Proofs.Ytofdnkgieigncaa.topRates
open Go.SL Go.ChangeShapes Go.WideShapes Go.ChangeAt Go.RowKit

theorem all_args : ∀ args, OkArgs ([22, 23, 5].map (argK Try.tab)) args → AC Try.prog 3 args [] [] (fun r _ => r = .d (.sc (.bool true))) := by
  intro args h
  have e : [22, 23, 5].map (argK Try.tab) = [some (false, rtsS), some (false, u32wS), some (false, u8wS)] := by simp only [List.map_cons, List.map_nil, argK_rts, argK_u32w, argK_u8w]
  rw [e] at h
  obtain ⟨x1, _, rfl, h1, h⟩ := h.cons_inv
  obtain ⟨x2, _, rfl, h2, h⟩ := h.cons_inv
  obtain ⟨x3, _, rfl, h3, h⟩ := h.cons_inv
  obtain rfl := h.nil_inv
  obtain ⟨s, rfl, hs, hs2⟩ := rts_of h1
  obtain ⟨b, rfl, hb, hb2⟩ := u32w_of h2
  obtain ⟨n, rfl, hn⟩ := u8w_of h3
  exact topRates_ac s b n hs hb hs2 hb2 hn
theorem hk : ∀ t ∈ [22, 23, 5], ∃ k, argK Try.tab t = some k := by
  intro t ht
  simp only [List.mem_cons, List.not_mem_nil, or_false] at ht
  rcases ht with rfl | rfl | rfl
  · exact ⟨_, argK_rts⟩
  · exact ⟨_, argK_u32w⟩
  · exact ⟨_, argK_u8w⟩
theorem hT : ∀ t ∈ [22, 23, 5], t < Try.prog.types.size := by
  intro t ht
  simp only [List.mem_cons, List.not_mem_nil, or_false] at ht
  rcases ht with rfl | rfl | rfl <;> exact small (by kernel_rfl)
theorem at_true (H : Type) : AnyTrue (H := H) Rows.topRatesSpec 3 := by
  intro ds hd
  match ds, hd with
  | [d0, d1, d2], _ => rfl
set_option maxRecDepth 100000 in
theorem lifted (os : Os) (started : os.Started) (H : Type) (enc : TypeId × Value → H) :
    ReturnsInHanded {} Try.checked os 3 .any (Rows.topRatesSpec.pre6 enc Try.prog Try.f3 Rows.topRatesRow.domain false) (Rows.topRatesSpec.post enc Try.prog Try.f3 false true false false) := by
  refine returnsInHanded_of_change_sized (C := Try.checked) own started (by kernel_rfl) Try.func3
    (ChangeSpec.witness6 (enc := enc) (C := Try.checked) false ⟨#[], #[.slice none 0 0, .slice none 0 0, .int .u8 0], []⟩ 8 (by kernel_rfl) (by kernel_rfl) (by kernel_rfl) (by kernel_rfl)) ?_
  intro W base args ds gs before hval hW _ hsz _
  exact law_contract Try.tab kids full (fn := Try.f3) (ts := [22, 23, 5]) (rt := 4) (by kernel_rfl) (by kernel_rfl) rfl rfl hT hk (at_true H) all_args W base args ds gs before hval hW hsz
theorem proved : Rows.TopRatesSaid :=
  OpenClaim.holds_of_wide 3 Try.f3 rfl rfl rfl rfl rfl rfl rfl ⟨rfl, rfl, rfl, rfl, rfl⟩ rfl rfl rfl rfl rfl (by kernel_rfl) Try.func3 (by kernel_rfl)
    (of_decide_eq_true (by kernel_rfl)) (by unfold Func.isWrapper; first | (rw [if_pos (by decide +kernel)]; kernel_rfl) | (rw [if_neg (by decide +kernel)]; exact ⟨rfl, rfl⟩))
    (fun os started H enc _ => lifted os started H enc)
end Go.Proofs.Ytofdnkgieigncaa.topRates
