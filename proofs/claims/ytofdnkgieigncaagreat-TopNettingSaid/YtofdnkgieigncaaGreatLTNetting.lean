/- TopNetting: for any debts and way the law's Go function returns true and leaves its arguments as they were. Conditions: none but the row's own. -/
import Derived.Test.YtofdnkgieigncaaGreatUN
namespace Go.Proofs.YtofdnkgieigncaaGreat.topNetting
open Go.SL Go.ChangeShapes Go.WideShapes Go.ChangeAt Go.RowKit

theorem all_args : ∀ args, OkArgs ([49, 5].map (argK Tryz.tab)) args → AC Tryz.prog 4 args [] [] (fun r _ => r = .d (.sc (.bool true))) := by
  intro args h
  have e : [49, 5].map (argK Tryz.tab) = [some (false, owsS), some (false, u8S)] := by simp only [List.map_cons, List.map_nil, argK_ows, argK_u8]
  rw [e] at h
  obtain ⟨x1, _, rfl, h1, h⟩ := h.cons_inv
  obtain ⟨x2, _, rfl, h2, h⟩ := h.cons_inv
  obtain rfl := h.nil_inv
  obtain ⟨s, rfl, hs, hs2⟩ := ows_of h1
  obtain ⟨n, rfl, hn⟩ := u8_of h2
  exact topNetting_ac s n hs hs2 hn
theorem hk : ∀ t ∈ [49, 5], ∃ k, argK Tryz.tab t = some k := by
  intro t ht
  simp only [List.mem_cons, List.not_mem_nil, or_false] at ht
  rcases ht with rfl | rfl
  · exact ⟨_, argK_ows⟩
  · exact ⟨_, argK_u8⟩
theorem hT : ∀ t ∈ [49, 5], t < Tryz.prog.types.size := by
  intro t ht
  simp only [List.mem_cons, List.not_mem_nil, or_false] at ht
  rcases ht with rfl | rfl <;> exact small (by kernel_rfl)
theorem at_true (H : Type) : AnyTrue (H := H) Rows.topNettingSpec 2 := by
  intro ds hd
  match ds, hd with
  | [d0, d1], _ => rfl
set_option maxRecDepth 100000 in
theorem lifted (os : Os) (started : os.Started) (H : Type) (enc : TypeId × Value → H) :
    ReturnsInHanded {} Tryz.checked os 4 .any (Rows.topNettingSpec.pre6 enc Tryz.prog Tryz.f4 Rows.topNettingRow.domain false) (Rows.topNettingSpec.post enc Tryz.prog Tryz.f4 false true false false) := by
  refine returnsInHanded_of_change_sized (C := Tryz.checked) own started (by kernel_rfl) Tryz.func4
    (ChangeSpec.witness6 (enc := enc) (C := Tryz.checked) false ⟨#[], #[.slice none 0 0, .int .u8 0], []⟩ 8 (by kernel_rfl) (by kernel_rfl) (by kernel_rfl) (by kernel_rfl)) ?_
  intro W base args ds gs before hval hW _ hsz _
  exact law_contract Tryz.tab kids full (fn := Tryz.f4) (ts := [49, 5]) (rt := 4) (by kernel_rfl) (by kernel_rfl) rfl rfl hT hk (at_true H) all_args W base args ds gs before hval hW hsz
theorem proved : Rows.TopNettingSaid :=
  OpenClaim.holds_of_wide 4 Tryz.f4 rfl rfl rfl rfl rfl rfl rfl ⟨rfl, rfl, rfl, rfl, rfl⟩ rfl rfl rfl rfl rfl (by kernel_rfl) Tryz.func4 (by kernel_rfl)
    (of_decide_eq_true (by kernel_rfl)) (by unfold Func.isWrapper; first | (rw [if_pos (by decide +kernel)]; kernel_rfl) | (rw [if_neg (by decide +kernel)]; exact ⟨rfl, rfl⟩))
    (fun os started H enc _ => lifted os started H enc)
end Go.Proofs.YtofdnkgieigncaaGreat.topNetting
