/- TopMature: for any calendar, sum, days and rate the law's Go function returns true and leaves its arguments as they were. Conditions: none but the row's own. -/
import Derived.Test.YtofdnkgieigncaaGreatMK
namespace Go.Proofs.YtofdnkgieigncaaGreat.topMature
open Go.SL Go.ChangeShapes Go.WideShapes Go.ChangeAt Go.RowKit

theorem all_args : ∀ args, OkArgs ([69, 70, 30, 30, 5, 5, 4].map (argK Tryz.tab)) args → AC Tryz.prog 5 args [] [] (fun r _ => r = .d (.sc (.bool true))) := by
  intro args h
  have e : [69, 70, 30, 30, 5, 5, 4].map (argK Tryz.tab) = [some (true, calS), some (false, u32S), some (false, u16S), some (false, u16S), some (false, u8S), some (false, u8S), some (false, boolS)] := by simp only [List.map_cons, List.map_nil, argK_cal, argK_u32, argK_u16, argK_u8, argK_bool]
  rw [e] at h
  obtain ⟨x1, _, rfl, h1, h⟩ := h.cons_inv
  obtain ⟨x2, _, rfl, h2, h⟩ := h.cons_inv
  obtain ⟨x3, _, rfl, h3, h⟩ := h.cons_inv
  obtain ⟨x4, _, rfl, h4, h⟩ := h.cons_inv
  obtain ⟨x5, _, rfl, h5, h⟩ := h.cons_inv
  obtain ⟨x6, _, rfl, h6, h⟩ := h.cons_inv
  obtain ⟨x7, _, rfl, h7, h⟩ := h.cons_inv
  obtain rfl := h.nil_inv
  obtain ⟨R, H, rfl, hR, hH⟩ := cal_of h1
  obtain ⟨s, rfl, hs⟩ := u32_of h2
  obtain ⟨a, rfl, ha⟩ := u16_of h3
  obtain ⟨f, rfl, hf⟩ := u16_of h4
  obtain ⟨n, rfl, hn⟩ := u8_of h5
  obtain ⟨d, rfl, hd⟩ := u8_of h6
  obtain ⟨b, rfl⟩ := bool_of h7
  exact topMature_ac R H s a f n d b hR hH hs ha hf hn hd
theorem hk : ∀ t ∈ [69, 70, 30, 30, 5, 5, 4], ∃ k, argK Tryz.tab t = some k := by
  intro t ht
  simp only [List.mem_cons, List.not_mem_nil, or_false] at ht
  rcases ht with rfl | rfl | rfl | rfl | rfl | rfl | rfl
  · exact ⟨_, argK_cal⟩
  · exact ⟨_, argK_u32⟩
  · exact ⟨_, argK_u16⟩
  · exact ⟨_, argK_u16⟩
  · exact ⟨_, argK_u8⟩
  · exact ⟨_, argK_u8⟩
  · exact ⟨_, argK_bool⟩
theorem hT : ∀ t ∈ [69, 70, 30, 30, 5, 5, 4], t < Tryz.prog.types.size := by
  intro t ht
  simp only [List.mem_cons, List.not_mem_nil, or_false] at ht
  rcases ht with rfl | rfl | rfl | rfl | rfl | rfl | rfl <;> exact small (by kernel_rfl)
theorem at_true (H : Type) : AnyTrue (H := H) Rows.topMatureSpec 7 := by
  intro ds hd
  match ds, hd with
  | [d0, d1, d2, d3, d4, d5, d6], _ => rfl
set_option maxRecDepth 100000 in
theorem lifted (os : Os) (started : os.Started) (H : Type) (enc : TypeId × Value → H) :
    ReturnsInHanded {} Tryz.checked os 5 .any (Rows.topMatureSpec.pre6 enc Tryz.prog Tryz.f5 Rows.topMatureRow.domain false) (Rows.topMatureSpec.post enc Tryz.prog Tryz.f5 false true false false) := by
  refine returnsInHanded_of_change_sized (C := Tryz.checked) own started (by kernel_rfl) Tryz.func5
    (ChangeSpec.witness6 (enc := enc) (C := Tryz.checked) false ⟨#[], #[.agg #[.slice none 0 0, .slice none 0 0], .int .u32 0, .int .u16 0, .int .u16 0, .int .u8 0, .int .u8 0, .bool false], []⟩ 8 (by kernel_rfl) (by kernel_rfl) (by kernel_rfl) (by kernel_rfl)) ?_
  intro W base args ds gs before hval hW _ hsz _
  exact law_contract Tryz.tab kids full (fn := Tryz.f5) (ts := [69, 70, 30, 30, 5, 5, 4]) (rt := 4) (by kernel_rfl) (by kernel_rfl) rfl rfl hT hk (at_true H) all_args W base args ds gs before hval hW hsz
theorem proved : Rows.TopMatureSaid :=
  OpenClaim.holds_of_wide 5 Tryz.f5 rfl rfl rfl rfl rfl rfl rfl ⟨rfl, rfl, rfl, rfl, rfl⟩ rfl rfl rfl rfl rfl (by kernel_rfl) Tryz.func5 (by kernel_rfl)
    (of_decide_eq_true (by kernel_rfl)) (by unfold Func.isWrapper; first | (rw [if_pos (by decide +kernel)]; kernel_rfl) | (rw [if_neg (by decide +kernel)]; exact ⟨rfl, rfl⟩))
    (fun os started H enc _ => lifted os started H enc)
end Go.Proofs.YtofdnkgieigncaaGreat.topMature
