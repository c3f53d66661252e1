/- MatchMails: for any letters sent and got the law's Go function returns true and leaves its arguments as they were. Conditions: none but the row's own. -/
import Derived.Test.YtfgmnhlopgaanaaR8
namespace Go.Proofs.Ytfgmnhlopgaanaa.matchMails
open Go.SL Go.ChangeShapes Go.WideShapes Go.ChangeAt Go.RowKit

theorem all_args : ∀ args, OkArgs ([38, 38].map (argK Try.tab)) args → AC Try.prog 6 args [] [] (fun r _ => r = .d (.sc (.bool true))) := by
  intro args h
  have e : [38, 38].map (argK Try.tab) = [some (false, leS), some (false, leS)] := by simp only [List.map_cons, List.map_nil, argK_le]
  rw [e] at h
  obtain ⟨x1, _, rfl, h1, h⟩ := h.cons_inv
  obtain ⟨x2, _, rfl, h2, h⟩ := h.cons_inv
  obtain rfl := h.nil_inv
  obtain ⟨s, rfl, hs, os⟩ := le_of h1
  obtain ⟨g, rfl, hg, og⟩ := le_of h2
  exact matchMails_ac s g hs hg os og
theorem hk : ∀ t ∈ [38, 38], ∃ k, argK Try.tab t = some k := by
  intro t ht
  simp only [List.mem_cons, List.not_mem_nil, or_false] at ht
  rcases ht with rfl | rfl
  · exact ⟨_, argK_le⟩
  · exact ⟨_, argK_le⟩
theorem hT : ∀ t ∈ [38, 38], t < Try.prog.types.size := by
  intro t ht
  simp only [List.mem_cons, List.not_mem_nil, or_false] at ht
  rcases ht with rfl | rfl <;> exact small (by kernel_rfl)
theorem at_true (H : Type) : AnyTrue (H := H) Rows.matchMailsSpec 2 := by
  intro ds hd
  match ds, hd with
  | [d0, d1], _ => rfl
set_option maxRecDepth 100000 in
theorem lifted (os : Os) (started : os.Started) (H : Type) (enc : TypeId × Value → H) :
    ReturnsInHanded {} Try.checked os 6 .any (Rows.matchMailsSpec.pre6 enc Try.prog Try.f6 Rows.matchMailsRow.domain false) (Rows.matchMailsSpec.post enc Try.prog Try.f6 false true false false) := by
  refine returnsInHanded_of_change_sized (C := Try.checked) own started (by kernel_rfl) Try.func6
    (ChangeSpec.witness6 (enc := enc) (C := Try.checked) false ⟨#[], #[.slice none 0 0, .slice none 0 0], []⟩ 8 (by kernel_rfl) (by kernel_rfl) (by kernel_rfl) (by kernel_rfl)) ?_
  intro W base args ds gs before hval hW _ hsz _
  exact law_contract Try.tab kids full (fn := Try.f6) (ts := [38, 38]) (rt := 4) (by kernel_rfl) (by kernel_rfl) rfl rfl hT hk (at_true H) all_args W base args ds gs before hval hW hsz
theorem proved : Rows.MatchMailsSaid :=
  OpenClaim.holds_of_wide 6 Try.f6 rfl rfl rfl rfl rfl rfl rfl ⟨rfl, rfl, rfl, rfl, rfl⟩ rfl rfl rfl rfl rfl (by kernel_rfl) Try.func6 (by kernel_rfl)
    (of_decide_eq_true (by kernel_rfl)) (by unfold Func.isWrapper; first | (rw [if_pos (by decide +kernel)]; kernel_rfl) | (rw [if_neg (by decide +kernel)]; exact ⟨rfl, rfl⟩))
    (fun os started H enc _ => lifted os started H enc)
end Go.Proofs.Ytfgmnhlopgaanaa.matchMails
