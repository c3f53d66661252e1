/- DisputeSums: for any pot and any claimants the law's Go function returns true and leaves its arguments as they were. Conditions: none but the row's own. -/
import Derived.Test.YtldfncafkdmoiaaGL
namespace Go.Proofs.Ytldfncafkdmoiaa.disputeSums
open Go.SL Go.ChangeShapes Go.WideShapes Go.ChangeAt Go.RowKit

theorem all_args : ∀ args, OkArgs ([2, 24].map (argK Try.tab)) args → AC Try.prog 8 args [] [] (fun r _ => r = .d (.sc (.bool true))) := by
  intro args h
  have e : [2, 24].map (argK Try.tab) = [some (false, i64S), some (false, clsS)] := by simp only [List.map_cons, List.map_nil, argK_i64, argK_cls]
  rw [e] at h
  obtain ⟨x1, _, rfl, h1, h⟩ := h.cons_inv
  obtain ⟨x2, _, rfl, h2, h⟩ := h.cons_inv
  obtain rfl := h.nil_inv
  obtain ⟨n, rfl, hn1, hn2⟩ := i64_of h1
  obtain ⟨l, rfl, hl, hs⟩ := cls_of h2
  exact lsums_ac n l hl hs
theorem hk : ∀ t ∈ [2, 24], ∃ k, argK Try.tab t = some k := by
  intro t ht
  simp only [List.mem_cons, List.not_mem_nil, or_false] at ht
  rcases ht with rfl | rfl
  · exact ⟨_, argK_i64⟩
  · exact ⟨_, argK_cls⟩
theorem hT : ∀ t ∈ [2, 24], t < Try.prog.types.size := by
  intro t ht
  simp only [List.mem_cons, List.not_mem_nil, or_false] at ht
  rcases ht with rfl | rfl <;> exact small (by kernel_rfl)
theorem at_true (H : Type) : AnyTrue (H := H) Rows.disputeSumsSpec 2 := by
  intro ds hd
  match ds, hd with
  | [d0, d1], _ => rfl
set_option maxRecDepth 100000 in
theorem lifted (os : Os) (started : os.Started) (H : Type) (enc : TypeId × Value → H) :
    ReturnsInHanded {} Try.checked os 8 .any (Rows.disputeSumsSpec.pre6 enc Try.prog Try.f8 Rows.disputeSumsRow.domain false) (Rows.disputeSumsSpec.post enc Try.prog Try.f8 false true false false) := by
  refine returnsInHanded_of_change_sized (C := Try.checked) own started (by kernel_rfl) Try.func8
    (ChangeSpec.witness6 (enc := enc) (C := Try.checked) false ⟨#[], #[.int .i64 0, .slice none 0 0], []⟩ 8 (by kernel_rfl) (by kernel_rfl) (by kernel_rfl) (by kernel_rfl)) ?_
  intro W base args ds gs before hval hW _ hsz _
  exact law_contract Try.tab kids full (fn := Try.f8) (ts := [2, 24]) (rt := 4) (by kernel_rfl) (by kernel_rfl) rfl rfl hT hk (at_true H) all_args W base args ds gs before hval hW hsz
theorem proved : Rows.DisputeSumsSaid :=
  OpenClaim.holds_of_wide 8 Try.f8 rfl rfl rfl rfl rfl rfl rfl ⟨rfl, rfl, rfl, rfl, rfl⟩ rfl rfl rfl rfl rfl (by kernel_rfl) Try.func8 (by kernel_rfl)
    (of_decide_eq_true (by kernel_rfl)) (by unfold Func.isWrapper; first | (rw [if_pos (by decide +kernel)]; kernel_rfl) | (rw [if_neg (by decide +kernel)]; exact ⟨rfl, rfl⟩))
    (fun os started H enc _ => lifted os started H enc)
end Go.Proofs.Ytldfncafkdmoiaa.disputeSums
