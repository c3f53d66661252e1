/- DisputeTop: for any pot, any claimants and any rank the law's Go function returns true and leaves its arguments as they were. Conditions: none but the row's own. -/
import Derived.Test.YtldfncafkdmoiaaGM
namespace Go.Proofs.Ytldfncafkdmoiaa.disputeTop
open Go.SL Go.ChangeShapes Go.WideShapes Go.ChangeAt Go.RowKit

theorem all_args : ∀ args, OkArgs ([2, 24, 3].map (argK Try.tab)) args → AC Try.prog 9 args [] [] (fun r _ => r = .d (.sc (.bool true))) := by
  intro args h
  have e : [2, 24, 3].map (argK Try.tab) = [some (false, i64S), some (false, clsS), some (false, i64S)] := by simp only [List.map_cons, List.map_nil, argK_i64, argK_cls, argK_int]
  rw [e] at h
  obtain ⟨x1, _, rfl, h1, h⟩ := h.cons_inv
  obtain ⟨x2, _, rfl, h2, h⟩ := h.cons_inv
  obtain ⟨x3, _, rfl, h3, h⟩ := h.cons_inv
  obtain rfl := h.nil_inv
  obtain ⟨n, rfl, hn1, hn2⟩ := i64_of h1
  obtain ⟨l, rfl, hl, hs⟩ := cls_of h2
  obtain ⟨m, rfl, _⟩ := i64_of h3
  exact ltop_ac n l m hl hs
theorem hk : ∀ t ∈ [2, 24, 3], ∃ k, argK Try.tab t = some k := by
  intro t ht
  simp only [List.mem_cons, List.not_mem_nil, or_false] at ht
  rcases ht with rfl | rfl | rfl
  · exact ⟨_, argK_i64⟩
  · exact ⟨_, argK_cls⟩
  · exact ⟨_, argK_int⟩
theorem hT : ∀ t ∈ [2, 24, 3], t < Try.prog.types.size := by
  intro t ht
  simp only [List.mem_cons, List.not_mem_nil, or_false] at ht
  rcases ht with rfl | rfl | rfl <;> exact small (by kernel_rfl)
theorem at_true (H : Type) : AnyTrue (H := H) Rows.disputeTopSpec 3 := by
  intro ds hd
  match ds, hd with
  | [d0, d1, d2], _ => rfl
set_option maxRecDepth 100000 in
theorem lifted (os : Os) (started : os.Started) (H : Type) (enc : TypeId × Value → H) :
    ReturnsInHanded {} Try.checked os 9 .any (Rows.disputeTopSpec.pre6 enc Try.prog Try.f9 Rows.disputeTopRow.domain false) (Rows.disputeTopSpec.post enc Try.prog Try.f9 false true false false) := by
  refine returnsInHanded_of_change_sized (C := Try.checked) own started (by kernel_rfl) Try.func9
    (ChangeSpec.witness6 (enc := enc) (C := Try.checked) false ⟨#[], #[.int .i64 0, .slice none 0 0, .int .i64 0], []⟩ 8 (by kernel_rfl) (by kernel_rfl) (by kernel_rfl) (by kernel_rfl)) ?_
  intro W base args ds gs before hval hW _ hsz _
  exact law_contract Try.tab kids full (fn := Try.f9) (ts := [2, 24, 3]) (rt := 4) (by kernel_rfl) (by kernel_rfl) rfl rfl hT hk (at_true H) all_args W base args ds gs before hval hW hsz
theorem proved : Rows.DisputeTopSaid :=
  OpenClaim.holds_of_wide 9 Try.f9 rfl rfl rfl rfl rfl rfl rfl ⟨rfl, rfl, rfl, rfl, rfl⟩ rfl rfl rfl rfl rfl (by kernel_rfl) Try.func9 (by kernel_rfl)
    (of_decide_eq_true (by kernel_rfl)) (by unfold Func.isWrapper; first | (rw [if_pos (by decide +kernel)]; kernel_rfl) | (rw [if_neg (by decide +kernel)]; exact ⟨rfl, rfl⟩))
    (fun os started H enc _ => lifted os started H enc)
end Go.Proofs.Ytldfncafkdmoiaa.disputeTop
