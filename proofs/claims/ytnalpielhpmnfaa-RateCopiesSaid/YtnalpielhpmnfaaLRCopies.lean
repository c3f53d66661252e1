/- RateCopies: for any rates, a further one and a day the law's Go function returns true and leaves its arguments as they were. Conditions: none but the row's own. -/
import Derived.Test.YtnalpielhpmnfaaRV
import Derived.Test.YtnalpielhpmnfaaRM
namespace Go.Proofs.Ytnalpielhpmnfaa.rateCopies
open Go.SL Go.ChangeShapes Go.WideShapes Go.ChangeAt Go.RowKit

theorem all_args : ∀ args, OkArgs ([22, 48, 3].map (argK Try.tab)) args → AC Try.prog 8 args [] [] (fun r _ => r = .d (.sc (.bool true))) := by
  intro args h
  have e : [22, 48, 3].map (argK Try.tab) = [some (false, rtsS), some (true, rtS), some (false, i64S)] := by simp only [List.map_cons, List.map_nil, argK_rts, argK_rate, argK_int]
  rw [e] at h
  obtain ⟨x1, _, rfl, h1, h⟩ := h.cons_inv
  obtain ⟨x2, _, rfl, h2, h⟩ := h.cons_inv
  obtain ⟨x3, _, rfl, h3, h⟩ := h.cons_inv
  obtain rfl := h.nil_inv
  obtain ⟨l, rfl, hl, hs⟩ := rts_of h1
  obtain ⟨x, rfl, _⟩ := rate_of h2
  obtain ⟨n, rfl, _⟩ := i64_of h3
  exact copies_ac l x n hl hs
theorem hk : ∀ t ∈ [22, 48, 3], ∃ k, argK Try.tab t = some k := by
  intro t ht
  simp only [List.mem_cons, List.not_mem_nil, or_false] at ht
  rcases ht with rfl | rfl | rfl
  · exact ⟨_, argK_rts⟩
  · exact ⟨_, argK_rate⟩
  · exact ⟨_, argK_int⟩
theorem hT : ∀ t ∈ [22, 48, 3], t < Try.prog.types.size := by
  intro t ht
  simp only [List.mem_cons, List.not_mem_nil, or_false] at ht
  rcases ht with rfl | rfl | rfl <;> exact small (by kernel_rfl)
theorem at_true (H : Type) : AnyTrue (H := H) Rows.rateCopiesSpec 3 := by
  intro ds hd
  match ds, hd with
  | [d0, d1, d2], _ => rfl
set_option maxRecDepth 100000 in
theorem lifted (os : Os) (started : os.Started) (H : Type) (enc : TypeId × Value → H) :
    ReturnsInHanded {} Try.checked os 8 .any (Rows.rateCopiesSpec.pre6 enc Try.prog Try.f8 Rows.rateCopiesRow.domain false) (Rows.rateCopiesSpec.post enc Try.prog Try.f8 false true false false) := by
  refine returnsInHanded_of_change_sized (C := Try.checked) own started (by kernel_rfl) Try.func8
    (ChangeSpec.witness6 (enc := enc) (C := Try.checked) false ⟨#[], #[.slice none 0 0, .agg #[.string ByteArray.empty, .string ByteArray.empty, .int .i64 0, .int .i64 0, .int .i64 0], .int .i64 0], []⟩ 8 (by kernel_rfl) (by kernel_rfl) (by kernel_rfl) (by kernel_rfl)) ?_
  intro W base args ds gs before hval hW _ hsz _
  exact law_contract Try.tab kids full (fn := Try.f8) (ts := [22, 48, 3]) (rt := 4) (by kernel_rfl) (by kernel_rfl) rfl rfl hT hk (at_true H) all_args W base args ds gs before hval hW hsz
theorem proved : Rows.RateCopiesSaid :=
  OpenClaim.holds_of_wide 8 Try.f8 rfl rfl rfl rfl rfl rfl rfl ⟨rfl, rfl, rfl, rfl, rfl⟩ rfl rfl rfl rfl rfl (by kernel_rfl) Try.func8 (by kernel_rfl)
    (of_decide_eq_true (by kernel_rfl)) (by unfold Func.isWrapper; first | (rw [if_pos (by decide +kernel)]; kernel_rfl) | (rw [if_neg (by decide +kernel)]; exact ⟨rfl, rfl⟩))
    (fun os started H enc _ => lifted os started H enc)
end Go.Proofs.Ytnalpielhpmnfaa.rateCopies
