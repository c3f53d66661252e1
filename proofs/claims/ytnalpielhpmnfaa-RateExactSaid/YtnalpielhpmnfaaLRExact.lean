/- RateExact: for any rates, amount, currencies and day the law's Go function returns true and leaves its arguments as they were. Conditions: none but the row's own. -/
import Derived.Test.YtnalpielhpmnfaaKE
import Derived.Test.YtnalpielhpmnfaaRM
namespace Go.Proofs.Ytnalpielhpmnfaa.rateExact
open Go.SL Go.ChangeShapes Go.WideShapes Go.ChangeAt Go.RowKit

theorem u32_of {x : AV} (h : OkArg (false, u32S) x) : ∃ n : Nat, x = .d (.sc (.int .u32 (n : Int))) ∧ n < 4294967296 := by
  obtain ⟨d, rfl, h⟩ := h
  obtain ⟨n, rfl, h2⟩ := h.int_inv
  simp [Lit.wf, IntKind.min, IntKind.max, IntKind.signed, IntKind.bits] at h2
  exact ⟨n.toNat, by rw [Int.toNat_of_nonneg (by omega)], by omega⟩
theorem all_args : ∀ args, OkArgs ([22, 45, 9, 9, 3].map (argK Try.tab)) args → AC Try.prog 6 args [] [] (fun r _ => r = .d (.sc (.bool true))) := by
  intro args h
  have e : [22, 45, 9, 9, 3].map (argK Try.tab) = [some (false, rtsS), some (false, u32S), some (false, strS), some (false, strS), some (false, i64S)] := by simp only [List.map_cons, List.map_nil, argK_rts, argK_u32, argK_str, argK_int]
  rw [e] at h
  obtain ⟨x1, _, rfl, h1, h⟩ := h.cons_inv
  obtain ⟨x2, _, rfl, h2, h⟩ := h.cons_inv
  obtain ⟨x3, _, rfl, h3, h⟩ := h.cons_inv
  obtain ⟨x4, _, rfl, h4, h⟩ := h.cons_inv
  obtain ⟨x5, _, rfl, h5, h⟩ := h.cons_inv
  obtain rfl := h.nil_inv
  obtain ⟨l, rfl, hl, hs⟩ := rts_of h1
  obtain ⟨k, rfl, hk⟩ := u32_of h2
  obtain ⟨f, rfl, hf⟩ := str_of h3
  obtain ⟨t, rfl, ht⟩ := str_of h4
  obtain ⟨n, rfl, _⟩ := i64_of h5
  exact exact_ac l k f t n hk hl hs hf ht
theorem hk : ∀ t ∈ [22, 45, 9, 9, 3], ∃ k, argK Try.tab t = some k := by
  intro t ht
  simp only [List.mem_cons, List.not_mem_nil, or_false] at ht
  rcases ht with rfl | rfl | rfl | rfl | rfl
  · exact ⟨_, argK_rts⟩
  · exact ⟨_, argK_u32⟩
  · exact ⟨_, argK_str⟩
  · exact ⟨_, argK_str⟩
  · exact ⟨_, argK_int⟩
theorem hT : ∀ t ∈ [22, 45, 9, 9, 3], t < Try.prog.types.size := by
  intro t ht
  simp only [List.mem_cons, List.not_mem_nil, or_false] at ht
  rcases ht with rfl | rfl | rfl | rfl | rfl <;> exact small (by kernel_rfl)
theorem at_true (H : Type) : AnyTrue (H := H) Rows.rateExactSpec 5 := by
  intro ds hd
  match ds, hd with
  | [d0, d1, d2, d3, d4], _ => rfl
set_option maxRecDepth 100000 in
theorem lifted (os : Os) (started : os.Started) (H : Type) (enc : TypeId × Value → H) :
    ReturnsInHanded {} Try.checked os 6 .any (Rows.rateExactSpec.pre6 enc Try.prog Try.f6 Rows.rateExactRow.domain false) (Rows.rateExactSpec.post enc Try.prog Try.f6 false true false false) := by
  refine returnsInHanded_of_change_sized (C := Try.checked) own started (by kernel_rfl) Try.func6
    (ChangeSpec.witness6 (enc := enc) (C := Try.checked) false ⟨#[], #[.slice none 0 0, .int .u32 0, .string ByteArray.empty, .string ByteArray.empty, .int .i64 0], []⟩ 8 (by kernel_rfl) (by kernel_rfl) (by kernel_rfl) (by kernel_rfl)) ?_
  intro W base args ds gs before hval hW _ hsz _
  exact law_contract Try.tab kids full (fn := Try.f6) (ts := [22, 45, 9, 9, 3]) (rt := 4) (by kernel_rfl) (by kernel_rfl) rfl rfl hT hk (at_true H) all_args W base args ds gs before hval hW hsz
theorem proved : Rows.RateExactSaid :=
  OpenClaim.holds_of_wide 6 Try.f6 rfl rfl rfl rfl rfl rfl rfl ⟨rfl, rfl, rfl, rfl, rfl⟩ rfl rfl rfl rfl rfl (by kernel_rfl) Try.func6 (by kernel_rfl)
    (of_decide_eq_true (by kernel_rfl)) (by unfold Func.isWrapper; first | (rw [if_pos (by decide +kernel)]; kernel_rfl) | (rw [if_neg (by decide +kernel)]; exact ⟨rfl, rfl⟩))
    (fun os started H enc _ => lifted os started H enc)
end Go.Proofs.Ytnalpielhpmnfaa.rateExact
