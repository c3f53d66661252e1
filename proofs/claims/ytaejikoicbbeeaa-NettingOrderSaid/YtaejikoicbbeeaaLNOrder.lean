/- NettingOrder: for any debts and any numbers the law's Go function returns true and leaves its arguments as they were. Conditions: none but the row's own. -/
import Derived.Test.YtaejikoicbbeeaaWT
namespace Go.Proofs.Ytaejikoicbbeeaa.nettingOrder
open Go.SL Go.ChangeShapes Go.WideShapes Go.ChangeAt Go.RowKit

theorem all_args : ∀ args, OkArgs ([22, 3, 3, 2].map (argK Try.tab)) args → AC Try.prog 5 args [] [] (fun r _ => r = .d (.sc (.bool true))) := by
  intro args h
  have e : [22, 3, 3, 2].map (argK Try.tab) = [some (false, dbsS), some (false, i64S), some (false, i64S), some (false, i64S)] := by simp only [List.map_cons, List.map_nil, argK_dbs, argK_int, argK_i64]
  rw [e] at h
  obtain ⟨x1, _, rfl, h1, h⟩ := h.cons_inv
  obtain ⟨x2, _, rfl, h2, h⟩ := h.cons_inv
  obtain ⟨x3, _, rfl, h3, h⟩ := h.cons_inv
  obtain ⟨x4, _, rfl, h4, h⟩ := h.cons_inv
  obtain rfl := h.nil_inv
  obtain ⟨l, rfl, hl, hs⟩ := dbs_of h1
  obtain ⟨t, rfl, _, _⟩ := i64_of h2
  obtain ⟨a, rfl, _, _⟩ := i64_of h3
  obtain ⟨n, rfl, hn1, hn2⟩ := i64_of h4
  exact lorder_ac l t a n hl hs hn1 hn2
theorem hk : ∀ t ∈ [22, 3, 3, 2], ∃ k, argK Try.tab t = some k := by
  intro t ht
  simp only [List.mem_cons, List.not_mem_nil, or_false] at ht
  rcases ht with rfl | rfl | rfl | rfl
  · exact ⟨_, argK_dbs⟩
  · exact ⟨_, argK_int⟩
  · exact ⟨_, argK_int⟩
  · exact ⟨_, argK_i64⟩
theorem hT : ∀ t ∈ [22, 3, 3, 2], t < Try.prog.types.size := by
  intro t ht
  simp only [List.mem_cons, List.not_mem_nil, or_false] at ht
  rcases ht with rfl | rfl | rfl | rfl <;> exact small (by kernel_rfl)
theorem at_true (H : Type) : AnyTrue (H := H) Rows.nettingOrderSpec 4 := by
  intro ds hd
  match ds, hd with
  | [d0, d1, d2, d3], _ => rfl
set_option maxRecDepth 100000 in
theorem lifted (os : Os) (started : os.Started) (H : Type) (enc : TypeId × Value → H) :
    ReturnsInHanded {} Try.checked os 5 .any (Rows.nettingOrderSpec.pre6 enc Try.prog Try.f5 Rows.nettingOrderRow.domain false) (Rows.nettingOrderSpec.post enc Try.prog Try.f5 false true false false) := by
  refine returnsInHanded_of_change_sized (C := Try.checked) own started (by kernel_rfl) Try.func5
    (ChangeSpec.witness6 (enc := enc) (C := Try.checked) false ⟨#[], #[.slice none 0 0, .int .i64 0, .int .i64 0, .int .i64 0], []⟩ 8 (by kernel_rfl) (by kernel_rfl) (by kernel_rfl) (by kernel_rfl)) ?_
  intro W base args ds gs before hval hW _ hsz _
  exact law_contract Try.tab kids full (fn := Try.f5) (ts := [22, 3, 3, 2]) (rt := 4) (by kernel_rfl) (by kernel_rfl) rfl rfl hT hk (at_true H) all_args W base args ds gs before hval hW hsz
theorem proved : Rows.NettingOrderSaid :=
  OpenClaim.holds_of_wide 5 Try.f5 rfl rfl rfl rfl rfl rfl rfl ⟨rfl, rfl, rfl, rfl, rfl⟩ rfl rfl rfl rfl rfl (by kernel_rfl) Try.func5 (by kernel_rfl)
    (of_decide_eq_true (by kernel_rfl)) (by unfold Func.isWrapper; first | (rw [if_pos (by decide +kernel)]; kernel_rfl) | (rw [if_neg (by decide +kernel)]; exact ⟨rfl, rfl⟩))
    (fun os started H enc _ => lifted os started H enc)
end Go.Proofs.Ytaejikoicbbeeaa.nettingOrder
