/- RateWorths: for any rates, entries, currency and day the law's Go function returns true and leaves its arguments as they were. Conditions: none but the row's own. -/
import Derived.Test.YtnalpielhpmnfaaKH
import Derived.Test.YtnalpielhpmnfaaRM
namespace Go.Proofs.Ytnalpielhpmnfaa.rateWorths
open Go.SL Go.ChangeShapes Go.WideShapes Go.ChangeAt Go.RowKit

theorem en_of (e : List D) (h : OkCs [.str, .str, .int .i64] e) : ∃ x : En, e = enE x ∧ (x.1.size ≤ 140737488351232 ∧ x.2.1.size ≤ 140737488351232) := by
  obtain ⟨_, _, rfl, h1, h⟩ := h.cons_inv
  obtain ⟨_, _, rfl, h2, h⟩ := h.cons_inv
  obtain ⟨_, _, rfl, h3, h⟩ := h.cons_inv
  obtain rfl := h.nil_inv
  obtain ⟨s1, rfl, hs1⟩ := h1.str_inv
  obtain ⟨s2, rfl, hs2⟩ := h2.str_inv
  obtain ⟨n3, rfl, _⟩ := h3.i64_inv
  exact ⟨(s1, s2, n3), rfl, by omega, by omega⟩
theorem ents_of {x : AV} (h : OkArg (false, entS) x) : ∃ l : List En, x = .d (.sl 3 (l.map enE)) ∧ l.length ≤ 140737488351232 ∧ ∀ o ∈ l, o.1.size ≤ 140737488351232 ∧ o.2.1.size ≤ 140737488351232 := by
  obtain ⟨d, rfl, h⟩ := h
  obtain ⟨l, rfl, h1, h2⟩ := h.list en_of
  exact ⟨l, rfl, by omega, h2⟩
theorem all_args : ∀ args, OkArgs ([22, 54, 9, 3].map (argK Try.tab)) args → AC Try.prog 9 args [] [] (fun r _ => r = .d (.sc (.bool true))) := by
  intro args h
  have e : [22, 54, 9, 3].map (argK Try.tab) = [some (false, rtsS), some (false, entS), some (false, strS), some (false, i64S)] := by simp only [List.map_cons, List.map_nil, argK_rts, argK_ent, argK_str, argK_int]
  rw [e] at h
  obtain ⟨x1, _, rfl, h1, h⟩ := h.cons_inv
  obtain ⟨x2, _, rfl, h2, h⟩ := h.cons_inv
  obtain ⟨x3, _, rfl, h3, h⟩ := h.cons_inv
  obtain ⟨x4, _, rfl, h4, h⟩ := h.cons_inv
  obtain rfl := h.nil_inv
  obtain ⟨l, rfl, hl, hs⟩ := rts_of h1
  obtain ⟨es, rfl, hes, hse⟩ := ents_of h2
  obtain ⟨c, rfl, hc⟩ := str_of h3
  obtain ⟨n, rfl, _⟩ := i64_of h4
  exact worths_ac l es c n hl hs hes hse hc
theorem hk : ∀ t ∈ [22, 54, 9, 3], ∃ k, argK Try.tab t = some k := by
  intro t ht
  simp only [List.mem_cons, List.not_mem_nil, or_false] at ht
  rcases ht with rfl | rfl | rfl | rfl
  · exact ⟨_, argK_rts⟩
  · exact ⟨_, argK_ent⟩
  · exact ⟨_, argK_str⟩
  · exact ⟨_, argK_int⟩
theorem hT : ∀ t ∈ [22, 54, 9, 3], t < Try.prog.types.size := by
  intro t ht
  simp only [List.mem_cons, List.not_mem_nil, or_false] at ht
  rcases ht with rfl | rfl | rfl | rfl <;> exact small (by kernel_rfl)
theorem at_true (H : Type) : AnyTrue (H := H) Rows.rateWorthsSpec 4 := by
  intro ds hd
  match ds, hd with
  | [d0, d1, d2, d3], _ => rfl
set_option maxRecDepth 100000 in
theorem lifted (os : Os) (started : os.Started) (H : Type) (enc : TypeId × Value → H) :
    ReturnsInHanded {} Try.checked os 9 .any (Rows.rateWorthsSpec.pre6 enc Try.prog Try.f9 Rows.rateWorthsRow.domain false) (Rows.rateWorthsSpec.post enc Try.prog Try.f9 false true false false) := by
  refine returnsInHanded_of_change_sized (C := Try.checked) own started (by kernel_rfl) Try.func9
    (ChangeSpec.witness6 (enc := enc) (C := Try.checked) false ⟨#[], #[.slice none 0 0, .slice none 0 0, .string ByteArray.empty, .int .i64 0], []⟩ 8 (by kernel_rfl) (by kernel_rfl) (by kernel_rfl) (by kernel_rfl)) ?_
  intro W base args ds gs before hval hW _ hsz _
  exact law_contract Try.tab kids full (fn := Try.f9) (ts := [22, 54, 9, 3]) (rt := 4) (by kernel_rfl) (by kernel_rfl) rfl rfl hT hk (at_true H) all_args W base args ds gs before hval hW hsz
theorem proved : Rows.RateWorthsSaid :=
  OpenClaim.holds_of_wide 9 Try.f9 rfl rfl rfl rfl rfl rfl rfl ⟨rfl, rfl, rfl, rfl, rfl⟩ rfl rfl rfl rfl rfl (by kernel_rfl) Try.func9 (by kernel_rfl)
    (of_decide_eq_true (by kernel_rfl)) (by unfold Func.isWrapper; first | (rw [if_pos (by decide +kernel)]; kernel_rfl) | (rw [if_neg (by decide +kernel)]; exact ⟨rfl, rfl⟩))
    (fun os started H enc _ => lifted os started H enc)
end Go.Proofs.Ytnalpielhpmnfaa.rateWorths
