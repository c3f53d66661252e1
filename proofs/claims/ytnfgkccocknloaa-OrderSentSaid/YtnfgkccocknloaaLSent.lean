/- OrderSent: for any order, dates, parts and flags the law's Go function returns true and leaves its arguments as they were. Conditions: none but the row's own. -/
import Derived.Test.YtnfgkccocknloaaL0
import Derived.Test.YtnfgkccocknloaaK1
namespace Go.Proofs.Ytnfgkccocknloaa.orderSent
open Go.SL Go.ChangeShapes Go.WideShapes Go.ChangeAt Go.RowKit

def daS : List CS := [.sl 1 8 [.int .i64]]
def paS : List CS := [.sl 1 24 [.sl 1 8 [.int .i64]]]
theorem argK_d : argK Try.tab 32 = some (false, daS) := by kernel_rfl
theorem argK_p : argK Try.tab 33 = some (false, paS) := by kernel_rfl
theorem int_of (e : List D) (h : OkCs [.int .i64] e) : ∃ n : Int, e = iE n ∧ True := by
  obtain ⟨_, _, rfl, h1, h⟩ := h.cons_inv
  obtain rfl := h.nil_inv
  obtain ⟨n, rfl, _, _⟩ := h1.i64_inv
  exact ⟨n, rfl, trivial⟩
theorem ints_of (e : List D) (h : OkCs [.sl 1 8 [.int .i64]] e) : ∃ p : List Int, e = pE p ∧ p.length ≤ 140737488351232 := by
  obtain ⟨_, _, rfl, h1, h⟩ := h.cons_inv
  obtain rfl := h.nil_inv
  obtain ⟨l, rfl, hl, _⟩ := h1.list int_of
  exact ⟨l, rfl, by omega⟩
theorem da_of {x : AV} (h : OkArg (false, daS) x) : ∃ l : List Int, x = .d (.sl 1 (l.map iE)) ∧ l.length ≤ 140737488351232 := by
  obtain ⟨d, rfl, h⟩ := h
  obtain ⟨l, rfl, hl, _⟩ := h.list int_of
  exact ⟨l, rfl, by omega⟩
theorem pa_of {x : AV} (h : OkArg (false, paS) x) : ∃ l : List (List Int), x = .d (.sl 1 (l.map pE)) ∧ l.length ≤ 140737488351232 ∧ ∀ p ∈ l, p.length ≤ 140737488351232 := by
  obtain ⟨d, rfl, h⟩ := h
  obtain ⟨l, rfl, hl, hp⟩ := h.list ints_of
  exact ⟨l, rfl, by omega, hp⟩
def boS : List CS := [.sl 1 1 [.bool]]
theorem argK_b : argK Try.tab 55 = some (false, boS) := by kernel_rfl
theorem bool_of (e : List D) (h : OkCs [.bool] e) : ∃ b : Bool, e = bE b ∧ True := by
  obtain ⟨_, _, rfl, h1, h⟩ := h.cons_inv
  obtain rfl := h.nil_inv
  obtain ⟨b, rfl⟩ := h1.bool_inv
  exact ⟨b, rfl, trivial⟩
theorem bo_of {x : AV} (h : OkArg (false, boS) x) : ∃ l : List Bool, x = .d (.sl 1 (l.map bE)) ∧ l.length ≤ 140737488351232 := by
  obtain ⟨d, rfl, h⟩ := h
  obtain ⟨l, rfl, hl, _⟩ := h.list bool_of
  exact ⟨l, rfl, by omega⟩
theorem all_args : ∀ args, OkArgs ([24, 32, 33, 55].map (argK Try.tab)) args → AC Try.prog 9 args [] [] (fun r _ => r = .d (.sc (.bool true))) := by
  intro args h
  have e : [24, 32, 33, 55].map (argK Try.tab) = [some (true, ordS), some (false, daS), some (false, paS), some (false, boS)] := by simp only [List.map_cons, List.map_nil, argK_ord, argK_d, argK_p, argK_b]
  rw [e] at h
  obtain ⟨x, _, rfl, h1, h⟩ := h.cons_inv
  obtain ⟨y, _, rfl, h2, h⟩ := h.cons_inv
  obtain ⟨z, _, rfl, h3, h⟩ := h.cons_inv
  obtain ⟨u, _, rfl, h4, h⟩ := h.cons_inv
  obtain rfl := h.nil_inv
  obtain ⟨o, rfl, fo, _⟩ := ord_of h1
  obtain ⟨da, rfl, hd⟩ := da_of h2
  obtain ⟨pa, rfl, hp, hq⟩ := pa_of h3
  obtain ⟨ss, rfl, hs⟩ := bo_of h4
  exact orderSent_ac o da pa ss fo ⟨hd, hp, fo.ll, hq⟩ hs
theorem hk : ∀ t ∈ [24, 32, 33, 55], ∃ k, argK Try.tab t = some k := by
  intro t ht
  simp only [List.mem_cons, List.not_mem_nil, or_false] at ht
  rcases ht with rfl | rfl | rfl | rfl
  · exact ⟨_, argK_ord⟩
  · exact ⟨_, argK_d⟩
  · exact ⟨_, argK_p⟩
  · exact ⟨_, argK_b⟩
theorem hT : ∀ t ∈ [24, 32, 33, 55], t < Try.prog.types.size := by
  intro t ht
  simp only [List.mem_cons, List.not_mem_nil, or_false] at ht
  rcases ht with rfl | rfl | rfl | rfl <;> exact small (by kernel_rfl)
theorem at_true (H : Type) : AnyTrue (H := H) Rows.orderSentSpec 4 := by
  intro ds hd
  match ds, hd with
  | [a, b, c, d], _ => rfl
set_option maxRecDepth 100000 in
theorem lifted (os : Os) (started : os.Started) (H : Type) (enc : TypeId × Value → H) :
    ReturnsInHanded {} Try.checked os 9 .any (Rows.orderSentSpec.pre6 enc Try.prog Try.f9 Rows.orderSentRow.domain false) (Rows.orderSentSpec.post enc Try.prog Try.f9 false true false false) := by
  refine returnsInHanded_of_change_sized (C := Try.checked) own started (by kernel_rfl) Try.func9
    (ChangeSpec.witness6 (enc := enc) (C := Try.checked) false ⟨#[], #[.agg #[.string .empty, .string .empty, .string .empty, .string .empty, .string .empty, .string .empty, .int .i64 0, .slice none 0 0], .slice none 0 0, .slice none 0 0, .slice none 0 0], []⟩ 8 (by kernel_rfl) (by kernel_rfl) (by kernel_rfl) (by kernel_rfl)) ?_
  intro W base args ds gs before hval hW _ hsz _
  exact law_contract Try.tab kids full (fn := Try.f9) (ts := [24, 32, 33, 55]) (rt := 4) (by kernel_rfl) (by kernel_rfl) rfl rfl hT hk (at_true H) all_args W base args ds gs before hval hW hsz
theorem proved : Rows.OrderSentSaid :=
  OpenClaim.holds_of_wide 9 Try.f9 rfl rfl rfl rfl rfl rfl rfl ⟨rfl, rfl, rfl, rfl, rfl⟩ rfl rfl rfl rfl rfl (by kernel_rfl) Try.func9 (by kernel_rfl)
    (of_decide_eq_true (by kernel_rfl)) (by unfold Func.isWrapper; first | (rw [if_pos (by decide +kernel)]; kernel_rfl) | (rw [if_neg (by decide +kernel)]; exact ⟨rfl, rfl⟩))
    (fun os started H enc _ => lifted os started H enc)
end Go.Proofs.Ytnfgkccocknloaa.orderSent
