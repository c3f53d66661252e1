/- OrderLeft: for any order, consignments and day the law's Go function returns true and leaves its arguments as they were. Conditions: none but the row's own. -/
import Derived.Test.YtnfgkccocknloaaGreatL1
import Derived.Test.YtnfgkccocknloaaGreatN4
namespace Go.Proofs.YtnfgkccocknloaaGreat.orderLeft
open Go.SL Go.ChangeShapes Go.WideShapes Go.ChangeAt Go.RowKit

def coS : List CS := [.sl 4 56 [.str, .int .i64, .int .i64, .sl 2 24 [.str, .int .i64]]]
theorem argK_c : argK Tryz.tab 25 = some (false, coS) := by kernel_rfl
theorem lot_of (e : List D) (h : OkCs [.str, .int .i64] e) : ∃ x : Lot, e = x.enc ∧ True := by
  obtain ⟨_, _, rfl, h1, h⟩ := h.cons_inv
  obtain ⟨_, _, rfl, h2, h⟩ := h.cons_inv
  obtain rfl := h.nil_inv
  obtain ⟨s, rfl, _⟩ := h1.str_inv
  obtain ⟨n, rfl, _, _⟩ := h2.i64_inv
  exact ⟨⟨s, n⟩, rfl, trivial⟩
theorem con_of (e : List D) (h : OkCs [.str, .int .i64, .int .i64, .sl 2 24 [.str, .int .i64]] e) : ∃ c : Cons, e = c.enc ∧ True := by
  obtain ⟨_, _, rfl, h1, h⟩ := h.cons_inv
  obtain ⟨_, _, rfl, h2, h⟩ := h.cons_inv
  obtain ⟨_, _, rfl, h3, h⟩ := h.cons_inv
  obtain ⟨_, _, rfl, h4, h⟩ := h.cons_inv
  obtain rfl := h.nil_inv
  obtain ⟨s, rfl, _⟩ := h1.str_inv
  obtain ⟨n, rfl, _, _⟩ := h2.i64_inv
  obtain ⟨m, rfl, _, _⟩ := h3.i64_inv
  obtain ⟨l, rfl, hl, _⟩ := h4.list lot_of
  exact ⟨⟨s, n, m, l⟩, rfl, trivial⟩
theorem co_of {x : AV} (h : OkArg (false, coS) x) : ∃ l : List Cons, x = .d (.sl 4 (l.map Cons.enc)) := by
  obtain ⟨d, rfl, h⟩ := h
  obtain ⟨l, rfl, _, _⟩ := h.list con_of
  exact ⟨l, rfl⟩
theorem all_args : ∀ args, OkArgs ([24, 25, 3].map (argK Tryz.tab)) args → AC Tryz.prog 3 args [] [] (fun r _ => r = .d (.sc (.bool true))) := by
  intro args h
  have e : [24, 25, 3].map (argK Tryz.tab) = [some (true, ordS), some (false, coS), some (false, inS)] := by simp only [List.map_cons, List.map_nil, argK_ord, argK_c, argK_i]
  rw [e] at h
  obtain ⟨x1, _, rfl, h1, h⟩ := h.cons_inv
  obtain ⟨x2, _, rfl, h2, h⟩ := h.cons_inv
  obtain ⟨x3, _, rfl, h3, h⟩ := h.cons_inv
  obtain rfl := h.nil_inv
  obtain ⟨o, rfl, fo, _⟩ := ord_of h1
  obtain ⟨l, rfl⟩ := co_of h2
  obtain ⟨n, rfl, _⟩ := in_of h3
  exact orderLeft_ac o l n fo
theorem hk : ∀ t ∈ [24, 25, 3], ∃ k, argK Tryz.tab t = some k := by
  intro t ht
  simp only [List.mem_cons, List.not_mem_nil, or_false] at ht
  rcases ht with rfl | rfl | rfl
  · exact ⟨_, argK_ord⟩
  · exact ⟨_, argK_c⟩
  · exact ⟨_, argK_i⟩
theorem hT : ∀ t ∈ [24, 25, 3], t < Tryz.prog.types.size := by
  intro t ht
  simp only [List.mem_cons, List.not_mem_nil, or_false] at ht
  rcases ht with rfl | rfl | rfl <;> exact small (by kernel_rfl)
theorem at_true (H : Type) : AnyTrue (H := H) Rows.orderLeftSpec 3 := by
  intro ds hd
  match ds, hd with
  | [d0, d1, d2], _ => rfl
set_option maxRecDepth 100000 in
theorem lifted (os : Os) (started : os.Started) (H : Type) (enc : TypeId × Value → H) :
    ReturnsInHanded {} Tryz.checked os 3 .any (Rows.orderLeftSpec.pre6 enc Tryz.prog Tryz.f3 Rows.orderLeftRow.domain false) (Rows.orderLeftSpec.post enc Tryz.prog Tryz.f3 false true false false) := by
  refine returnsInHanded_of_change_sized (C := Tryz.checked) own started (by kernel_rfl) Tryz.func3
    (ChangeSpec.witness6 (enc := enc) (C := Tryz.checked) false ⟨#[], #[.agg #[.string .empty, .string .empty, .string .empty, .string .empty, .string .empty, .string .empty, .int .i64 0, .slice none 0 0], .slice none 0 0, .int .i64 0], []⟩ 8 (by kernel_rfl) (by kernel_rfl) (by kernel_rfl) (by kernel_rfl)) ?_
  intro W base args ds gs before hval hW _ hsz _
  exact law_contract Tryz.tab kids full (fn := Tryz.f3) (ts := [24, 25, 3]) (rt := 4) (by kernel_rfl) (by kernel_rfl) rfl rfl hT hk (at_true H) all_args W base args ds gs before hval hW hsz
theorem proved : Rows.OrderLeftSaid :=
  OpenClaim.holds_of_wide 3 Tryz.f3 rfl rfl rfl rfl rfl rfl rfl ⟨rfl, rfl, rfl, rfl, rfl⟩ rfl rfl rfl rfl rfl (by kernel_rfl) Tryz.func3 (by kernel_rfl)
    (of_decide_eq_true (by kernel_rfl)) (by unfold Func.isWrapper; first | (rw [if_pos (by decide +kernel)]; kernel_rfl) | (rw [if_neg (by decide +kernel)]; exact ⟨rfl, rfl⟩))
    (fun os started H enc _ => lifted os started H enc)
end Go.Proofs.YtnfgkccocknloaaGreat.orderLeft
