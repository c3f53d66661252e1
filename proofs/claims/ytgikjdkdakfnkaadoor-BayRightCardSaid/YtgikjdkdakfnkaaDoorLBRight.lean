/- BayRight: for any ship and calls the law's Go function returns true and leaves its arguments as they were. Conditions: none but the row's own (goods.apart as the program lays it, tied by the card). -/
import Derived.Test.YtgikjdkdakfnkaaDoorBJ
import Derived.Test.YtgikjdkdakfnkaaDoorBL
namespace Go.Proofs.YtgikjdkdakfnkaaDoor.bayRight
open Go.SL Go.ChangeShapes Go.WideShapes Go.ChangeAt Go.RowKit

theorem all_args : ∀ args, OkArgs ([23, 24].map (argK Tryd.tab)) args → AC Tryd.prog 4 args [hG] [9000] (fun r h' => r = .d (.sc (.bool true)) ∧ SubH [hG] h') := by
  intro args h
  have e : [23, 24].map (argK Tryd.tab) = [some (true, shipS), some (false, opsS)] := by simp only [List.map_cons, List.map_nil, argK_ship, argK_ops]
  rw [e] at h
  obtain ⟨x1, _, rfl, h1, h⟩ := h.cons_inv
  obtain ⟨x2, _, rfl, h2, h⟩ := h.cons_inv
  obtain rfl := h.nil_inv
  obtain ⟨S, rfl, hn⟩ := ship_of h1
  obtain ⟨ops, rfl, hl, hs⟩ := ops_of h2
  exact rights_ac S ops hl hs hn
theorem hk : ∀ t ∈ [23, 24], ∃ k, argK Tryd.tab t = some k := by
  intro t ht
  simp only [List.mem_cons, List.not_mem_nil, or_false] at ht
  rcases ht with rfl | rfl
  · exact ⟨_, argK_ship⟩
  · exact ⟨_, argK_ops⟩
theorem hT : ∀ t ∈ [23, 24], t < Tryd.prog.types.size := by
  intro t ht
  simp only [List.mem_cons, List.not_mem_nil, or_false] at ht
  rcases ht with rfl | rfl <;> exact small (by kernel_rfl)
theorem at_true (H : Type) : AnyTrue (H := H) Rows.bayRightSpec 2 := by
  intro ds hd
  match ds, hd with
  | [d0, d1], _ => rfl
set_option maxRecDepth 100000 in
theorem lifted (os : Os) (started : os.Started) (H : Type) (enc : TypeId × Value → H) :
    ReturnsInHanded {} Tryd.checked os 4 .any (fun w args => (Rows.bayRightSpec.pre enc Tryd.prog Tryd.f4 Rows.bayRightRow.domain false w args ∧ laidMetH Tryd.prog laidL w) ∧ sizedMet enc Tryd.prog Tryd.f4 (OpenSpec.ofChange Rows.bayRightSpec) false w args)
      (Rows.bayRightSpec.post enc Tryd.prog Tryd.f4 false true false false) := by
  refine returns_laid (C := Tryd.checked) (X := fun w _ => laidMetH Tryd.prog laidL w) (fun _ _ _ hh h => h.of_heap hh) own started (by kernel_rfl) Tryd.func4
    (ChangeSpec.witness_shaped (enc := enc) (C := Tryd.checked) (os := os) (X := fun w _ => laidMetH Tryd.prog laidL w) false (World.laidAll Tryd.prog os laidL) #[.agg #[.string ByteArray.empty, .int .i64 0, .int .i64 0, .int .i64 0, .int .i64 0, .int .i64 0, .int .i64 0, .int .i64 0, .int .i64 0], .slice none 0 0] 8 (World.laidAll_os _ _ _)
      (World.shaped_of_ZipB (by kernel_rfl) (by kernel_rfl)) (by kernel_rfl) (by kernel_rfl) (by kernel_rfl)
      (by rw [MakeChecks.laidMetH_plain _ _ _ (by kernel_rfl)]; exact laidMet_laidAll _ (by kernel_rfl) (by kernel_rfl))) ?_
  intro W base args ds gs before hval hW hsz hL hSh
  exact law_contractG Tryd.tab kids full (fn := Tryd.f4) (ts := [23, 24]) (rt := 4) (by kernel_rfl) (by kernel_rfl) rfl rfl hT hk (by kernel_rfl) (at_true H) 0 laidArr laidTy laidInts all_args W (var_laid hL hSh) base args ds gs before hval hW hsz
theorem holds : Rows.BayRightSaid :=
  OpenClaim.holds_of_wide 4 Tryd.f4 rfl rfl rfl rfl rfl rfl rfl ⟨rfl, rfl, rfl, rfl, rfl⟩ rfl rfl rfl rfl rfl (by kernel_rfl) Tryd.func4 (by kernel_rfl)
    (of_decide_eq_true (by kernel_rfl)) (by unfold Func.isWrapper; first | (rw [if_pos (by decide +kernel)]; kernel_rfl) | (rw [if_neg (by decide +kernel)]; exact ⟨rfl, rfl⟩))
    (fun os started H enc _ => lifted os started H enc)
theorem proved : Rows.BayRightCardSaid :=
  Claim7.holds_tied_plain_at .later [] [.data] true (true, "60c76c90c1baf0e26b75bd76f066e829174553abe466147a7fd736833c212350") true holds (fun _ h => by cases h) (by kernel_rfl) (fun _ h => by cases h) bayRight_row_tie rfl ⟨rfl, rfl⟩ (by kernel_rfl) rfl
    (fun f fn hf hfn => by
      obtain rfl : f = 4 := Option.some.inj ((show Tryd.prog.funcNamed Rows.bayRightRow.func = some 4 by kernel_rfl).symm.trans hf) |>.symm
      obtain rfl : fn = Tryd.f4 := (Option.some.inj (Tryd.func4.symm.trans hfn)).symm
      exact ⟨by kernel_rfl, fun j t ht => by
        have hm : t ∈ [23, 24] := by
          have h0 : Tryd.f4.params.toList = [23, 24] := by kernel_rfl
          rw [← h0]
          exact List.mem_of_getElem? (by rw [Array.getElem?_toList]; exact ht)
        have hall : ([23, 24].all fun u => !Tryd.prog.wantsStandIn u) = true := by kernel_rfl
        exact (show Tryd.prog.wantsStandIn t = false by simpa using List.all_eq_true.1 hall t hm)⟩)
    (by kernel_rfl)
end Go.Proofs.YtgikjdkdakfnkaaDoor.bayRight
