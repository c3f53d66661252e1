/- TopStow: for any ship, weights and boxes the law's Go function returns true and leaves its arguments as they were. Conditions: none but the row's own (goods.apart as the program lays it, tied by the card). -/
import Derived.Test.YtodgjgkoaahhmaaGreatDoorOB
import Derived.Test.YtodgjgkoaahhmaaGreatDoorEC
namespace Go.Proofs.YtodgjgkoaahhmaaGreatDoor.topStow
open Go.SL Go.ChangeShapes Go.WideShapes Go.ChangeAt Go.RowKit

theorem all_args : ∀ args, OkArgs ([5, 5, 5, 22, 22, 23].map (argK Tryz.tab)) args → AC Tryz.prog 3 args [hG] [9000] (fun r h' => r = .d (.sc (.bool true)) ∧ SubH [hG] h') := by
  intro args h
  have e : [5, 5, 5, 22, 22, 23].map (argK Tryz.tab) = [some (false, u8S), some (false, u8S), some (false, u8S), some (false, u16S), some (false, u16S), some (false, bxsS)] := by simp only [List.map_cons, List.map_nil, argK_u8, argK_u16, argK_bxs]
  rw [e] at h
  obtain ⟨x1, _, rfl, h1, h⟩ := h.cons_inv
  obtain ⟨x2, _, rfl, h2, h⟩ := h.cons_inv
  obtain ⟨x3, _, rfl, h3, h⟩ := h.cons_inv
  obtain ⟨x4, _, rfl, h4, h⟩ := h.cons_inv
  obtain ⟨x5, _, rfl, h5, h⟩ := h.cons_inv
  obtain ⟨x6, _, rfl, h6, h⟩ := h.cons_inv
  obtain rfl := h.nil_inv
  obtain ⟨a, rfl, ha⟩ := u8_of h1
  obtain ⟨b, rfl, hb⟩ := u8_of h2
  obtain ⟨c, rfl, hc⟩ := u8_of h3
  obtain ⟨st, rfl, hst⟩ := u16_of h4
  obtain ⟨mo, rfl, hmo⟩ := u16_of h5
  obtain ⟨l, rfl, hl, hbx⟩ := bxs_of h6
  exact topStow_ac a b c st mo l ha hb hc hst hmo hl hbx
theorem hk : ∀ t ∈ [5, 5, 5, 22, 22, 23], ∃ k, argK Tryz.tab t = some k := by
  intro t ht
  simp only [List.mem_cons, List.not_mem_nil, or_false] at ht
  rcases ht with rfl | rfl | rfl | rfl | rfl | rfl
  · exact ⟨_, argK_u8⟩
  · exact ⟨_, argK_u8⟩
  · exact ⟨_, argK_u8⟩
  · exact ⟨_, argK_u16⟩
  · exact ⟨_, argK_u16⟩
  · exact ⟨_, argK_bxs⟩
theorem hT : ∀ t ∈ [5, 5, 5, 22, 22, 23], t < Tryz.prog.types.size := by
  intro t ht
  simp only [List.mem_cons, List.not_mem_nil, or_false] at ht
  rcases ht with rfl | rfl | rfl | rfl | rfl | rfl <;> exact small (by kernel_rfl)
theorem at_true (H : Type) : AnyTrue (H := H) Rows.topStowSpec 6 := by
  intro ds hd
  match ds, hd with
  | [d0, d1, d2, d3, d4, d5], _ => rfl
set_option maxRecDepth 100000 in
theorem lifted (os : Os) (started : os.Started) (H : Type) (enc : TypeId × Value → H) :
    ReturnsInHanded {} Tryz.checked os 3 .any (fun w args => (Rows.topStowSpec.pre enc Tryz.prog Tryz.f3 Rows.topStowRow.domain false w args ∧ laidMetH Tryz.prog laidL w) ∧ sizedMet enc Tryz.prog Tryz.f3 (OpenSpec.ofChange Rows.topStowSpec) false w args)
      (Rows.topStowSpec.post enc Tryz.prog Tryz.f3 false true false false) := by
  refine returns_laid (C := Tryz.checked) (X := fun w _ => laidMetH Tryz.prog laidL w) (fun _ _ _ hh h => h.of_heap hh) own started (by kernel_rfl) Tryz.func3
    (ChangeSpec.witness_shaped (enc := enc) (C := Tryz.checked) (os := os) (X := fun w _ => laidMetH Tryz.prog laidL w) false (World.laidAll Tryz.prog os laidL) #[.int .u8 0, .int .u8 0, .int .u8 0, .int .u16 0, .int .u16 0, .slice none 0 0] 8 (World.laidAll_os _ _ _)
      (World.shaped_of_ZipB (by kernel_rfl) (by kernel_rfl)) (by kernel_rfl) (by kernel_rfl) (by kernel_rfl)
      (by rw [MakeChecks.laidMetH_plain _ _ _ (by kernel_rfl)]; exact laidMet_laidAll _ (by kernel_rfl) (by kernel_rfl))) ?_
  intro W base args ds gs before hval hW hsz hL hSh
  exact law_contractG Tryz.tab kids full (fn := Tryz.f3) (ts := [5, 5, 5, 22, 22, 23]) (rt := 4) (by kernel_rfl) (by kernel_rfl) rfl rfl hT hk (by kernel_rfl) (at_true H) 2 laidArr laidTy laidInts all_args W (var_laid hL hSh) base args ds gs before hval hW hsz
theorem holds : Rows.TopStowSaid :=
  OpenClaim.holds_of_wide 3 Tryz.f3 rfl rfl rfl rfl rfl rfl rfl ⟨rfl, rfl, rfl, rfl, rfl⟩ rfl rfl rfl rfl rfl (by kernel_rfl) Tryz.func3 (by kernel_rfl)
    (of_decide_eq_true (by kernel_rfl)) (by unfold Func.isWrapper; first | (rw [if_pos (by decide +kernel)]; kernel_rfl) | (rw [if_neg (by decide +kernel)]; exact ⟨rfl, rfl⟩))
    (fun os started H enc _ => lifted os started H enc)
theorem proved : Rows.TopStowCardSaid :=
  Claim7.holds_tied_plain_at .later [] [.data] true (true, "affe2a133ad1cc93f8e331d2f58a376b6f764e7ffb1a26eedf3a6d790b32ff4c") false holds (fun _ h => by cases h) (by kernel_rfl) (fun _ h => by cases h) topStow_row_tie rfl ⟨rfl, rfl⟩ (by kernel_rfl) rfl
    (fun f fn hf hfn => by
      obtain rfl : f = 3 := Option.some.inj ((show Tryz.prog.funcNamed Rows.topStowRow.func = some 3 by kernel_rfl).symm.trans hf) |>.symm
      obtain rfl : fn = Tryz.f3 := (Option.some.inj (Tryz.func3.symm.trans hfn)).symm
      exact ⟨by kernel_rfl, fun j t ht => by
        have hm : t ∈ [5, 5, 5, 22, 22, 23] := by
          have h0 : Tryz.f3.params.toList = [5, 5, 5, 22, 22, 23] := by kernel_rfl
          rw [← h0]
          exact List.mem_of_getElem? (by rw [Array.getElem?_toList]; exact ht)
        have hall : ([5, 5, 5, 22, 22, 23].all fun u => !Tryz.prog.wantsStandIn u) = true := by kernel_rfl
        exact (show Tryz.prog.wantsStandIn t = false by simpa using List.all_eq_true.1 hall t hm)⟩)
    (by kernel_rfl)
end Go.Proofs.YtodgjgkoaahhmaaGreatDoor.topStow
