/- StowPlans: for any ship, loads and whatever else the statement takes the law's Go function returns true and leaves its arguments as they were. Conditions: none but the row's own (goods.apart as the program lays it, tied by the card). -/
import Derived.Test.YtjlblnplofgpnaaGreatDoorEC
namespace Go.Proofs.YtjlblnplofgpnaaGreatDoor.stowPlans
open Go.SL Go.ChangeShapes Go.WideShapes Go.ChangeAt Go.RowKit

theorem all_args : ∀ args, OkArgs ([23, 24].map (argK Tryz.tab)) args → AC Tryz.prog 3 args [hG] [9000] (fun r h' => r = .d (.sc (.bool true)) ∧ SubH [hG] h') := by
  intro args h
  have e : [23, 24].map (argK Tryz.tab) = [some (true, shipS), some (false, loadsS)] := by simp only [List.map_cons, List.map_nil, argK_ship, argK_loads]
  rw [e] at h
  obtain ⟨x1, _, rfl, h1, h⟩ := h.cons_inv
  obtain ⟨x2, _, rfl, h2, h⟩ := h.cons_inv
  obtain rfl := h.nil_inv
  obtain ⟨S, rfl, _⟩ := ship_of h1
  obtain ⟨l, rfl, hl⟩ := loads_of h2
  exact plans_ac S l hl
theorem hk : ∀ t ∈ [23, 24], ∃ k, argK Tryz.tab t = some k := by
  intro t ht
  simp only [List.mem_cons, List.not_mem_nil, or_false] at ht
  rcases ht with rfl | rfl
  · exact ⟨_, argK_ship⟩
  · exact ⟨_, argK_loads⟩
theorem hT : ∀ t ∈ [23, 24], t < Tryz.prog.types.size := by
  intro t ht
  simp only [List.mem_cons, List.not_mem_nil, or_false] at ht
  rcases ht with rfl | rfl <;> exact small (by kernel_rfl)
theorem at_true (H : Type) : AnyTrue (H := H) Rows.stowPlansSpec 2 := by
  intro ds hd
  match ds, hd with
  | [d0, d1], _ => rfl
set_option maxRecDepth 100000 in
theorem lifted (os : Os) (started : os.Started) (H : Type) (enc : TypeId × Value → H) :
    ReturnsInHanded {} Tryz.checked os 3 .any (fun w args => (Rows.stowPlansSpec.pre enc Tryz.prog Tryz.f3 Rows.stowPlansRow.domain false w args ∧ laidMetH Tryz.prog laidL w) ∧ sizedMet enc Tryz.prog Tryz.f3 (OpenSpec.ofChange Rows.stowPlansSpec) false w args)
      (Rows.stowPlansSpec.post enc Tryz.prog Tryz.f3 false true false false) := by
  refine returns_laid (C := Tryz.checked) (X := fun w _ => laidMetH Tryz.prog laidL w) (fun _ _ _ hh h => h.of_heap hh) own started (by kernel_rfl) Tryz.func3
    (ChangeSpec.witness_shaped (enc := enc) (C := Tryz.checked) (os := os) (X := fun w _ => laidMetH Tryz.prog laidL w) false (World.laidAll Tryz.prog os laidL) #[.agg #[.string ByteArray.empty, .int .i64 0, .int .i64 0, .int .i64 0, .int .i64 0, .int .i64 0, .int .i64 0, .int .i64 0, .int .i64 0], .slice none 0 0] 8 (World.laidAll_os _ _ _)
      (World.shaped_of_ZipB (by kernel_rfl) (by kernel_rfl)) (by kernel_rfl) (by kernel_rfl) (by kernel_rfl)
      (by rw [MakeChecks.laidMetH_plain _ _ _ (by kernel_rfl)]; exact laidMet_laidAll _ (by kernel_rfl) (by kernel_rfl))) ?_
  intro W base args ds gs before hval hW hsz hL hSh
  exact law_contractG Tryz.tab kids full (fn := Tryz.f3) (ts := [23, 24]) (rt := 4) (by kernel_rfl) (by kernel_rfl) rfl rfl hT hk (by kernel_rfl) (at_true H) 0 laidArr laidTy laidInts all_args W (var_laid hL hSh) base args ds gs before hval hW hsz
theorem holds : Rows.StowPlansSaid :=
  OpenClaim.holds_of_wide 3 Tryz.f3 rfl rfl rfl rfl rfl rfl rfl ⟨rfl, rfl, rfl, rfl, rfl⟩ rfl rfl rfl rfl rfl (by kernel_rfl) Tryz.func3 (by kernel_rfl)
    (of_decide_eq_true (by kernel_rfl)) (by unfold Func.isWrapper; first | (rw [if_pos (by decide +kernel)]; kernel_rfl) | (rw [if_neg (by decide +kernel)]; exact ⟨rfl, rfl⟩))
    (fun os started H enc _ => lifted os started H enc)
theorem proved : Rows.StowPlansCardSaid :=
  Claim7.holds_tied_plain_at .later [] [.data] true (true, "7c4e3fe94cf5c9e6dc16a7a92427b13104a2f7d1e57c5fbdd83573a10ec55fb0") false holds (fun _ h => by cases h) (by kernel_rfl) (fun _ h => by cases h) stowPlans_row_tie rfl ⟨rfl, rfl⟩ (by kernel_rfl) rfl
    (fun f fn hf hfn => by
      obtain rfl : f = 3 := Option.some.inj ((show Tryz.prog.funcNamed Rows.stowPlansRow.func = some 3 by kernel_rfl).symm.trans hf) |>.symm
      obtain rfl : fn = Tryz.f3 := (Option.some.inj (Tryz.func3.symm.trans hfn)).symm
      exact ⟨by kernel_rfl, fun j t ht => by
        have hm : t ∈ [23, 24] := by
          have h0 : Tryz.f3.params.toList = [23, 24] := by kernel_rfl
          rw [← h0]
          exact List.mem_of_getElem? (by rw [Array.getElem?_toList]; exact ht)
        have hall : ([23, 24].all fun u => !Tryz.prog.wantsStandIn u) = true := by kernel_rfl
        exact (show Tryz.prog.wantsStandIn t = false by simpa using List.all_eq_true.1 hall t hm)⟩)
    (by kernel_rfl)
end Go.Proofs.YtjlblnplofgpnaaGreatDoor.stowPlans
