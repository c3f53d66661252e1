import Derived.Test.YtldfncafkdmoiaaFP
namespace Go.Proofs.Ytldfncafkdmoiaa
open Go.SL
/-! ### awake -/
set_option maxRecDepth 10000 in
set_option maxHeartbeats 4000000 in
theorem awake_ac : AC Try.prog 10 [] [] [] (fun r _ => r = .d (.sc (.bool true))) := by
  have cm := money_ac 10 exL (by omega) (by decide) ex_may spl_ex
  rw [ex_mon] at cm
  have ca := award_ac exL (by decide) ex_may
  rw [ex_aw] at ca
  have cs := psame_ac [4, 3, 3] [4, 3, 3] (by decide) (by decide)
  rw [decide_eq_true rfl] at cs
  have cw := awards_ac [(⟨#[120]⟩, ⟨#[97]⟩), (⟨#[121]⟩, ⟨#[99]⟩)] [(⟨#[120]⟩, ⟨#[97]⟩), (⟨#[121]⟩, ⟨#[99]⟩)] (by decide) (by decide)
  rw [decide_eq_true rfl] at cw
  have cy := why_ac ⟨⟨#[97]⟩, ⟨#[120]⟩, 1, 0, 4⟩ ⟨⟨#[98]⟩, ⟨#[120]⟩, 4, 0, 6⟩
  rw [ex_why] at cy
  have cr := rank_ac exL (by decide)
  have hr : ((isL ltJ exL).map Cl.enc).length = 3 := by rw [List.length_map, (isL_perm exL).length_eq]; rfl
  have hr2 : (isL ltJ exL).length = 3 := by rw [(isL_perm exL).length_eq]; rfl
  have e1 : (List.map nN ([4, 3, 3], 0).1 : List (List D)) = List.map nI [4, 3, 3] := rfl
  have e2 : eqb ((((isL ltJ exL).length : Nat)) : Int) 3 = true := by rw [hr2]; exact eqb_t.2 rfl
  have e4 : eqb (0 : Int) 0 = true := eqb_t.2 rfl
  have e3 : eqs ⟨#[114, 105, 103, 104, 116]⟩ ⟨#[114, 105, 103, 104, 116]⟩ = true := eqs_t.2 rfl
  generalize isL ltJ exL = R at *
  dsimp only at cm
  refine AC_enter Try.func10 rfl Try.ntmps10 (rv := [.tmp 0]) rfl rfl (by simp) (fun w X G => ?_)
  repeat' (first | ((with_reducible refine gA ?_); (first | refine AW_seq ?_ | refine AW_region ?_ | refine AW_regionD Try.mixed ?_ | refine AW_ret ?_)) | (first | ((with_reducible refine gS ?_); refine Es_s (T := Try.tab) rfl rfl rfl rfl ?_) | ((with_reducible refine gD ?_); refine Ed_s (T := Try.tab) rfl rfl rfl rfl ?_)) | ((first | ((with_reducible refine gS ?_); apply Es_q) | ((with_reducible refine gD ?_); apply Ed_q)); rfl; (first | rfl | (refine w_tt ?_; assumption)); (first | refine LStep_call (cm) rfl rfl rfl rfl | refine LStep_call (ca) rfl rfl rfl rfl | refine LStep_call (cs) rfl rfl rfl rfl | refine LStep_call (cw) rfl rfl rfl rfl | refine LStep_call (cy) rfl rfl rfl rfl | refine LStep_call (cr) rfl rfl rfl rfl)) | ((first | ((with_reducible refine gS ?_); apply Es_q) | ((with_reducible refine gD ?_); apply Ed_q)); rfl; (first | rfl | (refine w_tt ?_; assumption)); (first | refine LStep_simp (T := Try.tab) rfl rfl | refine LStep_lenM (T := Try.tab) rfl rfl rfl rfl | (refine LStep_pickT rfl rfl ?_ rfl rfl; assumption) | (refine LStep_index (T := Try.tab) (c := ?_) rfl rfl rfl rfl rfl rfl ?_ ?_; rotate_left; omega; (first | assumption | rfl)) | (refine LStep_lit (T := Try.tab) rfl rfl rfl rfl rfl rfl rfl rfl ?_; (refine Nat.le_of_ble_eq_true ?_; rfl)) | refine LStep_buildN (T := Try.tab) rfl rfl rfl rfl rfl rfl rfl)) | (with_reducible refine Es_nil ?_) | ((with_reducible refine Ed_nil ?_ ?_); kernel_rfl) | (with_reducible refine then_n ?_) | ((with_reducible refine gR ?_); first | refine ret1 rfl ?_ | refine ret2 rfl rfl ?_ | refine ret0 ?_ | refine end1 rfl ?_ | refine end0 ?_))
  all_goals first
    | (rw [e2]; done)
    | (exfalso; rename_i h; rw [e4] at h; cases h)
    | trace_state
end Go.Proofs.Ytldfncafkdmoiaa
