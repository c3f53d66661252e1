import Derived.Test.YtgikjdkdakfnkaaDoorA7
import Derived.Test.YtgikjdkdakfnkaaDoorTf
import Derived.Test.YtgikjdkdakfnkaaDoorH1
namespace Go.Proofs.YtgikjdkdakfnkaaDoor
open Go.SL
/-! ### a copy -/
set_option maxRecDepth 10000 in
set_option maxHeartbeats 2000000 in
theorem copy_ac (S : Ship) (L : List Load) : AC Tryd.prog 29 [.ptr 1000 0] (hB S L) [1000, 1001, 1002] (fun r h' => r = .ptr 3 0 ∧ SubH (hB' 3 11 16 S L ++ hB S L) h') := by
  have c1 := clone_ac Tryd.cloneSlots (callable_of Tryd.func58 rfl rfl) 26 38 (emap slV loV (slM L))
  have c2 := clone_ac Tryd.cloneNames (callable_of Tryd.func59 rfl rfl) 9 38 (emap sV loV (nmM L))
  refine AC_enter Tryd.func29 rfl Tryd.ntmps29 (rv := [.tmp 2]) rfl rfl (by simp) (fun w X G => ?_)
  repeat' (first | ((with_reducible refine gA ?_); (first | refine AW_seq ?_ | refine AW_region ?_ | refine AW_regionD Tryd.mixed ?_ | refine AW_ret ?_)) | (first | ((with_reducible refine gS ?_); refine Es_s (T := Tryd.tab) rfl rfl rfl rfl ?_) | ((with_reducible refine gD ?_); refine Ed_s (T := Tryd.tab) rfl rfl rfl rfl ?_)) | ((first | ((with_reducible refine gS ?_); apply Es_xg) | ((with_reducible refine gD ?_); apply Ed_xg)); rfl; rfl; (first | refine LStep_callHN [(1000, 1001)] [(3000, 11)] c1 rfl rfl ⟨rfl, trivial⟩ rfl ⟨trivial, trivial⟩ rfl rfl | refine LStep_callHN [(1000, 1002)] [(3000, 16)] c2 rfl rfl ⟨rfl, trivial⟩ rfl ⟨trivial, trivial⟩ rfl rfl); rfl) | (refine Es_skip rfl ?_ rfl ?_; (first | rfl | (refine w_tf ?_; assumption) | (refine w_ft ?_; assumption))) | ((first | ((with_reducible refine gS ?_); apply Es_xs) | ((with_reducible refine gD ?_); apply Ed_xs)); rfl; rfl; refine LStep_allocN (T := Tryd.tab) rfl rfl rfl rfl rfl rfl; rfl) | ((first | ((with_reducible refine gS ?_); apply Es_xn) | ((with_reducible refine gD ?_); apply Ed_xn)); rfl; rfl; (refine LStep_storeN (T := Tryd.tab) rfl rfl rfl rfl rfl rfl rfl ?_ rfl; (refine Nat.le_of_ble_eq_true ?_; rfl)); rfl) | (with_reducible refine Es_nil ?_) | ((with_reducible refine Ed_nil ?_ ?_); kernel_rfl) | (with_reducible refine then_n ?_) | ((with_reducible refine gR ?_); first | refine ret1 rfl ?_ | refine ret2 rfl rfl ?_ | refine ret0 ?_ | refine end1 rfl ?_ | refine end0 ?_))
  all_goals first
    | exact ⟨rfl, by unfold hB'; (repeat' (first | exact trivial | exact rfl | (refine ⟨Or.inl rfl, ?_⟩) | (refine ⟨Or.inr rfl, ?_⟩) | (refine ⟨Or.inr trivial, ?_⟩) | (refine ⟨rfl, ?_⟩) | (refine ⟨?_, ?_⟩)))⟩
    | trace_state
end Go.Proofs.YtgikjdkdakfnkaaDoor
