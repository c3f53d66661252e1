import Derived.Test.YtglkilmflohfoaaDoorQ7
namespace Go.Proofs.YtglkilmflohfoaaDoor
open Go.SL

/-! ### the document's example -/
def ex1 : Post := ⟨1, ⟨#[]⟩, []⟩
def ex2 : Post := ⟨2, ⟨#[]⟩, []⟩
def ex3 : Post := ⟨3, ⟨#[]⟩, []⟩
theorem exDiff : diffR [ex1, ex2] [ex2, ex3] = .tup [.d (.sl 3 ([ex1].map Post.enc)), .d (.sl 3 ([ex3].map Post.enc)), .d (.sl 1 ([].map iE))] := by
  have h1 : onlyL [ex1, ex2] [ex2, ex3] = [ex1] := by kernel_rfl
  have h2 : onlyL [ex2, ex3] [ex1, ex2] = [ex3] := by kernel_rfl
  have h3 : unlikeN [ex1, ex2] [ex2, ex3] = [] := by kernel_rfl
  have h4 : sortI [] = [] := by simp [sortI]
  rw [diffR, h1, h2, h3, h4]
theorem exMend : mendR [ex1, ex2] [ex2, ex3] = .tup [.d (.sl 3 ([ex1, ex2, ex3].map Post.enc)), .d (.sc (.int .i64 0))] := by
  have h2 : isortP (mixL [ex1, ex2] [ex2, ex3]) = [ex1, ex2, ex3] := by kernel_rfl
  have h3 : unlikeN [ex1, ex2] [ex2, ex3] = [] := by kernel_rfl
  rw [mendR, h2, h3, if_pos rfl]
theorem ex_ents {l : List Post} (h : l.all (fun p => p.entries.isEmpty) = true) : ∀ p ∈ l, p.entries.length ≤ 1048576 := fun p hp => by
  have := List.all_eq_true.1 h p hp
  rw [List.isEmpty_iff] at this
  rw [this]
  simp
set_option maxRecDepth 20000 in
set_option maxHeartbeats 2000000 in
theorem awake_ac : AC Tryd.prog 4 [] [] [] (fun r _ => r = .d (.sc (.bool true))) := by
  have cd := (diff_ac [ex1, ex2] [ex2, ex3] (by simp) (by simp) (ex_ents (by kernel_rfl)) (ex_ents (by kernel_rfl))).mono (fun _ _ e => e.trans exDiff)
  have cm := (mend_ac [ex1, ex2] [ex2, ex3] (by simp) (by simp) (ex_ents (by kernel_rfl)) (ex_ents (by kernel_rfl))).mono (fun _ _ e => e.trans exMend)
  refine AC_enter Tryd.func4 rfl Tryd.ntmps4 (rv := [.tmp 0]) rfl rfl (by simp) (fun w X G => ?_)
  repeat' (first | ((with_reducible refine gA ?_); (first | refine AW_seq ?_ | refine AW_region ?_ | refine AW_ret ?_)) | (((with_reducible refine gS ?_); apply Es_q); rfl; rfl; (first | refine LStep_buildC (T := Tryd.tab) (out' := [_, _, .d (.sl 3 [])]) rfl rfl rfl rfl rfl rfl ⟨.refl _, .refl _, .nil 3, trivial⟩ | refine LStep_eqlT rfl rfl rfl rfl rfl)) | ((with_reducible refine gS ?_); refine Es_s (T := Tryd.tab) rfl rfl rfl rfl ?_) | (((with_reducible refine gS ?_); apply Es_q); rfl; rfl; (first | refine LStep_call (cd) rfl rfl rfl rfl | refine LStep_call (cm) rfl rfl rfl rfl)) | (((with_reducible refine gS ?_); apply Es_q); rfl; rfl; (first | refine LStep_simp (T := Tryd.tab) rfl rfl | refine LStep_lenM (T := Tryd.tab) rfl rfl rfl rfl | (refine LStep_index (T := Tryd.tab) (c := ?_) rfl rfl rfl rfl rfl rfl ?_ ?_; rotate_left; omega; (first | assumption | rfl)) | (refine LStep_lit (T := Tryd.tab) rfl rfl rfl rfl rfl rfl rfl rfl ?_; (refine Nat.le_of_ble_eq_true ?_; rfl)))) | (with_reducible refine Es_nil ?_) | (with_reducible refine then_n ?_) | ((with_reducible refine gR ?_); first | refine ret1 rfl ?_ | refine ret2 rfl rfl ?_ | refine ret0 ?_ | refine end1 rfl ?_ | refine end0 ?_))
  all_goals rfl

/-! ### the laws -/
theorem few_bounds {l : List Post} (h : fewP l = true) : l.length ≤ 20 ∧ ∀ p ∈ l, p.entries.length ≤ 20 := by
  unfold fewP at h
  rw [Bool.and_eq_true, decide_eq_true_eq, List.all_eq_true] at h
  refine ⟨h.2, fun p hp => ?_⟩
  have := h.1 p hp
  unfold Post.small at this
  rw [Bool.and_eq_true, decide_eq_true_eq] at this
  exact this.1
end Go.Proofs.YtglkilmflohfoaaDoor
