/- TopMature: a draft is passed on. -/
import Derived.Test.YtofdnkgieigncaaGreatMF
namespace Go.Proofs.YtofdnkgieigncaaGreat
open Go.SL

section
variable (s D F : Nat) (M : List (Value × AV)) 
set_option maxRecDepth 20000 in
set_option maxHeartbeats 1000000 in
theorem pp1_ac (hon : F ≤ 1048576) : AC Tryz.prog 117 [.ptr 1006 0, .ptr 1007 0] (fH s D F 1 true ⟨#[115]⟩ F M ⟨#[115]⟩ ⟨#[115]⟩ F (.bnd 70 [.ptr 1000 0]) (.fn 71 [.ptr 1003 0, .ptr 1002 0])) [1000, 1001, 1002, 1003, 1005, 1006, 1007, 1008, 1009] (fun r h' => r = .d (.sc (.bool false)) ∧ Kp (fH s D F 1 true ⟨#[115]⟩ F M ⟨#[115]⟩ ⟨#[115]⟩ F (.bnd 70 [.ptr 1000 0]) (.fn 71 [.ptr 1003 0, .ptr 1002 0])) h') := by
  have c1 := name_ac ⟨#[115]⟩
  have cd := disDay_ac (F : Int)
  rw [show nameOk ⟨#[115]⟩ = true from by decide] at c1
  rw [dayB_of hon] at cd
  unfold fH biL stM nM
  refine AC_enter Tryz.func117 rfl Tryz.ntmps117 (rv := [.tmp 2]) rfl rfl (by simp) (fun w X G => ?_)
  repeat' (first | ((with_reducible refine gA ?_); (first | refine AW_seq ?_ | refine AW_region ?_ | refine AW_ret ?_)) | ((with_reducible refine gS ?_); refine Es_s (T := Tryz.tab) rfl rfl rfl rfl ?_) | (((with_reducible refine gS ?_); apply Es_q); rfl; rfl; (first | refine LStep_call (c1) rfl rfl rfl rfl | refine LStep_call (cd) rfl rfl rfl rfl)) | (((with_reducible refine gS ?_); apply Es_q); rfl; rfl; refine LStep_simp (T := Tryz.tab) rfl rfl) | (with_reducible refine Es_nil ?_) | (with_reducible refine then_n ?_) | ((with_reducible refine gR ?_); first | refine ret1 rfl ?_ | refine ret2 rfl rfl ?_ | refine ret0 ?_ | refine end1 rfl ?_ | refine end0 ?_))
  all_goals (try simp only [cmps] at *)
  all_goals first
    | exact ⟨rfl, Kp.refl _⟩
    | exact ⟨trivial, Kp.refl _⟩
    | exact ⟨by rw [show eqb 1 1 = true from by rw [eqb_t]], Kp.refl _⟩
    | exact ⟨by rw [show eqs { data := #[115] } { data := #[115] } = true from by rw [eqs_t]], Kp.refl _⟩
    | exact ⟨by rw [show eqs { data := #[107] } { data := #[107] } = true from by rw [eqs_t]], Kp.refl _⟩
    | exact ⟨by rw [show eqb 1 0 = false from by rw [eqb_f]; decide]; rfl, Kp.refl _⟩
    | exact ⟨by rw [show eqb 2 0 = false from by rw [eqb_f]; decide]; rfl, Kp.refl _⟩
    | (rename_i hx; exact absurd hx (by decide))
    | (exfalso; omega)
    | exact ⟨rfl, Kp.sub (by (repeat' (first | exact trivial | exact rfl | (refine ⟨Or.inl rfl, ?_⟩) | (refine ⟨Or.inr rfl, ?_⟩) | (refine ⟨Or.inr trivial, ?_⟩) | (refine ⟨rfl, ?_⟩) | (refine ⟨?_, ?_⟩))))⟩
    | trace_state
set_option maxRecDepth 20000 in
set_option maxHeartbeats 1000000 in
theorem pp2_ac (hle : F ≤ F) : AC Tryz.prog 118 [.ptr 1007 0, .ptr 1005 0] (fH s D F 1 true ⟨#[115]⟩ F M ⟨#[115]⟩ ⟨#[115]⟩ F (.bnd 70 [.ptr 1000 0]) (.fn 71 [.ptr 1003 0, .ptr 1002 0])) [1000, 1001, 1002, 1003, 1005, 1006, 1007, 1008, 1009] (fun r h' => r = .d (.sc (.bool false)) ∧ Kp (fH s D F 1 true ⟨#[115]⟩ F M ⟨#[115]⟩ ⟨#[115]⟩ F (.bnd 70 [.ptr 1000 0]) (.fn 71 [.ptr 1003 0, .ptr 1002 0])) h') := by
  unfold fH biL stM nM
  refine AC_enter Tryz.func118 rfl Tryz.ntmps118 (rv := [.tmp 2]) rfl rfl (by simp) (fun w X G => ?_)
  repeat' (first | ((with_reducible refine gA ?_); (first | refine AW_seq ?_ | refine AW_region ?_ | refine AW_regionD Tryz.mixed ?_ | refine AW_ret ?_)) | (first | ((with_reducible refine gS ?_); refine Es_s (T := Tryz.tab) rfl rfl rfl rfl ?_) | ((with_reducible refine gD ?_); refine Ed_s (T := Tryz.tab) rfl rfl rfl rfl ?_)) | (with_reducible refine Es_nil ?_) | ((with_reducible refine Ed_nil ?_ ?_); kernel_rfl) | (with_reducible refine then_n ?_) | ((with_reducible refine gR ?_); first | refine ret1 rfl ?_ | refine ret2 rfl rfl ?_ | refine ret0 ?_ | refine end1 rfl ?_ | refine end0 ?_))
  all_goals first
    | exact ⟨by rw [show ltb (F : Int) (F : Int) = false from by rw [ltb_f]; omega], Kp.refl _⟩
    | trace_state
set_option maxRecDepth 20000 in
set_option maxHeartbeats 1000000 in
theorem pps_ac : AC Tryz.prog 70 [.ptr 1000 0] (fH s D F 1 true ⟨#[115]⟩ F M ⟨#[115]⟩ ⟨#[115]⟩ F (.bnd 70 [.ptr 1000 0]) (.fn 71 [.ptr 1003 0, .ptr 1002 0])) [1000, 1001, 1002, 1003, 1005, 1006, 1007, 1008, 1009] (fun r h' => r = .d (.sc (.bool true)) ∧ Kp (fH s D F 1 true ⟨#[115]⟩ F M ⟨#[115]⟩ ⟨#[115]⟩ F (.bnd 70 [.ptr 1000 0]) (.fn 71 [.ptr 1003 0, .ptr 1002 0])) h') := by
  unfold fH biL stM nM
  refine AC_enter Tryz.func70 rfl Tryz.ntmps70 (rv := [.tmp 2]) rfl rfl (by simp) (fun w X G => ?_)
  repeat' (first | ((with_reducible refine gA ?_); (first | refine AW_seq ?_ | refine AW_region ?_ | refine AW_ret ?_)) | ((with_reducible refine gS ?_); refine Es_s (T := Tryz.tab) rfl rfl rfl rfl ?_) | (((with_reducible refine gS ?_); apply Es_q); rfl; (first | rfl | (refine w_ff ?_; assumption)); (first | refine LStep_simp (T := Tryz.tab) rfl rfl | (refine LStep_pickT rfl rfl ?_ rfl rfl; assumption) | (refine LStep_pickF rfl rfl ?_ rfl rfl; assumption))) | (refine Es_skip rfl ?_ rfl ?_; (first | rfl | (refine w_tf ?_; assumption) | (refine w_ft ?_; assumption))) | (refine Es_split rfl ?_ (fun _ => ?_) (fun _ => ?_); ((fail_if_success (refine und_t ?_; assumption)); (fail_if_success (refine und_f ?_; assumption)); exact trivial)) | (with_reducible refine Es_nil ?_) | (with_reducible refine then_n ?_) | ((with_reducible refine gR ?_); first | refine ret1 rfl ?_ | refine ret2 rfl rfl ?_ | refine ret0 ?_ | refine end1 rfl ?_ | refine end0 ?_))
  all_goals (try simp only [cmps] at *)
  all_goals first
    | exact ⟨rfl, Kp.refl _⟩
    | exact ⟨trivial, Kp.refl _⟩
    | exact ⟨by rw [show eqb 1 1 = true from by rw [eqb_t]], Kp.refl _⟩
    | exact ⟨by rw [show eqs { data := #[115] } { data := #[115] } = true from by rw [eqs_t]], Kp.refl _⟩
    | exact ⟨by rw [show eqs { data := #[107] } { data := #[107] } = true from by rw [eqs_t]], Kp.refl _⟩
    | exact ⟨by rw [show eqb 1 0 = false from by rw [eqb_f]; decide]; rfl, Kp.refl _⟩
    | exact ⟨by rw [show eqb 2 0 = false from by rw [eqb_f]; decide]; rfl, Kp.refl _⟩
    | (rename_i hx; exact absurd hx (by decide))
    | (exfalso; omega)
    | exact ⟨rfl, Kp.sub (by (repeat' (first | exact trivial | exact rfl | (refine ⟨Or.inl rfl, ?_⟩) | (refine ⟨Or.inr rfl, ?_⟩) | (refine ⟨Or.inr trivial, ?_⟩) | (refine ⟨rfl, ?_⟩) | (refine ⟨?_, ?_⟩))))⟩
    | trace_state
set_option maxRecDepth 20000 in
set_option maxHeartbeats 1000000 in
theorem pph_ac : AC Tryz.prog 71 [.ptr 1003 0, .ptr 1002 0] (fH s D F 1 true ⟨#[115]⟩ F M ⟨#[115]⟩ ⟨#[115]⟩ F (.bnd 70 [.ptr 1000 0]) (.fn 71 [.ptr 1003 0, .ptr 1002 0])) [1000, 1001, 1002, 1003, 1005, 1006, 1007, 1008, 1009] (fun r h' => r = .d (.sc (.bool true)) ∧ Kp (fH s D F 1 true ⟨#[115]⟩ F M ⟨#[115]⟩ ⟨#[115]⟩ F (.bnd 70 [.ptr 1000 0]) (.fn 71 [.ptr 1003 0, .ptr 1002 0])) h') := by
  unfold fH biL stM nM
  refine AC_enter Tryz.func71 rfl Tryz.ntmps71 (rv := [.tmp 2]) rfl rfl (by simp) (fun w X G => ?_)
  repeat' (first | ((with_reducible refine gA ?_); (first | refine AW_seq ?_ | refine AW_region ?_ | refine AW_regionD Tryz.mixed ?_ | refine AW_ret ?_)) | (first | ((with_reducible refine gS ?_); refine Es_s (T := Tryz.tab) rfl rfl rfl rfl ?_) | ((with_reducible refine gD ?_); refine Ed_s (T := Tryz.tab) rfl rfl rfl rfl ?_)) | (with_reducible refine Es_nil ?_) | ((with_reducible refine Ed_nil ?_ ?_); kernel_rfl) | (with_reducible refine then_n ?_) | ((with_reducible refine gR ?_); first | refine ret1 rfl ?_ | refine ret2 rfl rfl ?_ | refine ret0 ?_ | refine end1 rfl ?_ | refine end0 ?_))
  all_goals (try simp only [cmps] at *)
  all_goals first
    | exact ⟨rfl, Kp.refl _⟩
    | exact ⟨trivial, Kp.refl _⟩
    | exact ⟨by rw [show eqb 1 1 = true from by rw [eqb_t]], Kp.refl _⟩
    | exact ⟨by rw [show eqs { data := #[115] } { data := #[115] } = true from by rw [eqs_t]], Kp.refl _⟩
    | exact ⟨by rw [show eqs { data := #[107] } { data := #[107] } = true from by rw [eqs_t]], Kp.refl _⟩
    | exact ⟨by rw [show eqb 1 0 = false from by rw [eqb_f]; decide]; rfl, Kp.refl _⟩
    | exact ⟨by rw [show eqb 2 0 = false from by rw [eqb_f]; decide]; rfl, Kp.refl _⟩
    | (rename_i hx; exact absurd hx (by decide))
    | (exfalso; omega)
    | exact ⟨rfl, Kp.sub (by (repeat' (first | exact trivial | exact rfl | (refine ⟨Or.inl rfl, ?_⟩) | (refine ⟨Or.inr rfl, ?_⟩) | (refine ⟨Or.inr trivial, ?_⟩) | (refine ⟨rfl, ?_⟩) | (refine ⟨?_, ?_⟩))))⟩
    | trace_state
set_option maxRecDepth 20000 in
set_option maxHeartbeats 1000000 in
theorem pp3_ac : AC Tryz.prog 119 [.ptr 1008 0] (fH s D F 1 true ⟨#[115]⟩ F M ⟨#[115]⟩ ⟨#[115]⟩ F (.bnd 70 [.ptr 1000 0]) (.fn 71 [.ptr 1003 0, .ptr 1002 0])) [1000, 1001, 1002, 1003, 1005, 1006, 1007, 1008, 1009] (fun r h' => r = .d (.sc (.bool false)) ∧ Kp (fH s D F 1 true ⟨#[115]⟩ F M ⟨#[115]⟩ ⟨#[115]⟩ F (.bnd 70 [.ptr 1000 0]) (.fn 71 [.ptr 1003 0, .ptr 1002 0])) h') := by
  have c := pps_ac s D F M 
  unfold fH biL stM nM at *
  refine AC_enter Tryz.func119 rfl Tryz.ntmps119 (rv := [.tmp 1]) rfl rfl (by simp) (fun w X G => ?_)
  repeat' (first | ((with_reducible refine gA ?_); (first | refine AW_seq ?_ | refine AW_region ?_ | refine AW_ret ?_)) | ((with_reducible refine gS ?_); refine Es_s (T := Tryz.tab) rfl rfl rfl rfl ?_) | (((with_reducible refine gS ?_); apply Es_q); rfl; rfl; refine LStep_callB c rfl rfl ⟨rfl, rfl, rfl, rfl, rfl, rfl, rfl, rfl, rfl, trivial⟩ rfl rfl) | (with_reducible refine Es_nil ?_) | (with_reducible refine then_n ?_) | ((with_reducible refine gR ?_); first | refine ret1 rfl ?_ | refine ret2 rfl rfl ?_ | refine ret0 ?_ | refine end1 rfl ?_ | refine end0 ?_))
  all_goals (try simp only [cmps] at *)
  all_goals first
    | exact ⟨rfl, Kp.refl _⟩
    | exact ⟨trivial, Kp.refl _⟩
    | exact ⟨by rw [show eqb 1 1 = true from by rw [eqb_t]], Kp.refl _⟩
    | exact ⟨by rw [show eqs { data := #[115] } { data := #[115] } = true from by rw [eqs_t]], Kp.refl _⟩
    | exact ⟨by rw [show eqs { data := #[107] } { data := #[107] } = true from by rw [eqs_t]], Kp.refl _⟩
    | exact ⟨by rw [show eqb 1 0 = false from by rw [eqb_f]; decide]; rfl, Kp.refl _⟩
    | exact ⟨by rw [show eqb 2 0 = false from by rw [eqb_f]; decide]; rfl, Kp.refl _⟩
    | (rename_i hx; exact absurd hx (by decide))
    | (exfalso; omega)
    | exact ⟨rfl, Kp.sub (by (repeat' (first | exact trivial | exact rfl | (refine ⟨Or.inl rfl, ?_⟩) | (refine ⟨Or.inr rfl, ?_⟩) | (refine ⟨Or.inr trivial, ?_⟩) | (refine ⟨rfl, ?_⟩) | (refine ⟨?_, ?_⟩))))⟩
    | trace_state
set_option maxRecDepth 20000 in
set_option maxHeartbeats 1000000 in
theorem pp4_ac : AC Tryz.prog 120 [.ptr 1009 0] (fH s D F 1 true ⟨#[115]⟩ F M ⟨#[115]⟩ ⟨#[115]⟩ F (.bnd 70 [.ptr 1000 0]) (.fn 71 [.ptr 1003 0, .ptr 1002 0])) [1000, 1001, 1002, 1003, 1005, 1006, 1007, 1008, 1009] (fun r h' => r = .d (.sc (.bool false)) ∧ Kp (fH s D F 1 true ⟨#[115]⟩ F M ⟨#[115]⟩ ⟨#[115]⟩ F (.bnd 70 [.ptr 1000 0]) (.fn 71 [.ptr 1003 0, .ptr 1002 0])) h') := by
  have c := pph_ac s D F M 
  unfold fH biL stM nM at *
  refine AC_enter Tryz.func120 rfl Tryz.ntmps120 (rv := [.tmp 1]) rfl rfl (by simp) (fun w X G => ?_)
  repeat' (first | ((with_reducible refine gA ?_); (first | refine AW_seq ?_ | refine AW_region ?_ | refine AW_ret ?_)) | ((with_reducible refine gS ?_); refine Es_s (T := Tryz.tab) rfl rfl rfl rfl ?_) | (((with_reducible refine gS ?_); apply Es_q); rfl; rfl; refine LStep_callB c rfl rfl ⟨rfl, rfl, rfl, rfl, rfl, rfl, rfl, rfl, rfl, trivial⟩ rfl rfl) | (with_reducible refine Es_nil ?_) | (with_reducible refine then_n ?_) | ((with_reducible refine gR ?_); first | refine ret1 rfl ?_ | refine ret2 rfl rfl ?_ | refine ret0 ?_ | refine end1 rfl ?_ | refine end0 ?_))
  all_goals (try simp only [cmps] at *)
  all_goals first
    | exact ⟨rfl, Kp.refl _⟩
    | exact ⟨trivial, Kp.refl _⟩
    | exact ⟨by rw [show eqb 1 1 = true from by rw [eqb_t]], Kp.refl _⟩
    | exact ⟨by rw [show eqs { data := #[115] } { data := #[115] } = true from by rw [eqs_t]], Kp.refl _⟩
    | exact ⟨by rw [show eqs { data := #[107] } { data := #[107] } = true from by rw [eqs_t]], Kp.refl _⟩
    | exact ⟨by rw [show eqb 1 0 = false from by rw [eqb_f]; decide]; rfl, Kp.refl _⟩
    | exact ⟨by rw [show eqb 2 0 = false from by rw [eqb_f]; decide]; rfl, Kp.refl _⟩
    | (rename_i hx; exact absurd hx (by decide))
    | (exfalso; omega)
    | exact ⟨rfl, Kp.sub (by (repeat' (first | exact trivial | exact rfl | (refine ⟨Or.inl rfl, ?_⟩) | (refine ⟨Or.inr rfl, ?_⟩) | (refine ⟨Or.inr trivial, ?_⟩) | (refine ⟨rfl, ?_⟩) | (refine ⟨?_, ?_⟩))))⟩
    | trace_state
set_option maxRecDepth 20000 in
set_option maxHeartbeats 2000000 in
theorem ppf_ac (hon : F ≤ 1048576) (hle : F ≤ F) : AC Tryz.prog 116 [.sla 2 [[.d (.sc (.int .i64 1)), .fn 117 [.ptr 1006 0, .ptr 1007 0]], [.d (.sc (.int .i64 6)), .fn 118 [.ptr 1007 0, .ptr 1005 0]], [.d (.sc (.int .i64 9)), .fn 119 [.ptr 1008 0]], [.d (.sc (.int .i64 8)), .fn 120 [.ptr 1009 0]]]] (fH s D F 1 true ⟨#[115]⟩ F M ⟨#[115]⟩ ⟨#[115]⟩ F (.bnd 70 [.ptr 1000 0]) (.fn 71 [.ptr 1003 0, .ptr 1002 0])) [1000, 1001, 1002, 1003, 1005, 1006, 1007, 1008, 1009] (fun r h' => r = .d (.sc (.int .i64 0)) ∧ Kp (fH s D F 1 true ⟨#[115]⟩ F M ⟨#[115]⟩ ⟨#[115]⟩ F (.bnd 70 [.ptr 1000 0]) (.fn 71 [.ptr 1003 0, .ptr 1002 0])) h') := by
  have c1 := pp1_ac s D F M  hon
  have c2 := pp2_ac s D F M  hle
  have c3 := pp3_ac s D F M 
  have c4 := pp4_ac s D F M 
  unfold fH biL stM nM at *
  refine AC_enter Tryz.func116 rfl Tryz.ntmps116 (rv := [.tmp 2]) rfl rfl (by simp) (fun w X G => ?_)
  repeat' (first | ((with_reducible refine gA ?_); (first | refine AW_seq ?_ | refine AW_region ?_ | refine AW_block ?_)) | ((with_reducible refine gS ?_); refine Es_s (T := Tryz.tab) rfl rfl rfl rfl ?_) | (((with_reducible refine gS ?_); apply Es_q); rfl; rfl; refine LStep_wrap (T := Tryz.tab) rfl rfl) | (with_reducible refine Es_nil ?_) | (with_reducible refine then_n ?_))
  refine AW_rounds 5 ?_
  repeat' (first | ((with_reducible refine gRd ?_); refine rounds_stepD [4, 8, 9, 10, 11, 12, 13, 14, 15, 16] [4] ?_) | ((with_reducible refine gA ?_); (first | refine AW_seq ?_ | refine AW_region ?_ | refine AW_condF rfl ?_ | (refine AW_cond rfl (fun hc => ?_) (fun hc => ?_) <;> try (exfalso; simp only [cmpL] at hc; omega)) | refine AW_block ?_ | refine AW_ret ?_ | refine AW_skip ?_ | refine AW_exit ?_)) | ((with_reducible refine gS ?_); refine Es_s (T := Tryz.tab) rfl rfl rfl rfl ?_) | (((with_reducible refine gS ?_); apply Es_q); rfl; rfl; (first | refine LStep_callB c1 rfl rfl ⟨rfl, rfl, rfl, rfl, rfl, rfl, rfl, rfl, rfl, trivial⟩ rfl rfl | refine LStep_callB c2 rfl rfl ⟨rfl, rfl, rfl, rfl, rfl, rfl, rfl, rfl, rfl, trivial⟩ rfl rfl | refine LStep_callB c3 rfl rfl ⟨rfl, rfl, rfl, rfl, rfl, rfl, rfl, rfl, rfl, trivial⟩ rfl rfl | refine LStep_callB c4 rfl rfl ⟨rfl, rfl, rfl, rfl, rfl, rfl, rfl, rfl, rfl, trivial⟩ rfl rfl)) | (((with_reducible refine gS ?_); apply Es_q); rfl; rfl; (first | (refine LStep_add rfl rfl rfl rfl ?_; (refine IntWalk.i64_in _ ?_; first | omega | (simp only [cmps] at *; omega))) | (refine LStep_indexA (T := Tryz.tab) (c := ?_) rfl rfl rfl rfl rfl rfl ?_ ?_; rotate_left; omega; (first | assumption | rfl)))) | (refine Es_skip rfl ?_ rfl ?_; (first | rfl | (refine w_tf ?_; assumption) | (refine w_ft ?_; assumption))) | (((with_reducible refine gS ?_); apply Es_xs); rfl; rfl; refine LStep_allocN (T := Tryz.tab) rfl rfl rfl rfl rfl rfl; rfl) | (((with_reducible refine gS ?_); apply Es_xn); rfl; rfl; (refine LStep_storeN (T := Tryz.tab) rfl rfl rfl rfl rfl rfl rfl ?_ rfl; (refine Nat.le_of_ble_eq_true ?_; rfl)); rfl) | (with_reducible refine Es_nil ?_) | (with_reducible refine then_n ?_) | (with_reducible refine then_e ?_) | (with_reducible refine block_n ?_) | ((with_reducible refine block_e ?_ ?_); rfl) | ((with_reducible refine gR ?_); first | refine ret1 rfl ?_ | refine ret2 rfl rfl ?_ | refine ret0 ?_ | refine end1 rfl ?_ | refine end0 ?_))
  all_goals first
    | exact ⟨rfl, Kp.sub ⟨rfl, rfl, rfl, rfl, rfl, rfl, rfl, rfl, rfl, trivial⟩⟩
    | trace_state
end
section
variable (s D F : Nat) (M : List (Value × AV))
set_option maxRecDepth 20000 in
set_option maxHeartbeats 4000000 in
theorem ppp_ac (hon : F ≤ 1048576) (hle : F ≤ F) : AC Tryz.prog 66 [.ptr 1000 0, stM ⟨#[115]⟩, nM F, (.bnd 70 [.ptr 1000 0]), (.fn 71 [.ptr 1003 0, .ptr 1002 0])] (gH s D F 1 true ⟨#[115]⟩ F M ⟨#[115]⟩) [1000, 1001, 1002, 1003] (fun r h' => r = .d (.sc (.int .i64 0)) ∧ SubH (gH s D F 1 true ⟨#[115]⟩ F M ⟨#[115]⟩) h') := by
  have c := (ppf_ac s D F M hon hle).kp rfl
  unfold fH biL stM nM at c
  unfold gH biL stM nM
  refine AC_enter Tryz.func66 rfl Tryz.ntmps66 (rv := [.tmp 10]) rfl rfl (by simp) (fun w X G => ?_)
  repeat' (first | ((with_reducible refine gA ?_); (first | refine AW_seq ?_ | refine AW_region ?_ | refine AW_ret ?_)) | ((with_reducible refine gS ?_); refine Es_s (T := Tryz.tab) rfl rfl rfl rfl ?_) | (((with_reducible refine gS ?_); apply Es_xg); rfl; rfl; refine LStep_callHN [(1000, 1000), (1001, 1001), (1002, 1002), (1003, 1003), (1005, 5), (1006, 6), (1007, 7), (1008, 8), (1009, 9)] [] c rfl rfl ⟨rfl, rfl, rfl, rfl, rfl, rfl, rfl, rfl, rfl, trivial⟩ rfl ⟨trivial, trivial, trivial, trivial, trivial, trivial, trivial, trivial, trivial, trivial⟩ rfl rfl; rfl) | (((with_reducible refine gS ?_); apply Es_q); rfl; rfl; (first | (refine LStep_litA (T := Tryz.tab) rfl rfl rfl rfl rfl rfl rfl ?_; (refine Nat.le_of_ble_eq_true ?_; rfl)) | refine LStep_buildN (T := Tryz.tab) rfl rfl rfl rfl rfl rfl rfl)) | (refine Es_skip rfl ?_ rfl ?_; (first | rfl | (refine w_tf ?_; assumption) | (refine w_ft ?_; assumption))) | (((with_reducible refine gS ?_); apply Es_xs); rfl; rfl; refine LStep_boxN rfl rfl rfl rfl rfl rfl; rfl) | (with_reducible refine Es_nil ?_) | (with_reducible refine then_n ?_) | ((with_reducible refine gR ?_); first | refine ret1 rfl ?_ | refine ret2 rfl rfl ?_ | refine ret0 ?_ | refine end1 rfl ?_ | refine end0 ?_))
  all_goals first
    | exact ⟨rfl, by (repeat' (first | exact trivial | exact rfl | (refine ⟨Or.inl rfl, ?_⟩) | (refine ⟨Or.inr rfl, ?_⟩) | (refine ⟨Or.inr trivial, ?_⟩) | (refine ⟨rfl, ?_⟩) | (refine ⟨?_, ?_⟩)))⟩
    | trace_state
end
def pasM : List (Value × AV) := [(.string ⟨#[115]⟩, .d (.sc (.bool true)))]
set_option maxRecDepth 20000 in
set_option maxHeartbeats 4000000 in
theorem pass_ac (s D F : Nat) (hon : F ≤ 1048576) : AC Tryz.prog 25 [.ptr 1000 0, stM ⟨#[115]⟩, stM ⟨#[98, 97, 110, 107]⟩, nM F] (bH s D F 1 true ⟨#[115]⟩ F []) [1000, 1001] (fun r h' => r = .d (.sc (.int .i64 0)) ∧ SubH (bH s D F 1 true ⟨#[98, 97, 110, 107]⟩ F pasM) h') := by
  have c := ppp_ac s D F [] hon (Nat.le_refl _)
  have cn := name_ac ⟨#[98, 97, 110, 107]⟩
  rw [show nameOk ⟨#[98, 97, 110, 107]⟩ = true from by decide] at cn
  unfold gH biL stM nM at c
  unfold bH biL stM nM pasM
  refine AC_enter Tryz.func25 rfl Tryz.ntmps25 (rv := [.tmp 8]) rfl rfl (by simp) (fun w X G => ?_)
  repeat' (first | ((with_reducible refine gA ?_); (first | refine AW_seq ?_ | refine AW_region ?_ | refine AW_regionD Tryz.mixed ?_ | refine AW_condF rfl ?_ | (refine AW_cond rfl (fun hc => ?_) (fun hc => ?_) <;> try (exfalso; simp only [cmpL] at hc; omega)) | refine AW_ret ?_ | refine AW_skip ?_)) | (first | ((with_reducible refine gS ?_); refine Es_s (T := Tryz.tab) rfl rfl rfl rfl ?_) | ((with_reducible refine gD ?_); refine Ed_s (T := Tryz.tab) rfl rfl rfl rfl ?_)) | ((first | ((with_reducible refine gS ?_); apply Es_q) | ((with_reducible refine gD ?_); apply Ed_q)); rfl; rfl; (first | refine LStep_makeBound rfl rfl | refine LStep_eqNilMap (T := Tryz.tab) rfl rfl rfl rfl | refine LStep_call (cn) rfl rfl rfl rfl)) | ((first | ((with_reducible refine gS ?_); apply Es_xn) | ((with_reducible refine gD ?_); apply Ed_xn)); rfl; rfl; refine LStep_mapUpdate (T := Tryz.tab) rfl rfl rfl rfl rfl rfl rfl rfl rfl (fun _ h => by cases h) rfl; rfl) | ((first | ((with_reducible refine gS ?_); apply Es_xg) | ((with_reducible refine gD ?_); apply Ed_xg)); rfl; rfl; refine LStep_callHN [(1000, 1000), (1001, 1001), (1002, 4), (1003, 5)] [] c rfl rfl ⟨rfl, rfl, rfl, rfl, trivial⟩ rfl ⟨trivial, trivial, trivial, trivial, trivial⟩ rfl rfl; rfl) | ((first | ((with_reducible refine gS ?_); apply Es_q) | ((with_reducible refine gD ?_); apply Ed_q)); rfl; rfl; refine LStep_simp (T := Tryz.tab) rfl rfl) | (refine Es_skip rfl ?_ rfl ?_; (first | rfl | (refine w_tf ?_; assumption) | (refine w_ft ?_; assumption))) | ((first | ((with_reducible refine gS ?_); apply Es_xs) | ((with_reducible refine gD ?_); apply Ed_xs)); rfl; rfl; refine LStep_boxN rfl rfl rfl rfl rfl rfl; rfl) | (((with_reducible refine gD ?_); apply Ed_xn); rfl; rfl; (refine LStep_storeN (T := Tryz.tab) rfl rfl rfl rfl rfl rfl rfl ?_ rfl; (refine Nat.le_of_ble_eq_true ?_; rfl)); rfl) | (with_reducible refine Es_nil ?_) | ((with_reducible refine Ed_nil ?_ ?_); kernel_rfl) | (with_reducible refine then_n ?_) | (with_reducible refine then_r ?_) | ((with_reducible refine gR ?_); first | refine ret1 rfl ?_ | refine ret2 rfl rfl ?_ | refine ret0 ?_ | refine end1 rfl ?_ | refine end0 ?_))
  all_goals (try simp only [cmps] at *)
  all_goals first
    | exact ⟨rfl, by (repeat' (first | exact trivial | exact rfl | (refine ⟨Or.inl rfl, ?_⟩) | (refine ⟨Or.inr rfl, ?_⟩) | (refine ⟨Or.inr trivial, ?_⟩) | (refine ⟨rfl, ?_⟩) | (refine ⟨?_, ?_⟩)))⟩
    | exact ⟨trivial, by (repeat' (first | exact trivial | exact rfl | (refine ⟨Or.inl rfl, ?_⟩) | (refine ⟨Or.inr rfl, ?_⟩) | (refine ⟨Or.inr trivial, ?_⟩) | (refine ⟨rfl, ?_⟩) | (refine ⟨?_, ?_⟩)))⟩
    | (rename_i hx; exact absurd hx (by decide))
    | exact absurd (by assumption) (show ¬ ((⟨#[98, 97, 110, 107]⟩ : ByteArray) = ⟨#[115]⟩) from by decide)
    | trace_state
end Go.Proofs.YtofdnkgieigncaaGreat
