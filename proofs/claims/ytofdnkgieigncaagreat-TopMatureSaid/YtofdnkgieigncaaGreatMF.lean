/- TopMature: what is done with a draft. -/
import Derived.Test.YtofdnkgieigncaaGreatME
namespace Go.Proofs.YtofdnkgieigncaaGreat
open Go.SL

def fH (s D F : Nat) (st : Int) (acc : Bool) (hol : ByteArray) (last : Nat) (M : List (Value × AV)) (b1 : ByteArray) (b2 : ByteArray) (on : Nat) (sf hf : AV) : Hp :=
  [(1000, some (.cells (biL s D F st acc hol 1001 last))), (1001, some (.map 9 4 M none)), (1002, some (.cells [.ptr 1000 0])), (1003, some (.cells [stM b1])), (1005, some (.cells [.ptr 1000 0])), (1006, some (.cells [stM b2])), (1007, some (.cells [nM on])), (1008, some (.cells [sf])), (1009, some (.cells [hf]))]
def gH (s D F : Nat) (st : Int) (acc : Bool) (hol : ByteArray) (last : Nat) (M : List (Value × AV)) (b1 : ByteArray) : Hp :=
  [(1000, some (.cells (biL s D F st acc hol 1001 last))), (1001, some (.map 9 4 M none)), (1002, some (.cells [.ptr 1000 0])), (1003, some (.cells [stM b1]))]
section
variable (s D F : Nat) (M : List (Value × AV)) 
set_option maxRecDepth 20000 in
set_option maxHeartbeats 1000000 in
theorem ac1_ac (hon : F ≤ 1048576) : AC Tryz.prog 117 [.ptr 1006 0, .ptr 1007 0] (fH s D F 0 false ⟨#[115]⟩ F M ⟨#[107]⟩ ⟨#[107]⟩ F (.fn 67 [.ptr 1002 0]) (.fn 68 [.ptr 1003 0, .ptr 1002 0])) [1000, 1001, 1002, 1003, 1005, 1006, 1007, 1008, 1009] (fun r h' => r = .d (.sc (.bool false)) ∧ Kp (fH s D F 0 false ⟨#[115]⟩ F M ⟨#[107]⟩ ⟨#[107]⟩ F (.fn 67 [.ptr 1002 0]) (.fn 68 [.ptr 1003 0, .ptr 1002 0])) h') := by
  have c1 := name_ac ⟨#[107]⟩
  have cd := disDay_ac (F : Int)
  rw [show nameOk ⟨#[107]⟩ = true from by decide] at c1
  rw [dayB_of hon] at cd
  unfold fH biL stM nM
  refine AC_enter Tryz.func117 rfl Tryz.ntmps117 (rv := [.tmp 2]) rfl rfl (by simp) (fun w X G => ?_)
  repeat' (first | ((with_reducible refine gA ?_); (first | refine AW_seq ?_ | refine AW_region ?_ | refine AW_ret ?_)) | ((with_reducible refine gS ?_); refine Es_s (T := Tryz.tab) rfl rfl rfl rfl ?_) | (((with_reducible refine gS ?_); apply Es_q); rfl; rfl; (first | refine LStep_call (c1) rfl rfl rfl rfl | refine LStep_call (cd) rfl rfl rfl rfl)) | (((with_reducible refine gS ?_); apply Es_q); rfl; rfl; refine LStep_simp (T := Tryz.tab) rfl rfl) | (with_reducible refine Es_nil ?_) | (with_reducible refine then_n ?_) | ((with_reducible refine gR ?_); first | refine ret1 rfl ?_ | refine ret2 rfl rfl ?_ | refine ret0 ?_ | refine end1 rfl ?_ | refine end0 ?_))
  all_goals (try simp only [cmps] at *)
  all_goals first
    | exact ⟨rfl, Kp.refl _⟩
    | exact ⟨trivial, Kp.refl _⟩
    | exact ⟨by rw [show eqs { data := #[107] } { data := #[107] } = true from by rw [eqs_t]], Kp.refl _⟩
    | exact ⟨by rw [show eqb 1 0 = false from by rw [eqb_f]; decide]; rfl, Kp.refl _⟩
    | exact ⟨by rw [show eqb 2 0 = false from by rw [eqb_f]; decide]; rfl, Kp.refl _⟩
    | (rename_i hx; exact absurd hx (by decide))
    | (exfalso; omega)
    | exact ⟨rfl, Kp.sub (by (repeat' (first | exact trivial | exact rfl | (refine ⟨Or.inl rfl, ?_⟩) | (refine ⟨Or.inr rfl, ?_⟩) | (refine ⟨Or.inr trivial, ?_⟩) | (refine ⟨rfl, ?_⟩) | (refine ⟨?_, ?_⟩))))⟩
    | trace_state
set_option maxRecDepth 20000 in
set_option maxHeartbeats 1000000 in
theorem ac2_ac (hle : F ≤ F) : AC Tryz.prog 118 [.ptr 1007 0, .ptr 1005 0] (fH s D F 0 false ⟨#[115]⟩ F M ⟨#[107]⟩ ⟨#[107]⟩ F (.fn 67 [.ptr 1002 0]) (.fn 68 [.ptr 1003 0, .ptr 1002 0])) [1000, 1001, 1002, 1003, 1005, 1006, 1007, 1008, 1009] (fun r h' => r = .d (.sc (.bool false)) ∧ Kp (fH s D F 0 false ⟨#[115]⟩ F M ⟨#[107]⟩ ⟨#[107]⟩ F (.fn 67 [.ptr 1002 0]) (.fn 68 [.ptr 1003 0, .ptr 1002 0])) h') := by
  unfold fH biL stM nM
  refine AC_enter Tryz.func118 rfl Tryz.ntmps118 (rv := [.tmp 2]) rfl rfl (by simp) (fun w X G => ?_)
  repeat' (first | ((with_reducible refine gA ?_); (first | refine AW_seq ?_ | refine AW_region ?_ | refine AW_regionD Tryz.mixed ?_ | refine AW_ret ?_)) | (first | ((with_reducible refine gS ?_); refine Es_s (T := Tryz.tab) rfl rfl rfl rfl ?_) | ((with_reducible refine gD ?_); refine Ed_s (T := Tryz.tab) rfl rfl rfl rfl ?_)) | (with_reducible refine Es_nil ?_) | ((with_reducible refine Ed_nil ?_ ?_); kernel_rfl) | (with_reducible refine then_n ?_) | ((with_reducible refine gR ?_); first | refine ret1 rfl ?_ | refine ret2 rfl rfl ?_ | refine ret0 ?_ | refine end1 rfl ?_ | refine end0 ?_))
  all_goals first
    | exact ⟨by rw [show ltb (F : Int) (F : Int) = false from by rw [ltb_f]; omega], Kp.refl _⟩
    | trace_state
set_option maxRecDepth 20000 in
set_option maxHeartbeats 1000000 in
theorem acs_ac : AC Tryz.prog 67 [.ptr 1002 0] (fH s D F 0 false ⟨#[115]⟩ F M ⟨#[107]⟩ ⟨#[107]⟩ F (.fn 67 [.ptr 1002 0]) (.fn 68 [.ptr 1003 0, .ptr 1002 0])) [1000, 1001, 1002, 1003, 1005, 1006, 1007, 1008, 1009] (fun r h' => r = .d (.sc (.bool true)) ∧ Kp (fH s D F 0 false ⟨#[115]⟩ F M ⟨#[107]⟩ ⟨#[107]⟩ F (.fn 67 [.ptr 1002 0]) (.fn 68 [.ptr 1003 0, .ptr 1002 0])) h') := by
  unfold fH biL stM nM
  refine AC_enter Tryz.func67 rfl Tryz.ntmps67 (rv := [.tmp 1]) rfl rfl (by simp) (fun w X G => ?_)
  repeat' (first | ((with_reducible refine gA ?_); (first | refine AW_seq ?_ | refine AW_region ?_ | refine AW_ret ?_)) | ((with_reducible refine gS ?_); refine Es_s (T := Tryz.tab) rfl rfl rfl rfl ?_) | (((with_reducible refine gS ?_); apply Es_q); rfl; (first | rfl | (refine w_tt ?_; assumption)); (first | refine LStep_simp (T := Tryz.tab) rfl rfl | (refine LStep_pickT rfl rfl ?_ rfl rfl; assumption) | (refine LStep_pickF rfl rfl ?_ rfl rfl; assumption))) | (refine Es_skip rfl ?_ rfl ?_; (first | rfl | (refine w_tf ?_; assumption) | (refine w_ft ?_; assumption))) | (refine Es_split rfl ?_ (fun _ => ?_) (fun _ => ?_); ((fail_if_success (refine und_t ?_; assumption)); (fail_if_success (refine und_f ?_; assumption)); exact trivial)) | (with_reducible refine Es_nil ?_) | (with_reducible refine then_n ?_) | ((with_reducible refine gR ?_); first | refine ret1 rfl ?_ | refine ret2 rfl rfl ?_ | refine ret0 ?_ | refine end1 rfl ?_ | refine end0 ?_))
  all_goals (try simp only [cmps] at *)
  all_goals first
    | exact ⟨rfl, Kp.refl _⟩
    | exact ⟨trivial, Kp.refl _⟩
    | exact ⟨by rw [show eqs { data := #[107] } { data := #[107] } = true from by rw [eqs_t]], Kp.refl _⟩
    | exact ⟨by rw [show eqb 1 0 = false from by rw [eqb_f]; decide]; rfl, Kp.refl _⟩
    | exact ⟨by rw [show eqb 2 0 = false from by rw [eqb_f]; decide]; rfl, Kp.refl _⟩
    | (rename_i hx; exact absurd hx (by decide))
    | (exfalso; omega)
    | exact ⟨rfl, Kp.sub (by (repeat' (first | exact trivial | exact rfl | (refine ⟨Or.inl rfl, ?_⟩) | (refine ⟨Or.inr rfl, ?_⟩) | (refine ⟨Or.inr trivial, ?_⟩) | (refine ⟨rfl, ?_⟩) | (refine ⟨?_, ?_⟩))))⟩
    | trace_state
set_option maxRecDepth 20000 in
set_option maxHeartbeats 1000000 in
theorem ach_ac : AC Tryz.prog 68 [.ptr 1003 0, .ptr 1002 0] (fH s D F 0 false ⟨#[115]⟩ F M ⟨#[107]⟩ ⟨#[107]⟩ F (.fn 67 [.ptr 1002 0]) (.fn 68 [.ptr 1003 0, .ptr 1002 0])) [1000, 1001, 1002, 1003, 1005, 1006, 1007, 1008, 1009] (fun r h' => r = .d (.sc (.bool true)) ∧ Kp (fH s D F 0 false ⟨#[115]⟩ F M ⟨#[107]⟩ ⟨#[107]⟩ F (.fn 67 [.ptr 1002 0]) (.fn 68 [.ptr 1003 0, .ptr 1002 0])) h') := by
  unfold fH biL stM nM
  refine AC_enter Tryz.func68 rfl Tryz.ntmps68 (rv := [.tmp 2]) rfl rfl (by simp) (fun w X G => ?_)
  repeat' (first | ((with_reducible refine gA ?_); (first | refine AW_seq ?_ | refine AW_region ?_ | refine AW_regionD Tryz.mixed ?_ | refine AW_ret ?_)) | (first | ((with_reducible refine gS ?_); refine Es_s (T := Tryz.tab) rfl rfl rfl rfl ?_) | ((with_reducible refine gD ?_); refine Ed_s (T := Tryz.tab) rfl rfl rfl rfl ?_)) | (with_reducible refine Es_nil ?_) | ((with_reducible refine Ed_nil ?_ ?_); kernel_rfl) | (with_reducible refine then_n ?_) | ((with_reducible refine gR ?_); first | refine ret1 rfl ?_ | refine ret2 rfl rfl ?_ | refine ret0 ?_ | refine end1 rfl ?_ | refine end0 ?_))
  all_goals (try simp only [cmps] at *)
  all_goals first
    | exact ⟨rfl, Kp.refl _⟩
    | exact ⟨trivial, Kp.refl _⟩
    | exact ⟨by rw [show eqs { data := #[107] } { data := #[107] } = true from by rw [eqs_t]], Kp.refl _⟩
    | exact ⟨by rw [show eqb 1 0 = false from by rw [eqb_f]; decide]; rfl, Kp.refl _⟩
    | exact ⟨by rw [show eqb 2 0 = false from by rw [eqb_f]; decide]; rfl, Kp.refl _⟩
    | (rename_i hx; exact absurd hx (by decide))
    | (exfalso; omega)
    | exact ⟨rfl, Kp.sub (by (repeat' (first | exact trivial | exact rfl | (refine ⟨Or.inl rfl, ?_⟩) | (refine ⟨Or.inr rfl, ?_⟩) | (refine ⟨Or.inr trivial, ?_⟩) | (refine ⟨rfl, ?_⟩) | (refine ⟨?_, ?_⟩))))⟩
    | trace_state
set_option maxRecDepth 20000 in
set_option maxHeartbeats 1000000 in
theorem ac3_ac : AC Tryz.prog 119 [.ptr 1008 0] (fH s D F 0 false ⟨#[115]⟩ F M ⟨#[107]⟩ ⟨#[107]⟩ F (.fn 67 [.ptr 1002 0]) (.fn 68 [.ptr 1003 0, .ptr 1002 0])) [1000, 1001, 1002, 1003, 1005, 1006, 1007, 1008, 1009] (fun r h' => r = .d (.sc (.bool false)) ∧ Kp (fH s D F 0 false ⟨#[115]⟩ F M ⟨#[107]⟩ ⟨#[107]⟩ F (.fn 67 [.ptr 1002 0]) (.fn 68 [.ptr 1003 0, .ptr 1002 0])) h') := by
  have c := acs_ac s D F M 
  unfold fH biL stM nM at *
  refine AC_enter Tryz.func119 rfl Tryz.ntmps119 (rv := [.tmp 1]) rfl rfl (by simp) (fun w X G => ?_)
  repeat' (first | ((with_reducible refine gA ?_); (first | refine AW_seq ?_ | refine AW_region ?_ | refine AW_ret ?_)) | ((with_reducible refine gS ?_); refine Es_s (T := Tryz.tab) rfl rfl rfl rfl ?_) | (((with_reducible refine gS ?_); apply Es_q); rfl; rfl; refine LStep_callB c rfl rfl ⟨rfl, rfl, rfl, rfl, rfl, rfl, rfl, rfl, rfl, trivial⟩ rfl rfl) | (with_reducible refine Es_nil ?_) | (with_reducible refine then_n ?_) | ((with_reducible refine gR ?_); first | refine ret1 rfl ?_ | refine ret2 rfl rfl ?_ | refine ret0 ?_ | refine end1 rfl ?_ | refine end0 ?_))
  all_goals (try simp only [cmps] at *)
  all_goals first
    | exact ⟨rfl, Kp.refl _⟩
    | exact ⟨trivial, Kp.refl _⟩
    | exact ⟨by rw [show eqs { data := #[107] } { data := #[107] } = true from by rw [eqs_t]], Kp.refl _⟩
    | exact ⟨by rw [show eqb 1 0 = false from by rw [eqb_f]; decide]; rfl, Kp.refl _⟩
    | exact ⟨by rw [show eqb 2 0 = false from by rw [eqb_f]; decide]; rfl, Kp.refl _⟩
    | (rename_i hx; exact absurd hx (by decide))
    | (exfalso; omega)
    | exact ⟨rfl, Kp.sub (by (repeat' (first | exact trivial | exact rfl | (refine ⟨Or.inl rfl, ?_⟩) | (refine ⟨Or.inr rfl, ?_⟩) | (refine ⟨Or.inr trivial, ?_⟩) | (refine ⟨rfl, ?_⟩) | (refine ⟨?_, ?_⟩))))⟩
    | trace_state
set_option maxRecDepth 20000 in
set_option maxHeartbeats 1000000 in
theorem ac4_ac : AC Tryz.prog 120 [.ptr 1009 0] (fH s D F 0 false ⟨#[115]⟩ F M ⟨#[107]⟩ ⟨#[107]⟩ F (.fn 67 [.ptr 1002 0]) (.fn 68 [.ptr 1003 0, .ptr 1002 0])) [1000, 1001, 1002, 1003, 1005, 1006, 1007, 1008, 1009] (fun r h' => r = .d (.sc (.bool false)) ∧ Kp (fH s D F 0 false ⟨#[115]⟩ F M ⟨#[107]⟩ ⟨#[107]⟩ F (.fn 67 [.ptr 1002 0]) (.fn 68 [.ptr 1003 0, .ptr 1002 0])) h') := by
  have c := ach_ac s D F M 
  unfold fH biL stM nM at *
  refine AC_enter Tryz.func120 rfl Tryz.ntmps120 (rv := [.tmp 1]) rfl rfl (by simp) (fun w X G => ?_)
  repeat' (first | ((with_reducible refine gA ?_); (first | refine AW_seq ?_ | refine AW_region ?_ | refine AW_ret ?_)) | ((with_reducible refine gS ?_); refine Es_s (T := Tryz.tab) rfl rfl rfl rfl ?_) | (((with_reducible refine gS ?_); apply Es_q); rfl; rfl; refine LStep_callB c rfl rfl ⟨rfl, rfl, rfl, rfl, rfl, rfl, rfl, rfl, rfl, trivial⟩ rfl rfl) | (with_reducible refine Es_nil ?_) | (with_reducible refine then_n ?_) | ((with_reducible refine gR ?_); first | refine ret1 rfl ?_ | refine ret2 rfl rfl ?_ | refine ret0 ?_ | refine end1 rfl ?_ | refine end0 ?_))
  all_goals (try simp only [cmps] at *)
  all_goals first
    | exact ⟨rfl, Kp.refl _⟩
    | exact ⟨trivial, Kp.refl _⟩
    | exact ⟨by rw [show eqs { data := #[107] } { data := #[107] } = true from by rw [eqs_t]], Kp.refl _⟩
    | exact ⟨by rw [show eqb 1 0 = false from by rw [eqb_f]; decide]; rfl, Kp.refl _⟩
    | exact ⟨by rw [show eqb 2 0 = false from by rw [eqb_f]; decide]; rfl, Kp.refl _⟩
    | (rename_i hx; exact absurd hx (by decide))
    | (exfalso; omega)
    | exact ⟨rfl, Kp.sub (by (repeat' (first | exact trivial | exact rfl | (refine ⟨Or.inl rfl, ?_⟩) | (refine ⟨Or.inr rfl, ?_⟩) | (refine ⟨Or.inr trivial, ?_⟩) | (refine ⟨rfl, ?_⟩) | (refine ⟨?_, ?_⟩))))⟩
    | trace_state
set_option maxRecDepth 20000 in
set_option maxHeartbeats 2000000 in
theorem acf_ac (hon : F ≤ 1048576) (hle : F ≤ F) : AC Tryz.prog 116 [.sla 2 [[.d (.sc (.int .i64 1)), .fn 117 [.ptr 1006 0, .ptr 1007 0]], [.d (.sc (.int .i64 6)), .fn 118 [.ptr 1007 0, .ptr 1005 0]], [.d (.sc (.int .i64 9)), .fn 119 [.ptr 1008 0]], [.d (.sc (.int .i64 8)), .fn 120 [.ptr 1009 0]]]] (fH s D F 0 false ⟨#[115]⟩ F M ⟨#[107]⟩ ⟨#[107]⟩ F (.fn 67 [.ptr 1002 0]) (.fn 68 [.ptr 1003 0, .ptr 1002 0])) [1000, 1001, 1002, 1003, 1005, 1006, 1007, 1008, 1009] (fun r h' => r = .d (.sc (.int .i64 0)) ∧ Kp (fH s D F 0 false ⟨#[115]⟩ F M ⟨#[107]⟩ ⟨#[107]⟩ F (.fn 67 [.ptr 1002 0]) (.fn 68 [.ptr 1003 0, .ptr 1002 0])) h') := by
  have c1 := ac1_ac s D F M  hon
  have c2 := ac2_ac s D F M  hle
  have c3 := ac3_ac s D F M 
  have c4 := ac4_ac s D F M 
  unfold fH biL stM nM at *
  refine AC_enter Tryz.func116 rfl Tryz.ntmps116 (rv := [.tmp 2]) rfl rfl (by simp) (fun w X G => ?_)
  repeat' (first | ((with_reducible refine gA ?_); (first | refine AW_seq ?_ | refine AW_region ?_ | refine AW_block ?_)) | ((with_reducible refine gS ?_); refine Es_s (T := Tryz.tab) rfl rfl rfl rfl ?_) | (((with_reducible refine gS ?_); apply Es_q); rfl; rfl; refine LStep_wrap (T := Tryz.tab) rfl rfl) | (with_reducible refine Es_nil ?_) | (with_reducible refine then_n ?_))
  refine AW_rounds 5 ?_
  repeat' (first | ((with_reducible refine gRd ?_); refine rounds_stepD [4, 8, 9, 10, 11, 12, 13, 14, 15, 16] [4] ?_) | ((with_reducible refine gA ?_); (first | refine AW_seq ?_ | refine AW_region ?_ | refine AW_condF rfl ?_ | (refine AW_cond rfl (fun hc => ?_) (fun hc => ?_) <;> try (exfalso; simp only [cmpL] at hc; omega)) | refine AW_block ?_ | refine AW_ret ?_ | refine AW_skip ?_ | refine AW_exit ?_)) | ((with_reducible refine gS ?_); refine Es_s (T := Tryz.tab) rfl rfl rfl rfl ?_) | (((with_reducible refine gS ?_); apply Es_q); rfl; rfl; (first | refine LStep_callB c1 rfl rfl ⟨rfl, rfl, rfl, rfl, rfl, rfl, rfl, rfl, rfl, trivial⟩ rfl rfl | refine LStep_callB c2 rfl rfl ⟨rfl, rfl, rfl, rfl, rfl, rfl, rfl, rfl, rfl, trivial⟩ rfl rfl | refine LStep_callB c3 rfl rfl ⟨rfl, rfl, rfl, rfl, rfl, rfl, rfl, rfl, rfl, trivial⟩ rfl rfl | refine LStep_callB c4 rfl rfl ⟨rfl, rfl, rfl, rfl, rfl, rfl, rfl, rfl, rfl, trivial⟩ rfl rfl)) | (((with_reducible refine gS ?_); apply Es_q); rfl; rfl; (first | (refine LStep_add rfl rfl rfl rfl ?_; (refine IntWalk.i64_in _ ?_; first | omega | (simp only [cmps] at *; omega))) | (refine LStep_indexA (T := Tryz.tab) (c := ?_) rfl rfl rfl rfl rfl rfl ?_ ?_; rotate_left; omega; (first | assumption | rfl)))) | (refine Es_skip rfl ?_ rfl ?_; (first | rfl | (refine w_tf ?_; assumption) | (refine w_ft ?_; assumption))) | (((with_reducible refine gS ?_); apply Es_xs); rfl; rfl; refine LStep_allocN (T := Tryz.tab) rfl rfl rfl rfl rfl rfl; rfl) | (((with_reducible refine gS ?_); apply Es_xn); rfl; rfl; (refine LStep_storeN (T := Tryz.tab) rfl rfl rfl rfl rfl rfl rfl ?_ rfl; (refine Nat.le_of_ble_eq_true ?_; rfl)); rfl) | (with_reducible refine Es_nil ?_) | (with_reducible refine then_n ?_) | (with_reducible refine then_e ?_) | (with_reducible refine block_n ?_) | ((with_reducible refine block_e ?_ ?_); rfl) | ((with_reducible refine gR ?_); first | refine ret1 rfl ?_ | refine ret2 rfl rfl ?_ | refine ret0 ?_ | refine end1 rfl ?_ | refine end0 ?_))
  all_goals first
    | exact ⟨rfl, Kp.sub ⟨rfl, rfl, rfl, rfl, rfl, rfl, rfl, rfl, rfl, trivial⟩⟩
    | trace_state
end
section
variable (s D F : Nat) (M : List (Value × AV)) 
set_option maxRecDepth 20000 in
set_option maxHeartbeats 4000000 in
theorem acp_ac (hon : F ≤ 1048576) (hle : F ≤ F)  : AC Tryz.prog 66 [.ptr 1000 0, stM ⟨#[107]⟩, nM F, (.fn 67 [.ptr 1002 0]), (.fn 68 [.ptr 1003 0, .ptr 1002 0])] (gH s D F 0 false ⟨#[115]⟩ F M ⟨#[107]⟩) [1000, 1001, 1002, 1003] (fun r h' => r = .d (.sc (.int .i64 0)) ∧ SubH (gH s D F 0 false ⟨#[115]⟩ F M ⟨#[107]⟩) h') := by
  have c := (acf_ac s D F M  hon hle).kp rfl
  unfold fH biL stM nM at c
  unfold gH biL stM nM
  refine AC_enter Tryz.func66 rfl Tryz.ntmps66 (rv := [.tmp 10]) rfl rfl (by simp) (fun w X G => ?_)
  repeat' (first | ((with_reducible refine gA ?_); (first | refine AW_seq ?_ | refine AW_region ?_ | refine AW_ret ?_)) | ((with_reducible refine gS ?_); refine Es_s (T := Tryz.tab) rfl rfl rfl rfl ?_) | (((with_reducible refine gS ?_); apply Es_xg); rfl; rfl; refine LStep_callHN [(1000, 1000), (1001, 1001), (1002, 1002), (1003, 1003), (1005, 5), (1006, 6), (1007, 7), (1008, 8), (1009, 9)] [] c rfl rfl ⟨rfl, rfl, rfl, rfl, rfl, rfl, rfl, rfl, rfl, trivial⟩ rfl ⟨trivial, trivial, trivial, trivial, trivial, trivial, trivial, trivial, trivial, trivial⟩ rfl rfl; rfl) | (((with_reducible refine gS ?_); apply Es_q); rfl; rfl; (first | (refine LStep_litA (T := Tryz.tab) rfl rfl rfl rfl rfl rfl rfl ?_; (refine Nat.le_of_ble_eq_true ?_; rfl)) | refine LStep_buildN (T := Tryz.tab) rfl rfl rfl rfl rfl rfl rfl)) | (refine Es_skip rfl ?_ rfl ?_; (first | rfl | (refine w_tf ?_; assumption) | (refine w_ft ?_; assumption))) | (((with_reducible refine gS ?_); apply Es_xs); rfl; rfl; refine LStep_boxN rfl rfl rfl rfl rfl rfl; rfl) | (with_reducible refine Es_nil ?_) | (with_reducible refine then_n ?_) | ((with_reducible refine gR ?_); first | refine ret1 rfl ?_ | refine ret2 rfl rfl ?_ | refine ret0 ?_ | refine end1 rfl ?_ | refine end0 ?_))
  all_goals first
    | exact ⟨rfl, by (repeat' (first | exact trivial | exact rfl | (refine ⟨Or.inl rfl, ?_⟩) | (refine ⟨Or.inr rfl, ?_⟩) | (refine ⟨Or.inr trivial, ?_⟩) | (refine ⟨rfl, ?_⟩) | (refine ⟨?_, ?_⟩)))⟩
    | trace_state
set_option maxRecDepth 20000 in
set_option maxHeartbeats 4000000 in
theorem ac_ac (hon : F ≤ 1048576) (hle : F ≤ F)  : AC Tryz.prog 24 [.ptr 1000 0, stM ⟨#[107]⟩, nM F] (bH s D F 0 false ⟨#[115]⟩ F M) [1000, 1001] (fun r h' => r = .d (.sc (.int .i64 0)) ∧ SubH (bH s D F 1 true ⟨#[115]⟩ F M) h') := by
  have c := acp_ac s D F M  hon hle
  unfold gH biL stM nM at c
  unfold bH biL stM nM
  refine AC_enter Tryz.func24 rfl Tryz.ntmps24 (rv := [.tmp 6]) rfl rfl (by simp) (fun w X G => ?_)
  repeat' (first | ((with_reducible refine gA ?_); (first | refine AW_seq ?_ | refine AW_region ?_ | refine AW_regionD Tryz.mixed ?_ | (refine AW_cond rfl (fun hc => ?_) (fun hc => ?_) <;> try (exfalso; simp only [cmpL] at hc; omega)) | refine AW_ret ?_ | refine AW_skip ?_)) | (first | ((with_reducible refine gS ?_); refine Es_s (T := Tryz.tab) rfl rfl rfl rfl ?_) | ((with_reducible refine gD ?_); refine Ed_s (T := Tryz.tab) rfl rfl rfl rfl ?_)) | ((first | ((with_reducible refine gS ?_); apply Es_xg) | ((with_reducible refine gD ?_); apply Ed_xg)); rfl; rfl; refine LStep_callHN [(1000, 1000), (1001, 1001), (1002, 3), (1003, 4)] [] c rfl rfl ⟨rfl, rfl, rfl, rfl, trivial⟩ rfl ⟨trivial, trivial, trivial, trivial, trivial⟩ rfl rfl; rfl) | (refine Es_skip rfl ?_ rfl ?_; (first | rfl | (refine w_tf ?_; assumption) | (refine w_ft ?_; assumption))) | ((first | ((with_reducible refine gS ?_); apply Es_xs) | ((with_reducible refine gD ?_); apply Ed_xs)); rfl; rfl; refine LStep_boxN rfl rfl rfl rfl rfl rfl; rfl) | (((with_reducible refine gD ?_); apply Ed_xn); rfl; rfl; (refine LStep_storeN (T := Tryz.tab) rfl rfl rfl rfl rfl rfl rfl ?_ rfl; (refine Nat.le_of_ble_eq_true ?_; rfl)); rfl) | (with_reducible refine Es_nil ?_) | ((with_reducible refine Ed_nil ?_ ?_); kernel_rfl) | (with_reducible refine then_n ?_) | ((with_reducible refine gR ?_); first | refine ret1 rfl ?_ | refine ret2 rfl rfl ?_ | refine ret0 ?_ | refine end1 rfl ?_ | refine end0 ?_))
  all_goals (try simp only [cmps] at *)
  all_goals first
    | exact ⟨rfl, by (repeat' (first | exact trivial | exact rfl | (refine ⟨Or.inl rfl, ?_⟩) | (refine ⟨Or.inr rfl, ?_⟩) | (refine ⟨Or.inr trivial, ?_⟩) | (refine ⟨rfl, ?_⟩) | (refine ⟨?_, ?_⟩)))⟩
    | exact ⟨trivial, by (repeat' (first | exact trivial | exact rfl | (refine ⟨Or.inl rfl, ?_⟩) | (refine ⟨Or.inr rfl, ?_⟩) | (refine ⟨Or.inr trivial, ?_⟩) | (refine ⟨rfl, ?_⟩) | (refine ⟨?_, ?_⟩)))⟩
    | trace_state
end
section
variable (s D F : Nat) (M : List (Value × AV)) (due : Nat)
set_option maxRecDepth 20000 in
set_option maxHeartbeats 1000000 in
theorem pa1_ac (hon : due ≤ 1048576) : AC Tryz.prog 117 [.ptr 1006 0, .ptr 1007 0] (fH s D F 1 true ⟨#[98, 97, 110, 107]⟩ F M ⟨#[107]⟩ ⟨#[107]⟩ due (.fn 74 [.ptr 1002 0]) (.fn 75 [.ptr 1002 0, .ptr 1003 0])) [1000, 1001, 1002, 1003, 1005, 1006, 1007, 1008, 1009] (fun r h' => r = .d (.sc (.bool false)) ∧ Kp (fH s D F 1 true ⟨#[98, 97, 110, 107]⟩ F M ⟨#[107]⟩ ⟨#[107]⟩ due (.fn 74 [.ptr 1002 0]) (.fn 75 [.ptr 1002 0, .ptr 1003 0])) h') := by
  have c1 := name_ac ⟨#[107]⟩
  have cd := disDay_ac (due : Int)
  rw [show nameOk ⟨#[107]⟩ = true from by decide] at c1
  rw [dayB_of hon] at cd
  unfold fH biL stM nM
  refine AC_enter Tryz.func117 rfl Tryz.ntmps117 (rv := [.tmp 2]) rfl rfl (by simp) (fun w X G => ?_)
  repeat' (first | ((with_reducible refine gA ?_); (first | refine AW_seq ?_ | refine AW_region ?_ | refine AW_ret ?_)) | ((with_reducible refine gS ?_); refine Es_s (T := Tryz.tab) rfl rfl rfl rfl ?_) | (((with_reducible refine gS ?_); apply Es_q); rfl; rfl; (first | refine LStep_call (c1) rfl rfl rfl rfl | refine LStep_call (cd) rfl rfl rfl rfl)) | (((with_reducible refine gS ?_); apply Es_q); rfl; rfl; refine LStep_simp (T := Tryz.tab) rfl rfl) | (with_reducible refine Es_nil ?_) | (with_reducible refine then_n ?_) | ((with_reducible refine gR ?_); first | refine ret1 rfl ?_ | refine ret2 rfl rfl ?_ | refine ret0 ?_ | refine end1 rfl ?_ | refine end0 ?_))
  all_goals (try simp only [cmps] at *)
  all_goals first
    | exact ⟨rfl, Kp.refl _⟩
    | exact ⟨trivial, Kp.refl _⟩
    | exact ⟨by rw [show eqs { data := #[107] } { data := #[107] } = true from by rw [eqs_t]], Kp.refl _⟩
    | exact ⟨by rw [show eqb 1 0 = false from by rw [eqb_f]; decide]; rfl, Kp.refl _⟩
    | exact ⟨by rw [show eqb 2 0 = false from by rw [eqb_f]; decide]; rfl, Kp.refl _⟩
    | (rename_i hx; exact absurd hx (by decide))
    | (exfalso; omega)
    | exact ⟨rfl, Kp.sub (by (repeat' (first | exact trivial | exact rfl | (refine ⟨Or.inl rfl, ?_⟩) | (refine ⟨Or.inr rfl, ?_⟩) | (refine ⟨Or.inr trivial, ?_⟩) | (refine ⟨rfl, ?_⟩) | (refine ⟨?_, ?_⟩))))⟩
    | trace_state
set_option maxRecDepth 20000 in
set_option maxHeartbeats 1000000 in
theorem pa2_ac (hle : F ≤ due) : AC Tryz.prog 118 [.ptr 1007 0, .ptr 1005 0] (fH s D F 1 true ⟨#[98, 97, 110, 107]⟩ F M ⟨#[107]⟩ ⟨#[107]⟩ due (.fn 74 [.ptr 1002 0]) (.fn 75 [.ptr 1002 0, .ptr 1003 0])) [1000, 1001, 1002, 1003, 1005, 1006, 1007, 1008, 1009] (fun r h' => r = .d (.sc (.bool false)) ∧ Kp (fH s D F 1 true ⟨#[98, 97, 110, 107]⟩ F M ⟨#[107]⟩ ⟨#[107]⟩ due (.fn 74 [.ptr 1002 0]) (.fn 75 [.ptr 1002 0, .ptr 1003 0])) h') := by
  unfold fH biL stM nM
  refine AC_enter Tryz.func118 rfl Tryz.ntmps118 (rv := [.tmp 2]) rfl rfl (by simp) (fun w X G => ?_)
  repeat' (first | ((with_reducible refine gA ?_); (first | refine AW_seq ?_ | refine AW_region ?_ | refine AW_regionD Tryz.mixed ?_ | refine AW_ret ?_)) | (first | ((with_reducible refine gS ?_); refine Es_s (T := Tryz.tab) rfl rfl rfl rfl ?_) | ((with_reducible refine gD ?_); refine Ed_s (T := Tryz.tab) rfl rfl rfl rfl ?_)) | (with_reducible refine Es_nil ?_) | ((with_reducible refine Ed_nil ?_ ?_); kernel_rfl) | (with_reducible refine then_n ?_) | ((with_reducible refine gR ?_); first | refine ret1 rfl ?_ | refine ret2 rfl rfl ?_ | refine ret0 ?_ | refine end1 rfl ?_ | refine end0 ?_))
  all_goals first
    | exact ⟨by rw [show ltb (due : Int) (F : Int) = false from by rw [ltb_f]; omega], Kp.refl _⟩
    | trace_state
set_option maxRecDepth 20000 in
set_option maxHeartbeats 1000000 in
theorem pas_ac : AC Tryz.prog 74 [.ptr 1002 0] (fH s D F 1 true ⟨#[98, 97, 110, 107]⟩ F M ⟨#[107]⟩ ⟨#[107]⟩ due (.fn 74 [.ptr 1002 0]) (.fn 75 [.ptr 1002 0, .ptr 1003 0])) [1000, 1001, 1002, 1003, 1005, 1006, 1007, 1008, 1009] (fun r h' => r = .d (.sc (.bool true)) ∧ Kp (fH s D F 1 true ⟨#[98, 97, 110, 107]⟩ F M ⟨#[107]⟩ ⟨#[107]⟩ due (.fn 74 [.ptr 1002 0]) (.fn 75 [.ptr 1002 0, .ptr 1003 0])) h') := by
  unfold fH biL stM nM
  refine AC_enter Tryz.func74 rfl Tryz.ntmps74 (rv := [.tmp 1]) rfl rfl (by simp) (fun w X G => ?_)
  repeat' (first | ((with_reducible refine gA ?_); (first | refine AW_seq ?_ | refine AW_region ?_ | (refine AW_condY rfl ?_ ?_; assumption) | (refine AW_cond rfl (fun hc => ?_) (fun hc => ?_) <;> try (exfalso; simp only [cmpL] at hc; omega)) | refine AW_block ?_ | refine AW_ret ?_ | refine AW_skip ?_)) | ((with_reducible refine gS ?_); refine Es_s (T := Tryz.tab) rfl rfl rfl rfl ?_) | (with_reducible refine Es_nil ?_) | (with_reducible refine then_n ?_) | (with_reducible refine then_r ?_) | (with_reducible refine block_r ?_) | ((with_reducible refine gR ?_); first | refine ret1 rfl ?_ | refine ret2 rfl rfl ?_ | refine ret0 ?_ | refine end1 rfl ?_ | refine end0 ?_))
  all_goals (try simp only [cmps] at *)
  all_goals first
    | exact ⟨rfl, Kp.refl _⟩
    | exact ⟨trivial, Kp.refl _⟩
    | exact ⟨by rw [show eqs { data := #[107] } { data := #[107] } = true from by rw [eqs_t]], Kp.refl _⟩
    | exact ⟨by rw [show eqb 1 0 = false from by rw [eqb_f]; decide]; rfl, Kp.refl _⟩
    | exact ⟨by rw [show eqb 2 0 = false from by rw [eqb_f]; decide]; rfl, Kp.refl _⟩
    | (rename_i hx; exact absurd hx (by decide))
    | (exfalso; omega)
    | exact ⟨rfl, Kp.sub (by (repeat' (first | exact trivial | exact rfl | (refine ⟨Or.inl rfl, ?_⟩) | (refine ⟨Or.inr rfl, ?_⟩) | (refine ⟨Or.inr trivial, ?_⟩) | (refine ⟨rfl, ?_⟩) | (refine ⟨?_, ?_⟩))))⟩
    | trace_state
set_option maxRecDepth 20000 in
set_option maxHeartbeats 1000000 in
theorem pah_ac : AC Tryz.prog 75 [.ptr 1002 0, .ptr 1003 0] (fH s D F 1 true ⟨#[98, 97, 110, 107]⟩ F M ⟨#[107]⟩ ⟨#[107]⟩ due (.fn 74 [.ptr 1002 0]) (.fn 75 [.ptr 1002 0, .ptr 1003 0])) [1000, 1001, 1002, 1003, 1005, 1006, 1007, 1008, 1009] (fun r h' => r = .d (.sc (.bool true)) ∧ Kp (fH s D F 1 true ⟨#[98, 97, 110, 107]⟩ F M ⟨#[107]⟩ ⟨#[107]⟩ due (.fn 74 [.ptr 1002 0]) (.fn 75 [.ptr 1002 0, .ptr 1003 0])) h') := by
  unfold fH biL stM nM
  refine AC_enter Tryz.func75 rfl Tryz.ntmps75 (rv := [.tmp 2]) rfl rfl (by simp) (fun w X G => ?_)
  repeat' (first | ((with_reducible refine gA ?_); (first | refine AW_seq ?_ | refine AW_region ?_ | refine AW_regionD Tryz.mixed ?_ | (refine AW_cond rfl (fun hc => ?_) (fun hc => ?_) <;> try (exfalso; simp only [cmpL] at hc; omega)) | refine AW_ret ?_ | refine AW_skip ?_)) | (first | ((with_reducible refine gS ?_); refine Es_s (T := Tryz.tab) rfl rfl rfl rfl ?_) | ((with_reducible refine gD ?_); refine Ed_s (T := Tryz.tab) rfl rfl rfl rfl ?_)) | (with_reducible refine Es_nil ?_) | ((with_reducible refine Ed_nil ?_ ?_); kernel_rfl) | (with_reducible refine then_n ?_) | ((with_reducible refine gR ?_); first | refine ret1 rfl ?_ | refine ret2 rfl rfl ?_ | refine ret0 ?_ | refine end1 rfl ?_ | refine end0 ?_))
  all_goals (try simp only [cmps] at *)
  all_goals first
    | exact ⟨rfl, Kp.refl _⟩
    | exact ⟨trivial, Kp.refl _⟩
    | exact ⟨by rw [show eqs { data := #[107] } { data := #[107] } = true from by rw [eqs_t]], Kp.refl _⟩
    | exact ⟨by rw [show eqb 1 0 = false from by rw [eqb_f]; decide]; rfl, Kp.refl _⟩
    | exact ⟨by rw [show eqb 2 0 = false from by rw [eqb_f]; decide]; rfl, Kp.refl _⟩
    | (rename_i hx; exact absurd hx (by decide))
    | (exfalso; omega)
    | exact ⟨rfl, Kp.sub (by (repeat' (first | exact trivial | exact rfl | (refine ⟨Or.inl rfl, ?_⟩) | (refine ⟨Or.inr rfl, ?_⟩) | (refine ⟨Or.inr trivial, ?_⟩) | (refine ⟨rfl, ?_⟩) | (refine ⟨?_, ?_⟩))))⟩
    | trace_state
set_option maxRecDepth 20000 in
set_option maxHeartbeats 1000000 in
theorem pa3_ac : AC Tryz.prog 119 [.ptr 1008 0] (fH s D F 1 true ⟨#[98, 97, 110, 107]⟩ F M ⟨#[107]⟩ ⟨#[107]⟩ due (.fn 74 [.ptr 1002 0]) (.fn 75 [.ptr 1002 0, .ptr 1003 0])) [1000, 1001, 1002, 1003, 1005, 1006, 1007, 1008, 1009] (fun r h' => r = .d (.sc (.bool false)) ∧ Kp (fH s D F 1 true ⟨#[98, 97, 110, 107]⟩ F M ⟨#[107]⟩ ⟨#[107]⟩ due (.fn 74 [.ptr 1002 0]) (.fn 75 [.ptr 1002 0, .ptr 1003 0])) h') := by
  have c := pas_ac s D F M due
  unfold fH biL stM nM at *
  refine AC_enter Tryz.func119 rfl Tryz.ntmps119 (rv := [.tmp 1]) rfl rfl (by simp) (fun w X G => ?_)
  repeat' (first | ((with_reducible refine gA ?_); (first | refine AW_seq ?_ | refine AW_region ?_ | refine AW_ret ?_)) | ((with_reducible refine gS ?_); refine Es_s (T := Tryz.tab) rfl rfl rfl rfl ?_) | (((with_reducible refine gS ?_); apply Es_q); rfl; rfl; refine LStep_callB c rfl rfl ⟨rfl, rfl, rfl, rfl, rfl, rfl, rfl, rfl, rfl, trivial⟩ rfl rfl) | (with_reducible refine Es_nil ?_) | (with_reducible refine then_n ?_) | ((with_reducible refine gR ?_); first | refine ret1 rfl ?_ | refine ret2 rfl rfl ?_ | refine ret0 ?_ | refine end1 rfl ?_ | refine end0 ?_))
  all_goals (try simp only [cmps] at *)
  all_goals first
    | exact ⟨rfl, Kp.refl _⟩
    | exact ⟨trivial, Kp.refl _⟩
    | exact ⟨by rw [show eqs { data := #[107] } { data := #[107] } = true from by rw [eqs_t]], Kp.refl _⟩
    | exact ⟨by rw [show eqb 1 0 = false from by rw [eqb_f]; decide]; rfl, Kp.refl _⟩
    | exact ⟨by rw [show eqb 2 0 = false from by rw [eqb_f]; decide]; rfl, Kp.refl _⟩
    | (rename_i hx; exact absurd hx (by decide))
    | (exfalso; omega)
    | exact ⟨rfl, Kp.sub (by (repeat' (first | exact trivial | exact rfl | (refine ⟨Or.inl rfl, ?_⟩) | (refine ⟨Or.inr rfl, ?_⟩) | (refine ⟨Or.inr trivial, ?_⟩) | (refine ⟨rfl, ?_⟩) | (refine ⟨?_, ?_⟩))))⟩
    | trace_state
set_option maxRecDepth 20000 in
set_option maxHeartbeats 1000000 in
theorem pa4_ac : AC Tryz.prog 120 [.ptr 1009 0] (fH s D F 1 true ⟨#[98, 97, 110, 107]⟩ F M ⟨#[107]⟩ ⟨#[107]⟩ due (.fn 74 [.ptr 1002 0]) (.fn 75 [.ptr 1002 0, .ptr 1003 0])) [1000, 1001, 1002, 1003, 1005, 1006, 1007, 1008, 1009] (fun r h' => r = .d (.sc (.bool false)) ∧ Kp (fH s D F 1 true ⟨#[98, 97, 110, 107]⟩ F M ⟨#[107]⟩ ⟨#[107]⟩ due (.fn 74 [.ptr 1002 0]) (.fn 75 [.ptr 1002 0, .ptr 1003 0])) h') := by
  have c := pah_ac s D F M due
  unfold fH biL stM nM at *
  refine AC_enter Tryz.func120 rfl Tryz.ntmps120 (rv := [.tmp 1]) rfl rfl (by simp) (fun w X G => ?_)
  repeat' (first | ((with_reducible refine gA ?_); (first | refine AW_seq ?_ | refine AW_region ?_ | refine AW_ret ?_)) | ((with_reducible refine gS ?_); refine Es_s (T := Tryz.tab) rfl rfl rfl rfl ?_) | (((with_reducible refine gS ?_); apply Es_q); rfl; rfl; refine LStep_callB c rfl rfl ⟨rfl, rfl, rfl, rfl, rfl, rfl, rfl, rfl, rfl, trivial⟩ rfl rfl) | (with_reducible refine Es_nil ?_) | (with_reducible refine then_n ?_) | ((with_reducible refine gR ?_); first | refine ret1 rfl ?_ | refine ret2 rfl rfl ?_ | refine ret0 ?_ | refine end1 rfl ?_ | refine end0 ?_))
  all_goals (try simp only [cmps] at *)
  all_goals first
    | exact ⟨rfl, Kp.refl _⟩
    | exact ⟨trivial, Kp.refl _⟩
    | exact ⟨by rw [show eqs { data := #[107] } { data := #[107] } = true from by rw [eqs_t]], Kp.refl _⟩
    | exact ⟨by rw [show eqb 1 0 = false from by rw [eqb_f]; decide]; rfl, Kp.refl _⟩
    | exact ⟨by rw [show eqb 2 0 = false from by rw [eqb_f]; decide]; rfl, Kp.refl _⟩
    | (rename_i hx; exact absurd hx (by decide))
    | (exfalso; omega)
    | exact ⟨rfl, Kp.sub (by (repeat' (first | exact trivial | exact rfl | (refine ⟨Or.inl rfl, ?_⟩) | (refine ⟨Or.inr rfl, ?_⟩) | (refine ⟨Or.inr trivial, ?_⟩) | (refine ⟨rfl, ?_⟩) | (refine ⟨?_, ?_⟩))))⟩
    | trace_state
set_option maxRecDepth 20000 in
set_option maxHeartbeats 2000000 in
theorem paf_ac (hon : due ≤ 1048576) (hle : F ≤ due) : AC Tryz.prog 116 [.sla 2 [[.d (.sc (.int .i64 1)), .fn 117 [.ptr 1006 0, .ptr 1007 0]], [.d (.sc (.int .i64 6)), .fn 118 [.ptr 1007 0, .ptr 1005 0]], [.d (.sc (.int .i64 9)), .fn 119 [.ptr 1008 0]], [.d (.sc (.int .i64 8)), .fn 120 [.ptr 1009 0]]]] (fH s D F 1 true ⟨#[98, 97, 110, 107]⟩ F M ⟨#[107]⟩ ⟨#[107]⟩ due (.fn 74 [.ptr 1002 0]) (.fn 75 [.ptr 1002 0, .ptr 1003 0])) [1000, 1001, 1002, 1003, 1005, 1006, 1007, 1008, 1009] (fun r h' => r = .d (.sc (.int .i64 0)) ∧ Kp (fH s D F 1 true ⟨#[98, 97, 110, 107]⟩ F M ⟨#[107]⟩ ⟨#[107]⟩ due (.fn 74 [.ptr 1002 0]) (.fn 75 [.ptr 1002 0, .ptr 1003 0])) h') := by
  have c1 := pa1_ac s D F M due hon
  have c2 := pa2_ac s D F M due hle
  have c3 := pa3_ac s D F M due
  have c4 := pa4_ac s D F M due
  unfold fH biL stM nM at *
  refine AC_enter Tryz.func116 rfl Tryz.ntmps116 (rv := [.tmp 2]) rfl rfl (by simp) (fun w X G => ?_)
  repeat' (first | ((with_reducible refine gA ?_); (first | refine AW_seq ?_ | refine AW_region ?_ | refine AW_block ?_)) | ((with_reducible refine gS ?_); refine Es_s (T := Tryz.tab) rfl rfl rfl rfl ?_) | (((with_reducible refine gS ?_); apply Es_q); rfl; rfl; refine LStep_wrap (T := Tryz.tab) rfl rfl) | (with_reducible refine Es_nil ?_) | (with_reducible refine then_n ?_))
  refine AW_rounds 5 ?_
  repeat' (first | ((with_reducible refine gRd ?_); refine rounds_stepD [4, 8, 9, 10, 11, 12, 13, 14, 15, 16] [4] ?_) | ((with_reducible refine gA ?_); (first | refine AW_seq ?_ | refine AW_region ?_ | refine AW_condF rfl ?_ | (refine AW_cond rfl (fun hc => ?_) (fun hc => ?_) <;> try (exfalso; simp only [cmpL] at hc; omega)) | refine AW_block ?_ | refine AW_ret ?_ | refine AW_skip ?_ | refine AW_exit ?_)) | ((with_reducible refine gS ?_); refine Es_s (T := Tryz.tab) rfl rfl rfl rfl ?_) | (((with_reducible refine gS ?_); apply Es_q); rfl; rfl; (first | refine LStep_callB c1 rfl rfl ⟨rfl, rfl, rfl, rfl, rfl, rfl, rfl, rfl, rfl, trivial⟩ rfl rfl | refine LStep_callB c2 rfl rfl ⟨rfl, rfl, rfl, rfl, rfl, rfl, rfl, rfl, rfl, trivial⟩ rfl rfl | refine LStep_callB c3 rfl rfl ⟨rfl, rfl, rfl, rfl, rfl, rfl, rfl, rfl, rfl, trivial⟩ rfl rfl | refine LStep_callB c4 rfl rfl ⟨rfl, rfl, rfl, rfl, rfl, rfl, rfl, rfl, rfl, trivial⟩ rfl rfl)) | (((with_reducible refine gS ?_); apply Es_q); rfl; rfl; (first | (refine LStep_add rfl rfl rfl rfl ?_; (refine IntWalk.i64_in _ ?_; first | omega | (simp only [cmps] at *; omega))) | (refine LStep_indexA (T := Tryz.tab) (c := ?_) rfl rfl rfl rfl rfl rfl ?_ ?_; rotate_left; omega; (first | assumption | rfl)))) | (refine Es_skip rfl ?_ rfl ?_; (first | rfl | (refine w_tf ?_; assumption) | (refine w_ft ?_; assumption))) | (((with_reducible refine gS ?_); apply Es_xs); rfl; rfl; refine LStep_allocN (T := Tryz.tab) rfl rfl rfl rfl rfl rfl; rfl) | (((with_reducible refine gS ?_); apply Es_xn); rfl; rfl; (refine LStep_storeN (T := Tryz.tab) rfl rfl rfl rfl rfl rfl rfl ?_ rfl; (refine Nat.le_of_ble_eq_true ?_; rfl)); rfl) | (with_reducible refine Es_nil ?_) | (with_reducible refine then_n ?_) | (with_reducible refine then_e ?_) | (with_reducible refine block_n ?_) | ((with_reducible refine block_e ?_ ?_); rfl) | ((with_reducible refine gR ?_); first | refine ret1 rfl ?_ | refine ret2 rfl rfl ?_ | refine ret0 ?_ | refine end1 rfl ?_ | refine end0 ?_))
  all_goals first
    | exact ⟨rfl, Kp.sub ⟨rfl, rfl, rfl, rfl, rfl, rfl, rfl, rfl, rfl, trivial⟩⟩
    | trace_state
end
section
variable (s D F : Nat) (M : List (Value × AV)) (due : Nat)
set_option maxRecDepth 20000 in
set_option maxHeartbeats 4000000 in
theorem pap_ac (hon : due ≤ 1048576) (hle : F ≤ due)  : AC Tryz.prog 66 [.ptr 1000 0, stM ⟨#[107]⟩, nM due, (.fn 74 [.ptr 1002 0]), (.fn 75 [.ptr 1002 0, .ptr 1003 0])] (gH s D F 1 true ⟨#[98, 97, 110, 107]⟩ F M ⟨#[107]⟩) [1000, 1001, 1002, 1003] (fun r h' => r = .d (.sc (.int .i64 0)) ∧ SubH (gH s D F 1 true ⟨#[98, 97, 110, 107]⟩ F M ⟨#[107]⟩) h') := by
  have c := (paf_ac s D F M due hon hle).kp rfl
  unfold fH biL stM nM at c
  unfold gH biL stM nM
  refine AC_enter Tryz.func66 rfl Tryz.ntmps66 (rv := [.tmp 10]) rfl rfl (by simp) (fun w X G => ?_)
  repeat' (first | ((with_reducible refine gA ?_); (first | refine AW_seq ?_ | refine AW_region ?_ | refine AW_ret ?_)) | ((with_reducible refine gS ?_); refine Es_s (T := Tryz.tab) rfl rfl rfl rfl ?_) | (((with_reducible refine gS ?_); apply Es_xg); rfl; rfl; refine LStep_callHN [(1000, 1000), (1001, 1001), (1002, 1002), (1003, 1003), (1005, 5), (1006, 6), (1007, 7), (1008, 8), (1009, 9)] [] c rfl rfl ⟨rfl, rfl, rfl, rfl, rfl, rfl, rfl, rfl, rfl, trivial⟩ rfl ⟨trivial, trivial, trivial, trivial, trivial, trivial, trivial, trivial, trivial, trivial⟩ rfl rfl; rfl) | (((with_reducible refine gS ?_); apply Es_q); rfl; rfl; (first | (refine LStep_litA (T := Tryz.tab) rfl rfl rfl rfl rfl rfl rfl ?_; (refine Nat.le_of_ble_eq_true ?_; rfl)) | refine LStep_buildN (T := Tryz.tab) rfl rfl rfl rfl rfl rfl rfl)) | (refine Es_skip rfl ?_ rfl ?_; (first | rfl | (refine w_tf ?_; assumption) | (refine w_ft ?_; assumption))) | (((with_reducible refine gS ?_); apply Es_xs); rfl; rfl; refine LStep_boxN rfl rfl rfl rfl rfl rfl; rfl) | (with_reducible refine Es_nil ?_) | (with_reducible refine then_n ?_) | ((with_reducible refine gR ?_); first | refine ret1 rfl ?_ | refine ret2 rfl rfl ?_ | refine ret0 ?_ | refine end1 rfl ?_ | refine end0 ?_))
  all_goals first
    | exact ⟨rfl, by (repeat' (first | exact trivial | exact rfl | (refine ⟨Or.inl rfl, ?_⟩) | (refine ⟨Or.inr rfl, ?_⟩) | (refine ⟨Or.inr trivial, ?_⟩) | (refine ⟨rfl, ?_⟩) | (refine ⟨?_, ?_⟩)))⟩
    | trace_state
set_option maxRecDepth 20000 in
set_option maxHeartbeats 4000000 in
theorem pa_ac (hon : due ≤ 1048576) (hle : F ≤ due)  : AC Tryz.prog 28 [.ptr 1000 0, stM ⟨#[107]⟩, nM due] (bH s D F 1 true ⟨#[98, 97, 110, 107]⟩ F M) [1000, 1001] (fun r h' => r = .d (.sc (.int .i64 0)) ∧ SubH (bH s D F 2 true ⟨#[98, 97, 110, 107]⟩ due M) h') := by
  have c := pap_ac s D F M due hon hle
  unfold gH biL stM nM at c
  unfold bH biL stM nM
  refine AC_enter Tryz.func28 rfl Tryz.ntmps28 (rv := [.tmp 6]) rfl rfl (by simp) (fun w X G => ?_)
  repeat' (first | ((with_reducible refine gA ?_); (first | refine AW_seq ?_ | refine AW_region ?_ | refine AW_regionD Tryz.mixed ?_ | (refine AW_cond rfl (fun hc => ?_) (fun hc => ?_) <;> try (exfalso; simp only [cmpL] at hc; omega)) | refine AW_ret ?_ | refine AW_skip ?_)) | (first | ((with_reducible refine gS ?_); refine Es_s (T := Tryz.tab) rfl rfl rfl rfl ?_) | ((with_reducible refine gD ?_); refine Ed_s (T := Tryz.tab) rfl rfl rfl rfl ?_)) | ((first | ((with_reducible refine gS ?_); apply Es_xg) | ((with_reducible refine gD ?_); apply Ed_xg)); rfl; rfl; refine LStep_callHN [(1000, 1000), (1001, 1001), (1002, 3), (1003, 4)] [] c rfl rfl ⟨rfl, rfl, rfl, rfl, trivial⟩ rfl ⟨trivial, trivial, trivial, trivial, trivial⟩ rfl rfl; rfl) | (refine Es_skip rfl ?_ rfl ?_; (first | rfl | (refine w_tf ?_; assumption) | (refine w_ft ?_; assumption))) | ((first | ((with_reducible refine gS ?_); apply Es_xs) | ((with_reducible refine gD ?_); apply Ed_xs)); rfl; rfl; refine LStep_boxN rfl rfl rfl rfl rfl rfl; rfl) | (((with_reducible refine gD ?_); apply Ed_xn); rfl; rfl; (refine LStep_storeN (T := Tryz.tab) rfl rfl rfl rfl rfl rfl rfl ?_ rfl; (refine Nat.le_of_ble_eq_true ?_; rfl)); rfl) | (with_reducible refine Es_nil ?_) | ((with_reducible refine Ed_nil ?_ ?_); kernel_rfl) | (with_reducible refine then_n ?_) | ((with_reducible refine gR ?_); first | refine ret1 rfl ?_ | refine ret2 rfl rfl ?_ | refine ret0 ?_ | refine end1 rfl ?_ | refine end0 ?_))
  all_goals (try simp only [cmps] at *)
  all_goals first
    | exact ⟨rfl, by (repeat' (first | exact trivial | exact rfl | (refine ⟨Or.inl rfl, ?_⟩) | (refine ⟨Or.inr rfl, ?_⟩) | (refine ⟨Or.inr trivial, ?_⟩) | (refine ⟨rfl, ?_⟩) | (refine ⟨?_, ?_⟩)))⟩
    | exact ⟨trivial, by (repeat' (first | exact trivial | exact rfl | (refine ⟨Or.inl rfl, ?_⟩) | (refine ⟨Or.inr rfl, ?_⟩) | (refine ⟨Or.inr trivial, ?_⟩) | (refine ⟨rfl, ?_⟩) | (refine ⟨?_, ?_⟩)))⟩
    | trace_state
end
section
variable (s D F : Nat) (M : List (Value × AV)) (due : Nat)
set_option maxRecDepth 20000 in
set_option maxHeartbeats 1000000 in
theorem pb1_ac (hon : due ≤ 1048576) : AC Tryz.prog 117 [.ptr 1006 0, .ptr 1007 0] (fH s D F 2 true ⟨#[98, 97, 110, 107]⟩ due M ⟨#[107]⟩ ⟨#[107]⟩ due (.fn 74 [.ptr 1002 0]) (.fn 75 [.ptr 1002 0, .ptr 1003 0])) [1000, 1001, 1002, 1003, 1005, 1006, 1007, 1008, 1009] (fun r h' => r = .d (.sc (.bool false)) ∧ Kp (fH s D F 2 true ⟨#[98, 97, 110, 107]⟩ due M ⟨#[107]⟩ ⟨#[107]⟩ due (.fn 74 [.ptr 1002 0]) (.fn 75 [.ptr 1002 0, .ptr 1003 0])) h') := by
  have c1 := name_ac ⟨#[107]⟩
  have cd := disDay_ac (due : Int)
  rw [show nameOk ⟨#[107]⟩ = true from by decide] at c1
  rw [dayB_of hon] at cd
  unfold fH biL stM nM
  refine AC_enter Tryz.func117 rfl Tryz.ntmps117 (rv := [.tmp 2]) rfl rfl (by simp) (fun w X G => ?_)
  repeat' (first | ((with_reducible refine gA ?_); (first | refine AW_seq ?_ | refine AW_region ?_ | refine AW_ret ?_)) | ((with_reducible refine gS ?_); refine Es_s (T := Tryz.tab) rfl rfl rfl rfl ?_) | (((with_reducible refine gS ?_); apply Es_q); rfl; rfl; (first | refine LStep_call (c1) rfl rfl rfl rfl | refine LStep_call (cd) rfl rfl rfl rfl)) | (((with_reducible refine gS ?_); apply Es_q); rfl; rfl; refine LStep_simp (T := Tryz.tab) rfl rfl) | (with_reducible refine Es_nil ?_) | (with_reducible refine then_n ?_) | ((with_reducible refine gR ?_); first | refine ret1 rfl ?_ | refine ret2 rfl rfl ?_ | refine ret0 ?_ | refine end1 rfl ?_ | refine end0 ?_))
  all_goals (try simp only [cmps] at *)
  all_goals first
    | exact ⟨rfl, Kp.refl _⟩
    | exact ⟨trivial, Kp.refl _⟩
    | exact ⟨by rw [show eqs { data := #[107] } { data := #[107] } = true from by rw [eqs_t]], Kp.refl _⟩
    | exact ⟨by rw [show eqb 1 0 = false from by rw [eqb_f]; decide]; rfl, Kp.refl _⟩
    | exact ⟨by rw [show eqb 2 0 = false from by rw [eqb_f]; decide]; rfl, Kp.refl _⟩
    | (rename_i hx; exact absurd hx (by decide))
    | (exfalso; omega)
    | exact ⟨rfl, Kp.sub (by (repeat' (first | exact trivial | exact rfl | (refine ⟨Or.inl rfl, ?_⟩) | (refine ⟨Or.inr rfl, ?_⟩) | (refine ⟨Or.inr trivial, ?_⟩) | (refine ⟨rfl, ?_⟩) | (refine ⟨?_, ?_⟩))))⟩
    | trace_state
set_option maxRecDepth 20000 in
set_option maxHeartbeats 1000000 in
theorem pb2_ac (hle : due ≤ due) : AC Tryz.prog 118 [.ptr 1007 0, .ptr 1005 0] (fH s D F 2 true ⟨#[98, 97, 110, 107]⟩ due M ⟨#[107]⟩ ⟨#[107]⟩ due (.fn 74 [.ptr 1002 0]) (.fn 75 [.ptr 1002 0, .ptr 1003 0])) [1000, 1001, 1002, 1003, 1005, 1006, 1007, 1008, 1009] (fun r h' => r = .d (.sc (.bool false)) ∧ Kp (fH s D F 2 true ⟨#[98, 97, 110, 107]⟩ due M ⟨#[107]⟩ ⟨#[107]⟩ due (.fn 74 [.ptr 1002 0]) (.fn 75 [.ptr 1002 0, .ptr 1003 0])) h') := by
  unfold fH biL stM nM
  refine AC_enter Tryz.func118 rfl Tryz.ntmps118 (rv := [.tmp 2]) rfl rfl (by simp) (fun w X G => ?_)
  repeat' (first | ((with_reducible refine gA ?_); (first | refine AW_seq ?_ | refine AW_region ?_ | refine AW_regionD Tryz.mixed ?_ | refine AW_ret ?_)) | (first | ((with_reducible refine gS ?_); refine Es_s (T := Tryz.tab) rfl rfl rfl rfl ?_) | ((with_reducible refine gD ?_); refine Ed_s (T := Tryz.tab) rfl rfl rfl rfl ?_)) | (with_reducible refine Es_nil ?_) | ((with_reducible refine Ed_nil ?_ ?_); kernel_rfl) | (with_reducible refine then_n ?_) | ((with_reducible refine gR ?_); first | refine ret1 rfl ?_ | refine ret2 rfl rfl ?_ | refine ret0 ?_ | refine end1 rfl ?_ | refine end0 ?_))
  all_goals first
    | exact ⟨by rw [show ltb (due : Int) (due : Int) = false from by rw [ltb_f]; omega], Kp.refl _⟩
    | trace_state
set_option maxRecDepth 20000 in
set_option maxHeartbeats 1000000 in
theorem pbs_ac : AC Tryz.prog 74 [.ptr 1002 0] (fH s D F 2 true ⟨#[98, 97, 110, 107]⟩ due M ⟨#[107]⟩ ⟨#[107]⟩ due (.fn 74 [.ptr 1002 0]) (.fn 75 [.ptr 1002 0, .ptr 1003 0])) [1000, 1001, 1002, 1003, 1005, 1006, 1007, 1008, 1009] (fun r h' => r = .d (.sc (.bool false)) ∧ Kp (fH s D F 2 true ⟨#[98, 97, 110, 107]⟩ due M ⟨#[107]⟩ ⟨#[107]⟩ due (.fn 74 [.ptr 1002 0]) (.fn 75 [.ptr 1002 0, .ptr 1003 0])) h') := by
  unfold fH biL stM nM
  refine AC_enter Tryz.func74 rfl Tryz.ntmps74 (rv := [.tmp 1]) rfl rfl (by simp) (fun w X G => ?_)
  repeat' (first | ((with_reducible refine gA ?_); (first | refine AW_seq ?_ | refine AW_region ?_ | (refine AW_cond rfl (fun hc => ?_) (fun hc => ?_) <;> try (exfalso; simp only [cmpL] at hc; omega)) | refine AW_block ?_ | refine AW_ret ?_ | refine AW_skip ?_)) | ((with_reducible refine gS ?_); refine Es_s (T := Tryz.tab) rfl rfl rfl rfl ?_) | (with_reducible refine Es_nil ?_) | (with_reducible refine then_n ?_) | (with_reducible refine block_n ?_) | ((with_reducible refine gR ?_); first | refine ret1 rfl ?_ | refine ret2 rfl rfl ?_ | refine ret0 ?_ | refine end1 rfl ?_ | refine end0 ?_))
  all_goals (try simp only [cmps] at *)
  all_goals first
    | exact ⟨rfl, Kp.refl _⟩
    | exact ⟨trivial, Kp.refl _⟩
    | exact ⟨by rw [show eqs { data := #[107] } { data := #[107] } = true from by rw [eqs_t]], Kp.refl _⟩
    | exact ⟨by rw [show eqb 1 0 = false from by rw [eqb_f]; decide]; rfl, Kp.refl _⟩
    | exact ⟨by rw [show eqb 2 0 = false from by rw [eqb_f]; decide]; rfl, Kp.refl _⟩
    | (rename_i hx; exact absurd hx (by decide))
    | (exfalso; omega)
    | exact ⟨rfl, Kp.sub (by (repeat' (first | exact trivial | exact rfl | (refine ⟨Or.inl rfl, ?_⟩) | (refine ⟨Or.inr rfl, ?_⟩) | (refine ⟨Or.inr trivial, ?_⟩) | (refine ⟨rfl, ?_⟩) | (refine ⟨?_, ?_⟩))))⟩
    | trace_state
set_option maxRecDepth 20000 in
set_option maxHeartbeats 1000000 in
theorem pbh_ac : AC Tryz.prog 75 [.ptr 1002 0, .ptr 1003 0] (fH s D F 2 true ⟨#[98, 97, 110, 107]⟩ due M ⟨#[107]⟩ ⟨#[107]⟩ due (.fn 74 [.ptr 1002 0]) (.fn 75 [.ptr 1002 0, .ptr 1003 0])) [1000, 1001, 1002, 1003, 1005, 1006, 1007, 1008, 1009] (fun r h' => r = .d (.sc (.bool true)) ∧ Kp (fH s D F 2 true ⟨#[98, 97, 110, 107]⟩ due M ⟨#[107]⟩ ⟨#[107]⟩ due (.fn 74 [.ptr 1002 0]) (.fn 75 [.ptr 1002 0, .ptr 1003 0])) h') := by
  unfold fH biL stM nM
  refine AC_enter Tryz.func75 rfl Tryz.ntmps75 (rv := [.tmp 2]) rfl rfl (by simp) (fun w X G => ?_)
  repeat' (first | ((with_reducible refine gA ?_); (first | refine AW_seq ?_ | refine AW_region ?_ | refine AW_regionD Tryz.mixed ?_ | (refine AW_cond rfl (fun hc => ?_) (fun hc => ?_) <;> try (exfalso; simp only [cmpL] at hc; omega)) | refine AW_ret ?_ | refine AW_skip ?_)) | (first | ((with_reducible refine gS ?_); refine Es_s (T := Tryz.tab) rfl rfl rfl rfl ?_) | ((with_reducible refine gD ?_); refine Ed_s (T := Tryz.tab) rfl rfl rfl rfl ?_)) | (with_reducible refine Es_nil ?_) | ((with_reducible refine Ed_nil ?_ ?_); kernel_rfl) | (with_reducible refine then_n ?_) | ((with_reducible refine gR ?_); first | refine ret1 rfl ?_ | refine ret2 rfl rfl ?_ | refine ret0 ?_ | refine end1 rfl ?_ | refine end0 ?_))
  all_goals (try simp only [cmps] at *)
  all_goals first
    | exact ⟨rfl, Kp.refl _⟩
    | exact ⟨trivial, Kp.refl _⟩
    | exact ⟨by rw [show eqs { data := #[107] } { data := #[107] } = true from by rw [eqs_t]], Kp.refl _⟩
    | exact ⟨by rw [show eqb 1 0 = false from by rw [eqb_f]; decide]; rfl, Kp.refl _⟩
    | exact ⟨by rw [show eqb 2 0 = false from by rw [eqb_f]; decide]; rfl, Kp.refl _⟩
    | (rename_i hx; exact absurd hx (by decide))
    | (exfalso; omega)
    | exact ⟨rfl, Kp.sub (by (repeat' (first | exact trivial | exact rfl | (refine ⟨Or.inl rfl, ?_⟩) | (refine ⟨Or.inr rfl, ?_⟩) | (refine ⟨Or.inr trivial, ?_⟩) | (refine ⟨rfl, ?_⟩) | (refine ⟨?_, ?_⟩))))⟩
    | trace_state
set_option maxRecDepth 20000 in
set_option maxHeartbeats 1000000 in
theorem pb3_ac : AC Tryz.prog 119 [.ptr 1008 0] (fH s D F 2 true ⟨#[98, 97, 110, 107]⟩ due M ⟨#[107]⟩ ⟨#[107]⟩ due (.fn 74 [.ptr 1002 0]) (.fn 75 [.ptr 1002 0, .ptr 1003 0])) [1000, 1001, 1002, 1003, 1005, 1006, 1007, 1008, 1009] (fun r h' => r = .d (.sc (.bool true)) ∧ Kp (fH s D F 2 true ⟨#[98, 97, 110, 107]⟩ due M ⟨#[107]⟩ ⟨#[107]⟩ due (.fn 74 [.ptr 1002 0]) (.fn 75 [.ptr 1002 0, .ptr 1003 0])) h') := by
  have c := pbs_ac s D F M due
  unfold fH biL stM nM at *
  refine AC_enter Tryz.func119 rfl Tryz.ntmps119 (rv := [.tmp 1]) rfl rfl (by simp) (fun w X G => ?_)
  repeat' (first | ((with_reducible refine gA ?_); (first | refine AW_seq ?_ | refine AW_region ?_ | refine AW_ret ?_)) | ((with_reducible refine gS ?_); refine Es_s (T := Tryz.tab) rfl rfl rfl rfl ?_) | (((with_reducible refine gS ?_); apply Es_q); rfl; rfl; refine LStep_callB c rfl rfl ⟨rfl, rfl, rfl, rfl, rfl, rfl, rfl, rfl, rfl, trivial⟩ rfl rfl) | (with_reducible refine Es_nil ?_) | (with_reducible refine then_n ?_) | ((with_reducible refine gR ?_); first | refine ret1 rfl ?_ | refine ret2 rfl rfl ?_ | refine ret0 ?_ | refine end1 rfl ?_ | refine end0 ?_))
  all_goals (try simp only [cmps] at *)
  all_goals first
    | exact ⟨rfl, Kp.refl _⟩
    | exact ⟨trivial, Kp.refl _⟩
    | exact ⟨by rw [show eqs { data := #[107] } { data := #[107] } = true from by rw [eqs_t]], Kp.refl _⟩
    | exact ⟨by rw [show eqb 1 0 = false from by rw [eqb_f]; decide]; rfl, Kp.refl _⟩
    | exact ⟨by rw [show eqb 2 0 = false from by rw [eqb_f]; decide]; rfl, Kp.refl _⟩
    | (rename_i hx; exact absurd hx (by decide))
    | (exfalso; omega)
    | exact ⟨rfl, Kp.sub (by (repeat' (first | exact trivial | exact rfl | (refine ⟨Or.inl rfl, ?_⟩) | (refine ⟨Or.inr rfl, ?_⟩) | (refine ⟨Or.inr trivial, ?_⟩) | (refine ⟨rfl, ?_⟩) | (refine ⟨?_, ?_⟩))))⟩
    | trace_state
set_option maxRecDepth 20000 in
set_option maxHeartbeats 1000000 in
theorem pb4_ac : AC Tryz.prog 120 [.ptr 1009 0] (fH s D F 2 true ⟨#[98, 97, 110, 107]⟩ due M ⟨#[107]⟩ ⟨#[107]⟩ due (.fn 74 [.ptr 1002 0]) (.fn 75 [.ptr 1002 0, .ptr 1003 0])) [1000, 1001, 1002, 1003, 1005, 1006, 1007, 1008, 1009] (fun r h' => r = .d (.sc (.bool false)) ∧ Kp (fH s D F 2 true ⟨#[98, 97, 110, 107]⟩ due M ⟨#[107]⟩ ⟨#[107]⟩ due (.fn 74 [.ptr 1002 0]) (.fn 75 [.ptr 1002 0, .ptr 1003 0])) h') := by
  have c := pbh_ac s D F M due
  unfold fH biL stM nM at *
  refine AC_enter Tryz.func120 rfl Tryz.ntmps120 (rv := [.tmp 1]) rfl rfl (by simp) (fun w X G => ?_)
  repeat' (first | ((with_reducible refine gA ?_); (first | refine AW_seq ?_ | refine AW_region ?_ | refine AW_ret ?_)) | ((with_reducible refine gS ?_); refine Es_s (T := Tryz.tab) rfl rfl rfl rfl ?_) | (((with_reducible refine gS ?_); apply Es_q); rfl; rfl; refine LStep_callB c rfl rfl ⟨rfl, rfl, rfl, rfl, rfl, rfl, rfl, rfl, rfl, trivial⟩ rfl rfl) | (with_reducible refine Es_nil ?_) | (with_reducible refine then_n ?_) | ((with_reducible refine gR ?_); first | refine ret1 rfl ?_ | refine ret2 rfl rfl ?_ | refine ret0 ?_ | refine end1 rfl ?_ | refine end0 ?_))
  all_goals (try simp only [cmps] at *)
  all_goals first
    | exact ⟨rfl, Kp.refl _⟩
    | exact ⟨trivial, Kp.refl _⟩
    | exact ⟨by rw [show eqs { data := #[107] } { data := #[107] } = true from by rw [eqs_t]], Kp.refl _⟩
    | exact ⟨by rw [show eqb 1 0 = false from by rw [eqb_f]; decide]; rfl, Kp.refl _⟩
    | exact ⟨by rw [show eqb 2 0 = false from by rw [eqb_f]; decide]; rfl, Kp.refl _⟩
    | (rename_i hx; exact absurd hx (by decide))
    | (exfalso; omega)
    | exact ⟨rfl, Kp.sub (by (repeat' (first | exact trivial | exact rfl | (refine ⟨Or.inl rfl, ?_⟩) | (refine ⟨Or.inr rfl, ?_⟩) | (refine ⟨Or.inr trivial, ?_⟩) | (refine ⟨rfl, ?_⟩) | (refine ⟨?_, ?_⟩))))⟩
    | trace_state
set_option maxRecDepth 20000 in
set_option maxHeartbeats 2000000 in
theorem pbf_ac (hon : due ≤ 1048576) (hle : due ≤ due) : AC Tryz.prog 116 [.sla 2 [[.d (.sc (.int .i64 1)), .fn 117 [.ptr 1006 0, .ptr 1007 0]], [.d (.sc (.int .i64 6)), .fn 118 [.ptr 1007 0, .ptr 1005 0]], [.d (.sc (.int .i64 9)), .fn 119 [.ptr 1008 0]], [.d (.sc (.int .i64 8)), .fn 120 [.ptr 1009 0]]]] (fH s D F 2 true ⟨#[98, 97, 110, 107]⟩ due M ⟨#[107]⟩ ⟨#[107]⟩ due (.fn 74 [.ptr 1002 0]) (.fn 75 [.ptr 1002 0, .ptr 1003 0])) [1000, 1001, 1002, 1003, 1005, 1006, 1007, 1008, 1009] (fun r h' => r = .d (.sc (.int .i64 9)) ∧ Kp (fH s D F 2 true ⟨#[98, 97, 110, 107]⟩ due M ⟨#[107]⟩ ⟨#[107]⟩ due (.fn 74 [.ptr 1002 0]) (.fn 75 [.ptr 1002 0, .ptr 1003 0])) h') := by
  have c1 := pb1_ac s D F M due hon
  have c2 := pb2_ac s D F M due hle
  have c3 := pb3_ac s D F M due
  have c4 := pb4_ac s D F M due
  unfold fH biL stM nM at *
  refine AC_enter Tryz.func116 rfl Tryz.ntmps116 (rv := [.tmp 2]) rfl rfl (by simp) (fun w X G => ?_)
  repeat' (first | ((with_reducible refine gA ?_); (first | refine AW_seq ?_ | refine AW_region ?_ | refine AW_block ?_)) | ((with_reducible refine gS ?_); refine Es_s (T := Tryz.tab) rfl rfl rfl rfl ?_) | (((with_reducible refine gS ?_); apply Es_q); rfl; rfl; refine LStep_wrap (T := Tryz.tab) rfl rfl) | (with_reducible refine Es_nil ?_) | (with_reducible refine then_n ?_))
  refine AW_rounds 5 ?_
  repeat' (first | ((with_reducible refine gRd ?_); refine rounds_stepD [4, 8, 9, 10, 11, 12, 13, 14, 15, 16] [4] ?_) | ((with_reducible refine gA ?_); (first | refine AW_seq ?_ | refine AW_region ?_ | refine AW_condT rfl ?_ | refine AW_condF rfl ?_ | (refine AW_cond rfl (fun hc => ?_) (fun hc => ?_) <;> try (exfalso; simp only [cmpL] at hc; omega)) | refine AW_block ?_ | refine AW_ret ?_ | refine AW_skip ?_)) | ((with_reducible refine gS ?_); refine Es_s (T := Tryz.tab) rfl rfl rfl rfl ?_) | (((with_reducible refine gS ?_); apply Es_q); rfl; rfl; (first | refine LStep_callB c1 rfl rfl ⟨rfl, rfl, rfl, rfl, rfl, rfl, rfl, rfl, rfl, trivial⟩ rfl rfl | refine LStep_callB c2 rfl rfl ⟨rfl, rfl, rfl, rfl, rfl, rfl, rfl, rfl, rfl, trivial⟩ rfl rfl | refine LStep_callB c3 rfl rfl ⟨rfl, rfl, rfl, rfl, rfl, rfl, rfl, rfl, rfl, trivial⟩ rfl rfl)) | (((with_reducible refine gS ?_); apply Es_q); rfl; rfl; (first | (refine LStep_add rfl rfl rfl rfl ?_; (refine IntWalk.i64_in _ ?_; first | omega | (simp only [cmps] at *; omega))) | (refine LStep_indexA (T := Tryz.tab) (c := ?_) rfl rfl rfl rfl rfl rfl ?_ ?_; rotate_left; omega; (first | assumption | rfl)))) | (refine Es_skip rfl ?_ rfl ?_; (first | rfl | (refine w_tf ?_; assumption) | (refine w_ft ?_; assumption))) | (((with_reducible refine gS ?_); apply Es_xs); rfl; rfl; refine LStep_allocN (T := Tryz.tab) rfl rfl rfl rfl rfl rfl; rfl) | (((with_reducible refine gS ?_); apply Es_xn); rfl; rfl; (refine LStep_storeN (T := Tryz.tab) rfl rfl rfl rfl rfl rfl rfl ?_ rfl; (refine Nat.le_of_ble_eq_true ?_; rfl)); rfl) | (with_reducible refine Es_nil ?_) | (with_reducible refine then_n ?_) | (with_reducible refine then_r ?_) | (with_reducible refine block_n ?_) | (with_reducible refine block_r ?_) | ((with_reducible refine gR ?_); first | refine ret1 rfl ?_ | refine ret2 rfl rfl ?_ | refine ret0 ?_ | refine end1 rfl ?_ | refine end0 ?_))
  all_goals first
    | exact ⟨rfl, Kp.sub ⟨rfl, rfl, rfl, rfl, rfl, rfl, rfl, rfl, rfl, trivial⟩⟩
    | trace_state
end
section
variable (s D F : Nat) (M : List (Value × AV)) (due : Nat)
set_option maxRecDepth 20000 in
set_option maxHeartbeats 4000000 in
theorem pbp_ac (hon : due ≤ 1048576) (hle : due ≤ due)  : AC Tryz.prog 66 [.ptr 1000 0, stM ⟨#[107]⟩, nM due, (.fn 74 [.ptr 1002 0]), (.fn 75 [.ptr 1002 0, .ptr 1003 0])] (gH s D F 2 true ⟨#[98, 97, 110, 107]⟩ due M ⟨#[107]⟩) [1000, 1001, 1002, 1003] (fun r h' => r = .d (.sc (.int .i64 9)) ∧ SubH (gH s D F 2 true ⟨#[98, 97, 110, 107]⟩ due M ⟨#[107]⟩) h') := by
  have c := (pbf_ac s D F M due hon hle).kp rfl
  unfold fH biL stM nM at c
  unfold gH biL stM nM
  refine AC_enter Tryz.func66 rfl Tryz.ntmps66 (rv := [.tmp 10]) rfl rfl (by simp) (fun w X G => ?_)
  repeat' (first | ((with_reducible refine gA ?_); (first | refine AW_seq ?_ | refine AW_region ?_ | refine AW_ret ?_)) | ((with_reducible refine gS ?_); refine Es_s (T := Tryz.tab) rfl rfl rfl rfl ?_) | (((with_reducible refine gS ?_); apply Es_xg); rfl; rfl; refine LStep_callHN [(1000, 1000), (1001, 1001), (1002, 1002), (1003, 1003), (1005, 5), (1006, 6), (1007, 7), (1008, 8), (1009, 9)] [] c rfl rfl ⟨rfl, rfl, rfl, rfl, rfl, rfl, rfl, rfl, rfl, trivial⟩ rfl ⟨trivial, trivial, trivial, trivial, trivial, trivial, trivial, trivial, trivial, trivial⟩ rfl rfl; rfl) | (((with_reducible refine gS ?_); apply Es_q); rfl; rfl; (first | (refine LStep_litA (T := Tryz.tab) rfl rfl rfl rfl rfl rfl rfl ?_; (refine Nat.le_of_ble_eq_true ?_; rfl)) | refine LStep_buildN (T := Tryz.tab) rfl rfl rfl rfl rfl rfl rfl)) | (refine Es_skip rfl ?_ rfl ?_; (first | rfl | (refine w_tf ?_; assumption) | (refine w_ft ?_; assumption))) | (((with_reducible refine gS ?_); apply Es_xs); rfl; rfl; refine LStep_boxN rfl rfl rfl rfl rfl rfl; rfl) | (with_reducible refine Es_nil ?_) | (with_reducible refine then_n ?_) | ((with_reducible refine gR ?_); first | refine ret1 rfl ?_ | refine ret2 rfl rfl ?_ | refine ret0 ?_ | refine end1 rfl ?_ | refine end0 ?_))
  all_goals first
    | exact ⟨rfl, by (repeat' (first | exact trivial | exact rfl | (refine ⟨Or.inl rfl, ?_⟩) | (refine ⟨Or.inr rfl, ?_⟩) | (refine ⟨Or.inr trivial, ?_⟩) | (refine ⟨rfl, ?_⟩) | (refine ⟨?_, ?_⟩)))⟩
    | trace_state
set_option maxRecDepth 20000 in
set_option maxHeartbeats 4000000 in
theorem pb_ac (hon : due ≤ 1048576) (hle : due ≤ due)  : AC Tryz.prog 28 [.ptr 1000 0, stM ⟨#[107]⟩, nM due] (bH s D F 2 true ⟨#[98, 97, 110, 107]⟩ due M) [1000, 1001] (fun r h' => r = .d (.sc (.int .i64 9)) ∧ SubH (bH s D F 2 true ⟨#[98, 97, 110, 107]⟩ due M) h') := by
  have c := pbp_ac s D F M due hon hle
  unfold gH biL stM nM at c
  unfold bH biL stM nM
  refine AC_enter Tryz.func28 rfl Tryz.ntmps28 (rv := [.tmp 6]) rfl rfl (by simp) (fun w X G => ?_)
  repeat' (first | ((with_reducible refine gA ?_); (first | refine AW_seq ?_ | refine AW_region ?_ | (refine AW_cond rfl (fun hc => ?_) (fun hc => ?_) <;> try (exfalso; simp only [cmpL] at hc; omega)) | refine AW_ret ?_)) | ((with_reducible refine gS ?_); refine Es_s (T := Tryz.tab) rfl rfl rfl rfl ?_) | (((with_reducible refine gS ?_); apply Es_xg); rfl; rfl; refine LStep_callHN [(1000, 1000), (1001, 1001), (1002, 3), (1003, 4)] [] c rfl rfl ⟨rfl, rfl, rfl, rfl, trivial⟩ rfl ⟨trivial, trivial, trivial, trivial, trivial⟩ rfl rfl; rfl) | (refine Es_skip rfl ?_ rfl ?_; (first | rfl | (refine w_tf ?_; assumption) | (refine w_ft ?_; assumption))) | (((with_reducible refine gS ?_); apply Es_xs); rfl; rfl; refine LStep_boxN rfl rfl rfl rfl rfl rfl; rfl) | (with_reducible refine Es_nil ?_) | (with_reducible refine then_n ?_) | (with_reducible refine then_r ?_) | ((with_reducible refine gR ?_); first | refine ret1 rfl ?_ | refine ret2 rfl rfl ?_ | refine ret0 ?_ | refine end1 rfl ?_ | refine end0 ?_))
  all_goals (try simp only [cmps] at *)
  all_goals first
    | exact ⟨rfl, by (repeat' (first | exact trivial | exact rfl | (refine ⟨Or.inl rfl, ?_⟩) | (refine ⟨Or.inr rfl, ?_⟩) | (refine ⟨Or.inr trivial, ?_⟩) | (refine ⟨rfl, ?_⟩) | (refine ⟨?_, ?_⟩)))⟩
    | exact ⟨trivial, by (repeat' (first | exact trivial | exact rfl | (refine ⟨Or.inl rfl, ?_⟩) | (refine ⟨Or.inr rfl, ?_⟩) | (refine ⟨Or.inr trivial, ?_⟩) | (refine ⟨rfl, ?_⟩) | (refine ⟨?_, ?_⟩)))⟩
    | trace_state
end
end Go.Proofs.YtofdnkgieigncaaGreat
