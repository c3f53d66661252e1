import Derived.Test.YtldfncafkdmoiaaGreatFC
import Derived.Test.YtldfncafkdmoiaaGreatH1
import Derived.Test.YtldfncafkdmoiaaGreatTl
import Derived.Test.YtldfncafkdmoiaaGreatTa
namespace Go.Proofs.YtldfncafkdmoiaaGreat
open Go.SL
/-! ### cmp -/
set_option maxRecDepth 10000 in
theorem isNaNI_ac (a : Int) : AC Tryz.prog 65 [.d (.sc (.int .i64 a))] [] [] (fun r _ => r = .d (.sc (.bool false))) := by
  refine AC_enter Tryz.func65 rfl Tryz.ntmps65 (rv := [.tmp 2]) rfl rfl (by simp) (fun w X G => ?_)
  have h : (!eqb a a) = false := by rw [not_f]; exact eqb_t.2 rfl
  repeat' (first | ((with_reducible refine gA ?_); (first | refine AW_seq ?_ | refine AW_region ?_ | refine AW_ret ?_)) | ((with_reducible refine gS ?_); refine Es_s (T := Tryz.tab) rfl rfl rfl rfl ?_) | (with_reducible refine Es_nil ?_) | (with_reducible refine then_n ?_) | ((with_reducible refine gR ?_); first | refine ret1 rfl ?_ | refine ret2 rfl rfl ?_ | refine ret0 ?_ | refine end1 rfl ?_ | refine end0 ?_))
  rw [h]
set_option maxRecDepth 10000 in
theorem cmpI_ac (a b : Int) : AC Tryz.prog 42 [.d (.sc (.int .i64 a)), .d (.sc (.int .i64 b))] [] [] (fun r _ => r = .d (.sc (.int .i64 (cI a b)))) := by
  refine AC_enter Tryz.func42 rfl Tryz.ntmps42 (rv := [.tmp 4]) rfl rfl (by simp) (fun w X G => ?_)
  repeat' (first | ((with_reducible refine gA ?_); (first | refine AW_seq ?_ | refine AW_region ?_ | refine AW_condF rfl ?_ | (refine AW_cond rfl (fun hc => ?_) (fun hc => ?_) <;> try (exfalso; simp only [cmpL] at hc; omega)) | refine AW_ret ?_ | refine AW_skip ?_)) | ((with_reducible refine gS ?_); refine Es_s (T := Tryz.tab) rfl rfl rfl rfl ?_) | (((with_reducible refine gS ?_); apply Es_q); rfl; rfl; refine LStep_call (isNaNI_ac _) rfl rfl rfl rfl) | (with_reducible refine Es_nil ?_) | (with_reducible refine then_n ?_) | (with_reducible refine then_r ?_) | ((with_reducible refine gR ?_); first | refine ret1 rfl ?_ | refine ret2 rfl rfl ?_ | refine ret0 ?_ | refine end1 rfl ?_ | refine end0 ?_))
  all_goals simp only [cmps] at *
  all_goals first
    | (unfold cI; rw [if_pos (by omega)]; done)
    | (unfold cI; rw [if_neg (by omega), if_pos (by omega)]; done)
    | (unfold cI; rw [if_neg (by omega), if_neg (by omega)]; done)
    | trace_state
set_option maxRecDepth 10000 in
theorem isNaNJ_ac (a : Int) : AC Tryz.prog 67 [.d (.sc (.int .i64 a))] [] [] (fun r _ => r = .d (.sc (.bool false))) := by
  refine AC_enter Tryz.func67 rfl Tryz.ntmps67 (rv := [.tmp 2]) rfl rfl (by simp) (fun w X G => ?_)
  have h : (!eqb a a) = false := by rw [not_f]; exact eqb_t.2 rfl
  repeat' (first | ((with_reducible refine gA ?_); (first | refine AW_seq ?_ | refine AW_region ?_ | refine AW_ret ?_)) | ((with_reducible refine gS ?_); refine Es_s (T := Tryz.tab) rfl rfl rfl rfl ?_) | (with_reducible refine Es_nil ?_) | (with_reducible refine then_n ?_) | ((with_reducible refine gR ?_); first | refine ret1 rfl ?_ | refine ret2 rfl rfl ?_ | refine ret0 ?_ | refine end1 rfl ?_ | refine end0 ?_))
  rw [h]
set_option maxRecDepth 10000 in
theorem cmpJ_ac (a b : Int) : AC Tryz.prog 47 [.d (.sc (.int .i64 a)), .d (.sc (.int .i64 b))] [] [] (fun r _ => r = .d (.sc (.int .i64 (cI a b)))) := by
  refine AC_enter Tryz.func47 rfl Tryz.ntmps47 (rv := [.tmp 4]) rfl rfl (by simp) (fun w X G => ?_)
  repeat' (first | ((with_reducible refine gA ?_); (first | refine AW_seq ?_ | refine AW_region ?_ | refine AW_condF rfl ?_ | (refine AW_cond rfl (fun hc => ?_) (fun hc => ?_) <;> try (exfalso; simp only [cmpL] at hc; omega)) | refine AW_ret ?_ | refine AW_skip ?_)) | ((with_reducible refine gS ?_); refine Es_s (T := Tryz.tab) rfl rfl rfl rfl ?_) | (((with_reducible refine gS ?_); apply Es_q); rfl; rfl; refine LStep_call (isNaNJ_ac _) rfl rfl rfl rfl) | (with_reducible refine Es_nil ?_) | (with_reducible refine then_n ?_) | (with_reducible refine then_r ?_) | ((with_reducible refine gR ?_); first | refine ret1 rfl ?_ | refine ret2 rfl rfl ?_ | refine ret0 ?_ | refine end1 rfl ?_ | refine end0 ?_))
  all_goals simp only [cmps] at *
  all_goals first
    | (unfold cI; rw [if_pos (by omega)]; done)
    | (unfold cI; rw [if_neg (by omega), if_pos (by omega)]; done)
    | (unfold cI; rw [if_neg (by omega), if_neg (by omega)]; done)
    | trace_state
theorem isNaNS_ac (a : ByteArray) : AC Tryz.prog 66 [.d (.sc (.string a))] [] [] (fun r _ => r = .d (.sc (.bool false))) := by
  refine AC_enter Tryz.func66 rfl Tryz.ntmps66 (rv := [.tmp 2]) rfl rfl (by simp) (fun w X G => ?_)
  repeat' (first | ((with_reducible refine gA ?_); (first | refine AW_seq ?_ | refine AW_region ?_ | refine AW_ret ?_)) | (((with_reducible refine gS ?_); apply Es_q); rfl; rfl; refine LStep_neqSF rfl rfl rfl rfl rfl) | ((with_reducible refine gS ?_); refine Es_s (T := Tryz.tab) rfl rfl rfl rfl ?_) | (with_reducible refine Es_nil ?_) | (with_reducible refine then_n ?_) | ((with_reducible refine gR ?_); first | refine ret1 rfl ?_ | refine ret2 rfl rfl ?_ | refine ret0 ?_ | refine end1 rfl ?_ | refine end0 ?_))
  rfl
set_option maxRecDepth 10000 in
theorem cmpS_ac (a b : ByteArray) : AC Tryz.prog 45 [.d (.sc (.string a)), .d (.sc (.string b))] [] [] (fun r _ => r = .d (.sc (.int .i64 (cS a b)))) := by
  refine AC_enter Tryz.func45 rfl Tryz.ntmps45 (rv := [.tmp 4]) rfl rfl (by simp) (fun w X G => ?_)
  repeat' (first | ((with_reducible refine gA ?_); (first | refine AW_seq ?_ | refine AW_region ?_ | refine AW_condF rfl ?_ | (refine AW_cond rfl (fun hc => ?_) (fun hc => ?_) <;> try (exfalso; simp only [cmpL] at hc; omega)) | refine AW_ret ?_ | refine AW_skip ?_)) | ((with_reducible refine gS ?_); refine Es_s (T := Tryz.tab) rfl rfl rfl rfl ?_) | (((with_reducible refine gS ?_); apply Es_q); rfl; rfl; (first | refine LStep_call (isNaNS_ac _) rfl rfl rfl rfl | refine LStep_gtrS rfl rfl rfl rfl)) | (with_reducible refine Es_nil ?_) | (with_reducible refine then_n ?_) | (with_reducible refine then_r ?_) | ((with_reducible refine gR ?_); first | refine ret1 rfl ?_ | refine ret2 rfl rfl ?_ | refine ret0 ?_ | refine end1 rfl ?_ | refine end0 ?_))
  · have h : lts a b = true := by assumption
    rw [cS, if_pos h]
  · have h : lts a b = false := by assumption
    have h2 : lts b a = true := by assumption
    rw [cS, if_neg (by rw [h]; simp), if_pos h2]
  · have h : lts a b = false := by assumption
    have h2 : lts b a = false := by assumption
    rw [cS, if_neg (by rw [h]; simp), if_neg (by rw [h2]; simp)]
/-! ### judge -/
theorem KpNil {f : FuncId} {args : List AV} {v : AV} (h : AC Tryz.prog f args [] [] (fun r _ => r = v)) : AC Tryz.prog f args [] [] (fun r h' => r = v ∧ Kp [] h') := h.mono (fun _ _ h => ⟨h, fun id o hg => by cases hg⟩)
set_option maxRecDepth 10000 in
theorem jd1_ac (a b : Cl) : AC Tryz.prog 41 [.agg a.cs, .agg b.cs] [] [] (fun r _ => r = .d (.sc (.int .i64 (cI a.rt b.rt)))) := by
  have c := cmpI_ac a.rt b.rt
  refine AC_enter Tryz.func41 rfl Tryz.ntmps41 (rv := [.tmp 4]) rfl rfl (by simp) (fun w X G => ?_)
  repeat' (first | ((with_reducible refine gA ?_); (first | refine AW_seq ?_ | refine AW_region ?_ | refine AW_ret ?_)) | ((with_reducible refine gS ?_); refine Es_s (T := Tryz.tab) rfl rfl rfl rfl ?_) | (((with_reducible refine gS ?_); apply Es_q); rfl; rfl; refine LStep_call (c) rfl rfl rfl rfl) | (refine Es_skip rfl ?_ rfl ?_; (first | rfl | (refine w_tf ?_; assumption) | (refine w_ft ?_; assumption))) | (((with_reducible refine gS ?_); apply Es_xs); rfl; rfl; refine LStep_boxN rfl rfl rfl rfl rfl rfl; rfl) | (with_reducible refine Es_nil ?_) | (with_reducible refine then_n ?_) | ((with_reducible refine gR ?_); first | refine ret1 rfl ?_ | refine ret2 rfl rfl ?_ | refine ret0 ?_ | refine end1 rfl ?_ | refine end0 ?_))
  rfl
set_option maxRecDepth 10000 in
theorem jd2_ac (a b : Cl) : AC Tryz.prog 43 [.agg a.cs, .agg b.cs] [] [] (fun r _ => r = .d (.sc (.int .i64 (cI a.dy b.dy)))) := by
  have c := cmpI_ac a.dy b.dy
  refine AC_enter Tryz.func43 rfl Tryz.ntmps43 (rv := [.tmp 4]) rfl rfl (by simp) (fun w X G => ?_)
  repeat' (first | ((with_reducible refine gA ?_); (first | refine AW_seq ?_ | refine AW_region ?_ | refine AW_ret ?_)) | ((with_reducible refine gS ?_); refine Es_s (T := Tryz.tab) rfl rfl rfl rfl ?_) | (((with_reducible refine gS ?_); apply Es_q); rfl; rfl; refine LStep_call (c) rfl rfl rfl rfl) | (refine Es_skip rfl ?_ rfl ?_; (first | rfl | (refine w_tf ?_; assumption) | (refine w_ft ?_; assumption))) | (((with_reducible refine gS ?_); apply Es_xs); rfl; rfl; refine LStep_boxN rfl rfl rfl rfl rfl rfl; rfl) | (with_reducible refine Es_nil ?_) | (with_reducible refine then_n ?_) | ((with_reducible refine gR ?_); first | refine ret1 rfl ?_ | refine ret2 rfl rfl ?_ | refine ret0 ?_ | refine end1 rfl ?_ | refine end0 ?_))
  rfl
set_option maxRecDepth 10000 in
theorem jd3_ac (a b : Cl) : AC Tryz.prog 44 [.agg a.cs, .agg b.cs] [] [] (fun r _ => r = .d (.sc (.int .i64 (cS a.nm b.nm)))) := by
  have c := cmpS_ac a.nm b.nm
  refine AC_enter Tryz.func44 rfl Tryz.ntmps44 (rv := [.tmp 4]) rfl rfl (by simp) (fun w X G => ?_)
  repeat' (first | ((with_reducible refine gA ?_); (first | refine AW_seq ?_ | refine AW_region ?_ | refine AW_ret ?_)) | ((with_reducible refine gS ?_); refine Es_s (T := Tryz.tab) rfl rfl rfl rfl ?_) | (((with_reducible refine gS ?_); apply Es_q); rfl; rfl; refine LStep_call (c) rfl rfl rfl rfl) | (refine Es_skip rfl ?_ rfl ?_; (first | rfl | (refine w_tf ?_; assumption) | (refine w_ft ?_; assumption))) | (((with_reducible refine gS ?_); apply Es_xs); rfl; rfl; refine LStep_boxN rfl rfl rfl rfl rfl rfl; rfl) | (with_reducible refine Es_nil ?_) | (with_reducible refine then_n ?_) | ((with_reducible refine gR ?_); first | refine ret1 rfl ?_ | refine ret2 rfl rfl ?_ | refine ret0 ?_ | refine end1 rfl ?_ | refine end0 ?_))
  rfl
set_option maxRecDepth 10000 in
theorem jd4_ac (a b : Cl) : AC Tryz.prog 46 [.agg a.cs, .agg b.cs] [] [] (fun r _ => r = .d (.sc (.int .i64 (cI b.am a.am)))) := by
  have c := cmpJ_ac b.am a.am
  refine AC_enter Tryz.func46 rfl Tryz.ntmps46 (rv := [.tmp 4]) rfl rfl (by simp) (fun w X G => ?_)
  repeat' (first | ((with_reducible refine gA ?_); (first | refine AW_seq ?_ | refine AW_region ?_ | refine AW_ret ?_)) | ((with_reducible refine gS ?_); refine Es_s (T := Tryz.tab) rfl rfl rfl rfl ?_) | (((with_reducible refine gS ?_); apply Es_q); rfl; rfl; refine LStep_call (c) rfl rfl rfl rfl) | (refine Es_skip rfl ?_ rfl ?_; (first | rfl | (refine w_tf ?_; assumption) | (refine w_ft ?_; assumption))) | (((with_reducible refine gS ?_); apply Es_xs); rfl; rfl; refine LStep_boxN rfl rfl rfl rfl rfl rfl; rfl) | (with_reducible refine Es_nil ?_) | (with_reducible refine then_n ?_) | ((with_reducible refine gR ?_); first | refine ret1 rfl ?_ | refine ret2 rfl rfl ?_ | refine ret0 ?_ | refine end1 rfl ?_ | refine end0 ?_))
  rfl
set_option maxRecDepth 10000 in
theorem jd5_ac (a b : Cl) : AC Tryz.prog 48 [.agg a.cs, .agg b.cs] [] [] (fun r _ => r = .d (.sc (.int .i64 (cS a.th b.th)))) := by
  have c := cmpS_ac a.th b.th
  refine AC_enter Tryz.func48 rfl Tryz.ntmps48 (rv := [.tmp 4]) rfl rfl (by simp) (fun w X G => ?_)
  repeat' (first | ((with_reducible refine gA ?_); (first | refine AW_seq ?_ | refine AW_region ?_ | refine AW_ret ?_)) | ((with_reducible refine gS ?_); refine Es_s (T := Tryz.tab) rfl rfl rfl rfl ?_) | (((with_reducible refine gS ?_); apply Es_q); rfl; rfl; refine LStep_call (c) rfl rfl rfl rfl) | (refine Es_skip rfl ?_ rfl ?_; (first | rfl | (refine w_tf ?_; assumption) | (refine w_ft ?_; assumption))) | (((with_reducible refine gS ?_); apply Es_xs); rfl; rfl; refine LStep_boxN rfl rfl rfl rfl rfl rfl; rfl) | (with_reducible refine Es_nil ?_) | (with_reducible refine then_n ?_) | ((with_reducible refine gR ?_); first | refine ret1 rfl ?_ | refine ret2 rfl rfl ?_ | refine ret0 ?_ | refine end1 rfl ?_ | refine end0 ?_))
  rfl
def whyS (a b : Cl) : ByteArray := if cI a.rt b.rt ≠ 0 then ⟨#[114, 105, 103, 104, 116]⟩ else if cI a.dy b.dy ≠ 0 then ⟨#[100, 97, 121]⟩ else if cS a.nm b.nm ≠ 0 then ⟨#[110, 97, 109, 101]⟩ else if cI b.am a.am ≠ 0 then ⟨#[97, 109, 111, 117, 110, 116]⟩ else if cS a.th b.th ≠ 0 then ⟨#[116, 104, 105, 110, 103]⟩ else ⟨#[115, 97, 109, 101]⟩
set_option maxRecDepth 10000 in
set_option maxHeartbeats 8000000 in
theorem judge_ac (a b : Cl) : AC Tryz.prog 23 [.agg a.cs, .agg b.cs] [] [] (fun r _ => r = .tup [.d (.sc (.string (whyS a b))), .d (.sc (.int .i64 (jdg a b)))]) := by
  have c1 := KpNil (jd1_ac a b)
  have c2 := KpNil (jd2_ac a b)
  have c3 := KpNil (jd3_ac a b)
  have c4 := KpNil (jd4_ac a b)
  have c5 := KpNil (jd5_ac a b)
  unfold whyS jdg
  generalize cI a.rt b.rt = k1 at *
  generalize cI a.dy b.dy = k2 at *
  generalize cS a.nm b.nm = k3 at *
  generalize cI b.am a.am = k4 at *
  generalize cS a.th b.th = k5 at *
  have gT : ∀ {k : Int}, k ≠ 0 → (!(eqb k 0)) = true := fun h => by rw [eqb_f.2 h]; rfl
  have gF : ∀ {k : Int}, k = 0 → (!(eqb k 0)) = false := fun h => by rw [eqb_t.2 h]; rfl
  by_cases h1 : k1 = 0
  · have g1 := gF h1
    rw [if_neg (show ¬ k1 ≠ 0 by simp [h1]), if_neg (show ¬ k1 ≠ 0 by simp [h1])]
    by_cases h2 : k2 = 0
    · have g2 := gF h2
      rw [if_neg (show ¬ k2 ≠ 0 by simp [h2]), if_neg (show ¬ k2 ≠ 0 by simp [h2])]
      by_cases h3 : k3 = 0
      · have g3 := gF h3
        rw [if_neg (show ¬ k3 ≠ 0 by simp [h3]), if_neg (show ¬ k3 ≠ 0 by simp [h3])]
        by_cases h4 : k4 = 0
        · have g4 := gF h4
          rw [if_neg (show ¬ k4 ≠ 0 by simp [h4]), if_neg (show ¬ k4 ≠ 0 by simp [h4])]
          by_cases h5 : k5 = 0
          · have g5 := gF h5
            rw [if_neg (show ¬ k5 ≠ 0 by simp [h5]), h5]
            refine AC_enter Tryz.func23 rfl Tryz.ntmps23 (rv := [.tmp 4, .tmp 5]) rfl rfl (by simp) (fun w X G => ?_)
            repeat' (first | ((with_reducible refine gA ?_); (first | refine AW_seq ?_ | refine AW_region ?_ | refine AW_block ?_)) | ((with_reducible refine gS ?_); refine Es_s (T := Tryz.tab) rfl rfl rfl rfl ?_) | (((with_reducible refine gS ?_); apply Es_q); rfl; rfl; (first | refine LStep_wrap (T := Tryz.tab) rfl rfl | (refine LStep_litA (T := Tryz.tab) rfl rfl rfl rfl rfl rfl rfl ?_; (refine Nat.le_of_ble_eq_true ?_; rfl)) | refine LStep_buildN (T := Tryz.tab) rfl rfl rfl rfl rfl rfl rfl)) | (refine Es_skip rfl ?_ rfl ?_; (first | rfl | (refine w_tf ?_; assumption) | (refine w_ft ?_; assumption))) | (((with_reducible refine gS ?_); apply Es_xs); rfl; rfl; refine LStep_boxN rfl rfl rfl rfl rfl rfl; rfl) | (with_reducible refine Es_nil ?_) | (with_reducible refine then_n ?_))
            refine AW_rounds 6 ?_
            repeat' (first | ((with_reducible refine gRd ?_); refine rounds_stepD [7, 17, 18, 19, 20, 21, 22, 23, 24, 8, 25, 26, 27, 28, 29, 30] [7] ?_) | ((with_reducible refine gA ?_); (first | refine AW_seq ?_ | refine AW_region ?_ | (refine AW_condN rfl ?_ ?_; assumption) | (refine AW_cond rfl (fun hc => ?_) (fun hc => ?_) <;> try (exfalso; simp only [cmpL] at hc; omega)) | refine AW_block ?_ | refine AW_ret ?_ | refine AW_skip ?_ | refine AW_exit ?_)) | ((with_reducible refine gS ?_); refine Es_s (T := Tryz.tab) rfl rfl rfl rfl ?_) | (((with_reducible refine gS ?_); apply Es_q); rfl; rfl; (first | refine LStep_callB c1 rfl rfl trivial rfl rfl | refine LStep_callB c2 rfl rfl trivial rfl rfl | refine LStep_callB c3 rfl rfl trivial rfl rfl | refine LStep_callB c4 rfl rfl trivial rfl rfl | refine LStep_callB c5 rfl rfl trivial rfl rfl)) | (((with_reducible refine gS ?_); apply Es_q); rfl; rfl; (first | (refine LStep_add rfl rfl rfl rfl ?_; (refine IntWalk.i64_in _ ?_; first | omega | (simp only [cmps] at *; omega))) | (refine LStep_indexA (T := Tryz.tab) (c := ?_) rfl rfl rfl rfl rfl rfl ?_ ?_; rotate_left; omega; (first | assumption | rfl)))) | (refine Es_skip rfl ?_ rfl ?_; (first | rfl | (refine w_tf ?_; assumption) | (refine w_ft ?_; assumption))) | (((with_reducible refine gS ?_); apply Es_xs); rfl; rfl; refine LStep_allocN (T := Tryz.tab) rfl rfl rfl rfl rfl rfl; rfl) | (((with_reducible refine gS ?_); apply Es_xn); rfl; rfl; (refine LStep_storeN (T := Tryz.tab) rfl rfl rfl rfl rfl rfl rfl ?_ rfl; (refine Nat.le_of_ble_eq_true ?_; rfl)); rfl) | (with_reducible refine Es_nil ?_) | (with_reducible refine then_n ?_) | (with_reducible refine then_e ?_) | (with_reducible refine block_n ?_) | ((with_reducible refine block_e ?_ ?_); rfl) | ((with_reducible refine gR ?_); first | refine ret1 rfl ?_ | refine ret2 rfl rfl ?_ | refine ret0 ?_ | refine end1 rfl ?_ | refine end0 ?_))
            all_goals first
              | rfl
              | trace_state
          · have g5 := gT h5
            rw [if_pos h5]
            refine AC_enter Tryz.func23 rfl Tryz.ntmps23 (rv := [.tmp 4, .tmp 5]) rfl rfl (by simp) (fun w X G => ?_)
            repeat' (first | ((with_reducible refine gA ?_); (first | refine AW_seq ?_ | refine AW_region ?_ | refine AW_block ?_)) | ((with_reducible refine gS ?_); refine Es_s (T := Tryz.tab) rfl rfl rfl rfl ?_) | (((with_reducible refine gS ?_); apply Es_q); rfl; rfl; (first | refine LStep_wrap (T := Tryz.tab) rfl rfl | (refine LStep_litA (T := Tryz.tab) rfl rfl rfl rfl rfl rfl rfl ?_; (refine Nat.le_of_ble_eq_true ?_; rfl)) | refine LStep_buildN (T := Tryz.tab) rfl rfl rfl rfl rfl rfl rfl)) | (refine Es_skip rfl ?_ rfl ?_; (first | rfl | (refine w_tf ?_; assumption) | (refine w_ft ?_; assumption))) | (((with_reducible refine gS ?_); apply Es_xs); rfl; rfl; refine LStep_boxN rfl rfl rfl rfl rfl rfl; rfl) | (with_reducible refine Es_nil ?_) | (with_reducible refine then_n ?_))
            refine AW_rounds 6 ?_
            repeat' (first | ((with_reducible refine gRd ?_); refine rounds_stepD [7, 17, 18, 19, 20, 21, 22, 23, 24, 8, 25, 26, 27, 28, 29, 30] [7] ?_) | ((with_reducible refine gA ?_); (first | refine AW_seq ?_ | refine AW_region ?_ | (refine AW_condY rfl ?_ ?_; assumption) | (refine AW_condN rfl ?_ ?_; assumption) | (refine AW_cond rfl (fun hc => ?_) (fun hc => ?_) <;> try (exfalso; simp only [cmpL] at hc; omega)) | refine AW_block ?_ | refine AW_ret ?_ | refine AW_skip ?_)) | ((with_reducible refine gS ?_); refine Es_s (T := Tryz.tab) rfl rfl rfl rfl ?_) | (((with_reducible refine gS ?_); apply Es_q); rfl; rfl; (first | refine LStep_callB c1 rfl rfl trivial rfl rfl | refine LStep_callB c2 rfl rfl trivial rfl rfl | refine LStep_callB c3 rfl rfl trivial rfl rfl | refine LStep_callB c4 rfl rfl trivial rfl rfl | refine LStep_callB c5 rfl rfl trivial rfl rfl)) | (((with_reducible refine gS ?_); apply Es_q); rfl; rfl; (first | (refine LStep_add rfl rfl rfl rfl ?_; (refine IntWalk.i64_in _ ?_; first | omega | (simp only [cmps] at *; omega))) | (refine LStep_indexA (T := Tryz.tab) (c := ?_) rfl rfl rfl rfl rfl rfl ?_ ?_; rotate_left; omega; (first | assumption | rfl)))) | (refine Es_skip rfl ?_ rfl ?_; (first | rfl | (refine w_tf ?_; assumption) | (refine w_ft ?_; assumption))) | (((with_reducible refine gS ?_); apply Es_xs); rfl; rfl; refine LStep_allocN (T := Tryz.tab) rfl rfl rfl rfl rfl rfl; rfl) | (((with_reducible refine gS ?_); apply Es_xn); rfl; rfl; (refine LStep_storeN (T := Tryz.tab) rfl rfl rfl rfl rfl rfl rfl ?_ rfl; (refine Nat.le_of_ble_eq_true ?_; rfl)); rfl) | (with_reducible refine Es_nil ?_) | (with_reducible refine then_n ?_) | (with_reducible refine then_r ?_) | (with_reducible refine block_n ?_) | (with_reducible refine block_r ?_) | ((with_reducible refine gR ?_); first | refine ret1 rfl ?_ | refine ret2 rfl rfl ?_ | refine ret0 ?_ | refine end1 rfl ?_ | refine end0 ?_))
            all_goals first
              | rfl
              | trace_state
        · have g4 := gT h4
          rw [if_pos h4, if_pos h4]
          refine AC_enter Tryz.func23 rfl Tryz.ntmps23 (rv := [.tmp 4, .tmp 5]) rfl rfl (by simp) (fun w X G => ?_)
          repeat' (first | ((with_reducible refine gA ?_); (first | refine AW_seq ?_ | refine AW_region ?_ | refine AW_block ?_)) | ((with_reducible refine gS ?_); refine Es_s (T := Tryz.tab) rfl rfl rfl rfl ?_) | (((with_reducible refine gS ?_); apply Es_q); rfl; rfl; (first | refine LStep_wrap (T := Tryz.tab) rfl rfl | (refine LStep_litA (T := Tryz.tab) rfl rfl rfl rfl rfl rfl rfl ?_; (refine Nat.le_of_ble_eq_true ?_; rfl)) | refine LStep_buildN (T := Tryz.tab) rfl rfl rfl rfl rfl rfl rfl)) | (refine Es_skip rfl ?_ rfl ?_; (first | rfl | (refine w_tf ?_; assumption) | (refine w_ft ?_; assumption))) | (((with_reducible refine gS ?_); apply Es_xs); rfl; rfl; refine LStep_boxN rfl rfl rfl rfl rfl rfl; rfl) | (with_reducible refine Es_nil ?_) | (with_reducible refine then_n ?_))
          refine AW_rounds 6 ?_
          repeat' (first | ((with_reducible refine gRd ?_); refine rounds_stepD [7, 17, 18, 19, 20, 21, 22, 23, 24, 8, 25, 26, 27, 28, 29, 30] [7] ?_) | ((with_reducible refine gA ?_); (first | refine AW_seq ?_ | refine AW_region ?_ | (refine AW_condY rfl ?_ ?_; assumption) | (refine AW_condN rfl ?_ ?_; assumption) | (refine AW_cond rfl (fun hc => ?_) (fun hc => ?_) <;> try (exfalso; simp only [cmpL] at hc; omega)) | refine AW_block ?_ | refine AW_ret ?_ | refine AW_skip ?_)) | ((with_reducible refine gS ?_); refine Es_s (T := Tryz.tab) rfl rfl rfl rfl ?_) | (((with_reducible refine gS ?_); apply Es_q); rfl; rfl; (first | refine LStep_callB c1 rfl rfl trivial rfl rfl | refine LStep_callB c2 rfl rfl trivial rfl rfl | refine LStep_callB c3 rfl rfl trivial rfl rfl | refine LStep_callB c4 rfl rfl trivial rfl rfl)) | (((with_reducible refine gS ?_); apply Es_q); rfl; rfl; (first | (refine LStep_add rfl rfl rfl rfl ?_; (refine IntWalk.i64_in _ ?_; first | omega | (simp only [cmps] at *; omega))) | (refine LStep_indexA (T := Tryz.tab) (c := ?_) rfl rfl rfl rfl rfl rfl ?_ ?_; rotate_left; omega; (first | assumption | rfl)))) | (refine Es_skip rfl ?_ rfl ?_; (first | rfl | (refine w_tf ?_; assumption) | (refine w_ft ?_; assumption))) | (((with_reducible refine gS ?_); apply Es_xs); rfl; rfl; refine LStep_allocN (T := Tryz.tab) rfl rfl rfl rfl rfl rfl; rfl) | (((with_reducible refine gS ?_); apply Es_xn); rfl; rfl; (refine LStep_storeN (T := Tryz.tab) rfl rfl rfl rfl rfl rfl rfl ?_ rfl; (refine Nat.le_of_ble_eq_true ?_; rfl)); rfl) | (with_reducible refine Es_nil ?_) | (with_reducible refine then_n ?_) | (with_reducible refine then_r ?_) | (with_reducible refine block_n ?_) | (with_reducible refine block_r ?_) | ((with_reducible refine gR ?_); first | refine ret1 rfl ?_ | refine ret2 rfl rfl ?_ | refine ret0 ?_ | refine end1 rfl ?_ | refine end0 ?_))
          all_goals first
            | rfl
            | trace_state
      · have g3 := gT h3
        rw [if_pos h3, if_pos h3]
        refine AC_enter Tryz.func23 rfl Tryz.ntmps23 (rv := [.tmp 4, .tmp 5]) rfl rfl (by simp) (fun w X G => ?_)
        repeat' (first | ((with_reducible refine gA ?_); (first | refine AW_seq ?_ | refine AW_region ?_ | refine AW_block ?_)) | ((with_reducible refine gS ?_); refine Es_s (T := Tryz.tab) rfl rfl rfl rfl ?_) | (((with_reducible refine gS ?_); apply Es_q); rfl; rfl; (first | refine LStep_wrap (T := Tryz.tab) rfl rfl | (refine LStep_litA (T := Tryz.tab) rfl rfl rfl rfl rfl rfl rfl ?_; (refine Nat.le_of_ble_eq_true ?_; rfl)) | refine LStep_buildN (T := Tryz.tab) rfl rfl rfl rfl rfl rfl rfl)) | (refine Es_skip rfl ?_ rfl ?_; (first | rfl | (refine w_tf ?_; assumption) | (refine w_ft ?_; assumption))) | (((with_reducible refine gS ?_); apply Es_xs); rfl; rfl; refine LStep_boxN rfl rfl rfl rfl rfl rfl; rfl) | (with_reducible refine Es_nil ?_) | (with_reducible refine then_n ?_))
        refine AW_rounds 6 ?_
        repeat' (first | ((with_reducible refine gRd ?_); refine rounds_stepD [7, 17, 18, 19, 20, 21, 22, 23, 24, 8, 25, 26, 27, 28, 29, 30] [7] ?_) | ((with_reducible refine gA ?_); (first | refine AW_seq ?_ | refine AW_region ?_ | (refine AW_condY rfl ?_ ?_; assumption) | (refine AW_condN rfl ?_ ?_; assumption) | (refine AW_cond rfl (fun hc => ?_) (fun hc => ?_) <;> try (exfalso; simp only [cmpL] at hc; omega)) | refine AW_block ?_ | refine AW_ret ?_ | refine AW_skip ?_)) | ((with_reducible refine gS ?_); refine Es_s (T := Tryz.tab) rfl rfl rfl rfl ?_) | (((with_reducible refine gS ?_); apply Es_q); rfl; rfl; (first | refine LStep_callB c1 rfl rfl trivial rfl rfl | refine LStep_callB c2 rfl rfl trivial rfl rfl | refine LStep_callB c3 rfl rfl trivial rfl rfl)) | (((with_reducible refine gS ?_); apply Es_q); rfl; rfl; (first | (refine LStep_add rfl rfl rfl rfl ?_; (refine IntWalk.i64_in _ ?_; first | omega | (simp only [cmps] at *; omega))) | (refine LStep_indexA (T := Tryz.tab) (c := ?_) rfl rfl rfl rfl rfl rfl ?_ ?_; rotate_left; omega; (first | assumption | rfl)))) | (refine Es_skip rfl ?_ rfl ?_; (first | rfl | (refine w_tf ?_; assumption) | (refine w_ft ?_; assumption))) | (((with_reducible refine gS ?_); apply Es_xs); rfl; rfl; refine LStep_allocN (T := Tryz.tab) rfl rfl rfl rfl rfl rfl; rfl) | (((with_reducible refine gS ?_); apply Es_xn); rfl; rfl; (refine LStep_storeN (T := Tryz.tab) rfl rfl rfl rfl rfl rfl rfl ?_ rfl; (refine Nat.le_of_ble_eq_true ?_; rfl)); rfl) | (with_reducible refine Es_nil ?_) | (with_reducible refine then_n ?_) | (with_reducible refine then_r ?_) | (with_reducible refine block_n ?_) | (with_reducible refine block_r ?_) | ((with_reducible refine gR ?_); first | refine ret1 rfl ?_ | refine ret2 rfl rfl ?_ | refine ret0 ?_ | refine end1 rfl ?_ | refine end0 ?_))
        all_goals first
          | rfl
          | trace_state
    · have g2 := gT h2
      rw [if_pos h2, if_pos h2]
      refine AC_enter Tryz.func23 rfl Tryz.ntmps23 (rv := [.tmp 4, .tmp 5]) rfl rfl (by simp) (fun w X G => ?_)
      repeat' (first | ((with_reducible refine gA ?_); (first | refine AW_seq ?_ | refine AW_region ?_ | refine AW_block ?_)) | ((with_reducible refine gS ?_); refine Es_s (T := Tryz.tab) rfl rfl rfl rfl ?_) | (((with_reducible refine gS ?_); apply Es_q); rfl; rfl; (first | refine LStep_wrap (T := Tryz.tab) rfl rfl | (refine LStep_litA (T := Tryz.tab) rfl rfl rfl rfl rfl rfl rfl ?_; (refine Nat.le_of_ble_eq_true ?_; rfl)) | refine LStep_buildN (T := Tryz.tab) rfl rfl rfl rfl rfl rfl rfl)) | (refine Es_skip rfl ?_ rfl ?_; (first | rfl | (refine w_tf ?_; assumption) | (refine w_ft ?_; assumption))) | (((with_reducible refine gS ?_); apply Es_xs); rfl; rfl; refine LStep_boxN rfl rfl rfl rfl rfl rfl; rfl) | (with_reducible refine Es_nil ?_) | (with_reducible refine then_n ?_))
      refine AW_rounds 6 ?_
      repeat' (first | ((with_reducible refine gRd ?_); refine rounds_stepD [7, 17, 18, 19, 20, 21, 22, 23, 24, 8, 25, 26, 27, 28, 29, 30] [7] ?_) | ((with_reducible refine gA ?_); (first | refine AW_seq ?_ | refine AW_region ?_ | (refine AW_condY rfl ?_ ?_; assumption) | (refine AW_condN rfl ?_ ?_; assumption) | (refine AW_cond rfl (fun hc => ?_) (fun hc => ?_) <;> try (exfalso; simp only [cmpL] at hc; omega)) | refine AW_block ?_ | refine AW_ret ?_ | refine AW_skip ?_)) | ((with_reducible refine gS ?_); refine Es_s (T := Tryz.tab) rfl rfl rfl rfl ?_) | (((with_reducible refine gS ?_); apply Es_q); rfl; rfl; (first | refine LStep_callB c1 rfl rfl trivial rfl rfl | refine LStep_callB c2 rfl rfl trivial rfl rfl)) | (((with_reducible refine gS ?_); apply Es_q); rfl; rfl; (first | (refine LStep_add rfl rfl rfl rfl ?_; (refine IntWalk.i64_in _ ?_; first | omega | (simp only [cmps] at *; omega))) | (refine LStep_indexA (T := Tryz.tab) (c := ?_) rfl rfl rfl rfl rfl rfl ?_ ?_; rotate_left; omega; (first | assumption | rfl)))) | (refine Es_skip rfl ?_ rfl ?_; (first | rfl | (refine w_tf ?_; assumption) | (refine w_ft ?_; assumption))) | (((with_reducible refine gS ?_); apply Es_xs); rfl; rfl; refine LStep_allocN (T := Tryz.tab) rfl rfl rfl rfl rfl rfl; rfl) | (((with_reducible refine gS ?_); apply Es_xn); rfl; rfl; (refine LStep_storeN (T := Tryz.tab) rfl rfl rfl rfl rfl rfl rfl ?_ rfl; (refine Nat.le_of_ble_eq_true ?_; rfl)); rfl) | (with_reducible refine Es_nil ?_) | (with_reducible refine then_n ?_) | (with_reducible refine then_r ?_) | (with_reducible refine block_n ?_) | (with_reducible refine block_r ?_) | ((with_reducible refine gR ?_); first | refine ret1 rfl ?_ | refine ret2 rfl rfl ?_ | refine ret0 ?_ | refine end1 rfl ?_ | refine end0 ?_))
      all_goals first
        | rfl
        | trace_state
  · have g1 := gT h1
    rw [if_pos h1, if_pos h1]
    refine AC_enter Tryz.func23 rfl Tryz.ntmps23 (rv := [.tmp 4, .tmp 5]) rfl rfl (by simp) (fun w X G => ?_)
    repeat' (first | ((with_reducible refine gA ?_); (first | refine AW_seq ?_ | refine AW_region ?_ | refine AW_block ?_)) | ((with_reducible refine gS ?_); refine Es_s (T := Tryz.tab) rfl rfl rfl rfl ?_) | (((with_reducible refine gS ?_); apply Es_q); rfl; rfl; (first | refine LStep_wrap (T := Tryz.tab) rfl rfl | (refine LStep_litA (T := Tryz.tab) rfl rfl rfl rfl rfl rfl rfl ?_; (refine Nat.le_of_ble_eq_true ?_; rfl)) | refine LStep_buildN (T := Tryz.tab) rfl rfl rfl rfl rfl rfl rfl)) | (refine Es_skip rfl ?_ rfl ?_; (first | rfl | (refine w_tf ?_; assumption) | (refine w_ft ?_; assumption))) | (((with_reducible refine gS ?_); apply Es_xs); rfl; rfl; refine LStep_boxN rfl rfl rfl rfl rfl rfl; rfl) | (with_reducible refine Es_nil ?_) | (with_reducible refine then_n ?_))
    refine AW_rounds 6 ?_
    repeat' (first | ((with_reducible refine gRd ?_); refine rounds_stepD [7, 17, 18, 19, 20, 21, 22, 23, 24, 8, 25, 26, 27, 28, 29, 30] [7] ?_) | ((with_reducible refine gA ?_); (first | refine AW_seq ?_ | refine AW_region ?_ | (refine AW_condY rfl ?_ ?_; assumption) | (refine AW_cond rfl (fun hc => ?_) (fun hc => ?_) <;> try (exfalso; simp only [cmpL] at hc; omega)) | refine AW_block ?_ | refine AW_ret ?_ | refine AW_skip ?_)) | ((with_reducible refine gS ?_); refine Es_s (T := Tryz.tab) rfl rfl rfl rfl ?_) | (((with_reducible refine gS ?_); apply Es_q); rfl; rfl; refine LStep_callB c1 rfl rfl trivial rfl rfl) | (((with_reducible refine gS ?_); apply Es_q); rfl; rfl; (refine LStep_indexA (T := Tryz.tab) (c := ?_) rfl rfl rfl rfl rfl rfl ?_ ?_; rotate_left; omega; (first | assumption | rfl))) | (refine Es_skip rfl ?_ rfl ?_; (first | rfl | (refine w_tf ?_; assumption) | (refine w_ft ?_; assumption))) | (((with_reducible refine gS ?_); apply Es_xs); rfl; rfl; refine LStep_allocN (T := Tryz.tab) rfl rfl rfl rfl rfl rfl; rfl) | (((with_reducible refine gS ?_); apply Es_xn); rfl; rfl; (refine LStep_storeN (T := Tryz.tab) rfl rfl rfl rfl rfl rfl rfl ?_ rfl; (refine Nat.le_of_ble_eq_true ?_; rfl)); rfl) | (with_reducible refine Es_nil ?_) | (with_reducible refine then_n ?_) | (with_reducible refine then_r ?_) | (with_reducible refine block_r ?_) | ((with_reducible refine gR ?_); first | refine ret1 rfl ?_ | refine ret2 rfl rfl ?_ | refine ret0 ?_ | refine end1 rfl ?_ | refine end0 ?_))
    all_goals first
      | rfl
      | trace_state
set_option maxRecDepth 10000 in
theorem better_ac (a b : Cl) : AC Tryz.prog 16 [.agg a.cs, .agg b.cs] [] [] (fun r _ => r = .d (.sc (.int .i64 (-(jdg a b))))) := by
  have c := judge_ac a b
  have hi := jdg_in a b
  have e : AV.d (.sc (.int .i64 (wrp .i64 (0 - jdg a b)))) = AV.d (.sc (.int .i64 (-(jdg a b)))) := by rw [wrp_fit (by omega)]; congr 3; omega
  generalize jdg a b = j at *
  refine AC_enter Tryz.func16 rfl Tryz.ntmps16 (rv := [.tmp 4]) rfl rfl (by simp) (fun w X G => ?_)
  repeat' (first | ((with_reducible refine gA ?_); (first | refine AW_seq ?_ | refine AW_region ?_ | refine AW_ret ?_)) | (((with_reducible refine gS ?_); apply Es_q); rfl; rfl; refine LStep_fitQ (T := Tryz.tab) rfl rfl e) | ((with_reducible refine gS ?_); refine Es_s (T := Tryz.tab) rfl rfl rfl rfl ?_) | (((with_reducible refine gS ?_); apply Es_q); rfl; rfl; refine LStep_call (c) rfl rfl rfl rfl) | (refine Es_skip rfl ?_ rfl ?_; (first | rfl | (refine w_tf ?_; assumption) | (refine w_ft ?_; assumption))) | (((with_reducible refine gS ?_); apply Es_xs); rfl; rfl; refine LStep_boxN rfl rfl rfl rfl rfl rfl; rfl) | (with_reducible refine Es_nil ?_) | (with_reducible refine then_n ?_) | ((with_reducible refine gR ?_); first | refine ret1 rfl ?_ | refine ret2 rfl rfl ?_ | refine ret0 ?_ | refine end1 rfl ?_ | refine end0 ?_))
  rfl
set_option maxRecDepth 10000 in
theorem why_ac (a b : Cl) : AC Tryz.prog 13 [.agg a.cs, .agg b.cs] [] [] (fun r _ => r = .d (.sc (.string (whyS a b)))) := by
  have c := judge_ac a b
  generalize jdg a b = j at *
  refine AC_enter Tryz.func13 rfl Tryz.ntmps13 (rv := [.tmp 4]) rfl rfl (by simp) (fun w X G => ?_)
  repeat' (first | ((with_reducible refine gA ?_); (first | refine AW_seq ?_ | refine AW_region ?_ | refine AW_ret ?_)) | ((with_reducible refine gS ?_); refine Es_s (T := Tryz.tab) rfl rfl rfl rfl ?_) | (((with_reducible refine gS ?_); apply Es_q); rfl; rfl; refine LStep_call (c) rfl rfl rfl rfl) | (refine Es_skip rfl ?_ rfl ?_; (first | rfl | (refine w_tf ?_; assumption) | (refine w_ft ?_; assumption))) | (((with_reducible refine gS ?_); apply Es_xs); rfl; rfl; refine LStep_boxN rfl rfl rfl rfl rfl rfl; rfl) | (with_reducible refine Es_nil ?_) | (with_reducible refine then_n ?_) | ((with_reducible refine gR ?_); first | refine ret1 rfl ?_ | refine ret2 rfl rfl ?_ | refine ret0 ?_ | refine end1 rfl ?_ | refine end0 ?_))
  rfl
set_option maxRecDepth 10000 in
theorem rank1_ac (a b : Cl) : AC Tryz.prog 26 [.agg a.cs, .agg b.cs] [] [] (fun r _ => r = .d (.sc (.int .i64 (jdg a b)))) := by
  have c := better_ac a b
  have hi := jdg_in a b
  have e : AV.d (.sc (.int .i64 (wrp .i64 (0 - -(jdg a b))))) = AV.d (.sc (.int .i64 (jdg a b))) := by rw [wrp_fit (by omega)]; congr 3; omega
  generalize jdg a b = j at *
  refine AC_enter Tryz.func26 rfl Tryz.ntmps26 (rv := [.tmp 4]) rfl rfl (by simp) (fun w X G => ?_)
  repeat' (first | ((with_reducible refine gA ?_); (first | refine AW_seq ?_ | refine AW_region ?_ | refine AW_ret ?_)) | (((with_reducible refine gS ?_); apply Es_q); rfl; rfl; refine LStep_fitQ (T := Tryz.tab) rfl rfl e) | ((with_reducible refine gS ?_); refine Es_s (T := Tryz.tab) rfl rfl rfl rfl ?_) | (((with_reducible refine gS ?_); apply Es_q); rfl; rfl; refine LStep_call (c) rfl rfl rfl rfl) | (refine Es_skip rfl ?_ rfl ?_; (first | rfl | (refine w_tf ?_; assumption) | (refine w_ft ?_; assumption))) | (((with_reducible refine gS ?_); apply Es_xs); rfl; rfl; refine LStep_boxN rfl rfl rfl rfl rfl rfl; rfl) | (with_reducible refine Es_nil ?_) | (with_reducible refine then_n ?_) | ((with_reducible refine gR ?_); first | refine ret1 rfl ?_ | refine ret2 rfl rfl ?_ | refine ret0 ?_ | refine end1 rfl ?_ | refine end0 ?_))
  rfl
/-! ### the document's Better -/
set_option maxRecDepth 10000 in
theorem rsign_ac (b : Bool) : AC Tryz.prog 57 [.d (.sc (.bool b))] [] [] (fun r _ => r = .d (.sc (.int .i64 (if b = true then 1 else -1)))) := by
  cases b with
  | true =>
    refine AC_enter Tryz.func57 rfl Tryz.ntmps57 (rv := [.tmp 2]) rfl rfl (by simp) (fun w X G => ?_)
    repeat' (first | ((with_reducible refine gA ?_); (first | refine AW_seq ?_ | refine AW_region ?_ | refine AW_condT rfl ?_ | refine AW_ret ?_)) | ((with_reducible refine gS ?_); refine Es_s (T := Tryz.tab) rfl rfl rfl rfl ?_) | (with_reducible refine Es_nil ?_) | (with_reducible refine then_n ?_) | (with_reducible refine then_r ?_) | ((with_reducible refine gR ?_); first | refine ret1 rfl ?_ | refine ret2 rfl rfl ?_ | refine ret0 ?_ | refine end1 rfl ?_ | refine end0 ?_))
    rfl
  | false =>
    refine AC_enter Tryz.func57 rfl Tryz.ntmps57 (rv := [.tmp 2]) rfl rfl (by simp) (fun w X G => ?_)
    repeat' (first | ((with_reducible refine gA ?_); (first | refine AW_seq ?_ | refine AW_region ?_ | refine AW_condF rfl ?_ | refine AW_ret ?_ | refine AW_skip ?_)) | ((with_reducible refine gS ?_); refine Es_s (T := Tryz.tab) rfl rfl rfl rfl ?_) | (with_reducible refine Es_nil ?_) | (with_reducible refine then_n ?_) | ((with_reducible refine gR ?_); first | refine ret1 rfl ?_ | refine ret2 rfl rfl ?_ | refine ret0 ?_ | refine end1 rfl ?_ | refine end0 ?_))
    rfl
theorem cI_sign {a b : Int} (h : a ≠ b) : (if ltb a b = true then (1 : Int) else -1) = -(cI a b) := by
  unfold cI
  by_cases h1 : a < b
  · rw [if_pos (ltb_t.2 h1), if_pos h1]; rfl
  · rw [if_neg (by rw [ltb_f.2 (by omega)]; decide), if_neg h1, if_pos (by omega)]
theorem cS_sign {a b : ByteArray} (h : a ≠ b) : (if lts a b = true then (1 : Int) else -1) = -(cS a b) := by
  unfold cS
  cases h1 : lts a b with
  | true => rfl
  | false =>
    rw [if_neg (by decide), if_neg (by decide)]
    cases h2 : lts b a with
    | true => rfl
    | false => exact absurd (lts_tri h1 h2) h
set_option maxRecDepth 10000 in
set_option maxHeartbeats 8000000 in
theorem rbetter_ac (a b : Cl) : AC Tryz.prog 34 [.agg a.cs, .agg b.cs] [] [] (fun r _ => r = .tup [.d (.sc (.int .i64 (-(jdg a b)))), .d (.sc (.string (whyS a b)))]) := by
  unfold whyS jdg
  by_cases h1 : a.rt = b.rt
  · have g1 : (!(eqb a.rt b.rt)) = false := by rw [eqb_t.2 h1]; rfl
    rw [if_neg (show ¬ cI a.rt b.rt ≠ 0 by simp [cI_eq, h1]), if_neg (show ¬ cI a.rt b.rt ≠ 0 by simp [cI_eq, h1])]
    by_cases h2 : a.dy = b.dy
    · have g2 : (!(eqb a.dy b.dy)) = false := by rw [eqb_t.2 h2]; rfl
      rw [if_neg (show ¬ cI a.dy b.dy ≠ 0 by simp [cI_eq, h2]), if_neg (show ¬ cI a.dy b.dy ≠ 0 by simp [cI_eq, h2])]
      by_cases h3 : a.nm = b.nm
      · have g3 : (!(eqs a.nm b.nm)) = false := by rw [eqs_t.2 h3]; rfl
        rw [if_neg (show ¬ cS a.nm b.nm ≠ 0 by simp [cS_eq, h3]), if_neg (show ¬ cS a.nm b.nm ≠ 0 by simp [cS_eq, h3])]
        by_cases h4 : a.am = b.am
        · have g4 : (!(eqb a.am b.am)) = false := by rw [eqb_t.2 h4]; rfl
          rw [if_neg (show ¬ cI b.am a.am ≠ 0 by simp [cI_eq, h4]), if_neg (show ¬ cI b.am a.am ≠ 0 by simp [cI_eq, h4])]
          by_cases h5 : a.th = b.th
          · have g5 : (!(eqs a.th b.th)) = false := by rw [eqs_t.2 h5]; rfl
            rw [if_neg (show ¬ cS a.th b.th ≠ 0 by simp [cS_eq, h5]), cS_eq.2 h5]
            refine AC_enter Tryz.func34 rfl Tryz.ntmps34 (rv := [.tmp 4, .tmp 5]) rfl rfl (by simp) (fun w X G => ?_)
            repeat' (first | ((with_reducible refine gA ?_); (first | refine AW_seq ?_ | refine AW_region ?_ | (refine AW_condN rfl ?_ ?_; assumption) | refine AW_ret ?_ | refine AW_skip ?_)) | ((with_reducible refine gS ?_); refine Es_s (T := Tryz.tab) rfl rfl rfl rfl ?_) | (refine Es_skip rfl ?_ rfl ?_; (first | rfl | (refine w_tf ?_; assumption) | (refine w_ft ?_; assumption))) | (((with_reducible refine gS ?_); apply Es_xs); rfl; rfl; refine LStep_boxN rfl rfl rfl rfl rfl rfl; rfl) | (with_reducible refine Es_nil ?_) | (with_reducible refine then_n ?_) | ((with_reducible refine gR ?_); first | refine ret1 rfl ?_ | refine ret2 rfl rfl ?_ | refine ret0 ?_ | refine end1 rfl ?_ | refine end0 ?_))
            rfl
          · have g5 : (!(eqs a.th b.th)) = true := by rw [eqs_f.2 h5]; rfl
            have c := rsign_ac (lts a.th b.th)
            rw [cS_sign h5] at c
            rw [if_pos (show cS a.th b.th ≠ 0 by rw [ne_eq, cS_eq]; exact h5)]
            refine AC_enter Tryz.func34 rfl Tryz.ntmps34 (rv := [.tmp 4, .tmp 5]) rfl rfl (by simp) (fun w X G => ?_)
            repeat' (first | ((with_reducible refine gA ?_); (first | refine AW_seq ?_ | refine AW_region ?_ | (refine AW_condY rfl ?_ ?_; assumption) | (refine AW_condN rfl ?_ ?_; assumption) | refine AW_ret ?_ | refine AW_skip ?_)) | ((with_reducible refine gS ?_); refine Es_s (T := Tryz.tab) rfl rfl rfl rfl ?_) | (((with_reducible refine gS ?_); apply Es_q); rfl; rfl; refine LStep_call (c) rfl rfl rfl rfl) | (refine Es_skip rfl ?_ rfl ?_; (first | rfl | (refine w_tf ?_; assumption) | (refine w_ft ?_; assumption))) | (((with_reducible refine gS ?_); apply Es_xs); rfl; rfl; refine LStep_boxN rfl rfl rfl rfl rfl rfl; rfl) | (with_reducible refine Es_nil ?_) | (with_reducible refine then_n ?_) | (with_reducible refine then_r ?_) | ((with_reducible refine gR ?_); first | refine ret1 rfl ?_ | refine ret2 rfl rfl ?_ | refine ret0 ?_ | refine end1 rfl ?_ | refine end0 ?_))
            rfl
        · have g4 : (!(eqb a.am b.am)) = true := by rw [eqb_f.2 h4]; rfl
          have c := rsign_ac (ltb b.am a.am)
          rw [cI_sign (fun e => h4 e.symm)] at c
          rw [if_pos (show cI b.am a.am ≠ 0 by rw [ne_eq, cI_eq]; exact fun e => h4 e.symm), if_pos (show cI b.am a.am ≠ 0 by rw [ne_eq, cI_eq]; exact fun e => h4 e.symm)]
          refine AC_enter Tryz.func34 rfl Tryz.ntmps34 (rv := [.tmp 4, .tmp 5]) rfl rfl (by simp) (fun w X G => ?_)
          repeat' (first | ((with_reducible refine gA ?_); (first | refine AW_seq ?_ | refine AW_region ?_ | (refine AW_condY rfl ?_ ?_; assumption) | (refine AW_condN rfl ?_ ?_; assumption) | refine AW_ret ?_ | refine AW_skip ?_)) | ((with_reducible refine gS ?_); refine Es_s (T := Tryz.tab) rfl rfl rfl rfl ?_) | (((with_reducible refine gS ?_); apply Es_q); rfl; rfl; refine LStep_call (c) rfl rfl rfl rfl) | (refine Es_skip rfl ?_ rfl ?_; (first | rfl | (refine w_tf ?_; assumption) | (refine w_ft ?_; assumption))) | (((with_reducible refine gS ?_); apply Es_xs); rfl; rfl; refine LStep_boxN rfl rfl rfl rfl rfl rfl; rfl) | (with_reducible refine Es_nil ?_) | (with_reducible refine then_n ?_) | (with_reducible refine then_r ?_) | ((with_reducible refine gR ?_); first | refine ret1 rfl ?_ | refine ret2 rfl rfl ?_ | refine ret0 ?_ | refine end1 rfl ?_ | refine end0 ?_))
          rfl
      · have g3 : (!(eqs a.nm b.nm)) = true := by rw [eqs_f.2 h3]; rfl
        have c := rsign_ac (lts a.nm b.nm)
        rw [cS_sign h3] at c
        rw [if_pos (show cS a.nm b.nm ≠ 0 by rw [ne_eq, cS_eq]; exact h3), if_pos (show cS a.nm b.nm ≠ 0 by rw [ne_eq, cS_eq]; exact h3)]
        refine AC_enter Tryz.func34 rfl Tryz.ntmps34 (rv := [.tmp 4, .tmp 5]) rfl rfl (by simp) (fun w X G => ?_)
        repeat' (first | ((with_reducible refine gA ?_); (first | refine AW_seq ?_ | refine AW_region ?_ | (refine AW_condY rfl ?_ ?_; assumption) | (refine AW_condN rfl ?_ ?_; assumption) | refine AW_ret ?_ | refine AW_skip ?_)) | ((with_reducible refine gS ?_); refine Es_s (T := Tryz.tab) rfl rfl rfl rfl ?_) | (((with_reducible refine gS ?_); apply Es_q); rfl; rfl; refine LStep_call (c) rfl rfl rfl rfl) | (refine Es_skip rfl ?_ rfl ?_; (first | rfl | (refine w_tf ?_; assumption) | (refine w_ft ?_; assumption))) | (((with_reducible refine gS ?_); apply Es_xs); rfl; rfl; refine LStep_boxN rfl rfl rfl rfl rfl rfl; rfl) | (with_reducible refine Es_nil ?_) | (with_reducible refine then_n ?_) | (with_reducible refine then_r ?_) | ((with_reducible refine gR ?_); first | refine ret1 rfl ?_ | refine ret2 rfl rfl ?_ | refine ret0 ?_ | refine end1 rfl ?_ | refine end0 ?_))
        rfl
    · have g2 : (!(eqb a.dy b.dy)) = true := by rw [eqb_f.2 h2]; rfl
      have c := rsign_ac (ltb a.dy b.dy)
      rw [cI_sign h2] at c
      rw [if_pos (show cI a.dy b.dy ≠ 0 by rw [ne_eq, cI_eq]; exact h2), if_pos (show cI a.dy b.dy ≠ 0 by rw [ne_eq, cI_eq]; exact h2)]
      refine AC_enter Tryz.func34 rfl Tryz.ntmps34 (rv := [.tmp 4, .tmp 5]) rfl rfl (by simp) (fun w X G => ?_)
      repeat' (first | ((with_reducible refine gA ?_); (first | refine AW_seq ?_ | refine AW_region ?_ | (refine AW_condY rfl ?_ ?_; assumption) | (refine AW_condN rfl ?_ ?_; assumption) | refine AW_ret ?_ | refine AW_skip ?_)) | ((with_reducible refine gS ?_); refine Es_s (T := Tryz.tab) rfl rfl rfl rfl ?_) | (((with_reducible refine gS ?_); apply Es_q); rfl; rfl; refine LStep_call (c) rfl rfl rfl rfl) | (refine Es_skip rfl ?_ rfl ?_; (first | rfl | (refine w_tf ?_; assumption) | (refine w_ft ?_; assumption))) | (((with_reducible refine gS ?_); apply Es_xs); rfl; rfl; refine LStep_boxN rfl rfl rfl rfl rfl rfl; rfl) | (with_reducible refine Es_nil ?_) | (with_reducible refine then_n ?_) | (with_reducible refine then_r ?_) | ((with_reducible refine gR ?_); first | refine ret1 rfl ?_ | refine ret2 rfl rfl ?_ | refine ret0 ?_ | refine end1 rfl ?_ | refine end0 ?_))
      rfl
  · have g1 : (!(eqb a.rt b.rt)) = true := by rw [eqb_f.2 h1]; rfl
    have c := rsign_ac (ltb a.rt b.rt)
    rw [cI_sign h1] at c
    rw [if_pos (show cI a.rt b.rt ≠ 0 by rw [ne_eq, cI_eq]; exact h1), if_pos (show cI a.rt b.rt ≠ 0 by rw [ne_eq, cI_eq]; exact h1)]
    refine AC_enter Tryz.func34 rfl Tryz.ntmps34 (rv := [.tmp 4, .tmp 5]) rfl rfl (by simp) (fun w X G => ?_)
    repeat' (first | ((with_reducible refine gA ?_); (first | refine AW_seq ?_ | refine AW_region ?_ | (refine AW_condY rfl ?_ ?_; assumption) | refine AW_ret ?_)) | ((with_reducible refine gS ?_); refine Es_s (T := Tryz.tab) rfl rfl rfl rfl ?_) | (((with_reducible refine gS ?_); apply Es_q); rfl; rfl; refine LStep_call (c) rfl rfl rfl rfl) | (refine Es_skip rfl ?_ rfl ?_; (first | rfl | (refine w_tf ?_; assumption) | (refine w_ft ?_; assumption))) | (((with_reducible refine gS ?_); apply Es_xs); rfl; rfl; refine LStep_boxN rfl rfl rfl rfl rfl rfl; rfl) | (with_reducible refine Es_nil ?_) | (with_reducible refine then_n ?_) | (with_reducible refine then_r ?_) | ((with_reducible refine gR ?_); first | refine ret1 rfl ?_ | refine ret2 rfl rfl ?_ | refine ret0 ?_ | refine end1 rfl ?_ | refine end0 ?_))
    rfl
end Go.Proofs.YtldfncafkdmoiaaGreat
