import Derived.Test.YtldfncafkdmoiaaFC
import Derived.Test.YtldfncafkdmoiaaH1
import Derived.Test.YtldfncafkdmoiaaTl
import Derived.Test.YtldfncafkdmoiaaTa
namespace Go.Proofs.Ytldfncafkdmoiaa
open Go.SL
/-! ### cmp -/
set_option maxRecDepth 10000 in
theorem isNaNI_ac (a : Int) : AC Try.prog 59 [.d (.sc (.int .i64 a))] [] [] (fun r _ => r = .d (.sc (.bool false))) := by
  refine AC_enter Try.func59 rfl Try.ntmps59 (rv := [.tmp 2]) rfl rfl (by simp) (fun w X G => ?_)
  have h : (!eqb a a) = false := by rw [not_f]; exact eqb_t.2 rfl
  repeat' (first | ((with_reducible refine gA ?_); (first | refine AW_seq ?_ | refine AW_region ?_ | refine AW_ret ?_)) | ((with_reducible refine gS ?_); refine Es_s (T := Try.tab) rfl rfl rfl rfl ?_) | (with_reducible refine Es_nil ?_) | (with_reducible refine then_n ?_) | ((with_reducible refine gR ?_); first | refine ret1 rfl ?_ | refine ret2 rfl rfl ?_ | refine ret0 ?_ | refine end1 rfl ?_ | refine end0 ?_))
  rw [h]
set_option maxRecDepth 10000 in
theorem cmpI_ac (a b : Int) : AC Try.prog 36 [.d (.sc (.int .i64 a)), .d (.sc (.int .i64 b))] [] [] (fun r _ => r = .d (.sc (.int .i64 (cI a b)))) := by
  refine AC_enter Try.func36 rfl Try.ntmps36 (rv := [.tmp 4]) rfl rfl (by simp) (fun w X G => ?_)
  repeat' (first | ((with_reducible refine gA ?_); (first | refine AW_seq ?_ | refine AW_region ?_ | refine AW_condF rfl ?_ | (refine AW_cond rfl (fun hc => ?_) (fun hc => ?_) <;> try (exfalso; simp only [cmpL] at hc; omega)) | refine AW_ret ?_ | refine AW_skip ?_)) | ((with_reducible refine gS ?_); refine Es_s (T := Try.tab) rfl rfl rfl rfl ?_) | (((with_reducible refine gS ?_); apply Es_q); rfl; rfl; refine LStep_call (isNaNI_ac _) rfl rfl rfl rfl) | (with_reducible refine Es_nil ?_) | (with_reducible refine then_n ?_) | (with_reducible refine then_r ?_) | ((with_reducible refine gR ?_); first | refine ret1 rfl ?_ | refine ret2 rfl rfl ?_ | refine ret0 ?_ | refine end1 rfl ?_ | refine end0 ?_))
  all_goals simp only [cmps] at *
  all_goals first
    | (unfold cI; rw [if_pos (by omega)]; done)
    | (unfold cI; rw [if_neg (by omega), if_pos (by omega)]; done)
    | (unfold cI; rw [if_neg (by omega), if_neg (by omega)]; done)
    | trace_state
set_option maxRecDepth 10000 in
theorem isNaNJ_ac (a : Int) : AC Try.prog 61 [.d (.sc (.int .i64 a))] [] [] (fun r _ => r = .d (.sc (.bool false))) := by
  refine AC_enter Try.func61 rfl Try.ntmps61 (rv := [.tmp 2]) rfl rfl (by simp) (fun w X G => ?_)
  have h : (!eqb a a) = false := by rw [not_f]; exact eqb_t.2 rfl
  repeat' (first | ((with_reducible refine gA ?_); (first | refine AW_seq ?_ | refine AW_region ?_ | refine AW_ret ?_)) | ((with_reducible refine gS ?_); refine Es_s (T := Try.tab) rfl rfl rfl rfl ?_) | (with_reducible refine Es_nil ?_) | (with_reducible refine then_n ?_) | ((with_reducible refine gR ?_); first | refine ret1 rfl ?_ | refine ret2 rfl rfl ?_ | refine ret0 ?_ | refine end1 rfl ?_ | refine end0 ?_))
  rw [h]
set_option maxRecDepth 10000 in
theorem cmpJ_ac (a b : Int) : AC Try.prog 41 [.d (.sc (.int .i64 a)), .d (.sc (.int .i64 b))] [] [] (fun r _ => r = .d (.sc (.int .i64 (cI a b)))) := by
  refine AC_enter Try.func41 rfl Try.ntmps41 (rv := [.tmp 4]) rfl rfl (by simp) (fun w X G => ?_)
  repeat' (first | ((with_reducible refine gA ?_); (first | refine AW_seq ?_ | refine AW_region ?_ | refine AW_condF rfl ?_ | (refine AW_cond rfl (fun hc => ?_) (fun hc => ?_) <;> try (exfalso; simp only [cmpL] at hc; omega)) | refine AW_ret ?_ | refine AW_skip ?_)) | ((with_reducible refine gS ?_); refine Es_s (T := Try.tab) rfl rfl rfl rfl ?_) | (((with_reducible refine gS ?_); apply Es_q); rfl; rfl; refine LStep_call (isNaNJ_ac _) rfl rfl rfl rfl) | (with_reducible refine Es_nil ?_) | (with_reducible refine then_n ?_) | (with_reducible refine then_r ?_) | ((with_reducible refine gR ?_); first | refine ret1 rfl ?_ | refine ret2 rfl rfl ?_ | refine ret0 ?_ | refine end1 rfl ?_ | refine end0 ?_))
  all_goals simp only [cmps] at *
  all_goals first
    | (unfold cI; rw [if_pos (by omega)]; done)
    | (unfold cI; rw [if_neg (by omega), if_pos (by omega)]; done)
    | (unfold cI; rw [if_neg (by omega), if_neg (by omega)]; done)
    | trace_state
theorem isNaNS_ac (a : ByteArray) : AC Try.prog 60 [.d (.sc (.string a))] [] [] (fun r _ => r = .d (.sc (.bool false))) := by
  refine AC_enter Try.func60 rfl Try.ntmps60 (rv := [.tmp 2]) rfl rfl (by simp) (fun w X G => ?_)
  repeat' (first | ((with_reducible refine gA ?_); (first | refine AW_seq ?_ | refine AW_region ?_ | refine AW_ret ?_)) | (((with_reducible refine gS ?_); apply Es_q); rfl; rfl; refine LStep_neqSF rfl rfl rfl rfl rfl) | ((with_reducible refine gS ?_); refine Es_s (T := Try.tab) rfl rfl rfl rfl ?_) | (with_reducible refine Es_nil ?_) | (with_reducible refine then_n ?_) | ((with_reducible refine gR ?_); first | refine ret1 rfl ?_ | refine ret2 rfl rfl ?_ | refine ret0 ?_ | refine end1 rfl ?_ | refine end0 ?_))
  rfl
set_option maxRecDepth 10000 in
theorem cmpS_ac (a b : ByteArray) : AC Try.prog 39 [.d (.sc (.string a)), .d (.sc (.string b))] [] [] (fun r _ => r = .d (.sc (.int .i64 (cS a b)))) := by
  refine AC_enter Try.func39 rfl Try.ntmps39 (rv := [.tmp 4]) rfl rfl (by simp) (fun w X G => ?_)
  repeat' (first | ((with_reducible refine gA ?_); (first | refine AW_seq ?_ | refine AW_region ?_ | refine AW_condF rfl ?_ | (refine AW_cond rfl (fun hc => ?_) (fun hc => ?_) <;> try (exfalso; simp only [cmpL] at hc; omega)) | refine AW_ret ?_ | refine AW_skip ?_)) | ((with_reducible refine gS ?_); refine Es_s (T := Try.tab) rfl rfl rfl rfl ?_) | (((with_reducible refine gS ?_); apply Es_q); rfl; rfl; (first | refine LStep_call (isNaNS_ac _) rfl rfl rfl rfl | refine LStep_gtrS rfl rfl rfl rfl)) | (with_reducible refine Es_nil ?_) | (with_reducible refine then_n ?_) | (with_reducible refine then_r ?_) | ((with_reducible refine gR ?_); first | refine ret1 rfl ?_ | refine ret2 rfl rfl ?_ | refine ret0 ?_ | refine end1 rfl ?_ | refine end0 ?_))
  · have h : lts a b = true := by assumption
    rw [cS, if_pos h]
  · have h : lts a b = false := by assumption
    have h2 : lts b a = true := by assumption
    rw [cS, if_neg (by rw [h]; simp), if_pos h2]
  · have h : lts a b = false := by assumption
    have h2 : lts b a = false := by assumption
    rw [cS, if_neg (by rw [h]; simp), if_neg (by rw [h2]; simp)]
/-! ### judge -/
theorem KpNil {f : FuncId} {args : List AV} {v : AV} (h : AC Try.prog f args [] [] (fun r _ => r = v)) : AC Try.prog f args [] [] (fun r h' => r = v ∧ Kp [] h') := h.mono (fun _ _ h => ⟨h, fun id o hg => by cases hg⟩)
set_option maxRecDepth 10000 in
theorem jd1_ac (a b : Cl) : AC Try.prog 35 [.agg a.cs, .agg b.cs] [] [] (fun r _ => r = .d (.sc (.int .i64 (cI a.rt b.rt)))) := by
  have c := cmpI_ac a.rt b.rt
  refine AC_enter Try.func35 rfl Try.ntmps35 (rv := [.tmp 4]) rfl rfl (by simp) (fun w X G => ?_)
  repeat' (first | ((with_reducible refine gA ?_); (first | refine AW_seq ?_ | refine AW_region ?_ | refine AW_ret ?_)) | ((with_reducible refine gS ?_); refine Es_s (T := Try.tab) rfl rfl rfl rfl ?_) | (((with_reducible refine gS ?_); apply Es_q); rfl; rfl; refine LStep_call (c) rfl rfl rfl rfl) | (refine Es_skip rfl ?_ rfl ?_; (first | rfl | (refine w_tf ?_; assumption) | (refine w_ft ?_; assumption))) | (((with_reducible refine gS ?_); apply Es_xs); rfl; rfl; refine LStep_boxN rfl rfl rfl rfl rfl rfl; rfl) | (with_reducible refine Es_nil ?_) | (with_reducible refine then_n ?_) | ((with_reducible refine gR ?_); first | refine ret1 rfl ?_ | refine ret2 rfl rfl ?_ | refine ret0 ?_ | refine end1 rfl ?_ | refine end0 ?_))
  rfl
set_option maxRecDepth 10000 in
theorem jd2_ac (a b : Cl) : AC Try.prog 37 [.agg a.cs, .agg b.cs] [] [] (fun r _ => r = .d (.sc (.int .i64 (cI a.dy b.dy)))) := by
  have c := cmpI_ac a.dy b.dy
  refine AC_enter Try.func37 rfl Try.ntmps37 (rv := [.tmp 4]) rfl rfl (by simp) (fun w X G => ?_)
  repeat' (first | ((with_reducible refine gA ?_); (first | refine AW_seq ?_ | refine AW_region ?_ | refine AW_ret ?_)) | ((with_reducible refine gS ?_); refine Es_s (T := Try.tab) rfl rfl rfl rfl ?_) | (((with_reducible refine gS ?_); apply Es_q); rfl; rfl; refine LStep_call (c) rfl rfl rfl rfl) | (refine Es_skip rfl ?_ rfl ?_; (first | rfl | (refine w_tf ?_; assumption) | (refine w_ft ?_; assumption))) | (((with_reducible refine gS ?_); apply Es_xs); rfl; rfl; refine LStep_boxN rfl rfl rfl rfl rfl rfl; rfl) | (with_reducible refine Es_nil ?_) | (with_reducible refine then_n ?_) | ((with_reducible refine gR ?_); first | refine ret1 rfl ?_ | refine ret2 rfl rfl ?_ | refine ret0 ?_ | refine end1 rfl ?_ | refine end0 ?_))
  rfl
set_option maxRecDepth 10000 in
theorem jd3_ac (a b : Cl) : AC Try.prog 38 [.agg a.cs, .agg b.cs] [] [] (fun r _ => r = .d (.sc (.int .i64 (cS a.nm b.nm)))) := by
  have c := cmpS_ac a.nm b.nm
  refine AC_enter Try.func38 rfl Try.ntmps38 (rv := [.tmp 4]) rfl rfl (by simp) (fun w X G => ?_)
  repeat' (first | ((with_reducible refine gA ?_); (first | refine AW_seq ?_ | refine AW_region ?_ | refine AW_ret ?_)) | ((with_reducible refine gS ?_); refine Es_s (T := Try.tab) rfl rfl rfl rfl ?_) | (((with_reducible refine gS ?_); apply Es_q); rfl; rfl; refine LStep_call (c) rfl rfl rfl rfl) | (refine Es_skip rfl ?_ rfl ?_; (first | rfl | (refine w_tf ?_; assumption) | (refine w_ft ?_; assumption))) | (((with_reducible refine gS ?_); apply Es_xs); rfl; rfl; refine LStep_boxN rfl rfl rfl rfl rfl rfl; rfl) | (with_reducible refine Es_nil ?_) | (with_reducible refine then_n ?_) | ((with_reducible refine gR ?_); first | refine ret1 rfl ?_ | refine ret2 rfl rfl ?_ | refine ret0 ?_ | refine end1 rfl ?_ | refine end0 ?_))
  rfl
set_option maxRecDepth 10000 in
theorem jd4_ac (a b : Cl) : AC Try.prog 40 [.agg a.cs, .agg b.cs] [] [] (fun r _ => r = .d (.sc (.int .i64 (cI b.am a.am)))) := by
  have c := cmpJ_ac b.am a.am
  refine AC_enter Try.func40 rfl Try.ntmps40 (rv := [.tmp 4]) rfl rfl (by simp) (fun w X G => ?_)
  repeat' (first | ((with_reducible refine gA ?_); (first | refine AW_seq ?_ | refine AW_region ?_ | refine AW_ret ?_)) | ((with_reducible refine gS ?_); refine Es_s (T := Try.tab) rfl rfl rfl rfl ?_) | (((with_reducible refine gS ?_); apply Es_q); rfl; rfl; refine LStep_call (c) rfl rfl rfl rfl) | (refine Es_skip rfl ?_ rfl ?_; (first | rfl | (refine w_tf ?_; assumption) | (refine w_ft ?_; assumption))) | (((with_reducible refine gS ?_); apply Es_xs); rfl; rfl; refine LStep_boxN rfl rfl rfl rfl rfl rfl; rfl) | (with_reducible refine Es_nil ?_) | (with_reducible refine then_n ?_) | ((with_reducible refine gR ?_); first | refine ret1 rfl ?_ | refine ret2 rfl rfl ?_ | refine ret0 ?_ | refine end1 rfl ?_ | refine end0 ?_))
  rfl
set_option maxRecDepth 10000 in
theorem jd5_ac (a b : Cl) : AC Try.prog 42 [.agg a.cs, .agg b.cs] [] [] (fun r _ => r = .d (.sc (.int .i64 (cS a.th b.th)))) := by
  have c := cmpS_ac a.th b.th
  refine AC_enter Try.func42 rfl Try.ntmps42 (rv := [.tmp 4]) rfl rfl (by simp) (fun w X G => ?_)
  repeat' (first | ((with_reducible refine gA ?_); (first | refine AW_seq ?_ | refine AW_region ?_ | refine AW_ret ?_)) | ((with_reducible refine gS ?_); refine Es_s (T := Try.tab) rfl rfl rfl rfl ?_) | (((with_reducible refine gS ?_); apply Es_q); rfl; rfl; refine LStep_call (c) rfl rfl rfl rfl) | (refine Es_skip rfl ?_ rfl ?_; (first | rfl | (refine w_tf ?_; assumption) | (refine w_ft ?_; assumption))) | (((with_reducible refine gS ?_); apply Es_xs); rfl; rfl; refine LStep_boxN rfl rfl rfl rfl rfl rfl; rfl) | (with_reducible refine Es_nil ?_) | (with_reducible refine then_n ?_) | ((with_reducible refine gR ?_); first | refine ret1 rfl ?_ | refine ret2 rfl rfl ?_ | refine ret0 ?_ | refine end1 rfl ?_ | refine end0 ?_))
  rfl
def whyS (a b : Cl) : ByteArray := if cI a.rt b.rt ≠ 0 then ⟨#[114, 105, 103, 104, 116]⟩ else if cI a.dy b.dy ≠ 0 then ⟨#[100, 97, 121]⟩ else if cS a.nm b.nm ≠ 0 then ⟨#[110, 97, 109, 101]⟩ else if cI b.am a.am ≠ 0 then ⟨#[97, 109, 111, 117, 110, 116]⟩ else if cS a.th b.th ≠ 0 then ⟨#[116, 104, 105, 110, 103]⟩ else ⟨#[115, 97, 109, 101]⟩
set_option maxRecDepth 10000 in
set_option maxHeartbeats 8000000 in
theorem judge_ac (a b : Cl) : AC Try.prog 25 [.agg a.cs, .agg b.cs] [] [] (fun r _ => r = .tup [.d (.sc (.string (whyS a b))), .d (.sc (.int .i64 (jdg a b)))]) := by
  have c1 := KpNil (jd1_ac a b)
  have c2 := KpNil (jd2_ac a b)
  have c3 := KpNil (jd3_ac a b)
  have c4 := KpNil (jd4_ac a b)
  have c5 := KpNil (jd5_ac a b)
  unfold whyS jdg
  generalize cI a.rt b.rt = k1 at *
  generalize cI a.dy b.dy = k2 at *
  generalize cS a.nm b.nm = k3 at *
  generalize cI b.am a.am = k4 at *
  generalize cS a.th b.th = k5 at *
  have gT : ∀ {k : Int}, k ≠ 0 → (!(eqb k 0)) = true := fun h => by rw [eqb_f.2 h]; rfl
  have gF : ∀ {k : Int}, k = 0 → (!(eqb k 0)) = false := fun h => by rw [eqb_t.2 h]; rfl
  by_cases h1 : k1 = 0
  · have g1 := gF h1
    rw [if_neg (show ¬ k1 ≠ 0 by simp [h1]), if_neg (show ¬ k1 ≠ 0 by simp [h1])]
    by_cases h2 : k2 = 0
    · have g2 := gF h2
      rw [if_neg (show ¬ k2 ≠ 0 by simp [h2]), if_neg (show ¬ k2 ≠ 0 by simp [h2])]
      by_cases h3 : k3 = 0
      · have g3 := gF h3
        rw [if_neg (show ¬ k3 ≠ 0 by simp [h3]), if_neg (show ¬ k3 ≠ 0 by simp [h3])]
        by_cases h4 : k4 = 0
        · have g4 := gF h4
          rw [if_neg (show ¬ k4 ≠ 0 by simp [h4]), if_neg (show ¬ k4 ≠ 0 by simp [h4])]
          by_cases h5 : k5 = 0
          · have g5 := gF h5
            rw [if_neg (show ¬ k5 ≠ 0 by simp [h5]), h5]
            refine AC_enter Try.func25 rfl Try.ntmps25 (rv := [.tmp 4, .tmp 5]) rfl rfl (by simp) (fun w X G => ?_)
            repeat' (first | ((with_reducible refine gA ?_); (first | refine AW_seq ?_ | refine AW_region ?_ | refine AW_block ?_)) | ((with_reducible refine gS ?_); refine Es_s (T := Try.tab) rfl rfl rfl rfl ?_) | (((with_reducible refine gS ?_); apply Es_q); rfl; rfl; (first | refine LStep_wrap (T := Try.tab) rfl rfl | (refine LStep_litA (T := Try.tab) rfl rfl rfl rfl rfl rfl rfl ?_; (refine Nat.le_of_ble_eq_true ?_; rfl)) | refine LStep_buildN (T := Try.tab) rfl rfl rfl rfl rfl rfl rfl)) | (refine Es_skip rfl ?_ rfl ?_; (first | rfl | (refine w_tf ?_; assumption) | (refine w_ft ?_; assumption))) | (((with_reducible refine gS ?_); apply Es_xs); rfl; rfl; refine LStep_boxN rfl rfl rfl rfl rfl rfl; rfl) | (with_reducible refine Es_nil ?_) | (with_reducible refine then_n ?_))
            refine AW_rounds 6 ?_
            repeat' (first | ((with_reducible refine gRd ?_); refine rounds_stepD [7, 17, 18, 19, 20, 21, 22, 23, 24, 8, 25, 26, 27, 28, 29, 30] [7] ?_) | ((with_reducible refine gA ?_); (first | refine AW_seq ?_ | refine AW_region ?_ | (refine AW_condN rfl ?_ ?_; assumption) | (refine AW_cond rfl (fun hc => ?_) (fun hc => ?_) <;> try (exfalso; simp only [cmpL] at hc; omega)) | refine AW_block ?_ | refine AW_ret ?_ | refine AW_skip ?_ | refine AW_exit ?_)) | ((with_reducible refine gS ?_); refine Es_s (T := Try.tab) rfl rfl rfl rfl ?_) | (((with_reducible refine gS ?_); apply Es_q); rfl; rfl; (first | refine LStep_callB c1 rfl rfl trivial rfl rfl | refine LStep_callB c2 rfl rfl trivial rfl rfl | refine LStep_callB c3 rfl rfl trivial rfl rfl | refine LStep_callB c4 rfl rfl trivial rfl rfl | refine LStep_callB c5 rfl rfl trivial rfl rfl)) | (((with_reducible refine gS ?_); apply Es_q); rfl; rfl; (first | (refine LStep_add rfl rfl rfl rfl ?_; (refine IntWalk.i64_in _ ?_; first | omega | (simp only [cmps] at *; omega))) | (refine LStep_indexA (T := Try.tab) (c := ?_) rfl rfl rfl rfl rfl rfl ?_ ?_; rotate_left; omega; (first | assumption | rfl)))) | (refine Es_skip rfl ?_ rfl ?_; (first | rfl | (refine w_tf ?_; assumption) | (refine w_ft ?_; assumption))) | (((with_reducible refine gS ?_); apply Es_xs); rfl; rfl; refine LStep_allocN (T := Try.tab) rfl rfl rfl rfl rfl rfl; rfl) | (((with_reducible refine gS ?_); apply Es_xn); rfl; rfl; (refine LStep_storeN (T := Try.tab) rfl rfl rfl rfl rfl rfl rfl ?_ rfl; (refine Nat.le_of_ble_eq_true ?_; rfl)); rfl) | (with_reducible refine Es_nil ?_) | (with_reducible refine then_n ?_) | (with_reducible refine then_e ?_) | (with_reducible refine block_n ?_) | ((with_reducible refine block_e ?_ ?_); rfl) | ((with_reducible refine gR ?_); first | refine ret1 rfl ?_ | refine ret2 rfl rfl ?_ | refine ret0 ?_ | refine end1 rfl ?_ | refine end0 ?_))
            all_goals first
              | rfl
              | trace_state
          · have g5 := gT h5
            rw [if_pos h5]
            refine AC_enter Try.func25 rfl Try.ntmps25 (rv := [.tmp 4, .tmp 5]) rfl rfl (by simp) (fun w X G => ?_)
            repeat' (first | ((with_reducible refine gA ?_); (first | refine AW_seq ?_ | refine AW_region ?_ | refine AW_block ?_)) | ((with_reducible refine gS ?_); refine Es_s (T := Try.tab) rfl rfl rfl rfl ?_) | (((with_reducible refine gS ?_); apply Es_q); rfl; rfl; (first | refine LStep_wrap (T := Try.tab) rfl rfl | (refine LStep_litA (T := Try.tab) rfl rfl rfl rfl rfl rfl rfl ?_; (refine Nat.le_of_ble_eq_true ?_; rfl)) | refine LStep_buildN (T := Try.tab) rfl rfl rfl rfl rfl rfl rfl)) | (refine Es_skip rfl ?_ rfl ?_; (first | rfl | (refine w_tf ?_; assumption) | (refine w_ft ?_; assumption))) | (((with_reducible refine gS ?_); apply Es_xs); rfl; rfl; refine LStep_boxN rfl rfl rfl rfl rfl rfl; rfl) | (with_reducible refine Es_nil ?_) | (with_reducible refine then_n ?_))
            refine AW_rounds 6 ?_
            repeat' (first | ((with_reducible refine gRd ?_); refine rounds_stepD [7, 17, 18, 19, 20, 21, 22, 23, 24, 8, 25, 26, 27, 28, 29, 30] [7] ?_) | ((with_reducible refine gA ?_); (first | refine AW_seq ?_ | refine AW_region ?_ | (refine AW_condY rfl ?_ ?_; assumption) | (refine AW_condN rfl ?_ ?_; assumption) | (refine AW_cond rfl (fun hc => ?_) (fun hc => ?_) <;> try (exfalso; simp only [cmpL] at hc; omega)) | refine AW_block ?_ | refine AW_ret ?_ | refine AW_skip ?_)) | ((with_reducible refine gS ?_); refine Es_s (T := Try.tab) rfl rfl rfl rfl ?_) | (((with_reducible refine gS ?_); apply Es_q); rfl; rfl; (first | refine LStep_callB c1 rfl rfl trivial rfl rfl | refine LStep_callB c2 rfl rfl trivial rfl rfl | refine LStep_callB c3 rfl rfl trivial rfl rfl | refine LStep_callB c4 rfl rfl trivial rfl rfl | refine LStep_callB c5 rfl rfl trivial rfl rfl)) | (((with_reducible refine gS ?_); apply Es_q); rfl; rfl; (first | (refine LStep_add rfl rfl rfl rfl ?_; (refine IntWalk.i64_in _ ?_; first | omega | (simp only [cmps] at *; omega))) | (refine LStep_indexA (T := Try.tab) (c := ?_) rfl rfl rfl rfl rfl rfl ?_ ?_; rotate_left; omega; (first | assumption | rfl)))) | (refine Es_skip rfl ?_ rfl ?_; (first | rfl | (refine w_tf ?_; assumption) | (refine w_ft ?_; assumption))) | (((with_reducible refine gS ?_); apply Es_xs); rfl; rfl; refine LStep_allocN (T := Try.tab) rfl rfl rfl rfl rfl rfl; rfl) | (((with_reducible refine gS ?_); apply Es_xn); rfl; rfl; (refine LStep_storeN (T := Try.tab) rfl rfl rfl rfl rfl rfl rfl ?_ rfl; (refine Nat.le_of_ble_eq_true ?_; rfl)); rfl) | (with_reducible refine Es_nil ?_) | (with_reducible refine then_n ?_) | (with_reducible refine then_r ?_) | (with_reducible refine block_n ?_) | (with_reducible refine block_r ?_) | ((with_reducible refine gR ?_); first | refine ret1 rfl ?_ | refine ret2 rfl rfl ?_ | refine ret0 ?_ | refine end1 rfl ?_ | refine end0 ?_))
            all_goals first
              | rfl
              | trace_state
        · have g4 := gT h4
          rw [if_pos h4, if_pos h4]
          refine AC_enter Try.func25 rfl Try.ntmps25 (rv := [.tmp 4, .tmp 5]) rfl rfl (by simp) (fun w X G => ?_)
          repeat' (first | ((with_reducible refine gA ?_); (first | refine AW_seq ?_ | refine AW_region ?_ | refine AW_block ?_)) | ((with_reducible refine gS ?_); refine Es_s (T := Try.tab) rfl rfl rfl rfl ?_) | (((with_reducible refine gS ?_); apply Es_q); rfl; rfl; (first | refine LStep_wrap (T := Try.tab) rfl rfl | (refine LStep_litA (T := Try.tab) rfl rfl rfl rfl rfl rfl rfl ?_; (refine Nat.le_of_ble_eq_true ?_; rfl)) | refine LStep_buildN (T := Try.tab) rfl rfl rfl rfl rfl rfl rfl)) | (refine Es_skip rfl ?_ rfl ?_; (first | rfl | (refine w_tf ?_; assumption) | (refine w_ft ?_; assumption))) | (((with_reducible refine gS ?_); apply Es_xs); rfl; rfl; refine LStep_boxN rfl rfl rfl rfl rfl rfl; rfl) | (with_reducible refine Es_nil ?_) | (with_reducible refine then_n ?_))
          refine AW_rounds 6 ?_
          repeat' (first | ((with_reducible refine gRd ?_); refine rounds_stepD [7, 17, 18, 19, 20, 21, 22, 23, 24, 8, 25, 26, 27, 28, 29, 30] [7] ?_) | ((with_reducible refine gA ?_); (first | refine AW_seq ?_ | refine AW_region ?_ | (refine AW_condY rfl ?_ ?_; assumption) | (refine AW_condN rfl ?_ ?_; assumption) | (refine AW_cond rfl (fun hc => ?_) (fun hc => ?_) <;> try (exfalso; simp only [cmpL] at hc; omega)) | refine AW_block ?_ | refine AW_ret ?_ | refine AW_skip ?_)) | ((with_reducible refine gS ?_); refine Es_s (T := Try.tab) rfl rfl rfl rfl ?_) | (((with_reducible refine gS ?_); apply Es_q); rfl; rfl; (first | refine LStep_callB c1 rfl rfl trivial rfl rfl | refine LStep_callB c2 rfl rfl trivial rfl rfl | refine LStep_callB c3 rfl rfl trivial rfl rfl | refine LStep_callB c4 rfl rfl trivial rfl rfl)) | (((with_reducible refine gS ?_); apply Es_q); rfl; rfl; (first | (refine LStep_add rfl rfl rfl rfl ?_; (refine IntWalk.i64_in _ ?_; first | omega | (simp only [cmps] at *; omega))) | (refine LStep_indexA (T := Try.tab) (c := ?_) rfl rfl rfl rfl rfl rfl ?_ ?_; rotate_left; omega; (first | assumption | rfl)))) | (refine Es_skip rfl ?_ rfl ?_; (first | rfl | (refine w_tf ?_; assumption) | (refine w_ft ?_; assumption))) | (((with_reducible refine gS ?_); apply Es_xs); rfl; rfl; refine LStep_allocN (T := Try.tab) rfl rfl rfl rfl rfl rfl; rfl) | (((with_reducible refine gS ?_); apply Es_xn); rfl; rfl; (refine LStep_storeN (T := Try.tab) rfl rfl rfl rfl rfl rfl rfl ?_ rfl; (refine Nat.le_of_ble_eq_true ?_; rfl)); rfl) | (with_reducible refine Es_nil ?_) | (with_reducible refine then_n ?_) | (with_reducible refine then_r ?_) | (with_reducible refine block_n ?_) | (with_reducible refine block_r ?_) | ((with_reducible refine gR ?_); first | refine ret1 rfl ?_ | refine ret2 rfl rfl ?_ | refine ret0 ?_ | refine end1 rfl ?_ | refine end0 ?_))
          all_goals first
            | rfl
            | trace_state
      · have g3 := gT h3
        rw [if_pos h3, if_pos h3]
        refine AC_enter Try.func25 rfl Try.ntmps25 (rv := [.tmp 4, .tmp 5]) rfl rfl (by simp) (fun w X G => ?_)
        repeat' (first | ((with_reducible refine gA ?_); (first | refine AW_seq ?_ | refine AW_region ?_ | refine AW_block ?_)) | ((with_reducible refine gS ?_); refine Es_s (T := Try.tab) rfl rfl rfl rfl ?_) | (((with_reducible refine gS ?_); apply Es_q); rfl; rfl; (first | refine LStep_wrap (T := Try.tab) rfl rfl | (refine LStep_litA (T := Try.tab) rfl rfl rfl rfl rfl rfl rfl ?_; (refine Nat.le_of_ble_eq_true ?_; rfl)) | refine LStep_buildN (T := Try.tab) rfl rfl rfl rfl rfl rfl rfl)) | (refine Es_skip rfl ?_ rfl ?_; (first | rfl | (refine w_tf ?_; assumption) | (refine w_ft ?_; assumption))) | (((with_reducible refine gS ?_); apply Es_xs); rfl; rfl; refine LStep_boxN rfl rfl rfl rfl rfl rfl; rfl) | (with_reducible refine Es_nil ?_) | (with_reducible refine then_n ?_))
        refine AW_rounds 6 ?_
        repeat' (first | ((with_reducible refine gRd ?_); refine rounds_stepD [7, 17, 18, 19, 20, 21, 22, 23, 24, 8, 25, 26, 27, 28, 29, 30] [7] ?_) | ((with_reducible refine gA ?_); (first | refine AW_seq ?_ | refine AW_region ?_ | (refine AW_condY rfl ?_ ?_; assumption) | (refine AW_condN rfl ?_ ?_; assumption) | (refine AW_cond rfl (fun hc => ?_) (fun hc => ?_) <;> try (exfalso; simp only [cmpL] at hc; omega)) | refine AW_block ?_ | refine AW_ret ?_ | refine AW_skip ?_)) | ((with_reducible refine gS ?_); refine Es_s (T := Try.tab) rfl rfl rfl rfl ?_) | (((with_reducible refine gS ?_); apply Es_q); rfl; rfl; (first | refine LStep_callB c1 rfl rfl trivial rfl rfl | refine LStep_callB c2 rfl rfl trivial rfl rfl | refine LStep_callB c3 rfl rfl trivial rfl rfl)) | (((with_reducible refine gS ?_); apply Es_q); rfl; rfl; (first | (refine LStep_add rfl rfl rfl rfl ?_; (refine IntWalk.i64_in _ ?_; first | omega | (simp only [cmps] at *; omega))) | (refine LStep_indexA (T := Try.tab) (c := ?_) rfl rfl rfl rfl rfl rfl ?_ ?_; rotate_left; omega; (first | assumption | rfl)))) | (refine Es_skip rfl ?_ rfl ?_; (first | rfl | (refine w_tf ?_; assumption) | (refine w_ft ?_; assumption))) | (((with_reducible refine gS ?_); apply Es_xs); rfl; rfl; refine LStep_allocN (T := Try.tab) rfl rfl rfl rfl rfl rfl; rfl) | (((with_reducible refine gS ?_); apply Es_xn); rfl; rfl; (refine LStep_storeN (T := Try.tab) rfl rfl rfl rfl rfl rfl rfl ?_ rfl; (refine Nat.le_of_ble_eq_true ?_; rfl)); rfl) | (with_reducible refine Es_nil ?_) | (with_reducible refine then_n ?_) | (with_reducible refine then_r ?_) | (with_reducible refine block_n ?_) | (with_reducible refine block_r ?_) | ((with_reducible refine gR ?_); first | refine ret1 rfl ?_ | refine ret2 rfl rfl ?_ | refine ret0 ?_ | refine end1 rfl ?_ | refine end0 ?_))
        all_goals first
          | rfl
          | trace_state
    · have g2 := gT h2
      rw [if_pos h2, if_pos h2]
      refine AC_enter Try.func25 rfl Try.ntmps25 (rv := [.tmp 4, .tmp 5]) rfl rfl (by simp) (fun w X G => ?_)
      repeat' (first | ((with_reducible refine gA ?_); (first | refine AW_seq ?_ | refine AW_region ?_ | refine AW_block ?_)) | ((with_reducible refine gS ?_); refine Es_s (T := Try.tab) rfl rfl rfl rfl ?_) | (((with_reducible refine gS ?_); apply Es_q); rfl; rfl; (first | refine LStep_wrap (T := Try.tab) rfl rfl | (refine LStep_litA (T := Try.tab) rfl rfl rfl rfl rfl rfl rfl ?_; (refine Nat.le_of_ble_eq_true ?_; rfl)) | refine LStep_buildN (T := Try.tab) rfl rfl rfl rfl rfl rfl rfl)) | (refine Es_skip rfl ?_ rfl ?_; (first | rfl | (refine w_tf ?_; assumption) | (refine w_ft ?_; assumption))) | (((with_reducible refine gS ?_); apply Es_xs); rfl; rfl; refine LStep_boxN rfl rfl rfl rfl rfl rfl; rfl) | (with_reducible refine Es_nil ?_) | (with_reducible refine then_n ?_))
      refine AW_rounds 6 ?_
      repeat' (first | ((with_reducible refine gRd ?_); refine rounds_stepD [7, 17, 18, 19, 20, 21, 22, 23, 24, 8, 25, 26, 27, 28, 29, 30] [7] ?_) | ((with_reducible refine gA ?_); (first | refine AW_seq ?_ | refine AW_region ?_ | (refine AW_condY rfl ?_ ?_; assumption) | (refine AW_condN rfl ?_ ?_; assumption) | (refine AW_cond rfl (fun hc => ?_) (fun hc => ?_) <;> try (exfalso; simp only [cmpL] at hc; omega)) | refine AW_block ?_ | refine AW_ret ?_ | refine AW_skip ?_)) | ((with_reducible refine gS ?_); refine Es_s (T := Try.tab) rfl rfl rfl rfl ?_) | (((with_reducible refine gS ?_); apply Es_q); rfl; rfl; (first | refine LStep_callB c1 rfl rfl trivial rfl rfl | refine LStep_callB c2 rfl rfl trivial rfl rfl)) | (((with_reducible refine gS ?_); apply Es_q); rfl; rfl; (first | (refine LStep_add rfl rfl rfl rfl ?_; (refine IntWalk.i64_in _ ?_; first | omega | (simp only [cmps] at *; omega))) | (refine LStep_indexA (T := Try.tab) (c := ?_) rfl rfl rfl rfl rfl rfl ?_ ?_; rotate_left; omega; (first | assumption | rfl)))) | (refine Es_skip rfl ?_ rfl ?_; (first | rfl | (refine w_tf ?_; assumption) | (refine w_ft ?_; assumption))) | (((with_reducible refine gS ?_); apply Es_xs); rfl; rfl; refine LStep_allocN (T := Try.tab) rfl rfl rfl rfl rfl rfl; rfl) | (((with_reducible refine gS ?_); apply Es_xn); rfl; rfl; (refine LStep_storeN (T := Try.tab) rfl rfl rfl rfl rfl rfl rfl ?_ rfl; (refine Nat.le_of_ble_eq_true ?_; rfl)); rfl) | (with_reducible refine Es_nil ?_) | (with_reducible refine then_n ?_) | (with_reducible refine then_r ?_) | (with_reducible refine block_n ?_) | (with_reducible refine block_r ?_) | ((with_reducible refine gR ?_); first | refine ret1 rfl ?_ | refine ret2 rfl rfl ?_ | refine ret0 ?_ | refine end1 rfl ?_ | refine end0 ?_))
      all_goals first
        | rfl
        | trace_state
  · have g1 := gT h1
    rw [if_pos h1, if_pos h1]
    refine AC_enter Try.func25 rfl Try.ntmps25 (rv := [.tmp 4, .tmp 5]) rfl rfl (by simp) (fun w X G => ?_)
    repeat' (first | ((with_reducible refine gA ?_); (first | refine AW_seq ?_ | refine AW_region ?_ | refine AW_block ?_)) | ((with_reducible refine gS ?_); refine Es_s (T := Try.tab) rfl rfl rfl rfl ?_) | (((with_reducible refine gS ?_); apply Es_q); rfl; rfl; (first | refine LStep_wrap (T := Try.tab) rfl rfl | (refine LStep_litA (T := Try.tab) rfl rfl rfl rfl rfl rfl rfl ?_; (refine Nat.le_of_ble_eq_true ?_; rfl)) | refine LStep_buildN (T := Try.tab) rfl rfl rfl rfl rfl rfl rfl)) | (refine Es_skip rfl ?_ rfl ?_; (first | rfl | (refine w_tf ?_; assumption) | (refine w_ft ?_; assumption))) | (((with_reducible refine gS ?_); apply Es_xs); rfl; rfl; refine LStep_boxN rfl rfl rfl rfl rfl rfl; rfl) | (with_reducible refine Es_nil ?_) | (with_reducible refine then_n ?_))
    refine AW_rounds 6 ?_
    repeat' (first | ((with_reducible refine gRd ?_); refine rounds_stepD [7, 17, 18, 19, 20, 21, 22, 23, 24, 8, 25, 26, 27, 28, 29, 30] [7] ?_) | ((with_reducible refine gA ?_); (first | refine AW_seq ?_ | refine AW_region ?_ | (refine AW_condY rfl ?_ ?_; assumption) | (refine AW_cond rfl (fun hc => ?_) (fun hc => ?_) <;> try (exfalso; simp only [cmpL] at hc; omega)) | refine AW_block ?_ | refine AW_ret ?_ | refine AW_skip ?_)) | ((with_reducible refine gS ?_); refine Es_s (T := Try.tab) rfl rfl rfl rfl ?_) | (((with_reducible refine gS ?_); apply Es_q); rfl; rfl; refine LStep_callB c1 rfl rfl trivial rfl rfl) | (((with_reducible refine gS ?_); apply Es_q); rfl; rfl; (refine LStep_indexA (T := Try.tab) (c := ?_) rfl rfl rfl rfl rfl rfl ?_ ?_; rotate_left; omega; (first | assumption | rfl))) | (refine Es_skip rfl ?_ rfl ?_; (first | rfl | (refine w_tf ?_; assumption) | (refine w_ft ?_; assumption))) | (((with_reducible refine gS ?_); apply Es_xs); rfl; rfl; refine LStep_allocN (T := Try.tab) rfl rfl rfl rfl rfl rfl; rfl) | (((with_reducible refine gS ?_); apply Es_xn); rfl; rfl; (refine LStep_storeN (T := Try.tab) rfl rfl rfl rfl rfl rfl rfl ?_ rfl; (refine Nat.le_of_ble_eq_true ?_; rfl)); rfl) | (with_reducible refine Es_nil ?_) | (with_reducible refine then_n ?_) | (with_reducible refine then_r ?_) | (with_reducible refine block_r ?_) | ((with_reducible refine gR ?_); first | refine ret1 rfl ?_ | refine ret2 rfl rfl ?_ | refine ret0 ?_ | refine end1 rfl ?_ | refine end0 ?_))
    all_goals first
      | rfl
      | trace_state
set_option maxRecDepth 10000 in
theorem better_ac (a b : Cl) : AC Try.prog 13 [.agg a.cs, .agg b.cs] [] [] (fun r _ => r = .d (.sc (.int .i64 (-(jdg a b))))) := by
  have c := judge_ac a b
  have hi := jdg_in a b
  have e : AV.d (.sc (.int .i64 (wrp .i64 (0 - jdg a b)))) = AV.d (.sc (.int .i64 (-(jdg a b)))) := by rw [wrp_fit (by omega)]; congr 3; omega
  generalize jdg a b = j at *
  refine AC_enter Try.func13 rfl Try.ntmps13 (rv := [.tmp 4]) rfl rfl (by simp) (fun w X G => ?_)
  repeat' (first | ((with_reducible refine gA ?_); (first | refine AW_seq ?_ | refine AW_region ?_ | refine AW_ret ?_)) | (((with_reducible refine gS ?_); apply Es_q); rfl; rfl; refine LStep_fitQ (T := Try.tab) rfl rfl e) | ((with_reducible refine gS ?_); refine Es_s (T := Try.tab) rfl rfl rfl rfl ?_) | (((with_reducible refine gS ?_); apply Es_q); rfl; rfl; refine LStep_call (c) rfl rfl rfl rfl) | (refine Es_skip rfl ?_ rfl ?_; (first | rfl | (refine w_tf ?_; assumption) | (refine w_ft ?_; assumption))) | (((with_reducible refine gS ?_); apply Es_xs); rfl; rfl; refine LStep_boxN rfl rfl rfl rfl rfl rfl; rfl) | (with_reducible refine Es_nil ?_) | (with_reducible refine then_n ?_) | ((with_reducible refine gR ?_); first | refine ret1 rfl ?_ | refine ret2 rfl rfl ?_ | refine ret0 ?_ | refine end1 rfl ?_ | refine end0 ?_))
  rfl
set_option maxRecDepth 10000 in
theorem why_ac (a b : Cl) : AC Try.prog 14 [.agg a.cs, .agg b.cs] [] [] (fun r _ => r = .d (.sc (.string (whyS a b)))) := by
  have c := judge_ac a b
  generalize jdg a b = j at *
  refine AC_enter Try.func14 rfl Try.ntmps14 (rv := [.tmp 4]) rfl rfl (by simp) (fun w X G => ?_)
  repeat' (first | ((with_reducible refine gA ?_); (first | refine AW_seq ?_ | refine AW_region ?_ | refine AW_ret ?_)) | ((with_reducible refine gS ?_); refine Es_s (T := Try.tab) rfl rfl rfl rfl ?_) | (((with_reducible refine gS ?_); apply Es_q); rfl; rfl; refine LStep_call (c) rfl rfl rfl rfl) | (refine Es_skip rfl ?_ rfl ?_; (first | rfl | (refine w_tf ?_; assumption) | (refine w_ft ?_; assumption))) | (((with_reducible refine gS ?_); apply Es_xs); rfl; rfl; refine LStep_boxN rfl rfl rfl rfl rfl rfl; rfl) | (with_reducible refine Es_nil ?_) | (with_reducible refine then_n ?_) | ((with_reducible refine gR ?_); first | refine ret1 rfl ?_ | refine ret2 rfl rfl ?_ | refine ret0 ?_ | refine end1 rfl ?_ | refine end0 ?_))
  rfl
set_option maxRecDepth 10000 in
theorem rank1_ac (a b : Cl) : AC Try.prog 28 [.agg a.cs, .agg b.cs] [] [] (fun r _ => r = .d (.sc (.int .i64 (jdg a b)))) := by
  have c := better_ac a b
  have hi := jdg_in a b
  have e : AV.d (.sc (.int .i64 (wrp .i64 (0 - -(jdg a b))))) = AV.d (.sc (.int .i64 (jdg a b))) := by rw [wrp_fit (by omega)]; congr 3; omega
  generalize jdg a b = j at *
  refine AC_enter Try.func28 rfl Try.ntmps28 (rv := [.tmp 4]) rfl rfl (by simp) (fun w X G => ?_)
  repeat' (first | ((with_reducible refine gA ?_); (first | refine AW_seq ?_ | refine AW_region ?_ | refine AW_ret ?_)) | (((with_reducible refine gS ?_); apply Es_q); rfl; rfl; refine LStep_fitQ (T := Try.tab) rfl rfl e) | ((with_reducible refine gS ?_); refine Es_s (T := Try.tab) rfl rfl rfl rfl ?_) | (((with_reducible refine gS ?_); apply Es_q); rfl; rfl; refine LStep_call (c) rfl rfl rfl rfl) | (refine Es_skip rfl ?_ rfl ?_; (first | rfl | (refine w_tf ?_; assumption) | (refine w_ft ?_; assumption))) | (((with_reducible refine gS ?_); apply Es_xs); rfl; rfl; refine LStep_boxN rfl rfl rfl rfl rfl rfl; rfl) | (with_reducible refine Es_nil ?_) | (with_reducible refine then_n ?_) | ((with_reducible refine gR ?_); first | refine ret1 rfl ?_ | refine ret2 rfl rfl ?_ | refine ret0 ?_ | refine end1 rfl ?_ | refine end0 ?_))
  rfl
/-! ### the document's Better -/
end Go.Proofs.Ytldfncafkdmoiaa
