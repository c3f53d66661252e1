import Derived.Test.YtnalpielhpmnfaaKA
namespace Go.Proofs.Ytnalpielhpmnfaa
open Go.SL
/-! ### the document's May, Scale, Convert; RateConverts -/
set_option maxRecDepth 10000 in
set_option maxHeartbeats 1000000 in
theorem rMMay_ac (m : Mon) : AC Try.prog 42 [mnV m] [] [] (fun r _ => r = .d (.sc (.bool (mMay m)))) := by
  have c1 := rCur_ac m.1
  have hsp := @mMay_t m
  unfold mnV
  generalize curOk m.1 = a at *
  refine AC_enter Try.func42 rfl Try.ntmps42 (rv := [.tmp 2]) rfl rfl (by simp) (fun w X G => ?_)
  repeat' (first | ((with_reducible refine gA ?_); (first | refine AW_seq ?_ | refine AW_region ?_ | refine AW_ret ?_)) | ((with_reducible refine gS ?_); refine Es_s (T := Try.tab) rfl rfl rfl rfl ?_) | (((with_reducible refine gS ?_); apply Es_q); rfl; (first | rfl | (refine w_tt ?_; assumption)); refine LStep_call (c1) rfl rfl rfl rfl) | (((with_reducible refine gS ?_); apply Es_q); rfl; (first | rfl | (refine w_tt ?_; assumption)); (first | refine LStep_simp (T := Try.tab) rfl rfl | (refine LStep_pickT rfl rfl ?_ rfl rfl; assumption) | (refine LStep_pickF rfl rfl ?_ rfl rfl; assumption))) | (refine Es_skip rfl ?_ rfl ?_; (first | rfl | (refine w_tf ?_; assumption) | (refine w_ft ?_; assumption))) | (((with_reducible refine gS ?_); apply Es_xs); rfl; rfl; refine LStep_boxN rfl rfl rfl rfl rfl rfl; rfl) | (refine Es_split rfl ?_ (fun _ => ?_) (fun _ => ?_); ((fail_if_success (refine und_t ?_; assumption)); (fail_if_success (refine und_f ?_; assumption)); exact trivial)) | (with_reducible refine Es_nil ?_) | (with_reducible refine then_n ?_) | ((with_reducible refine gR ?_); first | refine ret1 rfl ?_ | refine ret2 rfl rfl ?_ | refine ret0 ?_ | refine end1 rfl ?_ | refine end0 ?_))
  all_goals try simp only [cmps] at *
  all_goals first
    | (refine avB ?_; rw [hsp, leb_t]; constructor <;> intro hq <;> first | exact ⟨‹_›, by omega, by omega⟩ | omega)
    | (refine avB ?_; rw [hsp]; constructor <;> intro hq <;> first | (cases hq; done) | (exfalso; simp_all; done) | (exfalso; omega))
    | trace_state
theorem scaleR_pos (N n d : Nat) : scaleR (N : Int) n d = if N * n / d ≤ 1099511627776 then some (((N * n / d : Nat) : Int)) else none := by
  unfold scaleR sgn
  rw [Int.natAbs_natCast, if_neg (show ¬ ((N : Int) < 0) by omega)]
theorem scaleR_neg (N n d : Nat) (h : 0 < N) : scaleR (-(N : Int)) n d = if N * n / d ≤ 1099511627776 then some (-((N * n / d : Nat) : Int)) else none := by
  unfold scaleR sgn
  rw [Int.natAbs_neg, Int.natAbs_natCast, if_pos (show (-(N : Int) < 0) by omega)]
set_option maxRecDepth 10000 in
set_option maxHeartbeats 4000000 in
theorem rScalePos_ac (c : ByteArray) (N n d : Nat) (hc : curOk c = true) (hN : N ≤ 1099511627776) (hn : n ≤ 1152921504606846976) (hd : 0 < d) (hd2 : d ≤ 1152921504606846976) : AC Try.prog 43 [mnV (c, (N : Int)), rtV ((n : Int), (d : Int)), .d (.sc (.int .i64 0))] [] [] (fun r _ => r = scV c (scaleR (N : Int) n d)) := by
  have c1 := rMMay_ac (c, (N : Int))
  rw [show mMay (c, (N : Int)) = true from mMay_t.2 ⟨hc, by dsimp only; omega, by dsimp only; omega⟩] at c1
  have c2 := rRight_ac n d hd
  have c3 := rParts_ac N n d (by omega) hn hd hd2
  have c4 := rMMay_ac (c, ((N * n / d : Nat) : Int))
  rw [scaleR_pos]
  have hq0 := Int.natCast_nonneg (N * n / d)
  have hsm := @ptV_small N n d
  have hbg := @ptV_big N n d
  have hm4 := @mMay_t (c, ((N * n / d : Nat) : Int))
  dsimp only at hm4
  by_cases hb : N * n / d ≤ 2199023255552
  · rw [hsm hb] at c3
    clear hsm hbg
    by_cases hs : N * n / d ≤ 1099511627776
    · rw [if_pos hs, scV_some]
      rw [hm4.2 ⟨hc, by omega, by omega⟩] at c4
      unfold mnV rtV at *
      dsimp only at c1 c2 c4
      generalize N * n / d = Q at *
      generalize N * n % d = R at *
      refine AC_enterG Try.tab Try.func43 rfl Try.ntmps43 (rv := [.cell 6 40, .tmp 7]) rfl rfl (by simp) (fun w X G => ?_)
      repeat' (first | ((with_reducible refine gA ?_); (first | refine AW_seq ?_ | refine AW_region ?_ | refine AW_condT rfl ?_ | refine AW_condF rfl ?_ | (refine AW_condN rfl ?_ ?_; assumption) | (refine AW_cond rfl (fun hc => ?_) (fun hc => ?_) <;> try (exfalso; simp only [cmpL] at hc; omega)) | refine AW_ret ?_ | refine AW_skip ?_)) | ((with_reducible refine gS ?_); refine Es_s (T := Try.tab) rfl rfl rfl rfl ?_) | (((with_reducible refine gS ?_); apply Es_q); rfl; (first | rfl | (refine w_tt ?_; assumption) | (refine w_ff ?_; assumption)); (first | refine LStep_call (c1) rfl rfl rfl rfl | refine LStep_call (c2) rfl rfl rfl rfl | refine LStep_call (c3) rfl rfl rfl rfl | refine LStep_call (c4) rfl rfl rfl rfl)) | (((with_reducible refine gS ?_); apply Es_q); rfl; (first | rfl | (refine w_tt ?_; assumption) | (refine w_ff ?_; assumption)); (first | refine LStep_simp (T := Try.tab) rfl rfl | (refine LStep_add rfl rfl rfl rfl ?_; (refine IntWalk.i64_in _ ?_; first | omega | (simp only [cmps] at *; omega))) | refine LStep_wrap (T := Try.tab) rfl rfl | (refine LStep_pickT rfl rfl ?_ rfl rfl; assumption) | (refine LStep_pickF rfl rfl ?_ rfl rfl; assumption) | refine LStep_buildN (T := Try.tab) rfl rfl rfl rfl rfl rfl rfl)) | (refine Es_skip rfl ?_ rfl ?_; (first | rfl | (refine w_tf ?_; assumption) | (refine w_ft ?_; assumption))) | (((with_reducible refine gS ?_); apply Es_xs); rfl; rfl; (first | refine LStep_boxN rfl rfl rfl rfl rfl rfl | refine LStep_allocN (T := Try.tab) rfl rfl rfl rfl rfl rfl); rfl) | (((with_reducible refine gS ?_); apply Es_xn); rfl; rfl; (refine LStep_storeN (T := Try.tab) rfl rfl rfl rfl rfl rfl rfl ?_ rfl; (refine Nat.le_of_ble_eq_true ?_; rfl)); rfl) | (refine Es_split rfl ?_ (fun _ => ?_) (fun _ => ?_); ((fail_if_success (refine und_t ?_; assumption)); (fail_if_success (refine und_f ?_; assumption)); exact trivial)) | (with_reducible refine Es_nil ?_) | (with_reducible refine then_n ?_) | (with_reducible refine then_r ?_) | ((with_reducible refine gRG ?_); first | refine retGa rfl ?_ | refine retGb rfl ?_ | refine retGc rfl ?_ | refine retG1 rfl rfl ?_ | refine endG1 rfl rfl ?_))
      all_goals try simp only [cmps] at *
      all_goals first
        | (exfalso; omega)
        | (exfalso; contradiction)
        | rfl
        | trace_state
    · rw [if_neg hs, scV_none]
      rw [show mMay (c, ((N * n / d : Nat) : Int)) = false from by
        cases hq : mMay (c, ((N * n / d : Nat) : Int)) with
        | false => rfl
        | true => exact absurd (hm4.1 hq).2.2 (by omega)] at c4
      unfold mnV rtV at *
      dsimp only at c1 c2 c4
      clear hm4
      generalize N * n / d = Q at *
      generalize N * n % d = R at *
      refine AC_enterG Try.tab Try.func43 rfl Try.ntmps43 (rv := [.cell 6 40, .tmp 7]) rfl rfl (by simp) (fun w X G => ?_)
      repeat' (first | ((with_reducible refine gA ?_); (first | refine AW_seq ?_ | refine AW_region ?_ | refine AW_condT rfl ?_ | refine AW_condF rfl ?_ | (refine AW_condN rfl ?_ ?_; assumption) | (refine AW_cond rfl (fun hc => ?_) (fun hc => ?_) <;> try (exfalso; simp only [cmpL] at hc; omega)) | refine AW_ret ?_ | refine AW_skip ?_)) | ((with_reducible refine gS ?_); refine Es_s (T := Try.tab) rfl rfl rfl rfl ?_) | (((with_reducible refine gS ?_); apply Es_q); rfl; (first | rfl | (refine w_tt ?_; assumption) | (refine w_ff ?_; assumption)); (first | refine LStep_call (c1) rfl rfl rfl rfl | refine LStep_call (c2) rfl rfl rfl rfl | refine LStep_call (c3) rfl rfl rfl rfl | refine LStep_call (c4) rfl rfl rfl rfl)) | (((with_reducible refine gS ?_); apply Es_q); rfl; (first | rfl | (refine w_tt ?_; assumption) | (refine w_ff ?_; assumption)); (first | refine LStep_simp (T := Try.tab) rfl rfl | (refine LStep_add rfl rfl rfl rfl ?_; (refine IntWalk.i64_in _ ?_; first | omega | (simp only [cmps] at *; omega))) | refine LStep_wrap (T := Try.tab) rfl rfl | (refine LStep_pickT rfl rfl ?_ rfl rfl; assumption) | (refine LStep_pickF rfl rfl ?_ rfl rfl; assumption) | refine LStep_buildN (T := Try.tab) rfl rfl rfl rfl rfl rfl rfl)) | (refine Es_skip rfl ?_ rfl ?_; (first | rfl | (refine w_tf ?_; assumption) | (refine w_ft ?_; assumption))) | (((with_reducible refine gS ?_); apply Es_xs); rfl; rfl; (first | refine LStep_boxN rfl rfl rfl rfl rfl rfl | refine LStep_allocN (T := Try.tab) rfl rfl rfl rfl rfl rfl); rfl) | (((with_reducible refine gS ?_); apply Es_xn); rfl; rfl; (refine LStep_storeN (T := Try.tab) rfl rfl rfl rfl rfl rfl rfl ?_ rfl; (refine Nat.le_of_ble_eq_true ?_; rfl)); rfl) | (refine Es_split rfl ?_ (fun _ => ?_) (fun _ => ?_); ((fail_if_success (refine und_t ?_; assumption)); (fail_if_success (refine und_f ?_; assumption)); exact trivial)) | (with_reducible refine Es_nil ?_) | (with_reducible refine then_n ?_) | (with_reducible refine then_r ?_) | ((with_reducible refine gRG ?_); first | refine retGa rfl ?_ | refine retGb rfl ?_ | refine retGc rfl ?_ | refine retG1 rfl rfl ?_ | refine endG1 rfl rfl ?_))
      all_goals try simp only [cmps] at *
      all_goals first
        | (exfalso; omega)
        | (exfalso; contradiction)
        | rfl
        | trace_state
  · rw [hbg hb] at c3
    rw [if_neg (by omega), scV_none]
    clear hm4 c4 hsm hbg
    unfold mnV rtV at *
    dsimp only at c1 c2
    refine AC_enterG Try.tab Try.func43 rfl Try.ntmps43 (rv := [.cell 6 40, .tmp 7]) rfl rfl (by simp) (fun w X G => ?_)
    repeat' (first | ((with_reducible refine gA ?_); (first | refine AW_seq ?_ | refine AW_region ?_ | refine AW_condT rfl ?_ | (refine AW_cond rfl (fun hc => ?_) (fun hc => ?_) <;> try (exfalso; simp only [cmpL] at hc; omega)) | refine AW_ret ?_ | refine AW_skip ?_)) | ((with_reducible refine gS ?_); refine Es_s (T := Try.tab) rfl rfl rfl rfl ?_) | (((with_reducible refine gS ?_); apply Es_q); rfl; (first | rfl | (refine w_ff ?_; assumption)); (first | refine LStep_call (c1) rfl rfl rfl rfl | refine LStep_call (c2) rfl rfl rfl rfl | refine LStep_call (c3) rfl rfl rfl rfl)) | (((with_reducible refine gS ?_); apply Es_q); rfl; (first | rfl | (refine w_ff ?_; assumption)); (first | refine LStep_simp (T := Try.tab) rfl rfl | (refine LStep_pickT rfl rfl ?_ rfl rfl; assumption) | (refine LStep_pickF rfl rfl ?_ rfl rfl; assumption) | refine LStep_buildN (T := Try.tab) rfl rfl rfl rfl rfl rfl rfl)) | (refine Es_skip rfl ?_ rfl ?_; (first | rfl | (refine w_tf ?_; assumption) | (refine w_ft ?_; assumption))) | (((with_reducible refine gS ?_); apply Es_xs); rfl; rfl; (first | refine LStep_boxN rfl rfl rfl rfl rfl rfl | refine LStep_allocN (T := Try.tab) rfl rfl rfl rfl rfl rfl); rfl) | (((with_reducible refine gS ?_); apply Es_xn); rfl; rfl; (refine LStep_storeN (T := Try.tab) rfl rfl rfl rfl rfl rfl rfl ?_ rfl; (refine Nat.le_of_ble_eq_true ?_; rfl)); rfl) | (refine Es_split rfl ?_ (fun _ => ?_) (fun _ => ?_); ((fail_if_success (refine und_t ?_; assumption)); (fail_if_success (refine und_f ?_; assumption)); exact trivial)) | (with_reducible refine Es_nil ?_) | (with_reducible refine then_n ?_) | (with_reducible refine then_r ?_) | ((with_reducible refine gRG ?_); first | refine retGa rfl ?_ | refine retGb rfl ?_ | refine retGc rfl ?_ | refine retG1 rfl rfl ?_ | refine endG1 rfl rfl ?_))
    all_goals try simp only [cmps] at *
    all_goals first
      | (exfalso; omega)
      | (exfalso; contradiction)
      | rfl
      | trace_state
set_option maxRecDepth 10000 in
set_option maxHeartbeats 4000000 in
theorem rScaleNeg_ac (c : ByteArray) (N n d : Nat) (h0 : 0 < N) (hc : curOk c = true) (hN : N ≤ 1099511627776) (hn : n ≤ 1152921504606846976) (hd : 0 < d) (hd2 : d ≤ 1152921504606846976) : AC Try.prog 43 [mnV (c, -(N : Int)), rtV ((n : Int), (d : Int)), .d (.sc (.int .i64 0))] [] [] (fun r _ => r = scV c (scaleR (-(N : Int)) n d)) := by
  have c1 := rMMay_ac (c, -(N : Int))
  rw [show mMay (c, -(N : Int)) = true from mMay_t.2 ⟨hc, by dsimp only; omega, by dsimp only; omega⟩] at c1
  have c2 := rRight_ac n d hd
  have c3 := rParts_ac N n d (by omega) hn hd hd2
  have c4 := rMMay_ac (c, -((N * n / d : Nat) : Int))
  rw [scaleR_neg N n d h0]
  have hq0 := Int.natCast_nonneg (N * n / d)
  have hsm := @ptV_small N n d
  have hbg := @ptV_big N n d
  have hm4 := @mMay_t (c, -((N * n / d : Nat) : Int))
  dsimp only at hm4
  have en : AV.d (.sc (.int .i64 (wrp .i64 (0 - -(N : Int))))) = .d (.sc (.int .i64 (N : Int))) := by rw [wrp_fit (by omega), show 0 - -(N : Int) = (N : Int) by omega]
  by_cases hb : N * n / d ≤ 2199023255552
  · rw [hsm hb] at c3
    clear hsm hbg
    have eq : AV.d (.sc (.int .i64 (wrp .i64 (0 - ((N * n / d : Nat) : Int))))) = .d (.sc (.int .i64 (-((N * n / d : Nat) : Int)))) := neg_fit (by omega)
    by_cases hs : N * n / d ≤ 1099511627776
    · rw [if_pos hs, scV_some]
      rw [hm4.2 ⟨hc, by omega, by omega⟩] at c4
      unfold mnV rtV at *
      dsimp only at c1 c2 c4
      generalize N * n / d = Q at *
      generalize N * n % d = R at *
      refine AC_enterG Try.tab Try.func43 rfl Try.ntmps43 (rv := [.cell 6 40, .tmp 7]) rfl rfl (by simp) (fun w X G => ?_)
      repeat' (first | ((with_reducible refine gA ?_); (first | refine AW_seq ?_ | refine AW_region ?_ | refine AW_condT rfl ?_ | refine AW_condF rfl ?_ | (refine AW_condY rfl ?_ ?_; assumption) | (refine AW_cond rfl (fun hc => ?_) (fun hc => ?_) <;> try (exfalso; simp only [cmpL] at hc; omega)) | refine AW_ret ?_ | refine AW_skip ?_)) | (((with_reducible refine gS ?_); apply Es_q); rfl; (first | rfl | (refine w_tt ?_; assumption) | (refine w_ff ?_; assumption)); (first | (refine LStep_fitAt (T := Try.tab) (Ts := []) 34 ?_ ?_ ?_ en; exact rfl; exact rfl; exact rfl) | (refine LStep_fitAt (T := Try.tab) (Ts := []) 74 ?_ ?_ ?_ eq; exact rfl; exact rfl; exact rfl))) | ((with_reducible refine gS ?_); refine Es_s (T := Try.tab) rfl rfl rfl rfl ?_) | (((with_reducible refine gS ?_); apply Es_q); rfl; (first | rfl | (refine w_tt ?_; assumption) | (refine w_ff ?_; assumption)); (first | refine LStep_call (c1) rfl rfl rfl rfl | refine LStep_call (c2) rfl rfl rfl rfl | refine LStep_call (c3) rfl rfl rfl rfl | refine LStep_call (c4) rfl rfl rfl rfl)) | (((with_reducible refine gS ?_); apply Es_q); rfl; (first | rfl | (refine w_tt ?_; assumption) | (refine w_ff ?_; assumption)); (first | refine LStep_simp (T := Try.tab) rfl rfl | (refine LStep_add rfl rfl rfl rfl ?_; (refine IntWalk.i64_in _ ?_; first | omega | (simp only [cmps] at *; omega))) | refine LStep_wrap (T := Try.tab) rfl rfl | (refine LStep_pickT rfl rfl ?_ rfl rfl; assumption) | (refine LStep_pickF rfl rfl ?_ rfl rfl; assumption) | refine LStep_buildN (T := Try.tab) rfl rfl rfl rfl rfl rfl rfl)) | (refine Es_skip rfl ?_ rfl ?_; (first | rfl | (refine w_tf ?_; assumption) | (refine w_ft ?_; assumption))) | (((with_reducible refine gS ?_); apply Es_xs); rfl; rfl; (first | refine LStep_boxN rfl rfl rfl rfl rfl rfl | refine LStep_allocN (T := Try.tab) rfl rfl rfl rfl rfl rfl); rfl) | (((with_reducible refine gS ?_); apply Es_xn); rfl; rfl; (refine LStep_storeN (T := Try.tab) rfl rfl rfl rfl rfl rfl rfl ?_ rfl; (refine Nat.le_of_ble_eq_true ?_; rfl)); rfl) | (refine Es_split rfl ?_ (fun _ => ?_) (fun _ => ?_); ((fail_if_success (refine und_t ?_; assumption)); (fail_if_success (refine und_f ?_; assumption)); exact trivial)) | (with_reducible refine Es_nil ?_) | (with_reducible refine then_n ?_) | (with_reducible refine then_r ?_) | ((with_reducible refine gRG ?_); first | refine retGa rfl ?_ | refine retGb rfl ?_ | refine retGc rfl ?_ | refine retG1 rfl rfl ?_ | refine endG1 rfl rfl ?_))
      all_goals try simp only [cmps] at *
      all_goals first
        | (exfalso; omega)
        | (exfalso; contradiction)
        | rfl
        | trace_state
    · rw [if_neg hs, scV_none]
      rw [show mMay (c, -((N * n / d : Nat) : Int)) = false from by
        cases hq : mMay (c, -((N * n / d : Nat) : Int)) with
        | false => rfl
        | true => exact absurd (hm4.1 hq).2.1 (by omega)] at c4
      unfold mnV rtV at *
      dsimp only at c1 c2 c4
      clear hm4
      generalize N * n / d = Q at *
      generalize N * n % d = R at *
      refine AC_enterG Try.tab Try.func43 rfl Try.ntmps43 (rv := [.cell 6 40, .tmp 7]) rfl rfl (by simp) (fun w X G => ?_)
      repeat' (first | ((with_reducible refine gA ?_); (first | refine AW_seq ?_ | refine AW_region ?_ | refine AW_condT rfl ?_ | refine AW_condF rfl ?_ | (refine AW_condY rfl ?_ ?_; assumption) | (refine AW_cond rfl (fun hc => ?_) (fun hc => ?_) <;> try (exfalso; simp only [cmpL] at hc; omega)) | refine AW_ret ?_ | refine AW_skip ?_)) | (((with_reducible refine gS ?_); apply Es_q); rfl; (first | rfl | (refine w_tt ?_; assumption) | (refine w_ff ?_; assumption)); (first | (refine LStep_fitAt (T := Try.tab) (Ts := []) 34 ?_ ?_ ?_ en; exact rfl; exact rfl; exact rfl) | (refine LStep_fitAt (T := Try.tab) (Ts := []) 74 ?_ ?_ ?_ eq; exact rfl; exact rfl; exact rfl))) | ((with_reducible refine gS ?_); refine Es_s (T := Try.tab) rfl rfl rfl rfl ?_) | (((with_reducible refine gS ?_); apply Es_q); rfl; (first | rfl | (refine w_tt ?_; assumption) | (refine w_ff ?_; assumption)); (first | refine LStep_call (c1) rfl rfl rfl rfl | refine LStep_call (c2) rfl rfl rfl rfl | refine LStep_call (c3) rfl rfl rfl rfl | refine LStep_call (c4) rfl rfl rfl rfl)) | (((with_reducible refine gS ?_); apply Es_q); rfl; (first | rfl | (refine w_tt ?_; assumption) | (refine w_ff ?_; assumption)); (first | refine LStep_simp (T := Try.tab) rfl rfl | (refine LStep_add rfl rfl rfl rfl ?_; (refine IntWalk.i64_in _ ?_; first | omega | (simp only [cmps] at *; omega))) | refine LStep_wrap (T := Try.tab) rfl rfl | (refine LStep_pickT rfl rfl ?_ rfl rfl; assumption) | (refine LStep_pickF rfl rfl ?_ rfl rfl; assumption) | refine LStep_buildN (T := Try.tab) rfl rfl rfl rfl rfl rfl rfl)) | (refine Es_skip rfl ?_ rfl ?_; (first | rfl | (refine w_tf ?_; assumption) | (refine w_ft ?_; assumption))) | (((with_reducible refine gS ?_); apply Es_xs); rfl; rfl; (first | refine LStep_boxN rfl rfl rfl rfl rfl rfl | refine LStep_allocN (T := Try.tab) rfl rfl rfl rfl rfl rfl); rfl) | (((with_reducible refine gS ?_); apply Es_xn); rfl; rfl; (refine LStep_storeN (T := Try.tab) rfl rfl rfl rfl rfl rfl rfl ?_ rfl; (refine Nat.le_of_ble_eq_true ?_; rfl)); rfl) | (refine Es_split rfl ?_ (fun _ => ?_) (fun _ => ?_); ((fail_if_success (refine und_t ?_; assumption)); (fail_if_success (refine und_f ?_; assumption)); exact trivial)) | (with_reducible refine Es_nil ?_) | (with_reducible refine then_n ?_) | (with_reducible refine then_r ?_) | ((with_reducible refine gRG ?_); first | refine retGa rfl ?_ | refine retGb rfl ?_ | refine retGc rfl ?_ | refine retG1 rfl rfl ?_ | refine endG1 rfl rfl ?_))
      all_goals try simp only [cmps] at *
      all_goals first
        | (exfalso; omega)
        | (exfalso; contradiction)
        | rfl
        | trace_state
  · rw [hbg hb] at c3
    rw [if_neg (by omega), scV_none]
    clear hm4 c4 hsm hbg
    unfold mnV rtV at *
    dsimp only at c1 c2
    refine AC_enterG Try.tab Try.func43 rfl Try.ntmps43 (rv := [.cell 6 40, .tmp 7]) rfl rfl (by simp) (fun w X G => ?_)
    repeat' (first | ((with_reducible refine gA ?_); (first | refine AW_seq ?_ | refine AW_region ?_ | refine AW_condT rfl ?_ | (refine AW_cond rfl (fun hc => ?_) (fun hc => ?_) <;> try (exfalso; simp only [cmpL] at hc; omega)) | refine AW_ret ?_ | refine AW_skip ?_)) | (((with_reducible refine gS ?_); apply Es_q); rfl; (first | rfl | (refine w_ff ?_; assumption)); (refine LStep_fitAt (T := Try.tab) (Ts := []) 34 ?_ ?_ ?_ en; exact rfl; exact rfl; exact rfl)) | ((with_reducible refine gS ?_); refine Es_s (T := Try.tab) rfl rfl rfl rfl ?_) | (((with_reducible refine gS ?_); apply Es_q); rfl; (first | rfl | (refine w_ff ?_; assumption)); (first | refine LStep_call (c1) rfl rfl rfl rfl | refine LStep_call (c2) rfl rfl rfl rfl | refine LStep_call (c3) rfl rfl rfl rfl)) | (((with_reducible refine gS ?_); apply Es_q); rfl; (first | rfl | (refine w_ff ?_; assumption)); (first | refine LStep_simp (T := Try.tab) rfl rfl | (refine LStep_pickT rfl rfl ?_ rfl rfl; assumption) | (refine LStep_pickF rfl rfl ?_ rfl rfl; assumption) | refine LStep_buildN (T := Try.tab) rfl rfl rfl rfl rfl rfl rfl)) | (refine Es_skip rfl ?_ rfl ?_; (first | rfl | (refine w_tf ?_; assumption) | (refine w_ft ?_; assumption))) | (((with_reducible refine gS ?_); apply Es_xs); rfl; rfl; (first | refine LStep_boxN rfl rfl rfl rfl rfl rfl | refine LStep_allocN (T := Try.tab) rfl rfl rfl rfl rfl rfl); rfl) | (((with_reducible refine gS ?_); apply Es_xn); rfl; rfl; (refine LStep_storeN (T := Try.tab) rfl rfl rfl rfl rfl rfl rfl ?_ rfl; (refine Nat.le_of_ble_eq_true ?_; rfl)); rfl) | (refine Es_split rfl ?_ (fun _ => ?_) (fun _ => ?_); ((fail_if_success (refine und_t ?_; assumption)); (fail_if_success (refine und_f ?_; assumption)); exact trivial)) | (with_reducible refine Es_nil ?_) | (with_reducible refine then_n ?_) | (with_reducible refine then_r ?_) | ((with_reducible refine gRG ?_); first | refine retGa rfl ?_ | refine retGb rfl ?_ | refine retGc rfl ?_ | refine retG1 rfl rfl ?_ | refine endG1 rfl rfl ?_))
    all_goals try simp only [cmps] at *
    all_goals first
      | (exfalso; omega)
      | (exfalso; contradiction)
      | rfl
      | trace_state
end Go.Proofs.Ytnalpielhpmnfaa
