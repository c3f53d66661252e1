import Derived.Test.YtnalpielhpmnfaaKB
namespace Go.Proofs.Ytnalpielhpmnfaa
open Go.SL
theorem crossD_in {l : List RP} (hi : RInv l) {f t : ByteArray} {day : Int} {x : Int × Int} {r : List ByteArray} (h : crossD l f t day = some (x, r)) : ∃ n d : Nat, x = ((n : Int), (d : Int)) ∧ 0 < n ∧ n ≤ 1152921504606846976 ∧ 0 < d ∧ d ≤ 1152921504606846976 := by
  unfold crossD at h
  split at h
  · exact crossR_in hi h
  · cases h
set_option maxRecDepth 10000 in
set_option maxHeartbeats 8000000 in
theorem rConvert_ac (l : List RP) (m : Mon) (to : ByteArray) (day : Int) (hi : RInv l) (hl : l.length ≤ 24) : AC Try.prog 19 [.d (.sl 5 (l.map rEnc)), mnV m, .d (.sc (.string to)), .d (.sc (.int .i64 day))] [] [] (fun r _ => r = cvV to (cvtR l m to day)) := by
  have c1 := rMMay_ac m
  have c2 := rCross_ac l m.1 to day hi hl
  unfold cvtR
  cases hx : crossD l m.1 to day with
  | none =>
    rw [hx, crV_none] at c2
    have e : (if mMay m = true then (match (none : Option ((Int × Int) × List ByteArray)) with | some (x, _) => convR m.2 x.1.toNat x.2.toNat | none => none) else none) = none := by split <;> rfl
    rw [e, cvV_none]
    unfold mnV at *
    refine AC_enterG Try.tab Try.func19 rfl Try.ntmps19 (rv := [.cell 8 40, .cell 9 29, .tmp 10]) rfl rfl (by simp) (fun w X G => ?_)
    repeat' (first | ((with_reducible refine gA ?_); (first | refine AW_seq ?_ | refine AW_region ?_ | refine AW_condT rfl ?_ | refine AW_ret ?_)) | ((with_reducible refine gS ?_); refine Es_s (T := Try.tab) rfl rfl rfl rfl ?_) | (((with_reducible refine gS ?_); apply Es_q); rfl; rfl; refine LStep_call (c2) rfl rfl rfl rfl) | (((with_reducible refine gS ?_); apply Es_q); rfl; rfl; refine LStep_buildN (T := Try.tab) rfl rfl rfl rfl rfl rfl rfl) | (refine Es_skip rfl ?_ rfl ?_; (first | rfl | (refine w_tf ?_; assumption) | (refine w_ft ?_; assumption))) | (((with_reducible refine gS ?_); apply Es_xs); rfl; rfl; (first | refine LStep_boxN rfl rfl rfl rfl rfl rfl | refine LStep_allocN (T := Try.tab) rfl rfl rfl rfl rfl rfl); rfl) | (((with_reducible refine gS ?_); apply Es_xn); rfl; rfl; (refine LStep_storeN (T := Try.tab) rfl rfl rfl rfl rfl rfl rfl ?_ rfl; (refine Nat.le_of_ble_eq_true ?_; rfl)); rfl) | (with_reducible refine Es_nil ?_) | (with_reducible refine then_n ?_) | (with_reducible refine then_r ?_) | ((with_reducible refine gRG ?_); first | refine retGa rfl ?_ | refine retGb rfl ?_ | refine retGc rfl ?_ | refine retG1 rfl rfl ?_ | refine endG1 rfl rfl ?_))
    all_goals try simp only at *
    all_goals first
      | (exfalso; omega)
      | rfl
      | trace_state
  | some y =>
    obtain ⟨x, r⟩ := y
    obtain ⟨n, d, rfl, n1, n2, d1, d2⟩ := crossD_in hi hx
    rw [hx, crV_some] at c2
    dsimp only at c2 ⊢
    rw [show ((n : Int)).toNat = n from rfl, show ((d : Int)).toNat = d from rfl]
    by_cases hm : mMay m = true
    · rw [if_pos hm]
      rw [hm] at c1
      obtain ⟨hc, hb⟩ := mMay_t.1 hm
      obtain ⟨c, a⟩ := m
      dsimp only at hb hc c2 ⊢
      unfold convR
      have crd := fun N : Nat => rReduce_ac (N * n % d) d d1 (by have := Nat.mod_lt (N * n) d1; omega) (by omega)
      unfold rtV at crd
      dsimp only at crd
      by_cases ha : a < 0
      · obtain ⟨N, rfl, h0⟩ : ∃ N : Nat, a = -(N : Int) ∧ 0 < N := ⟨a.natAbs, by omega, by omega⟩
        have c3 := rScaleNeg_ac c N n d h0 hc (by omega) n2 d1 d2
        have c4 := rParts_ac N n d (by omega) n2 d1 d2
        have c5 := crd N
        have en : AV.d (.sc (.int .i64 (wrp .i64 (0 - -(N : Int))))) = .d (.sc (.int .i64 (N : Int))) := by rw [wrp_fit (by omega), show 0 - -(N : Int) = (N : Int) by omega]
        rw [scaleR_neg N n d h0] at c3 ⊢
        rw [Int.natAbs_neg, Int.natAbs_natCast]
        have hsm := @ptV_small N n d
        clear crd
        by_cases hs : N * n / d ≤ 1099511627776
        · rw [if_pos hs, scV_some] at c3
          rw [if_pos hs, Option.map_some, cvV_some]
          rw [hsm (by omega)] at c4
          unfold mnV rtV at *
          dsimp only at c1 c3
          generalize N * n / d = Q at *
          generalize rdc (N * n % d) d = rd at *
          generalize N * n % d = R at *
          refine AC_enterG Try.tab Try.func19 rfl Try.ntmps19 (rv := [.cell 8 40, .cell 9 29, .tmp 10]) rfl rfl (by simp) (fun w X G => ?_)
          repeat' (first | ((with_reducible refine gA ?_); (first | refine AW_seq ?_ | refine AW_region ?_ | refine AW_regionD Try.mixed ?_ | refine AW_condF rfl ?_ | (refine AW_cond rfl (fun hc => ?_) (fun hc => ?_) <;> try (exfalso; simp only [cmpL] at hc; omega)) | refine AW_ret ?_ | refine AW_skip ?_)) | ((first | ((with_reducible refine gS ?_); apply Es_q) | ((with_reducible refine gD ?_); apply Ed_q)); rfl; rfl; (refine LStep_fitAt (T := Try.tab) (Ts := []) 55 ?_ ?_ ?_ en; exact rfl; exact rfl; exact rfl)) | (first | ((with_reducible refine gS ?_); refine Es_s (T := Try.tab) rfl rfl rfl rfl ?_) | ((with_reducible refine gD ?_); refine Ed_s (T := Try.tab) rfl rfl rfl rfl ?_)) | ((first | ((with_reducible refine gS ?_); apply Es_q) | ((with_reducible refine gD ?_); apply Ed_q)); rfl; rfl; (first | refine LStep_call (c1) rfl rfl rfl rfl | refine LStep_call (c2) rfl rfl rfl rfl | refine LStep_call (c3) rfl rfl rfl rfl | refine LStep_call (c4) rfl rfl rfl rfl | refine LStep_call (c5) rfl rfl rfl rfl)) | ((first | ((with_reducible refine gS ?_); apply Es_q) | ((with_reducible refine gD ?_); apply Ed_q)); rfl; rfl; (first | refine LStep_simp (T := Try.tab) rfl rfl | refine LStep_buildN (T := Try.tab) rfl rfl rfl rfl rfl rfl rfl)) | (refine Es_skip rfl ?_ rfl ?_; (first | rfl | (refine w_tf ?_; assumption) | (refine w_ft ?_; assumption))) | ((first | ((with_reducible refine gS ?_); apply Es_xs) | ((with_reducible refine gD ?_); apply Ed_xs)); rfl; rfl; (first | refine LStep_boxN rfl rfl rfl rfl rfl rfl | refine LStep_allocN (T := Try.tab) rfl rfl rfl rfl rfl rfl); rfl) | ((first | ((with_reducible refine gS ?_); apply Es_xn) | ((with_reducible refine gD ?_); apply Ed_xn)); rfl; rfl; (refine LStep_storeN (T := Try.tab) rfl rfl rfl rfl rfl rfl rfl ?_ rfl; (refine Nat.le_of_ble_eq_true ?_; rfl)); rfl) | (with_reducible refine Es_nil ?_) | ((with_reducible refine Ed_nil ?_ ?_); kernel_rfl) | (with_reducible refine then_n ?_) | ((with_reducible refine gRG ?_); first | refine retGa rfl ?_ | refine retGb rfl ?_ | refine retGc rfl ?_ | refine retG1 rfl rfl ?_ | refine endG1 rfl rfl ?_))
          all_goals try simp only [cmps] at *
          all_goals first
            | (exfalso; omega)
            | rfl
            | trace_state
        · rw [if_neg hs, scV_none] at c3
          rw [if_neg hs, Option.map_none, cvV_none]
          unfold mnV rtV at *
          dsimp only at c1 c3
          refine AC_enterG Try.tab Try.func19 rfl Try.ntmps19 (rv := [.cell 8 40, .cell 9 29, .tmp 10]) rfl rfl (by simp) (fun w X G => ?_)
          repeat' (first | ((with_reducible refine gA ?_); (first | refine AW_seq ?_ | refine AW_region ?_ | refine AW_condT rfl ?_ | refine AW_condF rfl ?_ | refine AW_ret ?_ | refine AW_skip ?_)) | ((with_reducible refine gS ?_); refine Es_s (T := Try.tab) rfl rfl rfl rfl ?_) | (((with_reducible refine gS ?_); apply Es_q); rfl; rfl; (first | refine LStep_call (c1) rfl rfl rfl rfl | refine LStep_call (c2) rfl rfl rfl rfl | refine LStep_call (c3) rfl rfl rfl rfl)) | (((with_reducible refine gS ?_); apply Es_q); rfl; rfl; (first | refine LStep_simp (T := Try.tab) rfl rfl | refine LStep_buildN (T := Try.tab) rfl rfl rfl rfl rfl rfl rfl)) | (refine Es_skip rfl ?_ rfl ?_; (first | rfl | (refine w_tf ?_; assumption) | (refine w_ft ?_; assumption))) | (((with_reducible refine gS ?_); apply Es_xs); rfl; rfl; (first | refine LStep_boxN rfl rfl rfl rfl rfl rfl | refine LStep_allocN (T := Try.tab) rfl rfl rfl rfl rfl rfl); rfl) | (((with_reducible refine gS ?_); apply Es_xn); rfl; rfl; (refine LStep_storeN (T := Try.tab) rfl rfl rfl rfl rfl rfl rfl ?_ rfl; (refine Nat.le_of_ble_eq_true ?_; rfl)); rfl) | (with_reducible refine Es_nil ?_) | (with_reducible refine then_n ?_) | (with_reducible refine then_r ?_) | ((with_reducible refine gRG ?_); first | refine retGa rfl ?_ | refine retGb rfl ?_ | refine retGc rfl ?_ | refine retG1 rfl rfl ?_ | refine endG1 rfl rfl ?_))
          all_goals try simp only at *
          all_goals first
            | (exfalso; omega)
            | rfl
            | trace_state
      · obtain ⟨N, rfl⟩ : ∃ N : Nat, a = (N : Int) := ⟨a.toNat, by omega⟩
        have c3 := rScalePos_ac c N n d hc (by omega) n2 d1 d2
        have c4 := rParts_ac N n d (by omega) n2 d1 d2
        have c5 := crd N
        rw [scaleR_pos N n d] at c3 ⊢
        rw [Int.natAbs_natCast]
        have hsm := @ptV_small N n d
        clear crd
        by_cases hs : N * n / d ≤ 1099511627776
        · rw [if_pos hs, scV_some] at c3
          rw [if_pos hs, Option.map_some, cvV_some]
          rw [hsm (by omega)] at c4
          unfold mnV rtV at *
          dsimp only at c1 c3
          generalize N * n / d = Q at *
          generalize rdc (N * n % d) d = rd at *
          generalize N * n % d = R at *
          refine AC_enterG Try.tab Try.func19 rfl Try.ntmps19 (rv := [.cell 8 40, .cell 9 29, .tmp 10]) rfl rfl (by simp) (fun w X G => ?_)
          repeat' (first | ((with_reducible refine gA ?_); (first | refine AW_seq ?_ | refine AW_region ?_ | refine AW_regionD Try.mixed ?_ | refine AW_condF rfl ?_ | (refine AW_cond rfl (fun hc => ?_) (fun hc => ?_) <;> try (exfalso; simp only [cmpL] at hc; omega)) | refine AW_ret ?_ | refine AW_skip ?_)) | (first | ((with_reducible refine gS ?_); refine Es_s (T := Try.tab) rfl rfl rfl rfl ?_) | ((with_reducible refine gD ?_); refine Ed_s (T := Try.tab) rfl rfl rfl rfl ?_)) | ((first | ((with_reducible refine gS ?_); apply Es_q) | ((with_reducible refine gD ?_); apply Ed_q)); rfl; rfl; (first | refine LStep_call (c1) rfl rfl rfl rfl | refine LStep_call (c2) rfl rfl rfl rfl | refine LStep_call (c3) rfl rfl rfl rfl | refine LStep_call (c4) rfl rfl rfl rfl | refine LStep_call (c5) rfl rfl rfl rfl)) | ((first | ((with_reducible refine gS ?_); apply Es_q) | ((with_reducible refine gD ?_); apply Ed_q)); rfl; rfl; (first | refine LStep_simp (T := Try.tab) rfl rfl | refine LStep_buildN (T := Try.tab) rfl rfl rfl rfl rfl rfl rfl)) | (refine Es_skip rfl ?_ rfl ?_; (first | rfl | (refine w_tf ?_; assumption) | (refine w_ft ?_; assumption))) | ((first | ((with_reducible refine gS ?_); apply Es_xs) | ((with_reducible refine gD ?_); apply Ed_xs)); rfl; rfl; (first | refine LStep_boxN rfl rfl rfl rfl rfl rfl | refine LStep_allocN (T := Try.tab) rfl rfl rfl rfl rfl rfl); rfl) | ((first | ((with_reducible refine gS ?_); apply Es_xn) | ((with_reducible refine gD ?_); apply Ed_xn)); rfl; rfl; (refine LStep_storeN (T := Try.tab) rfl rfl rfl rfl rfl rfl rfl ?_ rfl; (refine Nat.le_of_ble_eq_true ?_; rfl)); rfl) | (with_reducible refine Es_nil ?_) | ((with_reducible refine Ed_nil ?_ ?_); kernel_rfl) | (with_reducible refine then_n ?_) | ((with_reducible refine gRG ?_); first | refine retGa rfl ?_ | refine retGb rfl ?_ | refine retGc rfl ?_ | refine retG1 rfl rfl ?_ | refine endG1 rfl rfl ?_))
          all_goals try simp only [cmps] at *
          all_goals first
            | (exfalso; omega)
            | rfl
            | trace_state
        · rw [if_neg hs, scV_none] at c3
          rw [if_neg hs, Option.map_none, cvV_none]
          unfold mnV rtV at *
          dsimp only at c1 c3
          refine AC_enterG Try.tab Try.func19 rfl Try.ntmps19 (rv := [.cell 8 40, .cell 9 29, .tmp 10]) rfl rfl (by simp) (fun w X G => ?_)
          repeat' (first | ((with_reducible refine gA ?_); (first | refine AW_seq ?_ | refine AW_region ?_ | refine AW_condT rfl ?_ | refine AW_condF rfl ?_ | refine AW_ret ?_ | refine AW_skip ?_)) | ((with_reducible refine gS ?_); refine Es_s (T := Try.tab) rfl rfl rfl rfl ?_) | (((with_reducible refine gS ?_); apply Es_q); rfl; rfl; (first | refine LStep_call (c1) rfl rfl rfl rfl | refine LStep_call (c2) rfl rfl rfl rfl | refine LStep_call (c3) rfl rfl rfl rfl)) | (((with_reducible refine gS ?_); apply Es_q); rfl; rfl; (first | refine LStep_simp (T := Try.tab) rfl rfl | refine LStep_buildN (T := Try.tab) rfl rfl rfl rfl rfl rfl rfl)) | (refine Es_skip rfl ?_ rfl ?_; (first | rfl | (refine w_tf ?_; assumption) | (refine w_ft ?_; assumption))) | (((with_reducible refine gS ?_); apply Es_xs); rfl; rfl; (first | refine LStep_boxN rfl rfl rfl rfl rfl rfl | refine LStep_allocN (T := Try.tab) rfl rfl rfl rfl rfl rfl); rfl) | (((with_reducible refine gS ?_); apply Es_xn); rfl; rfl; (refine LStep_storeN (T := Try.tab) rfl rfl rfl rfl rfl rfl rfl ?_ rfl; (refine Nat.le_of_ble_eq_true ?_; rfl)); rfl) | (with_reducible refine Es_nil ?_) | (with_reducible refine then_n ?_) | (with_reducible refine then_r ?_) | ((with_reducible refine gRG ?_); first | refine retGa rfl ?_ | refine retGb rfl ?_ | refine retGc rfl ?_ | refine retG1 rfl rfl ?_ | refine endG1 rfl rfl ?_))
          all_goals try simp only at *
          all_goals first
            | (exfalso; omega)
            | rfl
            | trace_state
    · rw [if_neg hm, cvV_none]
      replace hm : mMay m = false := by simpa using hm
      rw [hm] at c1
      unfold mnV at *
      refine AC_enterG Try.tab Try.func19 rfl Try.ntmps19 (rv := [.cell 8 40, .cell 9 29, .tmp 10]) rfl rfl (by simp) (fun w X G => ?_)
      repeat' (first | ((with_reducible refine gA ?_); (first | refine AW_seq ?_ | refine AW_region ?_ | refine AW_condT rfl ?_ | refine AW_ret ?_)) | ((with_reducible refine gS ?_); refine Es_s (T := Try.tab) rfl rfl rfl rfl ?_) | (((with_reducible refine gS ?_); apply Es_q); rfl; rfl; (first | refine LStep_call (c1) rfl rfl rfl rfl | refine LStep_call (c2) rfl rfl rfl rfl)) | (((with_reducible refine gS ?_); apply Es_q); rfl; rfl; (first | refine LStep_simp (T := Try.tab) rfl rfl | refine LStep_buildN (T := Try.tab) rfl rfl rfl rfl rfl rfl rfl)) | (refine Es_skip rfl ?_ rfl ?_; (first | rfl | (refine w_tf ?_; assumption) | (refine w_ft ?_; assumption))) | (((with_reducible refine gS ?_); apply Es_xs); rfl; rfl; (first | refine LStep_boxN rfl rfl rfl rfl rfl rfl | refine LStep_allocN (T := Try.tab) rfl rfl rfl rfl rfl rfl); rfl) | (((with_reducible refine gS ?_); apply Es_xn); rfl; rfl; (refine LStep_storeN (T := Try.tab) rfl rfl rfl rfl rfl rfl rfl ?_ rfl; (refine Nat.le_of_ble_eq_true ?_; rfl)); rfl) | (with_reducible refine Es_nil ?_) | (with_reducible refine then_n ?_) | (with_reducible refine then_r ?_) | ((with_reducible refine gRG ?_); first | refine retGa rfl ?_ | refine retGb rfl ?_ | refine retGc rfl ?_ | refine retG1 rfl rfl ?_ | refine endG1 rfl rfl ?_))
      all_goals try simp only [cmps] at *
      all_goals first
        | (exfalso; omega)
        | rfl
        | trace_state
end Go.Proofs.Ytnalpielhpmnfaa
