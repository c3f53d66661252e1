import Derived.Test.YtnalpielhpmnfaaRY
namespace Go.Proofs.Ytnalpielhpmnfaa
open Go.SL
/-! ### RateExact -/
theorem crossD_cur {l : List RP} {f t : ByteArray} {day : Int} {y : (Int × Int) × List ByteArray} (h : crossD l f t day = some y) : curOk f = true := by
  unfold crossD crossR at h
  cases hc : curOk f with
  | true => rfl
  | false => rw [hc] at h; simp at h
theorem divs {R D : Nat} (hD : 0 < D) (hR : R < D) : 0 < D / Nat.gcd R D ∧ D % (D / Nat.gcd R D) = 0 ∧ R / Nat.gcd R D < D / Nat.gcd R D ∧ D / (D / Nat.gcd R D) = Nat.gcd R D ∧ R / Nat.gcd R D * Nat.gcd R D = R := by
  have hg : 0 < Nat.gcd R D := Nat.gcd_pos_of_pos_right _ hD
  obtain ⟨a, ha⟩ := Nat.gcd_dvd_left R D
  obtain ⟨b, hb⟩ := Nat.gcd_dvd_right R D
  generalize Nat.gcd R D = g at *
  subst ha hb
  rw [Nat.mul_div_cancel_left _ hg, Nat.mul_div_cancel_left _ hg]
  have hb0 : 0 < b := Nat.pos_of_mul_pos_left hD
  have hab : a < b := Nat.lt_of_mul_lt_mul_left hR
  refine ⟨hb0, Nat.mul_mod_left _ _, hab, Nat.mul_div_cancel _ hb0, Nat.mul_comm _ _⟩
set_option maxRecDepth 10000 in
set_option maxHeartbeats 16000000 in
theorem exact_ac (l : List RP) (n : Nat) (f t : ByteArray) (day : Int) (hn : n < 4294967296) (hl : l.length ≤ 140737488351232) (hs : ∀ x ∈ l, x.1.1.size ≤ 140737488351232 ∧ x.1.2.1.size ≤ 140737488351232) (hf : f.size ≤ 140737488351232) (ht : t.size ≤ 140737488351232) :
    AC Try.prog 6 [.d (.sl 5 (l.map rEnc)), .d (.sc (.int .u32 ((n : Nat) : Int))), .d (.sc (.string f)), .d (.sc (.string t)), .d (.sc (.int .i64 day))] [] [] (fun r _ => r = .d (.sc (.bool true))) := by
  have c0 := awake_ac
  have c1 := long_ac l hl hs
  cases hlg : longB l with
  | true =>
    rw [hlg] at c1
    refine AC_enter Try.func6 rfl Try.ntmps6 (rv := [.tmp 10]) rfl rfl (by simp) (fun w X G => ?_)
    repeat' (first | ((with_reducible refine gA ?_); (first | refine AW_seq ?_ | refine AW_region ?_ | refine AW_condT rfl ?_ | refine AW_ret ?_)) | ((with_reducible refine gS ?_); refine Es_s (T := Try.tab) rfl rfl rfl rfl ?_) | (((with_reducible refine gS ?_); apply Es_q); rfl; rfl; (first | refine LStep_call (c0) rfl rfl rfl rfl | refine LStep_call (c1) rfl rfl rfl rfl)) | (refine Es_skip rfl ?_ rfl ?_; (first | rfl | (refine w_tf ?_; assumption) | (refine w_ft ?_; assumption))) | (with_reducible refine Es_nil ?_) | (with_reducible refine then_n ?_) | (with_reducible refine then_r ?_) | ((with_reducible refine gR ?_); first | refine ret1 rfl ?_ | refine ret2 rfl rfl ?_ | refine ret0 ?_ | refine end1 rfl ?_ | refine end0 ?_))
    all_goals try simp only at *
    all_goals first
      | rfl
      | trace_state
  | false =>
    rw [hlg] at c1
    obtain ⟨hl1, _⟩ := longB_f hlg
    have cf := fill_ac l hl1
    obtain ⟨hi, hal⟩ := accR_all l
    generalize accR l = A at *
    have cx := crossD_ac A f t day hi (by omega)
    have cv := cvt_ac A (f, (n : Int)) t day hi (by omega)
    unfold hR2 at cf
    unfold hR at cv cx
    cases hx : crossD A f t day with
    | none =>
      rw [hx, crV_none] at cx
      refine AC_enter Try.func6 rfl Try.ntmps6 (rv := [.tmp 10]) rfl rfl (by simp) (fun w X G => ?_)
      repeat' (first | ((with_reducible refine gA ?_); (first | refine AW_seq ?_ | refine AW_region ?_ | refine AW_condT rfl ?_ | refine AW_condF rfl ?_ | (refine AW_cond rfl (fun hc => ?_) (fun hc => ?_) <;> try (exfalso; simp only [cmpL] at hc; omega)) | refine AW_ret ?_ | refine AW_skip ?_)) | ((with_reducible refine gS ?_); refine Es_s (T := Try.tab) rfl rfl rfl rfl ?_) | (((with_reducible refine gS ?_); apply Es_q); rfl; rfl; (first | refine LStep_call (c0) rfl rfl rfl rfl | refine LStep_call (c1) rfl rfl rfl rfl | refine LStep_eqNilP (T := Try.tab) rfl rfl rfl rfl)) | (((with_reducible refine gS ?_); apply Es_xg); rfl; rfl; (first | refine LStep_callHN [] [(10, 32), (1010, 3201)] cf rfl rfl trivial rfl trivial rfl rfl | refine LStep_callHN [(1000, 32), (1001, 3201)] [] cx rfl rfl ⟨rfl, rfl, trivial⟩ rfl ⟨trivial, trivial, trivial⟩ rfl rfl); rfl) | (((with_reducible refine gS ?_); apply Es_q); rfl; rfl; (first | refine LStep_simp (T := Try.tab) rfl rfl | (refine LStep_add rfl rfl rfl rfl ?_; (refine IntWalk.i64_in _ ?_; first | omega | (simp only [cmps] at *; omega))) | refine LStep_wrap (T := Try.tab) rfl rfl)) | (refine Es_skip rfl ?_ rfl ?_; (first | rfl | (refine w_tf ?_; assumption) | (refine w_ft ?_; assumption))) | (((with_reducible refine gS ?_); apply Es_xs); rfl; rfl; refine LStep_allocN (T := Try.tab) rfl rfl rfl rfl rfl rfl; rfl) | (((with_reducible refine gS ?_); apply Es_xn); rfl; rfl; (refine LStep_storeN (T := Try.tab) rfl rfl rfl rfl rfl rfl rfl ?_ rfl; (refine Nat.le_of_ble_eq_true ?_; rfl)); rfl) | (with_reducible refine Es_nil ?_) | (with_reducible refine then_n ?_) | (with_reducible refine then_r ?_) | ((with_reducible refine gR ?_); first | refine ret1 rfl ?_ | refine ret2 rfl rfl ?_ | refine ret0 ?_ | refine end1 rfl ?_ | refine end0 ?_))
      all_goals try simp only [cmps] at *
      all_goals first
        | rfl
        | (exfalso; omega)
        | (exfalso; contradiction)
        | trace_state
    | some y =>
      obtain ⟨x, row⟩ := y
      have hcf := crossD_cur hx
      obtain ⟨N, D, rfl, n1, n2, d1, d2⟩ : ∃ N D : Nat, x = ((N : Int), (D : Int)) ∧ 0 < N ∧ N ≤ 1152921504606846976 ∧ 0 < D ∧ D ≤ 1152921504606846976 := by
        have h2 := hx
        unfold crossD at h2
        split at h2
        · exact crossR_in hi h2
        · cases h2
      have hm : mMay (f, (n : Int)) = true := mMay_t.2 ⟨hcf, by dsimp only; omega, by dsimp only; omega⟩
      have hcv : cvtR A (f, (n : Int)) t day = convR (n : Int) N D := by
        unfold cvtR
        rw [if_pos hm]
        dsimp only
        rw [hx]
        rfl
      rw [hcv] at cv
      rw [hx, crV_some] at cx
      dsimp only at cx
      by_cases hbig : N ≤ 1073741824 ∧ D ≤ 1073741824
      · obtain ⟨hb1, hb2⟩ := hbig
        have hp : n * N ≤ 4294967296 * 1073741824 := Nat.mul_le_mul (by omega) hb1
        have hp2 : n * N ≤ 4611686018427387904 := hp
        clear hp
        have hdm := Nat.div_add_mod (n * N) D
        have hrm := Nat.mod_lt (n * N) d1
        have hq0 : n * N / D ≤ n * N := Nat.div_le_self _ _
        have m1 : AV.d (.sc (.int .i64 (wrp .i64 (((n : Nat) : Int) * ((N : Nat) : Int))))) = .d (.sc (.int .i64 ((n * N : Nat) : Int))) := by rw [← Int.natCast_mul, wrp_fit (by omega)]
        have e1 : IntKind.i64.wrap (((n * N : Nat) : Int).tdiv ((D : Nat) : Int)) = ((n * N / D : Nat) : Int) := i64_quoN (by omega)
        unfold convR scaleR sgn at cv
        rw [Int.natAbs_natCast, if_neg (show ¬ ((n : Int) < 0) by omega)] at cv
        obtain ⟨v1, v2, v3, v4, v5⟩ := divs d1 hrm
        by_cases hfit : n * N / D ≤ 1099511627776
        · rw [if_pos hfit, Option.map_some, cvV_some] at cv
          unfold rdc at cv
          unfold mnV at cv
          dsimp only at cv
          have hqD : n * N / D * D ≤ n * N := Nat.div_mul_le_self _ _
          have hqd2 : n * N / D * D + n * N % D = n * N := by rw [Nat.mul_comm]; exact hdm
          have hL : D / Nat.gcd (n * N % D) D ≤ D := Nat.div_le_self _ _
          have e2 : ((D : Nat) : Int).tmod ((D / Nat.gcd (n * N % D) D : Nat) : Int) = 0 := by
            have : ((D : Nat) : Int).tmod ((D / Nat.gcd (n * N % D) D : Nat) : Int) = ((D % (D / Nat.gcd (n * N % D) D) : Nat) : Int) := rfl
            rw [this, v2]
            rfl
          have e3 : IntKind.i64.wrap (((D : Nat) : Int).tdiv ((D / Nat.gcd (n * N % D) D : Nat) : Int)) = ((Nat.gcd (n * N % D) D : Nat) : Int) := by
            rw [i64_quoN (by omega), v4]
          have m2 : AV.d (.sc (.int .i64 (wrp .i64 (((n * N / D : Nat) : Int) * ((D : Nat) : Int))))) = .d (.sc (.int .i64 ((n * N / D * D : Nat) : Int))) := by rw [← Int.natCast_mul, wrp_fit (by omega)]
          have m3 : AV.d (.sc (.int .i64 (wrp .i64 (((n * N % D / Nat.gcd (n * N % D) D : Nat) : Int) * ((Nat.gcd (n * N % D) D : Nat) : Int))))) = .d (.sc (.int .i64 ((n * N % D : Nat) : Int))) := by rw [← Int.natCast_mul, v5, wrp_fit (by omega)]
          have m4 : AV.d (.sc (.int .i64 (wrp .i64 (((n * N / D * D : Nat) : Int) + ((n * N % D : Nat) : Int))))) = .d (.sc (.int .i64 ((n * N : Nat) : Int))) := by rw [← Int.natCast_add, hqd2, wrp_fit (by omega)]
          have g1 : eqb ((n * N : Nat) : Int) ((n * N : Nat) : Int) = true := eqb_t.2 rfl
          have g2 : eqb (0 : Int) 0 = true := eqb_t.2 rfl
          clear hdm e1 v2 v4 v5 hqD hqd2
          generalize n * N / D * D = X1 at *
          generalize n * N / D = X2 at *
          generalize Nat.gcd (n * N % D) D = g at *
          generalize n * N % D / g = L1 at *
          generalize D / g = L2 at *
          generalize n * N % D = X3 at *
          generalize n * N = X4 at *
          refine AC_enter Try.func6 rfl Try.ntmps6 (rv := [.tmp 10]) rfl rfl (by simp) (fun w X G => ?_)
          repeat' (first | ((with_reducible refine gA ?_); (first | refine AW_seq ?_ | refine AW_region ?_ | refine AW_regionD Try.mixed ?_ | refine AW_condT rfl ?_ | refine AW_condF rfl ?_ | (refine AW_cond rfl (fun hc => ?_) (fun hc => ?_) <;> try (exfalso; simp only [cmpL] at hc; omega)) | refine AW_ret ?_ | refine AW_skip ?_)) | ((first | ((with_reducible refine gS ?_); apply Es_q) | ((with_reducible refine gD ?_); apply Ed_q)); rfl; (first | rfl | (refine w_tt ?_; assumption) | (refine w_ff ?_; assumption)); (first | (refine LStep_fitAt (T := Try.tab) (Ts := []) 112 ?_ ?_ ?_ m2; exact rfl; exact rfl; exact rfl) | (refine LStep_fitAt (T := Try.tab) (Ts := []) 120 ?_ ?_ ?_ m3; exact rfl; exact rfl; exact rfl) | (refine LStep_fitAt (T := Try.tab) (Ts := []) 121 ?_ ?_ ?_ m4; exact rfl; exact rfl; exact rfl) | (refine LStep_fitAt (T := Try.tab) (Ts := []) 126 ?_ ?_ ?_ m1; exact rfl; exact rfl; exact rfl))) | (first | ((with_reducible refine gS ?_); refine Es_s (T := Try.tab) rfl rfl rfl rfl ?_) | ((with_reducible refine gD ?_); refine Ed_s (T := Try.tab) rfl rfl rfl rfl ?_)) | ((first | ((with_reducible refine gS ?_); apply Es_q) | ((with_reducible refine gD ?_); apply Ed_q)); rfl; (first | rfl | (refine w_tt ?_; assumption) | (refine w_ff ?_; assumption)); (first | refine LStep_call (c0) rfl rfl rfl rfl | refine LStep_call (c1) rfl rfl rfl rfl | refine LStep_eqNilP (T := Try.tab) rfl rfl rfl rfl | (refine LStep_rem rfl rfl rfl ?_ e2 rfl; omega) | (refine LStep_quo rfl rfl rfl ?_ e3 rfl; omega))) | ((first | ((with_reducible refine gS ?_); apply Es_xg) | ((with_reducible refine gD ?_); apply Ed_xg)); rfl; (first | rfl | (refine w_ff ?_; assumption)); (first | refine LStep_callHN [] [(10, 32), (1010, 3201)] cf rfl rfl trivial rfl trivial rfl rfl | refine LStep_callHN [(1000, 32), (1001, 3201)] [] cx rfl rfl ⟨rfl, rfl, trivial⟩ rfl ⟨trivial, trivial, trivial⟩ rfl rfl | refine LStep_callHN [(1000, 32), (1001, 3201)] [] cv rfl rfl ⟨rfl, rfl, trivial⟩ rfl ⟨trivial, trivial, trivial⟩ rfl rfl); rfl) | ((first | ((with_reducible refine gS ?_); apply Es_q) | ((with_reducible refine gD ?_); apply Ed_q)); rfl; (first | rfl | (refine w_ff ?_; assumption)); (first | refine LStep_simp (T := Try.tab) rfl rfl | (refine LStep_add rfl rfl rfl rfl ?_; (refine IntWalk.i64_in _ ?_; first | omega | (simp only [cmps] at *; omega))) | (refine LStep_conv (T := Try.tab) rfl rfl rfl rfl rfl ?_; (refine IntWalk.i64_in _ ?_; first | omega | (simp only [cmps] at *; omega))) | refine LStep_wrap (T := Try.tab) rfl rfl | (refine LStep_pickT rfl rfl ?_ rfl rfl; assumption) | (refine LStep_pickF rfl rfl ?_ rfl rfl; assumption) | refine LStep_buildN (T := Try.tab) rfl rfl rfl rfl rfl rfl rfl)) | (refine Es_skip rfl ?_ rfl ?_; (first | rfl | (refine w_tf ?_; assumption) | (refine w_ft ?_; assumption))) | (((with_reducible refine gS ?_); apply Es_xs); rfl; rfl; refine LStep_allocN (T := Try.tab) rfl rfl rfl rfl rfl rfl; rfl) | (((with_reducible refine gS ?_); apply Es_xn); rfl; rfl; (refine LStep_storeN (T := Try.tab) rfl rfl rfl rfl rfl rfl rfl ?_ rfl; (refine Nat.le_of_ble_eq_true ?_; rfl)); rfl) | (refine Es_split rfl ?_ (fun _ => ?_) (fun _ => ?_); ((fail_if_success (refine und_t ?_; assumption)); (fail_if_success (refine und_f ?_; assumption)); exact trivial)) | (with_reducible refine Es_nil ?_) | ((with_reducible refine Ed_nil ?_ ?_); kernel_rfl) | (with_reducible refine then_n ?_) | (with_reducible refine then_r ?_) | ((with_reducible refine gR ?_); first | refine ret1 rfl ?_ | refine ret2 rfl rfl ?_ | refine ret0 ?_ | refine end1 rfl ?_ | refine end0 ?_))
          all_goals try simp only [cmps] at *
          all_goals first
            | rfl
            | (exfalso; omega)
            | (exfalso; contradiction)
            | trace_state
        · rw [if_neg hfit, Option.map_none, cvV_none] at cv
          unfold mnV at cv
          dsimp only at cv
          have g1 : ltb 1099511627776 ((n * N / D : Nat) : Int) = true := by
            rw [ltb_t]
            have := Int.natCast_nonneg (n * N / D)
            omega
          clear hdm v1 v2 v3 v4 v5
          generalize n * N / D = X2 at *
          generalize n * N = X4 at *
          refine AC_enter Try.func6 rfl Try.ntmps6 (rv := [.tmp 10]) rfl rfl (by simp) (fun w X G => ?_)
          repeat' (first | ((with_reducible refine gA ?_); (first | refine AW_seq ?_ | refine AW_region ?_ | refine AW_condT rfl ?_ | refine AW_condF rfl ?_ | (refine AW_cond rfl (fun hc => ?_) (fun hc => ?_) <;> try (exfalso; simp only [cmpL] at hc; omega)) | refine AW_ret ?_ | refine AW_skip ?_)) | (((with_reducible refine gS ?_); apply Es_q); rfl; (first | rfl | (refine w_tt ?_; assumption) | (refine w_ff ?_; assumption)); (refine LStep_fitAt (T := Try.tab) (Ts := []) 77 ?_ ?_ ?_ m1; exact rfl; exact rfl; exact rfl)) | ((with_reducible refine gS ?_); refine Es_s (T := Try.tab) rfl rfl rfl rfl ?_) | (((with_reducible refine gS ?_); apply Es_q); rfl; (first | rfl | (refine w_tt ?_; assumption) | (refine w_ff ?_; assumption)); (first | refine LStep_call (c0) rfl rfl rfl rfl | refine LStep_call (c1) rfl rfl rfl rfl | refine LStep_eqNilP (T := Try.tab) rfl rfl rfl rfl | (refine LStep_quo rfl rfl rfl ?_ e1 rfl; omega))) | (((with_reducible refine gS ?_); apply Es_xg); rfl; (first | rfl | (refine w_ff ?_; assumption)); (first | refine LStep_callHN [] [(10, 32), (1010, 3201)] cf rfl rfl trivial rfl trivial rfl rfl | refine LStep_callHN [(1000, 32), (1001, 3201)] [] cx rfl rfl ⟨rfl, rfl, trivial⟩ rfl ⟨trivial, trivial, trivial⟩ rfl rfl | refine LStep_callHN [(1000, 32), (1001, 3201)] [] cv rfl rfl ⟨rfl, rfl, trivial⟩ rfl ⟨trivial, trivial, trivial⟩ rfl rfl); rfl) | (((with_reducible refine gS ?_); apply Es_q); rfl; (first | rfl | (refine w_ff ?_; assumption)); (first | refine LStep_simp (T := Try.tab) rfl rfl | (refine LStep_add rfl rfl rfl rfl ?_; (refine IntWalk.i64_in _ ?_; first | omega | (simp only [cmps] at *; omega))) | (refine LStep_conv (T := Try.tab) rfl rfl rfl rfl rfl ?_; (refine IntWalk.i64_in _ ?_; first | omega | (simp only [cmps] at *; omega))) | refine LStep_wrap (T := Try.tab) rfl rfl | (refine LStep_pickT rfl rfl ?_ rfl rfl; assumption) | (refine LStep_pickF rfl rfl ?_ rfl rfl; assumption) | refine LStep_buildN (T := Try.tab) rfl rfl rfl rfl rfl rfl rfl)) | (refine Es_skip rfl ?_ rfl ?_; (first | rfl | (refine w_tf ?_; assumption) | (refine w_ft ?_; assumption))) | (((with_reducible refine gS ?_); apply Es_xs); rfl; rfl; refine LStep_allocN (T := Try.tab) rfl rfl rfl rfl rfl rfl; rfl) | (((with_reducible refine gS ?_); apply Es_xn); rfl; rfl; (refine LStep_storeN (T := Try.tab) rfl rfl rfl rfl rfl rfl rfl ?_ rfl; (refine Nat.le_of_ble_eq_true ?_; rfl)); rfl) | (refine Es_split rfl ?_ (fun _ => ?_) (fun _ => ?_); ((fail_if_success (refine und_t ?_; assumption)); (fail_if_success (refine und_f ?_; assumption)); exact trivial)) | (with_reducible refine Es_nil ?_) | (with_reducible refine then_n ?_) | (with_reducible refine then_r ?_) | ((with_reducible refine gR ?_); first | refine ret1 rfl ?_ | refine ret2 rfl rfl ?_ | refine ret0 ?_ | refine end1 rfl ?_ | refine end0 ?_))
          all_goals try simp only [cmps] at *
          all_goals first
            | rfl
            | (exfalso; omega)
            | (exfalso; contradiction)
            | trace_state
      · clear cv hcv
        refine AC_enter Try.func6 rfl Try.ntmps6 (rv := [.tmp 10]) rfl rfl (by simp) (fun w X G => ?_)
        repeat' (first | ((with_reducible refine gA ?_); (first | refine AW_seq ?_ | refine AW_region ?_ | refine AW_condT rfl ?_ | refine AW_condF rfl ?_ | (refine AW_cond rfl (fun hc => ?_) (fun hc => ?_) <;> try (exfalso; simp only [cmpL] at hc; omega)) | refine AW_ret ?_ | refine AW_skip ?_)) | ((with_reducible refine gS ?_); refine Es_s (T := Try.tab) rfl rfl rfl rfl ?_) | (((with_reducible refine gS ?_); apply Es_q); rfl; (first | rfl | (refine w_ff ?_; assumption)); (first | refine LStep_call (c0) rfl rfl rfl rfl | refine LStep_call (c1) rfl rfl rfl rfl | refine LStep_eqNilP (T := Try.tab) rfl rfl rfl rfl)) | (((with_reducible refine gS ?_); apply Es_xg); rfl; (first | rfl | (refine w_ff ?_; assumption)); (first | refine LStep_callHN [] [(10, 32), (1010, 3201)] cf rfl rfl trivial rfl trivial rfl rfl | refine LStep_callHN [(1000, 32), (1001, 3201)] [] cx rfl rfl ⟨rfl, rfl, trivial⟩ rfl ⟨trivial, trivial, trivial⟩ rfl rfl); rfl) | (((with_reducible refine gS ?_); apply Es_q); rfl; (first | rfl | (refine w_ff ?_; assumption)); (first | refine LStep_simp (T := Try.tab) rfl rfl | (refine LStep_add rfl rfl rfl rfl ?_; (refine IntWalk.i64_in _ ?_; first | omega | (simp only [cmps] at *; omega))) | (refine LStep_conv (T := Try.tab) rfl rfl rfl rfl rfl ?_; (refine IntWalk.i64_in _ ?_; first | omega | (simp only [cmps] at *; omega))) | refine LStep_wrap (T := Try.tab) rfl rfl | (refine LStep_pickT rfl rfl ?_ rfl rfl; assumption) | (refine LStep_pickF rfl rfl ?_ rfl rfl; assumption) | refine LStep_buildN (T := Try.tab) rfl rfl rfl rfl rfl rfl rfl)) | (refine Es_skip rfl ?_ rfl ?_; (first | rfl | (refine w_tf ?_; assumption) | (refine w_ft ?_; assumption))) | (((with_reducible refine gS ?_); apply Es_xs); rfl; rfl; refine LStep_allocN (T := Try.tab) rfl rfl rfl rfl rfl rfl; rfl) | (((with_reducible refine gS ?_); apply Es_xn); rfl; rfl; (refine LStep_storeN (T := Try.tab) rfl rfl rfl rfl rfl rfl rfl ?_ rfl; (refine Nat.le_of_ble_eq_true ?_; rfl)); rfl) | (refine Es_split rfl ?_ (fun _ => ?_) (fun _ => ?_); ((fail_if_success (refine und_t ?_; assumption)); (fail_if_success (refine und_f ?_; assumption)); exact trivial)) | (with_reducible refine Es_nil ?_) | (with_reducible refine then_n ?_) | (with_reducible refine then_r ?_) | ((with_reducible refine gR ?_); first | refine ret1 rfl ?_ | refine ret2 rfl rfl ?_ | refine ret0 ?_ | refine end1 rfl ?_ | refine end0 ?_))
        all_goals try simp only [cmps] at *
        all_goals first
          | rfl
          | (exfalso; omega)
          | (exfalso; contradiction)
          | trace_state
end Go.Proofs.Ytnalpielhpmnfaa
