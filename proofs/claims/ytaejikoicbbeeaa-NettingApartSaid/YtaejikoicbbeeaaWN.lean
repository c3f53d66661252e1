import Derived.Test.YtaejikoicbbeeaaWM
namespace Go.Proofs.Ytaejikoicbbeeaa
open Go.SL
/-! ### NettingKeeps -/
theorem net_any (l : List Db) (hl : l.length ≤ 31) (hm : l.all mayD = true) : ∃ (X : List Db) (n : Int), X.length ≤ 4096 ∧ AC Try.prog 11 [.d (.sl 4 (l.map dbE))] [] [] (fun r _ => r = .tup [.d (.sl 4 (X.map dbE)), .d (.sc (.int .i64 n))]) := by
  by_cases hb : badS l
  · exact ⟨[], 3, by simp, net_bad l (by omega) hm hb⟩
  · exact ⟨netN l, 0, by have := netN_len l; omega, net_ok l (by omega) hm hb⟩
theorem rings_any (l : List Db) (hl : l.length ≤ 31) (hm : l.all mayD = true) : ∃ (X : List Db) (g n : Int), X.length ≤ 4096 ∧ AC Try.prog 12 [.d (.sl 4 (l.map dbE))] [] [] (fun r _ => r = .tup [.d (.sl 4 (X.map dbE)), .d (.sc (.int .i64 g)), .d (.sc (.int .i64 n))]) := by
  by_cases hb : badN l
  · exact ⟨[], 0, 3, by simp, ringsBad_ac l (by omega) hm hb⟩
  · by_cases h8 : 8 < (parN l).length
    · exact ⟨[], 0, 7, by simp, ringsMany_ac l (by omega) hm hb h8⟩
    · exact ⟨ringsN l, goneN l, 0, by have := ring_len hm hb; omega, ringsOk_ac l (by omega) hm hb (by omega)⟩
theorem ltb_le {a b : Int} (h : a ≤ b) : ltb b a = false := by rw [ltb_f]; omega
set_option maxRecDepth 10000 in
set_option maxHeartbeats 16000000 in
theorem lkeeps_ac (l : List Db) (hl : l.length ≤ 140737488351232) (hs : ∀ d ∈ l, smD d) : AC Try.prog 3 [.d (.sl 4 (l.map dbE))] [] [] (fun r _ => r = .d (.sc (.bool true))) := by
  have ca := awake_ac
  have cf := rFew_ac l hl hs
  cases hf : fewD l with
  | false =>
    rw [hf] at cf
    refine AC_enter Try.func3 rfl Try.ntmps3 (rv := [.tmp 2]) rfl rfl (by simp) (fun w X G => ?_)
    repeat' (first | ((with_reducible refine gA ?_); (first | refine AW_seq ?_ | refine AW_region ?_ | refine AW_condT rfl ?_ | refine AW_condF rfl ?_ | refine AW_ret ?_ | refine AW_skip ?_)) | ((with_reducible refine gS ?_); refine Es_s (T := Try.tab) rfl rfl rfl rfl ?_) | (((with_reducible refine gS ?_); apply Es_q); rfl; rfl; (first | refine LStep_call (ca) rfl rfl rfl rfl | refine LStep_call (cf) rfl rfl rfl rfl)) | (refine Es_skip rfl ?_ rfl ?_; (first | rfl | (refine w_tf ?_; assumption) | (refine w_ft ?_; assumption))) | (with_reducible refine Es_nil ?_) | (with_reducible refine then_n ?_) | (with_reducible refine then_r ?_) | ((with_reducible refine gR ?_); first | refine ret1 rfl ?_ | refine ret2 rfl rfl ?_ | refine ret0 ?_ | refine end1 rfl ?_ | refine end0 ?_))
    all_goals first
      | rfl
      | trace_state
  | true =>
  rw [hf] at cf
  have hn := few_len hf
  have cA := rAll_ac l (by omega) hs
  cases hm : l.all mayD with
  | false =>
    rw [hm] at cA
    refine AC_enter Try.func3 rfl Try.ntmps3 (rv := [.tmp 2]) rfl rfl (by simp) (fun w X G => ?_)
    repeat' (first | ((with_reducible refine gA ?_); (first | refine AW_seq ?_ | refine AW_region ?_ | refine AW_condT rfl ?_ | refine AW_condF rfl ?_ | refine AW_ret ?_ | refine AW_skip ?_)) | ((with_reducible refine gS ?_); refine Es_s (T := Try.tab) rfl rfl rfl rfl ?_) | (((with_reducible refine gS ?_); apply Es_q); rfl; rfl; (first | refine LStep_call (ca) rfl rfl rfl rfl | refine LStep_call (cf) rfl rfl rfl rfl | refine LStep_call (cA) rfl rfl rfl rfl)) | (((with_reducible refine gS ?_); apply Es_q); rfl; rfl; refine LStep_simp (T := Try.tab) rfl rfl) | (with_reducible refine Es_nil ?_) | (with_reducible refine then_n ?_) | (with_reducible refine then_r ?_) | ((with_reducible refine gR ?_); first | refine ret1 rfl ?_ | refine ret2 rfl rfl ?_ | refine ret0 ?_ | refine end1 rfl ?_ | refine end0 ?_))
    all_goals first
      | rfl
      | trace_state
  | true =>
  rw [hm] at cA
  have hcl := curN_len l
  have en0 : (!eqb (0 : Int) 0) = false := by rw [eqb_t.2 rfl]; rfl
  have en3 : (!eqb (3 : Int) 0) = true := by rw [show eqb (3 : Int) 0 = false by rw [eqb_f]; omega]; rfl
  have en7 : (!eqb (7 : Int) 0) = true := by rw [show eqb (7 : Int) 0 = false by rw [eqb_f]; omega]; rfl
  have e00 : eqb (0 : Int) 0 = true := eqb_t.2 rfl
  have e77 : eqb (7 : Int) 7 = true := eqb_t.2 rfl
  have e70 : eqb (7 : Int) 0 = false := by rw [eqb_f]; omega
  by_cases hb : badN l
  · have c1 := pairsBad_ac l (by omega) hm hb
    obtain ⟨X, n, hX, c2⟩ := net_any l hn hm
    have c3 := ringsBad_ac l (by omega) hm hb
    unfold ringsX at c3
    refine AC_enter Try.func3 rfl Try.ntmps3 (rv := [.tmp 2]) rfl rfl (by simp) (fun w X G => ?_)
    repeat' (first | ((with_reducible refine gA ?_); (first | refine AW_seq ?_ | refine AW_region ?_ | refine AW_condT rfl ?_ | refine AW_condF rfl ?_ | refine AW_ret ?_ | refine AW_skip ?_)) | ((with_reducible refine gS ?_); refine Es_s (T := Try.tab) rfl rfl rfl rfl ?_) | (((with_reducible refine gS ?_); apply Es_q); rfl; rfl; (first | refine LStep_call (ca) rfl rfl rfl rfl | refine LStep_call (cf) rfl rfl rfl rfl | refine LStep_call (cA) rfl rfl rfl rfl | refine LStep_call (c1) rfl rfl rfl rfl | refine LStep_call (c2) rfl rfl rfl rfl | refine LStep_call (c3) rfl rfl rfl rfl)) | (((with_reducible refine gS ?_); apply Es_q); rfl; rfl; (first | refine LStep_simp (T := Try.tab) rfl rfl | (refine LStep_pickT rfl rfl ?_ rfl rfl; assumption))) | (refine Es_skip rfl ?_ rfl ?_; (first | rfl | (refine w_tf ?_; assumption) | (refine w_ft ?_; assumption))) | (with_reducible refine Es_nil ?_) | (with_reducible refine then_n ?_) | (with_reducible refine then_r ?_) | ((with_reducible refine gR ?_); first | refine ret1 rfl ?_ | refine ret2 rfl rfl ?_ | refine ret0 ?_ | refine end1 rfl ?_ | refine end0 ?_))
    all_goals first
      | rfl
      | trace_state
  · have c1 := pairsOk_ac l (by omega) hm hb
    by_cases hb2 : badS l
    · have c2 := net_bad l (by omega) hm hb2
      obtain ⟨X, g, n, hX, c3⟩ := rings_any l hn hm
      refine AC_enter Try.func3 rfl Try.ntmps3 (rv := [.tmp 2]) rfl rfl (by simp) (fun w X G => ?_)
      repeat' (first | ((with_reducible refine gA ?_); (first | refine AW_seq ?_ | refine AW_region ?_ | refine AW_condF rfl ?_ | (refine AW_condY rfl ?_ ?_; assumption) | refine AW_ret ?_ | refine AW_skip ?_)) | ((with_reducible refine gS ?_); refine Es_s (T := Try.tab) rfl rfl rfl rfl ?_) | (((with_reducible refine gS ?_); apply Es_q); rfl; (first | rfl | (refine w_ff ?_; assumption)); (first | refine LStep_call (ca) rfl rfl rfl rfl | refine LStep_call (cf) rfl rfl rfl rfl | refine LStep_call (cA) rfl rfl rfl rfl | refine LStep_call (c1) rfl rfl rfl rfl | refine LStep_call (c2) rfl rfl rfl rfl | refine LStep_call (c3) rfl rfl rfl rfl)) | (((with_reducible refine gS ?_); apply Es_q); rfl; (first | rfl | (refine w_ff ?_; assumption)); (first | refine LStep_simp (T := Try.tab) rfl rfl | (refine LStep_pickF rfl rfl ?_ rfl rfl; assumption))) | (with_reducible refine Es_nil ?_) | (with_reducible refine then_n ?_) | (with_reducible refine then_r ?_) | ((with_reducible refine gR ?_); first | refine ret1 rfl ?_ | refine ret2 rfl rfl ?_ | refine ret0 ?_ | refine end1 rfl ?_ | refine end0 ?_))
      all_goals first
        | rfl
        | trace_state
    · have c2 := net_ok l (by omega) hm hb2
      have hO := okD hm hb
      have hAm := pair_may hm hb
      have hBm := net_may hm hb2
      have hAl := pair_len hm hb
      have hBl := netN_len l
      have hsA := sameP_of hAm hm (pairN_pos hO.one)
      have hsB := sameP_of hBm hm (netN_pos l)
      have c4 := same_ac (pairN l) l (by omega) (by omega)
      have c5 := same_ac (netN l) l (by omega) (by omega)
      rw [hsA] at c4
      rw [hsB] at c5
      have cC := rCurrencies_ac l (by omega) hs
      rw [mF_all hm] at cC
      have s0 := fun c => rSum_ac l c (by omega) (may_bd hm)
      have s1 := fun c => rSum_ac (pairN l) c (by omega) (may_bd hAm)
      have s2 := fun c => rSum_ac (netN l) c (by omega) (may_bd hBm)
      have q1 := fun c => ltb_le (sum_pair hm c)
      have q2 := fun c => ltb_le (sum_net hAm (pairN_pos hO.one) c)
      have c6 := pairsOk_ac (pairN l) (by omega) hAm (badN_pair hm hb)
      rw [pairN_idem hO.one] at c6
      have c7 := net_ok (netN l) (by omega) hBm (badS_net hb2)
      rw [netN_idem] at c7
      have c8 := rSame_ac (pairN l) (pairN l) (by omega)
      have c9 := rSame_ac (netN l) (netN l) (by omega)
      rw [sameB_self] at c8 c9
      by_cases h8 : 8 < (parN l).length
      · have c3 := ringsMany_ac l (by omega) hm hb h8
        unfold ringsX at c3
        generalize pairN l = A at *
        generalize netN l = B at *
        refine AC_enter Try.func3 rfl Try.ntmps3 (rv := [.tmp 2]) rfl rfl (by simp) (fun w X G => ?_)
        repeat' (first | ((with_reducible refine gA ?_); (first | refine AW_seq ?_ | refine AW_region ?_ | refine AW_condF rfl ?_ | (refine AW_condN rfl ?_ ?_; assumption) | refine AW_block ?_ | refine AW_skip ?_)) | ((with_reducible refine gS ?_); refine Es_s (T := Try.tab) rfl rfl rfl rfl ?_) | (((with_reducible refine gS ?_); apply Es_q); rfl; (first | rfl | (refine w_ff ?_; assumption)); (first | refine LStep_call (ca) rfl rfl rfl rfl | refine LStep_call (cf) rfl rfl rfl rfl | refine LStep_call (cA) rfl rfl rfl rfl | refine LStep_call (c1) rfl rfl rfl rfl | refine LStep_call (c2) rfl rfl rfl rfl | refine LStep_call (c3) rfl rfl rfl rfl | refine LStep_call (c4) rfl rfl rfl rfl | refine LStep_call (c5) rfl rfl rfl rfl | refine LStep_call (cC) rfl rfl rfl rfl)) | (((with_reducible refine gS ?_); apply Es_q); rfl; (first | rfl | (refine w_ff ?_; assumption)); (first | refine LStep_simp (T := Try.tab) rfl rfl | (refine LStep_pickF rfl rfl ?_ rfl rfl; assumption))) | (with_reducible refine Es_nil ?_) | (with_reducible refine then_n ?_))
        refine AW_forE (S := Nat) (fun k => k ≤ (curN l).length) (fun k => [(11, .d (.sc (.int .i64 (k : Nat))))]) (fun _ => []) (fun k => (curN l).length - k) 0 (by omega) (by (repeat' (first | exact trivial | exact rfl | (refine ⟨Or.inl rfl, ?_⟩) | (refine ⟨Or.inr rfl, ?_⟩) | (refine ⟨Or.inr trivial, ?_⟩) | (refine ⟨rfl, ?_⟩) | (refine ⟨?_, ?_⟩)))) (by (repeat' (first | exact trivial | exact rfl | (refine ⟨Or.inl rfl, ?_⟩) | (refine ⟨Or.inr rfl, ?_⟩) | (refine ⟨Or.inr trivial, ?_⟩) | (refine ⟨rfl, ?_⟩) | (refine ⟨?_, ?_⟩)))) ?_
        intro k hk
        by_cases hlt : k < (curN l).length
        · obtain ⟨c, hc, _⟩ := drop_at hlt
          have g1 : ltb (k : Nat) ((curN l).length : Nat) = true := by rw [ltb_t]; omega
          have t0 := s0 c
          have t1 := s1 c
          have t2 := s2 c
          have r1 := q1 c
          have r2 := q2 c
          repeat' (first | ((with_reducible refine gA ?_); (first | refine AW_seq ?_ | refine AW_region ?_ | refine AW_regionD Try.mixed ?_ | refine AW_condF rfl ?_ | (refine AW_condY rfl ?_ ?_; assumption) | (refine AW_condN rfl ?_ ?_; assumption) | refine AW_block ?_ | refine AW_skip ?_)) | (first | ((with_reducible refine gS ?_); refine Es_s (T := Try.tab) rfl rfl rfl rfl ?_) | ((with_reducible refine gD ?_); refine Ed_s (T := Try.tab) rfl rfl rfl rfl ?_)) | ((first | ((with_reducible refine gS ?_); apply Es_q) | ((with_reducible refine gD ?_); apply Ed_q)); rfl; (first | rfl | (refine w_ff ?_; assumption)); (first | refine LStep_call (t0) rfl rfl rfl rfl | refine LStep_call (t1) rfl rfl rfl rfl | refine LStep_call (t2) rfl rfl rfl rfl)) | ((first | ((with_reducible refine gS ?_); apply Es_q) | ((with_reducible refine gD ?_); apply Ed_q)); rfl; (first | rfl | (refine w_ff ?_; assumption)); (first | refine LStep_simp (T := Try.tab) rfl rfl | refine LStep_lenM (T := Try.tab) rfl rfl rfl rfl | (refine LStep_add rfl rfl rfl rfl ?_; (refine IntWalk.i64_in _ ?_; first | omega | (simp only [cmps] at *; omega))) | (refine LStep_pickF rfl rfl ?_ rfl rfl; assumption) | (refine LStep_indexM (T := Try.tab) (c := ?_) rfl rfl rfl rfl rfl rfl ?_; rotate_left; assumption))) | (refine Ed_skip rfl ?_ rfl ?_; (first | rfl | (refine w_tf ?_; assumption) | (refine w_ft ?_; assumption))) | (with_reducible refine Es_nil ?_) | ((with_reducible refine Ed_nil ?_ ?_); kernel_rfl) | (with_reducible refine then_n ?_) | (with_reducible refine block_n ?_))
          all_goals first
            | (refine ⟨k + 1, ?_, by omega, by (repeat' (first | exact trivial | exact rfl | (refine ⟨Or.inl rfl, ?_⟩) | (refine ⟨Or.inr rfl, ?_⟩) | (refine ⟨Or.inr trivial, ?_⟩) | (refine ⟨rfl, ?_⟩) | (refine ⟨?_, ?_⟩))), by (repeat' (first | exact trivial | exact rfl | (refine ⟨Or.inl rfl, ?_⟩) | (refine ⟨Or.inr rfl, ?_⟩) | (refine ⟨Or.inr trivial, ?_⟩) | (refine ⟨rfl, ?_⟩) | (refine ⟨?_, ?_⟩))), by (repeat' (first | exact trivial | exact rfl | (refine ⟨Or.inl rfl, ?_⟩) | (refine ⟨Or.inr rfl, ?_⟩) | (refine ⟨Or.inr trivial, ?_⟩) | (refine ⟨rfl, ?_⟩) | (refine ⟨?_, ?_⟩))), by (repeat' (first | exact trivial | exact rfl | (refine ⟨Or.inl rfl, ?_⟩) | (refine ⟨Or.inr rfl, ?_⟩) | (refine ⟨Or.inr trivial, ?_⟩) | (refine ⟨rfl, ?_⟩) | (refine ⟨?_, ?_⟩)))⟩; omega)
            | trace_state
        · have : k = (curN l).length := by omega
          subst this
          have g1 : ltb ((curN l).length : Nat) ((curN l).length : Nat) = false := by rw [ltb_f]; omega
          repeat' (first | ((with_reducible refine gA ?_); (first | refine AW_seq ?_ | refine AW_region ?_ | refine AW_condF rfl ?_ | (refine AW_condY rfl ?_ ?_; assumption) | (refine AW_condN rfl ?_ ?_; assumption) | refine AW_ret ?_ | refine AW_skip ?_ | refine AW_exit ?_)) | ((with_reducible refine gS ?_); refine Es_s (T := Try.tab) rfl rfl rfl rfl ?_) | (((with_reducible refine gS ?_); apply Es_q); rfl; (first | rfl | (refine w_tt ?_; assumption)); (first | refine LStep_call (c6) rfl rfl rfl rfl | refine LStep_call (c7) rfl rfl rfl rfl | refine LStep_call (c8) rfl rfl rfl rfl | refine LStep_call (c9) rfl rfl rfl rfl)) | (((with_reducible refine gS ?_); apply Es_q); rfl; (first | rfl | (refine w_tt ?_; assumption)); (first | refine LStep_simp (T := Try.tab) rfl rfl | refine LStep_lenM (T := Try.tab) rfl rfl rfl rfl | refine LStep_wrap (T := Try.tab) rfl rfl | (refine LStep_pickT rfl rfl ?_ rfl rfl; assumption))) | (with_reducible refine Es_nil ?_) | (with_reducible refine then_n ?_) | (with_reducible refine then_r ?_) | (with_reducible refine then_e ?_) | ((with_reducible refine block_e ?_ ?_); rfl) | ((with_reducible refine gR ?_); first | refine ret1 rfl ?_ | refine ret2 rfl rfl ?_ | refine ret0 ?_ | refine end1 rfl ?_ | refine end0 ?_))
          all_goals first
            | rfl
            | (show AV.d (D.sc (Value.bool (eqb ((0 : Nat) : Int) 0))) = AV.d (D.sc (Value.bool true)); rw [show eqb ((0 : Nat) : Int) 0 = true from eqb_t.2 rfl]; done)
            | trace_state
      · have c3 := ringsOk_ac l (by omega) hm hb (by omega)
        unfold ringsV at c3
        have hCm := ring_may hm hb
        have hCl := ring_len hm hb
        have hpr := par_ring hm hb
        have s3 := fun c => rSum_ac (ringsN l) c (by omega) (may_bd hCm)
        have q3 := fun c => ltb_le (ringsN_sum hO c)
        have q4 := fun c => ltb_le (sum_net hCm (ringsN_pos hO) c)
        have c10 := ringsOk_ac (ringsN l) (by omega) hCm (badN_ring hm hb) (by omega)
        unfold ringsV at c10
        rw [ringsN_idem hO, gone_idem hO] at c10
        have c11 := same_ac (ringsN l) l (by omega) (by omega)
        rw [sameP_of hCm hm (ringsN_pos hO)] at c11
        have c12 := rSame_ac (ringsN l) (ringsN l) (by omega)
        rw [sameB_self] at c12
        generalize pairN l = A at *
        generalize netN l = B at *
        generalize ringsN l = C at *
        refine AC_enter Try.func3 rfl Try.ntmps3 (rv := [.tmp 2]) rfl rfl (by simp) (fun w X G => ?_)
        repeat' (first | ((with_reducible refine gA ?_); (first | refine AW_seq ?_ | refine AW_region ?_ | refine AW_condF rfl ?_ | (refine AW_condN rfl ?_ ?_; assumption) | refine AW_block ?_ | refine AW_skip ?_)) | ((with_reducible refine gS ?_); refine Es_s (T := Try.tab) rfl rfl rfl rfl ?_) | (((with_reducible refine gS ?_); apply Es_q); rfl; (first | rfl | (refine w_ff ?_; assumption)); (first | refine LStep_call (ca) rfl rfl rfl rfl | refine LStep_call (cf) rfl rfl rfl rfl | refine LStep_call (cA) rfl rfl rfl rfl | refine LStep_call (c1) rfl rfl rfl rfl | refine LStep_call (c2) rfl rfl rfl rfl | refine LStep_call (c3) rfl rfl rfl rfl | refine LStep_call (c4) rfl rfl rfl rfl | refine LStep_call (c5) rfl rfl rfl rfl | refine LStep_call (cC) rfl rfl rfl rfl)) | (((with_reducible refine gS ?_); apply Es_q); rfl; (first | rfl | (refine w_ff ?_; assumption)); (first | refine LStep_simp (T := Try.tab) rfl rfl | (refine LStep_pickF rfl rfl ?_ rfl rfl; assumption))) | (with_reducible refine Es_nil ?_) | (with_reducible refine then_n ?_))
        refine AW_forE (S := Nat) (fun k => k ≤ (curN l).length) (fun k => [(11, .d (.sc (.int .i64 (k : Nat))))]) (fun _ => []) (fun k => (curN l).length - k) 0 (by omega) (by (repeat' (first | exact trivial | exact rfl | (refine ⟨Or.inl rfl, ?_⟩) | (refine ⟨Or.inr rfl, ?_⟩) | (refine ⟨Or.inr trivial, ?_⟩) | (refine ⟨rfl, ?_⟩) | (refine ⟨?_, ?_⟩)))) (by (repeat' (first | exact trivial | exact rfl | (refine ⟨Or.inl rfl, ?_⟩) | (refine ⟨Or.inr rfl, ?_⟩) | (refine ⟨Or.inr trivial, ?_⟩) | (refine ⟨rfl, ?_⟩) | (refine ⟨?_, ?_⟩)))) ?_
        intro k hk
        by_cases hlt : k < (curN l).length
        · obtain ⟨c, hc, _⟩ := drop_at hlt
          have g1 : ltb (k : Nat) ((curN l).length : Nat) = true := by rw [ltb_t]; omega
          have t0 := s0 c
          have t1 := s1 c
          have t2 := s2 c
          have t3 := s3 c
          have r1 := q1 c
          have r2 := q2 c
          have r3 := q3 c
          have r4 := q4 c
          repeat' (first | ((with_reducible refine gA ?_); (first | refine AW_seq ?_ | refine AW_region ?_ | refine AW_regionD Try.mixed ?_ | (refine AW_condY rfl ?_ ?_; assumption) | (refine AW_condN rfl ?_ ?_; assumption) | refine AW_block ?_ | refine AW_skip ?_)) | (first | ((with_reducible refine gS ?_); refine Es_s (T := Try.tab) rfl rfl rfl rfl ?_) | ((with_reducible refine gD ?_); refine Ed_s (T := Try.tab) rfl rfl rfl rfl ?_)) | ((first | ((with_reducible refine gS ?_); apply Es_q) | ((with_reducible refine gD ?_); apply Ed_q)); rfl; (first | rfl | (refine w_tt ?_; assumption) | (refine w_ff ?_; assumption)); (first | refine LStep_call (t0) rfl rfl rfl rfl | refine LStep_call (t1) rfl rfl rfl rfl | refine LStep_call (t2) rfl rfl rfl rfl | refine LStep_call (t3) rfl rfl rfl rfl)) | ((first | ((with_reducible refine gS ?_); apply Es_q) | ((with_reducible refine gD ?_); apply Ed_q)); rfl; (first | rfl | (refine w_tt ?_; assumption) | (refine w_ff ?_; assumption)); (first | refine LStep_simp (T := Try.tab) rfl rfl | refine LStep_lenM (T := Try.tab) rfl rfl rfl rfl | (refine LStep_add rfl rfl rfl rfl ?_; (refine IntWalk.i64_in _ ?_; first | omega | (simp only [cmps] at *; omega))) | (refine LStep_pickT rfl rfl ?_ rfl rfl; assumption) | (refine LStep_pickF rfl rfl ?_ rfl rfl; assumption) | (refine LStep_indexM (T := Try.tab) (c := ?_) rfl rfl rfl rfl rfl rfl ?_; rotate_left; assumption))) | (with_reducible refine Es_nil ?_) | ((with_reducible refine Ed_nil ?_ ?_); kernel_rfl) | (with_reducible refine then_n ?_) | (with_reducible refine block_n ?_))
          all_goals first
            | (refine ⟨k + 1, ?_, by omega, by (repeat' (first | exact trivial | exact rfl | (refine ⟨Or.inl rfl, ?_⟩) | (refine ⟨Or.inr rfl, ?_⟩) | (refine ⟨Or.inr trivial, ?_⟩) | (refine ⟨rfl, ?_⟩) | (refine ⟨?_, ?_⟩))), by (repeat' (first | exact trivial | exact rfl | (refine ⟨Or.inl rfl, ?_⟩) | (refine ⟨Or.inr rfl, ?_⟩) | (refine ⟨Or.inr trivial, ?_⟩) | (refine ⟨rfl, ?_⟩) | (refine ⟨?_, ?_⟩))), by (repeat' (first | exact trivial | exact rfl | (refine ⟨Or.inl rfl, ?_⟩) | (refine ⟨Or.inr rfl, ?_⟩) | (refine ⟨Or.inr trivial, ?_⟩) | (refine ⟨rfl, ?_⟩) | (refine ⟨?_, ?_⟩))), by (repeat' (first | exact trivial | exact rfl | (refine ⟨Or.inl rfl, ?_⟩) | (refine ⟨Or.inr rfl, ?_⟩) | (refine ⟨Or.inr trivial, ?_⟩) | (refine ⟨rfl, ?_⟩) | (refine ⟨?_, ?_⟩)))⟩; omega)
            | trace_state
        · have : k = (curN l).length := by omega
          subst this
          have g1 : ltb ((curN l).length : Nat) ((curN l).length : Nat) = false := by rw [ltb_f]; omega
          repeat' (first | ((with_reducible refine gA ?_); (first | refine AW_seq ?_ | refine AW_region ?_ | refine AW_condF rfl ?_ | (refine AW_condN rfl ?_ ?_; assumption) | refine AW_ret ?_ | refine AW_skip ?_ | refine AW_exit ?_)) | ((with_reducible refine gS ?_); refine Es_s (T := Try.tab) rfl rfl rfl rfl ?_) | (((with_reducible refine gS ?_); apply Es_q); rfl; (first | rfl | (refine w_tt ?_; assumption)); (first | refine LStep_call (c6) rfl rfl rfl rfl | refine LStep_call (c7) rfl rfl rfl rfl | refine LStep_call (c8) rfl rfl rfl rfl | refine LStep_call (c9) rfl rfl rfl rfl | refine LStep_call (c10) rfl rfl rfl rfl | refine LStep_call (c11) rfl rfl rfl rfl | refine LStep_call (c12) rfl rfl rfl rfl)) | (((with_reducible refine gS ?_); apply Es_q); rfl; (first | rfl | (refine w_tt ?_; assumption)); (first | refine LStep_simp (T := Try.tab) rfl rfl | refine LStep_lenM (T := Try.tab) rfl rfl rfl rfl | (refine LStep_pickT rfl rfl ?_ rfl rfl; assumption))) | (with_reducible refine Es_nil ?_) | (with_reducible refine then_n ?_) | (with_reducible refine then_e ?_) | ((with_reducible refine block_e ?_ ?_); rfl) | ((with_reducible refine gR ?_); first | refine ret1 rfl ?_ | refine ret2 rfl rfl ?_ | refine ret0 ?_ | refine end1 rfl ?_ | refine end0 ?_))
          all_goals first
            | rfl
            | (rw [e00]; done)
            | trace_state
end Go.Proofs.Ytaejikoicbbeeaa
