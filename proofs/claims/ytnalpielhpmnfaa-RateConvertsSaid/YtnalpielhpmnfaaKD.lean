import Derived.Test.YtnalpielhpmnfaaKC
namespace Go.Proofs.Ytnalpielhpmnfaa
open Go.SL
set_option maxRecDepth 10000 in
set_option maxHeartbeats 16000000 in
theorem converts_ac (l : List RP) (m : Mon) (t : ByteArray) (day : Int) (hl : l.length ≤ 140737488351232) (hs : ∀ x ∈ l, x.1.1.size ≤ 140737488351232 ∧ x.1.2.1.size ≤ 140737488351232) (hf : m.1.size ≤ 140737488351232) (ht : t.size ≤ 140737488351232) :
    AC Try.prog 5 [.d (.sl 5 (l.map rEnc)), mnV m, .d (.sc (.string t)), .d (.sc (.int .i64 day))] [] [] (fun r _ => r = .d (.sc (.bool true))) := by
  have c0 := awake_ac
  have c1 := long_ac l hl hs
  cases hlg : longB l with
  | true =>
    rw [hlg] at c1
    unfold mnV
    refine AC_enter Try.func5 rfl Try.ntmps5 (rv := [.tmp 8]) rfl rfl (by simp) (fun w X G => ?_)
    repeat' (first | ((with_reducible refine gA ?_); (first | refine AW_seq ?_ | refine AW_region ?_ | refine AW_condT rfl ?_ | refine AW_ret ?_)) | ((with_reducible refine gS ?_); refine Es_s (T := Try.tab) rfl rfl rfl rfl ?_) | (((with_reducible refine gS ?_); apply Es_q); rfl; rfl; (first | refine LStep_call (c0) rfl rfl rfl rfl | refine LStep_call (c1) rfl rfl rfl rfl)) | (refine Es_skip rfl ?_ rfl ?_; (first | rfl | (refine w_tf ?_; assumption) | (refine w_ft ?_; assumption))) | (((with_reducible refine gS ?_); apply Es_xs); rfl; rfl; refine LStep_boxN rfl rfl rfl rfl rfl rfl; rfl) | (with_reducible refine Es_nil ?_) | (with_reducible refine then_n ?_) | (with_reducible refine then_r ?_) | ((with_reducible refine gR ?_); first | refine ret1 rfl ?_ | refine ret2 rfl rfl ?_ | refine ret0 ?_ | refine end1 rfl ?_ | refine end0 ?_))
    all_goals try simp only at *
    all_goals first
      | rfl
      | trace_state
  | false =>
    rw [hlg] at c1
    obtain ⟨hl1, _⟩ := longB_f hlg
    have cf := fill_ac l hl1
    obtain ⟨hi, hal⟩ := accR_all l
    generalize accR l = A at *
    have cv := cvt_ac A m t day hi (by omega)
    have cr := rConvert_ac A m t day hi (by omega)
    unfold hR2 at cf
    unfold hR at cv
    cases hx : cvtR A m t day with
    | some z =>
      obtain ⟨z1, z2⟩ := z
      rw [hx, cvV_some] at cv cr
      unfold mnV at *
      refine AC_enter Try.func5 rfl Try.ntmps5 (rv := [.tmp 8]) rfl rfl (by simp) (fun w X G => ?_)
      repeat' (first | ((with_reducible refine gA ?_); (first | refine AW_seq ?_ | refine AW_region ?_ | refine AW_condF rfl ?_ | (refine AW_cond rfl (fun hc => ?_) (fun hc => ?_) <;> try (exfalso; simp only [cmpL] at hc; omega)) | refine AW_ret ?_ | refine AW_skip ?_)) | ((with_reducible refine gS ?_); refine Es_s (T := Try.tab) rfl rfl rfl rfl ?_) | (((with_reducible refine gS ?_); apply Es_q); rfl; rfl; (first | refine LStep_call (c0) rfl rfl rfl rfl | refine LStep_call (c1) rfl rfl rfl rfl | refine LStep_call (cr) rfl rfl rfl rfl | refine LStep_eqNilP (T := Try.tab) rfl rfl rfl rfl | refine LStep_eqAgg (T := Try.tab) eqS_rt eqG_rt (by omega) rfl rfl rfl rfl (rt_refl _ _) rfl | refine LStep_eqAgg (T := Try.tab) eqS_mn eqG_mn (by omega) rfl rfl rfl rfl (mn_refl _ _) rfl | refine LStep_eqBoolT (T := Try.tab) rfl rfl rfl rfl rfl rfl)) | (((with_reducible refine gS ?_); apply Es_xg); rfl; rfl; (first | refine LStep_callHN [] [(10, 31), (1010, 3101)] cf rfl rfl trivial rfl trivial rfl rfl | refine LStep_callHN [(1000, 31), (1001, 3101)] [] cv rfl rfl ⟨rfl, rfl, trivial⟩ rfl ⟨trivial, trivial, trivial⟩ rfl rfl); rfl) | (((with_reducible refine gS ?_); apply Es_q); rfl; rfl; (first | refine LStep_simp (T := Try.tab) rfl rfl | (refine LStep_add rfl rfl rfl rfl ?_; (refine IntWalk.i64_in _ ?_; first | omega | (simp only [cmps] at *; omega))) | refine LStep_wrap (T := Try.tab) rfl rfl)) | (refine Es_skip rfl ?_ rfl ?_; (first | rfl | (refine w_tf ?_; assumption) | (refine w_ft ?_; assumption))) | (((with_reducible refine gS ?_); apply Es_xs); rfl; rfl; (first | refine LStep_boxN rfl rfl rfl rfl rfl rfl | refine LStep_allocN (T := Try.tab) rfl rfl rfl rfl rfl rfl); rfl) | (((with_reducible refine gS ?_); apply Es_xn); rfl; rfl; (refine LStep_storeN (T := Try.tab) rfl rfl rfl rfl rfl rfl rfl ?_ rfl; (refine Nat.le_of_ble_eq_true ?_; rfl)); rfl) | (with_reducible refine Es_nil ?_) | (with_reducible refine then_n ?_) | (with_reducible refine then_r ?_) | ((with_reducible refine gR ?_); first | refine ret1 rfl ?_ | refine ret2 rfl rfl ?_ | refine ret0 ?_ | refine end1 rfl ?_ | refine end0 ?_))
      all_goals try simp only [cmps] at *
      all_goals first
        | rfl
        | (exfalso; omega)
        | (exfalso; contradiction)
        | trace_state
    | none =>
      rw [hx, cvV_none] at cv cr
      unfold mnV at *
      refine AC_enter Try.func5 rfl Try.ntmps5 (rv := [.tmp 8]) rfl rfl (by simp) (fun w X G => ?_)
      repeat' (first | ((with_reducible refine gA ?_); (first | refine AW_seq ?_ | refine AW_region ?_ | refine AW_condF rfl ?_ | (refine AW_cond rfl (fun hc => ?_) (fun hc => ?_) <;> try (exfalso; simp only [cmpL] at hc; omega)) | refine AW_ret ?_ | refine AW_skip ?_)) | ((with_reducible refine gS ?_); refine Es_s (T := Try.tab) rfl rfl rfl rfl ?_) | (((with_reducible refine gS ?_); apply Es_q); rfl; rfl; (first | refine LStep_call (c0) rfl rfl rfl rfl | refine LStep_call (c1) rfl rfl rfl rfl | refine LStep_call (cr) rfl rfl rfl rfl | refine LStep_eqNilP (T := Try.tab) rfl rfl rfl rfl | refine LStep_eqAgg (T := Try.tab) eqS_rt eqG_rt (by omega) rfl rfl rfl rfl (rt_refl _ _) rfl | refine LStep_eqAgg (T := Try.tab) eqS_mn eqG_mn (by omega) rfl rfl rfl rfl (mn_refl _ _) rfl | refine LStep_eqBoolT (T := Try.tab) rfl rfl rfl rfl rfl rfl)) | (((with_reducible refine gS ?_); apply Es_xg); rfl; rfl; (first | refine LStep_callHN [] [(10, 31), (1010, 3101)] cf rfl rfl trivial rfl trivial rfl rfl | refine LStep_callHN [(1000, 31), (1001, 3101)] [] cv rfl rfl ⟨rfl, rfl, trivial⟩ rfl ⟨trivial, trivial, trivial⟩ rfl rfl); rfl) | (((with_reducible refine gS ?_); apply Es_q); rfl; rfl; (first | refine LStep_simp (T := Try.tab) rfl rfl | (refine LStep_add rfl rfl rfl rfl ?_; (refine IntWalk.i64_in _ ?_; first | omega | (simp only [cmps] at *; omega))) | refine LStep_wrap (T := Try.tab) rfl rfl)) | (refine Es_skip rfl ?_ rfl ?_; (first | rfl | (refine w_tf ?_; assumption) | (refine w_ft ?_; assumption))) | (((with_reducible refine gS ?_); apply Es_xs); rfl; rfl; (first | refine LStep_boxN rfl rfl rfl rfl rfl rfl | refine LStep_allocN (T := Try.tab) rfl rfl rfl rfl rfl rfl); rfl) | (((with_reducible refine gS ?_); apply Es_xn); rfl; rfl; (refine LStep_storeN (T := Try.tab) rfl rfl rfl rfl rfl rfl rfl ?_ rfl; (refine Nat.le_of_ble_eq_true ?_; rfl)); rfl) | (with_reducible refine Es_nil ?_) | (with_reducible refine then_n ?_) | (with_reducible refine then_r ?_) | ((with_reducible refine gR ?_); first | refine ret1 rfl ?_ | refine ret2 rfl rfl ?_ | refine ret0 ?_ | refine end1 rfl ?_ | refine end0 ?_))
      all_goals try simp only [cmps] at *
      all_goals first
        | rfl
        | (exfalso; omega)
        | (exfalso; contradiction)
        | trace_state
end Go.Proofs.Ytnalpielhpmnfaa
