import Derived.Test.YtnalpielhpmnfaaRU
namespace Go.Proofs.Ytnalpielhpmnfaa
open Go.SL
set_option maxRecDepth 10000 in
set_option maxHeartbeats 16000000 in
theorem copies_ac (l : List RP) (x : RP) (day : Int) (hl : l.length ≤ 140737488351232) (hs : ∀ x ∈ l, x.1.1.size ≤ 140737488351232 ∧ x.1.2.1.size ≤ 140737488351232) :
    AC Try.prog 8 [.d (.sl 5 (l.map rEnc)), rAV x, .d (.sc (.int .i64 day))] [] [] (fun r _ => r = .d (.sc (.bool true))) := by
  have c0 := awake_ac
  have c1 := long_ac l hl hs
  have c2 := rMay_ac x
  by_cases hgo : longB l = true ∨ mayR x = false
  · unfold rAV at *
    rcases hgo with hg | hg
    · rw [hg] at c1
      refine AC_enter Try.func8 rfl Try.ntmps8 (rv := [.tmp 6]) rfl rfl (by simp) (fun w X G => ?_)
      repeat' (first | ((with_reducible refine gA ?_); (first | refine AW_seq ?_ | refine AW_region ?_ | refine AW_condT rfl ?_ | refine AW_ret ?_)) | ((with_reducible refine gS ?_); refine Es_s (T := Try.tab) rfl rfl rfl rfl ?_) | (((with_reducible refine gS ?_); apply Es_q); rfl; rfl; (first | refine LStep_call (c0) rfl rfl rfl rfl | refine LStep_call (c1) rfl rfl rfl rfl)) | (refine Es_skip rfl ?_ rfl ?_; (first | rfl | (refine w_tf ?_; assumption) | (refine w_ft ?_; assumption))) | (((with_reducible refine gS ?_); apply Es_xs); rfl; rfl; refine LStep_boxN rfl rfl rfl rfl rfl rfl; rfl) | (with_reducible refine Es_nil ?_) | (with_reducible refine then_n ?_) | (with_reducible refine then_r ?_) | ((with_reducible refine gR ?_); first | refine ret1 rfl ?_ | refine ret2 rfl rfl ?_ | refine ret0 ?_ | refine end1 rfl ?_ | refine end0 ?_))
      all_goals try simp only [cmps] at *
      all_goals first
        | rfl
        | trace_state
    · rw [hg] at c2
      refine AC_enter Try.func8 rfl Try.ntmps8 (rv := [.tmp 6]) rfl rfl (by simp) (fun w X G => ?_)
      repeat' (first | ((with_reducible refine gA ?_); (first | refine AW_seq ?_ | refine AW_region ?_ | refine AW_condT rfl ?_ | refine AW_ret ?_)) | ((with_reducible refine gS ?_); refine Es_s (T := Try.tab) rfl rfl rfl rfl ?_) | (((with_reducible refine gS ?_); apply Es_q); rfl; (first | rfl | (refine w_ff ?_; assumption)); (first | refine LStep_call (c0) rfl rfl rfl rfl | refine LStep_call (c1) rfl rfl rfl rfl | refine LStep_call (c2) rfl rfl rfl rfl)) | (((with_reducible refine gS ?_); apply Es_q); rfl; (first | rfl | (refine w_ff ?_; assumption)); (first | refine LStep_simp (T := Try.tab) rfl rfl | (refine LStep_pickT rfl rfl ?_ rfl rfl; assumption) | (refine LStep_pickF rfl rfl ?_ rfl rfl; assumption))) | (refine Es_skip rfl ?_ rfl ?_; (first | rfl | (refine w_tf ?_; assumption) | (refine w_ft ?_; assumption))) | (((with_reducible refine gS ?_); apply Es_xs); rfl; rfl; refine LStep_boxN rfl rfl rfl rfl rfl rfl; rfl) | (refine Es_split rfl ?_ (fun _ => ?_) (fun _ => ?_); ((fail_if_success (refine und_t ?_; assumption)); (fail_if_success (refine und_f ?_; assumption)); exact trivial)) | (with_reducible refine Es_nil ?_) | (with_reducible refine then_n ?_) | (with_reducible refine then_r ?_) | ((with_reducible refine gR ?_); first | refine ret1 rfl ?_ | refine ret2 rfl rfl ?_ | refine ret0 ?_ | refine end1 rfl ?_ | refine end0 ?_))
      all_goals try simp only [cmps] at *
      all_goals first
        | rfl
        | trace_state
  · have hlg : longB l = false := by cases h : longB l with | false => rfl | true => exact absurd (.inl h) hgo
    have hm : mayR x = true := by cases h : mayR x with | true => rfl | false => exact absurd (.inr h) hgo
    rw [hlg] at c1
    rw [hm] at c2
    obtain ⟨hl1, _⟩ := longB_f hlg
    have cf := fill_ac l hl1
    obtain ⟨hi, hal⟩ := accR_all l
    generalize accR l = A at *
    have cc := copy_ac A hi.nd (by omega)
    have cg := get_ac A x.1.1 x.1.2.1 day hi (by omega)
    have cs := set_ac A x (by omega)
    obtain ⟨hi2, hal2⟩ := setL_inv hi x
    have cn := get_ac (setL A x) x.1.1 x.1.2.1 day hi2 (by omega)
    have cv : ∀ v : List RP, v.Perm A → AC Try.prog 13 [.ptr 1000 0, .d (.sc (.string x.1.1)), .d (.sc (.string x.1.2.1)), .d (.sc (.int .i64 day))] (hR v) [1000, 1001] (fun r h' => r = lkV (getR A x.1.1 x.1.2.1 day) ∧ SubH (hR v) h') := fun v hv => by
      have h := get_ac v x.1.1 x.1.2.1 day (hi.perm hv) (by rw [hv.length_eq]; omega)
      rw [getR_perm hv hi.nd] at h
      exact h
    have ha := @getR_ahead A x x.1.1 x.1.2.1 day
    have hfr := @getR_from A x day
    generalize setL A x = B at *
    generalize setE A x = e at *
    obtain ⟨⟨f, t, d⟩, n, m⟩ := x
    dsimp only at *
    unfold rAV at *
    dsimp only at *
    unfold hR2 at cf
    unfold hR at *
    by_cases hah : e ≠ 0 ∨ day < d ∨ 1048576 < day
    · rw [ha hah] at cn
      have hE : e = 0 → ¬ (d ≤ day ∧ day ≤ 1048576) := fun h1 h2 => by rcases hah with q | q | q <;> omega
      cases hx : getR A f t day with
      | none =>
        rw [hx, lkV_none] at cg cn cv
        refine AC_enter Try.func8 rfl Try.ntmps8 (rv := [.tmp 6]) rfl rfl (by simp) (fun w X G => ?_)
        repeat' (first | ((with_reducible refine gA ?_); refine AW_unP (m := 3301) rfl (fun es hes => ?_); obtain ⟨v, hv, rfl⟩ := perm_map_inv hes A rfl; have cv' := cv v hv) | ((with_reducible refine gA ?_); (first | refine AW_seq ?_ | refine AW_region ?_ | refine AW_condT rfl ?_ | refine AW_condF rfl ?_ | (refine AW_cond rfl (fun hc => ?_) (fun hc => ?_) <;> try (exfalso; simp only [cmpL] at hc; omega)) | refine AW_ret ?_ | refine AW_skip ?_)) | ((with_reducible refine gS ?_); refine Es_s (T := Try.tab) rfl rfl rfl rfl ?_) | (((with_reducible refine gS ?_); apply Es_q); rfl; (first | rfl | (refine w_ff ?_; assumption)); (first | refine LStep_call (c0) rfl rfl rfl rfl | refine LStep_call (c1) rfl rfl rfl rfl | refine LStep_call (c2) rfl rfl rfl rfl | refine LStep_eqNilP (T := Try.tab) rfl rfl rfl rfl | refine LStep_eqBoolT (T := Try.tab) rfl rfl rfl rfl rfl rfl | refine LStep_eqAgg (T := Try.tab) eqS_rt eqG_rt (by omega) rfl rfl rfl rfl (rt_refl _ _) rfl | refine LStep_neqAgg (T := Try.tab) eqS_rt eqG_rt (by omega) rfl rfl rfl rfl (rt_refl _ _) rfl | refine LStep_neBool (T := Try.tab) rfl rfl rfl rfl rfl)) | (((with_reducible refine gS ?_); apply Es_xg); rfl; (first | rfl | (refine w_ff ?_; assumption)); (first | refine LStep_callHN [] [(10, 27), (1010, 2701)] cf rfl rfl trivial rfl trivial rfl rfl | refine LStep_callHN [(1000, 27), (1001, 2701)] [(4, 33), (401, 3301)] cc rfl rfl ⟨rfl, rfl, trivial⟩ rfl ⟨trivial, trivial, trivial⟩ rfl rfl | refine LStep_callHN [(1000, 27), (1001, 2701)] [] cg rfl rfl ⟨rfl, rfl, trivial⟩ rfl ⟨trivial, trivial, trivial⟩ rfl rfl | refine LStep_callHN [(1000, 27), (1001, 2701)] [] cs rfl rfl ⟨rfl, rfl, trivial⟩ rfl ⟨trivial, trivial, trivial⟩ rfl rfl | refine LStep_callHN [(1000, 33), (1001, 3301)] [] cv' rfl rfl ⟨rfl, rfl, trivial⟩ rfl ⟨trivial, trivial, trivial⟩ rfl rfl | refine LStep_callHN [(1000, 27), (1001, 2701)] [] cn rfl rfl ⟨rfl, rfl, trivial⟩ rfl ⟨trivial, trivial, trivial⟩ rfl rfl); rfl) | (((with_reducible refine gS ?_); apply Es_q); rfl; (first | rfl | (refine w_ff ?_; assumption)); (first | refine LStep_simp (T := Try.tab) rfl rfl | (refine LStep_pickT rfl rfl ?_ rfl rfl; assumption) | (refine LStep_pickF rfl rfl ?_ rfl rfl; assumption))) | (refine Es_skip rfl ?_ rfl ?_; (first | rfl | (refine w_tf ?_; assumption) | (refine w_ft ?_; assumption))) | (((with_reducible refine gS ?_); apply Es_xs); rfl; rfl; (first | refine LStep_boxN rfl rfl rfl rfl rfl rfl | refine LStep_allocN (T := Try.tab) rfl rfl rfl rfl rfl rfl); rfl) | (((with_reducible refine gS ?_); apply Es_xn); rfl; rfl; (refine LStep_storeN (T := Try.tab) rfl rfl rfl rfl rfl rfl rfl ?_ rfl; (refine Nat.le_of_ble_eq_true ?_; rfl)); rfl) | (refine Es_split rfl ?_ (fun _ => ?_) (fun _ => ?_); ((fail_if_success (refine und_t ?_; assumption)); (fail_if_success (refine und_f ?_; assumption)); exact trivial)) | (with_reducible refine Es_nil ?_) | (with_reducible refine then_n ?_) | (with_reducible refine then_r ?_) | ((with_reducible refine gR ?_); first | refine ret1 rfl ?_ | refine ret2 rfl rfl ?_ | refine ret0 ?_ | refine end1 rfl ?_ | refine end0 ?_))
        all_goals try simp only [cmps] at *
        all_goals first
          | rfl
          | (exfalso; omega)
          | (exfalso; exact hE ‹_› (by omega))
          | trace_state
      | some y =>
        rw [hx, lkV_some] at cg cn cv
        refine AC_enter Try.func8 rfl Try.ntmps8 (rv := [.tmp 6]) rfl rfl (by simp) (fun w X G => ?_)
        repeat' (first | ((with_reducible refine gA ?_); refine AW_unP (m := 3301) rfl (fun es hes => ?_); obtain ⟨v, hv, rfl⟩ := perm_map_inv hes A rfl; have cv' := cv v hv) | ((with_reducible refine gA ?_); (first | refine AW_seq ?_ | refine AW_region ?_ | refine AW_condT rfl ?_ | refine AW_condF rfl ?_ | (refine AW_cond rfl (fun hc => ?_) (fun hc => ?_) <;> try (exfalso; simp only [cmpL] at hc; omega)) | refine AW_ret ?_ | refine AW_skip ?_)) | ((with_reducible refine gS ?_); refine Es_s (T := Try.tab) rfl rfl rfl rfl ?_) | (((with_reducible refine gS ?_); apply Es_q); rfl; (first | rfl | (refine w_ff ?_; assumption)); (first | refine LStep_call (c0) rfl rfl rfl rfl | refine LStep_call (c1) rfl rfl rfl rfl | refine LStep_call (c2) rfl rfl rfl rfl | refine LStep_eqNilP (T := Try.tab) rfl rfl rfl rfl | refine LStep_eqBoolT (T := Try.tab) rfl rfl rfl rfl rfl rfl | refine LStep_eqAgg (T := Try.tab) eqS_rt eqG_rt (by omega) rfl rfl rfl rfl (rt_refl _ _) rfl | refine LStep_neqAgg (T := Try.tab) eqS_rt eqG_rt (by omega) rfl rfl rfl rfl (rt_refl _ _) rfl | refine LStep_neBool (T := Try.tab) rfl rfl rfl rfl rfl)) | (((with_reducible refine gS ?_); apply Es_xg); rfl; (first | rfl | (refine w_ff ?_; assumption)); (first | refine LStep_callHN [] [(10, 27), (1010, 2701)] cf rfl rfl trivial rfl trivial rfl rfl | refine LStep_callHN [(1000, 27), (1001, 2701)] [(4, 33), (401, 3301)] cc rfl rfl ⟨rfl, rfl, trivial⟩ rfl ⟨trivial, trivial, trivial⟩ rfl rfl | refine LStep_callHN [(1000, 27), (1001, 2701)] [] cg rfl rfl ⟨rfl, rfl, trivial⟩ rfl ⟨trivial, trivial, trivial⟩ rfl rfl | refine LStep_callHN [(1000, 27), (1001, 2701)] [] cs rfl rfl ⟨rfl, rfl, trivial⟩ rfl ⟨trivial, trivial, trivial⟩ rfl rfl | refine LStep_callHN [(1000, 33), (1001, 3301)] [] cv' rfl rfl ⟨rfl, rfl, trivial⟩ rfl ⟨trivial, trivial, trivial⟩ rfl rfl | refine LStep_callHN [(1000, 27), (1001, 2701)] [] cn rfl rfl ⟨rfl, rfl, trivial⟩ rfl ⟨trivial, trivial, trivial⟩ rfl rfl); rfl) | (((with_reducible refine gS ?_); apply Es_q); rfl; (first | rfl | (refine w_ff ?_; assumption)); (first | refine LStep_simp (T := Try.tab) rfl rfl | (refine LStep_pickT rfl rfl ?_ rfl rfl; assumption) | (refine LStep_pickF rfl rfl ?_ rfl rfl; assumption))) | (refine Es_skip rfl ?_ rfl ?_; (first | rfl | (refine w_tf ?_; assumption) | (refine w_ft ?_; assumption))) | (((with_reducible refine gS ?_); apply Es_xs); rfl; rfl; (first | refine LStep_boxN rfl rfl rfl rfl rfl rfl | refine LStep_allocN (T := Try.tab) rfl rfl rfl rfl rfl rfl); rfl) | (((with_reducible refine gS ?_); apply Es_xn); rfl; rfl; (refine LStep_storeN (T := Try.tab) rfl rfl rfl rfl rfl rfl rfl ?_ rfl; (refine Nat.le_of_ble_eq_true ?_; rfl)); rfl) | (refine Es_split rfl ?_ (fun _ => ?_) (fun _ => ?_); ((fail_if_success (refine und_t ?_; assumption)); (fail_if_success (refine und_f ?_; assumption)); exact trivial)) | (with_reducible refine Es_nil ?_) | (with_reducible refine then_n ?_) | (with_reducible refine then_r ?_) | ((with_reducible refine gR ?_); first | refine ret1 rfl ?_ | refine ret2 rfl rfl ?_ | refine ret0 ?_ | refine end1 rfl ?_ | refine end0 ?_))
        all_goals try simp only [cmps] at *
        all_goals first
          | rfl
          | (exfalso; omega)
          | (exfalso; exact hE ‹_› (by omega))
          | trace_state
    · have h0 : e = 0 := by omega
      subst h0
      obtain ⟨z, hz⟩ := hfr rfl (by omega) (by omega)
      rw [hz, lkV_some] at cn
      cases hx : getR A f t day with
      | none =>
        rw [hx, lkV_none] at cg cv
        refine AC_enter Try.func8 rfl Try.ntmps8 (rv := [.tmp 6]) rfl rfl (by simp) (fun w X G => ?_)
        repeat' (first | ((with_reducible refine gA ?_); refine AW_unP (m := 3301) rfl (fun es hes => ?_); obtain ⟨v, hv, rfl⟩ := perm_map_inv hes A rfl; have cv' := cv v hv) | ((with_reducible refine gA ?_); (first | refine AW_seq ?_ | refine AW_region ?_ | refine AW_condT rfl ?_ | refine AW_condF rfl ?_ | (refine AW_cond rfl (fun hc => ?_) (fun hc => ?_) <;> try (exfalso; simp only [cmpL] at hc; omega)) | refine AW_ret ?_ | refine AW_skip ?_)) | ((with_reducible refine gS ?_); refine Es_s (T := Try.tab) rfl rfl rfl rfl ?_) | (((with_reducible refine gS ?_); apply Es_q); rfl; (first | rfl | (refine w_ff ?_; assumption)); (first | refine LStep_call (c0) rfl rfl rfl rfl | refine LStep_call (c1) rfl rfl rfl rfl | refine LStep_call (c2) rfl rfl rfl rfl | refine LStep_eqNilP (T := Try.tab) rfl rfl rfl rfl | refine LStep_neqAgg (T := Try.tab) eqS_rt eqG_rt (by omega) rfl rfl rfl rfl (rt_refl _ _) rfl | refine LStep_neBool (T := Try.tab) rfl rfl rfl rfl rfl)) | (((with_reducible refine gS ?_); apply Es_xg); rfl; (first | rfl | (refine w_ff ?_; assumption)); (first | refine LStep_callHN [] [(10, 27), (1010, 2701)] cf rfl rfl trivial rfl trivial rfl rfl | refine LStep_callHN [(1000, 27), (1001, 2701)] [(4, 33), (401, 3301)] cc rfl rfl ⟨rfl, rfl, trivial⟩ rfl ⟨trivial, trivial, trivial⟩ rfl rfl | refine LStep_callHN [(1000, 27), (1001, 2701)] [] cg rfl rfl ⟨rfl, rfl, trivial⟩ rfl ⟨trivial, trivial, trivial⟩ rfl rfl | refine LStep_callHN [(1000, 27), (1001, 2701)] [] cs rfl rfl ⟨rfl, rfl, trivial⟩ rfl ⟨trivial, trivial, trivial⟩ rfl rfl | refine LStep_callHN [(1000, 33), (1001, 3301)] [] cv' rfl rfl ⟨rfl, rfl, trivial⟩ rfl ⟨trivial, trivial, trivial⟩ rfl rfl | refine LStep_callHN [(1000, 27), (1001, 2701)] [] cn rfl rfl ⟨rfl, rfl, trivial⟩ rfl ⟨trivial, trivial, trivial⟩ rfl rfl); rfl) | (((with_reducible refine gS ?_); apply Es_q); rfl; (first | rfl | (refine w_ff ?_; assumption)); (first | refine LStep_simp (T := Try.tab) rfl rfl | (refine LStep_pickT rfl rfl ?_ rfl rfl; assumption) | (refine LStep_pickF rfl rfl ?_ rfl rfl; assumption))) | (refine Es_skip rfl ?_ rfl ?_; (first | rfl | (refine w_tf ?_; assumption) | (refine w_ft ?_; assumption))) | (((with_reducible refine gS ?_); apply Es_xs); rfl; rfl; (first | refine LStep_boxN rfl rfl rfl rfl rfl rfl | refine LStep_allocN (T := Try.tab) rfl rfl rfl rfl rfl rfl); rfl) | (((with_reducible refine gS ?_); apply Es_xn); rfl; rfl; (refine LStep_storeN (T := Try.tab) rfl rfl rfl rfl rfl rfl rfl ?_ rfl; (refine Nat.le_of_ble_eq_true ?_; rfl)); rfl) | (refine Es_split rfl ?_ (fun _ => ?_) (fun _ => ?_); ((fail_if_success (refine und_t ?_; assumption)); (fail_if_success (refine und_f ?_; assumption)); exact trivial)) | (with_reducible refine Es_nil ?_) | (with_reducible refine then_n ?_) | ((with_reducible refine gR ?_); first | refine ret1 rfl ?_ | refine ret2 rfl rfl ?_ | refine ret0 ?_ | refine end1 rfl ?_ | refine end0 ?_))
        all_goals try simp only [cmps] at *
        all_goals first
          | rfl
          | (exfalso; omega)
          | trace_state
      | some y =>
        rw [hx, lkV_some] at cg cv
        refine AC_enter Try.func8 rfl Try.ntmps8 (rv := [.tmp 6]) rfl rfl (by simp) (fun w X G => ?_)
        repeat' (first | ((with_reducible refine gA ?_); refine AW_unP (m := 3301) rfl (fun es hes => ?_); obtain ⟨v, hv, rfl⟩ := perm_map_inv hes A rfl; have cv' := cv v hv) | ((with_reducible refine gA ?_); (first | refine AW_seq ?_ | refine AW_region ?_ | refine AW_condT rfl ?_ | refine AW_condF rfl ?_ | (refine AW_cond rfl (fun hc => ?_) (fun hc => ?_) <;> try (exfalso; simp only [cmpL] at hc; omega)) | refine AW_ret ?_ | refine AW_skip ?_)) | ((with_reducible refine gS ?_); refine Es_s (T := Try.tab) rfl rfl rfl rfl ?_) | (((with_reducible refine gS ?_); apply Es_q); rfl; (first | rfl | (refine w_ff ?_; assumption)); (first | refine LStep_call (c0) rfl rfl rfl rfl | refine LStep_call (c1) rfl rfl rfl rfl | refine LStep_call (c2) rfl rfl rfl rfl | refine LStep_eqNilP (T := Try.tab) rfl rfl rfl rfl | refine LStep_neqAgg (T := Try.tab) eqS_rt eqG_rt (by omega) rfl rfl rfl rfl (rt_refl _ _) rfl | refine LStep_neBool (T := Try.tab) rfl rfl rfl rfl rfl)) | (((with_reducible refine gS ?_); apply Es_xg); rfl; (first | rfl | (refine w_ff ?_; assumption)); (first | refine LStep_callHN [] [(10, 27), (1010, 2701)] cf rfl rfl trivial rfl trivial rfl rfl | refine LStep_callHN [(1000, 27), (1001, 2701)] [(4, 33), (401, 3301)] cc rfl rfl ⟨rfl, rfl, trivial⟩ rfl ⟨trivial, trivial, trivial⟩ rfl rfl | refine LStep_callHN [(1000, 27), (1001, 2701)] [] cg rfl rfl ⟨rfl, rfl, trivial⟩ rfl ⟨trivial, trivial, trivial⟩ rfl rfl | refine LStep_callHN [(1000, 27), (1001, 2701)] [] cs rfl rfl ⟨rfl, rfl, trivial⟩ rfl ⟨trivial, trivial, trivial⟩ rfl rfl | refine LStep_callHN [(1000, 33), (1001, 3301)] [] cv' rfl rfl ⟨rfl, rfl, trivial⟩ rfl ⟨trivial, trivial, trivial⟩ rfl rfl | refine LStep_callHN [(1000, 27), (1001, 2701)] [] cn rfl rfl ⟨rfl, rfl, trivial⟩ rfl ⟨trivial, trivial, trivial⟩ rfl rfl); rfl) | (((with_reducible refine gS ?_); apply Es_q); rfl; (first | rfl | (refine w_ff ?_; assumption)); (first | refine LStep_simp (T := Try.tab) rfl rfl | (refine LStep_pickT rfl rfl ?_ rfl rfl; assumption) | (refine LStep_pickF rfl rfl ?_ rfl rfl; assumption))) | (refine Es_skip rfl ?_ rfl ?_; (first | rfl | (refine w_tf ?_; assumption) | (refine w_ft ?_; assumption))) | (((with_reducible refine gS ?_); apply Es_xs); rfl; rfl; (first | refine LStep_boxN rfl rfl rfl rfl rfl rfl | refine LStep_allocN (T := Try.tab) rfl rfl rfl rfl rfl rfl); rfl) | (((with_reducible refine gS ?_); apply Es_xn); rfl; rfl; (refine LStep_storeN (T := Try.tab) rfl rfl rfl rfl rfl rfl rfl ?_ rfl; (refine Nat.le_of_ble_eq_true ?_; rfl)); rfl) | (refine Es_split rfl ?_ (fun _ => ?_) (fun _ => ?_); ((fail_if_success (refine und_t ?_; assumption)); (fail_if_success (refine und_f ?_; assumption)); exact trivial)) | (with_reducible refine Es_nil ?_) | (with_reducible refine then_n ?_) | ((with_reducible refine gR ?_); first | refine ret1 rfl ?_ | refine ret2 rfl rfl ?_ | refine ret0 ?_ | refine end1 rfl ?_ | refine end0 ?_))
        all_goals try simp only [cmps] at *
        all_goals first
          | rfl
          | (exfalso; omega)
          | trace_state
end Go.Proofs.Ytnalpielhpmnfaa
