import Derived.Test.YtbekoielblcbmaaY3
import Derived.Test.YtbekoielblcbmaaX5
namespace Go.Proofs.Ytbekoielblcbmaa
open Go.SL
/-! ### LedgerRefuses -/
def Led.Few (s : Led) : Prop := ∀ p ∈ s.P, p.entries.length ≤ 64
theorem enterS_few {s : Led} (h : s.Few) (t : ByteArray) {x : List Ent} (hx : x.length ≤ 64) : (enterS s t x).Few := by
  intro p hp
  rcases List.mem_append.1 hp with hp | hp
  · exact h p hp
  · simp only [List.mem_singleton] at hp
    subst hp
    exact hx
theorem doS_few {s : Led} (h : s.Few) (x : Act) : (doS s x).Few := by
  by_cases hg : grows s x
  · rcases hg with ⟨e, hq⟩ | ⟨e, hq⟩
    · rw [doS, if_neg (by rw [e]; decide), if_pos e, if_pos hq]
      refine enterS_few h _ ?_
      unfold postE at hq
      split at hq
      · cases hq
      omega
    · rw [doS, if_neg (by rw [e]; decide), if_neg (by rw [e]; decide), if_neg (by rw [e]; decide), if_pos e, if_pos hq]
      obtain ⟨h', a, q1, _⟩ := takeE_ok hq
      unfold takeS
      rw [q1]
      exact enterS_few (s := lessS s h' x.n) h _ (by simp [takeX])
  · intro p hp
    rw [doS_P hg] at hp
    exact h p hp
theorem playS_few {s : Led} (h : s.Few) (l : List Act) : (playS s l).Few := by
  unfold playS
  induction l generalizing s with
  | nil => exact h
  | cons x l ih => exact ih (doS_few h x)
theorem Led0_few : Led0.Few := fun p hp => by simp [Led0] at hp
theorem doE_grows {s : Led} {x : Act} (hg : grows s x) : doE s x = 0 := by
  rcases hg with ⟨h, hq⟩ | ⟨h, hq⟩
  · rw [doE, if_neg (by rw [h]; decide), if_pos h, hq]
  · rw [doE, if_neg (by rw [h]; decide), if_neg (by rw [h]; decide), if_neg (by rw [h]; decide), if_pos h, hq]
theorem doS_no {s : Led} {x : Act} (he : doE s x ≠ 0) : doS s x = s := by
  unfold doE at he
  unfold doS
  by_cases h0 : x.k = 0
  · rw [if_pos h0] at he ⊢
    unfold openS at he ⊢
    split
    · rfl
    split
    · rfl
    split
    · rfl
    split
    · rfl
    · rename_i h1 h2 h3 h4
      rw [if_neg h1, if_neg h2, if_neg h3, if_neg h4] at he
      exact absurd rfl he
  rw [if_neg h0] at he ⊢
  by_cases h1 : x.k = 1
  · rw [if_pos h1] at he ⊢
    rw [if_neg he]
  rw [if_neg h1] at he ⊢
  by_cases h2 : x.k = 2
  · rw [if_pos h2] at he ⊢
    unfold holdS
    rw [if_neg he]
  rw [if_neg h2] at he ⊢
  by_cases h3 : x.k = 3
  · rw [if_pos h3] at he ⊢
    rw [if_neg he]
  rw [if_neg h3] at he ⊢
  unfold letE at he
  unfold letS
  cases hq : aget x.a s.H with
  | none => rfl
  | some h => rw [hq] at he; simp at he
set_option maxRecDepth 10000 in
set_option maxHeartbeats 4000000 in
theorem refuses_ac (l : List Act) (x : Act) (hl : l.length ≤ 140737488351232) (hk : ∀ x ∈ l, 0 ≤ x.kind) (hx : 0 ≤ x.kind) : AC Try.prog 8 [.d (.sl 6 (l.map Act.enc)), .agg x.cs] [] [] (fun r _ => r = .d (.sc (.bool true))) := by
  have cf := few_ac l hl
  have cg := few_ac [x] (by simp)
  cases hfew : fewL l with
  | false =>
    rw [hfew] at cf
    refine AC_enter Try.func8 rfl Try.ntmps8 (rv := [.tmp 4]) rfl rfl (by simp) (fun w X G => ?_)
    repeat' (first | ((with_reducible refine gA ?_); (first | refine AW_seq ?_ | refine AW_region ?_ | refine AW_condT rfl ?_ | refine AW_ret ?_)) | ((with_reducible refine gS ?_); refine Es_s (T := Try.tab) rfl rfl rfl rfl ?_) | (((with_reducible refine gS ?_); apply Es_q); rfl; rfl; (first | refine LStep_call (awake_ac) rfl rfl rfl rfl | refine LStep_call (cf) rfl rfl rfl rfl)) | (((with_reducible refine gS ?_); apply Es_q); rfl; rfl; refine LStep_simp (T := Try.tab) rfl rfl) | (refine Es_skip rfl ?_ rfl ?_; (first | rfl | (refine w_tf ?_; assumption) | (refine w_ft ?_; assumption))) | (((with_reducible refine gS ?_); apply Es_xs); rfl; rfl; refine LStep_boxN rfl rfl rfl rfl rfl rfl; rfl) | (with_reducible refine Es_nil ?_) | (with_reducible refine then_n ?_) | (with_reducible refine then_r ?_) | ((with_reducible refine gR ?_); first | refine ret1 rfl ?_ | refine ret2 rfl rfl ?_ | refine ret0 ?_ | refine end1 rfl ?_ | refine end0 ?_))
    rfl
  | true =>
  cases hfew2 : fewL [x] with
  | false =>
    rw [hfew] at cf
    rw [hfew2] at cg
    refine AC_enter Try.func8 rfl Try.ntmps8 (rv := [.tmp 4]) rfl rfl (by simp) (fun w X G => ?_)
    repeat' (first | ((with_reducible refine gA ?_); (first | refine AW_seq ?_ | refine AW_region ?_ | refine AW_condT rfl ?_ | refine AW_ret ?_)) | ((with_reducible refine gS ?_); refine Es_s (T := Try.tab) rfl rfl rfl rfl ?_) | (((with_reducible refine gS ?_); apply Es_q); rfl; rfl; (first | refine LStep_call (awake_ac) rfl rfl rfl rfl | refine LStep_call (cf) rfl rfl rfl rfl | refine LStep_call (cg) rfl rfl rfl rfl)) | (((with_reducible refine gS ?_); apply Es_q); rfl; rfl; (first | refine LStep_simp (T := Try.tab) rfl rfl | (refine LStep_lit (T := Try.tab) rfl rfl rfl rfl rfl rfl rfl rfl ?_; (refine Nat.le_of_ble_eq_true ?_; rfl)))) | (refine Es_skip rfl ?_ rfl ?_; (first | rfl | (refine w_tf ?_; assumption) | (refine w_ft ?_; assumption))) | (((with_reducible refine gS ?_); apply Es_xs); rfl; rfl; refine LStep_boxN rfl rfl rfl rfl rfl rfl; rfl) | (with_reducible refine Es_nil ?_) | (with_reducible refine then_n ?_) | (with_reducible refine then_r ?_) | ((with_reducible refine gR ?_); first | refine ret1 rfl ?_ | refine ret2 rfl rfl ?_ | refine ret0 ?_ | refine end1 rfl ?_ | refine end0 ?_))
    rfl
  | true =>
    rw [hfew] at cf
    rw [hfew2] at cg
    have cp := played_ac l hfew hk
    have hok := playS_ok Led0_ok l
    have hfe := playS_few Led0_few l
    have hxa : x.a.size ≤ 60 := by
      unfold fewL fewA at hfew2
      simp at hfew2
      omega
    generalize playS Led0 l = s at cp hok hfe
    have cc := lcopy_ac s hok (fun p hp => by have := hfe p hp; omega)
    by_cases hg : grows s x
    · have cd := doOk_ac s x hok hx (by omega) hg
      rw [doE_grows hg] at cd
      have hP := doS_grows hg
      refine AC_enter Try.func8 rfl Try.ntmps8 (rv := [.tmp 4]) rfl rfl (by simp) (fun w X G => ?_)
      repeat' (first | ((with_reducible refine gA ?_); refine AW_unP (m := 2601) rfl (fun es1 hes1 => ?_)) | ((with_reducible refine gA ?_); refine AW_unP (m := 2603) rfl (fun es2 hes2 => ?_)) | ((with_reducible refine gA ?_); (first | refine AW_seq ?_ | refine AW_region ?_ | refine AW_condF rfl ?_ | (refine AW_cond rfl (fun hc => ?_) (fun hc => ?_) <;> try (exfalso; simp only [cmpL] at hc; omega)) | refine AW_ret ?_ | refine AW_skip ?_)) | ((with_reducible refine gS ?_); refine Es_s (T := Try.tab) rfl rfl rfl rfl ?_) | (((with_reducible refine gS ?_); apply Es_q); rfl; rfl; (first | refine LStep_call (awake_ac) rfl rfl rfl rfl | refine LStep_call (cf) rfl rfl rfl rfl | refine LStep_call (cg) rfl rfl rfl rfl)) | (((with_reducible refine gS ?_); apply Es_xg); rfl; rfl; (first | refine LStep_callHN [] [(5, 24), (5001, 2401), (5002, 2402), (5003, 2403)] cp rfl rfl trivial rfl trivial rfl rfl | refine LStep_callHN [(1000, 24), (1001, 2401), (1002, 2402), (1003, 2403)] [(4, 26), (4001, 2601), (28, 2602), (4003, 2603)] cc rfl rfl ⟨rfl, rfl, rfl, rfl, trivial⟩ rfl ⟨trivial, trivial, rfl, trivial, trivial⟩ rfl rfl | refine LStep_callGN [1002] [(1000, 24), (1001, 2401), (1002, 2402), (1003, 2403)] [] cd rfl rfl ⟨rfl, rfl, rfl, rfl, trivial⟩ rfl ⟨trivial, trivial, hP, trivial, trivial⟩ rfl rfl); rfl) | (((with_reducible refine gS ?_); apply Es_q); rfl; rfl; (first | refine LStep_simp (T := Try.tab) rfl rfl | (refine LStep_lit (T := Try.tab) rfl rfl rfl rfl rfl rfl rfl rfl ?_; (refine Nat.le_of_ble_eq_true ?_; rfl)))) | (refine Es_skip rfl ?_ rfl ?_; (first | rfl | (refine w_tf ?_; assumption) | (refine w_ft ?_; assumption))) | (((with_reducible refine gS ?_); apply Es_xs); rfl; rfl; refine LStep_boxN rfl rfl rfl rfl rfl rfl; rfl) | (with_reducible refine Es_nil ?_) | (with_reducible refine then_n ?_) | (with_reducible refine then_r ?_) | ((with_reducible refine gR ?_); first | refine ret1 rfl ?_ | refine ret2 rfl rfl ?_ | refine ret0 ?_ | refine end1 rfl ?_ | refine end0 ?_))
      all_goals first
        | rfl
        | (exfalso; simp [eqb] at *; done)
    · have cd := doNo_ac s x hok hx hg
      have hP := congrArg (fun p => (p.map Post.enc).length) (doS_P hg).symm
      by_cases he : doE s x = 0
      · rw [he] at cd
        refine AC_enter Try.func8 rfl Try.ntmps8 (rv := [.tmp 4]) rfl rfl (by simp) (fun w X G => ?_)
        repeat' (first | ((with_reducible refine gA ?_); refine AW_unP (m := 2601) rfl (fun es1 hes1 => ?_)) | ((with_reducible refine gA ?_); refine AW_unP (m := 2603) rfl (fun es2 hes2 => ?_)) | ((with_reducible refine gA ?_); (first | refine AW_seq ?_ | refine AW_region ?_ | refine AW_condF rfl ?_ | (refine AW_cond rfl (fun hc => ?_) (fun hc => ?_) <;> try (exfalso; simp only [cmpL] at hc; omega)) | refine AW_ret ?_ | refine AW_skip ?_)) | ((with_reducible refine gS ?_); refine Es_s (T := Try.tab) rfl rfl rfl rfl ?_) | (((with_reducible refine gS ?_); apply Es_q); rfl; rfl; (first | refine LStep_call (awake_ac) rfl rfl rfl rfl | refine LStep_call (cf) rfl rfl rfl rfl | refine LStep_call (cg) rfl rfl rfl rfl)) | (((with_reducible refine gS ?_); apply Es_xg); rfl; rfl; (first | refine LStep_callHN [] [(5, 24), (5001, 2401), (5002, 2402), (5003, 2403)] cp rfl rfl trivial rfl trivial rfl rfl | refine LStep_callHN [(1000, 24), (1001, 2401), (1002, 2402), (1003, 2403)] [(4, 26), (4001, 2601), (28, 2602), (4003, 2603)] cc rfl rfl ⟨rfl, rfl, rfl, rfl, trivial⟩ rfl ⟨trivial, trivial, rfl, trivial, trivial⟩ rfl rfl | refine LStep_callHN [(1000, 24), (1001, 2401), (1002, 2402), (1003, 2403)] [] cd rfl rfl ⟨rfl, rfl, rfl, rfl, trivial⟩ rfl ⟨trivial, trivial, hP, trivial, trivial⟩ rfl rfl); rfl) | (((with_reducible refine gS ?_); apply Es_q); rfl; rfl; (first | refine LStep_simp (T := Try.tab) rfl rfl | (refine LStep_lit (T := Try.tab) rfl rfl rfl rfl rfl rfl rfl rfl ?_; (refine Nat.le_of_ble_eq_true ?_; rfl)))) | (refine Es_skip rfl ?_ rfl ?_; (first | rfl | (refine w_tf ?_; assumption) | (refine w_ft ?_; assumption))) | (((with_reducible refine gS ?_); apply Es_xs); rfl; rfl; refine LStep_boxN rfl rfl rfl rfl rfl rfl; rfl) | (with_reducible refine Es_nil ?_) | (with_reducible refine then_n ?_) | (with_reducible refine then_r ?_) | ((with_reducible refine gR ?_); first | refine ret1 rfl ?_ | refine ret2 rfl rfl ?_ | refine ret0 ?_ | refine end1 rfl ?_ | refine end0 ?_))
        all_goals first
          | rfl
          | (exfalso; simp [eqb] at *; done)
      · rw [doS_no he] at cd
        clear hP
        generalize doE s x = e at *
        refine AC_enter Try.func8 rfl Try.ntmps8 (rv := [.tmp 4]) rfl rfl (by simp) (fun w X G => ?_)
        repeat' (first | ((with_reducible refine gA ?_); refine AW_unP (m := 2601) rfl (fun es1 hes1 => ?_)) | ((with_reducible refine gA ?_); refine AW_unP (m := 2603) rfl (fun es2 hes2 => ?_)) | ((with_reducible refine gA ?_); (first | refine AW_seq ?_ | refine AW_region ?_ | refine AW_condF rfl ?_ | (refine AW_cond rfl (fun hc => ?_) (fun hc => ?_) <;> try (exfalso; simp only [cmpL] at hc; omega)) | refine AW_skip ?_)) | ((with_reducible refine gS ?_); refine Es_s (T := Try.tab) rfl rfl rfl rfl ?_) | (((with_reducible refine gS ?_); apply Es_q); rfl; rfl; (first | refine LStep_call (awake_ac) rfl rfl rfl rfl | refine LStep_call (cf) rfl rfl rfl rfl | refine LStep_call (cg) rfl rfl rfl rfl)) | (((with_reducible refine gS ?_); apply Es_xg); rfl; rfl; (first | refine LStep_callHN [] [(5, 24), (5001, 2401), (5002, 2402), (5003, 2403)] cp rfl rfl trivial rfl trivial rfl rfl | refine LStep_callHN [(1000, 24), (1001, 2401), (1002, 2402), (1003, 2403)] [(4, 26), (4001, 2601), (28, 2602), (4003, 2603)] cc rfl rfl ⟨rfl, rfl, rfl, rfl, trivial⟩ rfl ⟨trivial, trivial, rfl, trivial, trivial⟩ rfl rfl | refine LStep_callHN [(1000, 24), (1001, 2401), (1002, 2402), (1003, 2403)] [] cd rfl rfl ⟨rfl, rfl, rfl, rfl, trivial⟩ rfl ⟨trivial, trivial, rfl, trivial, trivial⟩ rfl rfl); rfl) | (((with_reducible refine gS ?_); apply Es_q); rfl; rfl; (first | refine LStep_simp (T := Try.tab) rfl rfl | (refine LStep_lit (T := Try.tab) rfl rfl rfl rfl rfl rfl rfl rfl ?_; (refine Nat.le_of_ble_eq_true ?_; rfl)))) | (refine Es_skip rfl ?_ rfl ?_; (first | rfl | (refine w_tf ?_; assumption) | (refine w_ft ?_; assumption))) | (((with_reducible refine gS ?_); apply Es_xs); rfl; rfl; refine LStep_boxN rfl rfl rfl rfl rfl rfl; rfl) | (with_reducible refine Es_nil ?_) | (with_reducible refine then_n ?_))
        obtain ⟨v1, hv1, rfl⟩ := perm_map_inv hes1 s.A rfl
        obtain ⟨v2, hv2, rfl⟩ := perm_map_inv hes2 s.H rfl
        have ca := alike_ac s ⟨v1, s.P, v2⟩ hok ⟨hv1.symm, rfl, hv2.symm⟩ (fun p hp => by have := hfe p hp; omega)
        repeat' (first | ((with_reducible refine gA ?_); refine AW_ret ?_) | ((with_reducible refine gS ?_); refine Es_s (T := Try.tab) rfl rfl rfl rfl ?_) | (((with_reducible refine gS ?_); apply Es_xg); rfl; rfl; refine LStep_callHN [(1000, 24), (1001, 2401), (1002, 2402), (1003, 2403), (1100, 26), (1101, 2601), (1102, 2602), (1103, 2603)] [] ca rfl rfl ⟨rfl, rfl, rfl, rfl, rfl, rfl, rfl, rfl, trivial⟩ rfl ⟨trivial, trivial, rfl, trivial, trivial, trivial, rfl, trivial, trivial⟩ rfl rfl; rfl) | (with_reducible refine Es_nil ?_) | (with_reducible refine then_n ?_) | ((with_reducible refine gR ?_); first | refine ret1 rfl ?_ | refine ret2 rfl rfl ?_ | refine ret0 ?_ | refine end1 rfl ?_ | refine end0 ?_))
        all_goals first
          | rfl
          | trace_state
end Go.Proofs.Ytbekoielblcbmaa
