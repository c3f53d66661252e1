import Derived.Test.YtldfncafkdmoiaaFR
namespace Go.Proofs.Ytldfncafkdmoiaa
open Go.SL
section
variable {P : Program} {T : Tab P} {O : Org} {o : Oper} {env : Env} {h : Hp}
theorem LStep_neqBoolF {tt yt : Nat} {x y : Operand} {a b : Bool} (ho : o.op = .binOp .neq tt x y yt) (hu : T.desc tt = some .bool) (hx : evalA env x = .d (.sc (.bool a))) (hy : evalA env y = .d (.sc (.bool b))) (hd : dstOk o.dst O.nt = true) (e : a = b) : LStep P O o env h [] [] (.d (.sc (.bool false))) [] := by
  subst e
  refine .quiet hd (fun env' h' he _ ac w G r => ⟨.bool false, ?_, .d _ _ (.sc _ rfl)⟩)
  have h1 := evalA_rep r.env x
  have h2 := evalA_rep r.env y
  rw [he x (by simp [ho, Op.operands]), hx] at h1
  rw [he y (by simp [ho, Op.operands]), hy] at h2
  simp [execOp, ho, h1.sc_inv, h2.sc_inv, eqGuard, binOp, run_equal_bool (P := P) w tt a a (T.desc_ok hu)]
end
/-! ### DisputeOrders -/
theorem jdg_self (a : Cl) : jdg a a = 0 := jdg_zero.2 rfl
theorem jdg_le {a b : Cl} : jdg a b ≤ 0 ↔ a = b ∨ ltJ a b = true := by
  unfold ltJ
  rw [decide_eq_true_eq, ← jdg_zero]
  omega
theorem jdg_tr {a b c : Cl} (h : jdg a b ≤ 0) (k : jdg b c ≤ 0) : jdg a c ≤ 0 := by
  rcases jdg_le.1 h with rfl | h
  · exact k
  · rcases jdg_le.1 k with rfl | k
    · exact jdg_le.2 (.inr h)
    · exact jdg_le.2 (.inr (ltJ_trans h k))
theorem jdg_trs {a b c : Cl} (h : jdg a b < 0) (k : jdg b c ≤ 0) : jdg a c < 0 := by
  have h' : ltJ a b = true := by unfold ltJ; rw [decide_eq_true_eq]; exact h
  have : ltJ a c = true := by
    rcases jdg_le.1 k with rfl | k
    · exact h'
    · exact ltJ_trans h' k
  unfold ltJ at this
  rwa [decide_eq_true_eq] at this
theorem three {R : List Cl} (h : R.length = 3) : ∃ p q r, R = [p, q, r] := by
  match R, h with
  | [p, q, r], _ => exact ⟨p, q, r, rfl⟩
set_option maxRecDepth 10000 in
set_option maxHeartbeats 8000000 in
theorem lorders_ac (a b c : Cl) (ha : a.In) (hb : b.In) (hc : c.In) : AC Try.prog 5 [.agg a.cs, .agg b.cs, .agg c.cs] [] [] (fun r _ => r = .d (.sc (.bool true))) := by
  have cf := rfew_ac [a, b, c] (by simp) (fun x hx => by
    simp only [List.mem_cons, List.not_mem_nil, or_false] at hx
    rcases hx with rfl | rfl | rfl <;> assumption)
  have c1 := better_ac a b
  have c2 := better_ac b c
  have c3 := better_ac a c
  have c4 := better_ac b a
  have c5 := better_ac a a
  have c6 := rank_ac [c, b, a] (by simp)
  obtain ⟨p, q, r, hR⟩ := three (show (isL ltJ [c, b, a]).length = 3 by rw [(isL_perm _).length_eq]; rfl)
  have hso := isL_sorted swoJ [c, b, a]
  rw [hR] at hso c6
  have o1 : ltJ q p = false := (List.pairwise_cons.1 hso).1 q (by simp)
  have o2 : ltJ r q = false := (List.pairwise_cons.1 (List.pairwise_cons.1 hso).2).1 r (by simp)
  have c7 := better_ac p q
  have c8 := better_ac q r
  have n1 := jdg_neg p q
  have n2 := jdg_neg q r
  unfold ltJ at o1 o2
  rw [decide_eq_false_iff_not] at o1 o2
  have f1 := jdg_neg a b
  have f2 := jdg_in a b
  have f3 : a.eqB b = decide (jdg a b = 0) := by rw [cl_eqB, Bool.eq_iff_iff, decide_eq_true_eq, decide_eq_true_eq]; exact jdg_zero.symm
  have f4 := jdg_self a
  have t1 : 0 < jdg a b ∨ 0 < jdg b c ∨ jdg a c ≤ 0 := by
    by_cases h1 : jdg a b ≤ 0
    · by_cases h2 : jdg b c ≤ 0
      · exact .inr (.inr (jdg_tr h1 h2))
      · exact .inr (.inl (by omega))
    · exact .inl (by omega)
  have t2 : 0 ≤ jdg a b ∨ 0 < jdg b c ∨ jdg a c < 0 := by
    by_cases h1 : jdg a b < 0
    · by_cases h2 : jdg b c ≤ 0
      · exact .inr (.inr (jdg_trs h1 h2))
      · exact .inr (.inl (by omega))
    · exact .inl (by omega)
  have e0 : eqb (-(jdg a b)) 0 = a.eqB b := by rw [f3, Bool.eq_iff_iff, eqb_t, decide_eq_true_eq]; omega
  have e1 : (!(eqb (-(jdg a b)) (wrp .i64 (0 - (-(jdg b a)))))) = false := by rw [eqb_t.2 (by rw [wrp_fit (by omega)]; omega)]; rfl
  have e2 : (!(eqb (-(jdg a a)) 0)) = false := by rw [eqb_t.2 (by omega)]; rfl
  have e3 : ltb (-(jdg a b)) (-1) = false := by rw [ltb_f]; omega
  have e4 : ltb 1 (-(jdg a b)) = false := by rw [ltb_f]; omega
  have e5 : leb 0 (-(jdg p q)) = true := by rw [leb_t]; omega
  have e6 : leb 0 (-(jdg q r)) = true := by rw [leb_t]; omega
  generalize jdg p q = jpq at *
  generalize jdg q r = jqr at *
  generalize jdg a a = jaa at *
  generalize jdg b a = jba at *
  generalize jdg a b = jab at *
  generalize jdg b c = jbc at *
  generalize jdg a c = jac at *
  generalize fewCl [a, b, c] = fb at *
  cases fb with
  | false =>
    refine AC_enter Try.func5 rfl Try.ntmps5 (rv := [.tmp 6]) rfl rfl (by simp) (fun w X G => ?_)
    repeat' (first | ((with_reducible refine gA ?_); (first | refine AW_seq ?_ | refine AW_region ?_ | refine AW_condT rfl ?_ | refine AW_condF rfl ?_ | refine AW_ret ?_ | refine AW_skip ?_)) | ((with_reducible refine gS ?_); refine Es_s (T := Try.tab) rfl rfl rfl rfl ?_) | (((with_reducible refine gS ?_); apply Es_q); rfl; rfl; (first | refine LStep_call (awake_ac) rfl rfl rfl rfl | refine LStep_call (cf) rfl rfl rfl rfl)) | (((with_reducible refine gS ?_); apply Es_q); rfl; rfl; (refine LStep_lit (T := Try.tab) rfl rfl rfl rfl rfl rfl rfl rfl ?_; (refine Nat.le_of_ble_eq_true ?_; rfl))) | (refine Es_skip rfl ?_ rfl ?_; (first | rfl | (refine w_tf ?_; assumption) | (refine w_ft ?_; assumption))) | (((with_reducible refine gS ?_); apply Es_xs); rfl; rfl; refine LStep_boxN rfl rfl rfl rfl rfl rfl; rfl) | (with_reducible refine Es_nil ?_) | (with_reducible refine then_n ?_) | (with_reducible refine then_r ?_) | ((with_reducible refine gR ?_); first | refine ret1 rfl ?_ | refine ret2 rfl rfl ?_ | refine ret0 ?_ | refine end1 rfl ?_ | refine end0 ?_))
    all_goals first
      | rfl
      | trace_state
  | true =>
    refine AC_enter Try.func5 rfl Try.ntmps5 (rv := [.tmp 6]) rfl rfl (by simp) (fun w X G => ?_)
    repeat' (first | ((with_reducible refine gA ?_); (first | refine AW_seq ?_ | refine AW_region ?_ | refine AW_regionD Try.mixed ?_ | refine AW_condT rfl ?_ | refine AW_condF rfl ?_ | (refine AW_condN rfl ?_ ?_; assumption) | (refine AW_cond rfl (fun hc => ?_) (fun hc => ?_) <;> try (exfalso; simp only [cmpL] at hc; omega)) | refine AW_ret ?_ | refine AW_skip ?_)) | (first | ((with_reducible refine gS ?_); refine Es_s (T := Try.tab) rfl rfl rfl rfl ?_) | ((with_reducible refine gD ?_); refine Ed_s (T := Try.tab) rfl rfl rfl rfl ?_)) | ((first | ((with_reducible refine gS ?_); apply Es_q) | ((with_reducible refine gD ?_); apply Ed_q)); rfl; (first | rfl | (refine w_tt ?_; assumption) | (refine w_ff ?_; assumption)); (first | refine LStep_call (awake_ac) rfl rfl rfl rfl | refine LStep_call (cf) rfl rfl rfl rfl | refine LStep_call (c1) rfl rfl rfl rfl | refine LStep_call (c2) rfl rfl rfl rfl | refine LStep_call (c3) rfl rfl rfl rfl | refine LStep_call (c4) rfl rfl rfl rfl | refine LStep_call (c5) rfl rfl rfl rfl | refine LStep_call (c6) rfl rfl rfl rfl | refine LStep_call (c7) rfl rfl rfl rfl | refine LStep_call (c8) rfl rfl rfl rfl | refine LStep_eqAgg (T := Try.tab) eqS_cl eqG_cl (by omega) rfl rfl rfl rfl rfl rfl | refine LStep_neqBoolF (T := Try.tab) rfl rfl rfl rfl rfl e0)) | ((first | ((with_reducible refine gS ?_); apply Es_q) | ((with_reducible refine gD ?_); apply Ed_q)); rfl; (first | rfl | (refine w_tt ?_; assumption) | (refine w_ff ?_; assumption)); (first | refine LStep_simp (T := Try.tab) rfl rfl | refine LStep_lenM (T := Try.tab) rfl rfl rfl rfl | (refine LStep_pickT rfl rfl ?_ rfl rfl; assumption) | (refine LStep_pickF rfl rfl ?_ rfl rfl; assumption) | (refine LStep_index (T := Try.tab) (c := ?_) rfl rfl rfl rfl rfl rfl ?_ ?_; rotate_left; omega; (first | assumption | rfl)) | (refine LStep_lit (T := Try.tab) rfl rfl rfl rfl rfl rfl rfl rfl ?_; (refine Nat.le_of_ble_eq_true ?_; rfl)))) | (refine Es_skip rfl ?_ rfl ?_; (first | rfl | (refine w_tf ?_; assumption) | (refine w_ft ?_; assumption))) | (((with_reducible refine gS ?_); apply Es_xs); rfl; rfl; refine LStep_boxN rfl rfl rfl rfl rfl rfl; rfl) | (refine Es_split rfl ?_ (fun _ => ?_) (fun _ => ?_); ((fail_if_success (refine und_t ?_; assumption)); (fail_if_success (refine und_f ?_; assumption)); exact trivial)) | (with_reducible refine Es_nil ?_) | ((with_reducible refine Ed_nil ?_ ?_); kernel_rfl) | (with_reducible refine then_n ?_) | (with_reducible refine then_r ?_) | ((with_reducible refine gR ?_); first | refine ret1 rfl ?_ | refine ret2 rfl rfl ?_ | refine ret0 ?_ | refine end1 rfl ?_ | refine end0 ?_))
    all_goals first
      | rfl
      | (rw [e6]; done)
      | (exfalso; clear c1 c2 c3 c4 c5 c6 c7 c8 cf; simp only [cmps] at *; omega)
      | trace_state
end Go.Proofs.Ytldfncafkdmoiaa
