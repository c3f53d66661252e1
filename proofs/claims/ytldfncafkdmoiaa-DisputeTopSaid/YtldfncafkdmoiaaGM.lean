import Derived.Test.YtldfncafkdmoiaaGK
namespace Go.Proofs.Ytldfncafkdmoiaa
open Go.SL
/-! ### DisputeTop -/
theorem filter_snoc {α : Type} {p : α → Bool} {l : List α} {k : Nat} {x : α} (h : l[k]? = some x) : (l.take (k + 1)).filter p = (l.take k).filter p ++ (if p x = true then [x] else []) := by
  rw [take_at h, List.filter_append]
  congr 1
  by_cases hp : p x = true
  · rw [if_pos hp, List.filter_cons_of_pos hp]; rfl
  · rw [if_neg hp, List.filter_cons_of_neg hp]; rfl
set_option maxRecDepth 10000 in
set_option maxHeartbeats 16000000 in
theorem ltop_ac (n : Int) (l : List Cl) (m : Int) (hl : l.length ≤ 140737488351232) (hs : ∀ c ∈ l, c.In) : AC Try.prog 9 [.d (.sc (.int .i64 n)), .d (.sl 5 (l.map Cl.enc)), .d (.sc (.int .i64 m))] [] [] (fun r _ => r = .d (.sc (.bool true))) := by
  have e00 : eqb (0 : Int) 0 = true := eqb_t.2 rfl
  have e10 : eqb (1 : Int) 0 = false := eqb_f.2 (by decide)
  have e11 : eqb (1 : Int) 1 = true := eqb_t.2 rfl
  have n00 : (!(eqb (0 : Int) 0)) = false := by rw [e00]; rfl
  have n10 : (!(eqb (1 : Int) 0)) = true := by rw [e10]; rfl
  have cf := rfew_ac l hl hs
  cases hf : fewCl l with
  | false =>
    rw [hf] at cf
    refine AC_enter Try.func9 rfl Try.ntmps9 (rv := [.tmp 6]) rfl rfl (by simp) (fun w X G => ?_)
    repeat' (first | ((with_reducible refine gA ?_); (first | refine AW_seq ?_ | refine AW_region ?_ | refine AW_condT rfl ?_ | refine AW_condF rfl ?_ | refine AW_ret ?_ | refine AW_skip ?_)) | ((with_reducible refine gS ?_); refine Es_s (T := Try.tab) rfl rfl rfl rfl ?_) | (((with_reducible refine gS ?_); apply Es_q); rfl; rfl; (first | refine LStep_call (awake_ac) rfl rfl rfl rfl | refine LStep_call (cf) rfl rfl rfl rfl)) | (refine Es_skip rfl ?_ rfl ?_; (first | rfl | (refine w_tf ?_; assumption) | (refine w_ft ?_; assumption))) | (with_reducible refine Es_nil ?_) | (with_reducible refine then_n ?_) | (with_reducible refine then_r ?_) | ((with_reducible refine gR ?_); first | refine ret1 rfl ?_ | refine ret2 rfl rfl ?_ | refine ret0 ?_ | refine end1 rfl ?_ | refine end0 ?_))
    all_goals first
      | rfl
      | (rw [e00]; done)
      | trace_state
  | true =>
  have h41 := few_len hf
  rw [hf] at cf
  by_cases h1 : m < 0
  · have g1 : ltb m 0 = true := ltb_t.2 h1
    refine AC_enter Try.func9 rfl Try.ntmps9 (rv := [.tmp 6]) rfl rfl (by simp) (fun w X G => ?_)
    repeat' (first | ((with_reducible refine gA ?_); (first | refine AW_seq ?_ | refine AW_region ?_ | refine AW_condT rfl ?_ | refine AW_condF rfl ?_ | refine AW_ret ?_ | refine AW_skip ?_)) | ((with_reducible refine gS ?_); refine Es_s (T := Try.tab) rfl rfl rfl rfl ?_) | (((with_reducible refine gS ?_); apply Es_q); rfl; rfl; (first | refine LStep_call (awake_ac) rfl rfl rfl rfl | refine LStep_call (cf) rfl rfl rfl rfl)) | (((with_reducible refine gS ?_); apply Es_q); rfl; rfl; (first | refine LStep_simp (T := Try.tab) rfl rfl | (refine LStep_pickT rfl rfl ?_ rfl rfl; assumption))) | (refine Es_skip rfl ?_ rfl ?_; (first | rfl | (refine w_tf ?_; assumption) | (refine w_ft ?_; assumption))) | (with_reducible refine Es_nil ?_) | (with_reducible refine then_n ?_) | (with_reducible refine then_r ?_) | ((with_reducible refine gR ?_); first | refine ret1 rfl ?_ | refine ret2 rfl rfl ?_ | refine ret0 ?_ | refine end1 rfl ?_ | refine end0 ?_))
    all_goals first
      | rfl
      | (rw [e00]; done)
      | trace_state
  have g1 : ltb m 0 = false := ltb_f.2 (by omega)
  by_cases h2 : 4 < m
  · have g2 : ltb 4 m = true := ltb_t.2 h2
    refine AC_enter Try.func9 rfl Try.ntmps9 (rv := [.tmp 6]) rfl rfl (by simp) (fun w X G => ?_)
    repeat' (first | ((with_reducible refine gA ?_); (first | refine AW_seq ?_ | refine AW_region ?_ | refine AW_condF rfl ?_ | (refine AW_condY rfl ?_ ?_; assumption) | refine AW_ret ?_ | refine AW_skip ?_)) | ((with_reducible refine gS ?_); refine Es_s (T := Try.tab) rfl rfl rfl rfl ?_) | (((with_reducible refine gS ?_); apply Es_q); rfl; (first | rfl | (refine w_ff ?_; assumption)); (first | refine LStep_call (awake_ac) rfl rfl rfl rfl | refine LStep_call (cf) rfl rfl rfl rfl)) | (((with_reducible refine gS ?_); apply Es_q); rfl; (first | rfl | (refine w_ff ?_; assumption)); (first | refine LStep_simp (T := Try.tab) rfl rfl | (refine LStep_pickF rfl rfl ?_ rfl rfl; assumption))) | (with_reducible refine Es_nil ?_) | (with_reducible refine then_n ?_) | (with_reducible refine then_r ?_) | ((with_reducible refine gR ?_); first | refine ret1 rfl ?_ | refine ret2 rfl rfl ?_ | refine ret0 ?_ | refine end1 rfl ?_ | refine end0 ?_))
    all_goals first
      | rfl
      | (rw [e00]; done)
      | trace_state
  have g2 : ltb 4 m = false := ltb_f.2 (by omega)
  obtain ⟨R, rfl⟩ : ∃ R : Nat, m = ((R : Nat) : Int) := ⟨m.toNat, by omega⟩
  have hR4 : R ≤ 4 := by omega
  have hbl := List.length_filter_le (leB ((R : Nat) : Int)) l
  have hfl := fun k => List.length_filter_le (leB ((R : Nat) : Int)) (l.take k)
  refine AC_enter Try.func9 rfl Try.ntmps9 (rv := [.tmp 6]) rfl rfl (by simp) (fun w X G => ?_)
  repeat' (first | ((with_reducible refine gA ?_); (first | refine AW_seq ?_ | refine AW_region ?_ | refine AW_condF rfl ?_ | (refine AW_condN rfl ?_ ?_; assumption) | refine AW_block ?_ | refine AW_skip ?_)) | ((with_reducible refine gS ?_); refine Es_s (T := Try.tab) rfl rfl rfl rfl ?_) | (((with_reducible refine gS ?_); apply Es_q); rfl; (first | rfl | (refine w_ff ?_; assumption)); (first | refine LStep_call (awake_ac) rfl rfl rfl rfl | refine LStep_call (cf) rfl rfl rfl rfl)) | (((with_reducible refine gS ?_); apply Es_q); rfl; (first | rfl | (refine w_ff ?_; assumption)); (first | refine LStep_simp (T := Try.tab) rfl rfl | (refine LStep_pickF rfl rfl ?_ rfl rfl; assumption))) | (with_reducible refine Es_nil ?_) | (with_reducible refine then_n ?_))
  refine AW_openNil (t := 7) (id := 2007) (e := 23) (sz := 5) rfl rfl rfl rfl ?_
  refine AW_forE (S := Nat) (fun k => k ≤ l.length) (fun k => [(8, .d (.sc (.int .i64 (k : Nat)))), (7, .own 2007 ((((l.take k).filter (leB ((R : Nat) : Int))).map Cl.enc).length))]) (fun k => [(2007, some (.arr 23 5 (((l.take k).filter (leB ((R : Nat) : Int))).map Cl.enc)))]) (fun k => l.length - k) 0 (by omega) (by (repeat' (first | exact trivial | exact rfl | (refine ⟨Or.inl rfl, ?_⟩) | (refine ⟨Or.inr rfl, ?_⟩) | (refine ⟨Or.inr trivial, ?_⟩) | (refine ⟨rfl, ?_⟩) | (refine ⟨?_, ?_⟩)))) (by (repeat' (first | exact trivial | exact rfl | (refine ⟨Or.inl rfl, ?_⟩) | (refine ⟨Or.inr rfl, ?_⟩) | (refine ⟨Or.inr trivial, ?_⟩) | (refine ⟨rfl, ?_⟩) | (refine ⟨?_, ?_⟩)))) ?_
  intro k hk
  by_cases hlt : k < l.length
  · obtain ⟨⟨nm, th, rt, dy, am⟩, hx, _⟩ := drop_at hlt
    have hst := filter_snoc (p := leB ((R : Nat) : Int)) hx
    have hfk := hfl k
    rw [List.length_take] at hfk
    have g3 : ltb ((k : Nat) : Int) ((l.length : Nat) : Int) = true := by rw [ltb_t]; omega
    unfold leB at hst
    dsimp only at hst
    change (l.take (k + 1)).filter (leB ((R : Nat) : Int)) = (l.take k).filter (leB ((R : Nat) : Int)) ++ _ at hst
    generalize hF' : (l.take (k + 1)).filter (leB ((R : Nat) : Int)) = F' at *
    generalize (l.take k).filter (leB ((R : Nat) : Int)) = F at *
    by_cases hr : rt ≤ ((R : Nat) : Int)
    · have g4 : leb rt ((R : Nat) : Int) = true := leb_t.2 hr
      rw [if_pos (decide_eq_true hr)] at hst
      have e3 : F'.map Cl.enc = F.map Cl.enc ++ [Cl.enc ⟨nm, th, rt, dy, am⟩] := by rw [hst, List.map_append]; rfl
      repeat' (first | ((with_reducible refine gA ?_); (first | refine AW_seq ?_ | refine AW_region ?_ | (refine AW_condY rfl ?_ ?_; assumption) | refine AW_block ?_ | refine AW_skip ?_)) | ((with_reducible refine gS ?_); refine Es_s (T := Try.tab) rfl rfl rfl rfl ?_) | (((with_reducible refine gS ?_); apply Es_xs); rfl; rfl; (refine LStep_append (T := Try.tab) rfl rfl rfl rfl rfl rfl rfl rfl rfl rfl ?_ ?_ ?_; rfl; (simp only [List.length_map, List.length_cons, List.length_nil]; omega); (unfold maxLen; simp only [List.length_map, List.length_cons, List.length_nil]; omega)); rfl) | (((with_reducible refine gS ?_); apply Es_q); rfl; rfl; (first | refine LStep_lenM (T := Try.tab) rfl rfl rfl rfl | (refine LStep_add rfl rfl rfl rfl ?_; (refine IntWalk.i64_in _ ?_; first | omega | (simp only [cmps] at *; omega))) | (refine LStep_indexM (T := Try.tab) (c := ?_) rfl rfl rfl rfl rfl rfl ?_; rotate_left; assumption) | (refine LStep_lit (T := Try.tab) rfl rfl rfl rfl rfl rfl rfl rfl ?_; (refine Nat.le_of_ble_eq_true ?_; rfl)))) | (with_reducible refine Es_nil ?_) | (with_reducible refine then_n ?_) | (with_reducible refine block_n ?_))
      all_goals first
        | (refine ⟨k + 1, by omega, by omega, ?_, by (repeat' (first | exact trivial | exact rfl | (refine ⟨Or.inl rfl, ?_⟩) | (refine ⟨Or.inr rfl, ?_⟩) | (refine ⟨Or.inr trivial, ?_⟩) | (refine ⟨rfl, ?_⟩) | (refine ⟨?_, ?_⟩))), ?_, by (repeat' (first | exact trivial | exact rfl | (refine ⟨Or.inl rfl, ?_⟩) | (refine ⟨Or.inr rfl, ?_⟩) | (refine ⟨Or.inr trivial, ?_⟩) | (refine ⟨rfl, ?_⟩) | (refine ⟨?_, ?_⟩)))⟩
           · rw [hF', e3]; (repeat' (first | exact trivial | exact rfl | (refine ⟨Or.inl rfl, ?_⟩) | (refine ⟨Or.inr rfl, ?_⟩) | (refine ⟨Or.inr trivial, ?_⟩) | (refine ⟨rfl, ?_⟩) | (refine ⟨?_, ?_⟩)))
           · rw [hF', e3]; (repeat' (first | exact trivial | exact rfl | (refine ⟨Or.inl rfl, ?_⟩) | (refine ⟨Or.inr rfl, ?_⟩) | (refine ⟨Or.inr trivial, ?_⟩) | (refine ⟨rfl, ?_⟩) | (refine ⟨?_, ?_⟩))))
        | trace_state
    · have g4 : leb rt ((R : Nat) : Int) = false := leb_f.2 (by omega)
      rw [if_neg (by rw [decide_eq_true_eq]; exact hr), List.append_nil] at hst
      repeat' (first | ((with_reducible refine gA ?_); (first | refine AW_seq ?_ | refine AW_region ?_ | (refine AW_condY rfl ?_ ?_; assumption) | (refine AW_condN rfl ?_ ?_; assumption) | refine AW_block ?_ | refine AW_skip ?_)) | ((with_reducible refine gS ?_); refine Es_s (T := Try.tab) rfl rfl rfl rfl ?_) | (((with_reducible refine gS ?_); apply Es_q); rfl; rfl; (first | refine LStep_lenM (T := Try.tab) rfl rfl rfl rfl | (refine LStep_add rfl rfl rfl rfl ?_; (refine IntWalk.i64_in _ ?_; first | omega | (simp only [cmps] at *; omega))) | (refine LStep_indexM (T := Try.tab) (c := ?_) rfl rfl rfl rfl rfl rfl ?_; rotate_left; assumption))) | (with_reducible refine Es_nil ?_) | (with_reducible refine then_n ?_) | (with_reducible refine block_n ?_))
      all_goals first
        | (refine ⟨k + 1, by omega, by omega, ?_, by (repeat' (first | exact trivial | exact rfl | (refine ⟨Or.inl rfl, ?_⟩) | (refine ⟨Or.inr rfl, ?_⟩) | (refine ⟨Or.inr trivial, ?_⟩) | (refine ⟨rfl, ?_⟩) | (refine ⟨?_, ?_⟩))), ?_, by (repeat' (first | exact trivial | exact rfl | (refine ⟨Or.inl rfl, ?_⟩) | (refine ⟨Or.inr rfl, ?_⟩) | (refine ⟨Or.inr trivial, ?_⟩) | (refine ⟨rfl, ?_⟩) | (refine ⟨?_, ?_⟩)))⟩
           · rw [hF', hst]; (repeat' (first | exact trivial | exact rfl | (refine ⟨Or.inl rfl, ?_⟩) | (refine ⟨Or.inr rfl, ?_⟩) | (refine ⟨Or.inr trivial, ?_⟩) | (refine ⟨rfl, ?_⟩) | (refine ⟨?_, ?_⟩)))
           · rw [hF', hst]; (repeat' (first | exact trivial | exact rfl | (refine ⟨Or.inl rfl, ?_⟩) | (refine ⟨Or.inr rfl, ?_⟩) | (refine ⟨Or.inr trivial, ?_⟩) | (refine ⟨rfl, ?_⟩) | (refine ⟨?_, ?_⟩))))
        | trace_state
  have : k = l.length := by omega
  subst this
  have g3 : ltb ((l.length : Nat) : Int) ((l.length : Nat) : Int) = false := by rw [ltb_f]; omega
  rw [List.take_length]
  refine AW_freeze [7] (id := 2007) ⟨rfl, trivial⟩ rfl rfl ?_
  by_cases hbad : n < 0 ∨ 1099511627776 < n
  · have ca := moneyNo_ac n l (by omega) (by omega)
    have cb := moneyNo_ac n (l.filter (leB ((R : Nat) : Int))) (by omega) (by omega)
    generalize l.filter (leB ((R : Nat) : Int)) = B at *
    repeat' (first | ((with_reducible refine gA ?_); (first | refine AW_seq ?_ | refine AW_region ?_ | (refine AW_condY rfl ?_ ?_; assumption) | (refine AW_condN rfl ?_ ?_; assumption) | refine AW_ret ?_ | refine AW_exit ?_)) | ((with_reducible refine gS ?_); refine Es_s (T := Try.tab) rfl rfl rfl rfl ?_) | (((with_reducible refine gS ?_); apply Es_q); rfl; rfl; (first | refine LStep_call (ca) rfl rfl rfl rfl | refine LStep_call (cb) rfl rfl rfl rfl)) | (((with_reducible refine gS ?_); apply Es_q); rfl; rfl; (first | refine LStep_lenM (T := Try.tab) rfl rfl rfl rfl | refine LStep_wrap (T := Try.tab) rfl rfl)) | (with_reducible refine Es_nil ?_) | (with_reducible refine then_n ?_) | (with_reducible refine then_r ?_) | (with_reducible refine then_e ?_) | ((with_reducible refine block_e ?_ ?_); rfl) | ((with_reducible refine gR ?_); first | refine ret1 rfl ?_ | refine ret2 rfl rfl ?_ | refine ret0 ?_ | refine end1 rfl ?_ | refine end0 ?_))
    all_goals first
      | rfl
      | (rw [e00]; done)
      | trace_state
  obtain ⟨t, rfl⟩ : ∃ t : Nat, n = ((t : Nat) : Int) := ⟨n.toNat, by omega⟩
  have ht : t ≤ 1099511627776 := by omega
  clear hbad
  cases hm : l.all mayC with
  | false =>
    have ca := moneyNo_ac ((t : Nat) : Int) l (by omega) (.inr (.inr hm))
    cases hmB : (l.filter (leB ((R : Nat) : Int))).all mayC with
    | false =>
      have cb := moneyNo_ac ((t : Nat) : Int) (l.filter (leB ((R : Nat) : Int))) (by omega) (.inr (.inr hmB))
      generalize l.filter (leB ((R : Nat) : Int)) = B at *
      repeat' (first | ((with_reducible refine gA ?_); (first | refine AW_seq ?_ | refine AW_region ?_ | (refine AW_condY rfl ?_ ?_; assumption) | (refine AW_condN rfl ?_ ?_; assumption) | refine AW_ret ?_ | refine AW_exit ?_)) | ((with_reducible refine gS ?_); refine Es_s (T := Try.tab) rfl rfl rfl rfl ?_) | (((with_reducible refine gS ?_); apply Es_q); rfl; rfl; (first | refine LStep_call (ca) rfl rfl rfl rfl | refine LStep_call (cb) rfl rfl rfl rfl)) | (((with_reducible refine gS ?_); apply Es_q); rfl; rfl; (first | refine LStep_lenM (T := Try.tab) rfl rfl rfl rfl | refine LStep_wrap (T := Try.tab) rfl rfl)) | (with_reducible refine Es_nil ?_) | (with_reducible refine then_n ?_) | (with_reducible refine then_r ?_) | (with_reducible refine then_e ?_) | ((with_reducible refine block_e ?_ ?_); rfl) | ((with_reducible refine gR ?_); first | refine ret1 rfl ?_ | refine ret2 rfl rfl ?_ | refine ret0 ?_ | refine end1 rfl ?_ | refine end0 ?_))
      all_goals first
        | rfl
        | (rw [e00]; done)
        | trace_state
    | true =>
      have cb := money_ac t (l.filter (leB ((R : Nat) : Int))) ht (by omega) hmB (spl_few _ t ht (by omega) hmB)
      generalize l.filter (leB ((R : Nat) : Int)) = B at *
      repeat' (first | ((with_reducible refine gA ?_); (first | refine AW_seq ?_ | refine AW_region ?_ | (refine AW_condY rfl ?_ ?_; assumption) | (refine AW_condN rfl ?_ ?_; assumption) | refine AW_ret ?_ | refine AW_exit ?_)) | ((with_reducible refine gS ?_); refine Es_s (T := Try.tab) rfl rfl rfl rfl ?_) | (((with_reducible refine gS ?_); apply Es_q); rfl; rfl; (first | refine LStep_call (ca) rfl rfl rfl rfl | refine LStep_call (cb) rfl rfl rfl rfl)) | (((with_reducible refine gS ?_); apply Es_q); rfl; rfl; (first | refine LStep_lenM (T := Try.tab) rfl rfl rfl rfl | refine LStep_wrap (T := Try.tab) rfl rfl)) | (with_reducible refine Es_nil ?_) | (with_reducible refine then_n ?_) | (with_reducible refine then_r ?_) | (with_reducible refine then_e ?_) | ((with_reducible refine block_e ?_ ?_); rfl) | ((with_reducible refine gR ?_); first | refine ret1 rfl ?_ | refine ret2 rfl rfl ?_ | refine ret0 ?_ | refine end1 rfl ?_ | refine end0 ?_))
      all_goals first
        | rfl
        | (rw [e00]; done)
        | trace_state
  | true =>
  have hmB : (l.filter (leB ((R : Nat) : Int))).all mayC = true := List.all_eq_true.2 fun x hx => List.all_eq_true.1 hm x (List.mem_filter.1 hx).1
  have ca := money_ac t l ht (by omega) hm (spl_few l t ht h41 hm)
  have cb := money_ac t (l.filter (leB ((R : Nat) : Int))) ht (by omega) hmB (spl_few _ t ht (by omega) hmB)
  have hmc := fun x hx => mayC_of (List.all_eq_true.1 hm x hx)
  have hat := fun i x (hx : l[i]? = some x) => best_at (t := t) (R := R) hx
  have hlt := best_left (l := l) (t := t) (R := R) 5 (by omega)
  have hmo := mon_mono l t (a := R + 1) (b := 5) (by omega)
  rw [← hlt] at hmo
  have l1 := monN_len l t 5
  have l2 := monN_len (l.filter (leB ((R : Nat) : Int))) t 5
  have hfs := fun k x (hx : l[k]? = some x) => filter_snoc (p := leB ((R : Nat) : Int)) hx
  have hfw : (l.take l.length).filter (leB ((R : Nat) : Int)) = l.filter (leB ((R : Nat) : Int)) := by rw [List.take_length]
  have htf := fun i x (hx : l[i]? = some x) hp => (take_filter (p := leB ((R : Nat) : Int)) hx hp).1
  generalize l.filter (leB ((R : Nat) : Int)) = B at *
  generalize (monN l t 5).1 = p at *
  generalize (monN l t 5).2 = q at *
  generalize (monN B t 5).1 = p2 at *
  generalize (monN B t 5).2 = q2 at *
  have n0 : (!(eqb ((p.length : Nat) : Int) ((l.length : Nat) : Int))) = false := by rw [eqb_t.2 (by omega)]; rfl
  have n1 : ltb ((q2 : Nat) : Int) ((q : Nat) : Int) = false := by rw [ltb_f]; omega
  have n2 : (!(eqb ((p2.length : Nat) : Int) ((B.length : Nat) : Int))) = false := by rw [eqb_t.2 (by omega)]; rfl
  repeat' (first | ((with_reducible refine gA ?_); (first | refine AW_seq ?_ | refine AW_region ?_ | (refine AW_condN rfl ?_ ?_; assumption) | refine AW_block ?_ | refine AW_skip ?_ | refine AW_exit ?_)) | ((with_reducible refine gS ?_); refine Es_s (T := Try.tab) rfl rfl rfl rfl ?_) | (((with_reducible refine gS ?_); apply Es_q); rfl; (first | rfl | (refine w_ff ?_; assumption)); (first | refine LStep_call (ca) rfl rfl rfl rfl | refine LStep_call (cb) rfl rfl rfl rfl)) | (((with_reducible refine gS ?_); apply Es_q); rfl; (first | rfl | (refine w_ff ?_; assumption)); (first | refine LStep_simp (T := Try.tab) rfl rfl | refine LStep_lenM (T := Try.tab) rfl rfl rfl rfl | (refine LStep_pickF rfl rfl ?_ rfl rfl; assumption))) | (with_reducible refine Es_nil ?_) | (with_reducible refine then_n ?_) | (with_reducible refine then_e ?_) | ((with_reducible refine block_e ?_ ?_); rfl))
  refine AW_forE (S := Nat) (fun i => i ≤ l.length) (fun i => [(16, .d (.sc (.int .i64 (i : Nat)))), (15, .d (.sc (.int .i64 ((((l.take i).filter (leB ((R : Nat) : Int))).length : Nat) : Int))))]) (fun _ => []) (fun i => l.length - i) 0 (by omega) (by (repeat' (first | exact trivial | exact rfl | (refine ⟨Or.inl rfl, ?_⟩) | (refine ⟨Or.inr rfl, ?_⟩) | (refine ⟨Or.inr trivial, ?_⟩) | (refine ⟨rfl, ?_⟩) | (refine ⟨?_, ?_⟩)))) (by (repeat' (first | exact trivial | exact rfl | (refine ⟨Or.inl rfl, ?_⟩) | (refine ⟨Or.inr rfl, ?_⟩) | (refine ⟨Or.inr trivial, ?_⟩) | (refine ⟨rfl, ?_⟩) | (refine ⟨?_, ?_⟩)))) ?_
  intro i hi
  by_cases hlt : i < l.length
  · obtain ⟨⟨nm, th, rt, dy, am⟩, hx, _⟩ := drop_at hlt
    obtain ⟨v, hv⟩ : ∃ v, p[i]? = some v := ⟨_, List.getElem?_eq_getElem (by omega)⟩
    have hmx := hmc _ (List.mem_of_getElem? hx)
    dsimp only at hmx
    obtain ⟨_, _, r0, r4, _, _, a0, a1⟩ := hmx
    have hst := hfs i _ hx
    have k1 := hat i _ hx r0 (by dsimp only; omega)
    have k2 := htf i _ hx
    have hfk := hfl i
    rw [List.length_take] at hfk
    unfold leB at hst k2
    dsimp only at hst k1 k2
    change (l.take (i + 1)).filter (leB ((R : Nat) : Int)) = (l.take i).filter (leB ((R : Nat) : Int)) ++ _ at hst
    rw [getD_at hv] at k1
    have g3 : ltb ((i : Nat) : Int) ((l.length : Nat) : Int) = true := by rw [ltb_t]; omega
    by_cases hr : rt ≤ ((R : Nat) : Int)
    · have g4 : leb rt ((R : Nat) : Int) = true := leb_t.2 hr
      rw [if_pos (decide_eq_true hr)] at hst
      have k3 := k2 (decide_eq_true hr)
      change B[((l.take i).filter (leB ((R : Nat) : Int))).length]? = _ at k3
      have k4 := k1 hr
      have hBl := (List.getElem?_eq_some_iff.1 k3).1
      generalize hF' : (l.take (i + 1)).filter (leB ((R : Nat) : Int)) = F' at *
      generalize (l.take i).filter (leB ((R : Nat) : Int)) = F at *
      have e5 : F'.length = F.length + 1 := by rw [hst, List.length_append]; rfl
      generalize F.length = f at *
      have hv2 : p2[f]? = some v := by
        rw [List.getD_eq_getElem?_getD, List.getElem?_eq_getElem (by omega), Option.getD_some] at k4
        rw [List.getElem?_eq_getElem (by omega), k4]
      have g5 : (!(eqb ((v : Nat) : Int) ((v : Nat) : Int))) = false := by rw [eqb_t.2 rfl]; rfl
      clear k1 k2 k3 k4 hat hfs htf hst
      repeat' (first | ((with_reducible refine gA ?_); (first | refine AW_seq ?_ | refine AW_region ?_ | refine AW_regionD Try.mixed ?_ | (refine AW_condY rfl ?_ ?_; assumption) | (refine AW_condN rfl ?_ ?_; assumption) | refine AW_block ?_ | refine AW_skip ?_)) | (first | ((with_reducible refine gS ?_); refine Es_s (T := Try.tab) rfl rfl rfl rfl ?_) | ((with_reducible refine gD ?_); refine Ed_s (T := Try.tab) rfl rfl rfl rfl ?_)) | ((first | ((with_reducible refine gS ?_); apply Es_q) | ((with_reducible refine gD ?_); apply Ed_q)); rfl; rfl; (first | refine LStep_lenM (T := Try.tab) rfl rfl rfl rfl | (refine LStep_add rfl rfl rfl rfl ?_; (refine IntWalk.i64_in _ ?_; first | omega | (simp only [cmps] at *; omega))) | (refine LStep_indexM (T := Try.tab) (c := ?_) rfl rfl rfl rfl rfl rfl ?_; rotate_left; assumption))) | (with_reducible refine Es_nil ?_) | ((with_reducible refine Ed_nil ?_ ?_); kernel_rfl) | (with_reducible refine then_n ?_) | (with_reducible refine block_n ?_))
      all_goals first
        | (refine ⟨i + 1, by omega, by omega, ?_, by (repeat' (first | exact trivial | exact rfl | (refine ⟨Or.inl rfl, ?_⟩) | (refine ⟨Or.inr rfl, ?_⟩) | (refine ⟨Or.inr trivial, ?_⟩) | (refine ⟨rfl, ?_⟩) | (refine ⟨?_, ?_⟩))), by (repeat' (first | exact trivial | exact rfl | (refine ⟨Or.inl rfl, ?_⟩) | (refine ⟨Or.inr rfl, ?_⟩) | (refine ⟨Or.inr trivial, ?_⟩) | (refine ⟨rfl, ?_⟩) | (refine ⟨?_, ?_⟩))), by (repeat' (first | exact trivial | exact rfl | (refine ⟨Or.inl rfl, ?_⟩) | (refine ⟨Or.inr rfl, ?_⟩) | (refine ⟨Or.inr trivial, ?_⟩) | (refine ⟨rfl, ?_⟩) | (refine ⟨?_, ?_⟩)))⟩
           rw [hF', e5]; (repeat' (first | exact trivial | exact rfl | (refine ⟨Or.inl rfl, ?_⟩) | (refine ⟨Or.inr rfl, ?_⟩) | (refine ⟨Or.inr trivial, ?_⟩) | (refine ⟨rfl, ?_⟩) | (refine ⟨?_, ?_⟩))))
        | trace_state
    · have g4 : leb rt ((R : Nat) : Int) = false := leb_f.2 (by omega)
      rw [if_neg (by rw [decide_eq_true_eq]; exact hr), List.append_nil] at hst
      clear k1 k2 hat hfs htf
      repeat' (first | ((with_reducible refine gA ?_); (first | refine AW_seq ?_ | refine AW_region ?_ | (refine AW_condY rfl ?_ ?_; assumption) | (refine AW_condN rfl ?_ ?_; assumption) | refine AW_block ?_ | refine AW_skip ?_)) | ((with_reducible refine gS ?_); refine Es_s (T := Try.tab) rfl rfl rfl rfl ?_) | (((with_reducible refine gS ?_); apply Es_q); rfl; rfl; (first | refine LStep_lenM (T := Try.tab) rfl rfl rfl rfl | (refine LStep_add rfl rfl rfl rfl ?_; (refine IntWalk.i64_in _ ?_; first | omega | (simp only [cmps] at *; omega))) | (refine LStep_indexM (T := Try.tab) (c := ?_) rfl rfl rfl rfl rfl rfl ?_; rotate_left; assumption))) | (with_reducible refine Es_nil ?_) | (with_reducible refine then_n ?_) | (with_reducible refine block_n ?_))
      all_goals first
        | (refine ⟨i + 1, by omega, by omega, ?_, by (repeat' (first | exact trivial | exact rfl | (refine ⟨Or.inl rfl, ?_⟩) | (refine ⟨Or.inr rfl, ?_⟩) | (refine ⟨Or.inr trivial, ?_⟩) | (refine ⟨rfl, ?_⟩) | (refine ⟨?_, ?_⟩))), by (repeat' (first | exact trivial | exact rfl | (refine ⟨Or.inl rfl, ?_⟩) | (refine ⟨Or.inr rfl, ?_⟩) | (refine ⟨Or.inr trivial, ?_⟩) | (refine ⟨rfl, ?_⟩) | (refine ⟨?_, ?_⟩))), by (repeat' (first | exact trivial | exact rfl | (refine ⟨Or.inl rfl, ?_⟩) | (refine ⟨Or.inr rfl, ?_⟩) | (refine ⟨Or.inr trivial, ?_⟩) | (refine ⟨rfl, ?_⟩) | (refine ⟨?_, ?_⟩)))⟩
           rw [hst]; (repeat' (first | exact trivial | exact rfl | (refine ⟨Or.inl rfl, ?_⟩) | (refine ⟨Or.inr rfl, ?_⟩) | (refine ⟨Or.inr trivial, ?_⟩) | (refine ⟨rfl, ?_⟩) | (refine ⟨?_, ?_⟩))))
        | trace_state
  · have : i = l.length := by omega
    subst this
    have g3 : ltb ((l.length : Nat) : Int) ((l.length : Nat) : Int) = false := by rw [ltb_f]; omega
    repeat' (first | ((with_reducible refine gA ?_); (first | refine AW_seq ?_ | refine AW_region ?_ | (refine AW_condN rfl ?_ ?_; assumption) | refine AW_ret ?_ | refine AW_exit ?_)) | ((with_reducible refine gS ?_); refine Es_s (T := Try.tab) rfl rfl rfl rfl ?_) | (((with_reducible refine gS ?_); apply Es_q); rfl; rfl; refine LStep_lenM (T := Try.tab) rfl rfl rfl rfl) | (with_reducible refine Es_nil ?_) | (with_reducible refine then_n ?_) | (with_reducible refine then_e ?_) | ((with_reducible refine block_e ?_ ?_); rfl) | ((with_reducible refine gR ?_); first | refine ret1 rfl ?_ | refine ret2 rfl rfl ?_ | refine ret0 ?_ | refine end1 rfl ?_ | refine end0 ?_))
    all_goals first
      | rfl
      | (rw [e00]; done)
      | trace_state
end Go.Proofs.Ytldfncafkdmoiaa
