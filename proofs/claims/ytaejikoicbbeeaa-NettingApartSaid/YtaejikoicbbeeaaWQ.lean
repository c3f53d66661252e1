import Derived.Test.YtaejikoicbbeeaaWP
namespace Go.Proofs.Ytaejikoicbbeeaa
open Go.SL
/-! ### NettingApart -/
theorem onC_may {l : List Db} (h : l.all mayD = true) (c : ByteArray) : (onC c l).all mayD = true := by
  rw [List.all_eq_true]
  exact fun d hd => all_may h d (List.mem_filter.1 hd).1
theorem onC_len (c : ByteArray) (l : List Db) : (onC c l).length ≤ l.length := List.length_filter_le _ _
theorem badN_on {l : List Db} (h : ¬ badN l) (c : ByteArray) : ¬ badN (onC c l) := fun ⟨k, hk⟩ => by
  rw [onC_net] at hk
  split at hk
  · exact h ⟨k, hk⟩
  · omega
theorem badS_on {l : List Db} (h : ¬ badS l) (c : ByteArray) : ¬ badS (onC c l) := fun ⟨s, hs⟩ => by
  rw [psI_on] at hs
  split at hs
  · exact h ⟨s, hs⟩
  · omega
theorem pairs_any (l : List Db) (hl : l.length ≤ 31) (hm : l.all mayD = true) : ∃ (X : List Db) (n : Int), X.length ≤ 4096 ∧ AC Try.prog 10 [.d (.sl 4 (l.map dbE))] [] [] (fun r _ => r = .tup [.d (.sl 4 (X.map dbE)), .d (.sc (.int .i64 n))]) := by
  by_cases hb : badN l
  · exact ⟨[], 3, by simp, pairsBad_ac l (by omega) hm hb⟩
  · exact ⟨pairN l, 0, by have := pair_len hm hb; omega, pairsOk_ac l (by omega) hm hb⟩
set_option maxRecDepth 10000 in
set_option maxHeartbeats 32000000 in
theorem lapart_ac (l : List Db) (c : ByteArray) (hl : l.length ≤ 140737488351232) (hs : ∀ d ∈ l, smD d) : AC Try.prog 6 [.d (.sl 4 (l.map dbE)), .d (.sc (.string c))] [] [] (fun r _ => r = .d (.sc (.bool true))) := by
  have ca := awake_ac
  have cf := rFew_ac l hl hs
  cases hf : fewD l with
  | false =>
    rw [hf] at cf
    refine AC_enter Try.func6 rfl Try.ntmps6 (rv := [.tmp 4]) rfl rfl (by simp) (fun w X G => ?_)
    repeat' (first | ((with_reducible refine gA ?_); (first | refine AW_seq ?_ | refine AW_region ?_ | refine AW_condT rfl ?_ | refine AW_condF rfl ?_ | refine AW_ret ?_ | refine AW_skip ?_)) | ((with_reducible refine gS ?_); refine Es_s (T := Try.tab) rfl rfl rfl rfl ?_) | (((with_reducible refine gS ?_); apply Es_q); rfl; rfl; (first | refine LStep_call (ca) rfl rfl rfl rfl | refine LStep_call (cf) rfl rfl rfl rfl)) | (refine Es_skip rfl ?_ rfl ?_; (first | rfl | (refine w_tf ?_; assumption) | (refine w_ft ?_; assumption))) | (with_reducible refine Es_nil ?_) | (with_reducible refine then_n ?_) | (with_reducible refine then_r ?_) | ((with_reducible refine gR ?_); first | refine ret1 rfl ?_ | refine ret2 rfl rfl ?_ | refine ret0 ?_ | refine end1 rfl ?_ | refine end0 ?_))
    all_goals first
      | rfl
      | trace_state
  | true =>
  rw [hf] at cf
  have hn := few_len hf
  have cA := rAll_ac l (by omega) hs
  cases hm : l.all mayD with
  | false =>
    rw [hm] at cA
    refine AC_enter Try.func6 rfl Try.ntmps6 (rv := [.tmp 4]) rfl rfl (by simp) (fun w X G => ?_)
    repeat' (first | ((with_reducible refine gA ?_); (first | refine AW_seq ?_ | refine AW_region ?_ | refine AW_condT rfl ?_ | refine AW_condF rfl ?_ | refine AW_ret ?_ | refine AW_skip ?_)) | ((with_reducible refine gS ?_); refine Es_s (T := Try.tab) rfl rfl rfl rfl ?_) | (((with_reducible refine gS ?_); apply Es_q); rfl; rfl; (first | refine LStep_call (ca) rfl rfl rfl rfl | refine LStep_call (cf) rfl rfl rfl rfl | refine LStep_call (cA) rfl rfl rfl rfl)) | (((with_reducible refine gS ?_); apply Es_q); rfl; rfl; refine LStep_simp (T := Try.tab) rfl rfl) | (refine Es_skip rfl ?_ rfl ?_; (first | rfl | (refine w_tf ?_; assumption) | (refine w_ft ?_; assumption))) | (with_reducible refine Es_nil ?_) | (with_reducible refine then_n ?_) | (with_reducible refine then_r ?_) | ((with_reducible refine gR ?_); first | refine ret1 rfl ?_ | refine ret2 rfl rfl ?_ | refine ret0 ?_ | refine end1 rfl ?_ | refine end0 ?_))
    all_goals first
      | rfl
      | trace_state
  | true =>
  rw [hm] at cA
  have cP := rParties_ac l (by omega) hs
  rw [mF_all hm] at cP
  by_cases h8 : 8 < (parN l).length
  · have g8 : ltb 8 ((parN l).length : Nat) = true := by rw [ltb_t]; omega
    refine AC_enter Try.func6 rfl Try.ntmps6 (rv := [.tmp 4]) rfl rfl (by simp) (fun w X G => ?_)
    repeat' (first | ((with_reducible refine gA ?_); (first | refine AW_seq ?_ | refine AW_region ?_ | refine AW_condF rfl ?_ | (refine AW_condY rfl ?_ ?_; assumption) | refine AW_ret ?_ | refine AW_skip ?_)) | ((with_reducible refine gS ?_); refine Es_s (T := Try.tab) rfl rfl rfl rfl ?_) | (((with_reducible refine gS ?_); apply Es_q); rfl; rfl; (first | refine LStep_call (ca) rfl rfl rfl rfl | refine LStep_call (cf) rfl rfl rfl rfl | refine LStep_call (cA) rfl rfl rfl rfl | refine LStep_call (cP) rfl rfl rfl rfl)) | (((with_reducible refine gS ?_); apply Es_q); rfl; rfl; (first | refine LStep_simp (T := Try.tab) rfl rfl | refine LStep_lenM (T := Try.tab) rfl rfl rfl rfl)) | (with_reducible refine Es_nil ?_) | (with_reducible refine then_n ?_) | (with_reducible refine then_r ?_) | ((with_reducible refine gR ?_); first | refine ret1 rfl ?_ | refine ret2 rfl rfl ?_ | refine ret0 ?_ | refine end1 rfl ?_ | refine end0 ?_))
    all_goals first
      | rfl
      | trace_state
  · have g8 : ltb 8 ((parN l).length : Nat) = false := by rw [ltb_f]; omega
    have hOm := onC_may hm c
    have hOl := onC_len c l
    have hpo := par_on l c
    have hsn := fun k x (h : l[k]? = some x) => onC_snoc c h
    have e00 : eqb (0 : Int) 0 = true := eqb_t.2 rfl
    have e30 : eqb (3 : Int) 0 = false := by rw [eqb_f]; omega
    have en0 : (!eqb (0 : Int) 0) = false := by rw [e00]; rfl
    have en3 : (!eqb (3 : Int) 0) = true := by rw [e30]; rfl
    have hP : (∃ A X : List Db, A.length ≤ 4096 ∧ X.length ≤ 4096 ∧ onC c A = X ∧ AC Try.prog 10 [.d (.sl 4 (l.map dbE))] [] [] (fun r _ => r = .tup [.d (.sl 4 (A.map dbE)), .d (.sc (.int .i64 0))]) ∧ AC Try.prog 10 [.d (.sl 4 ((onC c l).map dbE))] [] [] (fun r _ => r = .tup [.d (.sl 4 (X.map dbE)), .d (.sc (.int .i64 0))]) ∧
        ∃ (C Z : List Db) (g g2 : Int), C.length ≤ 4096 ∧ Z.length ≤ 4096 ∧ onC c C = Z ∧ AC Try.prog 12 [.d (.sl 4 (l.map dbE))] [] [] (fun r _ => r = .tup [.d (.sl 4 (C.map dbE)), .d (.sc (.int .i64 g)), .d (.sc (.int .i64 0))]) ∧ AC Try.prog 12 [.d (.sl 4 ((onC c l).map dbE))] [] [] (fun r _ => r = .tup [.d (.sl 4 (Z.map dbE)), .d (.sc (.int .i64 g2)), .d (.sc (.int .i64 0))])) ∨
        (∃ (X : List Db) (n : Int), AC Try.prog 10 [.d (.sl 4 (l.map dbE))] [] [] (fun r _ => r = .tup [.d (.sl 4 []), .d (.sc (.int .i64 3))]) ∧ AC Try.prog 10 [.d (.sl 4 ((onC c l).map dbE))] [] [] (fun r _ => r = .tup [.d (.sl 4 (X.map dbE)), .d (.sc (.int .i64 n))]) ∧
        ∃ (Z : List Db) (g2 n2 : Int), AC Try.prog 12 [.d (.sl 4 (l.map dbE))] [] [] (fun r _ => r = .tup [.d (.sl 4 []), .d (.sc (.int .i64 0)), .d (.sc (.int .i64 3))]) ∧ AC Try.prog 12 [.d (.sl 4 ((onC c l).map dbE))] [] [] (fun r _ => r = .tup [.d (.sl 4 (Z.map dbE)), .d (.sc (.int .i64 g2)), .d (.sc (.int .i64 n2))])) := by
      by_cases hb : badN l
      · obtain ⟨X, n, _, h1⟩ := pairs_any (onC c l) (by omega) hOm
        obtain ⟨Z, g2, n2, _, h2⟩ := rings_any (onC c l) (by omega) hOm
        exact .inr ⟨X, n, pairsBad_ac l (by omega) hm hb, h1, Z, g2, n2, ringsBad_ac l (by omega) hm hb, h2⟩
      · have hb' := badN_on hb c
        have hO := okD hm hb
        have a1 := pair_len hm hb
        have a2 := pair_len hOm hb'
        have a3 := ring_len hm hb
        have a4 := ring_len hOm hb'
        exact .inl ⟨pairN l, pairN (onC c l), by omega, by omega, pairN_on hO.one c, pairsOk_ac l (by omega) hm hb, pairsOk_ac (onC c l) (by omega) hOm hb', ringsN l, ringsN (onC c l), goneN l, goneN (onC c l), by omega, by omega, ringsN_on hO c, ringsOk_ac l (by omega) hm hb (by omega), ringsOk_ac (onC c l) (by omega) hOm hb' (by omega)⟩
    have hS : (∃ A X : List Db, A.length ≤ 4096 ∧ X.length ≤ 4096 ∧ onC c A = X ∧ AC Try.prog 11 [.d (.sl 4 (l.map dbE))] [] [] (fun r _ => r = .tup [.d (.sl 4 (A.map dbE)), .d (.sc (.int .i64 0))]) ∧ AC Try.prog 11 [.d (.sl 4 ((onC c l).map dbE))] [] [] (fun r _ => r = .tup [.d (.sl 4 (X.map dbE)), .d (.sc (.int .i64 0))])) ∨
        (∃ (X : List Db) (n : Int), AC Try.prog 11 [.d (.sl 4 (l.map dbE))] [] [] (fun r _ => r = .tup [.d (.sl 4 []), .d (.sc (.int .i64 3))]) ∧ AC Try.prog 11 [.d (.sl 4 ((onC c l).map dbE))] [] [] (fun r _ => r = .tup [.d (.sl 4 (X.map dbE)), .d (.sc (.int .i64 n))])) := by
      by_cases hb : badS l
      · obtain ⟨X, n, _, h1⟩ := net_any (onC c l) (by omega) hOm
        exact .inr ⟨X, n, net_bad l (by omega) hm hb, h1⟩
      · have a1 := netN_len l
        have a2 := netN_len (onC c l)
        exact .inl ⟨netN l, netN (onC c l), by omega, by omega, netN_on l c, net_ok l (by omega) hm hb, net_ok (onC c l) (by omega) hOm (badS_on hb c)⟩
    have hlen : ∀ k, (onC c (l.take k)).length ≤ 31 := fun k => by
      have h1 := onC_len c (l.take k)
      rw [List.length_take] at h1
      omega
    refine AC_enter Try.func6 rfl Try.ntmps6 (rv := [.tmp 4]) rfl rfl (by simp) (fun w X G => ?_)
    repeat' (first | ((with_reducible refine gA ?_); (first | refine AW_seq ?_ | refine AW_region ?_ | refine AW_condF rfl ?_ | (refine AW_condN rfl ?_ ?_; assumption) | refine AW_block ?_ | refine AW_skip ?_)) | ((with_reducible refine gS ?_); refine Es_s (T := Try.tab) rfl rfl rfl rfl ?_) | (((with_reducible refine gS ?_); apply Es_q); rfl; rfl; (first | refine LStep_call (ca) rfl rfl rfl rfl | refine LStep_call (cf) rfl rfl rfl rfl | refine LStep_call (cA) rfl rfl rfl rfl | refine LStep_call (cP) rfl rfl rfl rfl)) | (((with_reducible refine gS ?_); apply Es_q); rfl; rfl; (first | refine LStep_simp (T := Try.tab) rfl rfl | refine LStep_lenM (T := Try.tab) rfl rfl rfl rfl)) | (with_reducible refine Es_nil ?_) | (with_reducible refine then_n ?_))
    refine AW_openNil (t := 5) (id := 2000) (e := 39) (sz := 4) rfl rfl rfl rfl ?_
    refine AW_forE (S := Nat) (fun k => k ≤ l.length) (fun k => [(6, .d (.sc (.int .i64 (k : Nat)))), (5, .own 2000 ((onC c (l.take k)).map dbE).length)]) (fun k => [(2000, some (.arr 39 4 ((onC c (l.take k)).map dbE)))]) (fun k => l.length - k) 0 (by omega) (by (repeat' (first | exact trivial | exact rfl | (refine ⟨Or.inl rfl, ?_⟩) | (refine ⟨Or.inr rfl, ?_⟩) | (refine ⟨Or.inr trivial, ?_⟩) | (refine ⟨rfl, ?_⟩) | (refine ⟨?_, ?_⟩)))) (by (repeat' (first | exact trivial | exact rfl | (refine ⟨Or.inl rfl, ?_⟩) | (refine ⟨Or.inr rfl, ?_⟩) | (refine ⟨Or.inr trivial, ?_⟩) | (refine ⟨rfl, ?_⟩) | (refine ⟨?_, ?_⟩)))) ?_
    intro k hk
    by_cases hlt : k < l.length
    · obtain ⟨x, hx, _⟩ := drop_at hlt
      have g1 : ltb (k : Nat) (l.length : Nat) = true := by rw [ltb_t]; omega
      have hsk := hsn k x hx
      have hlk := hlen k
      by_cases e : x.1.1 = c
      · have g2 : eqs x.1.1 c = true := (eqs_t).2 e
        rw [if_pos e] at hsk
        have hmk : (onC c (l.take (k + 1))).map dbE = (onC c (l.take k)).map dbE ++ [dbE x] := by rw [hsk, List.map_append]; rfl
        generalize onC c (l.take k) = E at *
        repeat' (first | ((with_reducible refine gA ?_); (first | refine AW_seq ?_ | refine AW_region ?_ | (refine AW_condY rfl ?_ ?_; assumption) | refine AW_block ?_ | refine AW_skip ?_)) | ((with_reducible refine gS ?_); refine Es_s (T := Try.tab) rfl rfl rfl rfl ?_) | (((with_reducible refine gS ?_); apply Es_xs); rfl; rfl; (refine LStep_append (T := Try.tab) rfl rfl rfl rfl rfl rfl rfl rfl rfl rfl ?_ ?_ ?_; rfl; (simp only [List.length_map, List.length_cons, List.length_nil]; omega); (unfold maxLen; simp only [List.length_map, List.length_cons, List.length_nil]; omega)); rfl) | (((with_reducible refine gS ?_); apply Es_q); rfl; rfl; (first | refine LStep_lenM (T := Try.tab) rfl rfl rfl rfl | (refine LStep_add rfl rfl rfl rfl ?_; (refine IntWalk.i64_in _ ?_; first | omega | (simp only [cmps] at *; omega))) | (refine LStep_indexM (T := Try.tab) (c := ?_) rfl rfl rfl rfl rfl rfl ?_; rotate_left; assumption) | (refine LStep_lit (T := Try.tab) rfl rfl rfl rfl rfl rfl rfl rfl ?_; (refine Nat.le_of_ble_eq_true ?_; rfl)))) | (with_reducible refine Es_nil ?_) | (with_reducible refine then_n ?_) | (with_reducible refine block_n ?_))
        all_goals first
          | (refine ⟨k + 1, by omega, by omega, ?_, by (repeat' (first | exact trivial | exact rfl | (refine ⟨Or.inl rfl, ?_⟩) | (refine ⟨Or.inr rfl, ?_⟩) | (refine ⟨Or.inr trivial, ?_⟩) | (refine ⟨rfl, ?_⟩) | (refine ⟨?_, ?_⟩))), ?_, by (repeat' (first | exact trivial | exact rfl | (refine ⟨Or.inl rfl, ?_⟩) | (refine ⟨Or.inr rfl, ?_⟩) | (refine ⟨Or.inr trivial, ?_⟩) | (refine ⟨rfl, ?_⟩) | (refine ⟨?_, ?_⟩)))⟩
             · rw [hmk]; (repeat' (first | exact trivial | exact rfl | (refine ⟨Or.inl rfl, ?_⟩) | (refine ⟨Or.inr rfl, ?_⟩) | (refine ⟨Or.inr trivial, ?_⟩) | (refine ⟨rfl, ?_⟩) | (refine ⟨?_, ?_⟩)))
             · rw [hmk]; (repeat' (first | exact trivial | exact rfl | (refine ⟨Or.inl rfl, ?_⟩) | (refine ⟨Or.inr rfl, ?_⟩) | (refine ⟨Or.inr trivial, ?_⟩) | (refine ⟨rfl, ?_⟩) | (refine ⟨?_, ?_⟩))))
          | trace_state
      · have g2 : eqs x.1.1 c = false := by rw [Bool.eq_false_iff]; exact fun h => e ((eqs_t).1 h)
        rw [if_neg e, List.append_nil] at hsk
        repeat' (first | ((with_reducible refine gA ?_); (first | refine AW_seq ?_ | refine AW_region ?_ | (refine AW_condY rfl ?_ ?_; assumption) | (refine AW_condN rfl ?_ ?_; assumption) | refine AW_block ?_ | refine AW_skip ?_)) | ((with_reducible refine gS ?_); refine Es_s (T := Try.tab) rfl rfl rfl rfl ?_) | (((with_reducible refine gS ?_); apply Es_q); rfl; rfl; (first | refine LStep_lenM (T := Try.tab) rfl rfl rfl rfl | (refine LStep_add rfl rfl rfl rfl ?_; (refine IntWalk.i64_in _ ?_; first | omega | (simp only [cmps] at *; omega))) | (refine LStep_indexM (T := Try.tab) (c := ?_) rfl rfl rfl rfl rfl rfl ?_; rotate_left; assumption))) | (with_reducible refine Es_nil ?_) | (with_reducible refine then_n ?_) | (with_reducible refine block_n ?_))
        all_goals first
          | (refine ⟨k + 1, by omega, by omega, ?_, by (repeat' (first | exact trivial | exact rfl | (refine ⟨Or.inl rfl, ?_⟩) | (refine ⟨Or.inr rfl, ?_⟩) | (refine ⟨Or.inr trivial, ?_⟩) | (refine ⟨rfl, ?_⟩) | (refine ⟨?_, ?_⟩))), ?_, by (repeat' (first | exact trivial | exact rfl | (refine ⟨Or.inl rfl, ?_⟩) | (refine ⟨Or.inr rfl, ?_⟩) | (refine ⟨Or.inr trivial, ?_⟩) | (refine ⟨rfl, ?_⟩) | (refine ⟨?_, ?_⟩)))⟩
             · rw [hsk]; (repeat' (first | exact trivial | exact rfl | (refine ⟨Or.inl rfl, ?_⟩) | (refine ⟨Or.inr rfl, ?_⟩) | (refine ⟨Or.inr trivial, ?_⟩) | (refine ⟨rfl, ?_⟩) | (refine ⟨?_, ?_⟩)))
             · rw [hsk]; (repeat' (first | exact trivial | exact rfl | (refine ⟨Or.inl rfl, ?_⟩) | (refine ⟨Or.inr rfl, ?_⟩) | (refine ⟨Or.inr trivial, ?_⟩) | (refine ⟨rfl, ?_⟩) | (refine ⟨?_, ?_⟩))))
          | trace_state
    · have : k = l.length := by omega
      subst this
      have g1 : ltb (l.length : Nat) (l.length : Nat) = false := by rw [ltb_f]; omega
      rw [List.take_length]
      rcases hP with ⟨A, X, _, _, w1, c1, c4, C, Z, g, g2, _, _, w3, c3, c6⟩ | ⟨X, n, c1, c4, Z, g2, n2, c3, c6⟩
      · have o1 := only_ac A c (by omega)
        have o3 := only_ac C c (by omega)
        rw [w1] at o1
        rw [w3] at o3
        have z1 := rSame_ac X X (by omega)
        have z3 := rSame_ac Z Z (by omega)
        rw [sameB_self] at z1 z3
        rcases hS with ⟨B, Y, _, _, w2, c2, c5⟩ | ⟨Y, n3, c2, c5⟩
        · have o2 := only_ac B c (by omega)
          rw [w2] at o2
          have z2 := rSame_ac Y Y (by omega)
          rw [sameB_self] at z2
          generalize onC c l = O at *
          repeat' (first | ((with_reducible refine gA ?_); refine AW_freeze [5] (id := 2000) ⟨rfl, trivial⟩ rfl rfl ?_) | ((with_reducible refine gA ?_); (first | refine AW_seq ?_ | refine AW_region ?_ | refine AW_condF rfl ?_ | (refine AW_condN rfl ?_ ?_; assumption) | refine AW_ret ?_ | refine AW_skip ?_ | refine AW_exit ?_)) | ((with_reducible refine gS ?_); refine Es_s (T := Try.tab) rfl rfl rfl rfl ?_) | (((with_reducible refine gS ?_); apply Es_q); rfl; (first | rfl | (refine w_tt ?_; assumption) | (refine w_ff ?_; assumption)); (first | refine LStep_call (c1) rfl rfl rfl rfl | refine LStep_call (c2) rfl rfl rfl rfl | refine LStep_call (c3) rfl rfl rfl rfl | refine LStep_call (c4) rfl rfl rfl rfl | refine LStep_call (c5) rfl rfl rfl rfl | refine LStep_call (c6) rfl rfl rfl rfl | refine LStep_call (o1) rfl rfl rfl rfl | refine LStep_call (o2) rfl rfl rfl rfl | refine LStep_call (o3) rfl rfl rfl rfl | refine LStep_call (z1) rfl rfl rfl rfl | refine LStep_call (z2) rfl rfl rfl rfl | refine LStep_call (z3) rfl rfl rfl rfl)) | (((with_reducible refine gS ?_); apply Es_q); rfl; (first | rfl | (refine w_tt ?_; assumption) | (refine w_ff ?_; assumption)); (first | refine LStep_simp (T := Try.tab) rfl rfl | refine LStep_lenM (T := Try.tab) rfl rfl rfl rfl | (refine LStep_pickT rfl rfl ?_ rfl rfl; assumption) | (refine LStep_pickF rfl rfl ?_ rfl rfl; assumption))) | (with_reducible refine Es_nil ?_) | (with_reducible refine then_n ?_) | (with_reducible refine then_e ?_) | ((with_reducible refine block_e ?_ ?_); rfl) | ((with_reducible refine gR ?_); first | refine ret1 rfl ?_ | refine ret2 rfl rfl ?_ | refine ret0 ?_ | refine end1 rfl ?_ | refine end0 ?_))
          all_goals first
            | rfl
            | trace_state
        · generalize onC c l = O at *
          repeat' (first | ((with_reducible refine gA ?_); refine AW_freeze [5] (id := 2000) ⟨rfl, trivial⟩ rfl rfl ?_) | ((with_reducible refine gA ?_); (first | refine AW_seq ?_ | refine AW_region ?_ | refine AW_condF rfl ?_ | (refine AW_condN rfl ?_ ?_; assumption) | refine AW_ret ?_ | refine AW_skip ?_ | refine AW_exit ?_)) | ((with_reducible refine gS ?_); refine Es_s (T := Try.tab) rfl rfl rfl rfl ?_) | (((with_reducible refine gS ?_); apply Es_q); rfl; (first | rfl | (refine w_tt ?_; assumption) | (refine w_ff ?_; assumption)); (first | refine LStep_call (c1) rfl rfl rfl rfl | refine LStep_call (c2) rfl rfl rfl rfl | refine LStep_call (c3) rfl rfl rfl rfl | refine LStep_call (c4) rfl rfl rfl rfl | refine LStep_call (c5) rfl rfl rfl rfl | refine LStep_call (c6) rfl rfl rfl rfl | refine LStep_call (o1) rfl rfl rfl rfl | refine LStep_call (o3) rfl rfl rfl rfl | refine LStep_call (z1) rfl rfl rfl rfl | refine LStep_call (z3) rfl rfl rfl rfl)) | (((with_reducible refine gS ?_); apply Es_q); rfl; (first | rfl | (refine w_tt ?_; assumption) | (refine w_ff ?_; assumption)); (first | refine LStep_simp (T := Try.tab) rfl rfl | refine LStep_lenM (T := Try.tab) rfl rfl rfl rfl | (refine LStep_pickT rfl rfl ?_ rfl rfl; assumption) | (refine LStep_pickF rfl rfl ?_ rfl rfl; assumption))) | (refine Es_skip rfl ?_ rfl ?_; (first | rfl | (refine w_tf ?_; assumption) | (refine w_ft ?_; assumption))) | (with_reducible refine Es_nil ?_) | (with_reducible refine then_n ?_) | (with_reducible refine then_e ?_) | ((with_reducible refine block_e ?_ ?_); rfl) | ((with_reducible refine gR ?_); first | refine ret1 rfl ?_ | refine ret2 rfl rfl ?_ | refine ret0 ?_ | refine end1 rfl ?_ | refine end0 ?_))
          all_goals first
            | rfl
            | trace_state
      · rcases hS with ⟨B, Y, _, _, w2, c2, c5⟩ | ⟨Y, n3, c2, c5⟩
        · have o2 := only_ac B c (by omega)
          rw [w2] at o2
          have z2 := rSame_ac Y Y (by omega)
          rw [sameB_self] at z2
          generalize onC c l = O at *
          repeat' (first | ((with_reducible refine gA ?_); refine AW_freeze [5] (id := 2000) ⟨rfl, trivial⟩ rfl rfl ?_) | ((with_reducible refine gA ?_); (first | refine AW_seq ?_ | refine AW_region ?_ | refine AW_condF rfl ?_ | (refine AW_condN rfl ?_ ?_; assumption) | refine AW_ret ?_ | refine AW_skip ?_ | refine AW_exit ?_)) | ((with_reducible refine gS ?_); refine Es_s (T := Try.tab) rfl rfl rfl rfl ?_) | (((with_reducible refine gS ?_); apply Es_q); rfl; (first | rfl | (refine w_tt ?_; assumption) | (refine w_ff ?_; assumption)); (first | refine LStep_call (c1) rfl rfl rfl rfl | refine LStep_call (c2) rfl rfl rfl rfl | refine LStep_call (c3) rfl rfl rfl rfl | refine LStep_call (c4) rfl rfl rfl rfl | refine LStep_call (c5) rfl rfl rfl rfl | refine LStep_call (c6) rfl rfl rfl rfl | refine LStep_call (o2) rfl rfl rfl rfl | refine LStep_call (z2) rfl rfl rfl rfl)) | (((with_reducible refine gS ?_); apply Es_q); rfl; (first | rfl | (refine w_tt ?_; assumption) | (refine w_ff ?_; assumption)); (first | refine LStep_simp (T := Try.tab) rfl rfl | refine LStep_lenM (T := Try.tab) rfl rfl rfl rfl | (refine LStep_pickT rfl rfl ?_ rfl rfl; assumption) | (refine LStep_pickF rfl rfl ?_ rfl rfl; assumption))) | (refine Es_skip rfl ?_ rfl ?_; (first | rfl | (refine w_tf ?_; assumption) | (refine w_ft ?_; assumption))) | (with_reducible refine Es_nil ?_) | (with_reducible refine then_n ?_) | (with_reducible refine then_e ?_) | ((with_reducible refine block_e ?_ ?_); rfl) | ((with_reducible refine gR ?_); first | refine ret1 rfl ?_ | refine ret2 rfl rfl ?_ | refine ret0 ?_ | refine end1 rfl ?_ | refine end0 ?_))
          all_goals first
            | rfl
            | trace_state
        · generalize onC c l = O at *
          repeat' (first | ((with_reducible refine gA ?_); refine AW_freeze [5] (id := 2000) ⟨rfl, trivial⟩ rfl rfl ?_) | ((with_reducible refine gA ?_); (first | refine AW_seq ?_ | refine AW_region ?_ | refine AW_condF rfl ?_ | (refine AW_condN rfl ?_ ?_; assumption) | refine AW_ret ?_ | refine AW_skip ?_ | refine AW_exit ?_)) | ((with_reducible refine gS ?_); refine Es_s (T := Try.tab) rfl rfl rfl rfl ?_) | (((with_reducible refine gS ?_); apply Es_q); rfl; rfl; (first | refine LStep_call (c1) rfl rfl rfl rfl | refine LStep_call (c2) rfl rfl rfl rfl | refine LStep_call (c3) rfl rfl rfl rfl | refine LStep_call (c4) rfl rfl rfl rfl | refine LStep_call (c5) rfl rfl rfl rfl | refine LStep_call (c6) rfl rfl rfl rfl)) | (((with_reducible refine gS ?_); apply Es_q); rfl; rfl; (first | refine LStep_simp (T := Try.tab) rfl rfl | refine LStep_lenM (T := Try.tab) rfl rfl rfl rfl | (refine LStep_pickT rfl rfl ?_ rfl rfl; assumption) | (refine LStep_pickF rfl rfl ?_ rfl rfl; assumption))) | (refine Es_skip rfl ?_ rfl ?_; (first | rfl | (refine w_tf ?_; assumption) | (refine w_ft ?_; assumption))) | (with_reducible refine Es_nil ?_) | (with_reducible refine then_n ?_) | (with_reducible refine then_e ?_) | ((with_reducible refine block_e ?_ ?_); rfl) | ((with_reducible refine gR ?_); first | refine ret1 rfl ?_ | refine ret2 rfl rfl ?_ | refine ret0 ?_ | refine end1 rfl ?_ | refine end0 ?_))
          all_goals first
            | rfl
            | trace_state
end Go.Proofs.Ytaejikoicbbeeaa
