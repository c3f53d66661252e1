import Derived.Test.YtfgmnhlopgaanaaQ7
namespace Go.Proofs.Ytfgmnhlopgaanaa
open Go.SL

/-! ### the document's example -/
def ex1 : Post := ⟨1, ⟨#[]⟩, []⟩
def ex2 : Post := ⟨2, ⟨#[]⟩, []⟩
def ex3 : Post := ⟨3, ⟨#[]⟩, []⟩
theorem exDiff : diffR [ex1, ex2] [ex2, ex3] = .tup [.d (.sl 3 ([ex1].map Post.enc)), .d (.sl 3 ([ex3].map Post.enc)), .d (.sl 1 ([].map iE))] := by
  have h1 : onlyL [ex1, ex2] [ex2, ex3] = [ex1] := by kernel_rfl
  have h2 : onlyL [ex2, ex3] [ex1, ex2] = [ex3] := by kernel_rfl
  have h3 : unlikeN [ex1, ex2] [ex2, ex3] = [] := by kernel_rfl
  have h4 : sortI [] = [] := by simp [sortI]
  rw [diffR, h1, h2, h3, h4]
theorem exMend : mendR [ex1, ex2] [ex2, ex3] = .tup [.d (.sl 3 ([ex1, ex2, ex3].map Post.enc)), .d (.sc (.int .i64 0))] := by
  have h2 : isortP (mixL [ex1, ex2] [ex2, ex3]) = [ex1, ex2, ex3] := by kernel_rfl
  have h3 : unlikeN [ex1, ex2] [ex2, ex3] = [] := by kernel_rfl
  rw [mendR, h2, h3, if_pos rfl]
theorem ex_ents {l : List Post} (h : l.all (fun p => p.entries.isEmpty) = true) : ∀ p ∈ l, p.entries.length ≤ 1048576 := fun p hp => by
  have := List.all_eq_true.1 h p hp
  rw [List.isEmpty_iff] at this
  rw [this]
  simp
set_option maxRecDepth 20000 in
set_option maxHeartbeats 2000000 in
theorem awake_ac : AC Try.prog 9 [] [] [] (fun r _ => r = .d (.sc (.bool true))) := by
  have cd := (diff_ac [ex1, ex2] [ex2, ex3] (by simp) (by simp) (ex_ents (by kernel_rfl)) (ex_ents (by kernel_rfl))).mono (fun _ _ e => e.trans exDiff)
  have cm := (mend_ac [ex1, ex2] [ex2, ex3] (by simp) (by simp) (ex_ents (by kernel_rfl)) (ex_ents (by kernel_rfl))).mono (fun _ _ e => e.trans exMend)
  refine AC_enter Try.func9 rfl Try.ntmps9 (rv := [.tmp 0]) rfl rfl (by simp) (fun w X G => ?_)
  repeat' (first | ((with_reducible refine gA ?_); (first | refine AW_seq ?_ | refine AW_region ?_ | refine AW_ret ?_)) | (((with_reducible refine gS ?_); apply Es_q); rfl; rfl; (first | refine LStep_buildC (T := Try.tab) (out' := [_, _, .d (.sl 3 [])]) rfl rfl rfl rfl rfl rfl ⟨.refl _, .refl _, .nil 3, trivial⟩ | refine LStep_eqlT rfl rfl rfl rfl rfl)) | ((with_reducible refine gS ?_); refine Es_s (T := Try.tab) rfl rfl rfl rfl ?_) | (((with_reducible refine gS ?_); apply Es_q); rfl; rfl; (first | refine LStep_call (cd) rfl rfl rfl rfl | refine LStep_call (cm) rfl rfl rfl rfl)) | (((with_reducible refine gS ?_); apply Es_q); rfl; rfl; (first | refine LStep_simp (T := Try.tab) rfl rfl | refine LStep_lenM (T := Try.tab) rfl rfl rfl rfl | (refine LStep_index (T := Try.tab) (c := ?_) rfl rfl rfl rfl rfl rfl ?_ ?_; rotate_left; omega; (first | assumption | rfl)) | (refine LStep_lit (T := Try.tab) rfl rfl rfl rfl rfl rfl rfl rfl ?_; (refine Nat.le_of_ble_eq_true ?_; rfl)))) | (with_reducible refine Es_nil ?_) | (with_reducible refine then_n ?_) | ((with_reducible refine gR ?_); first | refine ret1 rfl ?_ | refine ret2 rfl rfl ?_ | refine ret0 ?_ | refine end1 rfl ?_ | refine end0 ?_))
  all_goals rfl

/-! ### the laws -/
theorem few_bounds {l : List Post} (h : fewP l = true) : l.length ≤ 20 ∧ ∀ p ∈ l, p.entries.length ≤ 20 := by
  unfold fewP at h
  rw [Bool.and_eq_true, decide_eq_true_eq, List.all_eq_true] at h
  refine ⟨h.2, fun p hp => ?_⟩
  have := h.1 p hp
  unfold Post.small at this
  rw [Bool.and_eq_true, decide_eq_true_eq] at this
  exact this.1
theorem onlyL_ents {a b : List Post} {n : Nat} (h : ∀ p ∈ a, p.entries.length ≤ n) : ∀ p ∈ onlyL a b, p.entries.length ≤ n := fun p hp => h p (rowL_mem _ (onlyL_mem.1 hp).1)
theorem onlyL_len (a b : List Post) : (onlyL a b).length ≤ a.length := by
  unfold onlyL
  have := List.length_filter_le (lacks b) (rowL a)
  have := rowL_len a
  omega
theorem unlike_le (a b : List Post) : (unlikeN a b).length ≤ a.length := by
  unfold unlikeN
  rw [List.length_map]
  have := List.length_filter_le (unlk b) (rowL a)
  have := rowL_len a
  omega
theorem sortI_len (l : List Int) : (sortI l).length = l.length := by unfold sortI; simp
theorem mixM_len (a b : List Post) : (isortP (mixL a b)).length ≤ a.length + b.length := by
  rw [(isortP_perm _).length_eq]
  unfold mixL
  rw [List.length_append]
  have := rowL_len a
  have := onlyL_len b a
  omega
theorem mixM_ents {a b : List Post} {n : Nat} (ha : ∀ p ∈ a, p.entries.length ≤ n) (hb : ∀ p ∈ b, p.entries.length ≤ n) : ∀ p ∈ isortP (mixL a b), p.entries.length ≤ n := fun p hp => by
  have := (isortP_perm _).mem_iff.1 hp
  unfold mixL at this
  rcases List.mem_append.1 this with h | h
  · exact ha p (rowL_mem _ h)
  · exact onlyL_ents hb p h
set_option maxRecDepth 20000 in
set_option maxHeartbeats 2000000 in
theorem matchDiffs_ac (a b : List Post) (ha : a.length ≤ 140737488351232) (hb : b.length ≤ 140737488351232) : AC Try.prog 3 [.d (.sl 3 (a.map Post.enc)), .d (.sl 3 (b.map Post.enc))] [] [] (fun r _ => r = .d (.sc (.bool true))) := by
  have ca := few_ac a ha
  have cb := few_ac b hb
  cases h1 : fewP a with
  | false =>
    rw [h1] at ca
    refine AC_enter Try.func3 rfl Try.ntmps3 (rv := [.tmp 4]) rfl rfl (by simp) (fun w X G => ?_)
    repeat' (first | ((with_reducible refine gA ?_); (first | refine AW_seq ?_ | refine AW_region ?_ | refine AW_condT rfl ?_ | refine AW_ret ?_)) | ((with_reducible refine gS ?_); refine Es_s (T := Try.tab) rfl rfl rfl rfl ?_) | (((with_reducible refine gS ?_); apply Es_q); rfl; rfl; (first | refine LStep_call (awake_ac) rfl rfl rfl rfl | refine LStep_call (ca) rfl rfl rfl rfl)) | (((with_reducible refine gS ?_); apply Es_q); rfl; rfl; refine LStep_simp (T := Try.tab) rfl rfl) | (refine Es_skip rfl ?_ rfl ?_; (first | rfl | (refine w_tf ?_; assumption) | (refine w_ft ?_; assumption))) | (with_reducible refine Es_nil ?_) | (with_reducible refine then_n ?_) | (with_reducible refine then_r ?_) | ((with_reducible refine gR ?_); first | refine ret1 rfl ?_ | refine ret2 rfl rfl ?_ | refine ret0 ?_ | refine end1 rfl ?_ | refine end0 ?_))
    all_goals rfl
  | true =>
    rw [h1] at ca
    cases h2 : fewP b with
    | false =>
      rw [h2] at cb
      refine AC_enter Try.func3 rfl Try.ntmps3 (rv := [.tmp 4]) rfl rfl (by simp) (fun w X G => ?_)
      repeat' (first | ((with_reducible refine gA ?_); (first | refine AW_seq ?_ | refine AW_region ?_ | refine AW_condT rfl ?_ | refine AW_ret ?_)) | ((with_reducible refine gS ?_); refine Es_s (T := Try.tab) rfl rfl rfl rfl ?_) | (((with_reducible refine gS ?_); apply Es_q); rfl; rfl; (first | refine LStep_call (awake_ac) rfl rfl rfl rfl | refine LStep_call (ca) rfl rfl rfl rfl | refine LStep_call (cb) rfl rfl rfl rfl)) | (((with_reducible refine gS ?_); apply Es_q); rfl; rfl; refine LStep_simp (T := Try.tab) rfl rfl) | (with_reducible refine Es_nil ?_) | (with_reducible refine then_n ?_) | (with_reducible refine then_r ?_) | ((with_reducible refine gR ?_); first | refine ret1 rfl ?_ | refine ret2 rfl rfl ?_ | refine ret0 ?_ | refine end1 rfl ?_ | refine end0 ?_))
      all_goals rfl
    | true =>
      rw [h2] at cb
      obtain ⟨la, ea⟩ := few_bounds h1
      obtain ⟨lb, eb⟩ := few_bounds h2
      have cd := diff_ac a b (by omega) (by omega) (fun p hp => by have := ea p hp; omega) (fun p hp => by have := eb p hp; omega)
      have o1 := ronly_ac a b (by omega) (by omega)
      have o2 := ronly_ac b a (by omega) (by omega)
      have u := runlike_ac a b (by omega) (by omega) (fun p hp => by have := ea p hp; omega)
      rw [← sortI_eq] at u
      have s1 := sameP_ac (onlyL a b) (by have := onlyL_len a b; omega) (fun p hp => by have := onlyL_ents ea p hp; omega)
      have s2 := sameP_ac (onlyL b a) (by have := onlyL_len b a; omega) (fun p hp => by have := onlyL_ents eb p hp; omega)
      have i := ints_ac (sortI (unlikeN a b)) (by rw [sortI_len]; have := unlike_le a b; omega)
      unfold diffR at cd
      refine AC_enter Try.func3 rfl Try.ntmps3 (rv := [.tmp 4]) rfl rfl (by simp) (fun w X G => ?_)
      repeat' (first | ((with_reducible refine gA ?_); (first | refine AW_seq ?_ | refine AW_region ?_ | refine AW_condF rfl ?_ | refine AW_ret ?_ | refine AW_skip ?_)) | ((with_reducible refine gS ?_); refine Es_s (T := Try.tab) rfl rfl rfl rfl ?_) | (((with_reducible refine gS ?_); apply Es_q); rfl; rfl; (first | refine LStep_call (awake_ac) rfl rfl rfl rfl | refine LStep_call (ca) rfl rfl rfl rfl | refine LStep_call (cb) rfl rfl rfl rfl | refine LStep_call (cd) rfl rfl rfl rfl | refine LStep_call (o1) rfl rfl rfl rfl | refine LStep_call (o2) rfl rfl rfl rfl | refine LStep_call (u) rfl rfl rfl rfl | refine LStep_call (s1) rfl rfl rfl rfl | refine LStep_call (s2) rfl rfl rfl rfl | refine LStep_call (i) rfl rfl rfl rfl)) | (((with_reducible refine gS ?_); apply Es_q); rfl; rfl; refine LStep_simp (T := Try.tab) rfl rfl) | (with_reducible refine Es_nil ?_) | (with_reducible refine then_n ?_) | ((with_reducible refine gR ?_); first | refine ret1 rfl ?_ | refine ret2 rfl rfl ?_ | refine ret0 ?_ | refine end1 rfl ?_ | refine end0 ?_))
      all_goals rfl
theorem mendR_form {a b : List Post} (la : a.length ≤ 20) (lb : b.length ≤ 20) (ea : ∀ p ∈ a, p.entries.length ≤ 20) (eb : ∀ p ∈ b, p.entries.length ≤ 20) :
    ∃ (M : List Post) (c : Int), mendR a b = .tup [.d (.sl 3 (M.map Post.enc)), .d (.sc (.int .i64 c))] ∧ M.length ≤ 40 ∧ ∀ p ∈ M, p.entries.length ≤ 20 := by
  unfold mendR
  split
  · exact ⟨_, 0, rfl, by have := mixM_len a b; omega, mixM_ents ea eb⟩
  · exact ⟨[], 15, rfl, by simp, fun p hp => by simp at hp⟩
set_option maxRecDepth 20000 in
set_option maxHeartbeats 2000000 in
theorem matchMends_ac (a b : List Post) (ha : a.length ≤ 140737488351232) (hb : b.length ≤ 140737488351232) : AC Try.prog 4 [.d (.sl 3 (a.map Post.enc)), .d (.sl 3 (b.map Post.enc))] [] [] (fun r _ => r = .d (.sc (.bool true))) := by
  have ca := few_ac a ha
  have cb := few_ac b hb
  cases h1 : fewP a with
  | false =>
    rw [h1] at ca
    refine AC_enter Try.func4 rfl Try.ntmps4 (rv := [.tmp 4]) rfl rfl (by simp) (fun w X G => ?_)
    repeat' (first | ((with_reducible refine gA ?_); (first | refine AW_seq ?_ | refine AW_region ?_ | refine AW_condT rfl ?_ | refine AW_ret ?_)) | ((with_reducible refine gS ?_); refine Es_s (T := Try.tab) rfl rfl rfl rfl ?_) | (((with_reducible refine gS ?_); apply Es_q); rfl; rfl; (first | refine LStep_call (awake_ac) rfl rfl rfl rfl | refine LStep_call (ca) rfl rfl rfl rfl)) | (((with_reducible refine gS ?_); apply Es_q); rfl; rfl; refine LStep_simp (T := Try.tab) rfl rfl) | (refine Es_skip rfl ?_ rfl ?_; (first | rfl | (refine w_tf ?_; assumption) | (refine w_ft ?_; assumption))) | (with_reducible refine Es_nil ?_) | (with_reducible refine then_n ?_) | (with_reducible refine then_r ?_) | ((with_reducible refine gR ?_); first | refine ret1 rfl ?_ | refine ret2 rfl rfl ?_ | refine ret0 ?_ | refine end1 rfl ?_ | refine end0 ?_))
    all_goals rfl
  | true =>
    rw [h1] at ca
    cases h2 : fewP b with
    | false =>
      rw [h2] at cb
      refine AC_enter Try.func4 rfl Try.ntmps4 (rv := [.tmp 4]) rfl rfl (by simp) (fun w X G => ?_)
      repeat' (first | ((with_reducible refine gA ?_); (first | refine AW_seq ?_ | refine AW_region ?_ | refine AW_condT rfl ?_ | refine AW_ret ?_)) | ((with_reducible refine gS ?_); refine Es_s (T := Try.tab) rfl rfl rfl rfl ?_) | (((with_reducible refine gS ?_); apply Es_q); rfl; rfl; (first | refine LStep_call (awake_ac) rfl rfl rfl rfl | refine LStep_call (ca) rfl rfl rfl rfl | refine LStep_call (cb) rfl rfl rfl rfl)) | (((with_reducible refine gS ?_); apply Es_q); rfl; rfl; refine LStep_simp (T := Try.tab) rfl rfl) | (with_reducible refine Es_nil ?_) | (with_reducible refine then_n ?_) | (with_reducible refine then_r ?_) | ((with_reducible refine gR ?_); first | refine ret1 rfl ?_ | refine ret2 rfl rfl ?_ | refine ret0 ?_ | refine end1 rfl ?_ | refine end0 ?_))
      all_goals rfl
    | true =>
      rw [h2] at cb
      obtain ⟨la, ea⟩ := few_bounds h1
      obtain ⟨lb, eb⟩ := few_bounds h2
      have c1 := mend_ac a b (by omega) (by omega) (fun p hp => by have := ea p hp; omega) (fun p hp => by have := eb p hp; omega)
      have c2 := mend_ac b a (by omega) (by omega) (fun p hp => by have := eb p hp; omega) (fun p hp => by have := ea p hp; omega)
      have c3 := rmend_ac a b (by omega) (by omega) (fun p hp => by have := ea p hp; omega)
      rw [mendR_comm] at c2
      obtain ⟨M, c, hM, lM, eM⟩ := mendR_form la lb ea eb
      rw [hM] at c1 c2 c3
      have s := sameP_ac M (by omega) (fun p hp => by have := eM p hp; omega)
      refine AC_enter Try.func4 rfl Try.ntmps4 (rv := [.tmp 4]) rfl rfl (by simp) (fun w X G => ?_)
      repeat' (first | ((with_reducible refine gA ?_); (first | refine AW_seq ?_ | refine AW_region ?_ | refine AW_condF rfl ?_ | refine AW_ret ?_ | refine AW_skip ?_)) | (((with_reducible refine gS ?_); apply Es_q); rfl; rfl; refine LStep_eqlT rfl rfl rfl rfl rfl) | ((with_reducible refine gS ?_); refine Es_s (T := Try.tab) rfl rfl rfl rfl ?_) | (((with_reducible refine gS ?_); apply Es_q); rfl; rfl; (first | refine LStep_call (awake_ac) rfl rfl rfl rfl | refine LStep_call (ca) rfl rfl rfl rfl | refine LStep_call (cb) rfl rfl rfl rfl | refine LStep_call (c1) rfl rfl rfl rfl | refine LStep_call (c2) rfl rfl rfl rfl | refine LStep_call (c3) rfl rfl rfl rfl | refine LStep_call (s) rfl rfl rfl rfl)) | (((with_reducible refine gS ?_); apply Es_q); rfl; rfl; refine LStep_simp (T := Try.tab) rfl rfl) | (with_reducible refine Es_nil ?_) | (with_reducible refine then_n ?_) | ((with_reducible refine gR ?_); first | refine ret1 rfl ?_ | refine ret2 rfl rfl ?_ | refine ret0 ?_ | refine end1 rfl ?_ | refine end0 ?_))
      all_goals rfl
set_option maxRecDepth 20000 in
set_option maxHeartbeats 4000000 in
theorem matchStays_ac (a b : List Post) (ha : a.length ≤ 140737488351232) (hb : b.length ≤ 140737488351232) : AC Try.prog 5 [.d (.sl 3 (a.map Post.enc)), .d (.sl 3 (b.map Post.enc))] [] [] (fun r _ => r = .d (.sc (.bool true))) := by
  have ca := few_ac a ha
  have cb := few_ac b hb
  cases h1 : fewP a with
  | false =>
    rw [h1] at ca
    refine AC_enter Try.func5 rfl Try.ntmps5 (rv := [.tmp 4]) rfl rfl (by simp) (fun w X G => ?_)
    repeat' (first | ((with_reducible refine gA ?_); (first | refine AW_seq ?_ | refine AW_region ?_ | refine AW_condT rfl ?_ | refine AW_ret ?_)) | ((with_reducible refine gS ?_); refine Es_s (T := Try.tab) rfl rfl rfl rfl ?_) | (((with_reducible refine gS ?_); apply Es_q); rfl; rfl; (first | refine LStep_call (awake_ac) rfl rfl rfl rfl | refine LStep_call (ca) rfl rfl rfl rfl)) | (((with_reducible refine gS ?_); apply Es_q); rfl; rfl; refine LStep_simp (T := Try.tab) rfl rfl) | (refine Es_skip rfl ?_ rfl ?_; (first | rfl | (refine w_tf ?_; assumption) | (refine w_ft ?_; assumption))) | (with_reducible refine Es_nil ?_) | (with_reducible refine then_n ?_) | (with_reducible refine then_r ?_) | ((with_reducible refine gR ?_); first | refine ret1 rfl ?_ | refine ret2 rfl rfl ?_ | refine ret0 ?_ | refine end1 rfl ?_ | refine end0 ?_))
    all_goals rfl
  | true =>
    rw [h1] at ca
    cases h2 : fewP b with
    | false =>
      rw [h2] at cb
      refine AC_enter Try.func5 rfl Try.ntmps5 (rv := [.tmp 4]) rfl rfl (by simp) (fun w X G => ?_)
      repeat' (first | ((with_reducible refine gA ?_); (first | refine AW_seq ?_ | refine AW_region ?_ | refine AW_condT rfl ?_ | refine AW_ret ?_)) | ((with_reducible refine gS ?_); refine Es_s (T := Try.tab) rfl rfl rfl rfl ?_) | (((with_reducible refine gS ?_); apply Es_q); rfl; rfl; (first | refine LStep_call (awake_ac) rfl rfl rfl rfl | refine LStep_call (ca) rfl rfl rfl rfl | refine LStep_call (cb) rfl rfl rfl rfl)) | (((with_reducible refine gS ?_); apply Es_q); rfl; rfl; refine LStep_simp (T := Try.tab) rfl rfl) | (with_reducible refine Es_nil ?_) | (with_reducible refine then_n ?_) | (with_reducible refine then_r ?_) | ((with_reducible refine gR ?_); first | refine ret1 rfl ?_ | refine ret2 rfl rfl ?_ | refine ret0 ?_ | refine end1 rfl ?_ | refine end0 ?_))
      all_goals rfl
    | true =>
      rw [h2] at cb
      obtain ⟨la, ea⟩ := few_bounds h1
      obtain ⟨lb, eb⟩ := few_bounds h2
      have c1 := mend_ac a b (by omega) (by omega) (fun p hp => by have := ea p hp; omega) (fun p hp => by have := eb p hp; omega)
      have d1 := diff_ac a b (by omega) (by omega) (fun p hp => by have := ea p hp; omega) (fun p hp => by have := eb p hp; omega)
      by_cases hu : unlikeN a b = []
      · have lM := mixM_len a b
        have eM := mixM_ents ea eb
        have hs := stays_mix hu
        have lX := onlyL_len a b
        have lY := onlyL_len b a
        unfold mendR at c1
        rw [if_pos hu] at c1
        unfold diffR at d1
        rw [hu] at d1
        generalize isortP (mixL a b) = M at c1 lM eM hs
        have c2 := mend_ac M a (by omega) (by omega) (fun p hp => by have := eM p hp; omega) (fun p hp => by have := ea p hp; omega)
        have c3 := mend_ac b M (by omega) (by omega) (fun p hp => by have := eb p hp; omega) (fun p hp => by have := eM p hp; omega)
        have d2 := diff_ac M a (by omega) (by omega) (fun p hp => by have := eM p hp; omega) (fun p hp => by have := ea p hp; omega)
        have d3 := diff_ac M b (by omega) (by omega) (fun p hp => by have := eM p hp; omega) (fun p hp => by have := eb p hp; omega)
        obtain ⟨u1, m1, u2, m2, o1, o2, u3, l1, l2, lt⟩ := hs
        have hz : sortI [] = [] := by simp [sortI]
        unfold mendR at c2 c3
        unfold diffR at d2 d3
        rw [if_pos u1, m1] at c2
        rw [if_pos u2, m2] at c3
        rw [u1, o1, hz] at d2
        rw [u3, o2, hz] at d3
        rw [hz] at d1
        have s := sameP_ac M (by omega) (fun p hp => by have := eM p hp; omega)
        clear u1 m1 u2 m2 o1 o2 u3 eM ea eb hu
        generalize onlyL a b = X at d1 l2 lX
        generalize onlyL b a = Y at d1 l1 lY
        generalize onlyL M a = Y2 at d2 l1
        generalize onlyL M b = X2 at d3 l2
        have e0 : wrp .i64 (wrp .i64 (0 + 0) + 0) = 0 := by
          have e1 : wrp .i64 (0 + 0) = 0 + 0 := wrp_fit (by omega)
          rw [e1, wrp_fit (by omega)]
          rfl
        refine AC_enter Try.func5 rfl Try.ntmps5 (rv := [.tmp 4]) rfl rfl (by simp) (fun w X G => ?_)
        repeat' (first | ((with_reducible refine gA ?_); (first | refine AW_seq ?_ | refine AW_region ?_ | refine AW_condT rfl ?_ | refine AW_condF rfl ?_ | (refine AW_cond rfl (fun hc => ?_) (fun hc => ?_) <;> try (exfalso; simp only [cmpL] at hc; omega)) | refine AW_block ?_ | refine AW_ret ?_ | refine AW_skip ?_)) | (((with_reducible refine gS ?_); apply Es_q); rfl; (first | rfl | (refine w_ff ?_; assumption)); refine LStep_neqF rfl rfl rfl rfl rfl) | ((with_reducible refine gS ?_); refine Es_s (T := Try.tab) rfl rfl rfl rfl ?_) | (((with_reducible refine gS ?_); apply Es_q); rfl; (first | rfl | (refine w_ff ?_; assumption)); (first | refine LStep_call (awake_ac) rfl rfl rfl rfl | refine LStep_call (ca) rfl rfl rfl rfl | refine LStep_call (cb) rfl rfl rfl rfl | refine LStep_call (c1) rfl rfl rfl rfl | refine LStep_call (d1) rfl rfl rfl rfl | refine LStep_call (c2) rfl rfl rfl rfl | refine LStep_call (c3) rfl rfl rfl rfl | refine LStep_call (d2) rfl rfl rfl rfl | refine LStep_call (d3) rfl rfl rfl rfl | refine LStep_call (s) rfl rfl rfl rfl)) | (((with_reducible refine gS ?_); apply Es_q); rfl; (first | rfl | (refine w_ff ?_; assumption)); (first | refine LStep_simp (T := Try.tab) rfl rfl | refine LStep_lenM (T := Try.tab) rfl rfl rfl rfl | refine LStep_wrap (T := Try.tab) rfl rfl | (refine LStep_pickT rfl rfl ?_ rfl rfl; assumption) | (refine LStep_pickF rfl rfl ?_ rfl rfl; assumption))) | (refine Es_skip rfl ?_ rfl ?_; (first | rfl | (refine w_tf ?_; assumption) | (refine w_ft ?_; assumption))) | (refine Es_split rfl ?_ (fun _ => ?_) (fun _ => ?_); ((fail_if_success (refine und_t ?_; assumption)); (fail_if_success (refine und_f ?_; assumption)); exact trivial)) | (with_reducible refine Es_nil ?_) | (with_reducible refine then_n ?_) | (with_reducible refine then_r ?_) | ((with_reducible refine gR ?_); first | refine ret1 rfl ?_ | refine ret2 rfl rfl ?_ | refine ret0 ?_ | refine end1 rfl ?_ | refine end0 ?_))
        all_goals simp only [cmps] at *
        all_goals first
          | (exfalso; simp only [List.length_nil] at *; omega)
          | (rename_i hh; exact absurd e0 hh)
          | skip
        clear ca cb c1 d1 c2 c3 d2 d3 s
        refine AW_forE (S := Nat) (fun k => k ≤ M.length) (fun k => [(139, .d (.sc (.int .i64 (k : Nat))))]) (fun _ => []) (fun k => M.length - k) 0 (by omega) (by (repeat' (first | exact trivial | exact rfl | (refine ⟨Or.inl rfl, ?_⟩) | (refine ⟨Or.inr rfl, ?_⟩) | (refine ⟨rfl, ?_⟩) | (refine ⟨?_, ?_⟩)))) (by (repeat' (first | exact trivial | exact rfl | (refine ⟨Or.inl rfl, ?_⟩) | (refine ⟨Or.inr rfl, ?_⟩) | (refine ⟨rfl, ?_⟩) | (refine ⟨?_, ?_⟩)))) ?_
        intro k hk
        by_cases hlt : k < M.length
        · obtain ⟨x, hx, _⟩ := drop_at hlt
          by_cases hk0 : k = 0
          · subst hk0
            repeat' (first | ((with_reducible refine gA ?_); (first | refine AW_seq ?_ | refine AW_region ?_ | refine AW_regionD Try.mixed ?_ | refine AW_condF rfl ?_ | (refine AW_cond rfl (fun hc => ?_) (fun hc => ?_) <;> try (exfalso; simp only [cmpL] at hc; omega)) | refine AW_block ?_ | refine AW_skip ?_)) | (first | ((with_reducible refine gS ?_); refine Es_s (T := Try.tab) rfl rfl rfl rfl ?_) | ((with_reducible refine gD ?_); refine Ed_s (T := Try.tab) rfl rfl rfl rfl ?_)) | ((first | ((with_reducible refine gS ?_); apply Es_q) | ((with_reducible refine gD ?_); apply Ed_q)); rfl; (first | rfl | (refine w_tt ?_; assumption)); (first | refine LStep_simp (T := Try.tab) rfl rfl | (refine LStep_add rfl rfl rfl rfl ?_; (refine IntWalk.i64_in _ ?_; first | omega | (simp only [cmps] at *; omega))) | (refine LStep_sub rfl rfl rfl rfl ?_; (refine IntWalk.i64_in _ ?_; first | omega | (simp only [cmps] at *; omega))) | (refine LStep_pickF rfl rfl ?_ rfl rfl; assumption) | (refine LStep_indexM (T := Try.tab) (c := ?_) rfl rfl rfl rfl rfl rfl ?_; rotate_left; assumption))) | ((first | refine Es_skip rfl ?_ rfl ?_ | refine Ed_skip rfl ?_ rfl ?_); (first | rfl | (refine w_tf ?_; assumption) | (refine w_ft ?_; assumption))) | ((first | ((with_reducible refine gS ?_); apply Es_xs) | ((with_reducible refine gD ?_); apply Ed_xs)); rfl; (first | rfl | (refine w_tt ?_; assumption)); refine LStep_allocN (T := Try.tab) rfl rfl rfl rfl rfl rfl; rfl) | ((first | ((with_reducible refine gS ?_); apply Es_xn) | ((with_reducible refine gD ?_); apply Ed_xn)); rfl; rfl; (refine LStep_storeN (T := Try.tab) rfl rfl rfl rfl rfl rfl rfl ?_ rfl; (refine Nat.le_of_ble_eq_true ?_; rfl)); rfl) | (refine Ed_split rfl ?_ (fun _ => ?_) (fun _ => ?_); ((fail_if_success (refine und_t ?_; assumption)); (fail_if_success (refine und_f ?_; assumption)); exact trivial)) | (with_reducible refine Es_nil ?_) | ((with_reducible refine Ed_nil ?_ ?_); kernel_rfl) | (with_reducible refine then_n ?_) | (with_reducible refine block_n ?_))
            all_goals simp only [cmps] at *
            all_goals first
              | (exfalso; omega)
              | (refine ⟨0 + 1, ?_, by omega, by (repeat' (first | exact trivial | exact rfl | (refine ⟨Or.inl rfl, ?_⟩) | (refine ⟨Or.inr rfl, ?_⟩) | (refine ⟨rfl, ?_⟩) | (refine ⟨?_, ?_⟩))), by (repeat' (first | exact trivial | exact rfl | (refine ⟨Or.inl rfl, ?_⟩) | (refine ⟨Or.inr rfl, ?_⟩) | (refine ⟨rfl, ?_⟩) | (refine ⟨?_, ?_⟩))), by (repeat' (first | exact trivial | exact rfl | (refine ⟨Or.inl rfl, ?_⟩) | (refine ⟨Or.inr rfl, ?_⟩) | (refine ⟨rfl, ?_⟩) | (refine ⟨?_, ?_⟩))), by (repeat' (first | exact trivial | exact rfl | (refine ⟨Or.inl rfl, ?_⟩) | (refine ⟨Or.inr rfl, ?_⟩) | (refine ⟨rfl, ?_⟩) | (refine ⟨?_, ?_⟩)))⟩; omega)
          · obtain ⟨y, hy, _⟩ := drop_at (show k - 1 < M.length by omega)
            have hy' : (M.map Post.enc)[(((k : Nat) : Int) - 1).toNat]? = some y.enc := by rw [List.getElem?_map, show (((k : Nat) : Int) - 1).toNat = k - 1 by omega, hy]; rfl
            have hxy : y.number < x.number := by
              obtain ⟨hx1, hx2⟩ := List.getElem?_eq_some_iff.1 hx
              obtain ⟨hy1, hy2⟩ := List.getElem?_eq_some_iff.1 hy
              have := List.pairwise_iff_getElem.1 lt (k - 1) k hy1 hx1 (by omega)
              rw [hx2, hy2] at this
              exact this
            repeat' (first | ((with_reducible refine gA ?_); (first | refine AW_seq ?_ | refine AW_region ?_ | refine AW_regionD Try.mixed ?_ | refine AW_condF rfl ?_ | (refine AW_cond rfl (fun hc => ?_) (fun hc => ?_) <;> try (exfalso; simp only [cmpL] at hc; omega)) | refine AW_block ?_ | refine AW_skip ?_)) | (first | ((with_reducible refine gS ?_); refine Es_s (T := Try.tab) rfl rfl rfl rfl ?_) | ((with_reducible refine gD ?_); refine Ed_s (T := Try.tab) rfl rfl rfl rfl ?_)) | ((first | ((with_reducible refine gS ?_); apply Es_q) | ((with_reducible refine gD ?_); apply Ed_q)); rfl; (first | rfl | (refine w_tt ?_; assumption)); (first | refine LStep_simp (T := Try.tab) rfl rfl | (refine LStep_add rfl rfl rfl rfl ?_; (refine IntWalk.i64_in _ ?_; first | omega | (simp only [cmps] at *; omega))) | (refine LStep_sub rfl rfl rfl rfl ?_; (refine IntWalk.i64_in _ ?_; first | omega | (simp only [cmps] at *; omega))) | (refine LStep_pickT rfl rfl ?_ rfl rfl; assumption) | (refine LStep_pickF rfl rfl ?_ rfl rfl; assumption) | (refine LStep_indexM (T := Try.tab) (c := ?_) rfl rfl rfl rfl rfl rfl ?_; rotate_left; assumption) | (refine LStep_index (T := Try.tab) (c := ?_) rfl rfl rfl rfl rfl rfl ?_ ?_; rotate_left; omega; (first | assumption | rfl)))) | ((first | refine Es_skip rfl ?_ rfl ?_ | refine Ed_skip rfl ?_ rfl ?_); (first | rfl | (refine w_tf ?_; assumption) | (refine w_ft ?_; assumption))) | ((first | ((with_reducible refine gS ?_); apply Es_xs) | ((with_reducible refine gD ?_); apply Ed_xs)); rfl; rfl; refine LStep_allocN (T := Try.tab) rfl rfl rfl rfl rfl rfl; rfl) | ((first | ((with_reducible refine gS ?_); apply Es_xn) | ((with_reducible refine gD ?_); apply Ed_xn)); rfl; rfl; (refine LStep_storeN (T := Try.tab) rfl rfl rfl rfl rfl rfl rfl ?_ rfl; (refine Nat.le_of_ble_eq_true ?_; rfl)); rfl) | (refine Ed_split rfl ?_ (fun _ => ?_) (fun _ => ?_); ((fail_if_success (refine und_t ?_; assumption)); (fail_if_success (refine und_f ?_; assumption)); exact trivial)) | (with_reducible refine Es_nil ?_) | ((with_reducible refine Ed_nil ?_ ?_); kernel_rfl) | (with_reducible refine then_n ?_) | (with_reducible refine block_n ?_))
            all_goals simp only [cmps] at *
            all_goals first
              | (exfalso; omega)
              | (refine ⟨k + 1, ?_, by omega, by (repeat' (first | exact trivial | exact rfl | (refine ⟨Or.inl rfl, ?_⟩) | (refine ⟨Or.inr rfl, ?_⟩) | (refine ⟨rfl, ?_⟩) | (refine ⟨?_, ?_⟩))), by (repeat' (first | exact trivial | exact rfl | (refine ⟨Or.inl rfl, ?_⟩) | (refine ⟨Or.inr rfl, ?_⟩) | (refine ⟨rfl, ?_⟩) | (refine ⟨?_, ?_⟩))), by (repeat' (first | exact trivial | exact rfl | (refine ⟨Or.inl rfl, ?_⟩) | (refine ⟨Or.inr rfl, ?_⟩) | (refine ⟨rfl, ?_⟩) | (refine ⟨?_, ?_⟩))), by (repeat' (first | exact trivial | exact rfl | (refine ⟨Or.inl rfl, ?_⟩) | (refine ⟨Or.inr rfl, ?_⟩) | (refine ⟨rfl, ?_⟩) | (refine ⟨?_, ?_⟩)))⟩; omega)
        · have : k = M.length := by omega
          subst this
          repeat' (first | ((with_reducible refine gA ?_); (first | refine AW_seq ?_ | refine AW_region ?_ | (refine AW_cond rfl (fun hc => ?_) (fun hc => ?_) <;> try (exfalso; simp only [cmpL] at hc; omega)) | refine AW_ret ?_ | refine AW_exit ?_)) | ((with_reducible refine gS ?_); refine Es_s (T := Try.tab) rfl rfl rfl rfl ?_) | (with_reducible refine Es_nil ?_) | (with_reducible refine then_n ?_) | (with_reducible refine then_e ?_) | ((with_reducible refine block_e ?_ ?_); rfl) | ((with_reducible refine gR ?_); first | refine ret1 rfl ?_ | refine ret2 rfl rfl ?_ | refine ret0 ?_ | refine end1 rfl ?_ | refine end0 ?_))
          rfl
      · unfold mendR at c1
        rw [if_neg hu] at c1
        unfold diffR at d1
        have hl : (sortI (unlikeN a b)).length ≠ 0 := by rw [sortI_len]; exact fun e => hu (List.eq_nil_of_length_eq_zero e)
        generalize sortI (unlikeN a b) = us at d1 hl
        refine AC_enter Try.func5 rfl Try.ntmps5 (rv := [.tmp 4]) rfl rfl (by simp) (fun w X G => ?_)
        repeat' (first | ((with_reducible refine gA ?_); (first | refine AW_seq ?_ | refine AW_region ?_ | refine AW_condF rfl ?_ | (refine AW_cond rfl (fun hc => ?_) (fun hc => ?_) <;> try (exfalso; simp only [cmpL] at hc; omega)) | refine AW_ret ?_ | refine AW_skip ?_)) | ((with_reducible refine gS ?_); refine Es_s (T := Try.tab) rfl rfl rfl rfl ?_) | (((with_reducible refine gS ?_); apply Es_q); rfl; (first | rfl | (refine w_tt ?_; assumption)); (first | refine LStep_call (awake_ac) rfl rfl rfl rfl | refine LStep_call (ca) rfl rfl rfl rfl | refine LStep_call (cb) rfl rfl rfl rfl | refine LStep_call (c1) rfl rfl rfl rfl | refine LStep_call (d1) rfl rfl rfl rfl)) | (((with_reducible refine gS ?_); apply Es_q); rfl; (first | rfl | (refine w_tt ?_; assumption)); (first | refine LStep_simp (T := Try.tab) rfl rfl | refine LStep_lenM (T := Try.tab) rfl rfl rfl rfl | refine LStep_wrap (T := Try.tab) rfl rfl | (refine LStep_pickT rfl rfl ?_ rfl rfl; assumption) | (refine LStep_pickF rfl rfl ?_ rfl rfl; assumption))) | (refine Es_skip rfl ?_ rfl ?_; (first | rfl | (refine w_tf ?_; assumption) | (refine w_ft ?_; assumption))) | (refine Es_split rfl ?_ (fun _ => ?_) (fun _ => ?_); ((fail_if_success (refine und_t ?_; assumption)); (fail_if_success (refine und_f ?_; assumption)); exact trivial)) | (with_reducible refine Es_nil ?_) | (with_reducible refine then_n ?_) | (with_reducible refine then_r ?_) | ((with_reducible refine gR ?_); first | refine ret1 rfl ?_ | refine ret2 rfl rfl ?_ | refine ret0 ?_ | refine end1 rfl ?_ | refine end0 ?_))
        all_goals simp only [cmps] at *
        all_goals first
          | rfl
          | (exfalso; omega)
          | (refine congrArg (fun b => AV.d (D.sc (Value.bool b))) ?_; rw [ltb_t]; omega)
          | (exfalso; simp_all; done)
end Go.Proofs.Ytfgmnhlopgaanaa
