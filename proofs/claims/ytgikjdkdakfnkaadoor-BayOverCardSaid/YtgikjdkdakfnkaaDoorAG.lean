import Derived.Test.YtgikjdkdakfnkaaDoorAF
namespace Go.Proofs.YtgikjdkdakfnkaaDoor
open Go.SL
/-! ### the document's Without, Put -/
theorem erase_snoc (l : List Load) (y : Load) (i : Nat) : (l ++ [y]).eraseIdx i = if l.length = i then l.eraseIdx i else l.eraseIdx i ++ [y] := by
  by_cases h : l.length = i
  · rw [if_pos h, List.eraseIdx_append_of_length_le (by omega), List.eraseIdx_of_length_le (show l.length ≤ i by omega), show i - l.length = 0 by omega]
    simp
  · rw [if_neg h]
    by_cases h1 : i < l.length
    · rw [List.eraseIdx_append_of_lt_length h1]
    · rw [List.eraseIdx_of_length_le (by simp; omega), List.eraseIdx_of_length_le (show l.length ≤ i by omega)]
theorem erase_len (l : List Load) (i : Nat) : (l.eraseIdx i).length ≤ l.length := (List.eraseIdx_sublist l i).length_le
set_option maxRecDepth 10000 in
set_option maxHeartbeats 2000000 in
theorem rWithout_ac (M : List Load) (i : Nat) (hM : M.length ≤ 1048576) : AC Tryd.prog 38 [.d (.sl 7 (M.map Load.enc)), .d (.sc (.int .i64 (i : Nat)))] [] [] (fun r _ => r = .d (.sl 7 ((M.eraseIdx i).map Load.enc))) := by
  refine AC_enter Tryd.func38 rfl Tryd.ntmps38 (rv := [.tmp 4]) rfl rfl (by simp) (fun w X G => ?_)
  repeat' (first | ((with_reducible refine gA ?_); (first | refine AW_seq ?_ | refine AW_region ?_ | refine AW_block ?_)) | ((with_reducible refine gS ?_); refine Es_s (T := Tryd.tab) rfl rfl rfl rfl ?_) | (((with_reducible refine gS ?_); apply Es_xs); rfl; rfl; (refine LStep_litOwn (T := Tryd.tab) (len := 0) rfl rfl rfl rfl rfl rfl rfl rfl rfl rfl ?_ ?_; (refine Nat.le_of_ble_eq_true ?_; rfl); (unfold maxLen; omega)); rfl) | (with_reducible refine Es_nil ?_) | (with_reducible refine then_n ?_))
  refine AW_forE (S := Nat) (fun k => k ≤ M.length) (fun k => [(6, .d (.sc (.int .i64 (k : Nat)))), (5, .own 7 (((M.take k).eraseIdx i).map Load.enc).length)]) (fun k => [(7, some (.arr 38 7 (((M.take k).eraseIdx i).map Load.enc)))]) (fun k => M.length - k) 0 (by omega) (by rw [List.take_zero, List.eraseIdx_nil]; (repeat' (first | exact trivial | exact rfl | (refine ⟨Or.inl rfl, ?_⟩) | (refine ⟨Or.inr rfl, ?_⟩) | (refine ⟨Or.inr trivial, ?_⟩) | (refine ⟨rfl, ?_⟩) | (refine ⟨?_, ?_⟩)))) (by rw [List.take_zero, List.eraseIdx_nil]; (repeat' (first | exact trivial | exact rfl | (refine ⟨Or.inl rfl, ?_⟩) | (refine ⟨Or.inr rfl, ?_⟩) | (refine ⟨Or.inr trivial, ?_⟩) | (refine ⟨rfl, ?_⟩) | (refine ⟨?_, ?_⟩)))) ?_
  intro k hk
  by_cases hlt : k < M.length
  · obtain ⟨x, hx, _⟩ := drop_at hlt
    have hl : (M.take k).length = k := by rw [List.length_take]; omega
    have ht : (M.take (k + 1)).eraseIdx i = if k = i then (M.take k).eraseIdx i else (M.take k).eraseIdx i ++ [x] := by rw [take_at hx, erase_snoc, hl]
    have h1 := erase_len (M.take k) i
    rw [hl] at h1
    generalize (M.take k).eraseIdx i = o at ht h1
    repeat' (first | ((with_reducible refine gA ?_); (first | refine AW_seq ?_ | refine AW_region ?_ | (refine AW_cond rfl (fun hc => ?_) (fun hc => ?_) <;> try (exfalso; simp only [cmpL] at hc; omega)) | refine AW_block ?_ | refine AW_skip ?_)) | ((with_reducible refine gS ?_); refine Es_s (T := Tryd.tab) rfl rfl rfl rfl ?_) | (((with_reducible refine gS ?_); apply Es_xs); rfl; rfl; (refine LStep_append (T := Tryd.tab) rfl rfl rfl rfl rfl rfl rfl rfl rfl rfl ?_ ?_ ?_; rfl; (rw [List.length_map]; simp only [List.length_cons, List.length_nil]; omega); (unfold maxLen; rw [List.length_map]; simp only [List.length_cons, List.length_nil]; omega)); rfl) | (((with_reducible refine gS ?_); apply Es_q); rfl; rfl; (first | refine LStep_lenM (T := Tryd.tab) rfl rfl rfl rfl | (refine LStep_add rfl rfl rfl rfl ?_; (refine IntWalk.i64_in _ ?_; first | omega | (simp only [cmps] at *; omega))) | (refine LStep_indexM (T := Tryd.tab) (c := ?_) rfl rfl rfl rfl rfl rfl ?_; rotate_left; assumption) | (refine LStep_lit (T := Tryd.tab) rfl rfl rfl rfl rfl rfl rfl rfl ?_; (refine Nat.le_of_ble_eq_true ?_; rfl)))) | (with_reducible refine Es_nil ?_) | (with_reducible refine then_n ?_) | (with_reducible refine block_n ?_))
    all_goals simp only [cmps] at *
    all_goals first
      | (have hki : k = i := by omega
         refine ⟨k + 1, by omega, by omega, ?_, by (repeat' (first | exact trivial | exact rfl | (refine ⟨Or.inl rfl, ?_⟩) | (refine ⟨Or.inr rfl, ?_⟩) | (refine ⟨Or.inr trivial, ?_⟩) | (refine ⟨rfl, ?_⟩) | (refine ⟨?_, ?_⟩))), ?_, by (repeat' (first | exact trivial | exact rfl | (refine ⟨Or.inl rfl, ?_⟩) | (refine ⟨Or.inr rfl, ?_⟩) | (refine ⟨Or.inr trivial, ?_⟩) | (refine ⟨rfl, ?_⟩) | (refine ⟨?_, ?_⟩)))⟩
         · rw [ht, if_pos hki]; (repeat' (first | exact trivial | exact rfl | (refine ⟨Or.inl rfl, ?_⟩) | (refine ⟨Or.inr rfl, ?_⟩) | (refine ⟨Or.inr trivial, ?_⟩) | (refine ⟨rfl, ?_⟩) | (refine ⟨?_, ?_⟩)))
         · rw [ht, if_pos hki]; exact ⟨rfl, trivial⟩)
      | (have hki : ¬ k = i := by omega
         refine ⟨k + 1, by omega, by omega, ?_, by (repeat' (first | exact trivial | exact rfl | (refine ⟨Or.inl rfl, ?_⟩) | (refine ⟨Or.inr rfl, ?_⟩) | (refine ⟨Or.inr trivial, ?_⟩) | (refine ⟨rfl, ?_⟩) | (refine ⟨?_, ?_⟩))), ?_, by (repeat' (first | exact trivial | exact rfl | (refine ⟨Or.inl rfl, ?_⟩) | (refine ⟨Or.inr rfl, ?_⟩) | (refine ⟨Or.inr trivial, ?_⟩) | (refine ⟨rfl, ?_⟩) | (refine ⟨?_, ?_⟩)))⟩
         · rw [ht, if_neg hki, List.map_append]; (repeat' (first | exact trivial | exact rfl | (refine ⟨Or.inl rfl, ?_⟩) | (refine ⟨Or.inr rfl, ?_⟩) | (refine ⟨Or.inr trivial, ?_⟩) | (refine ⟨rfl, ?_⟩) | (refine ⟨?_, ?_⟩)))
         · rw [ht, if_neg hki, List.map_append]; exact ⟨rfl, trivial⟩)
      | trace_state
  · have : k = M.length := by omega
    subst this
    rw [List.take_length]
    refine AW_freeze [5] (id := 7) ⟨rfl, trivial⟩ rfl rfl ?_
    repeat' (first | ((with_reducible refine gA ?_); (first | refine AW_seq ?_ | refine AW_region ?_ | (refine AW_cond rfl (fun hc => ?_) (fun hc => ?_) <;> try (exfalso; simp only [cmpL] at hc; omega)) | refine AW_ret ?_ | refine AW_exit ?_)) | ((with_reducible refine gS ?_); refine Es_s (T := Tryd.tab) rfl rfl rfl rfl ?_) | (((with_reducible refine gS ?_); apply Es_q); rfl; rfl; refine LStep_lenM (T := Tryd.tab) rfl rfl rfl rfl) | (with_reducible refine Es_nil ?_) | (with_reducible refine then_n ?_) | (with_reducible refine then_e ?_) | ((with_reducible refine block_e ?_ ?_); rfl) | ((with_reducible refine gR ?_); first | refine ret1 rfl ?_ | refine ret2 rfl rfl ?_ | refine ret0 ?_ | refine end1 rfl ?_ | refine end0 ?_))
    all_goals first
      | rfl
      | trace_state
def outP (x : Load) (l : List Load) : List Load := if (l.any fun y => dless x.sl y.sl) = true then insD x l else l
theorem outP_len (x : Load) (l : List Load) : (outP x l).length ≤ l.length + 1 := by
  unfold outP
  split
  · rw [(insD_perm x l).length_eq]; simp
  · omega
set_option maxRecDepth 10000 in
set_option maxHeartbeats 4000000 in
theorem rPut_ac (M : List Load) (x : Load) (hM : M.length ≤ 1048576) : AC Tryd.prog 36 [.d (.sl 7 (M.map Load.enc)), .agg x.cs2] [] [] (fun r _ => r = .d (.sl 7 ((insD x M).map Load.enc))) := by
  refine AC_enter Tryd.func36 rfl Tryd.ntmps36 (rv := [.tmp 4]) rfl rfl (by simp) (fun w X G => ?_)
  repeat' (first | ((with_reducible refine gA ?_); (first | refine AW_seq ?_ | refine AW_region ?_ | refine AW_block ?_)) | ((with_reducible refine gS ?_); refine Es_s (T := Tryd.tab) rfl rfl rfl rfl ?_) | (((with_reducible refine gS ?_); apply Es_xs); rfl; rfl; (refine LStep_litOwn (T := Tryd.tab) (len := 0) rfl rfl rfl rfl rfl rfl rfl rfl rfl rfl ?_ ?_; (refine Nat.le_of_ble_eq_true ?_; rfl); (unfold maxLen; omega)); rfl) | (refine Es_skip rfl ?_ rfl ?_; (first | rfl | (refine w_tf ?_; assumption) | (refine w_ft ?_; assumption))) | (((with_reducible refine gS ?_); apply Es_xs); rfl; rfl; refine LStep_boxN rfl rfl rfl rfl rfl rfl; rfl) | (with_reducible refine Es_nil ?_) | (with_reducible refine then_n ?_))
  refine AW_forE (S := Nat) (fun k => k ≤ M.length) (fun k => [(7, .d (.sc (.int .i64 (k : Nat)))), (6, .d (.sc (.bool ((M.take k).any fun y => dless x.sl y.sl)))), (5, .own 8 ((outP x (M.take k)).map Load.enc).length)]) (fun k => [(8, some (.arr 38 7 ((outP x (M.take k)).map Load.enc)))]) (fun k => M.length - k) 0 (by omega) (by rw [List.take_zero]; (repeat' (first | exact trivial | exact rfl | (refine ⟨Or.inl rfl, ?_⟩) | (refine ⟨Or.inr rfl, ?_⟩) | (refine ⟨Or.inr trivial, ?_⟩) | (refine ⟨rfl, ?_⟩) | (refine ⟨?_, ?_⟩)))) (by rw [List.take_zero]; exact ⟨rfl, trivial⟩) ?_
  intro k hk
  by_cases hlt : k < M.length
  · obtain ⟨y, hy, _⟩ := drop_at hlt
    have hl : (M.take k).length = k := by rw [List.length_take]; omega
    have h1 := outP_len x (M.take k)
    rw [hl] at h1
    have t2 : ((M.take (k + 1)).any fun y => dless x.sl y.sl) = (((M.take k).any fun y => dless x.sl y.sl) || dless x.sl y.sl) := by rw [take_at hy, List.any_append]; simp
    have ta : ((M.take k).any fun y => dless x.sl y.sl) = true → outP x (M.take (k + 1)) = outP x (M.take k) ++ [y] := by
      intro h
      obtain ⟨z, hz, hz2⟩ := List.any_eq_true.1 h
      unfold outP
      rw [t2, h, if_pos rfl, if_pos (Bool.true_or _), take_at hy, insD_more ⟨z, hz, hz2⟩]
    have tb : ((M.take k).any fun y => dless x.sl y.sl) = false → dless x.sl y.sl = true → outP x (M.take (k + 1)) = outP x (M.take k) ++ [x] ++ [y] := by
      intro h h2
      unfold outP
      rw [t2, h, h2]
      simp only [Bool.false_or, if_true, Bool.false_eq_true, if_false]
      rw [take_at hy, insD_snoc (fun z hz => by have := List.any_eq_false.1 h z hz; simpa using this), if_pos h2, List.append_assoc]
      rfl
    have tc : ((M.take k).any fun y => dless x.sl y.sl) = false → dless x.sl y.sl = false → outP x (M.take (k + 1)) = outP x (M.take k) ++ [y] := by
      intro h h2
      unfold outP
      rw [t2, h, h2, if_neg (by decide), if_neg (by decide), take_at hy]
    have cl := rLess_ac x.sl y.sl
    generalize outP x (M.take k) = o at ta tb tc h1
    generalize ((M.take k).any fun y => dless x.sl y.sl) = lv at t2 ta tb tc
    repeat' (first | ((with_reducible refine gA ?_); (first | refine AW_seq ?_ | refine AW_region ?_ | refine AW_regionD Tryd.mixed ?_ | refine AW_condF rfl ?_ | (refine AW_cond rfl (fun hc => ?_) (fun hc => ?_) <;> try (exfalso; simp only [cmpL] at hc; omega)) | refine AW_block ?_ | refine AW_skip ?_)) | (first | ((with_reducible refine gS ?_); refine Es_s (T := Tryd.tab) rfl rfl rfl rfl ?_) | ((with_reducible refine gD ?_); refine Ed_s (T := Tryd.tab) rfl rfl rfl rfl ?_)) | ((first | ((with_reducible refine gS ?_); apply Es_q) | ((with_reducible refine gD ?_); apply Ed_q)); rfl; (first | rfl | (refine w_tt ?_; assumption)); refine LStep_call (cl) rfl rfl rfl rfl) | ((first | ((with_reducible refine gS ?_); apply Es_xs) | ((with_reducible refine gD ?_); apply Ed_xs)); rfl; (first | rfl | (refine w_tt ?_; assumption)); (refine LStep_append (T := Tryd.tab) rfl rfl rfl rfl rfl rfl rfl rfl rfl rfl ?_ ?_ ?_; rfl; (simp only [List.length_map, List.length_append, List.length_cons, List.length_nil]; omega); (unfold maxLen; simp only [List.length_map, List.length_append, List.length_cons, List.length_nil]; omega)); rfl) | ((first | ((with_reducible refine gS ?_); apply Es_q) | ((with_reducible refine gD ?_); apply Ed_q)); rfl; (first | rfl | (refine w_tt ?_; assumption)); (first | refine LStep_simp (T := Tryd.tab) rfl rfl | refine LStep_lenM (T := Tryd.tab) rfl rfl rfl rfl | (refine LStep_add rfl rfl rfl rfl ?_; (refine IntWalk.i64_in _ ?_; first | omega | (simp only [cmps] at *; omega))) | (refine LStep_pickT rfl rfl ?_ rfl rfl; assumption) | (refine LStep_pickF rfl rfl ?_ rfl rfl; assumption) | (refine LStep_indexM (T := Tryd.tab) (c := ?_) rfl rfl rfl rfl rfl rfl ?_; rotate_left; assumption) | (refine LStep_lit (T := Tryd.tab) rfl rfl rfl rfl rfl rfl rfl rfl ?_; (refine Nat.le_of_ble_eq_true ?_; rfl)))) | (refine Ed_skip rfl ?_ rfl ?_; (first | rfl | (refine w_tf ?_; assumption) | (refine w_ft ?_; assumption))) | (refine Ed_split rfl ?_ (fun _ => ?_) (fun _ => ?_); ((fail_if_success (refine und_t ?_; assumption)); (fail_if_success (refine und_f ?_; assumption)); exact trivial)) | (with_reducible refine Es_nil ?_) | ((with_reducible refine Ed_nil ?_ ?_); kernel_rfl) | (with_reducible refine then_n ?_) | (with_reducible refine block_n ?_))
    all_goals simp only [not_t, not_f] at *
    all_goals first
      | (have e1 : lv = true := by assumption
         refine ⟨k + 1, by omega, by omega, ?_, by (repeat' (first | exact trivial | exact rfl | (refine ⟨Or.inl rfl, ?_⟩) | (refine ⟨Or.inr rfl, ?_⟩) | (refine ⟨Or.inr trivial, ?_⟩) | (refine ⟨rfl, ?_⟩) | (refine ⟨?_, ?_⟩))), ?_, by (repeat' (first | exact trivial | exact rfl | (refine ⟨Or.inl rfl, ?_⟩) | (refine ⟨Or.inr rfl, ?_⟩) | (refine ⟨Or.inr trivial, ?_⟩) | (refine ⟨rfl, ?_⟩) | (refine ⟨?_, ?_⟩)))⟩
         · rw [t2, ta e1, e1, Bool.true_or, List.map_append]; (repeat' (first | exact trivial | exact rfl | (refine ⟨Or.inl rfl, ?_⟩) | (refine ⟨Or.inr rfl, ?_⟩) | (refine ⟨Or.inr trivial, ?_⟩) | (refine ⟨rfl, ?_⟩) | (refine ⟨?_, ?_⟩)))
         · rw [ta e1, List.map_append]; exact ⟨rfl, trivial⟩)
      | (have e1 : lv = false := by assumption
         have e2 : dless x.sl y.sl = true := by assumption
         refine ⟨k + 1, by omega, by omega, ?_, by (repeat' (first | exact trivial | exact rfl | (refine ⟨Or.inl rfl, ?_⟩) | (refine ⟨Or.inr rfl, ?_⟩) | (refine ⟨Or.inr trivial, ?_⟩) | (refine ⟨rfl, ?_⟩) | (refine ⟨?_, ?_⟩))), ?_, by (repeat' (first | exact trivial | exact rfl | (refine ⟨Or.inl rfl, ?_⟩) | (refine ⟨Or.inr rfl, ?_⟩) | (refine ⟨Or.inr trivial, ?_⟩) | (refine ⟨rfl, ?_⟩) | (refine ⟨?_, ?_⟩)))⟩
         · rw [t2, tb e1 e2, e2, Bool.or_true, List.map_append, List.map_append]; (repeat' (first | exact trivial | exact rfl | (refine ⟨Or.inl rfl, ?_⟩) | (refine ⟨Or.inr rfl, ?_⟩) | (refine ⟨Or.inr trivial, ?_⟩) | (refine ⟨rfl, ?_⟩) | (refine ⟨?_, ?_⟩)))
         · rw [tb e1 e2, List.map_append, List.map_append]; exact ⟨rfl, trivial⟩)
      | (have e1 : lv = false := by assumption
         have e2 : dless x.sl y.sl = false := by assumption
         refine ⟨k + 1, by omega, by omega, ?_, by (repeat' (first | exact trivial | exact rfl | (refine ⟨Or.inl rfl, ?_⟩) | (refine ⟨Or.inr rfl, ?_⟩) | (refine ⟨Or.inr trivial, ?_⟩) | (refine ⟨rfl, ?_⟩) | (refine ⟨?_, ?_⟩))), ?_, by (repeat' (first | exact trivial | exact rfl | (refine ⟨Or.inl rfl, ?_⟩) | (refine ⟨Or.inr rfl, ?_⟩) | (refine ⟨Or.inr trivial, ?_⟩) | (refine ⟨rfl, ?_⟩) | (refine ⟨?_, ?_⟩)))⟩
         · rw [t2, tc e1 e2, e1, e2, Bool.or_false, List.map_append]; (repeat' (first | exact trivial | exact rfl | (refine ⟨Or.inl rfl, ?_⟩) | (refine ⟨Or.inr rfl, ?_⟩) | (refine ⟨Or.inr trivial, ?_⟩) | (refine ⟨rfl, ?_⟩) | (refine ⟨?_, ?_⟩)))
         · rw [tc e1 e2, List.map_append]; exact ⟨rfl, trivial⟩)
      | trace_state
  · have : k = M.length := by omega
    subst this
    rw [List.take_length]
    have h1 := outP_len x M
    have ta : (M.any fun y => dless x.sl y.sl) = true → insD x M = outP x M := fun h => by unfold outP; rw [if_pos h]
    have tb : (M.any fun y => dless x.sl y.sl) = false → insD x M = outP x M ++ [x] := fun h => by
      unfold outP
      rw [h, if_neg (by decide), insD_none (fun z hz => by have := List.any_eq_false.1 h z hz; simpa using this)]
    generalize outP x M = o at ta tb h1
    generalize (M.any fun y => dless x.sl y.sl) = lv at ta tb
    cases lv with
    | true =>
      rw [ta rfl]
      refine AW_freeze [5] (id := 8) ⟨rfl, trivial⟩ rfl rfl ?_
      repeat' (first | ((with_reducible refine gA ?_); (first | refine AW_seq ?_ | refine AW_region ?_ | refine AW_condF rfl ?_ | (refine AW_cond rfl (fun hc => ?_) (fun hc => ?_) <;> try (exfalso; simp only [cmpL] at hc; omega)) | refine AW_ret ?_ | refine AW_skip ?_ | refine AW_exit ?_)) | ((with_reducible refine gS ?_); refine Es_s (T := Tryd.tab) rfl rfl rfl rfl ?_) | (((with_reducible refine gS ?_); apply Es_q); rfl; rfl; refine LStep_lenM (T := Tryd.tab) rfl rfl rfl rfl) | (with_reducible refine Es_nil ?_) | (with_reducible refine then_n ?_) | (with_reducible refine then_e ?_) | ((with_reducible refine block_e ?_ ?_); rfl) | ((with_reducible refine gR ?_); first | refine ret1 rfl ?_ | refine ret2 rfl rfl ?_ | refine ret0 ?_ | refine end1 rfl ?_ | refine end0 ?_))
      all_goals first
        | rfl
        | trace_state
    | false =>
      rw [tb rfl]
      repeat' (first | ((with_reducible refine gA ?_); refine AW_freeze [5] (id := 8) ⟨rfl, trivial⟩ (show hget _ 8 = some (AObj.arr _ _ (o.map Load.enc ++ _)) from rfl) rfl ?_) | ((with_reducible refine gA ?_); (first | refine AW_seq ?_ | refine AW_region ?_ | refine AW_condT rfl ?_ | (refine AW_cond rfl (fun hc => ?_) (fun hc => ?_) <;> try (exfalso; simp only [cmpL] at hc; omega)) | refine AW_ret ?_ | refine AW_exit ?_)) | ((with_reducible refine gS ?_); refine Es_s (T := Tryd.tab) rfl rfl rfl rfl ?_) | (((with_reducible refine gS ?_); apply Es_xs); rfl; rfl; (refine LStep_append (T := Tryd.tab) rfl rfl rfl rfl rfl rfl rfl rfl rfl rfl ?_ ?_ ?_; rfl; (simp only [List.length_map, List.length_cons, List.length_nil]; omega); (unfold maxLen; simp only [List.length_map, List.length_cons, List.length_nil]; omega)); rfl) | (((with_reducible refine gS ?_); apply Es_q); rfl; rfl; (first | refine LStep_lenM (T := Tryd.tab) rfl rfl rfl rfl | (refine LStep_lit (T := Tryd.tab) rfl rfl rfl rfl rfl rfl rfl rfl ?_; (refine Nat.le_of_ble_eq_true ?_; rfl)))) | (with_reducible refine Es_nil ?_) | (with_reducible refine then_n ?_) | (with_reducible refine then_e ?_) | ((with_reducible refine block_e ?_ ?_); rfl) | ((with_reducible refine gR ?_); first | refine ret1 rfl ?_ | refine ret2 rfl rfl ?_ | refine ret0 ?_ | refine end1 rfl ?_ | refine end0 ?_))
      all_goals first
        | (rw [List.map_append]; rfl)
        | trace_state
end Go.Proofs.YtgikjdkdakfnkaaDoor
