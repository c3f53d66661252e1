import Derived.Test.YtgikjdkdakfnkaaDoorAH
namespace Go.Proofs.YtgikjdkdakfnkaaDoor
open Go.SL
/-! ### the document's Wrong -/
set_option maxRecDepth 10000 in
set_option maxHeartbeats 4000000 in
theorem rWrong_ac (S : Ship) (M : List Load) (x : Load) (hS : shipOk S = true) (hM : M.length ≤ 1048576) (n1 : (M.map (·.sl)).Nodup) (n2 : (M.map (·.box)).Nodup) (hw : ∀ y ∈ M, 0 ≤ y.w ∧ y.w ≤ 1048576) (hs : ∀ y ∈ M, (-1048576 ≤ y.sl.b ∧ y.sl.b ≤ 1048576) ∧ (-1048576 ≤ y.sl.r ∧ y.sl.r ≤ 1048576)) (hb : x.box.size ≤ 9007199254740992) :
    AC Tryd.prog 35 [.agg S.cs, .d (.sl 7 (M.map Load.enc)), .agg x.cs2] [] [] (fun r _ => r = .d (.sc (.int .i64 (putE S M x)))) := by
  have fin : ∀ {k : Int}, putE S M x = k → AV.d (.sc (.int .i64 k)) = .d (.sc (.int .i64 (putE S M x))) := fun h => by rw [h]
  have hS' : (0 ≤ S.bays ∧ S.bays ≤ 32) ∧ (0 ≤ S.rows ∧ S.rows ≤ 32) ∧ (0 ≤ S.tiers ∧ S.tiers ≤ 32) := by
    simp only [shipOk, Bool.and_eq_true, frB_t] at hS
    omega
  have c1 := right_ac x hb
  have c2 := rFind_ac M x.box hM
  have c3 := on_ac S x.sl (by omega)
  have c4 := rAt_ac M x.sl hM
  cases e1 : mayL x with
  | false =>
    rw [e1] at c1
    refine AC_enter Tryd.func35 rfl Tryd.ntmps35 (rv := [.tmp 6]) rfl rfl (by simp) (fun w X G => ?_)
    repeat' (first | ((with_reducible refine gA ?_); (first | refine AW_seq ?_ | refine AW_region ?_ | refine AW_condT rfl ?_ | refine AW_ret ?_)) | ((with_reducible refine gS ?_); refine Es_s (T := Tryd.tab) rfl rfl rfl rfl ?_) | (((with_reducible refine gS ?_); apply Es_q); rfl; rfl; refine LStep_call (c1) rfl rfl rfl rfl) | (refine Es_skip rfl ?_ rfl ?_; (first | rfl | (refine w_tf ?_; assumption) | (refine w_ft ?_; assumption))) | (((with_reducible refine gS ?_); apply Es_xs); rfl; rfl; refine LStep_boxN rfl rfl rfl rfl rfl rfl; rfl) | (with_reducible refine Es_nil ?_) | (with_reducible refine then_n ?_) | (with_reducible refine then_r ?_) | ((with_reducible refine gR ?_); first | refine ret1 rfl ?_ | refine ret2 rfl rfl ?_ | refine ret0 ?_ | refine end1 rfl ?_ | refine end0 ?_))
    all_goals first
      | (refine fin ?_; unfold putE; simp [e1]; done)
      | trace_state
  | true =>
  rw [e1] at c1
  rcases by_place n2 x.box with ⟨g1, g2⟩ | ⟨j, y, _, g1, g2⟩
  · rw [g2] at c2
    cases e3 : onB S x.sl with
    | false =>
      rw [e3] at c3
      refine AC_enter Tryd.func35 rfl Tryd.ntmps35 (rv := [.tmp 6]) rfl rfl (by simp) (fun w X G => ?_)
      repeat' (first | ((with_reducible refine gA ?_); (first | refine AW_seq ?_ | refine AW_region ?_ | refine AW_condT rfl ?_ | refine AW_condF rfl ?_ | (refine AW_cond rfl (fun hc => ?_) (fun hc => ?_) <;> try (exfalso; simp only [cmpL] at hc; omega)) | refine AW_ret ?_ | refine AW_skip ?_)) | ((with_reducible refine gS ?_); refine Es_s (T := Tryd.tab) rfl rfl rfl rfl ?_) | (((with_reducible refine gS ?_); apply Es_q); rfl; rfl; (first | refine LStep_call (c1) rfl rfl rfl rfl | refine LStep_call (c2) rfl rfl rfl rfl | refine LStep_call (c3) rfl rfl rfl rfl)) | (refine Es_skip rfl ?_ rfl ?_; (first | rfl | (refine w_tf ?_; assumption) | (refine w_ft ?_; assumption))) | (((with_reducible refine gS ?_); apply Es_xs); rfl; rfl; refine LStep_boxN rfl rfl rfl rfl rfl rfl; rfl) | (with_reducible refine Es_nil ?_) | (with_reducible refine then_n ?_) | (with_reducible refine then_r ?_) | ((with_reducible refine gR ?_); first | refine ret1 rfl ?_ | refine ret2 rfl rfl ?_ | refine ret0 ?_ | refine end1 rfl ?_ | refine end0 ?_))
      all_goals first
        | (refine fin ?_; unfold putE; simp [e1, g1, e3]; done)
        | trace_state
    | true =>
    rw [e3] at c3
    have ho := e3
    simp only [onB, Bool.and_eq_true, frB_t] at ho
    rcases at_place n1 x.sl with ⟨k1, k2⟩ | ⟨j, y, _, k1, k2⟩
    · rw [k2] at c4
      have c6 := rStack_ac M x.sl.b x.sl.r hM hw
      have c7 := rWeight_ac M hM hw
      have c8 := rClash_ac M x hM hs (by omega)
      have hx := e1
      simp only [mayL, Bool.and_eq_true, frB_t] at hx
      have b6 : 0 ≤ stW M x.sl.b x.sl.r ∧ stW M x.sl.b x.sl.r ≤ 1099511627776 := by
        have := take_in (f := fun y => if inSt x.sl.b x.sl.r y = true then y.w else 0) hM (fun y hy => by have := hw y hy; split <;> omega) M.length
        rw [List.take_length] at this
        exact this
      have b7 : 0 ≤ wsum M ∧ wsum M ≤ 1099511627776 := by
        have := take_in (f := fun y => y.w) hM hw M.length
        rw [List.take_length] at this
        exact this
      have c5 := rAt_ac M ⟨x.sl.b, x.sl.r, x.sl.t - 1⟩ hM
      have hp : putE S M x = if unb M x = true then 6 else if S.stack < stW M x.sl.b x.sl.r + x.w ∨ S.most < wsum M + x.w then 7 else if clashD M x = true then 12 else 0 := by
        unfold putE
        simp only [e1, g1, e3, k1, Bool.true_eq_false, Option.isSome_none, Bool.false_eq_true, if_false]
      rcases at_place n1 ⟨x.sl.b, x.sl.r, x.sl.t - 1⟩ with ⟨m1, m2⟩ | ⟨j, y, m0, m1, m2⟩
      · rw [m2] at c5
        have hu : unb M x = decide (x.sl.t ≠ 0) := by unfold unb; rw [m1]; by_cases h : x.sl.t = 0 <;> simp [h]
        rw [hu] at hp
        clear hs hw m1 k1 g1 hu
        generalize stW M x.sl.b x.sl.r = v at *
        generalize wsum M = u at *
        generalize clashD M x = cl at *
        refine AC_enter Tryd.func35 rfl Tryd.ntmps35 (rv := [.tmp 6]) rfl rfl (by simp) (fun w X G => ?_)
        repeat' (first | ((with_reducible refine gA ?_); (first | refine AW_seq ?_ | refine AW_region ?_ | refine AW_regionD Tryd.mixed ?_ | refine AW_condT rfl ?_ | refine AW_condF rfl ?_ | (refine AW_condN rfl ?_ ?_; assumption) | (refine AW_cond rfl (fun hc => ?_) (fun hc => ?_) <;> try (exfalso; simp only [cmpL] at hc; omega)) | refine AW_ret ?_ | refine AW_skip ?_)) | (first | ((with_reducible refine gS ?_); refine Es_s (T := Tryd.tab) rfl rfl rfl rfl ?_) | ((with_reducible refine gD ?_); refine Ed_s (T := Tryd.tab) rfl rfl rfl rfl ?_)) | ((first | ((with_reducible refine gS ?_); apply Es_q) | ((with_reducible refine gD ?_); apply Ed_q)); rfl; (first | rfl | (refine w_ff ?_; assumption)); (first | refine LStep_call (c1) rfl rfl rfl rfl | refine LStep_call (c2) rfl rfl rfl rfl | refine LStep_call (c3) rfl rfl rfl rfl | refine LStep_call (c4) rfl rfl rfl rfl | refine LStep_call (c5) rfl rfl rfl rfl | refine LStep_call (c6) rfl rfl rfl rfl | refine LStep_call (c7) rfl rfl rfl rfl | refine LStep_call (c8) rfl rfl rfl rfl)) | ((first | ((with_reducible refine gS ?_); apply Es_q) | ((with_reducible refine gD ?_); apply Ed_q)); rfl; (first | rfl | (refine w_ff ?_; assumption)); (first | refine LStep_simp (T := Tryd.tab) rfl rfl | (refine LStep_add rfl rfl rfl rfl ?_; (refine IntWalk.i64_in _ ?_; first | omega | (simp only [cmps] at *; omega))) | (refine LStep_sub rfl rfl rfl rfl ?_; (refine IntWalk.i64_in _ ?_; first | omega | (simp only [cmps] at *; omega))) | (refine LStep_pickT rfl rfl ?_ rfl rfl; assumption) | (refine LStep_pickF rfl rfl ?_ rfl rfl; assumption) | refine LStep_buildN (T := Tryd.tab) rfl rfl rfl rfl rfl rfl rfl)) | ((first | refine Es_skip rfl ?_ rfl ?_ | refine Ed_skip rfl ?_ rfl ?_); (first | rfl | (refine w_tf ?_; assumption) | (refine w_ft ?_; assumption))) | ((first | ((with_reducible refine gS ?_); apply Es_xs) | ((with_reducible refine gD ?_); apply Ed_xs)); rfl; (first | rfl | (refine w_ff ?_; assumption)); refine LStep_boxN rfl rfl rfl rfl rfl rfl; rfl) | (refine Ed_split rfl ?_ (fun _ => ?_) (fun _ => ?_); ((fail_if_success (refine und_t ?_; assumption)); (fail_if_success (refine und_f ?_; assumption)); exact trivial)) | (with_reducible refine Es_nil ?_) | ((with_reducible refine Ed_nil ?_ ?_); kernel_rfl) | (with_reducible refine then_n ?_) | (with_reducible refine then_r ?_) | ((with_reducible refine gR ?_); first | refine ret1 rfl ?_ | refine ret2 rfl rfl ?_ | refine ret0 ?_ | refine end1 rfl ?_ | refine end0 ?_))
        all_goals simp only [cmps] at *
        all_goals first
          | (exfalso; omega)
          | (refine fin ?_; rw [hp]; simp [*]; done)
          | (refine fin ?_; rw [hp]; simp [*]; omega)
          | trace_state
      · rw [m2] at c5
        have hj : j < M.length := (List.getElem?_eq_some_iff.1 m0).1
        have hu : unb M x = (decide (x.sl.t ≠ 0) && decide (y.w < x.w)) := by unfold unb; rw [m1]; by_cases h : x.sl.t = 0 <;> simp [h]
        rw [hu] at hp
        clear hs hw m1 k1 g1 hu
        generalize stW M x.sl.b x.sl.r = v at *
        generalize wsum M = u at *
        generalize clashD M x = cl at *
        refine AC_enter Tryd.func35 rfl Tryd.ntmps35 (rv := [.tmp 6]) rfl rfl (by simp) (fun w X G => ?_)
        repeat' (first | ((with_reducible refine gA ?_); (first | refine AW_seq ?_ | refine AW_region ?_ | refine AW_regionD Tryd.mixed ?_ | refine AW_condT rfl ?_ | refine AW_condF rfl ?_ | (refine AW_condN rfl ?_ ?_; assumption) | (refine AW_cond rfl (fun hc => ?_) (fun hc => ?_) <;> try (exfalso; simp only [cmpL] at hc; omega)) | refine AW_ret ?_ | refine AW_skip ?_)) | (first | ((with_reducible refine gS ?_); refine Es_s (T := Tryd.tab) rfl rfl rfl rfl ?_) | ((with_reducible refine gD ?_); refine Ed_s (T := Tryd.tab) rfl rfl rfl rfl ?_)) | ((first | ((with_reducible refine gS ?_); apply Es_q) | ((with_reducible refine gD ?_); apply Ed_q)); rfl; (first | rfl | (refine w_ff ?_; assumption)); (first | refine LStep_call (c1) rfl rfl rfl rfl | refine LStep_call (c2) rfl rfl rfl rfl | refine LStep_call (c3) rfl rfl rfl rfl | refine LStep_call (c4) rfl rfl rfl rfl | refine LStep_call (c5) rfl rfl rfl rfl | refine LStep_call (c6) rfl rfl rfl rfl | refine LStep_call (c7) rfl rfl rfl rfl | refine LStep_call (c8) rfl rfl rfl rfl)) | ((first | ((with_reducible refine gS ?_); apply Es_q) | ((with_reducible refine gD ?_); apply Ed_q)); rfl; (first | rfl | (refine w_ff ?_; assumption)); (first | refine LStep_simp (T := Tryd.tab) rfl rfl | (refine LStep_add rfl rfl rfl rfl ?_; (refine IntWalk.i64_in _ ?_; first | omega | (simp only [cmps] at *; omega))) | (refine LStep_sub rfl rfl rfl rfl ?_; (refine IntWalk.i64_in _ ?_; first | omega | (simp only [cmps] at *; omega))) | (refine LStep_pickT rfl rfl ?_ rfl rfl; assumption) | (refine LStep_pickF rfl rfl ?_ rfl rfl; assumption) | (refine LStep_indexM (T := Tryd.tab) (c := ?_) rfl rfl rfl rfl rfl rfl ?_; rotate_left; assumption) | refine LStep_buildN (T := Tryd.tab) rfl rfl rfl rfl rfl rfl rfl)) | ((first | refine Es_skip rfl ?_ rfl ?_ | refine Ed_skip rfl ?_ rfl ?_); (first | rfl | (refine w_tf ?_; assumption) | (refine w_ft ?_; assumption))) | ((first | ((with_reducible refine gS ?_); apply Es_xs) | ((with_reducible refine gD ?_); apply Ed_xs)); rfl; rfl; refine LStep_boxN rfl rfl rfl rfl rfl rfl; rfl) | (refine Ed_split rfl ?_ (fun _ => ?_) (fun _ => ?_); ((fail_if_success (refine und_t ?_; assumption)); (fail_if_success (refine und_f ?_; assumption)); exact trivial)) | (with_reducible refine Es_nil ?_) | ((with_reducible refine Ed_nil ?_ ?_); kernel_rfl) | (with_reducible refine then_n ?_) | (with_reducible refine then_r ?_) | ((with_reducible refine gR ?_); first | refine ret1 rfl ?_ | refine ret2 rfl rfl ?_ | refine ret0 ?_ | refine end1 rfl ?_ | refine end0 ?_))
        all_goals simp only [cmps] at *
        all_goals first
          | (exfalso; omega)
          | (refine fin ?_; rw [hp]; simp [*]; done)
          | (refine fin ?_; rw [hp]; simp [*]; omega)
          | trace_state
    · rw [k2] at c4
      refine AC_enter Tryd.func35 rfl Tryd.ntmps35 (rv := [.tmp 6]) rfl rfl (by simp) (fun w X G => ?_)
      repeat' (first | ((with_reducible refine gA ?_); (first | refine AW_seq ?_ | refine AW_region ?_ | refine AW_condF rfl ?_ | (refine AW_cond rfl (fun hc => ?_) (fun hc => ?_) <;> try (exfalso; simp only [cmpL] at hc; omega)) | refine AW_ret ?_ | refine AW_skip ?_)) | ((with_reducible refine gS ?_); refine Es_s (T := Tryd.tab) rfl rfl rfl rfl ?_) | (((with_reducible refine gS ?_); apply Es_q); rfl; rfl; (first | refine LStep_call (c1) rfl rfl rfl rfl | refine LStep_call (c2) rfl rfl rfl rfl | refine LStep_call (c3) rfl rfl rfl rfl | refine LStep_call (c4) rfl rfl rfl rfl)) | (refine Es_skip rfl ?_ rfl ?_; (first | rfl | (refine w_tf ?_; assumption) | (refine w_ft ?_; assumption))) | (((with_reducible refine gS ?_); apply Es_xs); rfl; rfl; refine LStep_boxN rfl rfl rfl rfl rfl rfl; rfl) | (with_reducible refine Es_nil ?_) | (with_reducible refine then_n ?_) | (with_reducible refine then_r ?_) | ((with_reducible refine gR ?_); first | refine ret1 rfl ?_ | refine ret2 rfl rfl ?_ | refine ret0 ?_ | refine end1 rfl ?_ | refine end0 ?_))
      all_goals simp only [cmps] at *
      all_goals first
        | (refine fin ?_; unfold putE; simp [e1, g1, e3, k1]; done)
        | (exfalso; omega)
        | trace_state
  · rw [g2] at c2
    refine AC_enter Tryd.func35 rfl Tryd.ntmps35 (rv := [.tmp 6]) rfl rfl (by simp) (fun w X G => ?_)
    repeat' (first | ((with_reducible refine gA ?_); (first | refine AW_seq ?_ | refine AW_region ?_ | refine AW_condF rfl ?_ | (refine AW_cond rfl (fun hc => ?_) (fun hc => ?_) <;> try (exfalso; simp only [cmpL] at hc; omega)) | refine AW_ret ?_ | refine AW_skip ?_)) | ((with_reducible refine gS ?_); refine Es_s (T := Tryd.tab) rfl rfl rfl rfl ?_) | (((with_reducible refine gS ?_); apply Es_q); rfl; rfl; (first | refine LStep_call (c1) rfl rfl rfl rfl | refine LStep_call (c2) rfl rfl rfl rfl)) | (refine Es_skip rfl ?_ rfl ?_; (first | rfl | (refine w_tf ?_; assumption) | (refine w_ft ?_; assumption))) | (((with_reducible refine gS ?_); apply Es_xs); rfl; rfl; refine LStep_boxN rfl rfl rfl rfl rfl rfl; rfl) | (with_reducible refine Es_nil ?_) | (with_reducible refine then_n ?_) | (with_reducible refine then_r ?_) | ((with_reducible refine gR ?_); first | refine ret1 rfl ?_ | refine ret2 rfl rfl ?_ | refine ret0 ?_ | refine end1 rfl ?_ | refine end0 ?_))
    all_goals simp only [cmps] at *
    all_goals first
      | (refine fin ?_; unfold putE; simp [e1, g1]; done)
      | (exfalso; omega)
      | trace_state
end Go.Proofs.YtgikjdkdakfnkaaDoor
