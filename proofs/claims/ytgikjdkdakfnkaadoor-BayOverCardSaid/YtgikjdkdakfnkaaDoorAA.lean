import Derived.Test.YtgikjdkdakfnkaaDoorA8
namespace Go.Proofs.YtgikjdkdakfnkaaDoor
open Go.SL
/-! ### what is to be lifted -/
theorem cntF_in (port : Int) : ∀ (lv : Bool) (l : List Load), 0 ≤ cntF port lv l ∧ cntF port lv l ≤ l.length
  | lv, [] => by simp [cntF]
  | lv, x :: l => by
    have h1 := cntF_in port true l
    have h2 := cntF_in port lv l
    rw [cntF, List.length_cons]
    split
    · omega
    · split <;> omega
theorem rowsSum_in {f : Int → Int} {c : Int} (h : ∀ i, 0 ≤ f i ∧ f i ≤ c) (hc : 0 ≤ c) : ∀ n : Nat, 0 ≤ rowsSum f n ∧ rowsSum f n ≤ c * n
  | 0 => by simp [rowsSum]
  | n + 1 => by
    have h1 := rowsSum_in h hc n
    have h2 := h n
    rw [rowsSum, Int.natCast_succ, Int.mul_add]
    omega
set_option maxRecDepth 10000 in
set_option maxHeartbeats 4000000 in
theorem over_ac (S : Ship) (L : List Load) (port : Int) (B R : Nat) (hB' : S.bays = B) (hR : S.rows = R) (hB32 : B ≤ 32) (hR32 : R ≤ 32) : AC Tryd.prog 19 [.ptr 1000 0, .d (.sc (.int .i64 port))] (hB S L) [1000, 1001, 1002] (fun v h' => v = .d (.sc (.int .i64 (rowsSum (fun b => rowsSum (fun r => cntF port false (stackL L b r)) R) B))) ∧ SubH (hB S L) h') := by
  have i1 : ∀ b r, 0 ≤ cntF port false (stackL L b r) ∧ cntF port false (stackL L b r) ≤ 32 := fun b r => by
    have h1 := cntF_in port false (stackL L b r)
    have h2 := stack_len L b r
    omega
  have i2 := fun b => rowsSum_in (i1 b) (by omega)
  have i3 : ∀ b, 0 ≤ rowsSum (fun r => cntF port false (stackL L b r)) R ∧ rowsSum (fun r => cntF port false (stackL L b r)) R ≤ 1024 := fun b => by
    have := i2 b R
    omega
  have i4 := rowsSum_in i3 (by omega)
  have z1 : rowsSum (fun b => rowsSum (fun r => cntF port false (stackL L b r)) R) 0 = 0 := rfl
  refine AC_enter Tryd.func19 rfl Tryd.ntmps19 (rv := [.tmp 4]) rfl rfl (by simp) (fun w X G => ?_)
  repeat' (first | ((with_reducible refine gA ?_); (first | refine AW_seq ?_ | refine AW_region ?_ | refine AW_block ?_)) | ((with_reducible refine gS ?_); refine Es_s (T := Tryd.tab) rfl rfl rfl rfl ?_) | (with_reducible refine Es_nil ?_) | (with_reducible refine then_n ?_))
  refine AW_forE (S := Nat) (fun k => k ≤ B) (fun k => [(16, .d (.sc (.int .i64 (k : Nat)))), (5, .d (.sc (.int .i64 (rowsSum (fun b => rowsSum (fun r => cntF port false (stackL L b r)) R) k))))]) (fun _ => []) (fun k => B - k) 0 (by omega) (by (repeat' (first | exact trivial | exact rfl | (refine ⟨Or.inl rfl, ?_⟩) | (refine ⟨Or.inr rfl, ?_⟩) | (refine ⟨Or.inr trivial, ?_⟩) | (refine ⟨rfl, ?_⟩) | (refine ⟨?_, ?_⟩)))) (by (repeat' (first | exact trivial | exact rfl | (refine ⟨Or.inl rfl, ?_⟩) | (refine ⟨Or.inr rfl, ?_⟩) | (refine ⟨Or.inr trivial, ?_⟩) | (refine ⟨rfl, ?_⟩) | (refine ⟨?_, ?_⟩)))) ?_
  intro k hk
  by_cases hlt : k < B
  · have hkb : ltb (k : Nat) S.bays = true := by rw [hB', ltb_t]; omega
    have e1 : rowsSum (fun b => rowsSum (fun r => cntF port false (stackL L b r)) R) (k + 1) = rowsSum (fun b => rowsSum (fun r => cntF port false (stackL L b r)) R) k + rowsSum (fun r => cntF port false (stackL L k r)) R := rfl
    have j1 := i4 k
    generalize rowsSum (fun b => rowsSum (fun r => cntF port false (stackL L b r)) R) k = n at e1 j1
    repeat' (first | ((with_reducible refine gA ?_); (first | refine AW_seq ?_ | refine AW_region ?_ | (refine AW_condY rfl ?_ ?_; assumption) | refine AW_block ?_ | refine AW_skip ?_)) | ((with_reducible refine gS ?_); refine Es_s (T := Tryd.tab) rfl rfl rfl rfl ?_) | (with_reducible refine Es_nil ?_) | (with_reducible refine then_n ?_))
    all_goals try (exfalso; rw [hkb] at *; simp at *; done)
    refine AW_forE (S := Nat) (fun j => j ≤ R) (fun j => [(24, .d (.sc (.int .i64 (j : Nat)))), (5, .d (.sc (.int .i64 (n + rowsSum (fun r => cntF port false (stackL L k r)) j))))]) (fun _ => []) (fun j => R - j) 0 (by omega) (by rw [show n + rowsSum (fun r => cntF port false (stackL L k r)) 0 = n from Int.add_zero n]; (repeat' (first | exact trivial | exact rfl | (refine ⟨Or.inl rfl, ?_⟩) | (refine ⟨Or.inr rfl, ?_⟩) | (refine ⟨Or.inr trivial, ?_⟩) | (refine ⟨rfl, ?_⟩) | (refine ⟨?_, ?_⟩)))) (by (repeat' (first | exact trivial | exact rfl | (refine ⟨Or.inl rfl, ?_⟩) | (refine ⟨Or.inr rfl, ?_⟩) | (refine ⟨Or.inr trivial, ?_⟩) | (refine ⟨rfl, ?_⟩) | (refine ⟨?_, ?_⟩)))) ?_
    intro j hj
    by_cases hlj : j < R
    · have hjb : ltb (j : Nat) S.rows = true := by rw [hR, ltb_t]; omega
      have e2 : rowsSum (fun r => cntF port false (stackL L k r)) (j + 1) = rowsSum (fun r => cntF port false (stackL L k r)) j + cntF port false (stackL L k j) := rfl
      have j2 := i2 k j
      generalize rowsSum (fun r => cntF port false (stackL L k r)) j = m at e2 j2
      have cs := stack_ac S L k j
      have h32 := stack_len L k j
      generalize stackL L k j = l at e2 cs h32
      repeat' (first | ((with_reducible refine gA ?_); (first | refine AW_seq ?_ | refine AW_region ?_ | (refine AW_condY rfl ?_ ?_; assumption) | refine AW_block ?_ | refine AW_skip ?_)) | ((with_reducible refine gS ?_); refine Es_s (T := Tryd.tab) rfl rfl rfl rfl ?_) | (((with_reducible refine gS ?_); apply Es_xg); rfl; rfl; refine LStep_callHN [] [] cs rfl rfl ⟨rfl, rfl, rfl, trivial⟩ rfl ⟨trivial, trivial, trivial, trivial⟩ rfl rfl; rfl) | (((with_reducible refine gS ?_); apply Es_q); rfl; rfl; refine LStep_lenM (T := Tryd.tab) rfl rfl rfl rfl) | (with_reducible refine Es_nil ?_) | (with_reducible refine then_n ?_))
      all_goals try (exfalso; rw [hjb] at *; simp at *; done)
      refine AW_forE (S := Nat) (fun i => i ≤ l.length) (fun i => [(32, .d (.sc (.int .i64 (i : Nat)))), (8, .d (.sc (.bool ((l.take i).any fun x => decide (x.p ≤ port))))), (5, .d (.sc (.int .i64 (n + m + cntF port false (l.take i)))))]) (fun _ => []) (fun i => l.length - i) 0 (by omega) (by rw [show n + m + cntF port false (l.take 0) = n + m from Int.add_zero _]; (repeat' (first | exact trivial | exact rfl | (refine ⟨Or.inl rfl, ?_⟩) | (refine ⟨Or.inr rfl, ?_⟩) | (refine ⟨Or.inr trivial, ?_⟩) | (refine ⟨rfl, ?_⟩) | (refine ⟨?_, ?_⟩)))) (by (repeat' (first | exact trivial | exact rfl | (refine ⟨Or.inl rfl, ?_⟩) | (refine ⟨Or.inr rfl, ?_⟩) | (refine ⟨Or.inr trivial, ?_⟩) | (refine ⟨rfl, ?_⟩) | (refine ⟨?_, ?_⟩)))) ?_
      intro i hi
      by_cases hli : i < l.length
      · obtain ⟨x, hx, _⟩ := drop_at hli
        have t1 : cntF port false (l.take (i + 1)) = cntF port false (l.take i) + (if x.p ≤ port then 0 else if ((l.take i).any fun x => decide (x.p ≤ port)) = true then 1 else 0) := by
          rw [take_at hx, cntF_app, Bool.false_or]
          simp [cntF]
        have t2 : ((l.take (i + 1)).any fun x => decide (x.p ≤ port)) = (((l.take i).any fun x => decide (x.p ≤ port)) || decide (x.p ≤ port)) := by
          rw [take_at hx, List.any_append]; simp
        have j3 := cntF_in port false (l.take i)
        have j4 : (l.take i).length ≤ 32 := by rw [List.length_take]; omega
        generalize cntF port false (l.take i) = q at t1 j3
        generalize ((l.take i).any fun x => decide (x.p ≤ port)) = lv at t1 t2
        repeat' (first | ((with_reducible refine gA ?_); (first | refine AW_seq ?_ | refine AW_region ?_ | (refine AW_cond rfl (fun hc => ?_) (fun hc => ?_) <;> try (exfalso; simp only [cmpL] at hc; omega)) | refine AW_block ?_ | refine AW_skip ?_)) | ((with_reducible refine gS ?_); refine Es_s (T := Tryd.tab) rfl rfl rfl rfl ?_) | (((with_reducible refine gS ?_); apply Es_q); rfl; rfl; (first | (refine LStep_add rfl rfl rfl rfl ?_; (refine IntWalk.i64_in _ ?_; first | omega | (simp only [cmps] at *; omega))) | (refine LStep_indexM (T := Tryd.tab) (c := ?_) rfl rfl rfl rfl rfl rfl ?_; rotate_left; assumption))) | (refine Es_skip rfl ?_ rfl ?_; (first | rfl | (refine w_tf ?_; assumption) | (refine w_ft ?_; assumption))) | (((with_reducible refine gS ?_); apply Es_xs); rfl; rfl; refine LStep_allocN (T := Tryd.tab) rfl rfl rfl rfl rfl rfl; rfl) | (((with_reducible refine gS ?_); apply Es_xn); rfl; rfl; (refine LStep_storeN (T := Tryd.tab) rfl rfl rfl rfl rfl rfl rfl ?_ rfl; (refine Nat.le_of_ble_eq_true ?_; rfl)); rfl) | (with_reducible refine Es_nil ?_) | (with_reducible refine then_n ?_) | (with_reducible refine block_n ?_))
        all_goals simp only [cmps] at *
        all_goals first
          | (refine ⟨i + 1, by omega, by omega, ?_, by (repeat' (first | exact trivial | exact rfl | (refine ⟨Or.inl rfl, ?_⟩) | (refine ⟨Or.inr rfl, ?_⟩) | (refine ⟨Or.inr trivial, ?_⟩) | (refine ⟨rfl, ?_⟩) | (refine ⟨?_, ?_⟩))), by (repeat' (first | exact trivial | exact rfl | (refine ⟨Or.inl rfl, ?_⟩) | (refine ⟨Or.inr rfl, ?_⟩) | (refine ⟨Or.inr trivial, ?_⟩) | (refine ⟨rfl, ?_⟩) | (refine ⟨?_, ?_⟩))), by (repeat' (first | exact trivial | exact rfl | (refine ⟨Or.inl rfl, ?_⟩) | (refine ⟨Or.inr rfl, ?_⟩) | (refine ⟨Or.inr trivial, ?_⟩) | (refine ⟨rfl, ?_⟩) | (refine ⟨?_, ?_⟩)))⟩
             rw [t1, t2]
             first
               | (have hp : x.p ≤ port := by omega
                  simp only [if_pos hp, decide_eq_true hp, Bool.or_true, Int.add_zero]; (repeat' (first | exact trivial | exact rfl | (refine ⟨Or.inl rfl, ?_⟩) | (refine ⟨Or.inr rfl, ?_⟩) | (refine ⟨Or.inr trivial, ?_⟩) | (refine ⟨rfl, ?_⟩) | (refine ⟨?_, ?_⟩))))
               | (have hp : ¬ x.p ≤ port := by omega
                  have hl : lv = true := by assumption
                  simp only [if_neg hp, decide_eq_false hp, Bool.or_false, hl, if_true, ← Int.add_assoc]; (repeat' (first | exact trivial | exact rfl | (refine ⟨Or.inl rfl, ?_⟩) | (refine ⟨Or.inr rfl, ?_⟩) | (refine ⟨Or.inr trivial, ?_⟩) | (refine ⟨rfl, ?_⟩) | (refine ⟨?_, ?_⟩))))
               | (have hp : ¬ x.p ≤ port := by omega
                  have hl : lv = false := by assumption
                  simp only [if_neg hp, decide_eq_false hp, Bool.or_false, hl, Bool.false_eq_true, if_false, Int.add_zero]; (repeat' (first | exact trivial | exact rfl | (refine ⟨Or.inl rfl, ?_⟩) | (refine ⟨Or.inr rfl, ?_⟩) | (refine ⟨Or.inr trivial, ?_⟩) | (refine ⟨rfl, ?_⟩) | (refine ⟨?_, ?_⟩)))))
          | trace_state
      · have : i = l.length := by omega
        subst this
        rw [List.take_length]
        repeat' (first | ((with_reducible refine gA ?_); (first | refine AW_seq ?_ | refine AW_region ?_ | (refine AW_cond rfl (fun hc => ?_) (fun hc => ?_) <;> try (exfalso; simp only [cmpL] at hc; omega)) | refine AW_exit ?_)) | ((with_reducible refine gS ?_); refine Es_s (T := Tryd.tab) rfl rfl rfl rfl ?_) | (((with_reducible refine gS ?_); apply Es_q); rfl; rfl; (refine LStep_add rfl rfl rfl rfl ?_; (refine IntWalk.i64_in _ ?_; first | omega | (simp only [cmps] at *; omega)))) | (with_reducible refine Es_nil ?_) | (with_reducible refine then_n ?_) | (with_reducible refine then_e ?_) | (with_reducible refine block_n ?_) | ((with_reducible refine block_e ?_ ?_); rfl))
        all_goals first
          | (refine ⟨j + 1, by omega, by omega, ?_, by (repeat' (first | exact trivial | exact rfl | (refine ⟨Or.inl rfl, ?_⟩) | (refine ⟨Or.inr rfl, ?_⟩) | (refine ⟨Or.inr trivial, ?_⟩) | (refine ⟨rfl, ?_⟩) | (refine ⟨?_, ?_⟩))), by (repeat' (first | exact trivial | exact rfl | (refine ⟨Or.inl rfl, ?_⟩) | (refine ⟨Or.inr rfl, ?_⟩) | (refine ⟨Or.inr trivial, ?_⟩) | (refine ⟨rfl, ?_⟩) | (refine ⟨?_, ?_⟩))), by (repeat' (first | exact trivial | exact rfl | (refine ⟨Or.inl rfl, ?_⟩) | (refine ⟨Or.inr rfl, ?_⟩) | (refine ⟨Or.inr trivial, ?_⟩) | (refine ⟨rfl, ?_⟩) | (refine ⟨?_, ?_⟩)))⟩
             rw [e2, ← Int.add_assoc]; (repeat' (first | exact trivial | exact rfl | (refine ⟨Or.inl rfl, ?_⟩) | (refine ⟨Or.inr rfl, ?_⟩) | (refine ⟨Or.inr trivial, ?_⟩) | (refine ⟨rfl, ?_⟩) | (refine ⟨?_, ?_⟩))))
          | trace_state
    · have : j = R := by omega
      subst this
      have hjb : ltb (j : Nat) S.rows = false := by rw [hR, ltb_d]; simp
      repeat' (first | ((with_reducible refine gA ?_); (first | refine AW_seq ?_ | refine AW_region ?_ | (refine AW_condN rfl ?_ ?_; assumption) | refine AW_exit ?_)) | ((with_reducible refine gS ?_); refine Es_s (T := Tryd.tab) rfl rfl rfl rfl ?_) | (((with_reducible refine gS ?_); apply Es_q); rfl; rfl; (refine LStep_add rfl rfl rfl rfl ?_; (refine IntWalk.i64_in _ ?_; first | omega | (simp only [cmps] at *; omega)))) | (with_reducible refine Es_nil ?_) | (with_reducible refine then_n ?_) | (with_reducible refine then_e ?_) | (with_reducible refine block_n ?_) | ((with_reducible refine block_e ?_ ?_); rfl))
      all_goals try (exfalso; rw [hjb] at *; simp at *; done)
      all_goals first
        | (refine ⟨k + 1, by omega, by omega, ?_, by (repeat' (first | exact trivial | exact rfl | (refine ⟨Or.inl rfl, ?_⟩) | (refine ⟨Or.inr rfl, ?_⟩) | (refine ⟨Or.inr trivial, ?_⟩) | (refine ⟨rfl, ?_⟩) | (refine ⟨?_, ?_⟩))), by (repeat' (first | exact trivial | exact rfl | (refine ⟨Or.inl rfl, ?_⟩) | (refine ⟨Or.inr rfl, ?_⟩) | (refine ⟨Or.inr trivial, ?_⟩) | (refine ⟨rfl, ?_⟩) | (refine ⟨?_, ?_⟩))), by (repeat' (first | exact trivial | exact rfl | (refine ⟨Or.inl rfl, ?_⟩) | (refine ⟨Or.inr rfl, ?_⟩) | (refine ⟨Or.inr trivial, ?_⟩) | (refine ⟨rfl, ?_⟩) | (refine ⟨?_, ?_⟩)))⟩
           rw [e1]; (repeat' (first | exact trivial | exact rfl | (refine ⟨Or.inl rfl, ?_⟩) | (refine ⟨Or.inr rfl, ?_⟩) | (refine ⟨Or.inr trivial, ?_⟩) | (refine ⟨rfl, ?_⟩) | (refine ⟨?_, ?_⟩))))
        | trace_state
  · have : k = B := by omega
    subst this
    have hkb : ltb (k : Nat) S.bays = false := by rw [hB', ltb_d]; simp
    repeat' (first | ((with_reducible refine gA ?_); (first | refine AW_seq ?_ | refine AW_region ?_ | (refine AW_condN rfl ?_ ?_; assumption) | refine AW_ret ?_ | refine AW_exit ?_)) | ((with_reducible refine gS ?_); refine Es_s (T := Tryd.tab) rfl rfl rfl rfl ?_) | (with_reducible refine Es_nil ?_) | (with_reducible refine then_n ?_) | (with_reducible refine then_e ?_) | ((with_reducible refine block_e ?_ ?_); rfl) | ((with_reducible refine gR ?_); first | refine ret1 rfl ?_ | refine ret2 rfl rfl ?_ | refine ret0 ?_ | refine end1 rfl ?_ | refine end0 ?_))
    all_goals try (exfalso; rw [hkb] at *; simp at *; done)
    all_goals first
      | exact ⟨rfl, by (repeat' (first | exact trivial | exact rfl | (refine ⟨Or.inl rfl, ?_⟩) | (refine ⟨Or.inr rfl, ?_⟩) | (refine ⟨Or.inr trivial, ?_⟩) | (refine ⟨rfl, ?_⟩) | (refine ⟨?_, ?_⟩)))⟩
      | trace_state
end Go.Proofs.YtgikjdkdakfnkaaDoor
