import Derived.Test.YtgikjdkdakfnkaaDoorAF
import Derived.Test.YtgikjdkdakfnkaaDoorAG
namespace Go.Proofs.YtgikjdkdakfnkaaDoor
open Go.SL
/-! ### the document's Above, Over -/
set_option maxRecDepth 10000 in
set_option maxHeartbeats 2000000 in
theorem rAbove_ac (M : List Load) (i : Nat) (x : Load) (hM : M.length ≤ 1048576) (hx : M[i]? = some x) (ht : 0 ≤ x.sl.t ∧ x.sl.t ≤ 1048576) : AC Tryd.prog 37 [.d (.sl 7 (M.map Load.enc)), .d (.sc (.int .i64 (i : Nat)))] [] [] (fun r _ => r = .d (.sc (.bool (decide (0 ≤ fI (fun y => y.sl.eqB ⟨x.sl.b, x.sl.r, x.sl.t + 1⟩) M 0))))) := by
  have hi : i < M.length := by
    have := List.getElem?_eq_some_iff.1 hx
    exact this.1
  have c := rAt_ac M ⟨x.sl.b, x.sl.r, x.sl.t + 1⟩ hM
  generalize fI (fun y => y.sl.eqB ⟨x.sl.b, x.sl.r, x.sl.t + 1⟩) M 0 = v at c
  refine AC_enter Tryd.func37 rfl Tryd.ntmps37 (rv := [.tmp 4]) rfl rfl (by simp) (fun w X G => ?_)
  repeat' (first | ((with_reducible refine gA ?_); (first | refine AW_seq ?_ | refine AW_region ?_ | refine AW_ret ?_)) | ((with_reducible refine gS ?_); refine Es_s (T := Tryd.tab) rfl rfl rfl rfl ?_) | (((with_reducible refine gS ?_); apply Es_q); rfl; rfl; refine LStep_call (c) rfl rfl rfl rfl) | (((with_reducible refine gS ?_); apply Es_q); rfl; rfl; (first | (refine LStep_add rfl rfl rfl rfl ?_; (refine IntWalk.i64_in _ ?_; first | omega | (simp only [cmps] at *; omega))) | (refine LStep_indexM (T := Tryd.tab) (c := ?_) rfl rfl rfl rfl rfl rfl ?_; rotate_left; assumption))) | (refine Es_skip rfl ?_ rfl ?_; (first | rfl | (refine w_tf ?_; assumption) | (refine w_ft ?_; assumption))) | (((with_reducible refine gS ?_); apply Es_xs); rfl; rfl; refine LStep_allocN (T := Tryd.tab) rfl rfl rfl rfl rfl rfl; rfl) | (((with_reducible refine gS ?_); apply Es_xn); rfl; rfl; (refine LStep_storeN (T := Tryd.tab) rfl rfl rfl rfl rfl rfl rfl ?_ rfl; (refine Nat.le_of_ble_eq_true ?_; rfl)); rfl) | (with_reducible refine Es_nil ?_) | (with_reducible refine then_n ?_) | ((with_reducible refine gR ?_); first | refine ret1 rfl ?_ | refine ret2 rfl rfl ?_ | refine ret0 ?_ | refine end1 rfl ?_ | refine end0 ?_))
  all_goals first
    | (refine congrArg (fun b => AV.d (D.sc (Value.bool b))) ?_; rw [Bool.eq_iff_iff]; simp [leb_t]; done)
    | trace_state
set_option maxRecDepth 10000 in
set_option maxHeartbeats 4000000 in
theorem rOver_ac (M : List Load) (port : Int) (hM : M.length ≤ 1048576) : AC Tryd.prog 20 [.d (.sl 7 (M.map Load.enc)), .d (.sc (.int .i64 port))] [] [] (fun r _ => r = .d (.sc (.int .i64 (overD M port)))) := by
  have hgo : ∀ x ∈ M, 0 ≤ gOver M port x ∧ gOver M port x ≤ 1048576 := fun x _ => by unfold gOver; split <;> omega
  have hov : overD M port = (M.map (gOver M port)).sum := rfl
  refine AC_enter Tryd.func20 rfl Tryd.ntmps20 (rv := [.tmp 4]) rfl rfl (by simp) (fun w X G => ?_)
  repeat' (first | ((with_reducible refine gA ?_); (first | refine AW_seq ?_ | refine AW_region ?_ | refine AW_block ?_)) | ((with_reducible refine gS ?_); refine Es_s (T := Tryd.tab) rfl rfl rfl rfl ?_) | (with_reducible refine Es_nil ?_) | (with_reducible refine then_n ?_))
  refine AW_forE (S := Nat) (fun k => k ≤ M.length) (fun k => [(6, .d (.sc (.int .i64 (k : Nat)))), (5, .d (.sc (.int .i64 (((M.take k).map (gOver M port)).sum))))]) (fun _ => []) (fun k => M.length - k) 0 (by omega) (by (repeat' (first | exact trivial | exact rfl | (refine ⟨Or.inl rfl, ?_⟩) | (refine ⟨Or.inr rfl, ?_⟩) | (refine ⟨Or.inr trivial, ?_⟩) | (refine ⟨rfl, ?_⟩) | (refine ⟨?_, ?_⟩)))) (by (repeat' (first | exact trivial | exact rfl | (refine ⟨Or.inl rfl, ?_⟩) | (refine ⟨Or.inr rfl, ?_⟩) | (refine ⟨Or.inr trivial, ?_⟩) | (refine ⟨rfl, ?_⟩) | (refine ⟨?_, ?_⟩)))) ?_
  intro k hk
  by_cases hlt : k < M.length
  · obtain ⟨x, hx, _⟩ := drop_at hlt
    have ht : ((M.take (k + 1)).map (gOver M port)).sum = ((M.take k).map (gOver M port)).sum + gOver M port x := by rw [take_at hx, List.map_append, List.sum_append]; simp
    have h1 := take_in hM hgo k
    generalize ((M.take k).map (gOver M port)).sum = n at ht h1
    repeat' (first | ((with_reducible refine gA ?_); (first | refine AW_seq ?_ | refine AW_region ?_ | (refine AW_cond rfl (fun hc => ?_) (fun hc => ?_) <;> try (exfalso; simp only [cmpL] at hc; omega)) | refine AW_block ?_ | refine AW_skip ?_)) | ((with_reducible refine gS ?_); refine Es_s (T := Tryd.tab) rfl rfl rfl rfl ?_) | (((with_reducible refine gS ?_); apply Es_q); rfl; rfl; refine LStep_lenM (T := Tryd.tab) rfl rfl rfl rfl) | (with_reducible refine Es_nil ?_) | (with_reducible refine then_n ?_))
    refine AW_forE (S := Nat) (fun j => j ≤ M.length) (fun j => [(8, .d (.sc (.int .i64 (j : Nat)))), (7, .d (.sc (.bool ((M.take j).any fun y => decide (x.sl.b = y.sl.b ∧ x.sl.r = y.sl.r ∧ y.sl.t < x.sl.t ∧ y.p ≤ port)))))]) (fun _ => []) (fun j => M.length - j) 0 (by omega) (by (repeat' (first | exact trivial | exact rfl | (refine ⟨Or.inl rfl, ?_⟩) | (refine ⟨Or.inr rfl, ?_⟩) | (refine ⟨Or.inr trivial, ?_⟩) | (refine ⟨rfl, ?_⟩) | (refine ⟨?_, ?_⟩)))) (by (repeat' (first | exact trivial | exact rfl | (refine ⟨Or.inl rfl, ?_⟩) | (refine ⟨Or.inr rfl, ?_⟩) | (refine ⟨Or.inr trivial, ?_⟩) | (refine ⟨rfl, ?_⟩) | (refine ⟨?_, ?_⟩)))) ?_
    intro j hj
    by_cases hlj : j < M.length
    · obtain ⟨y, hy, _⟩ := drop_at hlj
      have t2 : ((M.take (j + 1)).any fun y => decide (x.sl.b = y.sl.b ∧ x.sl.r = y.sl.r ∧ y.sl.t < x.sl.t ∧ y.p ≤ port)) = (((M.take j).any fun y => decide (x.sl.b = y.sl.b ∧ x.sl.r = y.sl.r ∧ y.sl.t < x.sl.t ∧ y.p ≤ port)) || decide (x.sl.b = y.sl.b ∧ x.sl.r = y.sl.r ∧ y.sl.t < x.sl.t ∧ y.p ≤ port)) := by rw [take_at hy, List.any_append]; simp
      generalize ((M.take j).any fun y => decide (x.sl.b = y.sl.b ∧ x.sl.r = y.sl.r ∧ y.sl.t < x.sl.t ∧ y.p ≤ port)) = lv at t2
      repeat' (first | ((with_reducible refine gA ?_); (first | refine AW_seq ?_ | refine AW_region ?_ | refine AW_regionD Tryd.mixed ?_ | refine AW_condF rfl ?_ | (refine AW_cond rfl (fun hc => ?_) (fun hc => ?_) <;> try (exfalso; simp only [cmpL] at hc; omega)) | refine AW_block ?_ | refine AW_skip ?_)) | (first | ((with_reducible refine gS ?_); refine Es_s (T := Tryd.tab) rfl rfl rfl rfl ?_) | ((with_reducible refine gD ?_); refine Ed_s (T := Tryd.tab) rfl rfl rfl rfl ?_)) | ((first | ((with_reducible refine gS ?_); apply Es_q) | ((with_reducible refine gD ?_); apply Ed_q)); rfl; (first | rfl | (refine w_tt ?_; assumption)); (first | refine LStep_simp (T := Tryd.tab) rfl rfl | refine LStep_lenM (T := Tryd.tab) rfl rfl rfl rfl | (refine LStep_add rfl rfl rfl rfl ?_; (refine IntWalk.i64_in _ ?_; first | omega | (simp only [cmps] at *; omega))) | (refine LStep_pickT rfl rfl ?_ rfl rfl; assumption) | (refine LStep_pickF rfl rfl ?_ rfl rfl; assumption) | (refine LStep_indexM (T := Tryd.tab) (c := ?_) rfl rfl rfl rfl rfl rfl ?_; rotate_left; assumption))) | ((first | refine Es_skip rfl ?_ rfl ?_ | refine Ed_skip rfl ?_ rfl ?_); (first | rfl | (refine w_tf ?_; assumption) | (refine w_ft ?_; assumption))) | ((first | ((with_reducible refine gS ?_); apply Es_xs) | ((with_reducible refine gD ?_); apply Ed_xs)); rfl; rfl; refine LStep_allocN (T := Tryd.tab) rfl rfl rfl rfl rfl rfl; rfl) | ((first | ((with_reducible refine gS ?_); apply Es_xn) | ((with_reducible refine gD ?_); apply Ed_xn)); rfl; rfl; (refine LStep_storeN (T := Tryd.tab) rfl rfl rfl rfl rfl rfl rfl ?_ rfl; (refine Nat.le_of_ble_eq_true ?_; rfl)); rfl) | (refine Es_split rfl ?_ (fun _ => ?_) (fun _ => ?_); ((fail_if_success (refine und_t ?_; assumption)); (fail_if_success (refine und_f ?_; assumption)); exact trivial)) | (with_reducible refine Es_nil ?_) | ((with_reducible refine Ed_nil ?_ ?_); kernel_rfl) | (with_reducible refine then_n ?_) | (with_reducible refine block_n ?_))
      all_goals simp only [cmps] at *
      all_goals first
        | (have e1 : x.sl.b = y.sl.b ∧ x.sl.r = y.sl.r ∧ y.sl.t < x.sl.t ∧ y.p ≤ port := ⟨by omega, by omega, by omega, by omega⟩
           refine ⟨j + 1, by omega, by omega, ?_, by (repeat' (first | exact trivial | exact rfl | (refine ⟨Or.inl rfl, ?_⟩) | (refine ⟨Or.inr rfl, ?_⟩) | (refine ⟨Or.inr trivial, ?_⟩) | (refine ⟨rfl, ?_⟩) | (refine ⟨?_, ?_⟩))), by (repeat' (first | exact trivial | exact rfl | (refine ⟨Or.inl rfl, ?_⟩) | (refine ⟨Or.inr rfl, ?_⟩) | (refine ⟨Or.inr trivial, ?_⟩) | (refine ⟨rfl, ?_⟩) | (refine ⟨?_, ?_⟩))), by (repeat' (first | exact trivial | exact rfl | (refine ⟨Or.inl rfl, ?_⟩) | (refine ⟨Or.inr rfl, ?_⟩) | (refine ⟨Or.inr trivial, ?_⟩) | (refine ⟨rfl, ?_⟩) | (refine ⟨?_, ?_⟩)))⟩
           rw [t2, decide_eq_true e1, Bool.or_true]; (repeat' (first | exact trivial | exact rfl | (refine ⟨Or.inl rfl, ?_⟩) | (refine ⟨Or.inr rfl, ?_⟩) | (refine ⟨Or.inr trivial, ?_⟩) | (refine ⟨rfl, ?_⟩) | (refine ⟨?_, ?_⟩))))
        | (have e1 : ¬ (x.sl.b = y.sl.b ∧ x.sl.r = y.sl.r ∧ y.sl.t < x.sl.t ∧ y.p ≤ port) := by rintro ⟨g1, g2, g3, g4⟩; omega
           refine ⟨j + 1, by omega, by omega, ?_, by (repeat' (first | exact trivial | exact rfl | (refine ⟨Or.inl rfl, ?_⟩) | (refine ⟨Or.inr rfl, ?_⟩) | (refine ⟨Or.inr trivial, ?_⟩) | (refine ⟨rfl, ?_⟩) | (refine ⟨?_, ?_⟩))), by (repeat' (first | exact trivial | exact rfl | (refine ⟨Or.inl rfl, ?_⟩) | (refine ⟨Or.inr rfl, ?_⟩) | (refine ⟨Or.inr trivial, ?_⟩) | (refine ⟨rfl, ?_⟩) | (refine ⟨?_, ?_⟩))), by (repeat' (first | exact trivial | exact rfl | (refine ⟨Or.inl rfl, ?_⟩) | (refine ⟨Or.inr rfl, ?_⟩) | (refine ⟨Or.inr trivial, ?_⟩) | (refine ⟨rfl, ?_⟩) | (refine ⟨?_, ?_⟩)))⟩
           rw [t2, decide_eq_false e1, Bool.or_false]; (repeat' (first | exact trivial | exact rfl | (refine ⟨Or.inl rfl, ?_⟩) | (refine ⟨Or.inr rfl, ?_⟩) | (refine ⟨Or.inr trivial, ?_⟩) | (refine ⟨rfl, ?_⟩) | (refine ⟨?_, ?_⟩))))
        | trace_state
    · have : j = M.length := by omega
      subst this
      rw [List.take_length]
      have hg : gOver M port x = if (M.any fun y => decide (x.sl.b = y.sl.b ∧ x.sl.r = y.sl.r ∧ y.sl.t < x.sl.t ∧ y.p ≤ port)) = true ∧ x.p > port then 1 else 0 := rfl
      generalize (M.any fun y => decide (x.sl.b = y.sl.b ∧ x.sl.r = y.sl.r ∧ y.sl.t < x.sl.t ∧ y.p ≤ port)) = lv at hg
      repeat' (first | ((with_reducible refine gA ?_); (first | refine AW_seq ?_ | refine AW_region ?_ | refine AW_condF rfl ?_ | (refine AW_cond rfl (fun hc => ?_) (fun hc => ?_) <;> try (exfalso; simp only [cmpL] at hc; omega)) | refine AW_skip ?_ | refine AW_exit ?_)) | ((with_reducible refine gS ?_); refine Es_s (T := Tryd.tab) rfl rfl rfl rfl ?_) | (((with_reducible refine gS ?_); apply Es_q); rfl; (first | rfl | (refine w_tt ?_; assumption)); (first | refine LStep_simp (T := Tryd.tab) rfl rfl | refine LStep_lenM (T := Tryd.tab) rfl rfl rfl rfl | (refine LStep_add rfl rfl rfl rfl ?_; (refine IntWalk.i64_in _ ?_; first | omega | (simp only [cmps] at *; omega))) | (refine LStep_pickT rfl rfl ?_ rfl rfl; assumption) | (refine LStep_pickF rfl rfl ?_ rfl rfl; assumption) | (refine LStep_indexM (T := Tryd.tab) (c := ?_) rfl rfl rfl rfl rfl rfl ?_; rotate_left; assumption))) | (refine Es_skip rfl ?_ rfl ?_; (first | rfl | (refine w_tf ?_; assumption) | (refine w_ft ?_; assumption))) | (refine Es_split rfl ?_ (fun _ => ?_) (fun _ => ?_); ((fail_if_success (refine und_t ?_; assumption)); (fail_if_success (refine und_f ?_; assumption)); exact trivial)) | (with_reducible refine Es_nil ?_) | (with_reducible refine then_n ?_) | (with_reducible refine then_e ?_) | (with_reducible refine block_n ?_) | ((with_reducible refine block_e ?_ ?_); rfl))
      all_goals simp only [cmps] at *
      all_goals first
        | (have e1 : lv = true := by assumption
           have e2 : x.p > port := by omega
           refine ⟨k + 1, by omega, by omega, ?_, by (repeat' (first | exact trivial | exact rfl | (refine ⟨Or.inl rfl, ?_⟩) | (refine ⟨Or.inr rfl, ?_⟩) | (refine ⟨Or.inr trivial, ?_⟩) | (refine ⟨rfl, ?_⟩) | (refine ⟨?_, ?_⟩))), by (repeat' (first | exact trivial | exact rfl | (refine ⟨Or.inl rfl, ?_⟩) | (refine ⟨Or.inr rfl, ?_⟩) | (refine ⟨Or.inr trivial, ?_⟩) | (refine ⟨rfl, ?_⟩) | (refine ⟨?_, ?_⟩))), by (repeat' (first | exact trivial | exact rfl | (refine ⟨Or.inl rfl, ?_⟩) | (refine ⟨Or.inr rfl, ?_⟩) | (refine ⟨Or.inr trivial, ?_⟩) | (refine ⟨rfl, ?_⟩) | (refine ⟨?_, ?_⟩)))⟩
           rw [ht, hg, if_pos ⟨e1, e2⟩]; (repeat' (first | exact trivial | exact rfl | (refine ⟨Or.inl rfl, ?_⟩) | (refine ⟨Or.inr rfl, ?_⟩) | (refine ⟨Or.inr trivial, ?_⟩) | (refine ⟨rfl, ?_⟩) | (refine ⟨?_, ?_⟩))))
        | (have e1 : lv = false := by assumption
           refine ⟨k + 1, by omega, by omega, ?_, by (repeat' (first | exact trivial | exact rfl | (refine ⟨Or.inl rfl, ?_⟩) | (refine ⟨Or.inr rfl, ?_⟩) | (refine ⟨Or.inr trivial, ?_⟩) | (refine ⟨rfl, ?_⟩) | (refine ⟨?_, ?_⟩))), by (repeat' (first | exact trivial | exact rfl | (refine ⟨Or.inl rfl, ?_⟩) | (refine ⟨Or.inr rfl, ?_⟩) | (refine ⟨Or.inr trivial, ?_⟩) | (refine ⟨rfl, ?_⟩) | (refine ⟨?_, ?_⟩))), by (repeat' (first | exact trivial | exact rfl | (refine ⟨Or.inl rfl, ?_⟩) | (refine ⟨Or.inr rfl, ?_⟩) | (refine ⟨Or.inr trivial, ?_⟩) | (refine ⟨rfl, ?_⟩) | (refine ⟨?_, ?_⟩)))⟩
           rw [ht, hg, if_neg (by rw [e1]; simp), Int.add_zero]; (repeat' (first | exact trivial | exact rfl | (refine ⟨Or.inl rfl, ?_⟩) | (refine ⟨Or.inr rfl, ?_⟩) | (refine ⟨Or.inr trivial, ?_⟩) | (refine ⟨rfl, ?_⟩) | (refine ⟨?_, ?_⟩))))
        | (have e2 : ¬ x.p > port := by omega
           refine ⟨k + 1, by omega, by omega, ?_, by (repeat' (first | exact trivial | exact rfl | (refine ⟨Or.inl rfl, ?_⟩) | (refine ⟨Or.inr rfl, ?_⟩) | (refine ⟨Or.inr trivial, ?_⟩) | (refine ⟨rfl, ?_⟩) | (refine ⟨?_, ?_⟩))), by (repeat' (first | exact trivial | exact rfl | (refine ⟨Or.inl rfl, ?_⟩) | (refine ⟨Or.inr rfl, ?_⟩) | (refine ⟨Or.inr trivial, ?_⟩) | (refine ⟨rfl, ?_⟩) | (refine ⟨?_, ?_⟩))), by (repeat' (first | exact trivial | exact rfl | (refine ⟨Or.inl rfl, ?_⟩) | (refine ⟨Or.inr rfl, ?_⟩) | (refine ⟨Or.inr trivial, ?_⟩) | (refine ⟨rfl, ?_⟩) | (refine ⟨?_, ?_⟩)))⟩
           rw [ht, hg, if_neg (fun h => e2 h.2), Int.add_zero]; (repeat' (first | exact trivial | exact rfl | (refine ⟨Or.inl rfl, ?_⟩) | (refine ⟨Or.inr rfl, ?_⟩) | (refine ⟨Or.inr trivial, ?_⟩) | (refine ⟨rfl, ?_⟩) | (refine ⟨?_, ?_⟩))))
        | trace_state
  · have : k = M.length := by omega
    subst this
    rw [List.take_length, hov]
    repeat' (first | ((with_reducible refine gA ?_); (first | refine AW_seq ?_ | refine AW_region ?_ | (refine AW_cond rfl (fun hc => ?_) (fun hc => ?_) <;> try (exfalso; simp only [cmpL] at hc; omega)) | refine AW_ret ?_ | refine AW_exit ?_)) | ((with_reducible refine gS ?_); refine Es_s (T := Tryd.tab) rfl rfl rfl rfl ?_) | (((with_reducible refine gS ?_); apply Es_q); rfl; rfl; refine LStep_lenM (T := Tryd.tab) rfl rfl rfl rfl) | (with_reducible refine Es_nil ?_) | (with_reducible refine then_n ?_) | (with_reducible refine then_e ?_) | ((with_reducible refine block_e ?_ ?_); rfl) | ((with_reducible refine gR ?_); first | refine ret1 rfl ?_ | refine ret2 rfl rfl ?_ | refine ret0 ?_ | refine end1 rfl ?_ | refine end0 ?_))
    all_goals first
      | rfl
      | trace_state
end Go.Proofs.YtgikjdkdakfnkaaDoor
namespace Go.Proofs.YtgikjdkdakfnkaaDoor
open Go.SL
/-! ### places: plain -/
theorem fI_none {p : Load → Bool} : ∀ {l : List Load} {i : Int}, (∀ x ∈ l, p x = false) → fI p l i = -1
  | [], _, _ => rfl
  | x :: l, i, h => by
    rw [fI, if_neg (by rw [h x List.mem_cons_self]; decide), fI_none (fun y hy => h y (List.mem_cons_of_mem _ hy))]
theorem fI_some {p : Load → Bool} : ∀ {l : List Load} {i : Int}, (∃ x ∈ l, p x = true) → ∃ (j : Nat) (x : Load), l[j]? = some x ∧ p x = true ∧ fI p l i = i + j
  | [], _, ⟨x, hx, _⟩ => by cases hx
  | y :: l, i, ⟨x, hx, hp⟩ => by
    by_cases h : p y = true
    · exact ⟨0, y, rfl, h, by rw [fI, if_pos h]; simp⟩
    · have hx' : x ∈ l := (List.mem_cons.1 hx).resolve_left (fun e => h (e ▸ hp))
      obtain ⟨j, z, h1, h2, h3⟩ := fI_some (i := i + 1) ⟨x, hx', hp⟩
      refine ⟨j + 1, z, by simpa using h1, h2, ?_⟩
      rw [fI, if_neg h, h3, Int.natCast_succ]
      omega
theorem at_place {M : List Load} (hn : (M.map (·.sl)).Nodup) (s : Sl) : (atS M s = none ∧ fI (fun y => y.sl.eqB s) M 0 = -1) ∨ ∃ (j : Nat) (y : Load), M[j]? = some y ∧ atS M s = some y ∧ fI (fun y => y.sl.eqB s) M 0 = (j : Nat) := by
  cases hq : atS M s with
  | none =>
    refine .inl ⟨rfl, fI_none (fun x hx => ?_)⟩
    rw [sl_eqB, decide_eq_false_iff_not]
    exact atS_none.1 hq x hx
  | some y =>
    obtain ⟨h1, h2⟩ := (atS_some hn).1 hq
    obtain ⟨j, z, g1, g2, g3⟩ := fI_some (p := fun y => y.sl.eqB s) (i := 0) ⟨y, h1, by rw [sl_eqB, decide_eq_true_eq]; exact h2⟩
    rw [sl_eqB, decide_eq_true_eq] at g2
    have := (atS_some hn).2 ⟨List.mem_of_getElem? g1, g2⟩
    rw [hq] at this
    injection this with this
    subst this
    exact .inr ⟨j, y, g1, rfl, by rw [g3]; simp⟩
theorem by_place {M : List Load} (hn : (M.map (·.box)).Nodup) (s : ByteArray) : (byB M s = none ∧ fI (fun y => eqs y.box s) M 0 = -1) ∨ ∃ (j : Nat) (y : Load), M[j]? = some y ∧ byB M s = some y ∧ fI (fun y => eqs y.box s) M 0 = (j : Nat) := by
  cases hq : byB M s with
  | none =>
    refine .inl ⟨rfl, fI_none (fun x hx => ?_)⟩
    cases h : eqs x.box s with
    | false => rfl
    | true => exact absurd (eqs_t.1 h) (byB_none.1 hq x hx)
  | some y =>
    obtain ⟨h1, h2⟩ := (byB_some hn).1 hq
    obtain ⟨j, z, g1, g2, g3⟩ := fI_some (p := fun y => eqs y.box s) (i := 0) ⟨y, h1, eqs_t.2 h2⟩
    have := (byB_some hn).2 ⟨List.mem_of_getElem? g1, eqs_t.1 g2⟩
    rw [hq] at this
    injection this with this
    subst this
    exact .inr ⟨j, y, g1, rfl, by rw [g3]; simp⟩
end Go.Proofs.YtgikjdkdakfnkaaDoor
