import Derived.Test.YtgikjdkdakfnkaaDoorA8
namespace Go.Proofs.YtgikjdkdakfnkaaDoor
open Go.SL
/-! ### what lies apart -/
def offCs : List AV := [.d (.sc (.int .i64 0)), .d (.sc (.int .i64 0)), .d (.sc (.int .i64 0)), .d (.sc (.int .i64 (-1))), .d (.sc (.int .i64 0)), .d (.sc (.int .i64 0)), .d (.sc (.int .i64 1)), .d (.sc (.int .i64 0)), .d (.sc (.int .i64 0)), .d (.sc (.int .i64 0)), .d (.sc (.int .i64 (-1))), .d (.sc (.int .i64 0)), .d (.sc (.int .i64 0)), .d (.sc (.int .i64 1)), .d (.sc (.int .i64 0))]
theorem off_at {k : Nat} {o : Int × Int} (h : offs[k]? = some o) : Nat.blt k 5 = true ∧ Nat.ble (k * 3 + 3) offCs.length = true ∧ (offCs.drop (k * 3)).take 3 = [.d (.sc (.int .i64 o.1)), .d (.sc (.int .i64 o.2)), .d (.sc (.int .i64 0))] ∧ (-1 ≤ o.1 ∧ o.1 ≤ 1) ∧ (-1 ≤ o.2 ∧ o.2 ≤ 1) := by
  match k, h with
  | 0, h => cases h; exact ⟨rfl, rfl, rfl, by decide, by decide⟩
  | 1, h => cases h; exact ⟨rfl, rfl, rfl, by decide, by decide⟩
  | 2, h => cases h; exact ⟨rfl, rfl, rfl, by decide, by decide⟩
  | 3, h => cases h; exact ⟨rfl, rfl, rfl, by decide, by decide⟩
  | 4, h => cases h; exact ⟨rfl, rfl, rfl, by decide, by decide⟩
  | k + 5, h => cases h
set_option maxRecDepth 10000 in
set_option maxHeartbeats 4000000 in
theorem hapart_ac (S : Ship) (L : List Load) (x : Load) (hb : 0 ≤ x.sl.b ∧ x.sl.b ≤ 1048576) (hr : 0 ≤ x.sl.r ∧ x.sl.r ≤ 1048576) : AC Tryd.prog 57 [.ptr 1000 0, .agg x.cs2] (hB S L ++ [hG]) [1000, 1001, 1002, 9000] (fun v h' => v = .d (.sc (.bool (clashP L x))) ∧ SubH (hB S L ++ [hG]) h') := by
  refine AC_enter Tryd.func57 rfl Tryd.ntmps57 (rv := [.tmp 4]) rfl rfl (by simp) (fun w X G => ?_)
  repeat' (first | ((with_reducible refine gA ?_); (first | refine AW_seq ?_ | refine AW_region ?_ | refine AW_block ?_)) | ((with_reducible refine gS ?_); refine Es_s (T := Tryd.tab) rfl rfl rfl rfl ?_) | (((with_reducible refine gS ?_); apply Es_q); rfl; rfl; refine LStep_buildArr (T := Tryd.tab) rfl rfl rfl rfl rfl rfl) | (((with_reducible refine gS ?_); apply Es_q); rfl; rfl; refine LStep_buildN (T := Tryd.tab) rfl rfl rfl rfl rfl rfl rfl) | (refine Es_skip rfl ?_ rfl ?_; (first | rfl | (refine w_tf ?_; assumption) | (refine w_ft ?_; assumption))) | (((with_reducible refine gS ?_); apply Es_xs); rfl; rfl; refine LStep_boxN rfl rfl rfl rfl rfl rfl; rfl) | (with_reducible refine Es_nil ?_) | (with_reducible refine then_n ?_))
  refine AW_forE (S := Nat) (fun k => k ≤ offs.length ∧ (offs.take k).any (stAny L x) = false) (fun k => [(15, .d (.sc (.int .i64 (k : Nat))))]) (fun _ => []) (fun k => offs.length - k) 0 ⟨by omega, rfl⟩ (by (repeat' (first | exact trivial | exact rfl | (refine ⟨Or.inl rfl, ?_⟩) | (refine ⟨Or.inr rfl, ?_⟩) | (refine ⟨Or.inr trivial, ?_⟩) | (refine ⟨rfl, ?_⟩) | (refine ⟨?_, ?_⟩)))) (by (repeat' (first | exact trivial | exact rfl | (refine ⟨Or.inl rfl, ?_⟩) | (refine ⟨Or.inr rfl, ?_⟩) | (refine ⟨Or.inr trivial, ?_⟩) | (refine ⟨rfl, ?_⟩) | (refine ⟨?_, ?_⟩)))) ?_
  intro k ⟨hk, hf⟩
  have h5 : offs.length = 5 := rfl
  by_cases hlt : k < offs.length
  · obtain ⟨o, ho, _⟩ := drop_at hlt
    obtain ⟨o1, o2, o3, o4, o5⟩ := off_at ho
    obtain ⟨hy, hn⟩ := any_takeB (f := stAny L x) ho hf
    have cs := stack_ac S L (x.sl.b + o.1) (x.sl.r + o.2)
    have h32 := stack_len L (x.sl.b + o.1) (x.sl.r + o.2)
    unfold stAny at hy hn
    generalize stackL L (x.sl.b + o.1) (x.sl.r + o.2) = l at hy hn cs h32
    repeat' (first | ((with_reducible refine gA ?_); (first | refine AW_seq ?_ | refine AW_region ?_ | (refine AW_cond rfl (fun hc => ?_) (fun hc => ?_) <;> try (exfalso; simp only [cmpL] at hc; omega)) | refine AW_block ?_ | refine AW_skip ?_)) | ((with_reducible refine gS ?_); refine Es_s (T := Tryd.tab) rfl rfl rfl rfl ?_) | (((with_reducible refine gS ?_); apply Es_q); rfl; rfl; refine LStep_idxArrA (T := Tryd.tab) (k := k) rfl rfl rfl rfl rfl rfl rfl o1 o2 o3) | (((with_reducible refine gS ?_); apply Es_xg); rfl; rfl; refine LStep_callHN [] [] cs rfl rfl ⟨rfl, rfl, rfl, trivial⟩ rfl ⟨trivial, trivial, trivial, trivial⟩ rfl rfl; rfl) | (((with_reducible refine gS ?_); apply Es_q); rfl; rfl; (first | refine LStep_lenM (T := Tryd.tab) rfl rfl rfl rfl | (refine LStep_add rfl rfl rfl rfl ?_; (refine IntWalk.i64_in _ ?_; first | omega | (simp only [cmps] at *; omega))))) | (refine Es_skip rfl ?_ rfl ?_; (first | rfl | (refine w_tf ?_; assumption) | (refine w_ft ?_; assumption))) | (((with_reducible refine gS ?_); apply Es_xs); rfl; rfl; refine LStep_allocN (T := Tryd.tab) rfl rfl rfl rfl rfl rfl; rfl) | (((with_reducible refine gS ?_); apply Es_xn); rfl; rfl; (refine LStep_storeN (T := Tryd.tab) rfl rfl rfl rfl rfl rfl rfl ?_ rfl; (refine Nat.le_of_ble_eq_true ?_; rfl)); rfl) | (with_reducible refine Es_nil ?_) | (with_reducible refine then_n ?_))
    refine AW_forE (S := Nat) (fun j => j ≤ l.length ∧ (l.take j).any (fun y => apB x.c y.c) = false) (fun j => [(33, .d (.sc (.int .i64 (j : Nat))))]) (fun _ => []) (fun j => l.length - j) 0 ⟨by omega, rfl⟩ (by (repeat' (first | exact trivial | exact rfl | (refine ⟨Or.inl rfl, ?_⟩) | (refine ⟨Or.inr rfl, ?_⟩) | (refine ⟨Or.inr trivial, ?_⟩) | (refine ⟨rfl, ?_⟩) | (refine ⟨?_, ?_⟩)))) (by (repeat' (first | exact trivial | exact rfl | (refine ⟨Or.inl rfl, ?_⟩) | (refine ⟨Or.inr rfl, ?_⟩) | (refine ⟨Or.inr trivial, ?_⟩) | (refine ⟨rfl, ?_⟩) | (refine ⟨?_, ?_⟩)))) ?_
    intro j ⟨hj, hg⟩
    by_cases hlj : j < l.length
    · obtain ⟨y, hyl, _⟩ := drop_at hlj
      obtain ⟨hy2, hn2⟩ := any_takeB (f := fun y : Load => apB x.c y.c) hyl hg
      have ca := apart_ac x.c y.c
      repeat' (first | ((with_reducible refine gA ?_); (first | refine AW_seq ?_ | refine AW_region ?_ | (refine AW_cond rfl (fun hc => ?_) (fun hc => ?_) <;> try (exfalso; simp only [cmpL] at hc; omega)) | refine AW_block ?_ | refine AW_ret ?_ | refine AW_skip ?_)) | ((with_reducible refine gS ?_); refine Es_s (T := Tryd.tab) rfl rfl rfl rfl ?_) | (((with_reducible refine gS ?_); apply Es_xg); rfl; rfl; refine LStep_callHN [] [] ca rfl rfl ⟨rfl, trivial⟩ rfl ⟨trivial, trivial⟩ rfl rfl; rfl) | (((with_reducible refine gS ?_); apply Es_q); rfl; rfl; (first | (refine LStep_add rfl rfl rfl rfl ?_; (refine IntWalk.i64_in _ ?_; first | omega | (simp only [cmps] at *; omega))) | (refine LStep_indexM (T := Tryd.tab) (c := ?_) rfl rfl rfl rfl rfl rfl ?_; rotate_left; assumption))) | (refine Es_skip rfl ?_ rfl ?_; (first | rfl | (refine w_tf ?_; assumption) | (refine w_ft ?_; assumption))) | (((with_reducible refine gS ?_); apply Es_xs); rfl; rfl; refine LStep_allocN (T := Tryd.tab) rfl rfl rfl rfl rfl rfl; rfl) | (((with_reducible refine gS ?_); apply Es_xn); rfl; rfl; (refine LStep_storeN (T := Tryd.tab) rfl rfl rfl rfl rfl rfl rfl ?_ rfl; (refine Nat.le_of_ble_eq_true ?_; rfl)); rfl) | (with_reducible refine Es_nil ?_) | (with_reducible refine then_n ?_) | (with_reducible refine then_r ?_) | (with_reducible refine block_n ?_) | (with_reducible refine block_r ?_) | ((with_reducible refine gR ?_); first | refine ret1 rfl ?_ | refine ret2 rfl rfl ?_ | refine ret0 ?_ | refine end1 rfl ?_ | refine end0 ?_))
      all_goals first
        | (have hq : (apB x.c y.c) = true := by assumption
           have h9 : clashP L x = true := hn (hn2 hq)
           rw [h9]; exact ⟨rfl, by (repeat' (first | exact trivial | exact rfl | (refine ⟨Or.inl rfl, ?_⟩) | (refine ⟨Or.inr rfl, ?_⟩) | (refine ⟨Or.inr trivial, ?_⟩) | (refine ⟨rfl, ?_⟩) | (refine ⟨?_, ?_⟩)))⟩)
        | (have hq : (apB x.c y.c) = false := by assumption
           refine ⟨j + 1, ?_, by omega, by (repeat' (first | exact trivial | exact rfl | (refine ⟨Or.inl rfl, ?_⟩) | (refine ⟨Or.inr rfl, ?_⟩) | (refine ⟨Or.inr trivial, ?_⟩) | (refine ⟨rfl, ?_⟩) | (refine ⟨?_, ?_⟩))), by (repeat' (first | exact trivial | exact rfl | (refine ⟨Or.inl rfl, ?_⟩) | (refine ⟨Or.inr rfl, ?_⟩) | (refine ⟨Or.inr trivial, ?_⟩) | (refine ⟨rfl, ?_⟩) | (refine ⟨?_, ?_⟩))), by (repeat' (first | exact trivial | exact rfl | (refine ⟨Or.inl rfl, ?_⟩) | (refine ⟨Or.inr rfl, ?_⟩) | (refine ⟨Or.inr trivial, ?_⟩) | (refine ⟨rfl, ?_⟩) | (refine ⟨?_, ?_⟩))), by (repeat' (first | exact trivial | exact rfl | (refine ⟨Or.inl rfl, ?_⟩) | (refine ⟨Or.inr rfl, ?_⟩) | (refine ⟨Or.inr trivial, ?_⟩) | (refine ⟨rfl, ?_⟩) | (refine ⟨?_, ?_⟩)))⟩; exact ⟨by omega, hy2 hq⟩)
        | trace_state
    · have : j = l.length := by omega
      subst this
      rw [List.take_length] at hg
      repeat' (first | ((with_reducible refine gA ?_); (first | refine AW_seq ?_ | refine AW_region ?_ | (refine AW_cond rfl (fun hc => ?_) (fun hc => ?_) <;> try (exfalso; simp only [cmpL] at hc; omega)) | refine AW_exit ?_)) | ((with_reducible refine gS ?_); refine Es_s (T := Tryd.tab) rfl rfl rfl rfl ?_) | (((with_reducible refine gS ?_); apply Es_q); rfl; rfl; (refine LStep_add rfl rfl rfl rfl ?_; (refine IntWalk.i64_in _ ?_; first | omega | (simp only [cmps] at *; omega)))) | (with_reducible refine Es_nil ?_) | (with_reducible refine then_n ?_) | (with_reducible refine then_e ?_) | (with_reducible refine block_n ?_) | ((with_reducible refine block_e ?_ ?_); rfl))
      all_goals first
        | (refine ⟨k + 1, ?_, by omega, by (repeat' (first | exact trivial | exact rfl | (refine ⟨Or.inl rfl, ?_⟩) | (refine ⟨Or.inr rfl, ?_⟩) | (refine ⟨Or.inr trivial, ?_⟩) | (refine ⟨rfl, ?_⟩) | (refine ⟨?_, ?_⟩))), by (repeat' (first | exact trivial | exact rfl | (refine ⟨Or.inl rfl, ?_⟩) | (refine ⟨Or.inr rfl, ?_⟩) | (refine ⟨Or.inr trivial, ?_⟩) | (refine ⟨rfl, ?_⟩) | (refine ⟨?_, ?_⟩))), by (repeat' (first | exact trivial | exact rfl | (refine ⟨Or.inl rfl, ?_⟩) | (refine ⟨Or.inr rfl, ?_⟩) | (refine ⟨Or.inr trivial, ?_⟩) | (refine ⟨rfl, ?_⟩) | (refine ⟨?_, ?_⟩))), by (repeat' (first | exact trivial | exact rfl | (refine ⟨Or.inl rfl, ?_⟩) | (refine ⟨Or.inr rfl, ?_⟩) | (refine ⟨Or.inr trivial, ?_⟩) | (refine ⟨rfl, ?_⟩) | (refine ⟨?_, ?_⟩)))⟩; exact ⟨by omega, hy hg⟩)
        | trace_state
  · have : k = offs.length := by omega
    subst this
    rw [List.take_length] at hf
    have h9 : clashP L x = false := hf
    rw [h9]
    repeat' (first | ((with_reducible refine gA ?_); (first | refine AW_seq ?_ | refine AW_region ?_ | (refine AW_cond rfl (fun hc => ?_) (fun hc => ?_) <;> try (exfalso; simp only [cmpL] at hc; omega)) | refine AW_ret ?_ | refine AW_exit ?_)) | ((with_reducible refine gS ?_); refine Es_s (T := Tryd.tab) rfl rfl rfl rfl ?_) | (with_reducible refine Es_nil ?_) | (with_reducible refine then_n ?_) | (with_reducible refine then_e ?_) | ((with_reducible refine block_e ?_ ?_); rfl) | ((with_reducible refine gR ?_); first | refine ret1 rfl ?_ | refine ret2 rfl rfl ?_ | refine ret0 ?_ | refine end1 rfl ?_ | refine end0 ?_))
    all_goals first
      | exact ⟨rfl, by (repeat' (first | exact trivial | exact rfl | (refine ⟨Or.inl rfl, ?_⟩) | (refine ⟨Or.inr rfl, ?_⟩) | (refine ⟨Or.inr trivial, ?_⟩) | (refine ⟨rfl, ?_⟩) | (refine ⟨?_, ?_⟩)))⟩
      | trace_state
end Go.Proofs.YtgikjdkdakfnkaaDoor
