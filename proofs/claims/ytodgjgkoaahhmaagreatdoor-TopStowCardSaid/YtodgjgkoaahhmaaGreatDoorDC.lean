import Derived.Test.YtodgjgkoaahhmaaGreatDoorDA
import Derived.Test.YtodgjgkoaahhmaaGreatDoorDB
import Derived.Test.YtodgjgkoaahhmaaGreatDoorAL
import Derived.Test.YtodgjgkoaahhmaaGreatDoorAK
namespace Go.Proofs.YtodgjgkoaahhmaaGreatDoor
open Go.SL
/-! ### cmp at strings, cmp.Or of four; slices.Clone at loads -/
theorem isNaNs_ac (a : ByteArray) : AC Tryz.prog 74 [.d (.sc (.string a))] [] [] (fun r _ => r = .d (.sc (.bool false))) := by
  refine AC_enter Tryz.func74 rfl Tryz.ntmps74 (rv := [.tmp 2]) rfl rfl (by simp) (fun w X G => ?_)
  repeat' (first | ((with_reducible refine gA ?_); (first | refine AW_seq ?_ | refine AW_region ?_ | refine AW_ret ?_)) | (((with_reducible refine gS ?_); apply Es_q); rfl; rfl; refine LStep_neqSF rfl rfl rfl rfl rfl) | ((with_reducible refine gS ?_); refine Es_s (T := Tryz.tab) rfl rfl rfl rfl ?_) | (with_reducible refine Es_nil ?_) | (with_reducible refine then_n ?_) | ((with_reducible refine gR ?_); first | refine ret1 rfl ?_ | refine ret2 rfl rfl ?_ | refine ret0 ?_ | refine end1 rfl ?_ | refine end0 ?_))
  rfl
set_option maxRecDepth 10000 in
theorem compareS_ac (a b : ByteArray) : AC Tryz.prog 39 [.d (.sc (.string a)), .d (.sc (.string b))] [] [] (fun r _ => r = .d (.sc (.int .i64 (cmpS a b)))) := by
  refine AC_enter Tryz.func39 rfl Tryz.ntmps39 (rv := [.tmp 4]) rfl rfl (by simp) (fun w X G => ?_)
  repeat' (first | ((with_reducible refine gA ?_); (first | refine AW_seq ?_ | refine AW_region ?_ | refine AW_condF rfl ?_ | (refine AW_cond rfl (fun hc => ?_) (fun hc => ?_) <;> try (exfalso; simp only [cmpL] at hc; omega)) | refine AW_ret ?_ | refine AW_skip ?_)) | ((with_reducible refine gS ?_); refine Es_s (T := Tryz.tab) rfl rfl rfl rfl ?_) | (((with_reducible refine gS ?_); apply Es_q); rfl; rfl; (first | refine LStep_call (isNaNs_ac _) rfl rfl rfl rfl | refine LStep_gtrS rfl rfl rfl rfl)) | (with_reducible refine Es_nil ?_) | (with_reducible refine then_n ?_) | (with_reducible refine then_r ?_) | ((with_reducible refine gR ?_); first | refine ret1 rfl ?_ | refine ret2 rfl rfl ?_ | refine ret0 ?_ | refine end1 rfl ?_ | refine end0 ?_))
  · have h : lts a b = true := by assumption
    rw [cmpS, if_pos h]
  · have h : lts a b = false := by assumption
    have h2 : lts b a = true := by assumption
    rw [cmpS, if_neg (by rw [h]; simp), if_pos h2]
  · have h : lts a b = false := by assumption
    have h2 : lts b a = false := by assumption
    rw [cmpS, if_neg (by rw [h]; simp), if_neg (by rw [h2]; simp)]
set_option maxRecDepth 10000 in
theorem or4_ac (a b c d : Int) : AC Tryz.prog 37 [.d (.sl 1 [[.sc (.int .i64 a)], [.sc (.int .i64 b)], [.sc (.int .i64 c)], [.sc (.int .i64 d)]])] [] [] (fun r _ => r = .d (.sc (.int .i64 (if a ≠ 0 then a else if b ≠ 0 then b else if c ≠ 0 then c else d)))) := by
  refine AC_enter Tryz.func37 rfl Tryz.ntmps37 (rv := [.tmp 2]) rfl rfl (by simp) (fun w X G => ?_)
  repeat' (first | ((with_reducible refine gA ?_); (first | refine AW_seq ?_ | refine AW_region ?_ | refine AW_block ?_)) | ((with_reducible refine gS ?_); refine Es_s (T := Tryz.tab) rfl rfl rfl rfl ?_) | (((with_reducible refine gS ?_); apply Es_q); rfl; rfl; refine LStep_wrap (T := Tryz.tab) rfl rfl) | (with_reducible refine Es_nil ?_) | (with_reducible refine then_n ?_))
  refine AW_forE (S := Nat) (fun k => k ≤ 4 ∧ (0 < k → a = 0) ∧ (1 < k → b = 0) ∧ (2 < k → c = 0) ∧ (3 < k → d = 0)) (fun k => [(8, .d (.sc (.int .i64 (k : Nat))))]) (fun _ => []) (fun k => 4 - k) 0 ⟨by omega, by omega, by omega, by omega, by omega⟩ (by (repeat' (first | exact trivial | exact rfl | (refine ⟨Or.inl rfl, ?_⟩) | (refine ⟨Or.inr rfl, ?_⟩) | (refine ⟨Or.inr trivial, ?_⟩) | (refine ⟨rfl, ?_⟩) | (refine ⟨?_, ?_⟩)))) (by (repeat' (first | exact trivial | exact rfl | (refine ⟨Or.inl rfl, ?_⟩) | (refine ⟨Or.inr rfl, ?_⟩) | (refine ⟨Or.inr trivial, ?_⟩) | (refine ⟨rfl, ?_⟩) | (refine ⟨?_, ?_⟩)))) ?_
  intro k ⟨hk, hf, hg, hh, hh2⟩
  match k, hk with
  | 0, _ =>
    repeat' (first | ((with_reducible refine gA ?_); (first | refine AW_seq ?_ | refine AW_region ?_ | (refine AW_cond rfl (fun hc => ?_) (fun hc => ?_) <;> try (exfalso; simp only [cmpL] at hc; omega)) | refine AW_block ?_ | refine AW_ret ?_ | refine AW_skip ?_)) | ((with_reducible refine gS ?_); refine Es_s (T := Tryz.tab) rfl rfl rfl rfl ?_) | (((with_reducible refine gS ?_); apply Es_q); rfl; rfl; (first | (refine LStep_add rfl rfl rfl rfl ?_; (refine IntWalk.i64_in _ ?_; first | omega | (simp only [cmps] at *; omega))) | (refine LStep_index (T := Tryz.tab) (c := ?_) rfl rfl rfl rfl rfl rfl ?_ ?_; rotate_left; omega; (first | assumption | rfl)))) | (with_reducible refine Es_nil ?_) | (with_reducible refine then_n ?_) | (with_reducible refine then_r ?_) | (with_reducible refine block_n ?_) | (with_reducible refine block_r ?_) | ((with_reducible refine gR ?_); first | refine ret1 rfl ?_ | refine ret2 rfl rfl ?_ | refine ret0 ?_ | refine end1 rfl ?_ | refine end0 ?_))
    all_goals simp only [cmps] at *
    all_goals first
      | (rw [if_pos (by omega)]; done)
      | (refine ⟨1, ?_, by omega, by (repeat' (first | exact trivial | exact rfl | (refine ⟨Or.inl rfl, ?_⟩) | (refine ⟨Or.inr rfl, ?_⟩) | (refine ⟨Or.inr trivial, ?_⟩) | (refine ⟨rfl, ?_⟩) | (refine ⟨?_, ?_⟩))), by (repeat' (first | exact trivial | exact rfl | (refine ⟨Or.inl rfl, ?_⟩) | (refine ⟨Or.inr rfl, ?_⟩) | (refine ⟨Or.inr trivial, ?_⟩) | (refine ⟨rfl, ?_⟩) | (refine ⟨?_, ?_⟩))), by (repeat' (first | exact trivial | exact rfl | (refine ⟨Or.inl rfl, ?_⟩) | (refine ⟨Or.inr rfl, ?_⟩) | (refine ⟨Or.inr trivial, ?_⟩) | (refine ⟨rfl, ?_⟩) | (refine ⟨?_, ?_⟩))), by (repeat' (first | exact trivial | exact rfl | (refine ⟨Or.inl rfl, ?_⟩) | (refine ⟨Or.inr rfl, ?_⟩) | (refine ⟨Or.inr trivial, ?_⟩) | (refine ⟨rfl, ?_⟩) | (refine ⟨?_, ?_⟩)))⟩; exact ⟨by omega, by omega, by omega, by omega, by omega⟩)
  | 1, _ =>
    repeat' (first | ((with_reducible refine gA ?_); (first | refine AW_seq ?_ | refine AW_region ?_ | (refine AW_cond rfl (fun hc => ?_) (fun hc => ?_) <;> try (exfalso; simp only [cmpL] at hc; omega)) | refine AW_block ?_ | refine AW_ret ?_ | refine AW_skip ?_)) | ((with_reducible refine gS ?_); refine Es_s (T := Tryz.tab) rfl rfl rfl rfl ?_) | (((with_reducible refine gS ?_); apply Es_q); rfl; rfl; (first | (refine LStep_add rfl rfl rfl rfl ?_; (refine IntWalk.i64_in _ ?_; first | omega | (simp only [cmps] at *; omega))) | (refine LStep_index (T := Tryz.tab) (c := ?_) rfl rfl rfl rfl rfl rfl ?_ ?_; rotate_left; omega; (first | assumption | rfl)))) | (with_reducible refine Es_nil ?_) | (with_reducible refine then_n ?_) | (with_reducible refine then_r ?_) | (with_reducible refine block_n ?_) | (with_reducible refine block_r ?_) | ((with_reducible refine gR ?_); first | refine ret1 rfl ?_ | refine ret2 rfl rfl ?_ | refine ret0 ?_ | refine end1 rfl ?_ | refine end0 ?_))
    all_goals simp only [cmps] at *
    all_goals first
      | (rw [if_neg (by omega), if_pos (by omega)]; done)
      | (refine ⟨2, ?_, by omega, by (repeat' (first | exact trivial | exact rfl | (refine ⟨Or.inl rfl, ?_⟩) | (refine ⟨Or.inr rfl, ?_⟩) | (refine ⟨Or.inr trivial, ?_⟩) | (refine ⟨rfl, ?_⟩) | (refine ⟨?_, ?_⟩))), by (repeat' (first | exact trivial | exact rfl | (refine ⟨Or.inl rfl, ?_⟩) | (refine ⟨Or.inr rfl, ?_⟩) | (refine ⟨Or.inr trivial, ?_⟩) | (refine ⟨rfl, ?_⟩) | (refine ⟨?_, ?_⟩))), by (repeat' (first | exact trivial | exact rfl | (refine ⟨Or.inl rfl, ?_⟩) | (refine ⟨Or.inr rfl, ?_⟩) | (refine ⟨Or.inr trivial, ?_⟩) | (refine ⟨rfl, ?_⟩) | (refine ⟨?_, ?_⟩))), by (repeat' (first | exact trivial | exact rfl | (refine ⟨Or.inl rfl, ?_⟩) | (refine ⟨Or.inr rfl, ?_⟩) | (refine ⟨Or.inr trivial, ?_⟩) | (refine ⟨rfl, ?_⟩) | (refine ⟨?_, ?_⟩)))⟩; exact ⟨by omega, by omega, by omega, by omega, by omega⟩)
  | 2, _ =>
    repeat' (first | ((with_reducible refine gA ?_); (first | refine AW_seq ?_ | refine AW_region ?_ | (refine AW_cond rfl (fun hc => ?_) (fun hc => ?_) <;> try (exfalso; simp only [cmpL] at hc; omega)) | refine AW_block ?_ | refine AW_ret ?_ | refine AW_skip ?_)) | ((with_reducible refine gS ?_); refine Es_s (T := Tryz.tab) rfl rfl rfl rfl ?_) | (((with_reducible refine gS ?_); apply Es_q); rfl; rfl; (first | (refine LStep_add rfl rfl rfl rfl ?_; (refine IntWalk.i64_in _ ?_; first | omega | (simp only [cmps] at *; omega))) | (refine LStep_index (T := Tryz.tab) (c := ?_) rfl rfl rfl rfl rfl rfl ?_ ?_; rotate_left; omega; (first | assumption | rfl)))) | (with_reducible refine Es_nil ?_) | (with_reducible refine then_n ?_) | (with_reducible refine then_r ?_) | (with_reducible refine block_n ?_) | (with_reducible refine block_r ?_) | ((with_reducible refine gR ?_); first | refine ret1 rfl ?_ | refine ret2 rfl rfl ?_ | refine ret0 ?_ | refine end1 rfl ?_ | refine end0 ?_))
    all_goals simp only [cmps] at *
    all_goals first
      | (rw [if_neg (by omega), if_neg (by omega), if_pos (by omega)]; done)
      | (refine ⟨3, ?_, by omega, by (repeat' (first | exact trivial | exact rfl | (refine ⟨Or.inl rfl, ?_⟩) | (refine ⟨Or.inr rfl, ?_⟩) | (refine ⟨Or.inr trivial, ?_⟩) | (refine ⟨rfl, ?_⟩) | (refine ⟨?_, ?_⟩))), by (repeat' (first | exact trivial | exact rfl | (refine ⟨Or.inl rfl, ?_⟩) | (refine ⟨Or.inr rfl, ?_⟩) | (refine ⟨Or.inr trivial, ?_⟩) | (refine ⟨rfl, ?_⟩) | (refine ⟨?_, ?_⟩))), by (repeat' (first | exact trivial | exact rfl | (refine ⟨Or.inl rfl, ?_⟩) | (refine ⟨Or.inr rfl, ?_⟩) | (refine ⟨Or.inr trivial, ?_⟩) | (refine ⟨rfl, ?_⟩) | (refine ⟨?_, ?_⟩))), by (repeat' (first | exact trivial | exact rfl | (refine ⟨Or.inl rfl, ?_⟩) | (refine ⟨Or.inr rfl, ?_⟩) | (refine ⟨Or.inr trivial, ?_⟩) | (refine ⟨rfl, ?_⟩) | (refine ⟨?_, ?_⟩)))⟩; exact ⟨by omega, by omega, by omega, by omega, by omega⟩)
  | 3, _ =>
    repeat' (first | ((with_reducible refine gA ?_); (first | refine AW_seq ?_ | refine AW_region ?_ | (refine AW_cond rfl (fun hc => ?_) (fun hc => ?_) <;> try (exfalso; simp only [cmpL] at hc; omega)) | refine AW_block ?_ | refine AW_ret ?_ | refine AW_skip ?_)) | ((with_reducible refine gS ?_); refine Es_s (T := Tryz.tab) rfl rfl rfl rfl ?_) | (((with_reducible refine gS ?_); apply Es_q); rfl; rfl; (first | (refine LStep_add rfl rfl rfl rfl ?_; (refine IntWalk.i64_in _ ?_; first | omega | (simp only [cmps] at *; omega))) | (refine LStep_index (T := Tryz.tab) (c := ?_) rfl rfl rfl rfl rfl rfl ?_ ?_; rotate_left; omega; (first | assumption | rfl)))) | (with_reducible refine Es_nil ?_) | (with_reducible refine then_n ?_) | (with_reducible refine then_r ?_) | (with_reducible refine block_n ?_) | (with_reducible refine block_r ?_) | ((with_reducible refine gR ?_); first | refine ret1 rfl ?_ | refine ret2 rfl rfl ?_ | refine ret0 ?_ | refine end1 rfl ?_ | refine end0 ?_))
    all_goals simp only [cmps] at *
    all_goals first
      | (rw [if_neg (by omega), if_neg (by omega), if_neg (by omega)]; done)
      | (refine ⟨4, ?_, by omega, by (repeat' (first | exact trivial | exact rfl | (refine ⟨Or.inl rfl, ?_⟩) | (refine ⟨Or.inr rfl, ?_⟩) | (refine ⟨Or.inr trivial, ?_⟩) | (refine ⟨rfl, ?_⟩) | (refine ⟨?_, ?_⟩))), by (repeat' (first | exact trivial | exact rfl | (refine ⟨Or.inl rfl, ?_⟩) | (refine ⟨Or.inr rfl, ?_⟩) | (refine ⟨Or.inr trivial, ?_⟩) | (refine ⟨rfl, ?_⟩) | (refine ⟨?_, ?_⟩))), by (repeat' (first | exact trivial | exact rfl | (refine ⟨Or.inl rfl, ?_⟩) | (refine ⟨Or.inr rfl, ?_⟩) | (refine ⟨Or.inr trivial, ?_⟩) | (refine ⟨rfl, ?_⟩) | (refine ⟨?_, ?_⟩))), by (repeat' (first | exact trivial | exact rfl | (refine ⟨Or.inl rfl, ?_⟩) | (refine ⟨Or.inr rfl, ?_⟩) | (refine ⟨Or.inr trivial, ?_⟩) | (refine ⟨rfl, ?_⟩) | (refine ⟨?_, ?_⟩)))⟩; exact ⟨by omega, by omega, by omega, by omega, by omega⟩)
  | 4, _ =>
    repeat' (first | ((with_reducible refine gA ?_); (first | refine AW_seq ?_ | refine AW_region ?_ | (refine AW_cond rfl (fun hc => ?_) (fun hc => ?_) <;> try (exfalso; simp only [cmpL] at hc; omega)) | refine AW_ret ?_ | refine AW_exit ?_)) | ((with_reducible refine gS ?_); refine Es_s (T := Tryz.tab) rfl rfl rfl rfl ?_) | (with_reducible refine Es_nil ?_) | (with_reducible refine then_n ?_) | (with_reducible refine then_e ?_) | ((with_reducible refine block_e ?_ ?_); rfl) | ((with_reducible refine gR ?_); first | refine ret1 rfl ?_ | refine ret2 rfl rfl ?_ | refine ret0 ?_ | refine end1 rfl ?_ | refine end0 ?_))
    all_goals simp only [cmps] at *
    rw [if_neg (by omega), if_neg (by omega), if_neg (by omega), hh2 (by omega)]
set_option maxRecDepth 10000 in
theorem cloneL0_ac : AC Tryz.prog 34 [.d (.sl 7 [])] [] [] (fun r _ => r = .d (.sl 7 [])) := by
  refine AC_enter Tryz.func34 rfl Tryz.ntmps34 (rv := [.tmp 2]) rfl rfl (by simp) (fun w X G => ?_)
  repeat' (first | ((with_reducible refine gS ?_); refine Es_eqNil (T := Tryz.tab) rfl rfl rfl rfl rfl rfl (fun h0 => ?_) ?_) | ((with_reducible refine gRc ?_); first | refine AW_freeze [2] (id := 5) ⟨rfl, trivial⟩ rfl rfl ?_ | refine AW_nilD 7 2 rfl ?_) | ((with_reducible refine gA ?_); (first | refine AW_seq ?_ | refine AW_region ?_ | refine AW_condT rfl ?_ | refine AW_condF rfl ?_ | refine AW_ret ?_ | refine AW_skip ?_)) | ((with_reducible refine gS ?_); refine Es_s (T := Tryz.tab) rfl rfl rfl rfl ?_) | (((with_reducible refine gS ?_); apply Es_xs); rfl; rfl; (first | (refine LStep_litOwn (T := Tryz.tab) (len := 0) rfl rfl rfl rfl rfl rfl rfl rfl rfl rfl ?_ ?_; (refine Nat.le_of_ble_eq_true ?_; rfl); (unfold maxLen; omega)) | (refine LStep_append (T := Tryz.tab) rfl rfl rfl rfl rfl rfl rfl rfl rfl rfl ?_ ?_ ?_; rfl; (simp only [List.length_nil]; omega); (unfold maxLen; simp only [List.length_nil]; omega))); rfl) | (with_reducible refine Es_nil ?_) | (with_reducible refine then_n ?_) | (with_reducible refine then_r ?_) | ((with_reducible refine gR ?_); first | refine ret1 rfl ?_ | refine ret2 rfl rfl ?_ | refine ret0 ?_ | refine end1 rfl ?_ | refine end0 ?_))
  all_goals rfl
set_option maxRecDepth 10000 in
theorem cloneL1_ac (l : List Load) (hl : l.length ≤ 1048576) (hne : l.map Load.enc ≠ []) : AC Tryz.prog 34 [.d (.sl 7 (l.map Load.enc))] [] [] (fun r h' => r = .own 5 (l.map Load.enc).length ∧ SubH [(5, some (.arr 40 7 (l.map Load.enc)))] h') := by
  refine AC_enter Tryz.func34 rfl Tryz.ntmps34 (rv := [.tmp 2]) rfl rfl (by simp) (fun w X G => ?_)
  repeat' (first | ((with_reducible refine gS ?_); refine Es_eqNil (T := Tryz.tab) rfl rfl rfl rfl rfl rfl (fun h0 => absurd h0 hne) ?_) | ((with_reducible refine gA ?_); (first | refine AW_seq ?_ | refine AW_region ?_ | refine AW_condF rfl ?_ | refine AW_ret ?_ | refine AW_skip ?_)) | ((with_reducible refine gS ?_); refine Es_s (T := Tryz.tab) rfl rfl rfl rfl ?_) | (((with_reducible refine gS ?_); apply Es_xs); rfl; rfl; (first | (refine LStep_litOwn (T := Tryz.tab) (len := 0) rfl rfl rfl rfl rfl rfl rfl rfl rfl rfl ?_ ?_; (refine Nat.le_of_ble_eq_true ?_; rfl); (unfold maxLen; omega)) | (refine LStep_append (T := Tryz.tab) rfl rfl rfl rfl rfl rfl rfl rfl rfl rfl ?_ ?_ ?_; rfl; (simp only [List.length_map, List.length_nil]; omega); (unfold maxLen; simp only [List.length_map, List.length_nil]; omega))); rfl) | (with_reducible refine Es_nil ?_) | (with_reducible refine then_n ?_) | ((with_reducible refine gR ?_); first | refine ret1 rfl ?_ | refine ret2 rfl rfl ?_ | refine ret0 ?_ | refine end1 rfl ?_ | refine end0 ?_))
  exact ⟨rfl, rfl, trivial⟩
/-! ### a sort of no loads -/
set_option maxRecDepth 10000 in
theorem ins0_ac (g : FuncId) : AC Tryz.prog 99 [.d (.sl 7 []), .d (.sc (.int .i64 0)), .d (.sc (.int .i64 0)), .fn g []] [] [] (fun r _ => r = .tup []) := by
  have f1 : ltb (0 + 1) 0 = false := by rw [ltb_f]; omega
  refine AC_enter Tryz.func99 rfl Tryz.ntmps99 (rv := []) rfl rfl (by simp) (fun w X G => ?_)
  repeat' (first | ((with_reducible refine gA ?_); (first | refine AW_seq ?_ | refine AW_region ?_ | refine AW_block ?_)) | ((with_reducible refine gS ?_); refine Es_s (T := Tryz.tab) rfl rfl rfl rfl ?_) | (((with_reducible refine gS ?_); apply Es_q); rfl; rfl; (refine LStep_add rfl rfl rfl rfl ?_; (refine IntWalk.i64_in _ ?_; first | omega | (simp only [cmps] at *; omega)))) | (with_reducible refine Es_nil ?_) | (with_reducible refine then_n ?_))
  refine AW_rounds 1 ?_
  repeat' (first | ((with_reducible refine gRd ?_); refine rounds_stepD [] [] ?_) | ((with_reducible refine gA ?_); (first | refine AW_seq ?_ | refine AW_region ?_ | (refine AW_condN rfl ?_ ?_; assumption) | refine AW_exit ?_)) | ((with_reducible refine gS ?_); refine Es_s (T := Tryz.tab) rfl rfl rfl rfl ?_) | (with_reducible refine Es_nil ?_) | (with_reducible refine then_n ?_) | (with_reducible refine then_e ?_) | ((with_reducible refine block_e ?_ ?_); rfl) | ((with_reducible refine gR ?_); first | refine ret1 rfl ?_ | refine ret2 rfl rfl ?_ | refine ret0 ?_ | refine end1 rfl ?_ | refine end0 ?_))
  rfl
set_option maxRecDepth 10000 in
theorem stable0_ac (g : FuncId) : AC Tryz.prog 72 [.d (.sl 7 []), .d (.sc (.int .i64 0)), .fn g []] [] [] (fun r _ => r = .tup []) := by
  have f1 : leb 20 0 = false := by rw [leb_f]; omega
  have f2 : ltb 20 0 = false := by rw [ltb_f]; omega
  refine AC_enter Tryz.func72 rfl Tryz.ntmps72 (rv := []) rfl rfl (by simp) (fun w X G => ?_)
  repeat' (first | ((with_reducible refine gA ?_); (first | refine AW_seq ?_ | refine AW_region ?_ | refine AW_block ?_)) | ((with_reducible refine gS ?_); refine Es_s (T := Tryz.tab) rfl rfl rfl rfl ?_) | (with_reducible refine Es_nil ?_) | (with_reducible refine then_n ?_))
  refine AW_rounds 1 ?_
  repeat' (first | ((with_reducible refine gRd ?_); refine rounds_stepD [11, 12, 13] [] ?_) | ((with_reducible refine gA ?_); (first | refine AW_seq ?_ | refine AW_region ?_ | (refine AW_condN rfl ?_ ?_; assumption) | refine AW_block ?_ | refine AW_exit ?_)) | ((with_reducible refine gS ?_); refine Es_s (T := Tryz.tab) rfl rfl rfl rfl ?_) | (((with_reducible refine gS ?_); apply Es_q); rfl; rfl; refine LStep_call (ins0_ac g) rfl rfl rfl rfl) | (with_reducible refine Es_nil ?_) | (with_reducible refine then_n ?_) | (with_reducible refine then_e ?_) | ((with_reducible refine block_e ?_ ?_); rfl))
  refine AW_rounds 1 ?_
  repeat' (first | ((with_reducible refine gRd ?_); refine rounds_stepD [] [] ?_) | ((with_reducible refine gA ?_); (first | refine AW_seq ?_ | refine AW_region ?_ | (refine AW_condN rfl ?_ ?_; assumption) | refine AW_exit ?_)) | ((with_reducible refine gS ?_); refine Es_s (T := Tryz.tab) rfl rfl rfl rfl ?_) | (with_reducible refine Es_nil ?_) | (with_reducible refine then_n ?_) | (with_reducible refine then_e ?_) | ((with_reducible refine block_e ?_ ?_); rfl) | ((with_reducible refine gR ?_); first | refine ret1 rfl ?_ | refine ret2 rfl rfl ?_ | refine ret0 ?_ | refine end1 rfl ?_ | refine end0 ?_))
  rfl
set_option maxRecDepth 10000 in
theorem sortStable0_ac (g : FuncId) : AC Tryz.prog 35 [.d (.sl 7 []), .fn g []] [] [] (fun r _ => r = .tup []) := by
  refine AC_enter Tryz.func35 rfl Tryz.ntmps35 (rv := []) rfl rfl (by simp) (fun w X G => ?_)
  repeat' (first | ((with_reducible refine gA ?_); refine AW_region ?_) | ((with_reducible refine gS ?_); refine Es_s (T := Tryz.tab) rfl rfl rfl rfl ?_) | (((with_reducible refine gS ?_); apply Es_q); rfl; rfl; (first | refine LStep_len (T := Tryz.tab) (n := 0) rfl rfl (.inr (.inl ⟨_, _, _, rfl, rfl, rfl⟩)) | refine LStep_call (stable0_ac g) rfl rfl rfl rfl)) | (with_reducible refine Es_nil ?_) | ((with_reducible refine gR ?_); first | refine ret1 rfl ?_ | refine ret2 rfl rfl ?_ | refine ret0 ?_ | refine end1 rfl ?_ | refine end0 ?_))
  all_goals first
    | rfl
    | trace_state
/-! ### the order of loads: plain -/
def ldD : List D → Load
  | [.sc (.int _ b), .sc (.int _ r), .sc (.int _ t), .sc (.string n), .sc (.int _ w), .sc (.int _ c), .sc (.int _ p)] => ⟨⟨b, r, t⟩, n, w, c, p⟩
  | _ => zL
def cmpOrd (x y : Load) : Int := if cmpI y.p x.p ≠ 0 then cmpI y.p x.p else if cmpI y.w x.w ≠ 0 then cmpI y.w x.w else cmpS x.box y.box
def cmpPl (x y : Load) : Int := if cmpI x.sl.t y.sl.t ≠ 0 then cmpI x.sl.t y.sl.t else if cmpI x.sl.b y.sl.b ≠ 0 then cmpI x.sl.b y.sl.b else if cmpI x.sl.r y.sl.r ≠ 0 then cmpI x.sl.r y.sl.r else cmpS x.box y.box
def ltO (x y : Load) : Bool := decide (cmpOrd x y < 0)
def ltP (x y : Load) : Bool := decide (cmpPl x y < 0)
theorem cmpS_lt {a b : ByteArray} : cmpS a b < 0 ↔ lts a b = true := by
  unfold cmpS
  cases h : lts a b with
  | true => rw [if_pos rfl]; simp
  | false =>
    rw [if_neg (by decide)]
    split <;> simp
theorem ltO_t {x y : Load} : ltO x y = true ↔ y.p < x.p ∨ (x.p = y.p ∧ (y.w < x.w ∨ (x.w = y.w ∧ lts x.box y.box = true))) := by
  unfold ltO
  rw [decide_eq_true_eq]
  unfold cmpOrd
  by_cases h1 : y.p = x.p
  · rw [if_neg (by rw [ne_eq, Decidable.not_not, cmpI_eq]; exact h1)]
    by_cases h2 : y.w = x.w
    · rw [if_neg (by rw [ne_eq, Decidable.not_not, cmpI_eq]; exact h2), cmpS_lt]
      constructor
      · intro h; exact .inr ⟨h1.symm, .inr ⟨h2.symm, h⟩⟩
      · rintro (h | ⟨_, h | ⟨_, h⟩⟩)
        · omega
        · omega
        · exact h
    · rw [if_pos (by rw [ne_eq, cmpI_eq]; exact h2), cmpI_lt]
      constructor
      · intro h; exact .inr ⟨h1.symm, .inl h⟩
      · rintro (h | ⟨_, h | ⟨h, _⟩⟩) <;> omega
  · rw [if_pos (by rw [ne_eq, cmpI_eq]; exact h1), cmpI_lt]
    constructor
    · intro h; exact .inl h
    · rintro (h | ⟨h, _⟩) <;> omega
theorem ltP_t {x y : Load} : ltP x y = true ↔ x.sl.t < y.sl.t ∨ (x.sl.t = y.sl.t ∧ (x.sl.b < y.sl.b ∨ (x.sl.b = y.sl.b ∧ (x.sl.r < y.sl.r ∨ (x.sl.r = y.sl.r ∧ lts x.box y.box = true))))) := by
  unfold ltP
  rw [decide_eq_true_eq]
  unfold cmpPl
  by_cases h1 : x.sl.t = y.sl.t
  · rw [if_neg (by rw [ne_eq, Decidable.not_not, cmpI_eq]; exact h1)]
    by_cases h2 : x.sl.b = y.sl.b
    · rw [if_neg (by rw [ne_eq, Decidable.not_not, cmpI_eq]; exact h2)]
      by_cases h3 : x.sl.r = y.sl.r
      · rw [if_neg (by rw [ne_eq, Decidable.not_not, cmpI_eq]; exact h3), cmpS_lt]
        constructor
        · intro h; exact .inr ⟨h1, .inr ⟨h2, .inr ⟨h3, h⟩⟩⟩
        · rintro (h | ⟨_, h | ⟨_, h | ⟨_, h⟩⟩⟩)
          · omega
          · omega
          · omega
          · exact h
      · rw [if_pos (by rw [ne_eq, cmpI_eq]; exact h3), cmpI_lt]
        constructor
        · intro h; exact .inr ⟨h1, .inr ⟨h2, .inl h⟩⟩
        · rintro (h | ⟨_, h | ⟨_, h | ⟨h, _⟩⟩⟩) <;> omega
    · rw [if_pos (by rw [ne_eq, cmpI_eq]; exact h2), cmpI_lt]
      constructor
      · intro h; exact .inr ⟨h1, .inl h⟩
      · rintro (h | ⟨_, h | ⟨h, _⟩⟩) <;> omega
  · rw [if_pos (by rw [ne_eq, cmpI_eq]; exact h1), cmpI_lt]
    constructor
    · intro h; exact .inl h
    · rintro (h | ⟨h, _⟩) <;> omega
theorem swoO : Sort.SWO ltO := by
  refine ⟨fun x => ?_, fun x y z h1 h2 => ?_, fun x y z h1 h2 => ?_⟩
  · cases h : ltO x x with
    | false => rfl
    | true =>
      rw [ltO_t] at h
      rcases h with h | ⟨_, h | ⟨_, h⟩⟩
      · omega
      · omega
      · rw [lts_irrefl] at h; cases h
  · rw [ltO_t] at *
    rcases h1 with h1 | ⟨a1, h1 | ⟨b1, h1⟩⟩ <;> rcases h2 with h2 | ⟨a2, h2 | ⟨b2, h2⟩⟩
    all_goals first
      | (exact .inl (by omega))
      | (exact .inr ⟨by omega, .inl (by omega)⟩)
      | (exact .inr ⟨by omega, .inr ⟨by omega, lts_trans h1 h2⟩⟩)
  · have e : ∀ a b : Load, ltO a b = false ↔ ¬ (b.p < a.p ∨ (a.p = b.p ∧ (b.w < a.w ∨ (a.w = b.w ∧ lts a.box b.box = true)))) := fun a b => by
      rw [← ltO_t]; simp
    rw [e] at *
    intro h
    have key : x.p = y.p → x.w = y.w → lts x.box y.box = false := fun q1 q2 => by
      cases q : lts x.box y.box with
      | false => rfl
      | true => exact absurd (.inr ⟨q1, .inr ⟨q2, q⟩⟩) h1
    have key2 : y.p = z.p → y.w = z.w → lts y.box z.box = false := fun q1 q2 => by
      cases q : lts y.box z.box with
      | false => rfl
      | true => exact absurd (.inr ⟨q1, .inr ⟨q2, q⟩⟩) h2
    rcases h with h | ⟨a, h | ⟨b, h⟩⟩
    · omega
    · omega
    · have q1 : x.p = y.p := by omega
      have q2 : y.p = z.p := by omega
      have q3 : x.w = y.w := by omega
      have q4 : y.w = z.w := by omega
      have := lts_ntrans (key q1 q3) (key2 q2 q4)
      rw [h] at this
      cases this
theorem swoP : Sort.SWO ltP := by
  refine ⟨fun x => ?_, fun x y z h1 h2 => ?_, fun x y z h1 h2 => ?_⟩
  · cases h : ltP x x with
    | false => rfl
    | true =>
      rw [ltP_t] at h
      rcases h with h | ⟨_, h | ⟨_, h | ⟨_, h⟩⟩⟩
      · omega
      · omega
      · omega
      · rw [lts_irrefl] at h; cases h
  · rw [ltP_t] at *
    rcases h1 with h1 | ⟨a1, h1 | ⟨b1, h1 | ⟨c1, h1⟩⟩⟩ <;> rcases h2 with h2 | ⟨a2, h2 | ⟨b2, h2 | ⟨c2, h2⟩⟩⟩
    all_goals first
      | (exact .inl (by omega))
      | (exact .inr ⟨by omega, .inl (by omega)⟩)
      | (exact .inr ⟨by omega, .inr ⟨by omega, .inl (by omega)⟩⟩)
      | (exact .inr ⟨by omega, .inr ⟨by omega, .inr ⟨by omega, lts_trans h1 h2⟩⟩⟩)
  · have e : ∀ a b : Load, ltP a b = false ↔ ¬ (a.sl.t < b.sl.t ∨ (a.sl.t = b.sl.t ∧ (a.sl.b < b.sl.b ∨ (a.sl.b = b.sl.b ∧ (a.sl.r < b.sl.r ∨ (a.sl.r = b.sl.r ∧ lts a.box b.box = true)))))) := fun a b => by
      rw [← ltP_t]; simp
    rw [e] at *
    intro h
    have key : x.sl.t = y.sl.t → x.sl.b = y.sl.b → x.sl.r = y.sl.r → lts x.box y.box = false := fun q1 q2 q3 => by
      cases q : lts x.box y.box with
      | false => rfl
      | true => exact absurd (.inr ⟨q1, .inr ⟨q2, .inr ⟨q3, q⟩⟩⟩) h1
    have key2 : y.sl.t = z.sl.t → y.sl.b = z.sl.b → y.sl.r = z.sl.r → lts y.box z.box = false := fun q1 q2 q3 => by
      cases q : lts y.box z.box with
      | false => rfl
      | true => exact absurd (.inr ⟨q1, .inr ⟨q2, .inr ⟨q3, q⟩⟩⟩) h2
    rcases h with h | ⟨a, h | ⟨b, h | ⟨c, h⟩⟩⟩
    · omega
    · omega
    · omega
    · have := lts_ntrans (key (by omega) (by omega) (by omega)) (key2 (by omega) (by omega) (by omega))
      rw [h] at this
      cases this
theorem insL_map {α β : Type} {f : α → β} {lt : α → α → Bool} {lt' : β → β → Bool} (h : ∀ a b, lt' (f a) (f b) = lt a b) (x : α) : ∀ l : List α, insL lt' (f x) (l.map f) = (insL lt x l).map f
  | [] => rfl
  | y :: r => by
    rw [List.map_cons]
    unfold insL
    rw [h]
    split
    · rfl
    · rw [List.map_cons, insL_map h x r]
theorem isL_map {α β : Type} {f : α → β} {lt : α → α → Bool} {lt' : β → β → Bool} (h : ∀ a b, lt' (f a) (f b) = lt a b) (l : List α) : isL lt' (l.map f) = (isL lt l).map f := by
  have : ∀ (l acc : List α), (l.map f).foldl (fun acc x => insL lt' x acc) (acc.map f) = (l.foldl (fun acc x => insL lt x acc) acc).map f := by
    intro l
    induction l with
    | nil => intro acc; rfl
    | cons x l ih => intro acc; rw [List.map_cons, List.foldl_cons, List.foldl_cons, insL_map h, ih]
  exact this l []
theorem swo_of {α β : Type} {f : β → α} {lt : α → α → Bool} (h : Sort.SWO lt) : Sort.SWO (fun x y => lt (f x) (f y)) :=
  ⟨fun x => h.irrefl _, fun x y z => h.trans _ _ _, fun x y z => h.ntrans _ _ _⟩
end Go.Proofs.YtodgjgkoaahhmaaGreatDoor
namespace Go.Proofs.YtodgjgkoaahhmaaGreatDoor
open Go.SL
/-! ### stow.Order, byPlace -/
set_option maxRecDepth 10000 in
theorem order1_ac (p q : Load) : AC Tryz.prog 36 [.agg p.cs2, .agg q.cs2] [] [] (fun r _ => r = .d (.sc (.int .i64 (cmpOrd p q)))) := by
  unfold cmpOrd
  have c1 := compareI_ac q.p p.p
  have c2 := compareI_ac q.w p.w
  have c3 := compareS_ac p.box q.box
  have c4 := or3_ac (cmpI q.p p.p) (cmpI q.w p.w) (cmpS p.box q.box)
  refine AC_enter Tryz.func36 rfl Tryz.ntmps36 (rv := [.tmp 4]) rfl rfl (by simp) (fun w X G => ?_)
  repeat' (first | ((with_reducible refine gA ?_); (first | refine AW_seq ?_ | refine AW_region ?_ | refine AW_regionD Tryz.mixed ?_ | refine AW_ret ?_)) | (first | ((with_reducible refine gS ?_); refine Es_s (T := Tryz.tab) rfl rfl rfl rfl ?_) | ((with_reducible refine gD ?_); refine Ed_s (T := Tryz.tab) rfl rfl rfl rfl ?_)) | ((first | ((with_reducible refine gS ?_); apply Es_q) | ((with_reducible refine gD ?_); apply Ed_q)); rfl; rfl; (first | refine LStep_call (c1) rfl rfl rfl rfl | refine LStep_call (c2) rfl rfl rfl rfl | refine LStep_call (c3) rfl rfl rfl rfl | refine LStep_call (c4) rfl rfl rfl rfl)) | ((first | ((with_reducible refine gS ?_); apply Es_q) | ((with_reducible refine gD ?_); apply Ed_q)); rfl; rfl; (refine LStep_lit (T := Tryz.tab) rfl rfl rfl rfl rfl rfl rfl rfl ?_; (refine Nat.le_of_ble_eq_true ?_; rfl))) | (refine Es_skip rfl ?_ rfl ?_; (first | rfl | (refine w_tf ?_; assumption) | (refine w_ft ?_; assumption))) | (((with_reducible refine gS ?_); apply Es_xs); rfl; rfl; refine LStep_boxN rfl rfl rfl rfl rfl rfl; rfl) | (with_reducible refine Es_nil ?_) | ((with_reducible refine Ed_nil ?_ ?_); kernel_rfl) | (with_reducible refine then_n ?_) | ((with_reducible refine gR ?_); first | refine ret1 rfl ?_ | refine ret2 rfl rfl ?_ | refine ret0 ?_ | refine end1 rfl ?_ | refine end0 ?_))
  rfl
set_option maxRecDepth 10000 in
theorem byPlace1_ac (p q : Load) : AC Tryz.prog 92 [.agg p.cs2, .agg q.cs2] [] [] (fun r _ => r = .d (.sc (.int .i64 (cmpPl p q)))) := by
  unfold cmpPl
  have c1 := compareI_ac p.sl.t q.sl.t
  have c2 := compareI_ac p.sl.b q.sl.b
  have c3 := compareI_ac p.sl.r q.sl.r
  have c4 := compareS_ac p.box q.box
  have c5 := or4_ac (cmpI p.sl.t q.sl.t) (cmpI p.sl.b q.sl.b) (cmpI p.sl.r q.sl.r) (cmpS p.box q.box)
  refine AC_enter Tryz.func92 rfl Tryz.ntmps92 (rv := [.tmp 4]) rfl rfl (by simp) (fun w X G => ?_)
  repeat' (first | ((with_reducible refine gA ?_); (first | refine AW_seq ?_ | refine AW_region ?_ | refine AW_regionD Tryz.mixed ?_ | refine AW_ret ?_)) | (first | ((with_reducible refine gS ?_); refine Es_s (T := Tryz.tab) rfl rfl rfl rfl ?_) | ((with_reducible refine gD ?_); refine Ed_s (T := Tryz.tab) rfl rfl rfl rfl ?_)) | ((first | ((with_reducible refine gS ?_); apply Es_q) | ((with_reducible refine gD ?_); apply Ed_q)); rfl; rfl; (first | refine LStep_call (c1) rfl rfl rfl rfl | refine LStep_call (c2) rfl rfl rfl rfl | refine LStep_call (c3) rfl rfl rfl rfl | refine LStep_call (c4) rfl rfl rfl rfl | refine LStep_call (c5) rfl rfl rfl rfl)) | ((first | ((with_reducible refine gS ?_); apply Es_q) | ((with_reducible refine gD ?_); apply Ed_q)); rfl; rfl; (refine LStep_lit (T := Tryz.tab) rfl rfl rfl rfl rfl rfl rfl rfl ?_; (refine Nat.le_of_ble_eq_true ?_; rfl))) | (refine Es_skip rfl ?_ rfl ?_; (first | rfl | (refine w_tf ?_; assumption) | (refine w_ft ?_; assumption))) | (((with_reducible refine gS ?_); apply Es_xs); rfl; rfl; refine LStep_boxN rfl rfl rfl rfl rfl rfl; rfl) | (with_reducible refine Es_nil ?_) | ((with_reducible refine Ed_nil ?_ ?_); kernel_rfl) | (with_reducible refine then_n ?_) | ((with_reducible refine gR ?_); first | refine ret1 rfl ?_ | refine ret2 rfl rfl ?_ | refine ret0 ?_ | refine end1 rfl ?_ | refine end0 ?_))
  rfl
def cmpOD (x y : List D) : Int := cmpOrd (ldD x) (ldD y)
def cmpPD (x y : List D) : Int := cmpPl (ldD x) (ldD y)
theorem isL_O (L : List Load) : isL (ltOf cmpOD) (L.map Load.enc) = (isL ltO L).map Load.enc := isL_map (fun a b => rfl) L
theorem isL_P (L : List Load) : isL (ltOf cmpPD) (L.map Load.enc) = (isL ltP L).map Load.enc := isL_map (fun a b => rfl) L
theorem swoOD : Sort.SWO (ltOf cmpOD) := swo_of (f := ldD) swoO
theorem swoPD : Sort.SWO (ltOf cmpPD) := swo_of (f := ldD) swoP
theorem enc_len (L : List Load) : ∀ x ∈ L.map Load.enc, x.length = 7 := fun x hx => by
  obtain ⟨y, _, rfl⟩ := List.mem_map.1 hx
  rfl
set_option maxRecDepth 10000 in
theorem order_ac (L : List Load) (h20 : L.length ≤ 20) : AC Tryz.prog 15 [.d (.sl 7 (L.map Load.enc))] [] [] (fun r _ => r = .d (.sl 7 ((isL ltO L).map Load.enc))) := by
  by_cases h0 : L = []
  · subst h0
    refine AC_enter Tryz.func15 rfl Tryz.ntmps15 (rv := [.tmp 2]) rfl rfl (by simp) (fun w X G => ?_)
    repeat' (first | ((with_reducible refine gA ?_); (first | refine AW_seq ?_ | refine AW_region ?_ | refine AW_ret ?_)) | ((with_reducible refine gS ?_); refine Es_s (T := Tryz.tab) rfl rfl rfl rfl ?_) | (((with_reducible refine gS ?_); apply Es_q); rfl; rfl; (first | refine LStep_call (cloneL0_ac) rfl rfl rfl rfl | refine LStep_call (sortStable0_ac _) rfl rfl rfl rfl)) | (with_reducible refine Es_nil ?_) | (with_reducible refine then_n ?_) | ((with_reducible refine gR ?_); first | refine ret1 rfl ?_ | refine ret2 rfl rfl ?_ | refine ret0 ?_ | refine end1 rfl ?_ | refine end0 ?_))
    rfl
  · have cc := cloneL1_ac L (by omega) (fun h => h0 (List.map_eq_nil_iff.1 h))
    have cs := sortStable_ac (g := 36) (cmp := cmpOD) (l := L.map Load.enc) L.length (List.length_map _) h20 (enc_len L) (fun x hx y hy => by
      obtain ⟨p, _, rfl⟩ := List.mem_map.1 hx
      obtain ⟨q, _, rfl⟩ := List.mem_map.1 hy
      exact order1_ac p q) swoOD
    rw [isL_O] at cs
    rw [List.length_map] at cc
    have hl : (L.map Load.enc).length = ((isL ltO L).map Load.enc).length := by rw [List.length_map, List.length_map, (isL_perm L).length_eq]
    have hl2 : ((isL ltO L).map Load.enc).length = L.length := by rw [List.length_map, (isL_perm L).length_eq]
    generalize isL ltO L = M at *
    refine AC_enter Tryz.func15 rfl Tryz.ntmps15 (rv := [.tmp 2]) rfl rfl (by simp) (fun w X G => ?_)
    repeat' (first | ((with_reducible refine gRc ?_); refine AW_freeze [2] (id := 5) ⟨rfl, trivial⟩ rfl hl2 ?_) | ((with_reducible refine gA ?_); (first | refine AW_seq ?_ | refine AW_region ?_ | refine AW_ret ?_)) | ((with_reducible refine gS ?_); refine Es_s (T := Tryz.tab) rfl rfl rfl rfl ?_) | (((with_reducible refine gS ?_); apply Es_xg); rfl; rfl; (first | refine LStep_callHN [] [(5, 5)] cc rfl rfl trivial rfl trivial rfl rfl | refine LStep_callHN [(1000, 5)] [] cs rfl rfl ⟨rfl, trivial⟩ rfl ⟨hl, trivial⟩ rfl rfl); rfl) | (with_reducible refine Es_nil ?_) | (with_reducible refine then_n ?_) | ((with_reducible refine gR ?_); first | refine ret1 rfl ?_ | refine ret2 rfl rfl ?_ | refine ret0 ?_ | refine end1 rfl ?_ | refine end0 ?_))
    all_goals first
      | rfl
      | trace_state
set_option maxRecDepth 10000 in
theorem byPlace_ac (L : List Load) (h20 : L.length ≤ 20) : AC Tryz.prog 48 [.d (.sl 7 (L.map Load.enc))] [] [] (fun r _ => r = .d (.sl 7 ((isL ltP L).map Load.enc))) := by
  by_cases h0 : L = []
  · subst h0
    refine AC_enter Tryz.func48 rfl Tryz.ntmps48 (rv := [.tmp 2]) rfl rfl (by simp) (fun w X G => ?_)
    repeat' (first | ((with_reducible refine gA ?_); (first | refine AW_seq ?_ | refine AW_region ?_ | refine AW_ret ?_)) | ((with_reducible refine gS ?_); refine Es_s (T := Tryz.tab) rfl rfl rfl rfl ?_) | (((with_reducible refine gS ?_); apply Es_q); rfl; rfl; (first | refine LStep_call (cloneL0_ac) rfl rfl rfl rfl | refine LStep_call (sortStable0_ac _) rfl rfl rfl rfl)) | (with_reducible refine Es_nil ?_) | (with_reducible refine then_n ?_) | ((with_reducible refine gR ?_); first | refine ret1 rfl ?_ | refine ret2 rfl rfl ?_ | refine ret0 ?_ | refine end1 rfl ?_ | refine end0 ?_))
    rfl
  · have cc := cloneL1_ac L (by omega) (fun h => h0 (List.map_eq_nil_iff.1 h))
    have cs := sortStable_ac (g := 92) (cmp := cmpPD) (l := L.map Load.enc) L.length (List.length_map _) h20 (enc_len L) (fun x hx y hy => by
      obtain ⟨p, _, rfl⟩ := List.mem_map.1 hx
      obtain ⟨q, _, rfl⟩ := List.mem_map.1 hy
      exact byPlace1_ac p q) swoPD
    rw [isL_P] at cs
    rw [List.length_map] at cc
    have hl : (L.map Load.enc).length = ((isL ltP L).map Load.enc).length := by rw [List.length_map, List.length_map, (isL_perm L).length_eq]
    have hl2 : ((isL ltP L).map Load.enc).length = L.length := by rw [List.length_map, (isL_perm L).length_eq]
    generalize isL ltP L = M at *
    refine AC_enter Tryz.func48 rfl Tryz.ntmps48 (rv := [.tmp 2]) rfl rfl (by simp) (fun w X G => ?_)
    repeat' (first | ((with_reducible refine gRc ?_); refine AW_freeze [2] (id := 5) ⟨rfl, trivial⟩ rfl hl2 ?_) | ((with_reducible refine gA ?_); (first | refine AW_seq ?_ | refine AW_region ?_ | refine AW_ret ?_)) | ((with_reducible refine gS ?_); refine Es_s (T := Tryz.tab) rfl rfl rfl rfl ?_) | (((with_reducible refine gS ?_); apply Es_xg); rfl; rfl; (first | refine LStep_callHN [] [(5, 5)] cc rfl rfl trivial rfl trivial rfl rfl | refine LStep_callHN [(1000, 5)] [] cs rfl rfl ⟨rfl, trivial⟩ rfl ⟨hl, trivial⟩ rfl rfl); rfl) | (with_reducible refine Es_nil ?_) | (with_reducible refine then_n ?_) | ((with_reducible refine gR ?_); first | refine ret1 rfl ?_ | refine ret2 rfl rfl ?_ | refine ret0 ?_ | refine end1 rfl ?_ | refine end0 ?_))
    all_goals first
      | rfl
      | trace_state
/-! ### stand, Right: plain -/
def putAll (S : Ship) : List Load → List Load → Int × List Load
  | L, [] => (0, L)
  | L, x :: r => if putE S L x = 0 then putAll S (L ++ [x]) r else (putE S L x, L)
theorem putAll_nil (S : Ship) (L : List Load) : putAll S L [] = (0, L) := rfl
theorem putAll_cons (S : Ship) (L : List Load) (x : Load) (r : List Load) : putAll S L (x :: r) = if putE S L x = 0 then putAll S (L ++ [x]) r else (putE S L x, L) := rfl
theorem putAll_app (S : Ship) : ∀ (xs ys L : List Load), putAll S L (xs ++ ys) = if (putAll S L xs).1 = 0 then putAll S (putAll S L xs).2 ys else putAll S L xs
  | [], ys, L => by rw [List.nil_append]; rfl
  | x :: xs, ys, L => by
    rw [List.cons_append, putAll_cons, putAll_cons]
    by_cases h : putE S L x = 0
    · rw [if_pos h, if_pos h]
      exact putAll_app S xs ys (L ++ [x])
    · rw [if_neg h, if_neg h]
      dsimp only
      rw [if_neg h]
theorem putAll_ok {S : Ship} : ∀ (xs : List Load) {L : List Load}, Inv2 S L → Inv2 S (putAll S L xs).2 ∧ (putAll S L xs).2.length ≤ L.length + xs.length
  | [], L, h => ⟨h, Nat.le_refl _⟩
  | x :: xs, L, h => by
    rw [putAll_cons]
    split
    · rename_i e
      obtain ⟨h1, h2⟩ := putAll_ok xs (put_inv h e)
      refine ⟨h1, ?_⟩
      rw [List.length_append] at h2
      simp only [List.length_cons, List.length_nil] at h2 ⊢
      omega
    · exact ⟨h, by simp⟩
theorem putAll_zero {S : Ship} : ∀ (xs : List Load) {L : List Load}, (putAll S L xs).1 = 0 → (putAll S L xs).2 = L ++ xs
  | [], L, _ => by rw [List.append_nil]; rfl
  | x :: xs, L, h => by
    rw [putAll_cons] at h ⊢
    split
    · rename_i e
      rw [if_pos e] at h
      rw [putAll_zero xs h, List.append_assoc]
      rfl
    · rename_i e
      rw [if_neg e] at h
      exact absurd h e
theorem inv00 {S : Ship} (hS : shipOk S = true) : Inv2 S [] := by
  have hi : 0 ≤ S.stack ∧ 0 ≤ S.most := by
    simp only [shipOk, Bool.and_eq_true, frB_t] at hS
    omega
  refine ⟨⟨List.nodup_nil, List.nodup_nil, ?_, ?_, ?_⟩, ?_, ?_, ?_, ?_⟩
  · intro x hx; cases hx
  · intro x hx; cases hx
  · intro x hx; cases hx
  · intro b r; exact hi.1
  · exact hi.2
  · intro x hx; cases hx
  · intro x hx; cases hx
theorem tot_in2 {S : Ship} {L : List Load} (hv : Inv2 S L) (hS : shipOk S = true) : 0 ≤ wsum L ∧ wsum L ≤ 1048576 := by
  have h2 := (ship_in2 hS).2.2.2
  have h1 := hv.tot
  refine ⟨?_, by omega⟩
  have hw := hv.ok
  clear hv h1
  induction L with
  | nil => exact Int.le_refl _
  | cons x L ih =>
    rw [wsum_cons]
    have h1 := ih (fun y hy => hw y (List.mem_cons_of_mem _ hy))
    have h2 := (hw x List.mem_cons_self).1
    omega
def standE (S : Ship) (l : List Load) : Int := if shipOk S = false then 1 else (putAll S [] (isL ltP l)).1
set_option maxRecDepth 10000 in
set_option maxHeartbeats 4000000 in
theorem standNo_ac (S : Ship) (l : List Load) (hl : l.length ≤ 20) (hE : standE S l ≠ 0) : AC Tryz.prog 20 [.agg S.cs, .d (.sl 7 (l.map Load.enc))] [hG] [9000] (fun r h' => r = .tup [.d (.sc (.pointer none)), .d (.sc (.int .i64 (standE S l)))] ∧ SubH [hG] h') := by
  have f10 : (!(eqb 1 0)) = true := by simp [eqb]
  have f00 : (!(eqb 0 0)) = false := by simp [eqb]
  cases e1 : shipOk S with
  | false =>
    have cn := newNo_ac S e1
    have : standE S l = 1 := by unfold standE; rw [e1]; rfl
    rw [this]
    refine AC_enter Tryz.func20 rfl Tryz.ntmps20 (rv := [.tmp 4, .tmp 5]) rfl rfl (by simp) (fun w X G => ?_)
    repeat' (first | ((with_reducible refine gA ?_); (first | refine AW_seq ?_ | refine AW_region ?_ | (refine AW_condY rfl ?_ ?_; assumption) | refine AW_ret ?_)) | ((with_reducible refine gS ?_); refine Es_s (T := Tryz.tab) rfl rfl rfl rfl ?_) | (((with_reducible refine gS ?_); apply Es_q); rfl; rfl; refine LStep_call (cn) rfl rfl rfl rfl) | (refine Es_skip rfl ?_ rfl ?_; (first | rfl | (refine w_tf ?_; assumption) | (refine w_ft ?_; assumption))) | (((with_reducible refine gS ?_); apply Es_xs); rfl; rfl; refine LStep_boxN rfl rfl rfl rfl rfl rfl; rfl) | (with_reducible refine Es_nil ?_) | (with_reducible refine then_n ?_) | (with_reducible refine then_r ?_) | ((with_reducible refine gR ?_); first | refine ret1 rfl ?_ | refine ret2 rfl rfl ?_ | refine ret0 ?_ | refine end1 rfl ?_ | refine end0 ?_))
    all_goals first
      | exact ⟨rfl, by (repeat' (first | exact trivial | exact rfl | (refine ⟨Or.inl rfl, ?_⟩) | (refine ⟨Or.inr rfl, ?_⟩) | (refine ⟨Or.inr trivial, ?_⟩) | (refine ⟨rfl, ?_⟩) | (refine ⟨?_, ?_⟩)))⟩
      | trace_state
  | true =>
  have cn := newOk_ac S e1
  have cb := byPlace_ac l hl
  have hEq : standE S l = (putAll S [] (isL ltP l)).1 := by unfold standE; rw [e1]; rfl
  rw [hEq] at hE ⊢
  have hPl : (isL ltP l).length ≤ 20 := by rw [(isL_perm l).length_eq]; exact hl
  generalize isL ltP l = P at *
  refine AC_enter Tryz.func20 rfl Tryz.ntmps20 (rv := [.tmp 4, .tmp 5]) rfl rfl (by simp) (fun w X G => ?_)
  repeat' (first | ((with_reducible refine gA ?_); (first | refine AW_seq ?_ | refine AW_region ?_ | (refine AW_condN rfl ?_ ?_; assumption) | refine AW_block ?_ | refine AW_skip ?_)) | ((with_reducible refine gS ?_); refine Es_s (T := Tryz.tab) rfl rfl rfl rfl ?_) | (((with_reducible refine gS ?_); apply Es_q); rfl; rfl; refine LStep_call (cb) rfl rfl rfl rfl) | (((with_reducible refine gS ?_); apply Es_xg); rfl; rfl; refine LStep_callHN [] [(11, 1000), (8, 1001), (9, 1002)] cn rfl rfl trivial rfl trivial rfl rfl; rfl) | (((with_reducible refine gS ?_); apply Es_q); rfl; rfl; refine LStep_lenM (T := Tryz.tab) rfl rfl rfl rfl) | (refine Es_skip rfl ?_ rfl ?_; (first | rfl | (refine w_tf ?_; assumption) | (refine w_ft ?_; assumption))) | (((with_reducible refine gS ?_); apply Es_xs); rfl; rfl; refine LStep_boxN rfl rfl rfl rfl rfl rfl; rfl) | (with_reducible refine Es_nil ?_) | (with_reducible refine then_n ?_))
  refine AW_forE (S := Nat) (fun k => k ≤ P.length ∧ (putAll S [] (P.take k)).1 = 0) (fun k => [(22, .d (.sc (.int .i64 (k : Nat))))]) (fun k => hB S (putAll S [] (P.take k)).2) (fun k => P.length - k) 0 ⟨by omega, rfl⟩ (by (repeat' (first | exact trivial | exact rfl | (refine ⟨Or.inl rfl, ?_⟩) | (refine ⟨Or.inr rfl, ?_⟩) | (refine ⟨Or.inr trivial, ?_⟩) | (refine ⟨rfl, ?_⟩) | (refine ⟨?_, ?_⟩)))) (by (repeat' (first | exact trivial | exact rfl | (refine ⟨Or.inl rfl, ?_⟩) | (refine ⟨Or.inr rfl, ?_⟩) | (refine ⟨Or.inr trivial, ?_⟩) | (refine ⟨rfl, ?_⟩) | (refine ⟨?_, ?_⟩)))) ?_
  intro k ⟨hk, h0⟩
  by_cases hlt : k < P.length
  · obtain ⟨x, hx, hdx⟩ := drop_at hlt
    have hst := putAll_app S (P.take k) [x] []
    rw [← take_at hx, if_pos h0] at hst
    have hv := (putAll_ok (P.take k) (inv00 e1)).1
    have hall := putAll_app S (P.take k) (P.drop k) []
    rw [List.take_append_drop, if_pos h0, hdx] at hall
    generalize (putAll S [] (P.take k)).2 = L at *
    have cp := put_ac S L x hv e1 (tot_in2 hv e1)
    by_cases hE2 : putE S L x = 0
    · have e2 : putL S L x = L ++ [x] := by unfold putL; rw [if_pos hE2]
      rw [e2, hE2] at cp
      rw [putAll_cons, if_pos hE2, putAll_nil] at hst
      have hst1 : putAll S [] (P.take (k + 1)) = (0, L ++ [x]) := hst
      generalize L ++ [x] = L' at *
      clear hall hv hst
      repeat' (first | ((with_reducible refine gA ?_); (first | refine AW_seq ?_ | refine AW_region ?_ | (refine AW_condN rfl ?_ ?_; assumption) | (refine AW_cond rfl (fun hc => ?_) (fun hc => ?_) <;> try (exfalso; simp only [cmpL] at hc; omega)) | refine AW_block ?_ | refine AW_skip ?_)) | ((with_reducible refine gS ?_); refine Es_s (T := Tryz.tab) rfl rfl rfl rfl ?_) | (((with_reducible refine gS ?_); apply Es_xg); rfl; rfl; refine LStep_callHN [] [] cp rfl rfl ⟨rfl, rfl, rfl, rfl, trivial⟩ rfl ⟨trivial, trivial, trivial, trivial, trivial⟩ rfl rfl; rfl) | (((with_reducible refine gS ?_); apply Es_q); rfl; rfl; (first | (refine LStep_add rfl rfl rfl rfl ?_; (refine IntWalk.i64_in _ ?_; first | omega | (simp only [cmps] at *; omega))) | (refine LStep_indexM (T := Tryz.tab) (c := ?_) rfl rfl rfl rfl rfl rfl ?_; rotate_left; assumption))) | (refine Es_skip rfl ?_ rfl ?_; (first | rfl | (refine w_tf ?_; assumption) | (refine w_ft ?_; assumption))) | (((with_reducible refine gS ?_); apply Es_xs); rfl; rfl; refine LStep_allocN (T := Tryz.tab) rfl rfl rfl rfl rfl rfl; rfl) | (((with_reducible refine gS ?_); apply Es_xn); rfl; rfl; (refine LStep_storeN (T := Tryz.tab) rfl rfl rfl rfl rfl rfl rfl ?_ rfl; (refine Nat.le_of_ble_eq_true ?_; rfl)); rfl) | (with_reducible refine Es_nil ?_) | (with_reducible refine then_n ?_) | (with_reducible refine block_n ?_))
      all_goals first
        | (refine ⟨k + 1, ⟨by omega, by rw [hst1]⟩, by omega, by (repeat' (first | exact trivial | exact rfl | (refine ⟨Or.inl rfl, ?_⟩) | (refine ⟨Or.inr rfl, ?_⟩) | (refine ⟨Or.inr trivial, ?_⟩) | (refine ⟨rfl, ?_⟩) | (refine ⟨?_, ?_⟩))), by (repeat' (first | exact trivial | exact rfl | (refine ⟨Or.inl rfl, ?_⟩) | (refine ⟨Or.inr rfl, ?_⟩) | (refine ⟨Or.inr trivial, ?_⟩) | (refine ⟨rfl, ?_⟩) | (refine ⟨?_, ?_⟩))), ?_, by (repeat' (first | exact trivial | exact rfl | (refine ⟨Or.inl rfl, ?_⟩) | (refine ⟨Or.inr rfl, ?_⟩) | (refine ⟨Or.inr trivial, ?_⟩) | (refine ⟨rfl, ?_⟩) | (refine ⟨?_, ?_⟩)))⟩
           rw [hst1]; (repeat' (first | exact trivial | exact rfl | (refine ⟨Or.inl rfl, ?_⟩) | (refine ⟨Or.inr rfl, ?_⟩) | (refine ⟨Or.inr trivial, ?_⟩) | (refine ⟨rfl, ?_⟩) | (refine ⟨?_, ?_⟩))))
        | trace_state
    · have e2 : putL S L x = L := by unfold putL; rw [if_neg hE2]
      rw [e2] at cp
      rw [putAll_cons, if_neg hE2] at hall
      rw [hall]
      have g1 : (!(eqb (putE S L x) 0)) = true := by rw [eqb_f.2 hE2]; rfl
      generalize putE S L x = e at *
      clear hall hv hst
      repeat' (first | ((with_reducible refine gA ?_); (first | refine AW_seq ?_ | refine AW_region ?_ | (refine AW_condY rfl ?_ ?_; assumption) | (refine AW_cond rfl (fun hc => ?_) (fun hc => ?_) <;> try (exfalso; simp only [cmpL] at hc; omega)) | refine AW_block ?_ | refine AW_ret ?_ | refine AW_skip ?_)) | ((with_reducible refine gS ?_); refine Es_s (T := Tryz.tab) rfl rfl rfl rfl ?_) | (((with_reducible refine gS ?_); apply Es_xg); rfl; rfl; refine LStep_callHN [] [] cp rfl rfl ⟨rfl, rfl, rfl, rfl, trivial⟩ rfl ⟨trivial, trivial, trivial, trivial, trivial⟩ rfl rfl; rfl) | (((with_reducible refine gS ?_); apply Es_q); rfl; rfl; (refine LStep_indexM (T := Tryz.tab) (c := ?_) rfl rfl rfl rfl rfl rfl ?_; rotate_left; assumption)) | (refine Es_skip rfl ?_ rfl ?_; (first | rfl | (refine w_tf ?_; assumption) | (refine w_ft ?_; assumption))) | (((with_reducible refine gS ?_); apply Es_xs); rfl; rfl; refine LStep_allocN (T := Tryz.tab) rfl rfl rfl rfl rfl rfl; rfl) | (((with_reducible refine gS ?_); apply Es_xn); rfl; rfl; (refine LStep_storeN (T := Tryz.tab) rfl rfl rfl rfl rfl rfl rfl ?_ rfl; (refine Nat.le_of_ble_eq_true ?_; rfl)); rfl) | (with_reducible refine Es_nil ?_) | (with_reducible refine then_n ?_) | (with_reducible refine then_r ?_) | (with_reducible refine block_r ?_) | ((with_reducible refine gR ?_); first | refine ret1 rfl ?_ | refine ret2 rfl rfl ?_ | refine ret0 ?_ | refine end1 rfl ?_ | refine end0 ?_))
      all_goals first
        | exact ⟨rfl, by (repeat' (first | exact trivial | exact rfl | (refine ⟨Or.inl rfl, ?_⟩) | (refine ⟨Or.inr rfl, ?_⟩) | (refine ⟨Or.inr trivial, ?_⟩) | (refine ⟨rfl, ?_⟩) | (refine ⟨?_, ?_⟩)))⟩
        | trace_state
  · have : k = P.length := by omega
    subst this
    rw [List.take_length] at h0
    exact absurd h0 hE
set_option maxRecDepth 10000 in
set_option maxHeartbeats 4000000 in
theorem standOk_ac (S : Ship) (l : List Load) (hl : l.length ≤ 20) (hE : standE S l = 0) : AC Tryz.prog 20 [.agg S.cs, .d (.sl 7 (l.map Load.enc))] [hG] [9000] (fun r h' => r = .tup [.ptr 1000 0, .d (.sc (.int .i64 0))] ∧ SubH (hB S (isL ltP l) ++ [hG]) h') := by
  have f00 : (!(eqb 0 0)) = false := by simp [eqb]
  have e1 : shipOk S = true := by
    cases h : shipOk S with
    | true => rfl
    | false => unfold standE at hE; rw [h] at hE; cases hE
  have cn := newOk_ac S e1
  have cb := byPlace_ac l hl
  have hEq : standE S l = (putAll S [] (isL ltP l)).1 := by unfold standE; rw [e1]; rfl
  rw [hEq] at hE
  have hPl : (isL ltP l).length ≤ 20 := by rw [(isL_perm l).length_eq]; exact hl
  generalize isL ltP l = P at *
  have hz := putAll_zero P hE
  refine AC_enter Tryz.func20 rfl Tryz.ntmps20 (rv := [.tmp 4, .tmp 5]) rfl rfl (by simp) (fun w X G => ?_)
  repeat' (first | ((with_reducible refine gA ?_); (first | refine AW_seq ?_ | refine AW_region ?_ | (refine AW_condN rfl ?_ ?_; assumption) | refine AW_block ?_ | refine AW_skip ?_)) | ((with_reducible refine gS ?_); refine Es_s (T := Tryz.tab) rfl rfl rfl rfl ?_) | (((with_reducible refine gS ?_); apply Es_q); rfl; rfl; refine LStep_call (cb) rfl rfl rfl rfl) | (((with_reducible refine gS ?_); apply Es_xg); rfl; rfl; refine LStep_callHN [] [(11, 1000), (8, 1001), (9, 1002)] cn rfl rfl trivial rfl trivial rfl rfl; rfl) | (((with_reducible refine gS ?_); apply Es_q); rfl; rfl; refine LStep_lenM (T := Tryz.tab) rfl rfl rfl rfl) | (refine Es_skip rfl ?_ rfl ?_; (first | rfl | (refine w_tf ?_; assumption) | (refine w_ft ?_; assumption))) | (((with_reducible refine gS ?_); apply Es_xs); rfl; rfl; refine LStep_boxN rfl rfl rfl rfl rfl rfl; rfl) | (with_reducible refine Es_nil ?_) | (with_reducible refine then_n ?_))
  refine AW_forE (S := Nat) (fun k => k ≤ P.length ∧ (putAll S [] (P.take k)).1 = 0) (fun k => [(22, .d (.sc (.int .i64 (k : Nat))))]) (fun k => hB S (putAll S [] (P.take k)).2) (fun k => P.length - k) 0 ⟨by omega, rfl⟩ (by (repeat' (first | exact trivial | exact rfl | (refine ⟨Or.inl rfl, ?_⟩) | (refine ⟨Or.inr rfl, ?_⟩) | (refine ⟨Or.inr trivial, ?_⟩) | (refine ⟨rfl, ?_⟩) | (refine ⟨?_, ?_⟩)))) (by (repeat' (first | exact trivial | exact rfl | (refine ⟨Or.inl rfl, ?_⟩) | (refine ⟨Or.inr rfl, ?_⟩) | (refine ⟨Or.inr trivial, ?_⟩) | (refine ⟨rfl, ?_⟩) | (refine ⟨?_, ?_⟩)))) ?_
  intro k ⟨hk, h0⟩
  by_cases hlt : k < P.length
  · obtain ⟨x, hx, hdx⟩ := drop_at hlt
    have hst := putAll_app S (P.take k) [x] []
    rw [← take_at hx, if_pos h0] at hst
    have hv := (putAll_ok (P.take k) (inv00 e1)).1
    have hall := putAll_app S (P.take k) (P.drop k) []
    rw [List.take_append_drop, if_pos h0, hdx] at hall
    generalize (putAll S [] (P.take k)).2 = L at *
    have cp := put_ac S L x hv e1 (tot_in2 hv e1)
    by_cases hE2 : putE S L x = 0
    · have e2 : putL S L x = L ++ [x] := by unfold putL; rw [if_pos hE2]
      rw [e2, hE2] at cp
      rw [putAll_cons, if_pos hE2, putAll_nil] at hst
      have hst1 : putAll S [] (P.take (k + 1)) = (0, L ++ [x]) := hst
      generalize L ++ [x] = L' at *
      clear hall hv hst
      repeat' (first | ((with_reducible refine gA ?_); (first | refine AW_seq ?_ | refine AW_region ?_ | (refine AW_condN rfl ?_ ?_; assumption) | (refine AW_cond rfl (fun hc => ?_) (fun hc => ?_) <;> try (exfalso; simp only [cmpL] at hc; omega)) | refine AW_block ?_ | refine AW_skip ?_)) | ((with_reducible refine gS ?_); refine Es_s (T := Tryz.tab) rfl rfl rfl rfl ?_) | (((with_reducible refine gS ?_); apply Es_xg); rfl; rfl; refine LStep_callHN [] [] cp rfl rfl ⟨rfl, rfl, rfl, rfl, trivial⟩ rfl ⟨trivial, trivial, trivial, trivial, trivial⟩ rfl rfl; rfl) | (((with_reducible refine gS ?_); apply Es_q); rfl; rfl; (first | (refine LStep_add rfl rfl rfl rfl ?_; (refine IntWalk.i64_in _ ?_; first | omega | (simp only [cmps] at *; omega))) | (refine LStep_indexM (T := Tryz.tab) (c := ?_) rfl rfl rfl rfl rfl rfl ?_; rotate_left; assumption))) | (refine Es_skip rfl ?_ rfl ?_; (first | rfl | (refine w_tf ?_; assumption) | (refine w_ft ?_; assumption))) | (((with_reducible refine gS ?_); apply Es_xs); rfl; rfl; refine LStep_allocN (T := Tryz.tab) rfl rfl rfl rfl rfl rfl; rfl) | (((with_reducible refine gS ?_); apply Es_xn); rfl; rfl; (refine LStep_storeN (T := Tryz.tab) rfl rfl rfl rfl rfl rfl rfl ?_ rfl; (refine Nat.le_of_ble_eq_true ?_; rfl)); rfl) | (with_reducible refine Es_nil ?_) | (with_reducible refine then_n ?_) | (with_reducible refine block_n ?_))
      all_goals first
        | (refine ⟨k + 1, ⟨by omega, by rw [hst1]⟩, by omega, by (repeat' (first | exact trivial | exact rfl | (refine ⟨Or.inl rfl, ?_⟩) | (refine ⟨Or.inr rfl, ?_⟩) | (refine ⟨Or.inr trivial, ?_⟩) | (refine ⟨rfl, ?_⟩) | (refine ⟨?_, ?_⟩))), by (repeat' (first | exact trivial | exact rfl | (refine ⟨Or.inl rfl, ?_⟩) | (refine ⟨Or.inr rfl, ?_⟩) | (refine ⟨Or.inr trivial, ?_⟩) | (refine ⟨rfl, ?_⟩) | (refine ⟨?_, ?_⟩))), ?_, by (repeat' (first | exact trivial | exact rfl | (refine ⟨Or.inl rfl, ?_⟩) | (refine ⟨Or.inr rfl, ?_⟩) | (refine ⟨Or.inr trivial, ?_⟩) | (refine ⟨rfl, ?_⟩) | (refine ⟨?_, ?_⟩)))⟩
           rw [hst1]; (repeat' (first | exact trivial | exact rfl | (refine ⟨Or.inl rfl, ?_⟩) | (refine ⟨Or.inr rfl, ?_⟩) | (refine ⟨Or.inr trivial, ?_⟩) | (refine ⟨rfl, ?_⟩) | (refine ⟨?_, ?_⟩))))
        | trace_state
    · rw [putAll_cons, if_neg hE2] at hall
      rw [hall] at hE
      exact absurd hE hE2
  · have : k = P.length := by omega
    subst this
    rw [List.take_length, hz]
    repeat' (first | ((with_reducible refine gA ?_); (first | refine AW_seq ?_ | refine AW_region ?_ | (refine AW_cond rfl (fun hc => ?_) (fun hc => ?_) <;> try (exfalso; simp only [cmpL] at hc; omega)) | refine AW_ret ?_ | refine AW_exit ?_)) | ((with_reducible refine gS ?_); refine Es_s (T := Tryz.tab) rfl rfl rfl rfl ?_) | (with_reducible refine Es_nil ?_) | (with_reducible refine then_n ?_) | (with_reducible refine then_e ?_) | ((with_reducible refine block_e ?_ ?_); rfl) | ((with_reducible refine gR ?_); first | refine ret1 rfl ?_ | refine ret2 rfl rfl ?_ | refine ret0 ?_ | refine end1 rfl ?_ | refine end0 ?_))
    all_goals first
      | exact ⟨rfl, by (repeat' (first | exact trivial | exact rfl | (refine ⟨Or.inl rfl, ?_⟩) | (refine ⟨Or.inr rfl, ?_⟩) | (refine ⟨Or.inr trivial, ?_⟩) | (refine ⟨rfl, ?_⟩) | (refine ⟨?_, ?_⟩)))⟩
      | trace_state
def rightE (S : Ship) (l : List Load) : Int := if standE S l = 0 then safeE S l else standE S l
set_option maxRecDepth 10000 in
set_option maxHeartbeats 4000000 in
theorem sright_ac (S : Ship) (l : List Load) (hl : l.length ≤ 20) : AC Tryz.prog 8 [.agg S.cs, .d (.sl 7 (l.map Load.enc))] [hG] [9000] (fun r h' => r = .d (.sc (.int .i64 (rightE S l))) ∧ SubH [hG] h') := by
  have f00 : (!(eqb 0 0)) = false := by simp [eqb]
  by_cases hE : standE S l = 0
  · have c1 := standOk_ac S l hl hE
    have c2 := safe_ac S l (by omega)
    have : rightE S l = safeE S l := by unfold rightE; rw [if_pos hE]
    rw [this]
    generalize safeE S l = v at *
    refine AC_enter Tryz.func8 rfl Tryz.ntmps8 (rv := [.tmp 4]) rfl rfl (by simp) (fun w X G => ?_)
    repeat' (first | ((with_reducible refine gA ?_); (first | refine AW_seq ?_ | refine AW_region ?_ | (refine AW_condN rfl ?_ ?_; assumption) | refine AW_ret ?_ | refine AW_skip ?_)) | ((with_reducible refine gS ?_); refine Es_s (T := Tryz.tab) rfl rfl rfl rfl ?_) | (((with_reducible refine gS ?_); apply Es_q); rfl; rfl; refine LStep_call (c2) rfl rfl rfl rfl) | (((with_reducible refine gS ?_); apply Es_xg); rfl; rfl; refine LStep_callHN [] [(1000, 1000), (1001, 1001), (1002, 1002)] c1 rfl rfl ⟨rfl, trivial⟩ rfl ⟨trivial, trivial⟩ rfl rfl; rfl) | (refine Es_skip rfl ?_ rfl ?_; (first | rfl | (refine w_tf ?_; assumption) | (refine w_ft ?_; assumption))) | (((with_reducible refine gS ?_); apply Es_xs); rfl; rfl; refine LStep_boxN rfl rfl rfl rfl rfl rfl; rfl) | (with_reducible refine Es_nil ?_) | (with_reducible refine then_n ?_) | ((with_reducible refine gR ?_); first | refine ret1 rfl ?_ | refine ret2 rfl rfl ?_ | refine ret0 ?_ | refine end1 rfl ?_ | refine end0 ?_))
    all_goals first
      | exact ⟨rfl, by (repeat' (first | exact trivial | exact rfl | (refine ⟨Or.inl rfl, ?_⟩) | (refine ⟨Or.inr rfl, ?_⟩) | (refine ⟨Or.inr trivial, ?_⟩) | (refine ⟨rfl, ?_⟩) | (refine ⟨?_, ?_⟩)))⟩
      | trace_state
  · have c1 := standNo_ac S l hl hE
    have : rightE S l = standE S l := by unfold rightE; rw [if_neg hE]
    rw [this]
    have g1 : (!(eqb (standE S l) 0)) = true := by rw [eqb_f.2 hE]; rfl
    generalize standE S l = v at *
    refine AC_enter Tryz.func8 rfl Tryz.ntmps8 (rv := [.tmp 4]) rfl rfl (by simp) (fun w X G => ?_)
    repeat' (first | ((with_reducible refine gA ?_); (first | refine AW_seq ?_ | refine AW_region ?_ | (refine AW_condY rfl ?_ ?_; assumption) | refine AW_ret ?_)) | ((with_reducible refine gS ?_); refine Es_s (T := Tryz.tab) rfl rfl rfl rfl ?_) | (((with_reducible refine gS ?_); apply Es_xg); rfl; rfl; refine LStep_callHN [] [] c1 rfl rfl ⟨rfl, trivial⟩ rfl ⟨trivial, trivial⟩ rfl rfl; rfl) | (refine Es_skip rfl ?_ rfl ?_; (first | rfl | (refine w_tf ?_; assumption) | (refine w_ft ?_; assumption))) | (((with_reducible refine gS ?_); apply Es_xs); rfl; rfl; refine LStep_boxN rfl rfl rfl rfl rfl rfl; rfl) | (with_reducible refine Es_nil ?_) | (with_reducible refine then_n ?_) | (with_reducible refine then_r ?_) | ((with_reducible refine gR ?_); first | refine ret1 rfl ?_ | refine ret2 rfl rfl ?_ | refine ret0 ?_ | refine end1 rfl ?_ | refine end0 ?_))
    all_goals first
      | exact ⟨rfl, by (repeat' (first | exact trivial | exact rfl | (refine ⟨Or.inl rfl, ?_⟩) | (refine ⟨Or.inr rfl, ?_⟩) | (refine ⟨Or.inr trivial, ?_⟩) | (refine ⟨rfl, ?_⟩) | (refine ⟨?_, ?_⟩)))⟩
      | trace_state
end Go.Proofs.YtodgjgkoaahhmaaGreatDoor
