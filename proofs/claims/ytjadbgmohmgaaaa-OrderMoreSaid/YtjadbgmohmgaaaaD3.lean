import Derived.Test.YtjadbgmohmgaaaaD2
namespace Go.Proofs.Ytjadbgmohmgaaaa
open Go.SL

def cutCode (o : Ord) (dates : List Int) (parts : List (List Int)) : Int :=
  if (!(o.may && pMay o.lines.length dates parts)) = true then 1 else if (!srt dates) = true then 6 else if parts.any zeroP = true then 4 else if (!wholeB parts o.lines 0) = true then 3 else 0
def cutH (o : Ord) (dates : List Int) (parts : List (List Int)) : Hp := [(1003, some (.cells o.cs)), (1004, some (.cells [.d (.sl 1 (dates.map iE))])), (1005, some (.cells [.d (.sl 1 (parts.map pE))]))]
structure CutFit (o : Ord) (dates : List Int) (parts : List (List Int)) : Prop where
  h1 : dates.length ≤ 140737488351232
  h2 : parts.length ≤ 140737488351232
  h3 : o.lines.length ≤ 140737488351232
  h4 : ∀ p ∈ parts, p.length ≤ 140737488351232
theorem pMay_of {n : Nat} {dates : List Int} {parts : List (List Int)} (h : pMay n dates parts = true) : parts.length = dates.length ∧ 1 ≤ parts.length ∧ parts.length ≤ 64 ∧ (∀ d ∈ dates, 0 ≤ d ∧ d ≤ 1048576) ∧ ∀ p ∈ parts, p.length = n ∧ ∀ x ∈ p, 0 ≤ x := by
  simp only [pMay, Bool.and_eq_true, decide_eq_true_eq, List.all_eq_true, dOk, pOk] at h
  exact ⟨h.1.1.1.1, h.1.1.1.2, h.1.1.2, h.1.2, h.2⟩
section
variable (o : Ord) (dates : List Int) (parts : List (List Int)) (hf : CutFit o dates parts)
include hf
set_option maxRecDepth 10000 in
theorem cut1_ac : AC Try.prog 14 [.ptr 1003 0, .ptr 1004 0, .ptr 1005 0] (cutH o dates parts) [1003, 1004, 1005] (fun r h' => r = .d (.sc (.bool (!(o.may && pMay o.lines.length dates parts)))) ∧ Kp (cutH o dates parts) h') := by
  refine AC_enter Try.func14 rfl Try.ntmps14 (rv := [.tmp 3]) rfl rfl (by simp) (fun w X G => ?_)
  repeat' (first | ((with_reducible refine gA ?_); (first | refine AW_seq ?_ | refine AW_region ?_ | refine AW_ret ?_)) | ((with_reducible refine gS ?_); refine Es_s (T := Try.tab) rfl rfl rfl rfl ?_) | (((with_reducible refine gS ?_); apply Es_q); rfl; (first | rfl | (refine w_ff ?_; assumption)); (first | refine LStep_call (may_ac _) rfl rfl rfl rfl | refine LStep_call (partsMay_ac _ _ _ hf.h1 hf.h2 hf.h3) rfl rfl rfl rfl)) | (((with_reducible refine gS ?_); apply Es_q); rfl; (first | rfl | (refine w_ff ?_; assumption)); (first | refine LStep_simp (T := Try.tab) rfl rfl | (refine LStep_pickT rfl rfl ?_ rfl rfl; assumption) | (refine LStep_pickF rfl rfl ?_ rfl rfl; assumption))) | (refine Es_skip rfl ?_ rfl ?_; (first | rfl | (refine w_tf ?_; assumption) | (refine w_ft ?_; assumption))) | (refine Es_split rfl ?_ (fun _ => ?_) (fun _ => ?_); ((fail_if_success (refine und_t ?_; assumption)); (fail_if_success (refine und_f ?_; assumption)); exact trivial)) | (with_reducible refine Es_nil ?_) | (with_reducible refine then_n ?_) | ((with_reducible refine gR ?_); first | refine ret1 rfl ?_ | refine ret2 rfl rfl ?_ | refine ret0 ?_ | refine end1 rfl ?_ | refine end0 ?_))
  · have h : (!o.may) = true := by assumption
    rw [not_t] at h
    exact ⟨by rw [h]; rfl, Kp.refl _⟩
  · have h : (!o.may) = false := by assumption
    rw [not_f] at h
    exact ⟨by rw [h, Bool.true_and], Kp.refl _⟩
set_option maxRecDepth 10000 in
theorem cut2_ac : AC Try.prog 16 [.ptr 1004 0] (cutH o dates parts) [1003, 1004, 1005] (fun r h' => r = .d (.sc (.bool (!srt dates))) ∧ Kp (cutH o dates parts) h') := by
  refine AC_enter Try.func16 rfl Try.ntmps16 (rv := [.tmp 1]) rfl rfl (by simp) (fun w X G => ?_)
  repeat' (first | ((with_reducible refine gA ?_); (first | refine AW_seq ?_ | refine AW_region ?_ | refine AW_ret ?_)) | ((with_reducible refine gS ?_); refine Es_s (T := Try.tab) rfl rfl rfl rfl ?_) | (((with_reducible refine gS ?_); apply Es_q); rfl; rfl; refine LStep_call (isSorted_ac _ hf.h1) rfl rfl rfl rfl) | (with_reducible refine Es_nil ?_) | (with_reducible refine then_n ?_) | ((with_reducible refine gR ?_); first | refine ret1 rfl ?_ | refine ret2 rfl rfl ?_ | refine ret0 ?_ | refine end1 rfl ?_ | refine end0 ?_))
  exact ⟨rfl, Kp.refl _⟩
set_option maxRecDepth 10000 in
theorem cut3_ac : AC Try.prog 18 [.ptr 1005 0] (cutH o dates parts) [1003, 1004, 1005] (fun r h' => r = .d (.sc (.bool (parts.any zeroP))) ∧ Kp (cutH o dates parts) h') := by
  refine AC_enter Try.func18 rfl Try.ntmps18 (rv := [.tmp 1]) rfl rfl (by simp) (fun w X G => ?_)
  repeat' (first | ((with_reducible refine gA ?_); (first | refine AW_seq ?_ | refine AW_region ?_ | refine AW_ret ?_)) | ((with_reducible refine gS ?_); refine Es_s (T := Try.tab) rfl rfl rfl rfl ?_) | (((with_reducible refine gS ?_); apply Es_q); rfl; rfl; refine LStep_call (containsParts_ac _ _ zeroP hf.h2 (fun p hp => nothing_ac p (hf.h4 p hp))) rfl rfl rfl rfl) | (with_reducible refine Es_nil ?_) | (with_reducible refine then_n ?_) | ((with_reducible refine gR ?_); first | refine ret1 rfl ?_ | refine ret2 rfl rfl ?_ | refine ret0 ?_ | refine end1 rfl ?_ | refine end0 ?_))
  exact ⟨rfl, Kp.refl _⟩
set_option maxRecDepth 10000 in
theorem cut4_ac (h3 : ∀ x ∈ o.lines, 0 ≤ x.count ∧ x.count ≤ 1048576) (h4 : ∀ p ∈ parts, p.length = o.lines.length ∧ ∀ n ∈ p, 0 ≤ n) :
    AC Try.prog 21 [.ptr 1003 0, .ptr 1005 0] (cutH o dates parts) [1003, 1004, 1005] (fun r h' => r = .d (.sc (.bool (!wholeB parts o.lines 0))) ∧ Kp (cutH o dates parts) h') := by
  refine AC_enter Try.func21 rfl Try.ntmps21 (rv := [.tmp 2]) rfl rfl (by simp) (fun w X G => ?_)
  repeat' (first | ((with_reducible refine gA ?_); (first | refine AW_seq ?_ | refine AW_region ?_ | refine AW_ret ?_)) | ((with_reducible refine gS ?_); refine Es_s (T := Try.tab) rfl rfl rfl rfl ?_) | (((with_reducible refine gS ?_); apply Es_q); rfl; rfl; refine LStep_call (whole_ac _ _ hf.h2 hf.h3 h3 h4) rfl rfl rfl rfl) | (with_reducible refine Es_nil ?_) | (with_reducible refine then_n ?_) | ((with_reducible refine gR ?_); first | refine ret1 rfl ?_ | refine ret2 rfl rfl ?_ | refine ret0 ?_ | refine end1 rfl ?_ | refine end0 ?_))
  exact ⟨rfl, Kp.refl _⟩
set_option maxRecDepth 10000 in
set_option maxHeartbeats 1000000 in
theorem cutFirst_ac : AC Try.prog 13 [.sla 2 [[.d (.sc (.int .i64 1)), .fn 14 [.ptr 1003 0, .ptr 1004 0, .ptr 1005 0]], [.d (.sc (.int .i64 6)), .fn 16 [.ptr 1004 0]], [.d (.sc (.int .i64 4)), .fn 18 [.ptr 1005 0]], [.d (.sc (.int .i64 3)), .fn 21 [.ptr 1003 0, .ptr 1005 0]]]]
    (cutH o dates parts) [1003, 1004, 1005] (fun r h' => r = .d (.sc (.int .i64 (cutCode o dates parts))) ∧ Kp (cutH o dates parts) h') := by
  have c1 := cut1_ac o dates parts hf
  have c2 := cut2_ac o dates parts hf
  have c3 := cut3_ac o dates parts hf
  refine AC_enter Try.func13 rfl Try.ntmps13 (rv := [.tmp 2]) rfl rfl (by simp) (fun w X G => ?_)
  repeat' (first | ((with_reducible refine gA ?_); (first | refine AW_seq ?_ | refine AW_region ?_ | refine AW_block ?_)) | ((with_reducible refine gS ?_); refine Es_s (T := Try.tab) rfl rfl rfl rfl ?_) | (((with_reducible refine gS ?_); apply Es_q); rfl; rfl; refine LStep_wrap (T := Try.tab) rfl rfl) | (with_reducible refine Es_nil ?_) | (with_reducible refine then_n ?_))
  refine AW_rounds 5 ?_
  by_cases b1 : (!(o.may && pMay o.lines.length dates parts)) = true
  · repeat' (first | ((with_reducible refine gRd ?_); refine rounds_stepD [4, 8, 9, 10, 11, 12, 13, 14, 15, 16] [4] ?_) | ((with_reducible refine gA ?_); (first | refine AW_seq ?_ | refine AW_region ?_ | (refine AW_condY rfl ?_ ?_; assumption) | (refine AW_cond rfl (fun hc => ?_) (fun hc => ?_) <;> try (exfalso; simp only [cmpL] at hc; omega)) | refine AW_block ?_ | refine AW_ret ?_ | refine AW_skip ?_)) | ((with_reducible refine gS ?_); refine Es_s (T := Try.tab) rfl rfl rfl rfl ?_) | (((with_reducible refine gS ?_); apply Es_q); rfl; rfl; refine LStep_callB c1 rfl rfl ⟨rfl, rfl, rfl, trivial⟩ rfl rfl) | (((with_reducible refine gS ?_); apply Es_q); rfl; rfl; (refine LStep_indexA (T := Try.tab) (c := ?_) rfl rfl rfl rfl rfl rfl ?_ ?_; rotate_left; omega; (first | assumption | rfl))) | (refine Es_skip rfl ?_ rfl ?_; (first | rfl | (refine w_tf ?_; assumption) | (refine w_ft ?_; assumption))) | (((with_reducible refine gS ?_); apply Es_xs); rfl; rfl; refine LStep_allocN (T := Try.tab) rfl rfl rfl rfl rfl rfl; rfl) | (((with_reducible refine gS ?_); apply Es_xn); rfl; rfl; (refine LStep_storeN (T := Try.tab) rfl rfl rfl rfl rfl rfl rfl ?_ rfl; (refine Nat.le_of_ble_eq_true ?_; rfl)); rfl) | (with_reducible refine Es_nil ?_) | (with_reducible refine then_n ?_) | (with_reducible refine then_r ?_) | (with_reducible refine block_r ?_) | ((with_reducible refine gR ?_); first | refine ret1 rfl ?_ | refine ret2 rfl rfl ?_ | refine ret0 ?_ | refine end1 rfl ?_ | refine end0 ?_))
    exact ⟨by rw [cutCode, if_pos b1], Kp.sub ⟨rfl, rfl, rfl, trivial⟩⟩
  have b1' : (!(o.may && pMay o.lines.length dates parts)) = false := by simpa using b1
  have hmp : o.may = true ∧ pMay o.lines.length dates parts = true := by simpa using b1'
  obtain ⟨_, hl⟩ := may_lines hmp.1
  obtain ⟨_, _, _, _, hp⟩ := pMay_of hmp.2
  have c4 := cut4_ac o dates parts hf (fun x hx => by have := hl x hx; omega) hp
  clear hl hp hmp
  by_cases b2 : (!srt dates) = true
  · repeat' (first | ((with_reducible refine gRd ?_); refine rounds_stepD [4, 8, 9, 10, 11, 12, 13, 14, 15, 16] [4] ?_) | ((with_reducible refine gA ?_); (first | refine AW_seq ?_ | refine AW_region ?_ | (refine AW_condY rfl ?_ ?_; assumption) | (refine AW_condN rfl ?_ ?_; assumption) | (refine AW_cond rfl (fun hc => ?_) (fun hc => ?_) <;> try (exfalso; simp only [cmpL] at hc; omega)) | refine AW_block ?_ | refine AW_ret ?_ | refine AW_skip ?_)) | ((with_reducible refine gS ?_); refine Es_s (T := Try.tab) rfl rfl rfl rfl ?_) | (((with_reducible refine gS ?_); apply Es_q); rfl; rfl; (first | refine LStep_callB c1 rfl rfl ⟨rfl, rfl, rfl, trivial⟩ rfl rfl | refine LStep_callB c2 rfl rfl ⟨rfl, rfl, rfl, trivial⟩ rfl rfl)) | (((with_reducible refine gS ?_); apply Es_q); rfl; rfl; (first | (refine LStep_add rfl rfl rfl rfl ?_; (refine IntWalk.i64_in _ ?_; first | omega | (simp only [cmps] at *; omega))) | (refine LStep_indexA (T := Try.tab) (c := ?_) rfl rfl rfl rfl rfl rfl ?_ ?_; rotate_left; omega; (first | assumption | rfl)))) | (refine Es_skip rfl ?_ rfl ?_; (first | rfl | (refine w_tf ?_; assumption) | (refine w_ft ?_; assumption))) | (((with_reducible refine gS ?_); apply Es_xs); rfl; rfl; refine LStep_allocN (T := Try.tab) rfl rfl rfl rfl rfl rfl; rfl) | (((with_reducible refine gS ?_); apply Es_xn); rfl; rfl; (refine LStep_storeN (T := Try.tab) rfl rfl rfl rfl rfl rfl rfl ?_ rfl; (refine Nat.le_of_ble_eq_true ?_; rfl)); rfl) | (with_reducible refine Es_nil ?_) | (with_reducible refine then_n ?_) | (with_reducible refine then_r ?_) | (with_reducible refine block_n ?_) | (with_reducible refine block_r ?_) | ((with_reducible refine gR ?_); first | refine ret1 rfl ?_ | refine ret2 rfl rfl ?_ | refine ret0 ?_ | refine end1 rfl ?_ | refine end0 ?_))
    exact ⟨by rw [cutCode, if_neg b1, if_pos b2], Kp.sub ⟨rfl, rfl, rfl, trivial⟩⟩
  have b2' : (!srt dates) = false := by simpa using b2
  by_cases b3 : parts.any zeroP = true
  · repeat' (first | ((with_reducible refine gRd ?_); refine rounds_stepD [4, 8, 9, 10, 11, 12, 13, 14, 15, 16] [4] ?_) | ((with_reducible refine gA ?_); (first | refine AW_seq ?_ | refine AW_region ?_ | (refine AW_condY rfl ?_ ?_; assumption) | (refine AW_condN rfl ?_ ?_; assumption) | (refine AW_cond rfl (fun hc => ?_) (fun hc => ?_) <;> try (exfalso; simp only [cmpL] at hc; omega)) | refine AW_block ?_ | refine AW_ret ?_ | refine AW_skip ?_)) | ((with_reducible refine gS ?_); refine Es_s (T := Try.tab) rfl rfl rfl rfl ?_) | (((with_reducible refine gS ?_); apply Es_q); rfl; rfl; (first | refine LStep_callB c1 rfl rfl ⟨rfl, rfl, rfl, trivial⟩ rfl rfl | refine LStep_callB c2 rfl rfl ⟨rfl, rfl, rfl, trivial⟩ rfl rfl | refine LStep_callB c3 rfl rfl ⟨rfl, rfl, rfl, trivial⟩ rfl rfl)) | (((with_reducible refine gS ?_); apply Es_q); rfl; rfl; (first | (refine LStep_add rfl rfl rfl rfl ?_; (refine IntWalk.i64_in _ ?_; first | omega | (simp only [cmps] at *; omega))) | (refine LStep_indexA (T := Try.tab) (c := ?_) rfl rfl rfl rfl rfl rfl ?_ ?_; rotate_left; omega; (first | assumption | rfl)))) | (refine Es_skip rfl ?_ rfl ?_; (first | rfl | (refine w_tf ?_; assumption) | (refine w_ft ?_; assumption))) | (((with_reducible refine gS ?_); apply Es_xs); rfl; rfl; refine LStep_allocN (T := Try.tab) rfl rfl rfl rfl rfl rfl; rfl) | (((with_reducible refine gS ?_); apply Es_xn); rfl; rfl; (refine LStep_storeN (T := Try.tab) rfl rfl rfl rfl rfl rfl rfl ?_ rfl; (refine Nat.le_of_ble_eq_true ?_; rfl)); rfl) | (with_reducible refine Es_nil ?_) | (with_reducible refine then_n ?_) | (with_reducible refine then_r ?_) | (with_reducible refine block_n ?_) | (with_reducible refine block_r ?_) | ((with_reducible refine gR ?_); first | refine ret1 rfl ?_ | refine ret2 rfl rfl ?_ | refine ret0 ?_ | refine end1 rfl ?_ | refine end0 ?_))
    exact ⟨by rw [cutCode, if_neg b1, if_neg b2, if_pos b3], Kp.sub ⟨rfl, rfl, rfl, trivial⟩⟩
  have b3' : parts.any zeroP = false := by simpa using b3
  repeat' (first | ((with_reducible refine gRd ?_); refine rounds_stepD [4, 8, 9, 10, 11, 12, 13, 14, 15, 16] [4] ?_) | ((with_reducible refine gA ?_); (first | refine AW_seq ?_ | refine AW_region ?_ | (refine AW_condN rfl ?_ ?_; assumption) | (refine AW_cond rfl (fun hc => ?_) (fun hc => ?_) <;> try (exfalso; simp only [cmpL] at hc; omega)) | refine AW_block ?_ | refine AW_ret ?_ | refine AW_skip ?_ | refine AW_exit ?_)) | ((with_reducible refine gS ?_); refine Es_s (T := Try.tab) rfl rfl rfl rfl ?_) | (((with_reducible refine gS ?_); apply Es_q); rfl; rfl; (first | refine LStep_callB c1 rfl rfl ⟨rfl, rfl, rfl, trivial⟩ rfl rfl | refine LStep_callB c2 rfl rfl ⟨rfl, rfl, rfl, trivial⟩ rfl rfl | refine LStep_callB c3 rfl rfl ⟨rfl, rfl, rfl, trivial⟩ rfl rfl | refine LStep_callB c4 rfl rfl ⟨rfl, rfl, rfl, trivial⟩ rfl rfl)) | (((with_reducible refine gS ?_); apply Es_q); rfl; rfl; (first | (refine LStep_add rfl rfl rfl rfl ?_; (refine IntWalk.i64_in _ ?_; first | omega | (simp only [cmps] at *; omega))) | (refine LStep_indexA (T := Try.tab) (c := ?_) rfl rfl rfl rfl rfl rfl ?_ ?_; rotate_left; omega; (first | assumption | rfl)))) | (refine Es_skip rfl ?_ rfl ?_; (first | rfl | (refine w_tf ?_; assumption) | (refine w_ft ?_; assumption))) | (((with_reducible refine gS ?_); apply Es_xs); rfl; rfl; refine LStep_allocN (T := Try.tab) rfl rfl rfl rfl rfl rfl; rfl) | (((with_reducible refine gS ?_); apply Es_xn); rfl; rfl; (refine LStep_storeN (T := Try.tab) rfl rfl rfl rfl rfl rfl rfl ?_ rfl; (refine Nat.le_of_ble_eq_true ?_; rfl)); rfl) | (with_reducible refine Es_nil ?_) | (with_reducible refine then_n ?_) | (with_reducible refine then_r ?_) | (with_reducible refine then_e ?_) | (with_reducible refine block_n ?_) | (with_reducible refine block_r ?_) | ((with_reducible refine block_e ?_ ?_); rfl) | ((with_reducible refine gR ?_); first | refine ret1 rfl ?_ | refine ret2 rfl rfl ?_ | refine ret0 ?_ | refine end1 rfl ?_ | refine end0 ?_))
  · exact ⟨by rw [cutCode, if_neg b1, if_neg b2, if_neg b3, if_pos (by assumption)], Kp.sub ⟨rfl, rfl, rfl, trivial⟩⟩
  · have b4 : (!wholeB parts o.lines 0) = false := by assumption
    exact ⟨by rw [cutCode, if_neg b1, if_neg b2, if_neg b3, if_neg (by rw [b4]; simp)], Kp.sub ⟨rfl, rfl, rfl, trivial⟩⟩
end
end Go.Proofs.Ytjadbgmohmgaaaa
