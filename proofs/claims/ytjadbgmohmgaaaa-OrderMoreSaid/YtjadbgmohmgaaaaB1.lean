import Derived.Test.YtjadbgmohmgaaaaTab
import Derived.Test.YtjadbgmohmgaaaaPl
import Derived.Test.YtjadbgmohmgaaaaRows
namespace Go.Proofs.Ytjadbgmohmgaaaa
open Go.SL

def letterB (c : Int) : Bool := decide (97 ≤ c) && decide (c ≤ 122)
def digitB (c : Int) : Bool := decide (48 ≤ c) && decide (c ≤ 57)
def nameB (c : UInt8) : Bool := letterB c.toNat || digitB c.toNat || decide ((c.toNat : Int) = 45)
def nameOk (s : ByteArray) : Bool := decide (1 ≤ s.size) && decide (s.size ≤ 16) && s.data.toList.all nameB

theorem isLetter_ac (c : Int) : AC Try.prog 44 [.d (.sc (.int .u8 c))] [] [] (fun r _ => r = .d (.sc (.bool (letterB c)))) := by
  refine AC_enter Try.func44 rfl Try.ntmps44 (rv := [.tmp 2]) rfl rfl (by simp) (fun w X G => ?_)
  repeat' (first | ((with_reducible refine gA ?_); (first | refine AW_seq ?_ | refine AW_region ?_ | refine AW_ret ?_)) | ((with_reducible refine gS ?_); refine Es_s (T := Try.tab) rfl rfl rfl rfl ?_) | (((with_reducible refine gS ?_); apply Es_q); rfl; (first | rfl | (refine w_tt ?_; assumption)); (first | refine LStep_simp (T := Try.tab) rfl rfl | (refine LStep_pickT rfl rfl ?_ rfl rfl; assumption) | (refine LStep_pickF rfl rfl ?_ rfl rfl; assumption))) | (refine Es_skip rfl ?_ rfl ?_; (first | rfl | (refine w_tf ?_; assumption) | (refine w_ft ?_; assumption))) | (refine Es_split rfl ?_ (fun _ => ?_) (fun _ => ?_); ((fail_if_success (refine und_t ?_; assumption)); (fail_if_success (refine und_f ?_; assumption)); exact trivial)) | (with_reducible refine Es_nil ?_) | (with_reducible refine then_n ?_) | ((with_reducible refine gR ?_); first | refine ret1 rfl ?_ | refine ret2 rfl rfl ?_ | refine ret0 ?_ | refine end1 rfl ?_ | refine end0 ?_))
  · rename_i h; rw [leb_t] at h; simp [leb_d, h, letterB]
  · rename_i h; rw [leb_f] at h; simp [letterB]; omega
theorem isDigit_ac (c : Int) : AC Try.prog 45 [.d (.sc (.int .u8 c))] [] [] (fun r _ => r = .d (.sc (.bool (digitB c)))) := by
  refine AC_enter Try.func45 rfl Try.ntmps45 (rv := [.tmp 2]) rfl rfl (by simp) (fun w X G => ?_)
  repeat' (first | ((with_reducible refine gA ?_); (first | refine AW_seq ?_ | refine AW_region ?_ | refine AW_ret ?_)) | ((with_reducible refine gS ?_); refine Es_s (T := Try.tab) rfl rfl rfl rfl ?_) | (((with_reducible refine gS ?_); apply Es_q); rfl; (first | rfl | (refine w_tt ?_; assumption)); (first | refine LStep_simp (T := Try.tab) rfl rfl | (refine LStep_pickT rfl rfl ?_ rfl rfl; assumption) | (refine LStep_pickF rfl rfl ?_ rfl rfl; assumption))) | (refine Es_skip rfl ?_ rfl ?_; (first | rfl | (refine w_tf ?_; assumption) | (refine w_ft ?_; assumption))) | (refine Es_split rfl ?_ (fun _ => ?_) (fun _ => ?_); ((fail_if_success (refine und_t ?_; assumption)); (fail_if_success (refine und_f ?_; assumption)); exact trivial)) | (with_reducible refine Es_nil ?_) | (with_reducible refine then_n ?_) | ((with_reducible refine gR ?_); first | refine ret1 rfl ?_ | refine ret2 rfl rfl ?_ | refine ret0 ?_ | refine end1 rfl ?_ | refine end0 ?_))
  · rename_i h; rw [leb_t] at h; simp [leb_d, h, digitB]
  · rename_i h; rw [leb_f] at h; simp [digitB]; omega
set_option maxHeartbeats 400000 in
set_option maxRecDepth 10000 in
theorem name_ac (s : ByteArray) : AC Try.prog 26 [.d (.sc (.string s))] [] [] (fun r _ => r = .d (.sc (.bool (nameOk s)))) := by
  refine AC_enter Try.func26 rfl Try.ntmps26 (rv := [.tmp 2]) rfl rfl (by simp) (fun w X G => ?_)
  have hlen : s.data.toList.length = s.size := rfl
  repeat' (first | ((with_reducible refine gA ?_); (first | refine AW_seq ?_ | refine AW_region ?_ | refine AW_condT rfl ?_ | (refine AW_cond rfl (fun hc => ?_) (fun hc => ?_) <;> try (exfalso; simp only [cmpL] at hc; omega)) | refine AW_block ?_ | refine AW_ret ?_ | refine AW_skip ?_)) | ((with_reducible refine gS ?_); refine Es_s (T := Try.tab) rfl rfl rfl rfl ?_) | (((with_reducible refine gS ?_); apply Es_q); rfl; (first | rfl | (refine w_ff ?_; assumption)); (first | refine LStep_simp (T := Try.tab) rfl rfl | refine LStep_wrap (T := Try.tab) rfl rfl | (refine LStep_pickT rfl rfl ?_ rfl rfl; assumption) | (refine LStep_pickF rfl rfl ?_ rfl rfl; assumption))) | (refine Es_skip rfl ?_ rfl ?_; (first | rfl | (refine w_tf ?_; assumption) | (refine w_ft ?_; assumption))) | (refine Es_split rfl ?_ (fun _ => ?_) (fun _ => ?_); ((fail_if_success (refine und_t ?_; assumption)); (fail_if_success (refine und_f ?_; assumption)); exact trivial)) | (with_reducible refine Es_nil ?_) | (with_reducible refine then_n ?_) | (with_reducible refine then_r ?_) | ((with_reducible refine gR ?_); first | refine ret1 rfl ?_ | refine ret2 rfl rfl ?_ | refine ret0 ?_ | refine end1 rfl ?_ | refine end0 ?_))
  all_goals simp only [cmps] at *
  · simp [nameOk]; omega
  · simp [nameOk]; omega
  have hall : nameOk s = s.data.toList.all nameB := by
    have e1 : 1 ≤ s.size := by omega
    have e2 : s.size ≤ 16 := by omega
    simp [nameOk, e1, e2]
  rw [hall]
  refine AW_for (S := Nat) (fun k => k ≤ s.size ∧ (s.data.toList.take k).all nameB = true) (fun k => [(0, .d (.sc (.string s))), (13, .d (.sc (.int .i64 s.size))), (14, .d (.sc (.int .i64 k)))]) (fun _ => []) (fun k => s.size - k) 0 ⟨by omega, by simp⟩ ⟨rfl, rfl, rfl, trivial⟩ trivial ?_
  intro k ⟨hk, hf⟩
  by_cases hlt : k < s.size
  · obtain ⟨c, hc⟩ : ∃ c, s.data.toList[((k : Int)).toNat]? = some c := ⟨_, List.getElem?_eq_getElem (by rw [hlen]; omega)⟩
    have hall2 : (s.data.toList.take (k + 1)).all nameB = nameB c := by
      rw [List.take_add_one, List.all_append, hf]
      have : s.data.toList[k]? = some c := by simpa using hc
      rw [this]; simp
    have hno : nameB c = false → s.data.toList.all nameB = false := by
      intro e
      rw [e] at hall2
      cases hq : s.data.toList.all nameB
      · rfl
      · rw [List.all_eq_true] at hq
        rw [List.all_eq_false] at hall2
        obtain ⟨x, hx, hx2⟩ := hall2
        exact absurd (hq x (List.mem_of_mem_take hx)) hx2
    repeat' (first | ((with_reducible refine gA ?_); (first | refine AW_seq ?_ | refine AW_region ?_ | refine AW_condF rfl ?_ | (refine AW_cond rfl (fun hc => ?_) (fun hc => ?_) <;> try (exfalso; simp only [cmpL] at hc; omega)) | refine AW_block ?_ | refine AW_ret ?_ | refine AW_skip ?_)) | ((with_reducible refine gS ?_); refine Es_s (T := Try.tab) rfl rfl rfl rfl ?_) | (((with_reducible refine gS ?_); apply Es_q); rfl; (first | rfl | (refine w_tt ?_; assumption)); (first | refine LStep_call (isLetter_ac _) rfl rfl rfl rfl | refine LStep_call (isDigit_ac _) rfl rfl rfl rfl)) | (((with_reducible refine gS ?_); apply Es_q); rfl; (first | rfl | (refine w_tt ?_; assumption)); (first | refine LStep_simp (T := Try.tab) rfl rfl | (refine LStep_add rfl rfl rfl rfl ?_; (refine IntWalk.i64_in _ ?_; first | omega | (simp only [cmps] at *; omega))) | (refine LStep_pickT rfl rfl ?_ rfl rfl; assumption) | (refine LStep_pickF rfl rfl ?_ rfl rfl; assumption) | (refine LStep_byteM (T := Try.tab) (c := ?_) rfl rfl rfl rfl rfl ?_; rotate_left; assumption))) | (refine Es_skip rfl ?_ rfl ?_; (first | rfl | (refine w_tf ?_; assumption) | (refine w_ft ?_; assumption))) | (refine Es_split rfl ?_ (fun _ => ?_) (fun _ => ?_); ((fail_if_success (refine und_t ?_; assumption)); (fail_if_success (refine und_f ?_; assumption)); exact trivial)) | (with_reducible refine Es_nil ?_) | (with_reducible refine then_n ?_) | (with_reducible refine then_r ?_) | (with_reducible refine block_n ?_) | (with_reducible refine block_r ?_) | ((with_reducible refine gR ?_); first | refine ret1 rfl ?_ | refine ret2 rfl rfl ?_ | refine ret0 ?_ | refine end1 rfl ?_ | refine end0 ?_))
    all_goals simp only [cmps] at *
    · rw [hno (by simp [nameB, *])]
    all_goals exact ⟨k + 1, ⟨by omega, hall2.trans (by simp [nameB, *])⟩, by omega, ⟨rfl, rfl, rfl, trivial⟩, trivial⟩
  · have : k = s.size := by omega
    subst this
    repeat' (first | ((with_reducible refine gA ?_); (first | refine AW_seq ?_ | refine AW_region ?_ | (refine AW_cond rfl (fun hc => ?_) (fun hc => ?_) <;> try (exfalso; simp only [cmpL] at hc; omega)) | refine AW_ret ?_ | refine AW_exit ?_)) | ((with_reducible refine gS ?_); refine Es_s (T := Try.tab) rfl rfl rfl rfl ?_) | (with_reducible refine Es_nil ?_) | (with_reducible refine then_n ?_) | (with_reducible refine then_e ?_) | ((with_reducible refine block_e ?_ ?_); rfl) | ((with_reducible refine gR ?_); first | refine ret1 rfl ?_ | refine ret2 rfl rfl ?_ | refine ret0 ?_ | refine end1 rfl ?_ | refine end0 ?_))
    rw [← hlen, List.take_length] at hf
    rw [hf]
end Go.Proofs.Ytjadbgmohmgaaaa
