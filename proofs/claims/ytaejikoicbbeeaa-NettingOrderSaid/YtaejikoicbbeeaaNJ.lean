import Derived.Test.YtaejikoicbbeeaaNF
import Derived.Test.YtaejikoicbbeeaaTab
import Derived.Test.YtaejikoicbbeeaaPl
import Derived.Test.YtaejikoicbbeeaaRows
import Derived.Test.YtaejikoicbbeeaaTk
import Derived.Test.YtaejikoicbbeeaaTa
import Derived.Test.YtaejikoicbbeeaaTq
import Derived.Test.YtaejikoicbbeeaaTp
namespace Go.Proofs.Ytaejikoicbbeeaa
open Go.SL
/-! ### names and currencies (as in the texts B1, B2, B4) -/
def letterB (c : Int) : Bool := decide (97 ≤ c) && decide (c ≤ 122)
def digitB (c : Int) : Bool := decide (48 ≤ c) && decide (c ≤ 57)
def nameB (c : UInt8) : Bool := letterB c.toNat || digitB c.toNat || decide ((c.toNat : Int) = 45)
def nameOk (s : ByteArray) : Bool := decide (1 ≤ s.size) && decide (s.size ≤ 16) && s.data.toList.all nameB

theorem isLetter_ac (c : Int) : AC Try.prog 81 [.d (.sc (.int .u8 c))] [] [] (fun r _ => r = .d (.sc (.bool (letterB c)))) := by
  refine AC_enter Try.func81 rfl Try.ntmps81 (rv := [.tmp 2]) rfl rfl (by simp) (fun w X G => ?_)
  repeat' (first | ((with_reducible refine gA ?_); (first | refine AW_seq ?_ | refine AW_region ?_ | refine AW_ret ?_)) | ((with_reducible refine gS ?_); refine Es_s (T := Try.tab) rfl rfl rfl rfl ?_) | (((with_reducible refine gS ?_); apply Es_q); rfl; (first | rfl | (refine w_tt ?_; assumption)); (first | refine LStep_simp (T := Try.tab) rfl rfl | (refine LStep_pickT rfl rfl ?_ rfl rfl; assumption) | (refine LStep_pickF rfl rfl ?_ rfl rfl; assumption))) | (refine Es_skip rfl ?_ rfl ?_; (first | rfl | (refine w_tf ?_; assumption) | (refine w_ft ?_; assumption))) | (refine Es_split rfl ?_ (fun _ => ?_) (fun _ => ?_); ((fail_if_success (refine und_t ?_; assumption)); (fail_if_success (refine und_f ?_; assumption)); exact trivial)) | (with_reducible refine Es_nil ?_) | (with_reducible refine then_n ?_) | ((with_reducible refine gR ?_); first | refine ret1 rfl ?_ | refine ret2 rfl rfl ?_ | refine ret0 ?_ | refine end1 rfl ?_ | refine end0 ?_))
  · rename_i h; rw [leb_t] at h; simp [leb_d, h, letterB]
  · rename_i h; rw [leb_f] at h; simp [letterB]; omega
theorem isDigit_ac (c : Int) : AC Try.prog 82 [.d (.sc (.int .u8 c))] [] [] (fun r _ => r = .d (.sc (.bool (digitB c)))) := by
  refine AC_enter Try.func82 rfl Try.ntmps82 (rv := [.tmp 2]) rfl rfl (by simp) (fun w X G => ?_)
  repeat' (first | ((with_reducible refine gA ?_); (first | refine AW_seq ?_ | refine AW_region ?_ | refine AW_ret ?_)) | ((with_reducible refine gS ?_); refine Es_s (T := Try.tab) rfl rfl rfl rfl ?_) | (((with_reducible refine gS ?_); apply Es_q); rfl; (first | rfl | (refine w_tt ?_; assumption)); (first | refine LStep_simp (T := Try.tab) rfl rfl | (refine LStep_pickT rfl rfl ?_ rfl rfl; assumption) | (refine LStep_pickF rfl rfl ?_ rfl rfl; assumption))) | (refine Es_skip rfl ?_ rfl ?_; (first | rfl | (refine w_tf ?_; assumption) | (refine w_ft ?_; assumption))) | (refine Es_split rfl ?_ (fun _ => ?_) (fun _ => ?_); ((fail_if_success (refine und_t ?_; assumption)); (fail_if_success (refine und_f ?_; assumption)); exact trivial)) | (with_reducible refine Es_nil ?_) | (with_reducible refine then_n ?_) | ((with_reducible refine gR ?_); first | refine ret1 rfl ?_ | refine ret2 rfl rfl ?_ | refine ret0 ?_ | refine end1 rfl ?_ | refine end0 ?_))
  · rename_i h; rw [leb_t] at h; simp [leb_d, h, digitB]
  · rename_i h; rw [leb_f] at h; simp [digitB]; omega
set_option maxHeartbeats 400000 in
set_option maxRecDepth 10000 in
theorem name_ac (s : ByteArray) : AC Try.prog 57 [.d (.sc (.string s))] [] [] (fun r _ => r = .d (.sc (.bool (nameOk s)))) := by
  refine AC_enter Try.func57 rfl Try.ntmps57 (rv := [.tmp 2]) rfl rfl (by simp) (fun w X G => ?_)
  have hlen : s.data.toList.length = s.size := rfl
  repeat' (first | ((with_reducible refine gA ?_); (first | refine AW_seq ?_ | refine AW_region ?_ | refine AW_condT rfl ?_ | (refine AW_cond rfl (fun hc => ?_) (fun hc => ?_) <;> try (exfalso; simp only [cmpL] at hc; omega)) | refine AW_block ?_ | refine AW_ret ?_ | refine AW_skip ?_)) | ((with_reducible refine gS ?_); refine Es_s (T := Try.tab) rfl rfl rfl rfl ?_) | (((with_reducible refine gS ?_); apply Es_q); rfl; (first | rfl | (refine w_ff ?_; assumption)); (first | refine LStep_simp (T := Try.tab) rfl rfl | refine LStep_wrap (T := Try.tab) rfl rfl | (refine LStep_pickT rfl rfl ?_ rfl rfl; assumption) | (refine LStep_pickF rfl rfl ?_ rfl rfl; assumption))) | (refine Es_skip rfl ?_ rfl ?_; (first | rfl | (refine w_tf ?_; assumption) | (refine w_ft ?_; assumption))) | (refine Es_split rfl ?_ (fun _ => ?_) (fun _ => ?_); ((fail_if_success (refine und_t ?_; assumption)); (fail_if_success (refine und_f ?_; assumption)); exact trivial)) | (with_reducible refine Es_nil ?_) | (with_reducible refine then_n ?_) | (with_reducible refine then_r ?_) | ((with_reducible refine gR ?_); first | refine ret1 rfl ?_ | refine ret2 rfl rfl ?_ | refine ret0 ?_ | refine end1 rfl ?_ | refine end0 ?_))
  all_goals simp only [cmps] at *
  · simp [nameOk]; omega
  · simp [nameOk]; omega
  have hall : nameOk s = s.data.toList.all nameB := by
    have e1 : 1 ≤ s.size := by omega
    have e2 : s.size ≤ 16 := by omega
    simp [nameOk, e1, e2]
  rw [hall]
  refine AW_for (S := Nat) (fun k => k ≤ s.size ∧ (s.data.toList.take k).all nameB = true) (fun k => [(0, .d (.sc (.string s))), (13, .d (.sc (.int .i64 s.size))), (14, .d (.sc (.int .i64 k)))]) (fun _ => []) (fun k => s.size - k) 0 ⟨by omega, by simp⟩ ⟨rfl, rfl, rfl, trivial⟩ trivial ?_
  intro k ⟨hk, hf⟩
  by_cases hlt : k < s.size
  · obtain ⟨c, hc⟩ : ∃ c, s.data.toList[((k : Int)).toNat]? = some c := ⟨_, List.getElem?_eq_getElem (by rw [hlen]; omega)⟩
    have hall2 : (s.data.toList.take (k + 1)).all nameB = nameB c := by
      rw [List.take_add_one, List.all_append, hf]
      have : s.data.toList[k]? = some c := by simpa using hc
      rw [this]; simp
    have hno : nameB c = false → s.data.toList.all nameB = false := by
      intro e
      rw [e] at hall2
      cases hq : s.data.toList.all nameB
      · rfl
      · rw [List.all_eq_true] at hq
        rw [List.all_eq_false] at hall2
        obtain ⟨x, hx, hx2⟩ := hall2
        exact absurd (hq x (List.mem_of_mem_take hx)) hx2
    repeat' (first | ((with_reducible refine gA ?_); (first | refine AW_seq ?_ | refine AW_region ?_ | refine AW_condF rfl ?_ | (refine AW_cond rfl (fun hc => ?_) (fun hc => ?_) <;> try (exfalso; simp only [cmpL] at hc; omega)) | refine AW_block ?_ | refine AW_ret ?_ | refine AW_skip ?_)) | ((with_reducible refine gS ?_); refine Es_s (T := Try.tab) rfl rfl rfl rfl ?_) | (((with_reducible refine gS ?_); apply Es_q); rfl; (first | rfl | (refine w_tt ?_; assumption)); (first | refine LStep_call (isLetter_ac _) rfl rfl rfl rfl | refine LStep_call (isDigit_ac _) rfl rfl rfl rfl)) | (((with_reducible refine gS ?_); apply Es_q); rfl; (first | rfl | (refine w_tt ?_; assumption)); (first | refine LStep_simp (T := Try.tab) rfl rfl | (refine LStep_add rfl rfl rfl rfl ?_; (refine IntWalk.i64_in _ ?_; first | omega | (simp only [cmps] at *; omega))) | (refine LStep_pickT rfl rfl ?_ rfl rfl; assumption) | (refine LStep_pickF rfl rfl ?_ rfl rfl; assumption) | (refine LStep_byteM (T := Try.tab) (c := ?_) rfl rfl rfl rfl rfl ?_; rotate_left; assumption))) | (refine Es_skip rfl ?_ rfl ?_; (first | rfl | (refine w_tf ?_; assumption) | (refine w_ft ?_; assumption))) | (refine Es_split rfl ?_ (fun _ => ?_) (fun _ => ?_); ((fail_if_success (refine und_t ?_; assumption)); (fail_if_success (refine und_f ?_; assumption)); exact trivial)) | (with_reducible refine Es_nil ?_) | (with_reducible refine then_n ?_) | (with_reducible refine then_r ?_) | (with_reducible refine block_n ?_) | (with_reducible refine block_r ?_) | ((with_reducible refine gR ?_); first | refine ret1 rfl ?_ | refine ret2 rfl rfl ?_ | refine ret0 ?_ | refine end1 rfl ?_ | refine end0 ?_))
    all_goals simp only [cmps] at *
    · rw [hno (by simp [nameB, *])]
    all_goals exact ⟨k + 1, ⟨by omega, hall2.trans (by simp [nameB, *])⟩, by omega, ⟨rfl, rfl, rfl, trivial⟩, trivial⟩
  · have : k = s.size := by omega
    subst this
    repeat' (first | ((with_reducible refine gA ?_); (first | refine AW_seq ?_ | refine AW_region ?_ | (refine AW_cond rfl (fun hc => ?_) (fun hc => ?_) <;> try (exfalso; simp only [cmpL] at hc; omega)) | refine AW_ret ?_ | refine AW_exit ?_)) | ((with_reducible refine gS ?_); refine Es_s (T := Try.tab) rfl rfl rfl rfl ?_) | (with_reducible refine Es_nil ?_) | (with_reducible refine then_n ?_) | (with_reducible refine then_e ?_) | ((with_reducible refine block_e ?_ ?_); rfl) | ((with_reducible refine gR ?_); first | refine ret1 rfl ?_ | refine ret2 rfl rfl ?_ | refine ret0 ?_ | refine end1 rfl ?_ | refine end0 ?_))
    rw [← hlen, List.take_length] at hf
    rw [hf]
def bigB (c : UInt8) : Bool := decide (65 ≤ c.toNat) && decide (c.toNat ≤ 90)
def curNOk (s : ByteArray) : Bool := decide (s.size = 3) && s.data.toList.all bigB
theorem all_step {α : Type} {p : α → Bool} {l : List α} {k : Nat} {c : α} (hc : l[k]? = some c) (hf : (l.take k).all p = true) : (p c = true → (l.take (k + 1)).all p = true) ∧ (p c = false → l.all p = false) := by
  have h : (l.take (k + 1)).all p = p c := by rw [List.take_add_one, List.all_append, hf, hc]; simp
  refine ⟨fun e => h.trans e, fun e => ?_⟩
  rw [e] at h
  cases hq : l.all p
  · rfl
  · rw [List.all_eq_true] at hq
    rw [List.all_eq_false] at h
    obtain ⟨x, hx, hx2⟩ := h
    exact absurd (hq x (List.mem_of_mem_take hx)) hx2
set_option maxRecDepth 10000 in
theorem cur_ac (s : ByteArray) : AC Try.prog 83 [.d (.sc (.string s))] [] [] (fun r _ => r = .d (.sc (.bool (curNOk s)))) := by
  refine AC_enter Try.func83 rfl Try.ntmps83 (rv := [.tmp 2]) rfl rfl (by simp) (fun w X G => ?_)
  have hlen : s.data.toList.length = s.size := rfl
  repeat' (first | ((with_reducible refine gA ?_); (first | refine AW_seq ?_ | refine AW_region ?_ | (refine AW_cond rfl (fun hc => ?_) (fun hc => ?_) <;> try (exfalso; simp only [cmpL] at hc; omega)) | refine AW_block ?_ | refine AW_ret ?_ | refine AW_skip ?_)) | ((with_reducible refine gS ?_); refine Es_s (T := Try.tab) rfl rfl rfl rfl ?_) | (((with_reducible refine gS ?_); apply Es_q); rfl; rfl; refine LStep_wrap (T := Try.tab) rfl rfl) | (with_reducible refine Es_nil ?_) | (with_reducible refine then_n ?_) | (with_reducible refine then_r ?_) | ((with_reducible refine gR ?_); first | refine ret1 rfl ?_ | refine ret2 rfl rfl ?_ | refine ret0 ?_ | refine end1 rfl ?_ | refine end0 ?_))
  all_goals simp only [cmps] at *
  · simp [curNOk]; omega
  have hall : curNOk s = s.data.toList.all bigB := by
    have e1 : s.size = 3 := by omega
    simp [curNOk, e1]
  rw [hall]
  refine AW_for (S := Nat) (fun k => k ≤ s.size ∧ (s.data.toList.take k).all bigB = true) (fun k => [(0, .d (.sc (.string s))), (8, .d (.sc (.int .i64 s.size))), (9, .d (.sc (.int .i64 k)))]) (fun _ => []) (fun k => s.size - k) 0 ⟨by omega, by simp⟩ ⟨rfl, rfl, rfl, trivial⟩ trivial ?_
  intro k ⟨hk, hf⟩
  by_cases hlt : k < s.size
  · obtain ⟨c, hc⟩ : ∃ c, s.data.toList[((k : Int)).toNat]? = some c := ⟨_, List.getElem?_eq_getElem (by rw [hlen]; omega)⟩
    obtain ⟨hyes, hno⟩ := all_step (by simpa using hc) hf
    repeat' (first | ((with_reducible refine gA ?_); (first | refine AW_seq ?_ | refine AW_region ?_ | refine AW_condT rfl ?_ | (refine AW_cond rfl (fun hc => ?_) (fun hc => ?_) <;> try (exfalso; simp only [cmpL] at hc; omega)) | refine AW_block ?_ | refine AW_ret ?_ | refine AW_skip ?_)) | ((with_reducible refine gS ?_); refine Es_s (T := Try.tab) rfl rfl rfl rfl ?_) | (((with_reducible refine gS ?_); apply Es_q); rfl; (first | rfl | (refine w_ff ?_; assumption)); (first | refine LStep_simp (T := Try.tab) rfl rfl | (refine LStep_add rfl rfl rfl rfl ?_; (refine IntWalk.i64_in _ ?_; first | omega | (simp only [cmps] at *; omega))) | (refine LStep_pickT rfl rfl ?_ rfl rfl; assumption) | (refine LStep_pickF rfl rfl ?_ rfl rfl; assumption) | (refine LStep_byteM (T := Try.tab) (c := ?_) rfl rfl rfl rfl rfl ?_; rotate_left; assumption))) | (refine Es_skip rfl ?_ rfl ?_; (first | rfl | (refine w_tf ?_; assumption) | (refine w_ft ?_; assumption))) | (refine Es_split rfl ?_ (fun _ => ?_) (fun _ => ?_); ((fail_if_success (refine und_t ?_; assumption)); (fail_if_success (refine und_f ?_; assumption)); exact trivial)) | (with_reducible refine Es_nil ?_) | (with_reducible refine then_n ?_) | (with_reducible refine then_r ?_) | (with_reducible refine block_n ?_) | (with_reducible refine block_r ?_) | ((with_reducible refine gR ?_); first | refine ret1 rfl ?_ | refine ret2 rfl rfl ?_ | refine ret0 ?_ | refine end1 rfl ?_ | refine end0 ?_))
    all_goals simp only [cmps] at *
    all_goals first
      | exact ⟨k + 1, ⟨by omega, hyes (by simp [bigB]; omega)⟩, by omega, ⟨rfl, rfl, rfl, trivial⟩, trivial⟩
      | rw [hno (by simp [bigB]; omega)]
  · have : k = s.size := by omega
    subst this
    repeat' (first | ((with_reducible refine gA ?_); (first | refine AW_seq ?_ | refine AW_region ?_ | (refine AW_cond rfl (fun hc => ?_) (fun hc => ?_) <;> try (exfalso; simp only [cmpL] at hc; omega)) | refine AW_ret ?_ | refine AW_exit ?_)) | ((with_reducible refine gS ?_); refine Es_s (T := Try.tab) rfl rfl rfl rfl ?_) | (with_reducible refine Es_nil ?_) | (with_reducible refine then_n ?_) | (with_reducible refine then_e ?_) | ((with_reducible refine block_e ?_ ?_); rfl) | ((with_reducible refine gR ?_); first | refine ret1 rfl ?_ | refine ret2 rfl rfl ?_ | refine ret0 ?_ | refine end1 rfl ?_ | refine end0 ?_))
    rw [← hlen, List.take_length] at hf
    rw [hf]
def amtB (n : Int) : Bool := decide (-1099511627776 ≤ n) && decide (n ≤ 1099511627776)
set_option maxRecDepth 10000 in
theorem moneyMay_ac (s : ByteArray) (n : Int) : AC Try.prog 58 [.agg [.d (.sc (.string s)), .d (.sc (.int .i64 n))]] [] [] (fun r _ => r = .d (.sc (.bool (curNOk s && amtB n)))) := by
  refine AC_enter Try.func58 rfl Try.ntmps58 (rv := [.tmp 2]) rfl rfl (by simp) (fun w X G => ?_)
  repeat' (first | ((with_reducible refine gA ?_); (first | refine AW_seq ?_ | refine AW_region ?_ | refine AW_ret ?_)) | ((with_reducible refine gS ?_); refine Es_s (T := Try.tab) rfl rfl rfl rfl ?_) | (((with_reducible refine gS ?_); apply Es_q); rfl; (first | rfl | (refine w_tt ?_; assumption)); refine LStep_call (cur_ac _) rfl rfl rfl rfl) | (((with_reducible refine gS ?_); apply Es_q); rfl; (first | rfl | (refine w_tt ?_; assumption)); (first | refine LStep_simp (T := Try.tab) rfl rfl | (refine LStep_pickT rfl rfl ?_ rfl rfl; assumption) | (refine LStep_pickF rfl rfl ?_ rfl rfl; assumption))) | (refine Es_skip rfl ?_ rfl ?_; (first | rfl | (refine w_tf ?_; assumption) | (refine w_ft ?_; assumption))) | (((with_reducible refine gS ?_); apply Es_xs); rfl; rfl; refine LStep_boxN rfl rfl rfl rfl rfl rfl; rfl) | (refine Es_split rfl ?_ (fun _ => ?_) (fun _ => ?_); ((fail_if_success (refine und_t ?_; assumption)); (fail_if_success (refine und_f ?_; assumption)); exact trivial)) | (with_reducible refine Es_nil ?_) | (with_reducible refine then_n ?_) | ((with_reducible refine gR ?_); first | refine ret1 rfl ?_ | refine ret2 rfl rfl ?_ | refine ret0 ?_ | refine end1 rfl ?_ | refine end0 ?_))
  all_goals (simp_all [amtB, leb_d]; try omega)
theorem rletter_ac (c : Int) : AC Try.prog 53 [.d (.sc (.int .u8 c))] [] [] (fun r _ => r = .d (.sc (.bool (letterB c)))) := by
  refine AC_enter Try.func53 rfl Try.ntmps53 (rv := [.tmp 2]) rfl rfl (by simp) (fun w X G => ?_)
  repeat' (first | ((with_reducible refine gA ?_); (first | refine AW_seq ?_ | refine AW_region ?_ | refine AW_ret ?_)) | ((with_reducible refine gS ?_); refine Es_s (T := Try.tab) rfl rfl rfl rfl ?_) | (((with_reducible refine gS ?_); apply Es_q); rfl; (first | rfl | (refine w_tt ?_; assumption)); (first | refine LStep_simp (T := Try.tab) rfl rfl | (refine LStep_pickT rfl rfl ?_ rfl rfl; assumption) | (refine LStep_pickF rfl rfl ?_ rfl rfl; assumption))) | (refine Es_skip rfl ?_ rfl ?_; (first | rfl | (refine w_tf ?_; assumption) | (refine w_ft ?_; assumption))) | (refine Es_split rfl ?_ (fun _ => ?_) (fun _ => ?_); ((fail_if_success (refine und_t ?_; assumption)); (fail_if_success (refine und_f ?_; assumption)); exact trivial)) | (with_reducible refine Es_nil ?_) | (with_reducible refine then_n ?_) | ((with_reducible refine gR ?_); first | refine ret1 rfl ?_ | refine ret2 rfl rfl ?_ | refine ret0 ?_ | refine end1 rfl ?_ | refine end0 ?_))
  · rename_i h; rw [leb_t] at h; simp [leb_d, h, letterB]
  · rename_i h; rw [leb_f] at h; simp [letterB]; omega
theorem rdigit_ac (c : Int) : AC Try.prog 54 [.d (.sc (.int .u8 c))] [] [] (fun r _ => r = .d (.sc (.bool (digitB c)))) := by
  refine AC_enter Try.func54 rfl Try.ntmps54 (rv := [.tmp 2]) rfl rfl (by simp) (fun w X G => ?_)
  repeat' (first | ((with_reducible refine gA ?_); (first | refine AW_seq ?_ | refine AW_region ?_ | refine AW_ret ?_)) | ((with_reducible refine gS ?_); refine Es_s (T := Try.tab) rfl rfl rfl rfl ?_) | (((with_reducible refine gS ?_); apply Es_q); rfl; (first | rfl | (refine w_tt ?_; assumption)); (first | refine LStep_simp (T := Try.tab) rfl rfl | (refine LStep_pickT rfl rfl ?_ rfl rfl; assumption) | (refine LStep_pickF rfl rfl ?_ rfl rfl; assumption))) | (refine Es_skip rfl ?_ rfl ?_; (first | rfl | (refine w_tf ?_; assumption) | (refine w_ft ?_; assumption))) | (refine Es_split rfl ?_ (fun _ => ?_) (fun _ => ?_); ((fail_if_success (refine und_t ?_; assumption)); (fail_if_success (refine und_f ?_; assumption)); exact trivial)) | (with_reducible refine Es_nil ?_) | (with_reducible refine then_n ?_) | ((with_reducible refine gR ?_); first | refine ret1 rfl ?_ | refine ret2 rfl rfl ?_ | refine ret0 ?_ | refine end1 rfl ?_ | refine end0 ?_))
  · rename_i h; rw [leb_t] at h; simp [leb_d, h, digitB]
  · rename_i h; rw [leb_f] at h; simp [digitB]; omega
set_option maxRecDepth 10000 in
theorem rname_ac (s : ByteArray) (hs : s.size ≤ 140737488351232) : AC Try.prog 36 [.d (.sc (.string s))] [] [] (fun r _ => r = .d (.sc (.bool (nameOk s)))) := by
  refine AC_enter Try.func36 rfl Try.ntmps36 (rv := [.tmp 2]) rfl rfl (by simp) (fun w X G => ?_)
  have hlen : s.data.toList.length = s.size := rfl
  repeat' (first | ((with_reducible refine gA ?_); (first | refine AW_seq ?_ | refine AW_region ?_ | refine AW_block ?_)) | ((with_reducible refine gS ?_); refine Es_s (T := Try.tab) rfl rfl rfl rfl ?_) | (with_reducible refine Es_nil ?_) | (with_reducible refine then_n ?_))
  refine AW_for (S := Nat) (fun k => k ≤ s.size ∧ (s.data.toList.take k).all nameB = true) (fun k => [(0, .d (.sc (.string s))), (3, .d (.sc (.int .i64 k)))]) (fun _ => []) (fun k => s.size - k) 0 ⟨by omega, by simp⟩ ⟨rfl, rfl, trivial⟩ trivial ?_
  intro k ⟨hk, hf⟩
  by_cases hlt : k < s.size
  · obtain ⟨c, hc⟩ : ∃ c, s.data.toList[((k : Int)).toNat]? = some c := ⟨_, List.getElem?_eq_getElem (by rw [hlen]; omega)⟩
    obtain ⟨hyes, hno⟩ := all_step (by simpa using hc) hf
    repeat' (first | ((with_reducible refine gA ?_); (first | refine AW_seq ?_ | refine AW_region ?_ | refine AW_condF rfl ?_ | (refine AW_cond rfl (fun hc => ?_) (fun hc => ?_) <;> try (exfalso; simp only [cmpL] at hc; omega)) | refine AW_block ?_ | refine AW_ret ?_ | refine AW_skip ?_)) | ((with_reducible refine gS ?_); refine Es_s (T := Try.tab) rfl rfl rfl rfl ?_) | (((with_reducible refine gS ?_); apply Es_q); rfl; (first | rfl | (refine w_tt ?_; assumption)); (first | refine LStep_call (rletter_ac _) rfl rfl rfl rfl | refine LStep_call (rdigit_ac _) rfl rfl rfl rfl)) | (((with_reducible refine gS ?_); apply Es_q); rfl; (first | rfl | (refine w_tt ?_; assumption)); (first | refine LStep_simp (T := Try.tab) rfl rfl | (refine LStep_add rfl rfl rfl rfl ?_; (refine IntWalk.i64_in _ ?_; first | omega | (simp only [cmps] at *; omega))) | refine LStep_wrap (T := Try.tab) rfl rfl | (refine LStep_pickT rfl rfl ?_ rfl rfl; assumption) | (refine LStep_pickF rfl rfl ?_ rfl rfl; assumption) | (refine LStep_byteM (T := Try.tab) (c := ?_) rfl rfl rfl rfl rfl ?_; rotate_left; assumption))) | (refine Es_skip rfl ?_ rfl ?_; (first | rfl | (refine w_tf ?_; assumption) | (refine w_ft ?_; assumption))) | (refine Es_split rfl ?_ (fun _ => ?_) (fun _ => ?_); ((fail_if_success (refine und_t ?_; assumption)); (fail_if_success (refine und_f ?_; assumption)); exact trivial)) | (with_reducible refine Es_nil ?_) | (with_reducible refine then_n ?_) | (with_reducible refine then_r ?_) | (with_reducible refine block_n ?_) | (with_reducible refine block_r ?_) | ((with_reducible refine gR ?_); first | refine ret1 rfl ?_ | refine ret2 rfl rfl ?_ | refine ret0 ?_ | refine end1 rfl ?_ | refine end0 ?_))
    all_goals simp only [cmps] at *
    · have := hno (by simp [nameB, *])
      simp [nameOk, this]
    all_goals exact ⟨k + 1, ⟨by omega, hyes (by simp [nameB, *])⟩, by omega, ⟨rfl, rfl, trivial⟩, trivial⟩
  · have : k = s.size := by omega
    subst this
    rw [← hlen, List.take_length] at hf
    repeat' (first | ((with_reducible refine gA ?_); (first | refine AW_seq ?_ | refine AW_region ?_ | (refine AW_cond rfl (fun hc => ?_) (fun hc => ?_) <;> try (exfalso; simp only [cmpL] at hc; omega)) | refine AW_ret ?_ | refine AW_exit ?_)) | ((with_reducible refine gS ?_); refine Es_s (T := Try.tab) rfl rfl rfl rfl ?_) | (((with_reducible refine gS ?_); apply Es_q); rfl; (first | rfl | (refine w_tt ?_; assumption)); (first | refine LStep_simp (T := Try.tab) rfl rfl | refine LStep_wrap (T := Try.tab) rfl rfl | (refine LStep_pickT rfl rfl ?_ rfl rfl; assumption) | (refine LStep_pickF rfl rfl ?_ rfl rfl; assumption))) | (refine Es_skip rfl ?_ rfl ?_; (first | rfl | (refine w_tf ?_; assumption) | (refine w_ft ?_; assumption))) | (refine Es_split rfl ?_ (fun _ => ?_) (fun _ => ?_); ((fail_if_success (refine und_t ?_; assumption)); (fail_if_success (refine und_f ?_; assumption)); exact trivial)) | (with_reducible refine Es_nil ?_) | (with_reducible refine then_n ?_) | (with_reducible refine then_e ?_) | ((with_reducible refine block_e ?_ ?_); rfl) | ((with_reducible refine gR ?_); first | refine ret1 rfl ?_ | refine ret2 rfl rfl ?_ | refine ret0 ?_ | refine end1 rfl ?_ | refine end0 ?_))
    all_goals (simp only [nameOk, hf, Bool.and_true])
    all_goals simp only [cmps] at *
    · rename_i h; have : 1 ≤ s.size := by omega
      simp [leb_d, this]; omega
    · rename_i h; have : ¬ 1 ≤ s.size := by omega
      simp [this]
set_option maxRecDepth 10000 in
theorem rcur_ac (s : ByteArray) : AC Try.prog 37 [.d (.sc (.string s))] [] [] (fun r _ => r = .d (.sc (.bool (curNOk s)))) := by
  refine AC_enter Try.func37 rfl Try.ntmps37 (rv := [.tmp 2]) rfl rfl (by simp) (fun w X G => ?_)
  have hlen : s.data.toList.length = s.size := rfl
  repeat' (first | ((with_reducible refine gA ?_); (first | refine AW_seq ?_ | refine AW_region ?_ | (refine AW_cond rfl (fun hc => ?_) (fun hc => ?_) <;> try (exfalso; simp only [cmpL] at hc; omega)) | refine AW_block ?_ | refine AW_ret ?_ | refine AW_skip ?_)) | ((with_reducible refine gS ?_); refine Es_s (T := Try.tab) rfl rfl rfl rfl ?_) | (((with_reducible refine gS ?_); apply Es_q); rfl; rfl; refine LStep_wrap (T := Try.tab) rfl rfl) | (with_reducible refine Es_nil ?_) | (with_reducible refine then_n ?_) | (with_reducible refine then_r ?_) | ((with_reducible refine gR ?_); first | refine ret1 rfl ?_ | refine ret2 rfl rfl ?_ | refine ret0 ?_ | refine end1 rfl ?_ | refine end0 ?_))
  all_goals simp only [cmps] at *
  · simp [curNOk]; omega
  have h3 : s.size = 3 := by omega
  have hall : curNOk s = s.data.toList.all bigB := by simp [curNOk, h3]
  rw [hall]
  refine AW_for (S := Nat) (fun k => k ≤ s.size ∧ (s.data.toList.take k).all bigB = true) (fun k => [(0, .d (.sc (.string s))), (3, .d (.sc (.int .i64 k)))]) (fun _ => []) (fun k => s.size - k) 0 ⟨by omega, by simp⟩ ⟨rfl, rfl, trivial⟩ trivial ?_
  intro k ⟨hk, hf⟩
  by_cases hlt : k < s.size
  · obtain ⟨c, hc⟩ : ∃ c, s.data.toList[((k : Int)).toNat]? = some c := ⟨_, List.getElem?_eq_getElem (by rw [hlen]; omega)⟩
    obtain ⟨hyes, hno⟩ := all_step (by simpa using hc) hf
    repeat' (first | ((with_reducible refine gA ?_); (first | refine AW_seq ?_ | refine AW_region ?_ | refine AW_condT rfl ?_ | (refine AW_cond rfl (fun hc => ?_) (fun hc => ?_) <;> try (exfalso; simp only [cmpL] at hc; omega)) | refine AW_block ?_ | refine AW_ret ?_ | refine AW_skip ?_)) | ((with_reducible refine gS ?_); refine Es_s (T := Try.tab) rfl rfl rfl rfl ?_) | (((with_reducible refine gS ?_); apply Es_q); rfl; (first | rfl | (refine w_ff ?_; assumption)); (first | refine LStep_simp (T := Try.tab) rfl rfl | (refine LStep_add rfl rfl rfl rfl ?_; (refine IntWalk.i64_in _ ?_; first | omega | (simp only [cmps] at *; omega))) | (refine LStep_pickT rfl rfl ?_ rfl rfl; assumption) | (refine LStep_pickF rfl rfl ?_ rfl rfl; assumption) | (refine LStep_byteM (T := Try.tab) (c := ?_) rfl rfl rfl rfl rfl ?_; rotate_left; assumption))) | (refine Es_skip rfl ?_ rfl ?_; (first | rfl | (refine w_tf ?_; assumption) | (refine w_ft ?_; assumption))) | (refine Es_split rfl ?_ (fun _ => ?_) (fun _ => ?_); ((fail_if_success (refine und_t ?_; assumption)); (fail_if_success (refine und_f ?_; assumption)); exact trivial)) | (with_reducible refine Es_nil ?_) | (with_reducible refine then_n ?_) | (with_reducible refine then_r ?_) | (with_reducible refine block_n ?_) | (with_reducible refine block_r ?_) | ((with_reducible refine gR ?_); first | refine ret1 rfl ?_ | refine ret2 rfl rfl ?_ | refine ret0 ?_ | refine end1 rfl ?_ | refine end0 ?_))
    all_goals simp only [cmps] at *
    all_goals first
      | exact ⟨k + 1, ⟨by omega, hyes (by simp [bigB]; omega)⟩, by omega, ⟨rfl, rfl, trivial⟩, trivial⟩
      | rw [hno (by simp [bigB]; omega)]
  · have : k = s.size := by omega
    subst this
    repeat' (first | ((with_reducible refine gA ?_); (first | refine AW_seq ?_ | refine AW_region ?_ | (refine AW_cond rfl (fun hc => ?_) (fun hc => ?_) <;> try (exfalso; simp only [cmpL] at hc; omega)) | refine AW_ret ?_ | refine AW_exit ?_)) | ((with_reducible refine gS ?_); refine Es_s (T := Try.tab) rfl rfl rfl rfl ?_) | (with_reducible refine Es_nil ?_) | (with_reducible refine then_n ?_) | (with_reducible refine then_e ?_) | ((with_reducible refine block_e ?_ ?_); rfl) | ((with_reducible refine gR ?_); first | refine ret1 rfl ?_ | refine ret2 rfl rfl ?_ | refine ret0 ?_ | refine end1 rfl ?_ | refine end0 ?_))
    rw [← hlen, List.take_length] at hf
    rw [hf]
end Go.Proofs.Ytaejikoicbbeeaa
namespace Go.Proofs.Ytaejikoicbbeeaa
open Go.SL
/-! ### debts in memory; which may be -/
def sN (s : ByteArray) : List D := [.sc (.string s)]
def dbE (d : Db) : List D := [.sc (.string d.1.2.1), .sc (.string d.1.2.2), .sc (.string d.1.1), .sc (.int .i64 d.2)]
def dbC (d : Db) : List AV := [.d (.sc (.string d.1.2.1)), .d (.sc (.string d.1.2.2)), .d (.sc (.string d.1.1)), .d (.sc (.int .i64 d.2))]
def enE (x : SK × Int) : List D := [.sc (.string x.1.1), .sc (.string x.1.2), .sc (.int .i64 x.2)]
def mayD (d : Db) : Bool := nameOk d.1.2.1 && (nameOk d.1.2.2 && (!(eqs d.1.2.1 d.1.2.2) && (leb 1 d.2 && (curNOk d.1.1 && amtB d.2))))
set_option maxRecDepth 10000 in
set_option maxHeartbeats 4000000 in
theorem may1_ac (d : Db) : AC Try.prog 42 [.agg (dbC d)] [] [] (fun r _ => r = .d (.sc (.bool (mayD d)))) := by
  have c1 := name_ac d.1.2.1
  have c2 := name_ac d.1.2.2
  have c3 := moneyMay_ac d.1.1 d.2
  unfold mayD dbC
  generalize nameOk d.1.2.1 = b1 at *
  generalize nameOk d.1.2.2 = b2 at *
  generalize (curNOk d.1.1 && amtB d.2) = b3 at *
  cases b1 <;> cases b2 <;> cases b3 <;>
  · refine AC_enter Try.func42 rfl Try.ntmps42 (rv := [.tmp 2]) rfl rfl (by simp) (fun w X G => ?_)
    repeat' (first | ((with_reducible refine gA ?_); (first | refine AW_seq ?_ | refine AW_region ?_ | refine AW_ret ?_)) | ((with_reducible refine gS ?_); refine Es_s (T := Try.tab) rfl rfl rfl rfl ?_) | (((with_reducible refine gS ?_); apply Es_q); rfl; (first | rfl | (refine w_tt ?_; assumption)); (first | refine LStep_call (c1) rfl rfl rfl rfl | refine LStep_call (c2) rfl rfl rfl rfl | refine LStep_call (c3) rfl rfl rfl rfl)) | (((with_reducible refine gS ?_); apply Es_q); rfl; (first | rfl | (refine w_tt ?_; assumption)); (first | refine LStep_simp (T := Try.tab) rfl rfl | (refine LStep_pickT rfl rfl ?_ rfl rfl; assumption) | (refine LStep_pickF rfl rfl ?_ rfl rfl; assumption) | refine LStep_buildN (T := Try.tab) rfl rfl rfl rfl rfl rfl rfl)) | (refine Es_skip rfl ?_ rfl ?_; (first | rfl | (refine w_tf ?_; assumption) | (refine w_ft ?_; assumption))) | (((with_reducible refine gS ?_); apply Es_xs); rfl; rfl; refine LStep_boxN rfl rfl rfl rfl rfl rfl; rfl) | (refine Es_split rfl ?_ (fun _ => ?_) (fun _ => ?_); ((fail_if_success (refine und_t ?_; assumption)); (fail_if_success (refine und_f ?_; assumption)); exact trivial)) | (with_reducible refine Es_nil ?_) | (with_reducible refine then_n ?_) | ((with_reducible refine gR ?_); first | refine ret1 rfl ?_ | refine ret2 rfl rfl ?_ | refine ret0 ?_ | refine end1 rfl ?_ | refine end0 ?_))
    all_goals first
      | (simp [*]; done)
      | trace_state
set_option maxRecDepth 10000 in
set_option maxHeartbeats 4000000 in
theorem rmay_ac (d : Db) (h1 : d.1.2.1.size ≤ 140737488351232) (h2 : d.1.2.2.size ≤ 140737488351232) : AC Try.prog 20 [.agg (dbC d)] [] [] (fun r _ => r = .d (.sc (.bool (mayD d)))) := by
  have c1 := rname_ac d.1.2.1 h1
  have c2 := rname_ac d.1.2.2 h2
  have c3 := rcur_ac d.1.1
  unfold mayD dbC
  generalize nameOk d.1.2.1 = b1 at *
  generalize nameOk d.1.2.2 = b2 at *
  generalize curNOk d.1.1 = b3 at *
  cases b1 <;> cases b2 <;> cases b3 <;>
  · refine AC_enter Try.func20 rfl Try.ntmps20 (rv := [.tmp 2]) rfl rfl (by simp) (fun w X G => ?_)
    repeat' (first | ((with_reducible refine gA ?_); (first | refine AW_seq ?_ | refine AW_region ?_ | refine AW_ret ?_)) | ((with_reducible refine gS ?_); refine Es_s (T := Try.tab) rfl rfl rfl rfl ?_) | (((with_reducible refine gS ?_); apply Es_q); rfl; (first | rfl | (refine w_tt ?_; assumption)); (first | refine LStep_call (c1) rfl rfl rfl rfl | refine LStep_call (c2) rfl rfl rfl rfl | refine LStep_call (c3) rfl rfl rfl rfl)) | (((with_reducible refine gS ?_); apply Es_q); rfl; (first | rfl | (refine w_tt ?_; assumption)); (first | refine LStep_simp (T := Try.tab) rfl rfl | (refine LStep_pickT rfl rfl ?_ rfl rfl; assumption) | (refine LStep_pickF rfl rfl ?_ rfl rfl; assumption))) | (refine Es_skip rfl ?_ rfl ?_; (first | rfl | (refine w_tf ?_; assumption) | (refine w_ft ?_; assumption))) | (((with_reducible refine gS ?_); apply Es_xs); rfl; rfl; refine LStep_boxN rfl rfl rfl rfl rfl rfl; rfl) | (refine Es_split rfl ?_ (fun _ => ?_) (fun _ => ?_); ((fail_if_success (refine und_t ?_; assumption)); (fail_if_success (refine und_f ?_; assumption)); exact trivial)) | (with_reducible refine Es_nil ?_) | (with_reducible refine then_n ?_) | ((with_reducible refine gR ?_); first | refine ret1 rfl ?_ | refine ret2 rfl rfl ?_ | refine ret0 ?_ | refine end1 rfl ?_ | refine end0 ?_))
    all_goals first
      | (simp [*]; done)
      | (have hh : leb 1 d.2 = true := by assumption
         have e : amtB d.2 = leb d.2 1099511627776 := by
           rw [leb_t] at hh; unfold amtB; rw [leb_d, decide_eq_true (by omega), Bool.true_and]
         simp [*]; done)
      | trace_state
set_option maxRecDepth 10000 in
theorem mayAll1_ac (x : Db) : AC Try.prog 41 [.agg (dbC x)] [] [] (fun r _ => r = .d (.sc (.bool (!mayD x)))) := by
  refine AC_enter Try.func41 rfl Try.ntmps41 (rv := [.tmp 2]) rfl rfl (by simp) (fun w X G => ?_)
  repeat' (first | ((with_reducible refine gA ?_); (first | refine AW_seq ?_ | refine AW_region ?_ | refine AW_ret ?_)) | ((with_reducible refine gS ?_); refine Es_s (T := Try.tab) rfl rfl rfl rfl ?_) | (((with_reducible refine gS ?_); apply Es_q); rfl; rfl; refine LStep_call (may1_ac x) rfl rfl rfl rfl) | (refine Es_skip rfl ?_ rfl ?_; (first | rfl | (refine w_tf ?_; assumption) | (refine w_ft ?_; assumption))) | (((with_reducible refine gS ?_); apply Es_xs); rfl; rfl; refine LStep_boxN rfl rfl rfl rfl rfl rfl; rfl) | (with_reducible refine Es_nil ?_) | (with_reducible refine then_n ?_) | ((with_reducible refine gR ?_); first | refine ret1 rfl ?_ | refine ret2 rfl rfl ?_ | refine ret0 ?_ | refine end1 rfl ?_ | refine end0 ?_))
  rfl
def idxG {α : Type} (q : α → Bool) : List α → Nat → Int
  | [], _ => -1
  | x :: r, i => if q x = true then (i : Int) else idxG q r (i + 1)
theorem idxG_any {α : Type} (q : α → Bool) : ∀ (l : List α) (i : Nat), leb 0 (idxG q l i) = l.any q
  | [], _ => by unfold idxG; simp [leb_d]
  | x :: r, i => by
    unfold idxG
    rw [List.any_cons]
    cases h : q x with
    | true => rw [if_pos rfl, Bool.true_or, leb_t]; omega
    | false => rw [if_neg (by simp), idxG_any q r, Bool.false_or]
theorem KpNil {f : FuncId} {args : List AV} {v : AV} (h : AC Try.prog f args [] [] (fun r _ => r = v)) : AC Try.prog f args [] [] (fun r h' => r = v ∧ Kp [] h') := h.mono (fun r h' hr => ⟨hr, fun _ _ hq => by cases hq⟩)
set_option maxRecDepth 10000 in
theorem idxD_ac (l : List Db) (f : FuncId) (q : Db → Bool) (hl : l.length ≤ 140737488351232) (hf : ∀ x ∈ l, AC Try.prog f [.agg (dbC x)] [] [] (fun r _ => r = .d (.sc (.bool (q x))))) :
    AC Try.prog 56 [.d (.sl 4 (l.map dbE)), .fn f []] [] [] (fun r _ => r = .d (.sc (.int .i64 (idxG q l 0)))) := by
  refine AC_enter Try.func56 rfl Try.ntmps56 (rv := [.tmp 4]) rfl rfl (by simp) (fun w X G => ?_)
  repeat' (first | ((with_reducible refine gA ?_); (first | refine AW_seq ?_ | refine AW_region ?_ | refine AW_block ?_)) | ((with_reducible refine gS ?_); refine Es_s (T := Try.tab) rfl rfl rfl rfl ?_) | (((with_reducible refine gS ?_); apply Es_q); rfl; rfl; refine LStep_lenM (T := Try.tab) rfl rfl rfl rfl) | (with_reducible refine Es_nil ?_) | (with_reducible refine then_n ?_))
  refine AW_forE (S := Nat) (fun k => k ≤ l.length ∧ idxG q l 0 = idxG q (l.drop k) k) (fun k => [(8, .d (.sc (.int .i64 (k : Nat))))]) (fun _ => []) (fun k => l.length - k) 0 ⟨by omega, rfl⟩ (by (repeat' (first | exact trivial | exact rfl | (refine ⟨Or.inl rfl, ?_⟩) | (refine ⟨Or.inr rfl, ?_⟩) | (refine ⟨Or.inr trivial, ?_⟩) | (refine ⟨rfl, ?_⟩) | (refine ⟨?_, ?_⟩)))) (by (repeat' (first | exact trivial | exact rfl | (refine ⟨Or.inl rfl, ?_⟩) | (refine ⟨Or.inr rfl, ?_⟩) | (refine ⟨Or.inr trivial, ?_⟩) | (refine ⟨rfl, ?_⟩) | (refine ⟨?_, ?_⟩)))) ?_
  intro k ⟨hk, hg⟩
  by_cases hlt : k < l.length
  · obtain ⟨x, hx, hd⟩ := drop_at hlt
    rw [hd, idxG] at hg
    have hfx := KpNil (hf x (List.mem_of_getElem? hx))
    repeat' (first | ((with_reducible refine gA ?_); (first | refine AW_seq ?_ | refine AW_region ?_ | (refine AW_cond rfl (fun hc => ?_) (fun hc => ?_) <;> try (exfalso; simp only [cmpL] at hc; omega)) | refine AW_block ?_ | refine AW_ret ?_ | refine AW_skip ?_)) | ((with_reducible refine gS ?_); refine Es_s (T := Try.tab) rfl rfl rfl rfl ?_) | (((with_reducible refine gS ?_); apply Es_q); rfl; rfl; refine LStep_callB hfx rfl rfl trivial rfl rfl) | (((with_reducible refine gS ?_); apply Es_q); rfl; rfl; (first | (refine LStep_add rfl rfl rfl rfl ?_; (refine IntWalk.i64_in _ ?_; first | omega | (simp only [cmps] at *; omega))) | (refine LStep_indexM (T := Try.tab) (c := ?_) rfl rfl rfl rfl rfl rfl ?_; rotate_left; assumption))) | (with_reducible refine Es_nil ?_) | (with_reducible refine then_n ?_) | (with_reducible refine then_r ?_) | (with_reducible refine block_n ?_) | (with_reducible refine block_r ?_) | ((with_reducible refine gR ?_); first | refine ret1 rfl ?_ | refine ret2 rfl rfl ?_ | refine ret0 ?_ | refine end1 rfl ?_ | refine end0 ?_))
    · have h : q x = true := by assumption
      rw [hg, if_pos h]
    · have h : q x = false := by assumption
      refine ⟨k + 1, ?_, by omega, by (repeat' (first | exact trivial | exact rfl | (refine ⟨Or.inl rfl, ?_⟩) | (refine ⟨Or.inr rfl, ?_⟩) | (refine ⟨Or.inr trivial, ?_⟩) | (refine ⟨rfl, ?_⟩) | (refine ⟨?_, ?_⟩))), by (repeat' (first | exact trivial | exact rfl | (refine ⟨Or.inl rfl, ?_⟩) | (refine ⟨Or.inr rfl, ?_⟩) | (refine ⟨Or.inr trivial, ?_⟩) | (refine ⟨rfl, ?_⟩) | (refine ⟨?_, ?_⟩))), by (repeat' (first | exact trivial | exact rfl | (refine ⟨Or.inl rfl, ?_⟩) | (refine ⟨Or.inr rfl, ?_⟩) | (refine ⟨Or.inr trivial, ?_⟩) | (refine ⟨rfl, ?_⟩) | (refine ⟨?_, ?_⟩))), by (repeat' (first | exact trivial | exact rfl | (refine ⟨Or.inl rfl, ?_⟩) | (refine ⟨Or.inr rfl, ?_⟩) | (refine ⟨Or.inr trivial, ?_⟩) | (refine ⟨rfl, ?_⟩) | (refine ⟨?_, ?_⟩)))⟩; exact ⟨by omega, by rw [hg, if_neg (by simp [h])]⟩
  · have : k = l.length := by omega
    subst this
    repeat' (first | ((with_reducible refine gA ?_); (first | refine AW_seq ?_ | refine AW_region ?_ | (refine AW_cond rfl (fun hc => ?_) (fun hc => ?_) <;> try (exfalso; simp only [cmpL] at hc; omega)) | refine AW_ret ?_ | refine AW_exit ?_)) | ((with_reducible refine gS ?_); refine Es_s (T := Try.tab) rfl rfl rfl rfl ?_) | (with_reducible refine Es_nil ?_) | (with_reducible refine then_n ?_) | (with_reducible refine then_e ?_) | ((with_reducible refine block_e ?_ ?_); rfl) | ((with_reducible refine gR ?_); first | refine ret1 rfl ?_ | refine ret2 rfl rfl ?_ | refine ret0 ?_ | refine end1 rfl ?_ | refine end0 ?_))
    rw [hg, drop_end, idxG]
set_option maxRecDepth 10000 in
theorem conD_ac (l : List Db) (f : FuncId) (q : Db → Bool) (hl : l.length ≤ 140737488351232) (hf : ∀ x ∈ l, AC Try.prog f [.agg (dbC x)] [] [] (fun r _ => r = .d (.sc (.bool (q x))))) :
    AC Try.prog 40 [.d (.sl 4 (l.map dbE)), .fn f []] [] [] (fun r _ => r = .d (.sc (.bool (l.any q)))) := by
  refine AC_enter Try.func40 rfl Try.ntmps40 (rv := [.tmp 4]) rfl rfl (by simp) (fun w X G => ?_)
  repeat' (first | ((with_reducible refine gA ?_); (first | refine AW_seq ?_ | refine AW_region ?_ | refine AW_ret ?_)) | ((with_reducible refine gS ?_); refine Es_s (T := Try.tab) rfl rfl rfl rfl ?_) | (((with_reducible refine gS ?_); apply Es_q); rfl; rfl; refine LStep_call (idxD_ac l f q hl hf) rfl rfl rfl rfl) | (with_reducible refine Es_nil ?_) | (with_reducible refine then_n ?_) | ((with_reducible refine gR ?_); first | refine ret1 rfl ?_ | refine ret2 rfl rfl ?_ | refine ret0 ?_ | refine end1 rfl ?_ | refine end0 ?_))
  rw [idxG_any]
theorem any_notD (l : List Db) : l.any (fun x => !mayD x) = !(l.all mayD) := by
  induction l with
  | nil => rfl
  | cons x l ih => rw [List.any_cons, List.all_cons, ih, Bool.not_and]
set_option maxRecDepth 10000 in
theorem mayAll_ac (l : List Db) (hl : l.length ≤ 4096) : AC Try.prog 23 [.d (.sl 4 (l.map dbE))] [] [] (fun r _ => r = .d (.sc (.bool (l.all mayD)))) := by
  have c := conD_ac l 41 (fun x => !mayD x) (by omega) (fun x _ => mayAll1_ac x)
  rw [any_notD] at c
  have g : leb ((l.length : Nat) : Int) 4096 = true := by rw [leb_t]; omega
  cases h : l.all mayD <;> rw [h] at c <;>
  · refine AC_enter Try.func23 rfl Try.ntmps23 (rv := [.tmp 2]) rfl rfl (by simp) (fun w X G => ?_)
    repeat' (first | ((with_reducible refine gA ?_); (first | refine AW_seq ?_ | refine AW_region ?_ | refine AW_ret ?_)) | ((with_reducible refine gS ?_); refine Es_s (T := Try.tab) rfl rfl rfl rfl ?_) | (((with_reducible refine gS ?_); apply Es_q); rfl; (first | rfl | (refine w_tt ?_; assumption)); refine LStep_call (c) rfl rfl rfl rfl) | (((with_reducible refine gS ?_); apply Es_q); rfl; (first | rfl | (refine w_tt ?_; assumption)); (first | refine LStep_simp (T := Try.tab) rfl rfl | refine LStep_lenM (T := Try.tab) rfl rfl rfl rfl | (refine LStep_pickT rfl rfl ?_ rfl rfl; assumption))) | (with_reducible refine Es_nil ?_) | (with_reducible refine then_n ?_) | ((with_reducible refine gR ?_); first | refine ret1 rfl ?_ | refine ret2 rfl rfl ?_ | refine ret0 ?_ | refine end1 rfl ?_ | refine end0 ?_))
    all_goals first
      | rfl
      | trace_state
theorem all_takeD {α : Type} {f : α → Bool} {l : List α} {k : Nat} {c : α} (hc : l[k]? = some c) (hf : (l.take k).all f = true) : (f c = true → (l.take (k + 1)).all f = true) ∧ (f c = false → l.all f = false) := by
  have h1 : (l.take (k + 1)).all f = f c := by rw [take_at hc, List.all_append, hf]; simp
  refine ⟨fun h => by rw [h1, h], fun h => ?_⟩
  rw [List.all_eq_false]
  exact ⟨c, List.mem_of_getElem? hc, by rw [h]; exact Bool.false_ne_true⟩
/-- texts that are not too long for a machine -/
def smD (d : Db) : Prop := d.1.2.1.size ≤ 140737488351232 ∧ d.1.2.2.size ≤ 140737488351232 ∧ d.1.1.size ≤ 140737488351232
set_option maxRecDepth 10000 in
theorem rAll_ac (l : List Db) (hl : l.length ≤ 4096) (hs : ∀ d ∈ l, smD d) : AC Try.prog 9 [.d (.sl 4 (l.map dbE))] [] [] (fun r _ => r = .d (.sc (.bool (l.all mayD)))) := by
  refine AC_enter Try.func9 rfl Try.ntmps9 (rv := [.tmp 2]) rfl rfl (by simp) (fun w X G => ?_)
  repeat' (first | ((with_reducible refine gA ?_); (first | refine AW_seq ?_ | refine AW_region ?_ | refine AW_block ?_)) | ((with_reducible refine gS ?_); refine Es_s (T := Try.tab) rfl rfl rfl rfl ?_) | (with_reducible refine Es_nil ?_) | (with_reducible refine then_n ?_))
  refine AW_forE (S := Nat) (fun k => k ≤ l.length ∧ (l.take k).all mayD = true) (fun k => [(3, .d (.sc (.int .i64 (k : Nat))))]) (fun _ => []) (fun k => l.length - k) 0 ⟨by omega, rfl⟩ (by (repeat' (first | exact trivial | exact rfl | (refine ⟨Or.inl rfl, ?_⟩) | (refine ⟨Or.inr rfl, ?_⟩) | (refine ⟨Or.inr trivial, ?_⟩) | (refine ⟨rfl, ?_⟩) | (refine ⟨?_, ?_⟩)))) (by (repeat' (first | exact trivial | exact rfl | (refine ⟨Or.inl rfl, ?_⟩) | (refine ⟨Or.inr rfl, ?_⟩) | (refine ⟨Or.inr trivial, ?_⟩) | (refine ⟨rfl, ?_⟩) | (refine ⟨?_, ?_⟩)))) ?_
  intro k ⟨hk, ha⟩
  by_cases hlt : k < l.length
  · obtain ⟨x, hx, _⟩ := drop_at hlt
    have hxs := hs x (List.mem_of_getElem? hx)
    have c := rmay_ac x hxs.1 hxs.2.1
    obtain ⟨a1, a2⟩ := all_takeD (f := mayD) hx ha
    have g1 : ltb (k : Nat) (l.length : Nat) = true := by rw [ltb_t]; omega
    cases hm : mayD x with
    | true =>
      rw [hm] at c
      repeat' (first | ((with_reducible refine gA ?_); (first | refine AW_seq ?_ | refine AW_region ?_ | refine AW_condF rfl ?_ | (refine AW_condY rfl ?_ ?_; assumption) | refine AW_block ?_ | refine AW_skip ?_)) | ((with_reducible refine gS ?_); refine Es_s (T := Try.tab) rfl rfl rfl rfl ?_) | (((with_reducible refine gS ?_); apply Es_q); rfl; rfl; refine LStep_call (c) rfl rfl rfl rfl) | (((with_reducible refine gS ?_); apply Es_q); rfl; rfl; (first | refine LStep_lenM (T := Try.tab) rfl rfl rfl rfl | (refine LStep_add rfl rfl rfl rfl ?_; (refine IntWalk.i64_in _ ?_; first | omega | (simp only [cmps] at *; omega))) | (refine LStep_indexM (T := Try.tab) (c := ?_) rfl rfl rfl rfl rfl rfl ?_; rotate_left; assumption))) | (with_reducible refine Es_nil ?_) | (with_reducible refine then_n ?_) | (with_reducible refine block_n ?_))
      all_goals first
        | (refine ⟨k + 1, ?_, by omega, by (repeat' (first | exact trivial | exact rfl | (refine ⟨Or.inl rfl, ?_⟩) | (refine ⟨Or.inr rfl, ?_⟩) | (refine ⟨Or.inr trivial, ?_⟩) | (refine ⟨rfl, ?_⟩) | (refine ⟨?_, ?_⟩))), by (repeat' (first | exact trivial | exact rfl | (refine ⟨Or.inl rfl, ?_⟩) | (refine ⟨Or.inr rfl, ?_⟩) | (refine ⟨Or.inr trivial, ?_⟩) | (refine ⟨rfl, ?_⟩) | (refine ⟨?_, ?_⟩))), by (repeat' (first | exact trivial | exact rfl | (refine ⟨Or.inl rfl, ?_⟩) | (refine ⟨Or.inr rfl, ?_⟩) | (refine ⟨Or.inr trivial, ?_⟩) | (refine ⟨rfl, ?_⟩) | (refine ⟨?_, ?_⟩))), by (repeat' (first | exact trivial | exact rfl | (refine ⟨Or.inl rfl, ?_⟩) | (refine ⟨Or.inr rfl, ?_⟩) | (refine ⟨Or.inr trivial, ?_⟩) | (refine ⟨rfl, ?_⟩) | (refine ⟨?_, ?_⟩)))⟩; exact ⟨by omega, a1 hm⟩)
        | trace_state
    | false =>
      rw [hm] at c
      repeat' (first | ((with_reducible refine gA ?_); (first | refine AW_seq ?_ | refine AW_region ?_ | refine AW_condT rfl ?_ | (refine AW_condY rfl ?_ ?_; assumption) | refine AW_block ?_ | refine AW_ret ?_ | refine AW_skip ?_)) | ((with_reducible refine gS ?_); refine Es_s (T := Try.tab) rfl rfl rfl rfl ?_) | (((with_reducible refine gS ?_); apply Es_q); rfl; rfl; refine LStep_call (c) rfl rfl rfl rfl) | (((with_reducible refine gS ?_); apply Es_q); rfl; rfl; (first | refine LStep_lenM (T := Try.tab) rfl rfl rfl rfl | (refine LStep_indexM (T := Try.tab) (c := ?_) rfl rfl rfl rfl rfl rfl ?_; rotate_left; assumption))) | (with_reducible refine Es_nil ?_) | (with_reducible refine then_n ?_) | (with_reducible refine then_r ?_) | (with_reducible refine block_r ?_) | ((with_reducible refine gR ?_); first | refine ret1 rfl ?_ | refine ret2 rfl rfl ?_ | refine ret0 ?_ | refine end1 rfl ?_ | refine end0 ?_))
      all_goals first
        | (refine congrArg (fun b => AV.d (D.sc (Value.bool b))) ?_; rw [a2 hm])
        | (rw [a2 hm])
        | trace_state
  · have : k = l.length := by omega
    subst this
    rw [List.take_length] at ha
    rw [ha]
    have g1 : ltb (l.length : Nat) (l.length : Nat) = false := by rw [ltb_f]; omega
    have g : leb ((l.length : Nat) : Int) 4096 = true := by rw [leb_t]; omega
    repeat' (first | ((with_reducible refine gA ?_); (first | refine AW_seq ?_ | refine AW_region ?_ | (refine AW_condN rfl ?_ ?_; assumption) | refine AW_ret ?_ | refine AW_exit ?_)) | ((with_reducible refine gS ?_); refine Es_s (T := Try.tab) rfl rfl rfl rfl ?_) | (((with_reducible refine gS ?_); apply Es_q); rfl; rfl; refine LStep_lenM (T := Try.tab) rfl rfl rfl rfl) | (with_reducible refine Es_nil ?_) | (with_reducible refine then_n ?_) | (with_reducible refine then_e ?_) | ((with_reducible refine block_e ?_ ?_); rfl) | ((with_reducible refine gR ?_); first | refine ret1 rfl ?_ | refine ret2 rfl rfl ?_ | refine ret0 ?_ | refine end1 rfl ?_ | refine end0 ?_))
    all_goals first
      | rfl
      | (rw [g])
      | trace_state
/-! ### few; the same -/
def fewD (l : List Db) : Bool := decide (l.length ≤ 31) && l.all fun d => decide (d.1.2.1.size + d.1.2.2.size + d.1.1.size ≤ 100)
set_option maxRecDepth 10000 in
set_option maxHeartbeats 4000000 in
theorem rFew_ac (l : List Db) (hl : l.length ≤ 140737488351232) (hs : ∀ d ∈ l, smD d) : AC Try.prog 8 [.d (.sl 4 (l.map dbE))] [] [] (fun r _ => r = .d (.sc (.bool (fewD l)))) := by
  refine AC_enter Try.func8 rfl Try.ntmps8 (rv := [.tmp 2]) rfl rfl (by simp) (fun w X G => ?_)
  repeat' (first | ((with_reducible refine gA ?_); (first | refine AW_seq ?_ | refine AW_region ?_ | refine AW_block ?_)) | ((with_reducible refine gS ?_); refine Es_s (T := Try.tab) rfl rfl rfl rfl ?_) | (with_reducible refine Es_nil ?_) | (with_reducible refine then_n ?_))
  refine AW_forE (S := Nat) (fun k => k ≤ l.length ∧ k ≤ 31 ∧ (l.take k).all (fun d => decide (d.1.2.1.size + d.1.2.2.size + d.1.1.size ≤ 100)) = true) (fun k => [(3, .d (.sc (.int .i64 (k : Nat))))]) (fun _ => []) (fun k => l.length - k) 0 ⟨by omega, by omega, rfl⟩ (by (repeat' (first | exact trivial | exact rfl | (refine ⟨Or.inl rfl, ?_⟩) | (refine ⟨Or.inr rfl, ?_⟩) | (refine ⟨Or.inr trivial, ?_⟩) | (refine ⟨rfl, ?_⟩) | (refine ⟨?_, ?_⟩)))) (by (repeat' (first | exact trivial | exact rfl | (refine ⟨Or.inl rfl, ?_⟩) | (refine ⟨Or.inr rfl, ?_⟩) | (refine ⟨Or.inr trivial, ?_⟩) | (refine ⟨rfl, ?_⟩) | (refine ⟨?_, ?_⟩)))) ?_
  intro k ⟨hk, hk2, ha⟩
  by_cases hlt : k < l.length
  · obtain ⟨x, hx, _⟩ := drop_at hlt
    have hxs := hs x (List.mem_of_getElem? hx)
    unfold smD at hxs
    obtain ⟨a1, a2⟩ := all_takeD (f := fun d : Db => decide (d.1.2.1.size + d.1.2.2.size + d.1.1.size ≤ 100)) hx ha
    repeat' (first | ((with_reducible refine gA ?_); (first | refine AW_seq ?_ | refine AW_region ?_ | refine AW_regionD Try.mixed ?_ | refine AW_condT rfl ?_ | (refine AW_cond rfl (fun hc => ?_) (fun hc => ?_) <;> try (exfalso; simp only [cmpL] at hc; omega)) | refine AW_block ?_ | refine AW_ret ?_ | refine AW_skip ?_)) | (first | ((with_reducible refine gS ?_); refine Es_s (T := Try.tab) rfl rfl rfl rfl ?_) | ((with_reducible refine gD ?_); refine Ed_s (T := Try.tab) rfl rfl rfl rfl ?_)) | ((first | ((with_reducible refine gS ?_); apply Es_q) | ((with_reducible refine gD ?_); apply Ed_q)); rfl; (first | rfl | (refine w_ff ?_; assumption)); (first | refine LStep_simp (T := Try.tab) rfl rfl | refine LStep_lenM (T := Try.tab) rfl rfl rfl rfl | (refine LStep_add rfl rfl rfl rfl ?_; (refine IntWalk.i64_in _ ?_; first | omega | (simp only [cmps] at *; omega))) | refine LStep_wrap (T := Try.tab) rfl rfl | (refine LStep_pickT rfl rfl ?_ rfl rfl; assumption) | (refine LStep_pickF rfl rfl ?_ rfl rfl; assumption) | (refine LStep_indexM (T := Try.tab) (c := ?_) rfl rfl rfl rfl rfl rfl ?_; rotate_left; assumption))) | (refine Ed_skip rfl ?_ rfl ?_; (first | rfl | (refine w_tf ?_; assumption) | (refine w_ft ?_; assumption))) | (refine Ed_split rfl ?_ (fun _ => ?_) (fun _ => ?_); ((fail_if_success (refine und_t ?_; assumption)); (fail_if_success (refine und_f ?_; assumption)); exact trivial)) | (with_reducible refine Es_nil ?_) | ((with_reducible refine Ed_nil ?_ ?_); kernel_rfl) | (with_reducible refine then_n ?_) | (with_reducible refine then_r ?_) | (with_reducible refine block_n ?_) | (with_reducible refine block_r ?_) | ((with_reducible refine gR ?_); first | refine ret1 rfl ?_ | refine ret2 rfl rfl ?_ | refine ret0 ?_ | refine end1 rfl ?_ | refine end0 ?_))
    all_goals simp only [cmps] at *
    all_goals first
      | (exfalso; omega)
      | (refine ⟨k + 1, ?_, by omega, by (repeat' (first | exact trivial | exact rfl | (refine ⟨Or.inl rfl, ?_⟩) | (refine ⟨Or.inr rfl, ?_⟩) | (refine ⟨Or.inr trivial, ?_⟩) | (refine ⟨rfl, ?_⟩) | (refine ⟨?_, ?_⟩))), by (repeat' (first | exact trivial | exact rfl | (refine ⟨Or.inl rfl, ?_⟩) | (refine ⟨Or.inr rfl, ?_⟩) | (refine ⟨Or.inr trivial, ?_⟩) | (refine ⟨rfl, ?_⟩) | (refine ⟨?_, ?_⟩))), by (repeat' (first | exact trivial | exact rfl | (refine ⟨Or.inl rfl, ?_⟩) | (refine ⟨Or.inr rfl, ?_⟩) | (refine ⟨Or.inr trivial, ?_⟩) | (refine ⟨rfl, ?_⟩) | (refine ⟨?_, ?_⟩))), by (repeat' (first | exact trivial | exact rfl | (refine ⟨Or.inl rfl, ?_⟩) | (refine ⟨Or.inr rfl, ?_⟩) | (refine ⟨Or.inr trivial, ?_⟩) | (refine ⟨rfl, ?_⟩) | (refine ⟨?_, ?_⟩)))⟩; exact ⟨by omega, by omega, a1 (by rw [decide_eq_true_eq]; omega)⟩)
      | (refine congrArg (fun b => AV.d (D.sc (Value.bool b))) ?_
         unfold fewD
         first
           | (rw [a2 (by rw [decide_eq_false_iff_not]; omega), Bool.and_false])
           | (rw [decide_eq_false (by omega), Bool.false_and]))
      | trace_state
  · have : k = l.length := by omega
    subst this
    rw [List.take_length] at ha
    repeat' (first | ((with_reducible refine gA ?_); (first | refine AW_seq ?_ | refine AW_region ?_ | (refine AW_cond rfl (fun hc => ?_) (fun hc => ?_) <;> try (exfalso; simp only [cmpL] at hc; omega)) | refine AW_ret ?_ | refine AW_exit ?_)) | ((with_reducible refine gS ?_); refine Es_s (T := Try.tab) rfl rfl rfl rfl ?_) | (((with_reducible refine gS ?_); apply Es_q); rfl; rfl; refine LStep_lenM (T := Try.tab) rfl rfl rfl rfl) | (with_reducible refine Es_nil ?_) | (with_reducible refine then_n ?_) | (with_reducible refine then_e ?_) | ((with_reducible refine block_e ?_ ?_); rfl) | ((with_reducible refine gR ?_); first | refine ret1 rfl ?_ | refine ret2 rfl rfl ?_ | refine ret0 ?_ | refine end1 rfl ?_ | refine end0 ?_))
    all_goals simp only [cmps] at *
    all_goals first
      | (exfalso; omega)
      | (refine congrArg (fun b => AV.d (D.sc (Value.bool b))) ?_; unfold fewD; rw [ha, decide_eq_true hk2]; rfl)
      | trace_state
theorem eqS_db : eqS Try.tab 8 39 = some [2, 2, 2, 1] := by kernel_rfl
theorem eqG_db : Try.prog.eqGuardType Try.prog.depth 39 = false := by kernel_rfl
def dbQ (x y : Db) : Bool := eqs x.1.2.1 y.1.2.1 && (eqs x.1.2.2 y.1.2.2 && (eqs x.1.1 y.1.1 && (eqb x.2 y.2 && true)))
theorem dbQ_iff {x y : Db} : dbQ x y = true ↔ x = y := by
  obtain ⟨⟨a, b, c⟩, n⟩ := x
  obtain ⟨⟨a', b', c'⟩, n'⟩ := y
  simp only [dbQ, Bool.and_eq_true, Bool.and_true, eqs_t, eqb_t, Prod.mk.injEq]
  exact ⟨fun h => ⟨⟨h.2.2.1, h.1, h.2.1⟩, h.2.2.2⟩, fun h => ⟨h.1.2.1, h.1.2.2, h.1.1, h.2⟩⟩
theorem eqS_en : eqS Try.tab 8 37 = some [2, 2, 1] := by kernel_rfl
theorem eqG_en : Try.prog.eqGuardType Try.prog.depth 37 = false := by kernel_rfl
def enQ (x y : SK × Int) : Bool := eqs x.1.1 y.1.1 && (eqs x.1.2 y.1.2 && (eqb x.2 y.2 && true))
def leqL {α : Type} (f : α → α → Bool) : List α → List α → Bool
  | [], [] => true
  | x :: xs, y :: ys => f x y && leqL f xs ys
  | _, _ => false
theorem leqL_iff {α : Type} {f : α → α → Bool} (hf : ∀ x y, f x y = true ↔ x = y) : ∀ {a b : List α}, leqL f a b = true ↔ a = b
  | [], [] => by simp [leqL]
  | [], _ :: _ => by simp [leqL]
  | _ :: _, [] => by simp [leqL]
  | x :: xs, y :: ys => by rw [leqL, Bool.and_eq_true, leqL_iff hf, hf, List.cons.injEq]
theorem leqL_len {α : Type} {f : α → α → Bool} : ∀ {a b : List α}, a.length ≠ b.length → leqL f a b = false
  | [], [], h => absurd rfl h
  | [], _ :: _, _ => rfl
  | _ :: _, [], _ => rfl
  | x :: xs, y :: ys, h => by rw [leqL, leqL_len (a := xs) (b := ys) (by simpa using h), Bool.and_false]
def sameB (a b : List Db) : Bool := leqL dbQ a b
theorem sameB_self (a : List Db) : sameB a a = true := (leqL_iff (fun _ _ => dbQ_iff)).2 rfl
def entB (a b : List (SK × Int)) : Bool := leqL enQ a b
set_option maxRecDepth 10000 in
theorem rSame_ac (a b : List Db) (ha : a.length ≤ 140737488351232) : AC Try.prog 16 [.d (.sl 4 (a.map dbE)), .d (.sl 4 (b.map dbE))] [] [] (fun r _ => r = .d (.sc (.bool (sameB a b)))) := by
  unfold sameB
  refine AC_enter Try.func16 rfl Try.ntmps16 (rv := [.tmp 4]) rfl rfl (by simp) (fun w X G => ?_)
  repeat' (first | ((with_reducible refine gA ?_); (first | refine AW_seq ?_ | refine AW_region ?_ | (refine AW_cond rfl (fun hc => ?_) (fun hc => ?_) <;> try (exfalso; simp only [cmpL] at hc; omega)) | refine AW_block ?_ | refine AW_ret ?_ | refine AW_skip ?_)) | ((with_reducible refine gS ?_); refine Es_s (T := Try.tab) rfl rfl rfl rfl ?_) | (((with_reducible refine gS ?_); apply Es_q); rfl; rfl; refine LStep_lenM (T := Try.tab) rfl rfl rfl rfl) | (with_reducible refine Es_nil ?_) | (with_reducible refine then_n ?_) | (with_reducible refine then_r ?_) | ((with_reducible refine gR ?_); first | refine ret1 rfl ?_ | refine ret2 rfl rfl ?_ | refine ret0 ?_ | refine end1 rfl ?_ | refine end0 ?_))
  all_goals simp only [cmps] at *
  · refine congrArg (fun b => AV.d (D.sc (Value.bool b))) ?_; rw [leqL_len (by omega)]
  have hl : a.length = b.length := by omega
  refine AW_forE (S := Nat) (fun k => k ≤ a.length ∧ leqL dbQ a b = leqL dbQ (a.drop k) (b.drop k)) (fun k => [(5, .d (.sc (.int .i64 (k : Nat))))]) (fun _ => []) (fun k => a.length - k) 0 ⟨by omega, rfl⟩ (by (repeat' (first | exact trivial | exact rfl | (refine ⟨Or.inl rfl, ?_⟩) | (refine ⟨Or.inr rfl, ?_⟩) | (refine ⟨Or.inr trivial, ?_⟩) | (refine ⟨rfl, ?_⟩) | (refine ⟨?_, ?_⟩)))) (by (repeat' (first | exact trivial | exact rfl | (refine ⟨Or.inl rfl, ?_⟩) | (refine ⟨Or.inr rfl, ?_⟩) | (refine ⟨Or.inr trivial, ?_⟩) | (refine ⟨rfl, ?_⟩) | (refine ⟨?_, ?_⟩)))) ?_
  intro k ⟨hk, hf⟩
  by_cases hlt : k < a.length
  · obtain ⟨x, hx, hd⟩ := drop_at hlt
    obtain ⟨y, hy, hd'⟩ := drop_at (show k < b.length by omega)
    rw [hd, hd', leqL] at hf
    repeat' (first | ((with_reducible refine gA ?_); (first | refine AW_seq ?_ | refine AW_region ?_ | refine AW_regionD Try.mixed ?_ | (refine AW_cond rfl (fun hc => ?_) (fun hc => ?_) <;> try (exfalso; simp only [cmpL] at hc; omega)) | refine AW_block ?_ | refine AW_ret ?_ | refine AW_skip ?_)) | (first | ((with_reducible refine gS ?_); refine Es_s (T := Try.tab) rfl rfl rfl rfl ?_) | ((with_reducible refine gD ?_); refine Ed_s (T := Try.tab) rfl rfl rfl rfl ?_)) | ((first | ((with_reducible refine gS ?_); apply Es_q) | ((with_reducible refine gD ?_); apply Ed_q)); rfl; rfl; refine LStep_neqAgg (T := Try.tab) eqS_db eqG_db (by omega) rfl rfl rfl rfl rfl rfl) | ((first | ((with_reducible refine gS ?_); apply Es_q) | ((with_reducible refine gD ?_); apply Ed_q)); rfl; rfl; (first | refine LStep_lenM (T := Try.tab) rfl rfl rfl rfl | (refine LStep_add rfl rfl rfl rfl ?_; (refine IntWalk.i64_in _ ?_; first | omega | (simp only [cmps] at *; omega))) | (refine LStep_indexM (T := Try.tab) (c := ?_) rfl rfl rfl rfl rfl rfl ?_; rotate_left; assumption))) | (with_reducible refine Es_nil ?_) | ((with_reducible refine Ed_nil ?_ ?_); kernel_rfl) | (with_reducible refine then_n ?_) | (with_reducible refine then_r ?_) | (with_reducible refine block_n ?_) | (with_reducible refine block_r ?_) | ((with_reducible refine gR ?_); first | refine ret1 rfl ?_ | refine ret2 rfl rfl ?_ | refine ret0 ?_ | refine end1 rfl ?_ | refine end0 ?_))
    all_goals simp only [not_t, not_f] at *
    · have h : dbQ x y = false := by assumption
      refine congrArg (fun b => AV.d (D.sc (Value.bool b))) ?_; rw [hf, h]; rfl
    · have h : dbQ x y = true := by assumption
      refine ⟨k + 1, ?_, by omega, by (repeat' (first | exact trivial | exact rfl | (refine ⟨Or.inl rfl, ?_⟩) | (refine ⟨Or.inr rfl, ?_⟩) | (refine ⟨Or.inr trivial, ?_⟩) | (refine ⟨rfl, ?_⟩) | (refine ⟨?_, ?_⟩))), by (repeat' (first | exact trivial | exact rfl | (refine ⟨Or.inl rfl, ?_⟩) | (refine ⟨Or.inr rfl, ?_⟩) | (refine ⟨Or.inr trivial, ?_⟩) | (refine ⟨rfl, ?_⟩) | (refine ⟨?_, ?_⟩))), by (repeat' (first | exact trivial | exact rfl | (refine ⟨Or.inl rfl, ?_⟩) | (refine ⟨Or.inr rfl, ?_⟩) | (refine ⟨Or.inr trivial, ?_⟩) | (refine ⟨rfl, ?_⟩) | (refine ⟨?_, ?_⟩))), by (repeat' (first | exact trivial | exact rfl | (refine ⟨Or.inl rfl, ?_⟩) | (refine ⟨Or.inr rfl, ?_⟩) | (refine ⟨Or.inr trivial, ?_⟩) | (refine ⟨rfl, ?_⟩) | (refine ⟨?_, ?_⟩)))⟩; exact ⟨by omega, by rw [hf, h, Bool.true_and]⟩
  · have : k = a.length := by omega
    subst this
    have e : b.drop a.length = [] := by rw [hl]; exact List.drop_length
    rw [drop_end, e, leqL] at hf
    repeat' (first | ((with_reducible refine gA ?_); (first | refine AW_seq ?_ | refine AW_region ?_ | (refine AW_cond rfl (fun hc => ?_) (fun hc => ?_) <;> try (exfalso; simp only [cmpL] at hc; omega)) | refine AW_ret ?_ | refine AW_exit ?_)) | ((with_reducible refine gS ?_); refine Es_s (T := Try.tab) rfl rfl rfl rfl ?_) | (((with_reducible refine gS ?_); apply Es_q); rfl; rfl; refine LStep_lenM (T := Try.tab) rfl rfl rfl rfl) | (with_reducible refine Es_nil ?_) | (with_reducible refine then_n ?_) | (with_reducible refine then_e ?_) | ((with_reducible refine block_e ?_ ?_); rfl) | ((with_reducible refine gR ?_); first | refine ret1 rfl ?_ | refine ret2 rfl rfl ?_ | refine ret0 ?_ | refine end1 rfl ?_ | refine end0 ?_))
    refine congrArg (fun b => AV.d (D.sc (Value.bool b))) ?_; rw [hf]



end Go.Proofs.Ytaejikoicbbeeaa
namespace Go.Proofs.Ytaejikoicbbeeaa
open Go.SL
/-! ### the document's parties, currencies, what is owed, positions -/
theorem mayD_t {d : Db} (h : mayD d = true) : nameOk d.1.2.1 = true ∧ nameOk d.1.2.2 = true ∧ d.1.2.1 ≠ d.1.2.2 ∧ 1 ≤ d.2 ∧ d.2 ≤ 1099511627776 ∧ curNOk d.1.1 = true := by
  unfold mayD amtB at h
  simp only [Bool.and_eq_true, Bool.not_eq_true', leb_t, decide_eq_true_eq] at h
  refine ⟨h.1, h.2.1, fun e => ?_, h.2.2.2.1, h.2.2.2.2.2.2, h.2.2.2.2.1⟩
  have := h.2.2.1
  rw [e] at this
  simp [eqs_d] at this
def mF (l : List Db) : List Db := l.filter mayD
theorem mF_take {l : List Db} {k : Nat} {x : Db} (hx : l[k]? = some x) : mF (l.take (k + 1)) = mF (l.take k) ++ (if mayD x = true then [x] else []) := by
  unfold mF
  rw [take_at hx, List.filter_append, List.filter_cons, List.filter_nil]
theorem mF_in {l : List Db} {d : Db} (h : d ∈ mF l) : mayD d = true := (List.mem_filter.1 h).2
theorem mF_len (l : List Db) : (mF l).length ≤ l.length := List.length_filter_le _ _
theorem mF_all {l : List Db} (h : l.all mayD = true) : mF l = l := by
  unfold mF
  rw [List.filter_eq_self]
  exact fun d hd => List.all_eq_true.1 h d hd
theorem parN_len (l : List Db) : (parN l).length ≤ 2 * l.length := by
  refine list_snocN (C := fun l => (parN l).length ≤ 2 * l.length) l (by simp [parN]) (fun l d ih => ?_)
  rw [parN_snoc, List.length_append, List.length_singleton]
  have h1 := pu_len d.1.2.2 (pu d.1.2.1 (parN l))
  have h2 := pu_len d.1.2.1 (parN l)
  omega
theorem curN_len (l : List Db) : (curN l).length ≤ l.length := by
  refine list_snocN (C := fun l => (curN l).length ≤ l.length) l (by simp [curN]) (fun l d ih => ?_)
  rw [curN_snoc, List.length_append, List.length_singleton]
  have h1 := pu_len d.1.1 (curN l)
  omega
theorem take_len_le {α : Type} (l : List α) (k : Nat) : (l.take k).length ≤ l.length := by rw [List.length_take]; omega
/-! ### At -/
theorem mF_bd (l : List Db) : ∀ d ∈ mF l, 0 ≤ d.2 ∧ d.2 ≤ 1099511627776 := fun d hd => by
  have := mayD_t (mF_in hd)
  omega
theorem psI_mF {l : List Db} (hl : l.length ≤ 4096) (s : SK) : -4503599627370496 ≤ psI (mF l) s ∧ psI (mF l) s ≤ 4503599627370496 := by
  have h := psI_in (B := 1099511627776) (by omega) (mF_bd l) s
  have := mF_len l
  omega




end Go.Proofs.Ytaejikoicbbeeaa
namespace Go.Proofs.Ytaejikoicbbeeaa
open Go.SL
/-! ### Position -/
/-! ### Owes -/
theorem ow_in {l : List Db} {B : Int} (hB : 0 ≤ B) (h : ∀ d ∈ l, 0 ≤ d.2 ∧ d.2 ≤ B) (k : DK) : 0 ≤ ow l k ∧ ow l k ≤ B * (l.length : Int) := by
  revert h
  refine list_snocN (C := fun l => (∀ d ∈ l, 0 ≤ d.2 ∧ d.2 ≤ B) → 0 ≤ ow l k ∧ ow l k ≤ B * (l.length : Int)) l (fun _ => by rw [ow_nil]; simp) (fun l d ih h => ?_)
  have h1 := ih (fun x hx => h x (List.mem_append_left _ hx))
  have h2 := h d (by simp)
  have e : B * (((l ++ [d]).length : Nat) : Int) = B * (l.length : Int) + B := by rw [List.length_append, List.length_singleton, Int.natCast_add, Int.mul_add]; simp
  rw [ow_snoc, e]
  split <;> omega
end Go.Proofs.Ytaejikoicbbeeaa
