import Derived.Test.YtjadbgmohmgaaaaB1
namespace Go.Proofs.Ytjadbgmohmgaaaa
open Go.SL

def bigB (c : UInt8) : Bool := decide (65 ≤ c.toNat) && decide (c.toNat ≤ 90)
def curOk (s : ByteArray) : Bool := decide (s.size = 3) && s.data.toList.all bigB
theorem all_step {α : Type} {p : α → Bool} {l : List α} {k : Nat} {c : α} (hc : l[k]? = some c) (hf : (l.take k).all p = true) : (p c = true → (l.take (k + 1)).all p = true) ∧ (p c = false → l.all p = false) := by
  have h : (l.take (k + 1)).all p = p c := by rw [List.take_add_one, List.all_append, hf, hc]; simp
  refine ⟨fun e => h.trans e, fun e => ?_⟩
  rw [e] at h
  cases hq : l.all p
  · rfl
  · rw [List.all_eq_true] at hq
    rw [List.all_eq_false] at h
    obtain ⟨x, hx, hx2⟩ := h
    exact absurd (hq x (List.mem_of_mem_take hx)) hx2
set_option maxRecDepth 10000 in
theorem cur_ac (s : ByteArray) : AC Try.prog 46 [.d (.sc (.string s))] [] [] (fun r _ => r = .d (.sc (.bool (curOk s)))) := by
  refine AC_enter Try.func46 rfl Try.ntmps46 (rv := [.tmp 2]) rfl rfl (by simp) (fun w X G => ?_)
  have hlen : s.data.toList.length = s.size := rfl
  repeat' (first | ((with_reducible refine gA ?_); (first | refine AW_seq ?_ | refine AW_region ?_ | (refine AW_cond rfl (fun hc => ?_) (fun hc => ?_) <;> try (exfalso; simp only [cmpL] at hc; omega)) | refine AW_block ?_ | refine AW_ret ?_ | refine AW_skip ?_)) | ((with_reducible refine gS ?_); refine Es_s (T := Try.tab) rfl rfl rfl rfl ?_) | (((with_reducible refine gS ?_); apply Es_q); rfl; rfl; refine LStep_wrap (T := Try.tab) rfl rfl) | (with_reducible refine Es_nil ?_) | (with_reducible refine then_n ?_) | (with_reducible refine then_r ?_) | ((with_reducible refine gR ?_); first | refine ret1 rfl ?_ | refine ret2 rfl rfl ?_ | refine ret0 ?_ | refine end1 rfl ?_ | refine end0 ?_))
  all_goals simp only [cmps] at *
  · simp [curOk]; omega
  have hall : curOk s = s.data.toList.all bigB := by
    have e1 : s.size = 3 := by omega
    simp [curOk, e1]
  rw [hall]
  refine AW_for (S := Nat) (fun k => k ≤ s.size ∧ (s.data.toList.take k).all bigB = true) (fun k => [(0, .d (.sc (.string s))), (8, .d (.sc (.int .i64 s.size))), (9, .d (.sc (.int .i64 k)))]) (fun _ => []) (fun k => s.size - k) 0 ⟨by omega, by simp⟩ ⟨rfl, rfl, rfl, trivial⟩ trivial ?_
  intro k ⟨hk, hf⟩
  by_cases hlt : k < s.size
  · obtain ⟨c, hc⟩ : ∃ c, s.data.toList[((k : Int)).toNat]? = some c := ⟨_, List.getElem?_eq_getElem (by rw [hlen]; omega)⟩
    obtain ⟨hyes, hno⟩ := all_step (by simpa using hc) hf
    repeat' (first | ((with_reducible refine gA ?_); (first | refine AW_seq ?_ | refine AW_region ?_ | refine AW_condT rfl ?_ | (refine AW_cond rfl (fun hc => ?_) (fun hc => ?_) <;> try (exfalso; simp only [cmpL] at hc; omega)) | refine AW_block ?_ | refine AW_ret ?_ | refine AW_skip ?_)) | ((with_reducible refine gS ?_); refine Es_s (T := Try.tab) rfl rfl rfl rfl ?_) | (((with_reducible refine gS ?_); apply Es_q); rfl; (first | rfl | (refine w_ff ?_; assumption)); (first | refine LStep_simp (T := Try.tab) rfl rfl | (refine LStep_add rfl rfl rfl rfl ?_; (refine IntWalk.i64_in _ ?_; first | omega | (simp only [cmps] at *; omega))) | (refine LStep_pickT rfl rfl ?_ rfl rfl; assumption) | (refine LStep_pickF rfl rfl ?_ rfl rfl; assumption) | (refine LStep_byteM (T := Try.tab) (c := ?_) rfl rfl rfl rfl rfl ?_; rotate_left; assumption))) | (refine Es_skip rfl ?_ rfl ?_; (first | rfl | (refine w_tf ?_; assumption) | (refine w_ft ?_; assumption))) | (refine Es_split rfl ?_ (fun _ => ?_) (fun _ => ?_); ((fail_if_success (refine und_t ?_; assumption)); (fail_if_success (refine und_f ?_; assumption)); exact trivial)) | (with_reducible refine Es_nil ?_) | (with_reducible refine then_n ?_) | (with_reducible refine then_r ?_) | (with_reducible refine block_n ?_) | (with_reducible refine block_r ?_) | ((with_reducible refine gR ?_); first | refine ret1 rfl ?_ | refine ret2 rfl rfl ?_ | refine ret0 ?_ | refine end1 rfl ?_ | refine end0 ?_))
    all_goals simp only [cmps] at *
    all_goals first
      | exact ⟨k + 1, ⟨by omega, hyes (by simp [bigB]; omega)⟩, by omega, ⟨rfl, rfl, rfl, trivial⟩, trivial⟩
      | rw [hno (by simp [bigB]; omega)]
  · have : k = s.size := by omega
    subst this
    repeat' (first | ((with_reducible refine gA ?_); (first | refine AW_seq ?_ | refine AW_region ?_ | (refine AW_cond rfl (fun hc => ?_) (fun hc => ?_) <;> try (exfalso; simp only [cmpL] at hc; omega)) | refine AW_ret ?_ | refine AW_exit ?_)) | ((with_reducible refine gS ?_); refine Es_s (T := Try.tab) rfl rfl rfl rfl ?_) | (with_reducible refine Es_nil ?_) | (with_reducible refine then_n ?_) | (with_reducible refine then_e ?_) | ((with_reducible refine block_e ?_ ?_); rfl) | ((with_reducible refine gR ?_); first | refine ret1 rfl ?_ | refine ret2 rfl rfl ?_ | refine ret0 ?_ | refine end1 rfl ?_ | refine end0 ?_))
    rw [← hlen, List.take_length] at hf
    rw [hf]
def amtB (n : Int) : Bool := decide (-1099511627776 ≤ n) && decide (n ≤ 1099511627776)
set_option maxRecDepth 10000 in
theorem moneyMay_ac (s : ByteArray) (n : Int) : AC Try.prog 27 [.agg [.d (.sc (.string s)), .d (.sc (.int .i64 n))]] [] [] (fun r _ => r = .d (.sc (.bool (curOk s && amtB n)))) := by
  refine AC_enter Try.func27 rfl Try.ntmps27 (rv := [.tmp 2]) rfl rfl (by simp) (fun w X G => ?_)
  repeat' (first | ((with_reducible refine gA ?_); (first | refine AW_seq ?_ | refine AW_region ?_ | refine AW_ret ?_)) | ((with_reducible refine gS ?_); refine Es_s (T := Try.tab) rfl rfl rfl rfl ?_) | (((with_reducible refine gS ?_); apply Es_q); rfl; (first | rfl | (refine w_tt ?_; assumption)); refine LStep_call (cur_ac _) rfl rfl rfl rfl) | (((with_reducible refine gS ?_); apply Es_q); rfl; (first | rfl | (refine w_tt ?_; assumption)); (first | refine LStep_simp (T := Try.tab) rfl rfl | (refine LStep_pickT rfl rfl ?_ rfl rfl; assumption) | (refine LStep_pickF rfl rfl ?_ rfl rfl; assumption))) | (refine Es_skip rfl ?_ rfl ?_; (first | rfl | (refine w_tf ?_; assumption) | (refine w_ft ?_; assumption))) | (((with_reducible refine gS ?_); apply Es_xs); rfl; rfl; refine LStep_boxN rfl rfl rfl rfl rfl rfl; rfl) | (refine Es_split rfl ?_ (fun _ => ?_) (fun _ => ?_); ((fail_if_success (refine und_t ?_; assumption)); (fail_if_success (refine und_f ?_; assumption)); exact trivial)) | (with_reducible refine Es_nil ?_) | (with_reducible refine then_n ?_) | ((with_reducible refine gR ?_); first | refine ret1 rfl ?_ | refine ret2 rfl rfl ?_ | refine ret0 ?_ | refine end1 rfl ?_ | refine end0 ?_))
  all_goals (simp_all [amtB, leb_d]; try omega)
set_option maxRecDepth 10000 in
theorem counts_ac (n : Int) : AC Try.prog 28 [.d (.sc (.int .i64 n))] [] [] (fun r _ => r = .d (.sc (.bool (decide (1 ≤ n) && decide (n ≤ 1048576))))) := by
  refine AC_enter Try.func28 rfl Try.ntmps28 (rv := [.tmp 2]) rfl rfl (by simp) (fun w X G => ?_)
  repeat' (first | ((with_reducible refine gA ?_); (first | refine AW_seq ?_ | refine AW_region ?_ | refine AW_ret ?_)) | ((with_reducible refine gS ?_); refine Es_s (T := Try.tab) rfl rfl rfl rfl ?_) | (((with_reducible refine gS ?_); apply Es_q); rfl; (first | rfl | (refine w_tt ?_; assumption)); (first | refine LStep_simp (T := Try.tab) rfl rfl | (refine LStep_pickT rfl rfl ?_ rfl rfl; assumption) | (refine LStep_pickF rfl rfl ?_ rfl rfl; assumption))) | (refine Es_skip rfl ?_ rfl ?_; (first | rfl | (refine w_tf ?_; assumption) | (refine w_ft ?_; assumption))) | (refine Es_split rfl ?_ (fun _ => ?_) (fun _ => ?_); ((fail_if_success (refine und_t ?_; assumption)); (fail_if_success (refine und_f ?_; assumption)); exact trivial)) | (with_reducible refine Es_nil ?_) | (with_reducible refine then_n ?_) | ((with_reducible refine gR ?_); first | refine ret1 rfl ?_ | refine ret2 rfl rfl ?_ | refine ret0 ?_ | refine end1 rfl ?_ | refine end0 ?_))
  all_goals simp only [cmps] at *
  all_goals (refine congrArg (fun b => AV.d (.sc (.bool b))) ?_; rw [Bool.eq_iff_iff]; simp [leb_d]; omega)
end Go.Proofs.Ytjadbgmohmgaaaa
