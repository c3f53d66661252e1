import Derived.Test.YtofdnkgieigncaaGreatNF
import Derived.Test.YtofdnkgieigncaaGreatTab
import Derived.Test.YtofdnkgieigncaaGreatPl
import Derived.Test.YtofdnkgieigncaaGreatRows
import Derived.Test.YtofdnkgieigncaaGreatTk
import Derived.Test.YtofdnkgieigncaaGreatTa
import Derived.Test.YtofdnkgieigncaaGreatTp
namespace Go.Proofs.YtofdnkgieigncaaGreat
open Go.SL
/-! ### names and currencies (as in the texts B1, B2, B4) -/
def letterB (c : Int) : Bool := decide (97 ≤ c) && decide (c ≤ 122)
def digitB (c : Int) : Bool := decide (48 ≤ c) && decide (c ≤ 57)
def nameB (c : UInt8) : Bool := letterB c.toNat || digitB c.toNat || decide ((c.toNat : Int) = 45)
def nameOk (s : ByteArray) : Bool := decide (1 ≤ s.size) && decide (s.size ≤ 16) && s.data.toList.all nameB

theorem isLetter_ac (c : Int) : AC Tryz.prog 121 [.d (.sc (.int .u8 c))] [] [] (fun r _ => r = .d (.sc (.bool (letterB c)))) := by
  refine AC_enter Tryz.func121 rfl Tryz.ntmps121 (rv := [.tmp 2]) rfl rfl (by simp) (fun w X G => ?_)
  repeat' (first | ((with_reducible refine gA ?_); (first | refine AW_seq ?_ | refine AW_region ?_ | refine AW_ret ?_)) | ((with_reducible refine gS ?_); refine Es_s (T := Tryz.tab) rfl rfl rfl rfl ?_) | (((with_reducible refine gS ?_); apply Es_q); rfl; (first | rfl | (refine w_tt ?_; assumption)); (first | refine LStep_simp (T := Tryz.tab) rfl rfl | (refine LStep_pickT rfl rfl ?_ rfl rfl; assumption) | (refine LStep_pickF rfl rfl ?_ rfl rfl; assumption))) | (refine Es_skip rfl ?_ rfl ?_; (first | rfl | (refine w_tf ?_; assumption) | (refine w_ft ?_; assumption))) | (refine Es_split rfl ?_ (fun _ => ?_) (fun _ => ?_); ((fail_if_success (refine und_t ?_; assumption)); (fail_if_success (refine und_f ?_; assumption)); exact trivial)) | (with_reducible refine Es_nil ?_) | (with_reducible refine then_n ?_) | ((with_reducible refine gR ?_); first | refine ret1 rfl ?_ | refine ret2 rfl rfl ?_ | refine ret0 ?_ | refine end1 rfl ?_ | refine end0 ?_))
  · rename_i h; rw [leb_t] at h; simp [leb_d, h, letterB]
  · rename_i h; rw [leb_f] at h; simp [letterB]; omega
theorem isDigit_ac (c : Int) : AC Tryz.prog 122 [.d (.sc (.int .u8 c))] [] [] (fun r _ => r = .d (.sc (.bool (digitB c)))) := by
  refine AC_enter Tryz.func122 rfl Tryz.ntmps122 (rv := [.tmp 2]) rfl rfl (by simp) (fun w X G => ?_)
  repeat' (first | ((with_reducible refine gA ?_); (first | refine AW_seq ?_ | refine AW_region ?_ | refine AW_ret ?_)) | ((with_reducible refine gS ?_); refine Es_s (T := Tryz.tab) rfl rfl rfl rfl ?_) | (((with_reducible refine gS ?_); apply Es_q); rfl; (first | rfl | (refine w_tt ?_; assumption)); (first | refine LStep_simp (T := Tryz.tab) rfl rfl | (refine LStep_pickT rfl rfl ?_ rfl rfl; assumption) | (refine LStep_pickF rfl rfl ?_ rfl rfl; assumption))) | (refine Es_skip rfl ?_ rfl ?_; (first | rfl | (refine w_tf ?_; assumption) | (refine w_ft ?_; assumption))) | (refine Es_split rfl ?_ (fun _ => ?_) (fun _ => ?_); ((fail_if_success (refine und_t ?_; assumption)); (fail_if_success (refine und_f ?_; assumption)); exact trivial)) | (with_reducible refine Es_nil ?_) | (with_reducible refine then_n ?_) | ((with_reducible refine gR ?_); first | refine ret1 rfl ?_ | refine ret2 rfl rfl ?_ | refine ret0 ?_ | refine end1 rfl ?_ | refine end0 ?_))
  · rename_i h; rw [leb_t] at h; simp [leb_d, h, digitB]
  · rename_i h; rw [leb_f] at h; simp [digitB]; omega
set_option maxHeartbeats 400000 in
set_option maxRecDepth 10000 in
theorem name_ac (s : ByteArray) : AC Tryz.prog 69 [.d (.sc (.string s))] [] [] (fun r _ => r = .d (.sc (.bool (nameOk s)))) := by
  refine AC_enter Tryz.func69 rfl Tryz.ntmps69 (rv := [.tmp 2]) rfl rfl (by simp) (fun w X G => ?_)
  have hlen : s.data.toList.length = s.size := rfl
  repeat' (first | ((with_reducible refine gA ?_); (first | refine AW_seq ?_ | refine AW_region ?_ | refine AW_condT rfl ?_ | (refine AW_cond rfl (fun hc => ?_) (fun hc => ?_) <;> try (exfalso; simp only [cmpL] at hc; omega)) | refine AW_block ?_ | refine AW_ret ?_ | refine AW_skip ?_)) | ((with_reducible refine gS ?_); refine Es_s (T := Tryz.tab) rfl rfl rfl rfl ?_) | (((with_reducible refine gS ?_); apply Es_q); rfl; (first | rfl | (refine w_ff ?_; assumption)); (first | refine LStep_simp (T := Tryz.tab) rfl rfl | refine LStep_wrap (T := Tryz.tab) rfl rfl | (refine LStep_pickT rfl rfl ?_ rfl rfl; assumption) | (refine LStep_pickF rfl rfl ?_ rfl rfl; assumption))) | (refine Es_skip rfl ?_ rfl ?_; (first | rfl | (refine w_tf ?_; assumption) | (refine w_ft ?_; assumption))) | (refine Es_split rfl ?_ (fun _ => ?_) (fun _ => ?_); ((fail_if_success (refine und_t ?_; assumption)); (fail_if_success (refine und_f ?_; assumption)); exact trivial)) | (with_reducible refine Es_nil ?_) | (with_reducible refine then_n ?_) | (with_reducible refine then_r ?_) | ((with_reducible refine gR ?_); first | refine ret1 rfl ?_ | refine ret2 rfl rfl ?_ | refine ret0 ?_ | refine end1 rfl ?_ | refine end0 ?_))
  all_goals simp only [cmps] at *
  · simp [nameOk]; omega
  · simp [nameOk]; omega
  have hall : nameOk s = s.data.toList.all nameB := by
    have e1 : 1 ≤ s.size := by omega
    have e2 : s.size ≤ 16 := by omega
    simp [nameOk, e1, e2]
  rw [hall]
  refine AW_for (S := Nat) (fun k => k ≤ s.size ∧ (s.data.toList.take k).all nameB = true) (fun k => [(0, .d (.sc (.string s))), (13, .d (.sc (.int .i64 s.size))), (14, .d (.sc (.int .i64 k)))]) (fun _ => []) (fun k => s.size - k) 0 ⟨by omega, by simp⟩ ⟨rfl, rfl, rfl, trivial⟩ trivial ?_
  intro k ⟨hk, hf⟩
  by_cases hlt : k < s.size
  · obtain ⟨c, hc⟩ : ∃ c, s.data.toList[((k : Int)).toNat]? = some c := ⟨_, List.getElem?_eq_getElem (by rw [hlen]; omega)⟩
    have hall2 : (s.data.toList.take (k + 1)).all nameB = nameB c := by
      rw [List.take_add_one, List.all_append, hf]
      have : s.data.toList[k]? = some c := by simpa using hc
      rw [this]; simp
    have hno : nameB c = false → s.data.toList.all nameB = false := by
      intro e
      rw [e] at hall2
      cases hq : s.data.toList.all nameB
      · rfl
      · rw [List.all_eq_true] at hq
        rw [List.all_eq_false] at hall2
        obtain ⟨x, hx, hx2⟩ := hall2
        exact absurd (hq x (List.mem_of_mem_take hx)) hx2
    repeat' (first | ((with_reducible refine gA ?_); (first | refine AW_seq ?_ | refine AW_region ?_ | refine AW_condF rfl ?_ | (refine AW_cond rfl (fun hc => ?_) (fun hc => ?_) <;> try (exfalso; simp only [cmpL] at hc; omega)) | refine AW_block ?_ | refine AW_ret ?_ | refine AW_skip ?_)) | ((with_reducible refine gS ?_); refine Es_s (T := Tryz.tab) rfl rfl rfl rfl ?_) | (((with_reducible refine gS ?_); apply Es_q); rfl; (first | rfl | (refine w_tt ?_; assumption)); (first | refine LStep_call (isLetter_ac _) rfl rfl rfl rfl | refine LStep_call (isDigit_ac _) rfl rfl rfl rfl)) | (((with_reducible refine gS ?_); apply Es_q); rfl; (first | rfl | (refine w_tt ?_; assumption)); (first | refine LStep_simp (T := Tryz.tab) rfl rfl | (refine LStep_add rfl rfl rfl rfl ?_; (refine IntWalk.i64_in _ ?_; first | omega | (simp only [cmps] at *; omega))) | (refine LStep_pickT rfl rfl ?_ rfl rfl; assumption) | (refine LStep_pickF rfl rfl ?_ rfl rfl; assumption) | (refine LStep_byteM (T := Tryz.tab) (c := ?_) rfl rfl rfl rfl rfl ?_; rotate_left; assumption))) | (refine Es_skip rfl ?_ rfl ?_; (first | rfl | (refine w_tf ?_; assumption) | (refine w_ft ?_; assumption))) | (refine Es_split rfl ?_ (fun _ => ?_) (fun _ => ?_); ((fail_if_success (refine und_t ?_; assumption)); (fail_if_success (refine und_f ?_; assumption)); exact trivial)) | (with_reducible refine Es_nil ?_) | (with_reducible refine then_n ?_) | (with_reducible refine then_r ?_) | (with_reducible refine block_n ?_) | (with_reducible refine block_r ?_) | ((with_reducible refine gR ?_); first | refine ret1 rfl ?_ | refine ret2 rfl rfl ?_ | refine ret0 ?_ | refine end1 rfl ?_ | refine end0 ?_))
    all_goals simp only [cmps] at *
    · rw [hno (by simp [nameB, *])]
    all_goals exact ⟨k + 1, ⟨by omega, hall2.trans (by simp [nameB, *])⟩, by omega, ⟨rfl, rfl, rfl, trivial⟩, trivial⟩
  · have : k = s.size := by omega
    subst this
    repeat' (first | ((with_reducible refine gA ?_); (first | refine AW_seq ?_ | refine AW_region ?_ | (refine AW_cond rfl (fun hc => ?_) (fun hc => ?_) <;> try (exfalso; simp only [cmpL] at hc; omega)) | refine AW_ret ?_ | refine AW_exit ?_)) | ((with_reducible refine gS ?_); refine Es_s (T := Tryz.tab) rfl rfl rfl rfl ?_) | (with_reducible refine Es_nil ?_) | (with_reducible refine then_n ?_) | (with_reducible refine then_e ?_) | ((with_reducible refine block_e ?_ ?_); rfl) | ((with_reducible refine gR ?_); first | refine ret1 rfl ?_ | refine ret2 rfl rfl ?_ | refine ret0 ?_ | refine end1 rfl ?_ | refine end0 ?_))
    rw [← hlen, List.take_length] at hf
    rw [hf]
def bigB (c : UInt8) : Bool := decide (65 ≤ c.toNat) && decide (c.toNat ≤ 90)
def curNOk (s : ByteArray) : Bool := decide (s.size = 3) && s.data.toList.all bigB
theorem all_step {α : Type} {p : α → Bool} {l : List α} {k : Nat} {c : α} (hc : l[k]? = some c) (hf : (l.take k).all p = true) : (p c = true → (l.take (k + 1)).all p = true) ∧ (p c = false → l.all p = false) := by
  have h : (l.take (k + 1)).all p = p c := by rw [List.take_add_one, List.all_append, hf, hc]; simp
  refine ⟨fun e => h.trans e, fun e => ?_⟩
  rw [e] at h
  cases hq : l.all p
  · rfl
  · rw [List.all_eq_true] at hq
    rw [List.all_eq_false] at h
    obtain ⟨x, hx, hx2⟩ := h
    exact absurd (hq x (List.mem_of_mem_take hx)) hx2
set_option maxRecDepth 10000 in
theorem cur_ac (s : ByteArray) : AC Tryz.prog 156 [.d (.sc (.string s))] [] [] (fun r _ => r = .d (.sc (.bool (curNOk s)))) := by
  refine AC_enter Tryz.func156 rfl Tryz.ntmps156 (rv := [.tmp 2]) rfl rfl (by simp) (fun w X G => ?_)
  have hlen : s.data.toList.length = s.size := rfl
  repeat' (first | ((with_reducible refine gA ?_); (first | refine AW_seq ?_ | refine AW_region ?_ | (refine AW_cond rfl (fun hc => ?_) (fun hc => ?_) <;> try (exfalso; simp only [cmpL] at hc; omega)) | refine AW_block ?_ | refine AW_ret ?_ | refine AW_skip ?_)) | ((with_reducible refine gS ?_); refine Es_s (T := Tryz.tab) rfl rfl rfl rfl ?_) | (((with_reducible refine gS ?_); apply Es_q); rfl; rfl; refine LStep_wrap (T := Tryz.tab) rfl rfl) | (with_reducible refine Es_nil ?_) | (with_reducible refine then_n ?_) | (with_reducible refine then_r ?_) | ((with_reducible refine gR ?_); first | refine ret1 rfl ?_ | refine ret2 rfl rfl ?_ | refine ret0 ?_ | refine end1 rfl ?_ | refine end0 ?_))
  all_goals simp only [cmps] at *
  · simp [curNOk]; omega
  have hall : curNOk s = s.data.toList.all bigB := by
    have e1 : s.size = 3 := by omega
    simp [curNOk, e1]
  rw [hall]
  refine AW_for (S := Nat) (fun k => k ≤ s.size ∧ (s.data.toList.take k).all bigB = true) (fun k => [(0, .d (.sc (.string s))), (8, .d (.sc (.int .i64 s.size))), (9, .d (.sc (.int .i64 k)))]) (fun _ => []) (fun k => s.size - k) 0 ⟨by omega, by simp⟩ ⟨rfl, rfl, rfl, trivial⟩ trivial ?_
  intro k ⟨hk, hf⟩
  by_cases hlt : k < s.size
  · obtain ⟨c, hc⟩ : ∃ c, s.data.toList[((k : Int)).toNat]? = some c := ⟨_, List.getElem?_eq_getElem (by rw [hlen]; omega)⟩
    obtain ⟨hyes, hno⟩ := all_step (by simpa using hc) hf
    repeat' (first | ((with_reducible refine gA ?_); (first | refine AW_seq ?_ | refine AW_region ?_ | refine AW_condT rfl ?_ | (refine AW_cond rfl (fun hc => ?_) (fun hc => ?_) <;> try (exfalso; simp only [cmpL] at hc; omega)) | refine AW_block ?_ | refine AW_ret ?_ | refine AW_skip ?_)) | ((with_reducible refine gS ?_); refine Es_s (T := Tryz.tab) rfl rfl rfl rfl ?_) | (((with_reducible refine gS ?_); apply Es_q); rfl; (first | rfl | (refine w_ff ?_; assumption)); (first | refine LStep_simp (T := Tryz.tab) rfl rfl | (refine LStep_add rfl rfl rfl rfl ?_; (refine IntWalk.i64_in _ ?_; first | omega | (simp only [cmps] at *; omega))) | (refine LStep_pickT rfl rfl ?_ rfl rfl; assumption) | (refine LStep_pickF rfl rfl ?_ rfl rfl; assumption) | (refine LStep_byteM (T := Tryz.tab) (c := ?_) rfl rfl rfl rfl rfl ?_; rotate_left; assumption))) | (refine Es_skip rfl ?_ rfl ?_; (first | rfl | (refine w_tf ?_; assumption) | (refine w_ft ?_; assumption))) | (refine Es_split rfl ?_ (fun _ => ?_) (fun _ => ?_); ((fail_if_success (refine und_t ?_; assumption)); (fail_if_success (refine und_f ?_; assumption)); exact trivial)) | (with_reducible refine Es_nil ?_) | (with_reducible refine then_n ?_) | (with_reducible refine then_r ?_) | (with_reducible refine block_n ?_) | (with_reducible refine block_r ?_) | ((with_reducible refine gR ?_); first | refine ret1 rfl ?_ | refine ret2 rfl rfl ?_ | refine ret0 ?_ | refine end1 rfl ?_ | refine end0 ?_))
    all_goals simp only [cmps] at *
    all_goals first
      | exact ⟨k + 1, ⟨by omega, hyes (by simp [bigB]; omega)⟩, by omega, ⟨rfl, rfl, rfl, trivial⟩, trivial⟩
      | rw [hno (by simp [bigB]; omega)]
  · have : k = s.size := by omega
    subst this
    repeat' (first | ((with_reducible refine gA ?_); (first | refine AW_seq ?_ | refine AW_region ?_ | (refine AW_cond rfl (fun hc => ?_) (fun hc => ?_) <;> try (exfalso; simp only [cmpL] at hc; omega)) | refine AW_ret ?_ | refine AW_exit ?_)) | ((with_reducible refine gS ?_); refine Es_s (T := Tryz.tab) rfl rfl rfl rfl ?_) | (with_reducible refine Es_nil ?_) | (with_reducible refine then_n ?_) | (with_reducible refine then_e ?_) | ((with_reducible refine block_e ?_ ?_); rfl) | ((with_reducible refine gR ?_); first | refine ret1 rfl ?_ | refine ret2 rfl rfl ?_ | refine ret0 ?_ | refine end1 rfl ?_ | refine end0 ?_))
    rw [← hlen, List.take_length] at hf
    rw [hf]
def amtB (n : Int) : Bool := decide (-1099511627776 ≤ n) && decide (n ≤ 1099511627776)
set_option maxRecDepth 10000 in
theorem moneyMay_ac (s : ByteArray) (n : Int) : AC Tryz.prog 112 [.agg [.d (.sc (.string s)), .d (.sc (.int .i64 n))]] [] [] (fun r _ => r = .d (.sc (.bool (curNOk s && amtB n)))) := by
  refine AC_enter Tryz.func112 rfl Tryz.ntmps112 (rv := [.tmp 2]) rfl rfl (by simp) (fun w X G => ?_)
  repeat' (first | ((with_reducible refine gA ?_); (first | refine AW_seq ?_ | refine AW_region ?_ | refine AW_ret ?_)) | ((with_reducible refine gS ?_); refine Es_s (T := Tryz.tab) rfl rfl rfl rfl ?_) | (((with_reducible refine gS ?_); apply Es_q); rfl; (first | rfl | (refine w_tt ?_; assumption)); refine LStep_call (cur_ac _) rfl rfl rfl rfl) | (((with_reducible refine gS ?_); apply Es_q); rfl; (first | rfl | (refine w_tt ?_; assumption)); (first | refine LStep_simp (T := Tryz.tab) rfl rfl | (refine LStep_pickT rfl rfl ?_ rfl rfl; assumption) | (refine LStep_pickF rfl rfl ?_ rfl rfl; assumption))) | (refine Es_skip rfl ?_ rfl ?_; (first | rfl | (refine w_tf ?_; assumption) | (refine w_ft ?_; assumption))) | (((with_reducible refine gS ?_); apply Es_xs); rfl; rfl; refine LStep_boxN rfl rfl rfl rfl rfl rfl; rfl) | (refine Es_split rfl ?_ (fun _ => ?_) (fun _ => ?_); ((fail_if_success (refine und_t ?_; assumption)); (fail_if_success (refine und_f ?_; assumption)); exact trivial)) | (with_reducible refine Es_nil ?_) | (with_reducible refine then_n ?_) | ((with_reducible refine gR ?_); first | refine ret1 rfl ?_ | refine ret2 rfl rfl ?_ | refine ret0 ?_ | refine end1 rfl ?_ | refine end0 ?_))
  all_goals (simp_all [amtB, leb_d]; try omega)








end Go.Proofs.YtofdnkgieigncaaGreat
namespace Go.Proofs.YtofdnkgieigncaaGreat
open Go.SL
/-! ### debts in memory; which may be -/
def dbE (d : Db) : List D := [.sc (.string d.1.2.1), .sc (.string d.1.2.2), .sc (.string d.1.1), .sc (.int .i64 d.2)]
def dbC (d : Db) : List AV := [.d (.sc (.string d.1.2.1)), .d (.sc (.string d.1.2.2)), .d (.sc (.string d.1.1)), .d (.sc (.int .i64 d.2))]
def mayD (d : Db) : Bool := nameOk d.1.2.1 && (nameOk d.1.2.2 && (!(eqs d.1.2.1 d.1.2.2) && (leb 1 d.2 && (curNOk d.1.1 && amtB d.2))))
set_option maxRecDepth 10000 in
set_option maxHeartbeats 4000000 in
theorem may1_ac (d : Db) : AC Tryz.prog 101 [.agg (dbC d)] [] [] (fun r _ => r = .d (.sc (.bool (mayD d)))) := by
  have c1 := name_ac d.1.2.1
  have c2 := name_ac d.1.2.2
  have c3 := moneyMay_ac d.1.1 d.2
  unfold mayD dbC
  generalize nameOk d.1.2.1 = b1 at *
  generalize nameOk d.1.2.2 = b2 at *
  generalize (curNOk d.1.1 && amtB d.2) = b3 at *
  cases b1 <;> cases b2 <;> cases b3 <;>
  · refine AC_enter Tryz.func101 rfl Tryz.ntmps101 (rv := [.tmp 2]) rfl rfl (by simp) (fun w X G => ?_)
    repeat' (first | ((with_reducible refine gA ?_); (first | refine AW_seq ?_ | refine AW_region ?_ | refine AW_ret ?_)) | ((with_reducible refine gS ?_); refine Es_s (T := Tryz.tab) rfl rfl rfl rfl ?_) | (((with_reducible refine gS ?_); apply Es_q); rfl; (first | rfl | (refine w_tt ?_; assumption)); (first | refine LStep_call (c1) rfl rfl rfl rfl | refine LStep_call (c2) rfl rfl rfl rfl | refine LStep_call (c3) rfl rfl rfl rfl)) | (((with_reducible refine gS ?_); apply Es_q); rfl; (first | rfl | (refine w_tt ?_; assumption)); (first | refine LStep_simp (T := Tryz.tab) rfl rfl | (refine LStep_pickT rfl rfl ?_ rfl rfl; assumption) | (refine LStep_pickF rfl rfl ?_ rfl rfl; assumption) | refine LStep_buildN (T := Tryz.tab) rfl rfl rfl rfl rfl rfl rfl)) | (refine Es_skip rfl ?_ rfl ?_; (first | rfl | (refine w_tf ?_; assumption) | (refine w_ft ?_; assumption))) | (((with_reducible refine gS ?_); apply Es_xs); rfl; rfl; refine LStep_boxN rfl rfl rfl rfl rfl rfl; rfl) | (refine Es_split rfl ?_ (fun _ => ?_) (fun _ => ?_); ((fail_if_success (refine und_t ?_; assumption)); (fail_if_success (refine und_f ?_; assumption)); exact trivial)) | (with_reducible refine Es_nil ?_) | (with_reducible refine then_n ?_) | ((with_reducible refine gR ?_); first | refine ret1 rfl ?_ | refine ret2 rfl rfl ?_ | refine ret0 ?_ | refine end1 rfl ?_ | refine end0 ?_))
    all_goals first
      | (simp [*]; done)
      | trace_state

set_option maxRecDepth 10000 in
theorem mayAll1_ac (x : Db) : AC Tryz.prog 100 [.agg (dbC x)] [] [] (fun r _ => r = .d (.sc (.bool (!mayD x)))) := by
  refine AC_enter Tryz.func100 rfl Tryz.ntmps100 (rv := [.tmp 2]) rfl rfl (by simp) (fun w X G => ?_)
  repeat' (first | ((with_reducible refine gA ?_); (first | refine AW_seq ?_ | refine AW_region ?_ | refine AW_ret ?_)) | ((with_reducible refine gS ?_); refine Es_s (T := Tryz.tab) rfl rfl rfl rfl ?_) | (((with_reducible refine gS ?_); apply Es_q); rfl; rfl; refine LStep_call (may1_ac x) rfl rfl rfl rfl) | (refine Es_skip rfl ?_ rfl ?_; (first | rfl | (refine w_tf ?_; assumption) | (refine w_ft ?_; assumption))) | (((with_reducible refine gS ?_); apply Es_xs); rfl; rfl; refine LStep_boxN rfl rfl rfl rfl rfl rfl; rfl) | (with_reducible refine Es_nil ?_) | (with_reducible refine then_n ?_) | ((with_reducible refine gR ?_); first | refine ret1 rfl ?_ | refine ret2 rfl rfl ?_ | refine ret0 ?_ | refine end1 rfl ?_ | refine end0 ?_))
  rfl
def idxG {α : Type} (q : α → Bool) : List α → Nat → Int
  | [], _ => -1
  | x :: r, i => if q x = true then (i : Int) else idxG q r (i + 1)
theorem idxG_any {α : Type} (q : α → Bool) : ∀ (l : List α) (i : Nat), leb 0 (idxG q l i) = l.any q
  | [], _ => by unfold idxG; simp [leb_d]
  | x :: r, i => by
    unfold idxG
    rw [List.any_cons]
    cases h : q x with
    | true => rw [if_pos rfl, Bool.true_or, leb_t]; omega
    | false => rw [if_neg (by simp), idxG_any q r, Bool.false_or]
theorem KpNil {f : FuncId} {args : List AV} {v : AV} (h : AC Tryz.prog f args [] [] (fun r _ => r = v)) : AC Tryz.prog f args [] [] (fun r h' => r = v ∧ Kp [] h') := h.mono (fun r h' hr => ⟨hr, fun _ _ hq => by cases hq⟩)
set_option maxRecDepth 10000 in
theorem idxD_ac (l : List Db) (f : FuncId) (q : Db → Bool) (hl : l.length ≤ 140737488351232) (hf : ∀ x ∈ l, AC Tryz.prog f [.agg (dbC x)] [] [] (fun r _ => r = .d (.sc (.bool (q x))))) :
    AC Tryz.prog 143 [.d (.sl 4 (l.map dbE)), .fn f []] [] [] (fun r _ => r = .d (.sc (.int .i64 (idxG q l 0)))) := by
  refine AC_enter Tryz.func143 rfl Tryz.ntmps143 (rv := [.tmp 4]) rfl rfl (by simp) (fun w X G => ?_)
  repeat' (first | ((with_reducible refine gA ?_); (first | refine AW_seq ?_ | refine AW_region ?_ | refine AW_block ?_)) | ((with_reducible refine gS ?_); refine Es_s (T := Tryz.tab) rfl rfl rfl rfl ?_) | (((with_reducible refine gS ?_); apply Es_q); rfl; rfl; refine LStep_lenM (T := Tryz.tab) rfl rfl rfl rfl) | (with_reducible refine Es_nil ?_) | (with_reducible refine then_n ?_))
  refine AW_forE (S := Nat) (fun k => k ≤ l.length ∧ idxG q l 0 = idxG q (l.drop k) k) (fun k => [(8, .d (.sc (.int .i64 (k : Nat))))]) (fun _ => []) (fun k => l.length - k) 0 ⟨by omega, rfl⟩ (by (repeat' (first | exact trivial | exact rfl | (refine ⟨Or.inl rfl, ?_⟩) | (refine ⟨Or.inr rfl, ?_⟩) | (refine ⟨Or.inr trivial, ?_⟩) | (refine ⟨rfl, ?_⟩) | (refine ⟨?_, ?_⟩)))) (by (repeat' (first | exact trivial | exact rfl | (refine ⟨Or.inl rfl, ?_⟩) | (refine ⟨Or.inr rfl, ?_⟩) | (refine ⟨Or.inr trivial, ?_⟩) | (refine ⟨rfl, ?_⟩) | (refine ⟨?_, ?_⟩)))) ?_
  intro k ⟨hk, hg⟩
  by_cases hlt : k < l.length
  · obtain ⟨x, hx, hd⟩ := drop_at hlt
    rw [hd, idxG] at hg
    have hfx := KpNil (hf x (List.mem_of_getElem? hx))
    repeat' (first | ((with_reducible refine gA ?_); (first | refine AW_seq ?_ | refine AW_region ?_ | (refine AW_cond rfl (fun hc => ?_) (fun hc => ?_) <;> try (exfalso; simp only [cmpL] at hc; omega)) | refine AW_block ?_ | refine AW_ret ?_ | refine AW_skip ?_)) | ((with_reducible refine gS ?_); refine Es_s (T := Tryz.tab) rfl rfl rfl rfl ?_) | (((with_reducible refine gS ?_); apply Es_q); rfl; rfl; refine LStep_callB hfx rfl rfl trivial rfl rfl) | (((with_reducible refine gS ?_); apply Es_q); rfl; rfl; (first | (refine LStep_add rfl rfl rfl rfl ?_; (refine IntWalk.i64_in _ ?_; first | omega | (simp only [cmps] at *; omega))) | (refine LStep_indexM (T := Tryz.tab) (c := ?_) rfl rfl rfl rfl rfl rfl ?_; rotate_left; assumption))) | (with_reducible refine Es_nil ?_) | (with_reducible refine then_n ?_) | (with_reducible refine then_r ?_) | (with_reducible refine block_n ?_) | (with_reducible refine block_r ?_) | ((with_reducible refine gR ?_); first | refine ret1 rfl ?_ | refine ret2 rfl rfl ?_ | refine ret0 ?_ | refine end1 rfl ?_ | refine end0 ?_))
    · have h : q x = true := by assumption
      rw [hg, if_pos h]
    · have h : q x = false := by assumption
      refine ⟨k + 1, ?_, by omega, by (repeat' (first | exact trivial | exact rfl | (refine ⟨Or.inl rfl, ?_⟩) | (refine ⟨Or.inr rfl, ?_⟩) | (refine ⟨Or.inr trivial, ?_⟩) | (refine ⟨rfl, ?_⟩) | (refine ⟨?_, ?_⟩))), by (repeat' (first | exact trivial | exact rfl | (refine ⟨Or.inl rfl, ?_⟩) | (refine ⟨Or.inr rfl, ?_⟩) | (refine ⟨Or.inr trivial, ?_⟩) | (refine ⟨rfl, ?_⟩) | (refine ⟨?_, ?_⟩))), by (repeat' (first | exact trivial | exact rfl | (refine ⟨Or.inl rfl, ?_⟩) | (refine ⟨Or.inr rfl, ?_⟩) | (refine ⟨Or.inr trivial, ?_⟩) | (refine ⟨rfl, ?_⟩) | (refine ⟨?_, ?_⟩))), by (repeat' (first | exact trivial | exact rfl | (refine ⟨Or.inl rfl, ?_⟩) | (refine ⟨Or.inr rfl, ?_⟩) | (refine ⟨Or.inr trivial, ?_⟩) | (refine ⟨rfl, ?_⟩) | (refine ⟨?_, ?_⟩)))⟩; exact ⟨by omega, by rw [hg, if_neg (by simp [h])]⟩
  · have : k = l.length := by omega
    subst this
    repeat' (first | ((with_reducible refine gA ?_); (first | refine AW_seq ?_ | refine AW_region ?_ | (refine AW_cond rfl (fun hc => ?_) (fun hc => ?_) <;> try (exfalso; simp only [cmpL] at hc; omega)) | refine AW_ret ?_ | refine AW_exit ?_)) | ((with_reducible refine gS ?_); refine Es_s (T := Tryz.tab) rfl rfl rfl rfl ?_) | (with_reducible refine Es_nil ?_) | (with_reducible refine then_n ?_) | (with_reducible refine then_e ?_) | ((with_reducible refine block_e ?_ ?_); rfl) | ((with_reducible refine gR ?_); first | refine ret1 rfl ?_ | refine ret2 rfl rfl ?_ | refine ret0 ?_ | refine end1 rfl ?_ | refine end0 ?_))
    rw [hg, drop_end, idxG]
set_option maxRecDepth 10000 in
theorem conD_ac (l : List Db) (f : FuncId) (q : Db → Bool) (hl : l.length ≤ 140737488351232) (hf : ∀ x ∈ l, AC Tryz.prog f [.agg (dbC x)] [] [] (fun r _ => r = .d (.sc (.bool (q x))))) :
    AC Tryz.prog 99 [.d (.sl 4 (l.map dbE)), .fn f []] [] [] (fun r _ => r = .d (.sc (.bool (l.any q)))) := by
  refine AC_enter Tryz.func99 rfl Tryz.ntmps99 (rv := [.tmp 4]) rfl rfl (by simp) (fun w X G => ?_)
  repeat' (first | ((with_reducible refine gA ?_); (first | refine AW_seq ?_ | refine AW_region ?_ | refine AW_ret ?_)) | ((with_reducible refine gS ?_); refine Es_s (T := Tryz.tab) rfl rfl rfl rfl ?_) | (((with_reducible refine gS ?_); apply Es_q); rfl; rfl; refine LStep_call (idxD_ac l f q hl hf) rfl rfl rfl rfl) | (with_reducible refine Es_nil ?_) | (with_reducible refine then_n ?_) | ((with_reducible refine gR ?_); first | refine ret1 rfl ?_ | refine ret2 rfl rfl ?_ | refine ret0 ?_ | refine end1 rfl ?_ | refine end0 ?_))
  rw [idxG_any]
theorem any_notD (l : List Db) : l.any (fun x => !mayD x) = !(l.all mayD) := by
  induction l with
  | nil => rfl
  | cons x l ih => rw [List.any_cons, List.all_cons, ih, Bool.not_and]
set_option maxRecDepth 10000 in
theorem mayAll_ac (l : List Db) (hl : l.length ≤ 4096) : AC Tryz.prog 48 [.d (.sl 4 (l.map dbE))] [] [] (fun r _ => r = .d (.sc (.bool (l.all mayD)))) := by
  have c := conD_ac l 100 (fun x => !mayD x) (by omega) (fun x _ => mayAll1_ac x)
  rw [any_notD] at c
  have g : leb ((l.length : Nat) : Int) 4096 = true := by rw [leb_t]; omega
  cases h : l.all mayD <;> rw [h] at c <;>
  · refine AC_enter Tryz.func48 rfl Tryz.ntmps48 (rv := [.tmp 2]) rfl rfl (by simp) (fun w X G => ?_)
    repeat' (first | ((with_reducible refine gA ?_); (first | refine AW_seq ?_ | refine AW_region ?_ | refine AW_ret ?_)) | ((with_reducible refine gS ?_); refine Es_s (T := Tryz.tab) rfl rfl rfl rfl ?_) | (((with_reducible refine gS ?_); apply Es_q); rfl; (first | rfl | (refine w_tt ?_; assumption)); refine LStep_call (c) rfl rfl rfl rfl) | (((with_reducible refine gS ?_); apply Es_q); rfl; (first | rfl | (refine w_tt ?_; assumption)); (first | refine LStep_simp (T := Tryz.tab) rfl rfl | refine LStep_lenM (T := Tryz.tab) rfl rfl rfl rfl | (refine LStep_pickT rfl rfl ?_ rfl rfl; assumption))) | (with_reducible refine Es_nil ?_) | (with_reducible refine then_n ?_) | ((with_reducible refine gR ?_); first | refine ret1 rfl ?_ | refine ret2 rfl rfl ?_ | refine ret0 ?_ | refine end1 rfl ?_ | refine end0 ?_))
    all_goals first
      | rfl
      | trace_state
/-! ### few; the same -/
theorem eqS_db : eqS Tryz.tab 8 55 = some [2, 2, 2, 1] := by kernel_rfl
theorem eqG_db : Tryz.prog.eqGuardType Tryz.prog.depth 55 = false := by kernel_rfl
end Go.Proofs.YtofdnkgieigncaaGreat
namespace Go.Proofs.YtofdnkgieigncaaGreat
open Go.SL
/-! ### the document's parties, currencies, what is owed, positions -/
theorem mayD_t {d : Db} (h : mayD d = true) : nameOk d.1.2.1 = true ∧ nameOk d.1.2.2 = true ∧ d.1.2.1 ≠ d.1.2.2 ∧ 1 ≤ d.2 ∧ d.2 ≤ 1099511627776 ∧ curNOk d.1.1 = true := by
  unfold mayD amtB at h
  simp only [Bool.and_eq_true, Bool.not_eq_true', leb_t, decide_eq_true_eq] at h
  refine ⟨h.1, h.2.1, fun e => ?_, h.2.2.2.1, h.2.2.2.2.2.2, h.2.2.2.2.1⟩
  have := h.2.2.1
  rw [e] at this
  simp [eqs_d] at this
theorem take_len_le {α : Type} (l : List α) (k : Nat) : (l.take k).length ≤ l.length := by rw [List.length_take]; omega








/-! ### At -/
end Go.Proofs.YtofdnkgieigncaaGreat
namespace Go.Proofs.YtofdnkgieigncaaGreat
open Go.SL
/-! ### Position -/
/-! ### Owes -/
theorem ow_in {l : List Db} {B : Int} (hB : 0 ≤ B) (h : ∀ d ∈ l, 0 ≤ d.2 ∧ d.2 ≤ B) (k : DK) : 0 ≤ ow l k ∧ ow l k ≤ B * (l.length : Int) := by
  revert h
  refine list_snocN (C := fun l => (∀ d ∈ l, 0 ≤ d.2 ∧ d.2 ≤ B) → 0 ≤ ow l k ∧ ow l k ≤ B * (l.length : Int)) l (fun _ => by rw [ow_nil]; simp) (fun l d ih h => ?_)
  have h1 := ih (fun x hx => h x (List.mem_append_left _ hx))
  have h2 := h d (by simp)
  have e : B * (((l ++ [d]).length : Nat) : Int) = B * (l.length : Int) + B := by rw [List.length_append, List.length_singleton, Int.natCast_add, Int.mul_add]; simp
  rw [ow_snoc, e]
  split <;> omega
end Go.Proofs.YtofdnkgieigncaaGreat
