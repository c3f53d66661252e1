import Derived.Test.YtnalpielhpmnfaaKC
namespace Go.Proofs.Ytnalpielhpmnfaa
open Go.SL
/-! ### Worth: the sum that may be greater than one number -/
theorem wand40 (n : Int) : andI .i64 n 1099511627775 = n % 1099511627776 := by
  unfold andI
  have e : ((BitVec.ofInt IntKind.i64.bits n &&& BitVec.ofInt IntKind.i64.bits 1099511627775 : BitVec IntKind.i64.bits).toNat : Int) = n % 1099511627776 := by
    show ((BitVec.ofInt 64 n &&& BitVec.ofInt 64 1099511627775 : BitVec 64).toNat : Int) = n % 1099511627776
    rw [BitVec.toNat_and, BitVec.toNat_ofInt, show (BitVec.ofInt 64 1099511627775).toNat = 2 ^ 40 - 1 from rfl, Nat.and_two_pow_sub_one_eq_mod]
    omega
  show IntKind.i64.wrap _ = _
  rw [e]
  exact IntWalk.i64_in _ (by omega)
theorem wshr40 (n : Int) : n.fdiv (2 ^ (min ((40 : Int)).toNat IntKind.i64.bits)) = n / 1099511627776 := by
  rw [Int.fdiv_eq_ediv_of_nonneg _ (Int.pow_nonneg (by decide))]
  rfl
def tHp (h l : Int) : Hp := [(1000, some (.cells [.d (.sc (.int .i64 h)), .d (.sc (.int .i64 l))]))]
def tH (h l n : Int) : Int := h + (n / 1099511627776 + (l + n % 1099511627776) / 1099511627776)
def tL (l n : Int) : Int := (l + n % 1099511627776) % 1099511627776
theorem tot_step (h l n : Int) : tH h l n * 1099511627776 + tL l n = h * 1099511627776 + l + n := by unfold tH tL; omega
set_option maxRecDepth 10000 in
set_option maxHeartbeats 2000000 in
theorem tadd_ac (h l n : Int) (hh : -1000 ≤ h ∧ h ≤ 1000) (hl : 0 ≤ l ∧ l < 1099511627776) (hn : -1099511627776 ≤ n ∧ n ≤ 1099511627776) : AC Try.prog 47 [.ptr 1000 0, .d (.sc (.int .i64 n))] (tHp h l) [1000]
    (fun r h' => r = .tup [] ∧ SubH (tHp (tH h l n) (tL l n)) h') := by
  have a1 := wand40 n
  have a2 := wand40 (l + n % 1099511627776)
  have s1 := wshr40 n
  have s2 := wshr40 (l + n % 1099511627776)
  unfold tHp tH tL
  refine AC_enter Try.func47 rfl Try.ntmps47 (rv := []) rfl rfl (by simp) (fun w X G => ?_)
  repeat' (first | ((with_reducible refine gA ?_); (first | refine AW_seq ?_ | refine AW_region ?_ | refine AW_regionD Try.mixed ?_)) | (first | ((with_reducible refine gS ?_); refine Es_s (T := Try.tab) rfl rfl rfl rfl ?_) | ((with_reducible refine gD ?_); refine Ed_s (T := Try.tab) rfl rfl rfl rfl ?_)) | ((first | ((with_reducible refine gS ?_); apply Es_q) | ((with_reducible refine gD ?_); apply Ed_q)); rfl; rfl; (first | refine LStep_and rfl rfl rfl a1 rfl | refine LStep_and rfl rfl rfl a2 rfl | (refine LStep_shr rfl rfl rfl ?_ s1 rfl; omega) | (refine LStep_shr rfl rfl rfl ?_ s2 rfl; omega))) | ((first | ((with_reducible refine gS ?_); apply Es_q) | ((with_reducible refine gD ?_); apply Ed_q)); rfl; rfl; (refine LStep_add rfl rfl rfl rfl ?_; (refine IntWalk.i64_in _ ?_; first | omega | (simp only [cmps] at *; omega)))) | ((first | ((with_reducible refine gS ?_); apply Es_xn) | ((with_reducible refine gD ?_); apply Ed_xn)); rfl; rfl; (refine LStep_storeN (T := Try.tab) rfl rfl rfl rfl rfl rfl rfl ?_ rfl; (refine Nat.le_of_ble_eq_true ?_; rfl)); rfl) | (with_reducible refine Es_nil ?_) | ((with_reducible refine Ed_nil ?_ ?_); kernel_rfl) | (with_reducible refine then_n ?_) | ((with_reducible refine gR ?_); first | refine ret1 rfl ?_ | refine ret2 rfl rfl ?_ | refine ret0 ?_ | refine end1 rfl ?_ | refine end0 ?_))
  all_goals try simp only at *
  all_goals first
    | exact ⟨rfl, by (repeat' (first | exact trivial | exact rfl | (refine ⟨Or.inl rfl, ?_⟩) | (refine ⟨Or.inr rfl, ?_⟩) | (refine ⟨Or.inr trivial, ?_⟩) | (refine ⟨rfl, ?_⟩) | (refine ⟨?_, ?_⟩)))⟩
    | exact ⟨trivial, by (repeat' (first | exact trivial | exact rfl | (refine ⟨Or.inl rfl, ?_⟩) | (refine ⟨Or.inr rfl, ?_⟩) | (refine ⟨Or.inr trivial, ?_⟩) | (refine ⟨rfl, ?_⟩) | (refine ⟨?_, ?_⟩)))⟩
    | trace_state
def tOk (h l : Int) : Bool := decide (-1099511627776 ≤ h * 1099511627776 + l) && decide (h * 1099511627776 + l ≤ 1099511627776)
set_option maxRecDepth 10000 in
set_option maxHeartbeats 2000000 in
theorem tval_ac (h l : Int) (hh : -1000 ≤ h ∧ h ≤ 1000) (hl : 0 ≤ l ∧ l < 1099511627776) : AC Try.prog 48 [.ptr 1000 0] (tHp h l) [1000]
    (fun r h' => r = .tup [.d (.sc (.int .i64 (if tOk h l = true then h * 1099511627776 + l else 0))), .d (.sc (.bool (tOk h l)))] ∧ SubH (tHp h l) h') := by
  have hsp : tOk h l = true ↔ -1099511627776 ≤ h * 1099511627776 + l ∧ h * 1099511627776 + l ≤ 1099511627776 := by simp [tOk]
  unfold tHp
  by_cases hok : tOk h l = true
  · rw [if_pos hok, hok]
    have := hsp.1 hok
    refine AC_enter Try.func48 rfl Try.ntmps48 (rv := [.tmp 2, .tmp 3]) rfl rfl (by simp) (fun w X G => ?_)
    repeat' (first | ((with_reducible refine gA ?_); (first | refine AW_seq ?_ | refine AW_region ?_ | refine AW_regionD Try.mixed ?_ | refine AW_condT rfl ?_ | refine AW_condF rfl ?_ | (refine AW_cond rfl (fun hc => ?_) (fun hc => ?_) <;> try (exfalso; simp only [cmpL] at hc; omega)) | refine AW_ret ?_ | refine AW_skip ?_)) | (first | ((with_reducible refine gS ?_); refine Es_s (T := Try.tab) rfl rfl rfl rfl ?_) | ((with_reducible refine gD ?_); refine Ed_s (T := Try.tab) rfl rfl rfl rfl ?_)) | ((first | ((with_reducible refine gS ?_); apply Es_q) | ((with_reducible refine gD ?_); apply Ed_q)); rfl; (first | rfl | (refine w_tt ?_; assumption) | (refine w_ff ?_; assumption)); (first | refine LStep_simp (T := Try.tab) rfl rfl | (refine LStep_add rfl rfl rfl rfl ?_; (refine IntWalk.i64_in _ ?_; first | omega | (simp only [cmps] at *; omega))) | (refine LStep_mul rfl rfl rfl rfl ?_; (refine IntWalk.i64_in _ ?_; first | omega | (simp only [cmps] at *; omega))) | (refine LStep_pickT rfl rfl ?_ rfl rfl; assumption) | (refine LStep_pickF rfl rfl ?_ rfl rfl; assumption))) | (refine Es_skip rfl ?_ rfl ?_; (first | rfl | (refine w_tf ?_; assumption) | (refine w_ft ?_; assumption))) | (refine Es_split rfl ?_ (fun _ => ?_) (fun _ => ?_); ((fail_if_success (refine und_t ?_; assumption)); (fail_if_success (refine und_f ?_; assumption)); exact trivial)) | (with_reducible refine Es_nil ?_) | ((with_reducible refine Ed_nil ?_ ?_); kernel_rfl) | (with_reducible refine then_n ?_) | (with_reducible refine then_r ?_) | ((with_reducible refine gR ?_); first | refine ret1 rfl ?_ | refine ret2 rfl rfl ?_ | refine ret0 ?_ | refine end1 rfl ?_ | refine end0 ?_))
    all_goals try simp only [cmps] at *
    all_goals first
      | (exfalso; omega)
      | exact ⟨rfl, by (repeat' (first | exact trivial | exact rfl | (refine ⟨Or.inl rfl, ?_⟩) | (refine ⟨Or.inr rfl, ?_⟩) | (refine ⟨Or.inr trivial, ?_⟩) | (refine ⟨rfl, ?_⟩) | (refine ⟨?_, ?_⟩)))⟩
      | exact ⟨trivial, by (repeat' (first | exact trivial | exact rfl | (refine ⟨Or.inl rfl, ?_⟩) | (refine ⟨Or.inr rfl, ?_⟩) | (refine ⟨Or.inr trivial, ?_⟩) | (refine ⟨rfl, ?_⟩) | (refine ⟨?_, ?_⟩)))⟩
      | trace_state
  · rw [if_neg hok]
    have hno : ¬ (-1099511627776 ≤ h * 1099511627776 + l ∧ h * 1099511627776 + l ≤ 1099511627776) := fun q => hok (hsp.2 q)
    replace hok : tOk h l = false := by simpa using hok
    rw [hok]
    refine AC_enter Try.func48 rfl Try.ntmps48 (rv := [.tmp 2, .tmp 3]) rfl rfl (by simp) (fun w X G => ?_)
    repeat' (first | ((with_reducible refine gA ?_); (first | refine AW_seq ?_ | refine AW_region ?_ | refine AW_regionD Try.mixed ?_ | refine AW_condT rfl ?_ | refine AW_condF rfl ?_ | (refine AW_cond rfl (fun hc => ?_) (fun hc => ?_) <;> try (exfalso; simp only [cmpL] at hc; omega)) | refine AW_ret ?_ | refine AW_skip ?_)) | (first | ((with_reducible refine gS ?_); refine Es_s (T := Try.tab) rfl rfl rfl rfl ?_) | ((with_reducible refine gD ?_); refine Ed_s (T := Try.tab) rfl rfl rfl rfl ?_)) | ((first | ((with_reducible refine gS ?_); apply Es_q) | ((with_reducible refine gD ?_); apply Ed_q)); rfl; (first | rfl | (refine w_tt ?_; assumption) | (refine w_ff ?_; assumption)); (first | refine LStep_simp (T := Try.tab) rfl rfl | (refine LStep_add rfl rfl rfl rfl ?_; (refine IntWalk.i64_in _ ?_; first | omega | (simp only [cmps] at *; omega))) | (refine LStep_mul rfl rfl rfl rfl ?_; (refine IntWalk.i64_in _ ?_; first | omega | (simp only [cmps] at *; omega))) | (refine LStep_pickT rfl rfl ?_ rfl rfl; assumption) | (refine LStep_pickF rfl rfl ?_ rfl rfl; assumption))) | (refine Es_skip rfl ?_ rfl ?_; (first | rfl | (refine w_tf ?_; assumption) | (refine w_ft ?_; assumption))) | (refine Es_split rfl ?_ (fun _ => ?_) (fun _ => ?_); ((fail_if_success (refine und_t ?_; assumption)); (fail_if_success (refine und_f ?_; assumption)); exact trivial)) | (with_reducible refine Es_nil ?_) | ((with_reducible refine Ed_nil ?_ ?_); kernel_rfl) | (with_reducible refine then_n ?_) | (with_reducible refine then_r ?_) | ((with_reducible refine gR ?_); first | refine ret1 rfl ?_ | refine ret2 rfl rfl ?_ | refine ret0 ?_ | refine end1 rfl ?_ | refine end0 ?_))
    all_goals try simp only [cmps] at *
    all_goals first
      | (exfalso; omega)
      | exact ⟨rfl, by (repeat' (first | exact trivial | exact rfl | (refine ⟨Or.inl rfl, ?_⟩) | (refine ⟨Or.inr rfl, ?_⟩) | (refine ⟨Or.inr trivial, ?_⟩) | (refine ⟨rfl, ?_⟩) | (refine ⟨?_, ?_⟩)))⟩
      | exact ⟨trivial, by (repeat' (first | exact trivial | exact rfl | (refine ⟨Or.inl rfl, ?_⟩) | (refine ⟨Or.inr rfl, ?_⟩) | (refine ⟨Or.inr trivial, ?_⟩) | (refine ⟨rfl, ?_⟩) | (refine ⟨?_, ?_⟩)))⟩
      | trace_state
/-! ### money that may not be is not converted -/
set_option maxRecDepth 10000 in
set_option maxHeartbeats 2000000 in
theorem scaleNo_ac (m : Mon) (x : Int × Int) (hm : mMay m = false) : AC Try.prog 60 [mnV m, rtV x, .d (.sc (.int .i64 0))] [] [] (fun r _ => r = scV m.1 none) := by
  have c0 := rounder_ac
  have c1 := mMay_ac m
  rw [hm] at c1
  rw [scV_none]
  unfold mnV rtV at *
  refine AC_enterG Try.tab Try.func60 rfl Try.ntmps60 (rv := [.cell 6 40, .tmp 7]) rfl rfl (by simp) (fun w X G => ?_)
  repeat' (first | ((with_reducible refine gA ?_); (first | refine AW_seq ?_ | refine AW_region ?_ | refine AW_condT rfl ?_ | refine AW_ret ?_)) | ((with_reducible refine gS ?_); refine Es_s (T := Try.tab) rfl rfl rfl rfl ?_) | (((with_reducible refine gS ?_); apply Es_q); rfl; rfl; (first | refine LStep_call (c0) rfl rfl rfl rfl | refine LStep_call (c1) rfl rfl rfl rfl)) | (((with_reducible refine gS ?_); apply Es_q); rfl; rfl; refine LStep_buildN (T := Try.tab) rfl rfl rfl rfl rfl rfl rfl) | (refine Es_skip rfl ?_ rfl ?_; (first | rfl | (refine w_tf ?_; assumption) | (refine w_ft ?_; assumption))) | (((with_reducible refine gS ?_); apply Es_xs); rfl; rfl; (first | refine LStep_boxN rfl rfl rfl rfl rfl rfl | refine LStep_allocN (T := Try.tab) rfl rfl rfl rfl rfl rfl); rfl) | (((with_reducible refine gS ?_); apply Es_xn); rfl; rfl; (refine LStep_storeN (T := Try.tab) rfl rfl rfl rfl rfl rfl rfl ?_ rfl; (refine Nat.le_of_ble_eq_true ?_; rfl)); rfl) | (with_reducible refine Es_nil ?_) | (with_reducible refine then_n ?_) | (with_reducible refine then_r ?_) | ((with_reducible refine gRG ?_); first | refine retGa rfl ?_ | refine retGb rfl ?_ | refine retGc rfl ?_ | refine retG1 rfl rfl ?_ | refine endG1 rfl rfl ?_))
  all_goals try simp only [cmps] at *
  all_goals first
    | rfl
    | (exfalso; omega)
    | trace_state
set_option maxRecDepth 10000 in
set_option maxHeartbeats 2000000 in
theorem convertNo_ac (m : Mon) (to : ByteArray) (x : Int × Int) (hm : mMay m = false) : AC Try.prog 41 [mnV m, .d (.sc (.string to)), rtV x] [] [] (fun r _ => r = cvV to none) := by
  have c1 := scaleNo_ac m x hm
  rw [scV_none] at c1
  rw [cvV_none]
  unfold mnV rtV at *
  refine AC_enterG Try.tab Try.func41 rfl Try.ntmps41 (rv := [.cell 6 40, .cell 7 29, .tmp 8]) rfl rfl (by simp) (fun w X G => ?_)
  repeat' (first | ((with_reducible refine gA ?_); (first | refine AW_seq ?_ | refine AW_region ?_ | refine AW_condT rfl ?_ | refine AW_ret ?_)) | ((with_reducible refine gS ?_); refine Es_s (T := Try.tab) rfl rfl rfl rfl ?_) | (((with_reducible refine gS ?_); apply Es_q); rfl; rfl; refine LStep_call (c1) rfl rfl rfl rfl) | (((with_reducible refine gS ?_); apply Es_q); rfl; rfl; refine LStep_buildN (T := Try.tab) rfl rfl rfl rfl rfl rfl rfl) | (refine Es_skip rfl ?_ rfl ?_; (first | rfl | (refine w_tf ?_; assumption) | (refine w_ft ?_; assumption))) | (((with_reducible refine gS ?_); apply Es_xs); rfl; rfl; (first | refine LStep_boxN rfl rfl rfl rfl rfl rfl | refine LStep_allocN (T := Try.tab) rfl rfl rfl rfl rfl rfl); rfl) | (((with_reducible refine gS ?_); apply Es_xn); rfl; rfl; (refine LStep_storeN (T := Try.tab) rfl rfl rfl rfl rfl rfl rfl ?_ rfl; (refine Nat.le_of_ble_eq_true ?_; rfl)); rfl) | (with_reducible refine Es_nil ?_) | (with_reducible refine then_n ?_) | (with_reducible refine then_r ?_) | ((with_reducible refine gRG ?_); first | refine retGa rfl ?_ | refine retGb rfl ?_ | refine retGc rfl ?_ | refine retG1 rfl rfl ?_ | refine endG1 rfl rfl ?_))
  all_goals try simp only [cmps] at *
  all_goals first
    | rfl
    | (exfalso; omega)
    | trace_state
/-! ### Worth -/
/-- an entry: account, currency, amount -/
abbrev En := ByteArray × ByteArray × Int
def enE (e : En) : List D := [.sc (.string e.1), .sc (.string e.2.1), .sc (.int .i64 e.2.2)]
def wS (l : List RP) (to : ByteArray) (day : Int) (acc : Option Int) (e : En) : Option Int := match acc, cvtR l (e.2.1, e.2.2) to day with
  | some s, some z => some (s + z.1)
  | _, _ => none
def wF (l : List RP) (es : List En) (to : ByteArray) (day : Int) : Option Int := es.foldl (wS l to day) (some 0)
theorem wF_snoc (l : List RP) (es : List En) (e : En) (to : ByteArray) (day : Int) : wF l (es ++ [e]) to day = wS l to day (wF l es to day) e := by unfold wF; rw [List.foldl_append]; rfl
theorem wF_fold_none (l : List RP) (es : List En) (to : ByteArray) (day : Int) : es.foldl (wS l to day) none = none := by
  induction es with
  | nil => rfl
  | cons e es ih => exact ih
theorem wF_none {l : List RP} {es : List En} {to : ByteArray} {day : Int} {k : Nat} (h : wF l (es.take k) to day = none) : wF l es to day = none := by
  unfold wF at *
  conv => lhs; rw [← List.take_append_drop k es]
  rw [List.foldl_append, h, wF_fold_none]
def worthR (l : List RP) (es : List En) (to : ByteArray) (day : Int) : Int × Int := if curOk to = true then match wF l es to day with
    | some s => if -1099511627776 ≤ s ∧ s ≤ 1099511627776 then (s, 0) else (0, 3)
    | none => (0, 4)
  else (0, 1)
def woV (x : Int × Int) : AV := .tup [.d (.sc (.int .i64 x.1)), .d (.sc (.int .i64 x.2))]
theorem worthR_some {l : List RP} {es : List En} {to : ByteArray} {day : Int} (h : curOk to = true) {s : Int} (hs : wF l es to day = some s) : worthR l es to day = if -1099511627776 ≤ s ∧ s ≤ 1099511627776 then (s, 0) else (0, 3) := by unfold worthR; rw [if_pos h, hs]
theorem worthR_none {l : List RP} {es : List En} {to : ByteArray} {day : Int} (h : curOk to = true) (hs : wF l es to day = none) : worthR l es to day = (0, 4) := by unfold worthR; rw [if_pos h, hs]
theorem worthR_no {l : List RP} {es : List En} {to : ByteArray} {day : Int} (h : curOk to = false) : worthR l es to day = (0, 1) := by unfold worthR; rw [if_neg (by rw [h]; decide)]
theorem convR_in {a : Int} {n d : Nat} {z : Int × (Int × Int)} (h : convR a n d = some z) : -1099511627776 ≤ z.1 ∧ z.1 ≤ 1099511627776 := by
  unfold convR scaleR sgn at h
  split at h
  · rename_i hq
    cases h
    dsimp only
    generalize a.natAbs * n / d = q at *
    split <;> omega
  · cases h
theorem cvtR_in {l : List RP} {m : Mon} {to : ByteArray} {day : Int} {z : Int × (Int × Int)} (h : cvtR l m to day = some z) : -1099511627776 ≤ z.1 ∧ z.1 ≤ 1099511627776 := by
  unfold cvtR at h
  split at h
  · split at h
    · exact convR_in h
    · cases h
  · cases h
set_option maxRecDepth 10000 in
set_option maxHeartbeats 8000000 in
theorem rWorth_ac (l : List RP) (es : List En) (to : ByteArray) (day : Int) (hi : RInv l) (hl : l.length ≤ 24) (he : es.length ≤ 30) : AC Try.prog 24 [.d (.sl 5 (l.map rEnc)), .d (.sl 3 (es.map enE)), .d (.sc (.string to)), .d (.sc (.int .i64 day))] [] [] (fun r _ => r = woV (worthR l es to day)) := by
  have c1 := code_ac to
  cases hto : curOk to with
  | false =>
    rw [worthR_no hto]
    rw [hto] at c1
    unfold woV
    refine AC_enter Try.func24 rfl Try.ntmps24 (rv := [.tmp 8, .tmp 9]) rfl rfl (by simp) (fun w X G => ?_)
    repeat' (first | ((with_reducible refine gA ?_); (first | refine AW_seq ?_ | refine AW_region ?_ | refine AW_condT rfl ?_ | refine AW_ret ?_)) | ((with_reducible refine gS ?_); refine Es_s (T := Try.tab) rfl rfl rfl rfl ?_) | (((with_reducible refine gS ?_); apply Es_q); rfl; rfl; refine LStep_call (c1) rfl rfl rfl rfl) | (with_reducible refine Es_nil ?_) | (with_reducible refine then_n ?_) | (with_reducible refine then_r ?_) | ((with_reducible refine gR ?_); first | refine ret1 rfl ?_ | refine ret2 rfl rfl ?_ | refine ret0 ?_ | refine end1 rfl ?_ | refine end0 ?_))
    all_goals try simp only at *
    all_goals first
      | rfl
      | trace_state
  | true =>
    rw [hto] at c1
    have cc := fun m => rConvert_ac l m to day hi hl
    have hsome := fun s => @worthR_some l es to day hto s
    have hnone := @worthR_none l es to day hto
    unfold woV
    refine AC_enter Try.func24 rfl Try.ntmps24 (rv := [.tmp 8, .tmp 9]) rfl rfl (by simp) (fun w X G => ?_)
    repeat' (first | ((with_reducible refine gA ?_); (first | refine AW_seq ?_ | refine AW_region ?_ | refine AW_condF rfl ?_ | refine AW_block ?_ | refine AW_skip ?_)) | ((with_reducible refine gS ?_); refine Es_s (T := Try.tab) rfl rfl rfl rfl ?_) | (((with_reducible refine gS ?_); apply Es_q); rfl; rfl; refine LStep_call (c1) rfl rfl rfl rfl) | (with_reducible refine Es_nil ?_) | (with_reducible refine then_n ?_))
    refine AW_forE (S := Nat × Int) (fun z => z.1 ≤ es.length ∧ wF l (es.take z.1) to day = some z.2 ∧ (-1099511627776 * (z.1 : Int) ≤ z.2 ∧ z.2 ≤ 1099511627776 * (z.1 : Int))) (fun z => [(11, .d (.sc (.int .i64 (z.1 : Nat)))), (10, .d (.sc (.int .i64 z.2)))]) (fun _ => []) (fun z => es.length - z.1) (0, 0) ⟨by omega, rfl, by dsimp only; omega⟩ (by (repeat' (first | exact trivial | exact rfl | (refine ⟨Or.inl rfl, ?_⟩) | (refine ⟨Or.inr rfl, ?_⟩) | (refine ⟨Or.inr trivial, ?_⟩) | (refine ⟨rfl, ?_⟩) | (refine ⟨?_, ?_⟩)))) (by (repeat' (first | exact trivial | exact rfl | (refine ⟨Or.inl rfl, ?_⟩) | (refine ⟨Or.inr rfl, ?_⟩) | (refine ⟨Or.inr trivial, ?_⟩) | (refine ⟨rfl, ?_⟩) | (refine ⟨?_, ?_⟩)))) ?_
    intro ⟨k, s⟩ ⟨hk, hs, hb⟩
    dsimp only at hk hs hb ⊢
    by_cases hlt : k < es.length
    · obtain ⟨e, hx, _⟩ := drop_at hlt
      have hx0 := hx
      have hnx := wF_snoc l (es.take k) e to day
      rw [← take_at hx, hs] at hnx
      have hin := fun z => @cvtR_in l (e.2.1, e.2.2) to day z
      have cce := cc (e.2.1, e.2.2)
      obtain ⟨ea, ec, en⟩ := e
      dsimp only at cce
      unfold wS at hnx
      dsimp only at hnx hin
      have hx' : es[((k : Nat) : Int).toNat]? = some (ea, ec, en) := by rw [Int.toNat_natCast]; exact hx
      cases hz : cvtR l (ec, en) to day with
      | none =>
        rw [hz, cvV_none] at cce
        rw [hz] at hnx
        dsimp only at hnx
        rw [hnone (wF_none hnx)]
        unfold mnV at cce
        repeat' (first | ((with_reducible refine gA ?_); (first | refine AW_seq ?_ | refine AW_region ?_ | refine AW_regionD Try.mixed ?_ | refine AW_condT rfl ?_ | (refine AW_cond rfl (fun hc => ?_) (fun hc => ?_) <;> try (exfalso; simp only [cmpL] at hc; omega)) | refine AW_block ?_ | refine AW_ret ?_ | refine AW_skip ?_)) | (first | ((with_reducible refine gS ?_); refine Es_s (T := Try.tab) rfl rfl rfl rfl ?_) | ((with_reducible refine gD ?_); refine Ed_s (T := Try.tab) rfl rfl rfl rfl ?_)) | ((first | ((with_reducible refine gS ?_); apply Es_q) | ((with_reducible refine gD ?_); apply Ed_q)); rfl; rfl; refine LStep_call (cce) rfl rfl rfl rfl) | ((first | ((with_reducible refine gS ?_); apply Es_q) | ((with_reducible refine gD ?_); apply Ed_q)); rfl; rfl; (first | refine LStep_lenM (T := Try.tab) rfl rfl rfl rfl | (refine LStep_indexM (T := Try.tab) (c := ?_) rfl rfl rfl rfl rfl rfl ?_; rotate_left; assumption) | refine LStep_buildN (T := Try.tab) rfl rfl rfl rfl rfl rfl rfl)) | (refine Ed_skip rfl ?_ rfl ?_; (first | rfl | (refine w_tf ?_; assumption) | (refine w_ft ?_; assumption))) | (((with_reducible refine gD ?_); apply Ed_xs); rfl; rfl; refine LStep_allocN (T := Try.tab) rfl rfl rfl rfl rfl rfl; rfl) | (((with_reducible refine gD ?_); apply Ed_xn); rfl; rfl; (refine LStep_storeN (T := Try.tab) rfl rfl rfl rfl rfl rfl rfl ?_ rfl; (refine Nat.le_of_ble_eq_true ?_; rfl)); rfl) | (with_reducible refine Es_nil ?_) | ((with_reducible refine Ed_nil ?_ ?_); kernel_rfl) | (with_reducible refine then_n ?_) | (with_reducible refine then_r ?_) | (with_reducible refine block_r ?_) | ((with_reducible refine gR ?_); first | refine ret1 rfl ?_ | refine ret2 rfl rfl ?_ | refine ret0 ?_ | refine end1 rfl ?_ | refine end0 ?_))
        all_goals try simp only [cmps] at *
        all_goals first
          | rfl
          | (exfalso; omega)
          | trace_state
      | some z =>
        obtain ⟨z1, z2⟩ := z
        obtain ⟨i1, i2⟩ := hin _ hz
        rw [hz, cvV_some] at cce
        rw [hz] at hnx
        dsimp only at hnx i1 i2
        unfold mnV at cce
        repeat' (first | ((with_reducible refine gA ?_); (first | refine AW_seq ?_ | refine AW_region ?_ | refine AW_regionD Try.mixed ?_ | refine AW_condF rfl ?_ | (refine AW_cond rfl (fun hc => ?_) (fun hc => ?_) <;> try (exfalso; simp only [cmpL] at hc; omega)) | refine AW_block ?_ | refine AW_skip ?_)) | (first | ((with_reducible refine gS ?_); refine Es_s (T := Try.tab) rfl rfl rfl rfl ?_) | ((with_reducible refine gD ?_); refine Ed_s (T := Try.tab) rfl rfl rfl rfl ?_)) | ((first | ((with_reducible refine gS ?_); apply Es_q) | ((with_reducible refine gD ?_); apply Ed_q)); rfl; rfl; refine LStep_call (cce) rfl rfl rfl rfl) | ((first | ((with_reducible refine gS ?_); apply Es_q) | ((with_reducible refine gD ?_); apply Ed_q)); rfl; rfl; (first | refine LStep_lenM (T := Try.tab) rfl rfl rfl rfl | (refine LStep_add rfl rfl rfl rfl ?_; (refine IntWalk.i64_in _ ?_; first | omega | (simp only [cmps] at *; omega))) | (refine LStep_indexM (T := Try.tab) (c := ?_) rfl rfl rfl rfl rfl rfl ?_; rotate_left; assumption) | refine LStep_buildN (T := Try.tab) rfl rfl rfl rfl rfl rfl rfl)) | (refine Ed_skip rfl ?_ rfl ?_; (first | rfl | (refine w_tf ?_; assumption) | (refine w_ft ?_; assumption))) | (((with_reducible refine gD ?_); apply Ed_xs); rfl; rfl; refine LStep_allocN (T := Try.tab) rfl rfl rfl rfl rfl rfl; rfl) | (((with_reducible refine gD ?_); apply Ed_xn); rfl; rfl; (refine LStep_storeN (T := Try.tab) rfl rfl rfl rfl rfl rfl rfl ?_ rfl; (refine Nat.le_of_ble_eq_true ?_; rfl)); rfl) | (with_reducible refine Es_nil ?_) | ((with_reducible refine Ed_nil ?_ ?_); kernel_rfl) | (with_reducible refine then_n ?_) | (with_reducible refine block_n ?_))
        all_goals try simp only [cmps] at *
        all_goals first
          | (exfalso; omega)
          | (refine ⟨(k + 1, s + z1), ?_, by omega, by (repeat' (first | exact trivial | exact rfl | (refine ⟨Or.inl rfl, ?_⟩) | (refine ⟨Or.inr rfl, ?_⟩) | (refine ⟨Or.inr trivial, ?_⟩) | (refine ⟨rfl, ?_⟩) | (refine ⟨?_, ?_⟩))), by (repeat' (first | exact trivial | exact rfl | (refine ⟨Or.inl rfl, ?_⟩) | (refine ⟨Or.inr rfl, ?_⟩) | (refine ⟨Or.inr trivial, ?_⟩) | (refine ⟨rfl, ?_⟩) | (refine ⟨?_, ?_⟩))), by (repeat' (first | exact trivial | exact rfl | (refine ⟨Or.inl rfl, ?_⟩) | (refine ⟨Or.inr rfl, ?_⟩) | (refine ⟨Or.inr trivial, ?_⟩) | (refine ⟨rfl, ?_⟩) | (refine ⟨?_, ?_⟩))), by (repeat' (first | exact trivial | exact rfl | (refine ⟨Or.inl rfl, ?_⟩) | (refine ⟨Or.inr rfl, ?_⟩) | (refine ⟨Or.inr trivial, ?_⟩) | (refine ⟨rfl, ?_⟩) | (refine ⟨?_, ?_⟩)))⟩; exact ⟨by omega, hnx, by dsimp only; omega, by dsimp only; omega⟩)
          | trace_state
    · have hkl : k = es.length := by omega
      subst hkl
      rw [List.take_length] at hs
      rw [hsome s hs]
      by_cases hfit : -1099511627776 ≤ s ∧ s ≤ 1099511627776
      · rw [if_pos hfit]
        repeat' (first | ((with_reducible refine gA ?_); (first | refine AW_seq ?_ | refine AW_region ?_ | refine AW_condT rfl ?_ | (refine AW_cond rfl (fun hc => ?_) (fun hc => ?_) <;> try (exfalso; simp only [cmpL] at hc; omega)) | refine AW_ret ?_ | refine AW_skip ?_ | refine AW_exit ?_)) | ((with_reducible refine gS ?_); refine Es_s (T := Try.tab) rfl rfl rfl rfl ?_) | (((with_reducible refine gS ?_); apply Es_q); rfl; (first | rfl | (refine w_ff ?_; assumption)); (first | refine LStep_simp (T := Try.tab) rfl rfl | refine LStep_lenM (T := Try.tab) rfl rfl rfl rfl | (refine LStep_pickT rfl rfl ?_ rfl rfl; assumption) | (refine LStep_pickF rfl rfl ?_ rfl rfl; assumption))) | (refine Es_skip rfl ?_ rfl ?_; (first | rfl | (refine w_tf ?_; assumption) | (refine w_ft ?_; assumption))) | (refine Es_split rfl ?_ (fun _ => ?_) (fun _ => ?_); ((fail_if_success (refine und_t ?_; assumption)); (fail_if_success (refine und_f ?_; assumption)); exact trivial)) | (with_reducible refine Es_nil ?_) | (with_reducible refine then_n ?_) | (with_reducible refine then_r ?_) | (with_reducible refine then_e ?_) | ((with_reducible refine block_e ?_ ?_); rfl) | ((with_reducible refine gR ?_); first | refine ret1 rfl ?_ | refine ret2 rfl rfl ?_ | refine ret0 ?_ | refine end1 rfl ?_ | refine end0 ?_))
        all_goals try simp only [cmps] at *
        all_goals first
          | rfl
          | (exfalso; omega)
          | trace_state
      · rw [if_neg hfit]
        repeat' (first | ((with_reducible refine gA ?_); (first | refine AW_seq ?_ | refine AW_region ?_ | refine AW_condT rfl ?_ | (refine AW_cond rfl (fun hc => ?_) (fun hc => ?_) <;> try (exfalso; simp only [cmpL] at hc; omega)) | refine AW_ret ?_ | refine AW_skip ?_ | refine AW_exit ?_)) | ((with_reducible refine gS ?_); refine Es_s (T := Try.tab) rfl rfl rfl rfl ?_) | (((with_reducible refine gS ?_); apply Es_q); rfl; (first | rfl | (refine w_ff ?_; assumption)); (first | refine LStep_simp (T := Try.tab) rfl rfl | refine LStep_lenM (T := Try.tab) rfl rfl rfl rfl | (refine LStep_pickT rfl rfl ?_ rfl rfl; assumption) | (refine LStep_pickF rfl rfl ?_ rfl rfl; assumption))) | (refine Es_skip rfl ?_ rfl ?_; (first | rfl | (refine w_tf ?_; assumption) | (refine w_ft ?_; assumption))) | (refine Es_split rfl ?_ (fun _ => ?_) (fun _ => ?_); ((fail_if_success (refine und_t ?_; assumption)); (fail_if_success (refine und_f ?_; assumption)); exact trivial)) | (with_reducible refine Es_nil ?_) | (with_reducible refine then_n ?_) | (with_reducible refine then_r ?_) | (with_reducible refine then_e ?_) | ((with_reducible refine block_e ?_ ?_); rfl) | ((with_reducible refine gR ?_); first | refine ret1 rfl ?_ | refine ret2 rfl rfl ?_ | refine ret0 ?_ | refine end1 rfl ?_ | refine end0 ?_))
        all_goals try simp only [cmps] at *
        all_goals first
          | rfl
          | (exfalso; omega)
          | trace_state
end Go.Proofs.Ytnalpielhpmnfaa
namespace Go.Proofs.Ytnalpielhpmnfaa
open Go.SL
set_option maxRecDepth 10000 in
set_option maxHeartbeats 16000000 in
theorem worth_ac (l : List RP) (es : List En) (to : ByteArray) (day : Int) (hi : RInv l) (hl : l.length ≤ 24) (he : es.length ≤ 30) : AC Try.prog 23 [.ptr 1000 0, .d (.sl 3 (es.map enE)), .d (.sc (.string to)), .d (.sc (.int .i64 day))] (hR l) [1000, 1001]
    (fun r h' => r = woV (worthR l es to day) ∧ SubH (hR l) h') := by
  have c1 := isCurrency_ac to
  have c2 := isDay_ac day
  cases hto : curOk to with
  | false =>
    rw [worthR_no hto]
    rw [hto] at c1
    unfold woV hR
    refine AC_enter Try.func23 rfl Try.ntmps23 (rv := [.tmp 8, .tmp 9]) rfl rfl (by simp) (fun w X G => ?_)
    repeat' (first | ((with_reducible refine gA ?_); (first | refine AW_seq ?_ | refine AW_region ?_ | refine AW_condT rfl ?_ | refine AW_ret ?_)) | ((with_reducible refine gS ?_); refine Es_s (T := Try.tab) rfl rfl rfl rfl ?_) | (((with_reducible refine gS ?_); apply Es_q); rfl; rfl; refine LStep_call (c1) rfl rfl rfl rfl) | (with_reducible refine Es_nil ?_) | (with_reducible refine then_n ?_) | (with_reducible refine then_r ?_) | ((with_reducible refine gR ?_); first | refine ret1 rfl ?_ | refine ret2 rfl rfl ?_ | refine ret0 ?_ | refine end1 rfl ?_ | refine end0 ?_))
    all_goals try simp only at *
    all_goals first
      | exact ⟨rfl, by (repeat' (first | exact trivial | exact rfl | (refine ⟨Or.inl rfl, ?_⟩) | (refine ⟨Or.inr rfl, ?_⟩) | (refine ⟨Or.inr trivial, ?_⟩) | (refine ⟨rfl, ?_⟩) | (refine ⟨?_, ?_⟩)))⟩
      | exact ⟨trivial, by (repeat' (first | exact trivial | exact rfl | (refine ⟨Or.inl rfl, ?_⟩) | (refine ⟨Or.inr rfl, ?_⟩) | (refine ⟨Or.inr trivial, ?_⟩) | (refine ⟨rfl, ?_⟩) | (refine ⟨?_, ?_⟩)))⟩
      | trace_state
  | true =>
    rw [hto] at c1
    have hsome := fun s => @worthR_some l es to day hto s
    have hnone := @worthR_none l es to day hto
    have cch := chart_ac l day hi.nd (by omega)
    have ccr := fun c => cross_ac l day c to (by omega) hi
    have cadd := tadd_ac
    have cval := tval_ac
    by_cases hem : es = []
    · subst hem
      rw [hsome 0 rfl, if_pos (by omega)]
      have cvl := cval 0 0 (by omega) (by omega)
      rw [show tOk 0 0 = true from rfl, if_pos rfl] at cvl
      have g0 : ltb 0 (((([] : List En).map enE).length : Nat) : Int) = false := by rw [ltb_f]; exact Int.le_refl 0
      clear cadd cval ccr hsome hnone
      unfold woV hR tHp at *
      refine AC_enter Try.func23 rfl Try.ntmps23 (rv := [.tmp 8, .tmp 9]) rfl rfl (by simp) (fun w X G => ?_)
      repeat' (first | ((with_reducible refine gA ?_); (first | refine AW_seq ?_ | refine AW_region ?_ | refine AW_condF rfl ?_ | refine AW_block ?_ | refine AW_skip ?_)) | ((with_reducible refine gS ?_); refine Es_s (T := Try.tab) rfl rfl rfl rfl ?_) | (((with_reducible refine gS ?_); apply Es_q); rfl; rfl; refine LStep_call (c1) rfl rfl rfl rfl) | (((with_reducible refine gS ?_); apply Es_xs); rfl; rfl; refine lstep_makeMapT (T := Try.tab) rfl rfl rfl rfl rfl; rfl) | (((with_reducible refine gS ?_); apply Es_xg); rfl; rfl; refine LStep_callHN [(1000, 1000), (1001, 1001)] [(14, 34), (15, 3401)] cch rfl rfl ⟨rfl, rfl, trivial⟩ rfl ⟨trivial, trivial, trivial⟩ rfl rfl; rfl) | (((with_reducible refine gS ?_); apply Es_q); rfl; rfl; (first | refine LStep_lenM (T := Try.tab) rfl rfl rfl rfl | (refine LStep_pickF rfl rfl ?_ rfl rfl; assumption))) | (refine Es_skip rfl ?_ rfl ?_; (first | rfl | (refine w_tf ?_; assumption) | (refine w_ft ?_; assumption))) | (((with_reducible refine gS ?_); apply Es_xs); rfl; rfl; refine LStep_allocN (T := Try.tab) rfl rfl rfl rfl rfl rfl; rfl) | (((with_reducible refine gS ?_); apply Es_xn); rfl; rfl; (refine LStep_storeN (T := Try.tab) rfl rfl rfl rfl rfl rfl rfl ?_ rfl; (refine Nat.le_of_ble_eq_true ?_; rfl)); rfl) | (with_reducible refine Es_nil ?_) | (with_reducible refine then_n ?_))
      refine AW_forE (S := Unit) (fun _ => True) (fun _ => []) (fun _ => []) (fun _ => 0) () trivial (by (repeat' (first | exact trivial | exact rfl | (refine ⟨Or.inl rfl, ?_⟩) | (refine ⟨Or.inr rfl, ?_⟩) | (refine ⟨Or.inr trivial, ?_⟩) | (refine ⟨rfl, ?_⟩) | (refine ⟨?_, ?_⟩)))) (by (repeat' (first | exact trivial | exact rfl | (refine ⟨Or.inl rfl, ?_⟩) | (refine ⟨Or.inr rfl, ?_⟩) | (refine ⟨Or.inr trivial, ?_⟩) | (refine ⟨rfl, ?_⟩) | (refine ⟨?_, ?_⟩)))) ?_
      intro _ _
      repeat' (first | ((with_reducible refine gA ?_); (first | refine AW_seq ?_ | refine AW_region ?_ | refine AW_condF rfl ?_ | (refine AW_condN rfl ?_ ?_; assumption) | refine AW_ret ?_ | refine AW_skip ?_ | refine AW_exit ?_)) | ((with_reducible refine gS ?_); refine Es_s (T := Try.tab) rfl rfl rfl rfl ?_) | (((with_reducible refine gS ?_); apply Es_xg); rfl; rfl; refine LStep_callHN [(1000, 12)] [] cvl rfl rfl ⟨rfl, trivial⟩ rfl ⟨trivial, trivial⟩ rfl rfl; rfl) | (with_reducible refine Es_nil ?_) | (with_reducible refine then_n ?_) | (with_reducible refine then_e ?_) | ((with_reducible refine block_e ?_ ?_); rfl) | ((with_reducible refine gR ?_); first | refine ret1 rfl ?_ | refine ret2 rfl rfl ?_ | refine ret0 ?_ | refine end1 rfl ?_ | refine end0 ?_))
      all_goals try simp only [cmps] at *
      all_goals first
        | exact ⟨rfl, by (repeat' (first | exact trivial | exact rfl | (refine ⟨Or.inl rfl, ?_⟩) | (refine ⟨Or.inr rfl, ?_⟩) | (refine ⟨Or.inr trivial, ?_⟩) | (refine ⟨rfl, ?_⟩) | (refine ⟨?_, ?_⟩)))⟩
        | exact ⟨trivial, by (repeat' (first | exact trivial | exact rfl | (refine ⟨Or.inl rfl, ?_⟩) | (refine ⟨Or.inr rfl, ?_⟩) | (refine ⟨Or.inr trivial, ?_⟩) | (refine ⟨rfl, ?_⟩) | (refine ⟨?_, ?_⟩)))⟩
        | trace_state
    have hl0 : 0 < es.length := List.length_pos_iff.2 hem
    have g0 : ltb 0 ((es.length : Nat) : Int) = true := by rw [ltb_t]; omega
    cases hd : dayOk day with
    | true =>
      rw [hd] at c2
      have hdd : ∀ c, crossD l c to day = crossR l c to day := fun c => by unfold crossD; rw [if_pos hd]
      unfold woV hR hCh tHp at *
      refine AC_enter Try.func23 rfl Try.ntmps23 (rv := [.tmp 8, .tmp 9]) rfl rfl (by simp) (fun w X G => ?_)
      repeat' (first | ((with_reducible refine gA ?_); (first | refine AW_seq ?_ | refine AW_region ?_ | refine AW_condF rfl ?_ | refine AW_block ?_ | refine AW_skip ?_)) | ((with_reducible refine gS ?_); refine Es_s (T := Try.tab) rfl rfl rfl rfl ?_) | (((with_reducible refine gS ?_); apply Es_q); rfl; (first | rfl | (refine w_tt ?_; assumption)); (first | refine LStep_call (c1) rfl rfl rfl rfl | refine LStep_call (c2) rfl rfl rfl rfl)) | (((with_reducible refine gS ?_); apply Es_xs); rfl; (first | rfl | (refine w_tt ?_; assumption)); refine lstep_makeMapT (T := Try.tab) rfl rfl rfl rfl rfl; rfl) | (((with_reducible refine gS ?_); apply Es_xg); rfl; (first | rfl | (refine w_tt ?_; assumption)); refine LStep_callHN [(1000, 1000), (1001, 1001)] [(14, 34), (15, 3401)] cch rfl rfl ⟨rfl, rfl, trivial⟩ rfl ⟨trivial, trivial, trivial⟩ rfl rfl; rfl) | (((with_reducible refine gS ?_); apply Es_q); rfl; (first | rfl | (refine w_tt ?_; assumption)); (first | refine LStep_simp (T := Try.tab) rfl rfl | refine LStep_lenM (T := Try.tab) rfl rfl rfl rfl | (refine LStep_pickT rfl rfl ?_ rfl rfl; assumption))) | (refine Es_skip rfl ?_ rfl ?_; (first | rfl | (refine w_tf ?_; assumption) | (refine w_ft ?_; assumption))) | (((with_reducible refine gS ?_); apply Es_xs); rfl; rfl; refine LStep_allocN (T := Try.tab) rfl rfl rfl rfl rfl rfl; rfl) | (((with_reducible refine gS ?_); apply Es_xn); rfl; rfl; (refine LStep_storeN (T := Try.tab) rfl rfl rfl rfl rfl rfl rfl ?_ rfl; (refine Nat.le_of_ble_eq_true ?_; rfl)); rfl) | (with_reducible refine Es_nil ?_) | (with_reducible refine then_n ?_))
      clear g0
      refine AW_forE (S := Nat × List (ByteArray × (Int × Int)) × Int × Int) (fun z => z.1 ≤ es.length ∧ z.2.1.length ≤ z.1 ∧ (∀ p ∈ z.2.1, ∃ r, crossR l p.1 to day = some (p.2, r)) ∧ wF l (es.take z.1) to day = some (z.2.2.1 * 1099511627776 + z.2.2.2) ∧ (0 ≤ z.2.2.2 ∧ z.2.2.2 < 1099511627776) ∧ -1099511627776 * (z.1 : Int) ≤ z.2.2.1 * 1099511627776 + z.2.2.2 ∧ z.2.2.1 * 1099511627776 + z.2.2.2 ≤ 1099511627776 * (z.1 : Int)) (fun z => [(38, .d (.sc (.int .i64 (z.1 : Nat))))]) (fun z => [(35, some (.map 9 29 (emap sV rtV z.2.1) none)), (12, some (.cells [.d (.sc (.int .i64 z.2.2.1)), .d (.sc (.int .i64 z.2.2.2))]))]) (fun z => es.length - z.1) (0, [], 0, 0) ⟨by omega, by simp, fun p hp => (by cases hp), rfl, by dsimp only; omega, by dsimp only; omega, by dsimp only; omega⟩ (by (repeat' (first | exact trivial | exact rfl | (refine ⟨Or.inl rfl, ?_⟩) | (refine ⟨Or.inr rfl, ?_⟩) | (refine ⟨Or.inr trivial, ?_⟩) | (refine ⟨rfl, ?_⟩) | (refine ⟨?_, ?_⟩)))) (by (repeat' (first | exact trivial | exact rfl | (refine ⟨Or.inl rfl, ?_⟩) | (refine ⟨Or.inr rfl, ?_⟩) | (refine ⟨Or.inr trivial, ?_⟩) | (refine ⟨rfl, ?_⟩) | (refine ⟨?_, ?_⟩)))) ?_
      intro ⟨k, X, h, lo⟩ ⟨hk, hXl, hX, hw, hlo, hb1, hb2⟩
      dsimp only at hk hXl hX hw hlo hb1 hb2 ⊢
      by_cases hlt : k < es.length
      · obtain ⟨e, hx, _⟩ := drop_at hlt
        have hnx := wF_snoc l (es.take k) e to day
        rw [← take_at hx, hw] at hnx
        have hin := fun z => @cvtR_in l (e.2.1, e.2.2) to day z
        have cce := ccr e.2.1
        obtain ⟨ea, ec, en⟩ := e
        dsimp only at cce hin
        unfold wS at hnx
        dsimp only at hnx
        have hml := st_keys (cv := rtV) X
        have hcd := hdd ec
        have hput := fun x => mput_emap (cv := rtV) sV_keq ec x X
        cases hcr : crossR l ec to day with
        | none =>
          have hz : cvtR l (ec, en) to day = none := by
            unfold cvtR
            dsimp only
            rw [hcd, hcr]
            split <;> rfl
          rw [hz] at hnx
          rw [hnone (wF_none hnx)]
          have hget : aget ec X = none := by
            cases hq : aget ec X with
            | none => rfl
            | some x =>
              obtain ⟨r, hr⟩ := hX _ (aget_mem hq)
              rw [hcr] at hr
              cases hr
          have hf := mget_no (cv := rtV) sV_keq hget
          rw [hcr, crV_none] at cce
          repeat' (first | ((with_reducible refine gA ?_); (first | refine AW_seq ?_ | refine AW_region ?_ | refine AW_condT rfl ?_ | (refine AW_cond rfl (fun hc => ?_) (fun hc => ?_) <;> try (exfalso; simp only [cmpL] at hc; omega)) | refine AW_block ?_ | refine AW_ret ?_ | refine AW_skip ?_)) | ((with_reducible refine gS ?_); refine Es_s (T := Try.tab) rfl rfl rfl rfl ?_) | (((with_reducible refine gS ?_); apply Es_q); rfl; rfl; refine LStep_lookupNoZ (T := Try.tab) rfl rfl rfl rfl rfl rfl rfl rfl rfl rfl hml hf) | (((with_reducible refine gS ?_); apply Es_xg); rfl; rfl; refine LStep_callHN [(1000, 34), (1001, 3401)] [] cce rfl rfl ⟨rfl, rfl, trivial⟩ rfl ⟨trivial, trivial, trivial⟩ rfl rfl; rfl) | (((with_reducible refine gS ?_); apply Es_q); rfl; rfl; (refine LStep_indexM (T := Try.tab) (c := ?_) rfl rfl rfl rfl rfl rfl ?_; rotate_left; assumption)) | (refine Es_skip rfl ?_ rfl ?_; (first | rfl | (refine w_tf ?_; assumption) | (refine w_ft ?_; assumption))) | (((with_reducible refine gS ?_); apply Es_xs); rfl; rfl; refine LStep_allocN (T := Try.tab) rfl rfl rfl rfl rfl rfl; rfl) | (((with_reducible refine gS ?_); apply Es_xn); rfl; rfl; (refine LStep_storeN (T := Try.tab) rfl rfl rfl rfl rfl rfl rfl ?_ rfl; (refine Nat.le_of_ble_eq_true ?_; rfl)); rfl) | (with_reducible refine Es_nil ?_) | (with_reducible refine then_n ?_) | (with_reducible refine then_r ?_) | (with_reducible refine block_r ?_) | ((with_reducible refine gR ?_); first | refine ret1 rfl ?_ | refine ret2 rfl rfl ?_ | refine ret0 ?_ | refine end1 rfl ?_ | refine end0 ?_))
          all_goals try simp only [cmps] at *
          all_goals first
            | (exfalso; omega)
            | exact ⟨rfl, by (repeat' (first | exact trivial | exact rfl | (refine ⟨Or.inl rfl, ?_⟩) | (refine ⟨Or.inr rfl, ?_⟩) | (refine ⟨Or.inr trivial, ?_⟩) | (refine ⟨rfl, ?_⟩) | (refine ⟨?_, ?_⟩)))⟩
            | exact ⟨trivial, by (repeat' (first | exact trivial | exact rfl | (refine ⟨Or.inl rfl, ?_⟩) | (refine ⟨Or.inr rfl, ?_⟩) | (refine ⟨Or.inr trivial, ?_⟩) | (refine ⟨rfl, ?_⟩) | (refine ⟨?_, ?_⟩)))⟩
            | trace_state
        | some y =>
          obtain ⟨x, r⟩ := y
          obtain ⟨n, d, rfl, n1, n2, d1, d2⟩ := crossR_in hi hcr
          have hz : cvtR l (ec, en) to day = if mMay (ec, en) = true then convR en n d else none := by
            unfold cvtR
            dsimp only
            rw [hcd, hcr]
            rfl
          have ccv : AC Try.prog 41 [mnV (ec, en), .d (.sc (.string to)), rtV ((n : Int), (d : Int))] [] [] (fun r _ => r = cvV to (cvtR l (ec, en) to day)) := by
            rw [hz]
            cases hm : mMay (ec, en) with
            | true => rw [if_pos rfl]; exact convert_ac (ec, en) to n d hm (by omega) d1 (by omega)
            | false => rw [if_neg (by decide)]; exact convertNo_ac (ec, en) to _ hm
          clear hz
          rw [hcr, crV_some] at cce
          dsimp only at cce
          have hXp : aget ec X = none → ∀ p ∈ aput ec ((n : Int), (d : Int)) X, ∃ r, crossR l p.1 to day = some (p.2, r) := fun hg p hp => by
            rw [aput_new hg] at hp
            rcases List.mem_append.1 hp with q | q
            · exact hX p q
            · rw [List.mem_singleton.1 q]; exact ⟨r, hcr⟩
          have hXn : aget ec X = none → (aput ec ((n : Int), (d : Int)) X).length ≤ k + 1 := fun hg => by rw [aput_new hg, List.length_append]; simp only [List.length_cons, List.length_nil]; omega
          cases hcz : cvtR l (ec, en) to day with
          | none =>
            rw [hcz] at hnx
            rw [hcz, cvV_none] at ccv
            rw [hnone (wF_none hnx)]
            unfold mnV rtV at ccv
            dsimp only at ccv
            cases hget : aget ec X with
            | none =>
              have hf := mget_no (cv := rtV) sV_keq hget
              repeat' (first | ((with_reducible refine gA ?_); (first | refine AW_seq ?_ | refine AW_region ?_ | refine AW_condT rfl ?_ | refine AW_condF rfl ?_ | (refine AW_cond rfl (fun hc => ?_) (fun hc => ?_) <;> try (exfalso; simp only [cmpL] at hc; omega)) | refine AW_block ?_ | refine AW_ret ?_ | refine AW_skip ?_)) | ((with_reducible refine gS ?_); refine Es_s (T := Try.tab) rfl rfl rfl rfl ?_) | (((with_reducible refine gS ?_); apply Es_q); rfl; rfl; (first | refine LStep_lookupNoZ (T := Try.tab) rfl rfl rfl rfl rfl rfl rfl rfl rfl rfl hml hf | refine LStep_call (ccv) rfl rfl rfl rfl)) | (((with_reducible refine gS ?_); apply Es_xn); rfl; rfl; refine LStep_mapUpdate (T := Try.tab) rfl rfl rfl rfl rfl rfl rfl rfl rfl hml rfl; rfl) | (((with_reducible refine gS ?_); apply Es_xg); rfl; rfl; refine LStep_callHN [(1000, 34), (1001, 3401)] [] cce rfl rfl ⟨rfl, rfl, trivial⟩ rfl ⟨trivial, trivial, trivial⟩ rfl rfl; rfl) | (((with_reducible refine gS ?_); apply Es_q); rfl; rfl; (first | (refine LStep_indexM (T := Try.tab) (c := ?_) rfl rfl rfl rfl rfl rfl ?_; rotate_left; assumption) | refine LStep_buildN (T := Try.tab) rfl rfl rfl rfl rfl rfl rfl)) | (refine Es_skip rfl ?_ rfl ?_; (first | rfl | (refine w_tf ?_; assumption) | (refine w_ft ?_; assumption))) | (((with_reducible refine gS ?_); apply Es_xs); rfl; rfl; refine LStep_allocN (T := Try.tab) rfl rfl rfl rfl rfl rfl; rfl) | (((with_reducible refine gS ?_); apply Es_xn); rfl; rfl; (refine LStep_storeN (T := Try.tab) rfl rfl rfl rfl rfl rfl rfl ?_ rfl; (refine Nat.le_of_ble_eq_true ?_; rfl)); rfl) | (with_reducible refine Es_nil ?_) | (with_reducible refine then_n ?_) | (with_reducible refine then_r ?_) | (with_reducible refine block_r ?_) | ((with_reducible refine gR ?_); first | refine ret1 rfl ?_ | refine ret2 rfl rfl ?_ | refine ret0 ?_ | refine end1 rfl ?_ | refine end0 ?_))
              all_goals try simp only [cmps] at *
              all_goals first
                | (exfalso; omega)
                | exact ⟨rfl, by (repeat' (first | exact trivial | exact rfl | (refine ⟨Or.inl rfl, ?_⟩) | (refine ⟨Or.inr rfl, ?_⟩) | (refine ⟨Or.inr trivial, ?_⟩) | (refine ⟨rfl, ?_⟩) | (refine ⟨?_, ?_⟩)))⟩
                | exact ⟨trivial, by (repeat' (first | exact trivial | exact rfl | (refine ⟨Or.inl rfl, ?_⟩) | (refine ⟨Or.inr rfl, ?_⟩) | (refine ⟨Or.inr trivial, ?_⟩) | (refine ⟨rfl, ?_⟩) | (refine ⟨?_, ?_⟩)))⟩
                | trace_state
            | some x' =>
              obtain ⟨r', hr'⟩ := hX _ (aget_mem hget)
              rw [hcr] at hr'
              cases hr'
              have hf := mget_some (cv := rtV) sV_keq hget
              repeat' (first | ((with_reducible refine gA ?_); (first | refine AW_seq ?_ | refine AW_region ?_ | refine AW_condT rfl ?_ | refine AW_condF rfl ?_ | (refine AW_cond rfl (fun hc => ?_) (fun hc => ?_) <;> try (exfalso; simp only [cmpL] at hc; omega)) | refine AW_block ?_ | refine AW_ret ?_ | refine AW_skip ?_)) | ((with_reducible refine gS ?_); refine Es_s (T := Try.tab) rfl rfl rfl rfl ?_) | (((with_reducible refine gS ?_); apply Es_q); rfl; rfl; (first | refine LStep_lookupOk (T := Try.tab) rfl rfl rfl rfl rfl rfl rfl rfl hml hf | refine LStep_call (ccv) rfl rfl rfl rfl)) | (((with_reducible refine gS ?_); apply Es_q); rfl; rfl; (first | (refine LStep_indexM (T := Try.tab) (c := ?_) rfl rfl rfl rfl rfl rfl ?_; rotate_left; assumption) | refine LStep_buildN (T := Try.tab) rfl rfl rfl rfl rfl rfl rfl)) | (refine Es_skip rfl ?_ rfl ?_; (first | rfl | (refine w_tf ?_; assumption) | (refine w_ft ?_; assumption))) | (((with_reducible refine gS ?_); apply Es_xs); rfl; rfl; refine LStep_allocN (T := Try.tab) rfl rfl rfl rfl rfl rfl; rfl) | (((with_reducible refine gS ?_); apply Es_xn); rfl; rfl; (refine LStep_storeN (T := Try.tab) rfl rfl rfl rfl rfl rfl rfl ?_ rfl; (refine Nat.le_of_ble_eq_true ?_; rfl)); rfl) | (with_reducible refine Es_nil ?_) | (with_reducible refine then_n ?_) | (with_reducible refine then_r ?_) | (with_reducible refine block_r ?_) | ((with_reducible refine gR ?_); first | refine ret1 rfl ?_ | refine ret2 rfl rfl ?_ | refine ret0 ?_ | refine end1 rfl ?_ | refine end0 ?_))
              all_goals try simp only [cmps] at *
              all_goals first
                | (exfalso; omega)
                | exact ⟨rfl, by (repeat' (first | exact trivial | exact rfl | (refine ⟨Or.inl rfl, ?_⟩) | (refine ⟨Or.inr rfl, ?_⟩) | (refine ⟨Or.inr trivial, ?_⟩) | (refine ⟨rfl, ?_⟩) | (refine ⟨?_, ?_⟩)))⟩
                | exact ⟨trivial, by (repeat' (first | exact trivial | exact rfl | (refine ⟨Or.inl rfl, ?_⟩) | (refine ⟨Or.inr rfl, ?_⟩) | (refine ⟨Or.inr trivial, ?_⟩) | (refine ⟨rfl, ?_⟩) | (refine ⟨?_, ?_⟩)))⟩
                | trace_state
          | some z =>
            obtain ⟨z1, z2⟩ := z
            obtain ⟨i1, i2⟩ := hin _ hcz
            rw [hcz] at hnx
            rw [hcz, cvV_some] at ccv
            dsimp only at hnx i1 i2
            have cad := cadd h lo z1 (by omega) hlo ⟨i1, i2⟩
            have hts := tot_step h lo z1
            have htl : 0 ≤ tL lo z1 ∧ tL lo z1 < 1099511627776 := by unfold tL; omega
            rw [show h * 1099511627776 + lo + z1 = tH h lo z1 * 1099511627776 + tL lo z1 from hts.symm] at hnx
            generalize tH h lo z1 = h' at *
            generalize tL lo z1 = lo' at *
            unfold mnV rtV at ccv
            dsimp only at ccv
            cases hget : aget ec X with
            | none =>
              have hf := mget_no (cv := rtV) sV_keq hget
              have hXp' := hXp hget
              have hXn' := hXn hget
              have hput' := hput ((n : Int), (d : Int))
              repeat' (first | ((with_reducible refine gA ?_); (first | refine AW_seq ?_ | refine AW_region ?_ | refine AW_condT rfl ?_ | refine AW_condF rfl ?_ | (refine AW_cond rfl (fun hc => ?_) (fun hc => ?_) <;> try (exfalso; simp only [cmpL] at hc; omega)) | refine AW_block ?_ | refine AW_skip ?_)) | ((with_reducible refine gS ?_); refine Es_s (T := Try.tab) rfl rfl rfl rfl ?_) | (((with_reducible refine gS ?_); apply Es_q); rfl; rfl; (first | refine LStep_lookupNoZ (T := Try.tab) rfl rfl rfl rfl rfl rfl rfl rfl rfl rfl hml hf | refine LStep_call (ccv) rfl rfl rfl rfl)) | (((with_reducible refine gS ?_); apply Es_xn); rfl; rfl; refine LStep_mapUpdate (T := Try.tab) rfl rfl rfl rfl rfl rfl rfl rfl rfl hml rfl; rfl) | (((with_reducible refine gS ?_); apply Es_xg); rfl; rfl; (first | refine LStep_callHN [(1000, 34), (1001, 3401)] [] cce rfl rfl ⟨rfl, rfl, trivial⟩ rfl ⟨trivial, trivial, trivial⟩ rfl rfl | refine LStep_callHN [(1000, 12)] [] cad rfl rfl ⟨rfl, trivial⟩ rfl ⟨trivial, trivial⟩ rfl rfl); rfl) | (((with_reducible refine gS ?_); apply Es_q); rfl; rfl; (first | (refine LStep_add rfl rfl rfl rfl ?_; (refine IntWalk.i64_in _ ?_; first | omega | (simp only [cmps] at *; omega))) | (refine LStep_indexM (T := Try.tab) (c := ?_) rfl rfl rfl rfl rfl rfl ?_; rotate_left; assumption) | refine LStep_buildN (T := Try.tab) rfl rfl rfl rfl rfl rfl rfl)) | (refine Es_skip rfl ?_ rfl ?_; (first | rfl | (refine w_tf ?_; assumption) | (refine w_ft ?_; assumption))) | (((with_reducible refine gS ?_); apply Es_xs); rfl; rfl; refine LStep_allocN (T := Try.tab) rfl rfl rfl rfl rfl rfl; rfl) | (((with_reducible refine gS ?_); apply Es_xn); rfl; rfl; (refine LStep_storeN (T := Try.tab) rfl rfl rfl rfl rfl rfl rfl ?_ rfl; (refine Nat.le_of_ble_eq_true ?_; rfl)); rfl) | (with_reducible refine Es_nil ?_) | (with_reducible refine then_n ?_) | (with_reducible refine block_n ?_))
              all_goals try simp only [cmps] at *
              all_goals first
                | (exfalso; omega)
                | (refine ⟨(k + 1, aput ec ((n : Int), (d : Int)) X, h', lo'), ⟨by omega, hXn', hXp', hnx, htl, by dsimp only; omega, by dsimp only; omega⟩, by omega, by (repeat' (first | exact trivial | exact rfl | (refine ⟨Or.inl rfl, ?_⟩) | (refine ⟨Or.inr rfl, ?_⟩) | (refine ⟨Or.inr trivial, ?_⟩) | (refine ⟨rfl, ?_⟩) | (refine ⟨?_, ?_⟩))), by (repeat' (first | exact trivial | exact rfl | (refine ⟨Or.inl rfl, ?_⟩) | (refine ⟨Or.inr rfl, ?_⟩) | (refine ⟨Or.inr trivial, ?_⟩) | (refine ⟨rfl, ?_⟩) | (refine ⟨?_, ?_⟩))), ?_, by (repeat' (first | exact trivial | exact rfl | (refine ⟨Or.inl rfl, ?_⟩) | (refine ⟨Or.inr rfl, ?_⟩) | (refine ⟨Or.inr trivial, ?_⟩) | (refine ⟨rfl, ?_⟩) | (refine ⟨?_, ?_⟩)))⟩; dsimp only; rw [← hput']; (repeat' (first | exact trivial | exact rfl | (refine ⟨Or.inl rfl, ?_⟩) | (refine ⟨Or.inr rfl, ?_⟩) | (refine ⟨Or.inr trivial, ?_⟩) | (refine ⟨rfl, ?_⟩) | (refine ⟨?_, ?_⟩))); done)
                | trace_state
            | some x' =>
              obtain ⟨r', hr'⟩ := hX _ (aget_mem hget)
              rw [hcr] at hr'
              cases hr'
              have hf := mget_some (cv := rtV) sV_keq hget
              repeat' (first | ((with_reducible refine gA ?_); (first | refine AW_seq ?_ | refine AW_region ?_ | refine AW_condF rfl ?_ | (refine AW_cond rfl (fun hc => ?_) (fun hc => ?_) <;> try (exfalso; simp only [cmpL] at hc; omega)) | refine AW_block ?_ | refine AW_skip ?_)) | ((with_reducible refine gS ?_); refine Es_s (T := Try.tab) rfl rfl rfl rfl ?_) | (((with_reducible refine gS ?_); apply Es_q); rfl; rfl; (first | refine LStep_lookupOk (T := Try.tab) rfl rfl rfl rfl rfl rfl rfl rfl hml hf | refine LStep_call (ccv) rfl rfl rfl rfl)) | (((with_reducible refine gS ?_); apply Es_xg); rfl; rfl; refine LStep_callHN [(1000, 12)] [] cad rfl rfl ⟨rfl, trivial⟩ rfl ⟨trivial, trivial⟩ rfl rfl; rfl) | (((with_reducible refine gS ?_); apply Es_q); rfl; rfl; (first | (refine LStep_add rfl rfl rfl rfl ?_; (refine IntWalk.i64_in _ ?_; first | omega | (simp only [cmps] at *; omega))) | (refine LStep_indexM (T := Try.tab) (c := ?_) rfl rfl rfl rfl rfl rfl ?_; rotate_left; assumption) | refine LStep_buildN (T := Try.tab) rfl rfl rfl rfl rfl rfl rfl)) | (refine Es_skip rfl ?_ rfl ?_; (first | rfl | (refine w_tf ?_; assumption) | (refine w_ft ?_; assumption))) | (((with_reducible refine gS ?_); apply Es_xs); rfl; rfl; refine LStep_allocN (T := Try.tab) rfl rfl rfl rfl rfl rfl; rfl) | (((with_reducible refine gS ?_); apply Es_xn); rfl; rfl; (refine LStep_storeN (T := Try.tab) rfl rfl rfl rfl rfl rfl rfl ?_ rfl; (refine Nat.le_of_ble_eq_true ?_; rfl)); rfl) | (with_reducible refine Es_nil ?_) | (with_reducible refine then_n ?_) | (with_reducible refine block_n ?_))
              all_goals try simp only [cmps] at *
              all_goals first
                | (exfalso; omega)
                | (refine ⟨(k + 1, X, h', lo'), ?_, by omega, by (repeat' (first | exact trivial | exact rfl | (refine ⟨Or.inl rfl, ?_⟩) | (refine ⟨Or.inr rfl, ?_⟩) | (refine ⟨Or.inr trivial, ?_⟩) | (refine ⟨rfl, ?_⟩) | (refine ⟨?_, ?_⟩))), by (repeat' (first | exact trivial | exact rfl | (refine ⟨Or.inl rfl, ?_⟩) | (refine ⟨Or.inr rfl, ?_⟩) | (refine ⟨Or.inr trivial, ?_⟩) | (refine ⟨rfl, ?_⟩) | (refine ⟨?_, ?_⟩))), by (repeat' (first | exact trivial | exact rfl | (refine ⟨Or.inl rfl, ?_⟩) | (refine ⟨Or.inr rfl, ?_⟩) | (refine ⟨Or.inr trivial, ?_⟩) | (refine ⟨rfl, ?_⟩) | (refine ⟨?_, ?_⟩))), by (repeat' (first | exact trivial | exact rfl | (refine ⟨Or.inl rfl, ?_⟩) | (refine ⟨Or.inr rfl, ?_⟩) | (refine ⟨Or.inr trivial, ?_⟩) | (refine ⟨rfl, ?_⟩) | (refine ⟨?_, ?_⟩)))⟩; exact ⟨by omega, by dsimp only; omega, hX, hnx, htl, by dsimp only; omega, by dsimp only; omega⟩)
                | trace_state
      · have hkl : k = es.length := by omega
        subst hkl
        rw [List.take_length] at hw
        rw [hsome _ hw]
        have cvl := cval h lo (by omega) hlo
        have htk : tOk h lo = true ↔ -1099511627776 ≤ h * 1099511627776 + lo ∧ h * 1099511627776 + lo ≤ 1099511627776 := by simp [tOk]
        by_cases hfit : -1099511627776 ≤ h * 1099511627776 + lo ∧ h * 1099511627776 + lo ≤ 1099511627776
        · rw [if_pos hfit]
          rw [htk.2 hfit, if_pos rfl] at cvl
          generalize h * 1099511627776 + lo = V at *
          repeat' (first | ((with_reducible refine gA ?_); (first | refine AW_seq ?_ | refine AW_region ?_ | refine AW_condF rfl ?_ | (refine AW_cond rfl (fun hc => ?_) (fun hc => ?_) <;> try (exfalso; simp only [cmpL] at hc; omega)) | refine AW_ret ?_ | refine AW_skip ?_ | refine AW_exit ?_)) | ((with_reducible refine gS ?_); refine Es_s (T := Try.tab) rfl rfl rfl rfl ?_) | (((with_reducible refine gS ?_); apply Es_xg); rfl; rfl; refine LStep_callHN [(1000, 12)] [] cvl rfl rfl ⟨rfl, trivial⟩ rfl ⟨trivial, trivial⟩ rfl rfl; rfl) | (with_reducible refine Es_nil ?_) | (with_reducible refine then_n ?_) | (with_reducible refine then_e ?_) | ((with_reducible refine block_e ?_ ?_); rfl) | ((with_reducible refine gR ?_); first | refine ret1 rfl ?_ | refine ret2 rfl rfl ?_ | refine ret0 ?_ | refine end1 rfl ?_ | refine end0 ?_))
          all_goals try simp only [cmps] at *
          all_goals first
            | (exfalso; omega)
            | exact ⟨rfl, by (repeat' (first | exact trivial | exact rfl | (refine ⟨Or.inl rfl, ?_⟩) | (refine ⟨Or.inr rfl, ?_⟩) | (refine ⟨Or.inr trivial, ?_⟩) | (refine ⟨rfl, ?_⟩) | (refine ⟨?_, ?_⟩)))⟩
            | exact ⟨trivial, by (repeat' (first | exact trivial | exact rfl | (refine ⟨Or.inl rfl, ?_⟩) | (refine ⟨Or.inr rfl, ?_⟩) | (refine ⟨Or.inr trivial, ?_⟩) | (refine ⟨rfl, ?_⟩) | (refine ⟨?_, ?_⟩)))⟩
            | trace_state
        · rw [if_neg hfit]
          rw [show tOk h lo = false from by cases hq : tOk h lo with | false => rfl | true => exact absurd (htk.1 hq) hfit, if_neg (by decide)] at cvl
          repeat' (first | ((with_reducible refine gA ?_); (first | refine AW_seq ?_ | refine AW_region ?_ | refine AW_condT rfl ?_ | (refine AW_cond rfl (fun hc => ?_) (fun hc => ?_) <;> try (exfalso; simp only [cmpL] at hc; omega)) | refine AW_ret ?_ | refine AW_exit ?_)) | ((with_reducible refine gS ?_); refine Es_s (T := Try.tab) rfl rfl rfl rfl ?_) | (((with_reducible refine gS ?_); apply Es_xg); rfl; rfl; refine LStep_callHN [(1000, 12)] [] cvl rfl rfl ⟨rfl, trivial⟩ rfl ⟨trivial, trivial⟩ rfl rfl; rfl) | (with_reducible refine Es_nil ?_) | (with_reducible refine then_n ?_) | (with_reducible refine then_r ?_) | (with_reducible refine then_e ?_) | ((with_reducible refine block_e ?_ ?_); rfl) | ((with_reducible refine gR ?_); first | refine ret1 rfl ?_ | refine ret2 rfl rfl ?_ | refine ret0 ?_ | refine end1 rfl ?_ | refine end0 ?_))
          all_goals try simp only [cmps] at *
          all_goals first
            | (exfalso; omega)
            | exact ⟨rfl, by (repeat' (first | exact trivial | exact rfl | (refine ⟨Or.inl rfl, ?_⟩) | (refine ⟨Or.inr rfl, ?_⟩) | (refine ⟨Or.inr trivial, ?_⟩) | (refine ⟨rfl, ?_⟩) | (refine ⟨?_, ?_⟩)))⟩
            | exact ⟨trivial, by (repeat' (first | exact trivial | exact rfl | (refine ⟨Or.inl rfl, ?_⟩) | (refine ⟨Or.inr rfl, ?_⟩) | (refine ⟨Or.inr trivial, ?_⟩) | (refine ⟨rfl, ?_⟩) | (refine ⟨?_, ?_⟩)))⟩
            | trace_state
    | false =>
      rw [hd] at c2
      have hnn : wF l es to day = none := by
        refine wF_none (k := 1) ?_
        cases es with
        | nil => exact absurd rfl hem
        | cons e es =>
          show wS l to day (some 0) e = none
          unfold wS cvtR crossD
          rw [hd]
          by_cases hm : mMay (e.2.1, e.2.2) = true
          · rw [if_pos hm]; rfl
          · rw [if_neg hm]
      rw [hnone hnn]
      clear cch ccr cadd cval
      unfold woV hR
      refine AC_enter Try.func23 rfl Try.ntmps23 (rv := [.tmp 8, .tmp 9]) rfl rfl (by simp) (fun w X G => ?_)
      repeat' (first | ((with_reducible refine gA ?_); (first | refine AW_seq ?_ | refine AW_region ?_ | refine AW_condT rfl ?_ | refine AW_condF rfl ?_ | refine AW_ret ?_ | refine AW_skip ?_)) | ((with_reducible refine gS ?_); refine Es_s (T := Try.tab) rfl rfl rfl rfl ?_) | (((with_reducible refine gS ?_); apply Es_q); rfl; (first | rfl | (refine w_tt ?_; assumption)); (first | refine LStep_call (c1) rfl rfl rfl rfl | refine LStep_call (c2) rfl rfl rfl rfl)) | (((with_reducible refine gS ?_); apply Es_q); rfl; (first | rfl | (refine w_tt ?_; assumption)); (first | refine LStep_simp (T := Try.tab) rfl rfl | refine LStep_lenM (T := Try.tab) rfl rfl rfl rfl | (refine LStep_pickT rfl rfl ?_ rfl rfl; assumption))) | (with_reducible refine Es_nil ?_) | (with_reducible refine then_n ?_) | (with_reducible refine then_r ?_) | ((with_reducible refine gR ?_); first | refine ret1 rfl ?_ | refine ret2 rfl rfl ?_ | refine ret0 ?_ | refine end1 rfl ?_ | refine end0 ?_))
      all_goals try simp only [cmps] at *
      all_goals first
        | (exfalso; omega)
        | exact ⟨rfl, by (repeat' (first | exact trivial | exact rfl | (refine ⟨Or.inl rfl, ?_⟩) | (refine ⟨Or.inr rfl, ?_⟩) | (refine ⟨Or.inr trivial, ?_⟩) | (refine ⟨rfl, ?_⟩) | (refine ⟨?_, ?_⟩)))⟩
        | exact ⟨trivial, by (repeat' (first | exact trivial | exact rfl | (refine ⟨Or.inl rfl, ?_⟩) | (refine ⟨Or.inr rfl, ?_⟩) | (refine ⟨Or.inr trivial, ?_⟩) | (refine ⟨rfl, ?_⟩) | (refine ⟨?_, ?_⟩)))⟩
        | trace_state
end Go.Proofs.Ytnalpielhpmnfaa
