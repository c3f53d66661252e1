import Derived.Test.YtjadbgmohmgaaaaE1
import Derived.Test.YtjadbgmohmgaaaaD3
namespace Go.Proofs.Ytjadbgmohmgaaaa
open Go.SL

structure ConsFit (l : List Cons) : Prop where
  ll : l.length ≤ 140737488351232
  lots : ∀ c ∈ l, c.lots.length ≤ 140737488351232
def chkCode (o : Ord) (l : List Cons) : Int :=
  if (!o.may || l.any fun c => !ofB o c) = true then 1 else if (l.any fun c => c.lots.any fun x => (lastL x.good o.lines).isNone) = true then 4 else 0
set_option maxRecDepth 10000 in
theorem chk11_ac (o : Ord) (l : List Cons) (fl : ConsFit l) (c : Cons) (hc : c ∈ l) : AC Try.prog 34 [.agg c.cs, .ptr 1002 0] (chkH o l (goodE o.lines)) [1002, 1003, 1005, 1006] (fun r h' => r = .d (.sc (.bool (!ofB o c))) ∧ Kp (chkH o l (goodE o.lines)) h') := by
  refine AC_enter Try.func34 rfl Try.ntmps34 (rv := [.tmp 3]) rfl rfl (by simp) (fun w X G => ?_)
  repeat' (first | ((with_reducible refine gA ?_); (first | refine AW_seq ?_ | refine AW_region ?_ | refine AW_ret ?_)) | ((with_reducible refine gS ?_); refine Es_s (T := Try.tab) rfl rfl rfl rfl ?_) | (((with_reducible refine gS ?_); apply Es_q); rfl; rfl; refine LStep_call (of_ac _ _ (fl.lots c hc)) rfl rfl rfl rfl) | (refine Es_skip rfl ?_ rfl ?_; (first | rfl | (refine w_tf ?_; assumption) | (refine w_ft ?_; assumption))) | (((with_reducible refine gS ?_); apply Es_xs); rfl; rfl; refine LStep_boxN rfl rfl rfl rfl rfl rfl; rfl) | (with_reducible refine Es_nil ?_) | (with_reducible refine then_n ?_) | ((with_reducible refine gR ?_); first | refine ret1 rfl ?_ | refine ret2 rfl rfl ?_ | refine ret0 ?_ | refine end1 rfl ?_ | refine end0 ?_))
  exact ⟨rfl, Kp.sub ⟨rfl, rfl, rfl, rfl, trivial⟩⟩
set_option maxRecDepth 10000 in
theorem chk1_ac (o : Ord) (l : List Cons) (fl : ConsFit l) : AC Try.prog 32 [.ptr 1002 0, .ptr 1003 0] (chkH o l (goodE o.lines)) [1002, 1003, 1005, 1006] (fun r h' => r = .d (.sc (.bool (!o.may || l.any fun c => !ofB o c))) ∧ Kp (chkH o l (goodE o.lines)) h') := by
  have c := anyCons_ac o l (goodE o.lines) l _ 1002 (fun c => !ofB o c) fl.ll (fun c hc => chk11_ac o l fl c hc)
  refine AC_enter Try.func32 rfl Try.ntmps32 (rv := [.tmp 2]) rfl rfl (by simp) (fun w X G => ?_)
  repeat' (first | ((with_reducible refine gA ?_); (first | refine AW_seq ?_ | refine AW_region ?_ | refine AW_ret ?_)) | ((with_reducible refine gS ?_); refine Es_s (T := Try.tab) rfl rfl rfl rfl ?_) | (((with_reducible refine gS ?_); apply Es_q); rfl; (first | rfl | (refine w_ff ?_; assumption)); (first | refine LStep_call (may_ac _) rfl rfl rfl rfl | refine LStep_callB c rfl rfl ⟨rfl, rfl, rfl, rfl, trivial⟩ rfl rfl)) | (((with_reducible refine gS ?_); apply Es_q); rfl; (first | rfl | (refine w_ff ?_; assumption)); (first | refine LStep_simp (T := Try.tab) rfl rfl | (refine LStep_pickT rfl rfl ?_ rfl rfl; assumption) | (refine LStep_pickF rfl rfl ?_ rfl rfl; assumption))) | (refine Es_skip rfl ?_ rfl ?_; (first | rfl | (refine w_tf ?_; assumption) | (refine w_ft ?_; assumption))) | (refine Es_split rfl ?_ (fun _ => ?_) (fun _ => ?_); ((fail_if_success (refine und_t ?_; assumption)); (fail_if_success (refine und_f ?_; assumption)); exact trivial)) | (with_reducible refine Es_nil ?_) | (with_reducible refine then_n ?_) | ((with_reducible refine gR ?_); first | refine ret1 rfl ?_ | refine ret2 rfl rfl ?_ | refine ret0 ?_ | refine end1 rfl ?_ | refine end0 ?_))
  · have h : (!o.may) = true := by assumption
    exact ⟨by rw [h, Bool.true_or], Kp.sub ⟨rfl, rfl, rfl, rfl, trivial⟩⟩
  · have h : (!o.may) = false := by assumption
    exact ⟨by rw [h, Bool.false_or], Kp.sub ⟨rfl, rfl, rfl, rfl, trivial⟩⟩
set_option maxRecDepth 10000 in
theorem chk211_ac (o : Ord) (l : List Cons) (x : Lot) : AC Try.prog 39 [.agg x.cs, .ptr 1005 0] (chkH o l (goodE o.lines)) [1002, 1003, 1005, 1006] (fun r h' => r = .d (.sc (.bool (lastL x.good o.lines).isNone)) ∧ Kp (chkH o l (goodE o.lines)) h') := by
  have hk := good_keys o.lines
  have hf := goodE_find x.good o.lines
  refine AC_enter Try.func39 rfl Try.ntmps39 (rv := [.tmp 3]) rfl rfl (by simp) (fun w X G => ?_)
  cases hq : lastL x.good o.lines with
  | none =>
    rw [hq] at hf
    repeat' (first | ((with_reducible refine gA ?_); (first | refine AW_seq ?_ | refine AW_region ?_ | refine AW_ret ?_)) | ((with_reducible refine gS ?_); refine Es_s (T := Try.tab) rfl rfl rfl rfl ?_) | (((with_reducible refine gS ?_); apply Es_q); rfl; rfl; (refine LStep_lookupNoZ (T := Try.tab) rfl rfl rfl rfl rfl rfl rfl rfl rfl rfl ?_ ?_; exact hk; exact hf)) | (refine Es_skip rfl ?_ rfl ?_; (first | rfl | (refine w_tf ?_; assumption) | (refine w_ft ?_; assumption))) | (((with_reducible refine gS ?_); apply Es_xs); rfl; rfl; (first | refine LStep_boxN rfl rfl rfl rfl rfl rfl | refine LStep_allocN (T := Try.tab) rfl rfl rfl rfl rfl rfl); rfl) | (((with_reducible refine gS ?_); apply Es_xn); rfl; rfl; (refine LStep_storeN (T := Try.tab) rfl rfl rfl rfl rfl rfl rfl ?_ rfl; (refine Nat.le_of_ble_eq_true ?_; rfl)); rfl) | (with_reducible refine Es_nil ?_) | (with_reducible refine then_n ?_) | ((with_reducible refine gR ?_); first | refine ret1 rfl ?_ | refine ret2 rfl rfl ?_ | refine ret0 ?_ | refine end1 rfl ?_ | refine end0 ?_))
    exact ⟨rfl, Kp.sub ⟨rfl, rfl, rfl, rfl, trivial⟩⟩
  | some y =>
    rw [hq] at hf
    repeat' (first | ((with_reducible refine gA ?_); (first | refine AW_seq ?_ | refine AW_region ?_ | refine AW_ret ?_)) | ((with_reducible refine gS ?_); refine Es_s (T := Try.tab) rfl rfl rfl rfl ?_) | (((with_reducible refine gS ?_); apply Es_q); rfl; rfl; (refine LStep_lookupOk (T := Try.tab) (c := .agg y.cs) rfl rfl rfl rfl rfl rfl rfl rfl ?_ ?_; exact hk; exact hf)) | (refine Es_skip rfl ?_ rfl ?_; (first | rfl | (refine w_tf ?_; assumption) | (refine w_ft ?_; assumption))) | (((with_reducible refine gS ?_); apply Es_xs); rfl; rfl; (first | refine LStep_boxN rfl rfl rfl rfl rfl rfl | refine LStep_allocN (T := Try.tab) rfl rfl rfl rfl rfl rfl); rfl) | (((with_reducible refine gS ?_); apply Es_xn); rfl; rfl; (refine LStep_storeN (T := Try.tab) rfl rfl rfl rfl rfl rfl rfl ?_ rfl; (refine Nat.le_of_ble_eq_true ?_; rfl)); rfl) | (with_reducible refine Es_nil ?_) | (with_reducible refine then_n ?_) | ((with_reducible refine gR ?_); first | refine ret1 rfl ?_ | refine ret2 rfl rfl ?_ | refine ret0 ?_ | refine end1 rfl ?_ | refine end0 ?_))
    exact ⟨rfl, Kp.sub ⟨rfl, rfl, rfl, rfl, trivial⟩⟩
set_option maxRecDepth 10000 in
theorem chk21_ac (o : Ord) (l : List Cons) (fl : ConsFit l) (c : Cons) (hc : c ∈ l) : AC Try.prog 37 [.agg c.cs, .ptr 1005 0] (chkH o l (goodE o.lines)) [1002, 1003, 1005, 1006] (fun r h' => r = .d (.sc (.bool (c.lots.any fun x => (lastL x.good o.lines).isNone))) ∧ Kp (chkH o l (goodE o.lines)) h') := by
  have cc := anyLot_ac o l (goodE o.lines) c.lots _ 1005 (fun x => (lastL x.good o.lines).isNone) (fl.lots c hc) (fun x _ => chk211_ac o l x)
  refine AC_enter Try.func37 rfl Try.ntmps37 (rv := [.tmp 3]) rfl rfl (by simp) (fun w X G => ?_)
  repeat' (first | ((with_reducible refine gA ?_); (first | refine AW_seq ?_ | refine AW_region ?_ | refine AW_ret ?_)) | ((with_reducible refine gS ?_); refine Es_s (T := Try.tab) rfl rfl rfl rfl ?_) | (((with_reducible refine gS ?_); apply Es_q); rfl; rfl; refine LStep_callB cc rfl rfl ⟨rfl, rfl, rfl, rfl, trivial⟩ rfl rfl) | (refine Es_skip rfl ?_ rfl ?_; (first | rfl | (refine w_tf ?_; assumption) | (refine w_ft ?_; assumption))) | (((with_reducible refine gS ?_); apply Es_xs); rfl; rfl; refine LStep_boxN rfl rfl rfl rfl rfl rfl; rfl) | (with_reducible refine Es_nil ?_) | (with_reducible refine then_n ?_) | ((with_reducible refine gR ?_); first | refine ret1 rfl ?_ | refine ret2 rfl rfl ?_ | refine ret0 ?_ | refine end1 rfl ?_ | refine end0 ?_))
  exact ⟨rfl, Kp.sub ⟨rfl, rfl, rfl, rfl, trivial⟩⟩
set_option maxRecDepth 10000 in
theorem chk2_ac (o : Ord) (l : List Cons) (fl : ConsFit l) : AC Try.prog 36 [.ptr 1003 0, .ptr 1005 0] (chkH o l (goodE o.lines)) [1002, 1003, 1005, 1006] (fun r h' => r = .d (.sc (.bool (l.any fun c => c.lots.any fun x => (lastL x.good o.lines).isNone))) ∧ Kp (chkH o l (goodE o.lines)) h') := by
  have c := anyCons_ac o l (goodE o.lines) l _ 1005 (fun c => c.lots.any fun x => (lastL x.good o.lines).isNone) fl.ll (fun c hc => chk21_ac o l fl c hc)
  refine AC_enter Try.func36 rfl Try.ntmps36 (rv := [.tmp 2]) rfl rfl (by simp) (fun w X G => ?_)
  repeat' (first | ((with_reducible refine gA ?_); (first | refine AW_seq ?_ | refine AW_region ?_ | refine AW_ret ?_)) | ((with_reducible refine gS ?_); refine Es_s (T := Try.tab) rfl rfl rfl rfl ?_) | (((with_reducible refine gS ?_); apply Es_q); rfl; rfl; refine LStep_callB c rfl rfl ⟨rfl, rfl, rfl, rfl, trivial⟩ rfl rfl) | (with_reducible refine Es_nil ?_) | (with_reducible refine then_n ?_) | ((with_reducible refine gR ?_); first | refine ret1 rfl ?_ | refine ret2 rfl rfl ?_ | refine ret0 ?_ | refine end1 rfl ?_ | refine end0 ?_))
  exact ⟨rfl, Kp.sub ⟨rfl, rfl, rfl, rfl, trivial⟩⟩
set_option maxRecDepth 10000 in
set_option maxHeartbeats 1000000 in
theorem chkFirst_ac (o : Ord) (l : List Cons) (fl : ConsFit l) : AC Try.prog 13 [.sla 2 [[.d (.sc (.int .i64 1)), .fn 32 [.ptr 1002 0, .ptr 1003 0]], [.d (.sc (.int .i64 4)), .fn 36 [.ptr 1003 0, .ptr 1005 0]]]]
    (chkH o l (goodE o.lines)) [1002, 1003, 1005, 1006] (fun r h' => r = .d (.sc (.int .i64 (chkCode o l))) ∧ Kp (chkH o l (goodE o.lines)) h') := by
  have c1 := chk1_ac o l fl
  have c2 := chk2_ac o l fl
  refine AC_enter Try.func13 rfl Try.ntmps13 (rv := [.tmp 2]) rfl rfl (by simp) (fun w X G => ?_)
  repeat' (first | ((with_reducible refine gA ?_); (first | refine AW_seq ?_ | refine AW_region ?_ | refine AW_block ?_)) | ((with_reducible refine gS ?_); refine Es_s (T := Try.tab) rfl rfl rfl rfl ?_) | (((with_reducible refine gS ?_); apply Es_q); rfl; rfl; refine LStep_wrap (T := Try.tab) rfl rfl) | (with_reducible refine Es_nil ?_) | (with_reducible refine then_n ?_))
  refine AW_rounds 3 ?_
  by_cases b1 : (!o.may || l.any fun c => !ofB o c) = true
  · repeat' (first | ((with_reducible refine gRd ?_); refine rounds_stepD [4, 8, 9, 10, 11, 12, 13, 14, 15, 16] [4] ?_) | ((with_reducible refine gA ?_); (first | refine AW_seq ?_ | refine AW_region ?_ | (refine AW_condY rfl ?_ ?_; assumption) | (refine AW_cond rfl (fun hc => ?_) (fun hc => ?_) <;> try (exfalso; simp only [cmpL] at hc; omega)) | refine AW_block ?_ | refine AW_ret ?_ | refine AW_skip ?_)) | ((with_reducible refine gS ?_); refine Es_s (T := Try.tab) rfl rfl rfl rfl ?_) | (((with_reducible refine gS ?_); apply Es_q); rfl; rfl; refine LStep_callB c1 rfl rfl ⟨rfl, rfl, rfl, rfl, trivial⟩ rfl rfl) | (((with_reducible refine gS ?_); apply Es_q); rfl; rfl; (refine LStep_indexA (T := Try.tab) (c := ?_) rfl rfl rfl rfl rfl rfl ?_ ?_; rotate_left; omega; (first | assumption | rfl))) | (refine Es_skip rfl ?_ rfl ?_; (first | rfl | (refine w_tf ?_; assumption) | (refine w_ft ?_; assumption))) | (((with_reducible refine gS ?_); apply Es_xs); rfl; rfl; refine LStep_allocN (T := Try.tab) rfl rfl rfl rfl rfl rfl; rfl) | (((with_reducible refine gS ?_); apply Es_xn); rfl; rfl; (refine LStep_storeN (T := Try.tab) rfl rfl rfl rfl rfl rfl rfl ?_ rfl; (refine Nat.le_of_ble_eq_true ?_; rfl)); rfl) | (with_reducible refine Es_nil ?_) | (with_reducible refine then_n ?_) | (with_reducible refine then_r ?_) | (with_reducible refine block_r ?_) | ((with_reducible refine gR ?_); first | refine ret1 rfl ?_ | refine ret2 rfl rfl ?_ | refine ret0 ?_ | refine end1 rfl ?_ | refine end0 ?_))
    exact ⟨by rw [chkCode, if_pos b1], Kp.sub ⟨rfl, rfl, rfl, rfl, trivial⟩⟩
  have b1' : (!o.may || l.any fun c => !ofB o c) = false := by simpa using b1
  repeat' (first | ((with_reducible refine gRd ?_); refine rounds_stepD [4, 8, 9, 10, 11, 12, 13, 14, 15, 16] [4] ?_) | ((with_reducible refine gA ?_); (first | refine AW_seq ?_ | refine AW_region ?_ | (refine AW_condN rfl ?_ ?_; assumption) | (refine AW_cond rfl (fun hc => ?_) (fun hc => ?_) <;> try (exfalso; simp only [cmpL] at hc; omega)) | refine AW_block ?_ | refine AW_ret ?_ | refine AW_skip ?_ | refine AW_exit ?_)) | ((with_reducible refine gS ?_); refine Es_s (T := Try.tab) rfl rfl rfl rfl ?_) | (((with_reducible refine gS ?_); apply Es_q); rfl; rfl; (first | refine LStep_callB c1 rfl rfl ⟨rfl, rfl, rfl, rfl, trivial⟩ rfl rfl | refine LStep_callB c2 rfl rfl ⟨rfl, rfl, rfl, rfl, trivial⟩ rfl rfl)) | (((with_reducible refine gS ?_); apply Es_q); rfl; rfl; (first | (refine LStep_add rfl rfl rfl rfl ?_; (refine IntWalk.i64_in _ ?_; first | omega | (simp only [cmps] at *; omega))) | (refine LStep_indexA (T := Try.tab) (c := ?_) rfl rfl rfl rfl rfl rfl ?_ ?_; rotate_left; omega; (first | assumption | rfl)))) | (refine Es_skip rfl ?_ rfl ?_; (first | rfl | (refine w_tf ?_; assumption) | (refine w_ft ?_; assumption))) | (((with_reducible refine gS ?_); apply Es_xs); rfl; rfl; refine LStep_allocN (T := Try.tab) rfl rfl rfl rfl rfl rfl; rfl) | (((with_reducible refine gS ?_); apply Es_xn); rfl; rfl; (refine LStep_storeN (T := Try.tab) rfl rfl rfl rfl rfl rfl rfl ?_ rfl; (refine Nat.le_of_ble_eq_true ?_; rfl)); rfl) | (with_reducible refine Es_nil ?_) | (with_reducible refine then_n ?_) | (with_reducible refine then_r ?_) | (with_reducible refine then_e ?_) | (with_reducible refine block_n ?_) | (with_reducible refine block_r ?_) | ((with_reducible refine block_e ?_ ?_); rfl) | ((with_reducible refine gR ?_); first | refine ret1 rfl ?_ | refine ret2 rfl rfl ?_ | refine ret0 ?_ | refine end1 rfl ?_ | refine end0 ?_))
  · exact ⟨by rw [chkCode, if_neg b1, if_pos (by assumption)], Kp.sub ⟨rfl, rfl, rfl, rfl, trivial⟩⟩
  · have b2 : (l.any fun c => c.lots.any fun x => (lastL x.good o.lines).isNone) = false := by assumption
    exact ⟨by rw [chkCode, if_neg b1, if_neg (by rw [b2]; simp)], Kp.sub ⟨rfl, rfl, rfl, rfl, trivial⟩⟩
set_option maxRecDepth 10000 in
theorem checks_ac (o : Ord) (l : List Cons) (fl : ConsFit l) (hll : o.lines.length ≤ 140737488351232) : AC Try.prog 23 [.agg o.cs, .d (.sl 4 (l.map Cons.enc))] [] [] (fun r _ => r = .d (.sc (.int .i64 (chkCode o l)))) := by
  have c1 := byGood_ac o hll
  have c2 := (chkFirst_ac o l fl).kp rfl
  refine AC_enter Try.func23 rfl Try.ntmps23 (rv := [.tmp 4]) rfl rfl (by simp) (fun w X G => ?_)
  repeat' (first | ((with_reducible refine gA ?_); (first | refine AW_seq ?_ | refine AW_region ?_ | refine AW_ret ?_)) | ((with_reducible refine gS ?_); refine Es_s (T := Try.tab) rfl rfl rfl rfl ?_) | (((with_reducible refine gS ?_); apply Es_xs); rfl; rfl; refine LStep_callHN [] [(9, 7)] c1 rfl rfl trivial rfl trivial rfl rfl; rfl) | (((with_reducible refine gS ?_); apply Es_xg); rfl; rfl; refine LStep_callHN [(1002, 2), (1003, 3), (1005, 5), (1006, 7)] [] c2 rfl rfl ⟨rfl, rfl, rfl, rfl, trivial⟩ rfl ⟨trivial, trivial, trivial, trivial, trivial⟩ rfl rfl; rfl) | (((with_reducible refine gS ?_); apply Es_q); rfl; rfl; (first | (refine LStep_litA (T := Try.tab) rfl rfl rfl rfl rfl rfl rfl ?_; (refine Nat.le_of_ble_eq_true ?_; rfl)) | refine LStep_buildN (T := Try.tab) rfl rfl rfl rfl rfl rfl rfl)) | (refine Es_skip rfl ?_ rfl ?_; (first | rfl | (refine w_tf ?_; assumption) | (refine w_ft ?_; assumption))) | (((with_reducible refine gS ?_); apply Es_xs); rfl; rfl; (first | refine LStep_boxN rfl rfl rfl rfl rfl rfl | refine LStep_allocN (T := Try.tab) rfl rfl rfl rfl rfl rfl); rfl) | (((with_reducible refine gS ?_); apply Es_xn); rfl; rfl; (refine LStep_storeN (T := Try.tab) rfl rfl rfl rfl rfl rfl rfl ?_ rfl; (refine Nat.le_of_ble_eq_true ?_; rfl)); rfl) | (with_reducible refine Es_nil ?_) | (with_reducible refine then_n ?_) | ((with_reducible refine gR ?_); first | refine ret1 rfl ?_ | refine ret2 rfl rfl ?_ | refine ret0 ?_ | refine end1 rfl ?_ | refine end0 ?_))
  rfl

def priceOf (o : Ord) (g : ByteArray) : Int := match lastL g o.lines with
  | some x => x.price
  | none => 0
def valL (o : Ord) : List Lot → Int → Int × Int
  | [], a => (a, 0)
  | x :: r, a => if 1099511627776 < a + x.count * priceOf o x.good then (0, 3) else valL o r (a + x.count * priceOf o x.good)
def valP (o : Ord) (c : Cons) : Int × Int := if chkCode o [c] = 0 then valL o c.lots 0 else (0, chkCode o [c])
def pairR (p : Int × Int) : AV := .tup [.d (.sc (.int .i64 p.1)), .d (.sc (.int .i64 p.2))]
theorem chk_of {o : Ord} {l : List Cons} (h : chkCode o l = 0) : o.may = true ∧ (∀ c ∈ l, ofB o c = true) ∧ ∀ c ∈ l, ∀ x ∈ c.lots, ∃ y, lastL x.good o.lines = some y := by
  unfold chkCode at h
  split at h
  · cases h
  · rename_i h1
    split at h
    · cases h
    · rename_i h2
      simp only [Bool.or_eq_true, Bool.not_eq_true', List.any_eq_true, not_or, not_exists, not_and, Bool.not_eq_false] at h1 h2
      refine ⟨h1.1, fun c hc => by simpa using h1.2 c hc, fun c hc x hx => ?_⟩
      have := h2 c hc x hx
      cases hq : lastL x.good o.lines with
      | none => rw [hq] at this; exact absurd rfl this
      | some y => exact ⟨y, rfl⟩
set_option maxRecDepth 10000 in
set_option maxHeartbeats 1000000 in
theorem value_ac (o : Ord) (c : Cons) (hc : c.lots.length ≤ 140737488351232) (hll : o.lines.length ≤ 140737488351232) : AC Try.prog 8 [.agg o.cs, .agg c.cs] [] [] (fun r _ => r = pairR (valP o c)) := by
  have c0 := checks_ac o [c] ⟨by simp, fun x hx => by simp at hx; subst hx; exact hc⟩ hll
  have c1 := byGood_ac o hll
  refine AC_enter Try.func8 rfl Try.ntmps8 (rv := [.tmp 4, .tmp 5]) rfl rfl (by simp) (fun w X G => ?_)
  repeat' (first | ((with_reducible refine gA ?_); (first | refine AW_seq ?_ | refine AW_region ?_ | (refine AW_cond rfl (fun hc => ?_) (fun hc => ?_) <;> try (exfalso; simp only [cmpL] at hc; omega)) | refine AW_block ?_ | refine AW_ret ?_ | refine AW_skip ?_)) | ((with_reducible refine gS ?_); refine Es_s (T := Try.tab) rfl rfl rfl rfl ?_) | (((with_reducible refine gS ?_); apply Es_q); rfl; rfl; refine LStep_call (c0) rfl rfl rfl rfl) | (((with_reducible refine gS ?_); apply Es_xs); rfl; rfl; refine LStep_callHN [] [(9, 19)] c1 rfl rfl trivial rfl trivial rfl rfl; rfl) | (((with_reducible refine gS ?_); apply Es_q); rfl; rfl; (first | refine LStep_lenM (T := Try.tab) rfl rfl rfl rfl | (refine LStep_lit (T := Try.tab) rfl rfl rfl rfl rfl rfl rfl rfl ?_; (refine Nat.le_of_ble_eq_true ?_; rfl)))) | (refine Es_skip rfl ?_ rfl ?_; (first | rfl | (refine w_tf ?_; assumption) | (refine w_ft ?_; assumption))) | (((with_reducible refine gS ?_); apply Es_xs); rfl; rfl; refine LStep_boxN rfl rfl rfl rfl rfl rfl; rfl) | (with_reducible refine Es_nil ?_) | (with_reducible refine then_n ?_) | (with_reducible refine then_r ?_) | ((with_reducible refine gR ?_); first | refine ret1 rfl ?_ | refine ret2 rfl rfl ?_ | refine ret0 ?_ | refine end1 rfl ?_ | refine end0 ?_))
  all_goals simp only [cmps] at *
  · rw [valP, if_neg (by assumption)]; rfl
  have h0 : chkCode o [c] = 0 := by assumption
  obtain ⟨h1, h2, h3⟩ := chk_of h0
  have h2 := h2 c (by simp)
  have h3 := h3 c (by simp)
  simp only [ofB, Bool.and_eq_true, List.all_eq_true, lotOk, countB, decide_eq_true_eq] at h2
  obtain ⟨_, hl⟩ := may_lines h1
  have hk := good_keys o.lines
  refine AW_forE (S := Nat × Int) (fun s => s.1 ≤ c.lots.length ∧ valP o c = valL o (c.lots.drop s.1) s.2 ∧ 0 ≤ s.2 ∧ s.2 ≤ 1099511627776) (fun s => [(23, .d (.sc (.int .i64 (s.1 : Nat)))), (8, .d (.sc (.int .i64 s.2)))]) (fun _ => []) (fun s => c.lots.length - s.1) (0, 0) ⟨by omega, by rw [valP, if_pos h0]; rfl, by omega, by omega⟩ (by (repeat' (first | exact trivial | exact rfl | (refine ⟨Or.inl rfl, ?_⟩) | (refine ⟨Or.inr rfl, ?_⟩) | (refine ⟨Or.inr trivial, ?_⟩) | (refine ⟨rfl, ?_⟩) | (refine ⟨?_, ?_⟩)))) (by (repeat' (first | exact trivial | exact rfl | (refine ⟨Or.inl rfl, ?_⟩) | (refine ⟨Or.inr rfl, ?_⟩) | (refine ⟨Or.inr trivial, ?_⟩) | (refine ⟨rfl, ?_⟩) | (refine ⟨?_, ?_⟩)))) ?_
  intro ⟨k, a⟩ ⟨hk', hg, ha, hb⟩
  dsimp only at hk' hg ha hb ⊢
  by_cases hlt : k < c.lots.length
  · obtain ⟨x, hx, hd⟩ := drop_at hlt
    have hm := List.mem_of_getElem? hx
    obtain ⟨q1, q2, q3⟩ := h2.2 x hm
    obtain ⟨y, hy⟩ := h3 x hm
    obtain ⟨hy1, hy2⟩ := lastL_mem hy
    obtain ⟨_, _, _, p3, p4⟩ := hl y hy1
    obtain ⟨r1, r2⟩ := prod_le q2 q3 p3 p4
    have hf := goodE_find x.good o.lines
    rw [hy] at hf
    have hp : priceOf o x.good = y.price := by rw [priceOf, hy]
    rw [hd, valL, hp] at hg
    clear h2 h3 hl c0 c1
    repeat' (first | ((with_reducible refine gA ?_); (first | refine AW_seq ?_ | refine AW_region ?_ | (refine AW_cond rfl (fun hc => ?_) (fun hc => ?_) <;> try (exfalso; simp only [cmpL] at hc; omega)) | refine AW_block ?_ | refine AW_ret ?_ | refine AW_skip ?_)) | ((with_reducible refine gS ?_); refine Es_s (T := Try.tab) rfl rfl rfl rfl ?_) | (((with_reducible refine gS ?_); apply Es_q); rfl; rfl; (refine LStep_lookup (T := Try.tab) (c := .agg y.cs) rfl rfl rfl rfl rfl rfl rfl rfl ?_ ?_; exact hk; exact hf)) | (((with_reducible refine gS ?_); apply Es_q); rfl; rfl; (first | (refine LStep_add rfl rfl rfl rfl ?_; (refine IntWalk.i64_in _ ?_; first | omega | (simp only [cmps] at *; omega))) | (refine LStep_mul rfl rfl rfl rfl ?_; (refine IntWalk.i64_in _ ?_; first | omega | (simp only [cmps] at *; omega))) | (refine LStep_indexM (T := Try.tab) (c := ?_) rfl rfl rfl rfl rfl rfl ?_; rotate_left; assumption))) | (refine Es_skip rfl ?_ rfl ?_; (first | rfl | (refine w_tf ?_; assumption) | (refine w_ft ?_; assumption))) | (((with_reducible refine gS ?_); apply Es_xs); rfl; rfl; refine LStep_allocN (T := Try.tab) rfl rfl rfl rfl rfl rfl; rfl) | (((with_reducible refine gS ?_); apply Es_xn); rfl; rfl; (refine LStep_storeN (T := Try.tab) rfl rfl rfl rfl rfl rfl rfl ?_ rfl; (refine Nat.le_of_ble_eq_true ?_; rfl)); rfl) | (with_reducible refine Es_nil ?_) | (with_reducible refine then_n ?_) | (with_reducible refine then_r ?_) | (with_reducible refine block_n ?_) | (with_reducible refine block_r ?_) | ((with_reducible refine gR ?_); first | refine ret1 rfl ?_ | refine ret2 rfl rfl ?_ | refine ret0 ?_ | refine end1 rfl ?_ | refine end0 ?_))
    all_goals simp only [cmps] at *
    · have h : 1099511627776 < a + x.count * y.price := by assumption
      rw [hg, if_pos h]; rfl
    · have h : ¬ 1099511627776 < a + x.count * y.price := by omega
      rw [if_neg h] at hg
      refine ⟨(k + 1, a + x.count * y.price), ?_, by omega, by (repeat' (first | exact trivial | exact rfl | (refine ⟨Or.inl rfl, ?_⟩) | (refine ⟨Or.inr rfl, ?_⟩) | (refine ⟨Or.inr trivial, ?_⟩) | (refine ⟨rfl, ?_⟩) | (refine ⟨?_, ?_⟩))), by (repeat' (first | exact trivial | exact rfl | (refine ⟨Or.inl rfl, ?_⟩) | (refine ⟨Or.inr rfl, ?_⟩) | (refine ⟨Or.inr trivial, ?_⟩) | (refine ⟨rfl, ?_⟩) | (refine ⟨?_, ?_⟩))), by (repeat' (first | exact trivial | exact rfl | (refine ⟨Or.inl rfl, ?_⟩) | (refine ⟨Or.inr rfl, ?_⟩) | (refine ⟨Or.inr trivial, ?_⟩) | (refine ⟨rfl, ?_⟩) | (refine ⟨?_, ?_⟩))), by (repeat' (first | exact trivial | exact rfl | (refine ⟨Or.inl rfl, ?_⟩) | (refine ⟨Or.inr rfl, ?_⟩) | (refine ⟨Or.inr trivial, ?_⟩) | (refine ⟨rfl, ?_⟩) | (refine ⟨?_, ?_⟩)))⟩; exact ⟨by omega, hg, by omega, by omega⟩
  · have : k = c.lots.length := by omega
    subst this
    rw [drop_end, valL] at hg
    repeat' (first | ((with_reducible refine gA ?_); (first | refine AW_seq ?_ | refine AW_region ?_ | (refine AW_cond rfl (fun hc => ?_) (fun hc => ?_) <;> try (exfalso; simp only [cmpL] at hc; omega)) | refine AW_ret ?_ | refine AW_exit ?_)) | ((with_reducible refine gS ?_); refine Es_s (T := Try.tab) rfl rfl rfl rfl ?_) | (with_reducible refine Es_nil ?_) | (with_reducible refine then_n ?_) | (with_reducible refine then_e ?_) | ((with_reducible refine block_e ?_ ?_); rfl) | ((with_reducible refine gR ?_); first | refine ret1 rfl ?_ | refine ret2 rfl rfl ?_ | refine ret0 ?_ | refine end1 rfl ?_ | refine end0 ?_))
    rw [hg]; rfl
end Go.Proofs.Ytjadbgmohmgaaaa
