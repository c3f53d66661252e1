import Derived.Test.YtofdnkgieigncaaRH
namespace Go.Proofs.Ytofdnkgieigncaa
open Go.SL
/-! ### money.May, Scale (down) -/
section
variable {P : Program} {O : Org} {T : Tab P} {o : Oper} {env : Env} {h : Hp} {x : Operand}
theorem run_eqNilFn {t : TypeId} (hT : (match P.underlying t with | some (.func _ _ _) => true | _ => false) = true) (w : World) (f : Fn) (b c : Array Value) : (Op.equal t (.func f b c) .nilFunc).run P w = .ok false w := by
  unfold Op.equal
  rw [show Op.maxDepth = 9999 + 1 from rfl, Op.equalIn]
  split at hT
  · rename_i a b c he
    simp only [Sem.run_bind, run_underlying he, Result.andThen_ok]
    simp
  · cases hT
theorem LStep_eqNilFn {tt yt : Nat} {f : FuncId} {caps : List AV} (ho : o.op = .binOp .eql tt x (.const .nilFunc) yt) (hd : dstOk o.dst O.nt = true) (hT : (match P.underlying tt with | some (.func _ _ _) => true | _ => false) = true) (hx : evalA env x = .fn f caps) : LStep P O o env h [] [] (.d (.sc (.bool false))) [] := by
  refine .quiet hd (fun env' h' he hTs a w G r => ?_)
  have h1 := evalA_rep r.env x
  rw [he x (by simp [ho, Op.operands]), hx] at h1
  generalize hv : a.eval x = v at h1
  cases h1 with
  | fn _ _ vs hs hc =>
    refine ⟨.bool false, ?_, .d _ _ (.sc _ rfl)⟩
    have hy : a.eval (.const .nilFunc) = .nilFunc := rfl
    simp [execOp, ho, hv, hy, eqGuard, binOp, run_eqNilFn (P := P) hT w]
end
theorem undFn : (match Try.prog.underlying 126 with | some (.func _ _ _) => true | _ => false) = true := by kernel_rfl
set_option maxRecDepth 10000 in
set_option maxHeartbeats 1000000 in
theorem mCur_ac (s : ByteArray) : AC Try.prog 29 [.d (.sc (.string s))] [] [] (fun r _ => r = .d (.sc (.bool (curOk s)))) := by
  have hlen : s.data.toList.length = s.size := rfl
  refine AC_enter Try.func29 rfl Try.ntmps29 (rv := [.tmp 2]) rfl rfl (by simp) (fun w X G => ?_)
  repeat' (first | ((with_reducible refine gA ?_); (first | refine AW_seq ?_ | refine AW_region ?_ | (refine AW_cond rfl (fun hc => ?_) (fun hc => ?_) <;> try (exfalso; simp only [cmpL] at hc; omega)) | refine AW_block ?_ | refine AW_ret ?_ | refine AW_skip ?_)) | ((with_reducible refine gS ?_); refine Es_s (T := Try.tab) rfl rfl rfl rfl ?_) | (((with_reducible refine gS ?_); apply Es_q); rfl; rfl; refine LStep_wrap (T := Try.tab) rfl rfl) | (with_reducible refine Es_nil ?_) | (with_reducible refine then_n ?_) | (with_reducible refine then_r ?_) | ((with_reducible refine gR ?_); first | refine ret1 rfl ?_ | refine ret2 rfl rfl ?_ | refine ret0 ?_ | refine end1 rfl ?_ | refine end0 ?_))
  all_goals simp only [cmps] at *
  · refine congrArg (fun b => AV.d (D.sc (Value.bool b))) ?_; simp [curOk]; omega
  have hall : curOk s = s.data.toList.all cuB := by
    have e1 : s.size = 3 := by omega
    simp [curOk, e1]
  rw [hall]
  clear hall
  refine AW_forE (S := Nat) (fun k => k ≤ s.size ∧ (s.data.toList.take k).all cuB = true) (fun k => [(9, .d (.sc (.int .i64 (k : Nat))))]) (fun _ => []) (fun k => s.size - k) 0 ⟨by omega, by simp⟩ (by (repeat' (first | exact trivial | exact rfl | (refine ⟨Or.inl rfl, ?_⟩) | (refine ⟨Or.inr rfl, ?_⟩) | (refine ⟨Or.inr trivial, ?_⟩) | (refine ⟨rfl, ?_⟩) | (refine ⟨?_, ?_⟩)))) (by (repeat' (first | exact trivial | exact rfl | (refine ⟨Or.inl rfl, ?_⟩) | (refine ⟨Or.inr rfl, ?_⟩) | (refine ⟨Or.inr trivial, ?_⟩) | (refine ⟨rfl, ?_⟩) | (refine ⟨?_, ?_⟩)))) ?_
  intro k ⟨hk, hf⟩
  by_cases hlt : k < s.size
  · obtain ⟨c, hc, _⟩ := drop_at (l := s.data.toList) (show k < s.data.toList.length by omega)
    have hc' : s.data.toList[((k : Nat) : Int).toNat]? = some c := by rw [Int.toNat_natCast]; exact hc
    obtain ⟨hy, hn⟩ := allR_take (f := cuB) hc hf
    repeat' (first | ((with_reducible refine gA ?_); (first | refine AW_seq ?_ | refine AW_region ?_ | refine AW_condT rfl ?_ | (refine AW_cond rfl (fun hc => ?_) (fun hc => ?_) <;> try (exfalso; simp only [cmpL] at hc; omega)) | refine AW_block ?_ | refine AW_ret ?_ | refine AW_skip ?_)) | ((with_reducible refine gS ?_); refine Es_s (T := Try.tab) rfl rfl rfl rfl ?_) | (((with_reducible refine gS ?_); apply Es_q); rfl; (first | rfl | (refine w_ff ?_; assumption)); (first | refine LStep_simp (T := Try.tab) rfl rfl | (refine LStep_add rfl rfl rfl rfl ?_; (refine IntWalk.i64_in _ ?_; first | omega | (simp only [cmps] at *; omega))) | (refine LStep_pickT rfl rfl ?_ rfl rfl; assumption) | (refine LStep_pickF rfl rfl ?_ rfl rfl; assumption) | (refine LStep_byteM (T := Try.tab) (c := ?_) rfl rfl rfl rfl rfl ?_; rotate_left; assumption))) | (refine Es_skip rfl ?_ rfl ?_; (first | rfl | (refine w_tf ?_; assumption) | (refine w_ft ?_; assumption))) | (refine Es_split rfl ?_ (fun _ => ?_) (fun _ => ?_); ((fail_if_success (refine und_t ?_; assumption)); (fail_if_success (refine und_f ?_; assumption)); exact trivial)) | (with_reducible refine Es_nil ?_) | (with_reducible refine then_n ?_) | (with_reducible refine then_r ?_) | (with_reducible refine block_n ?_) | (with_reducible refine block_r ?_) | ((with_reducible refine gR ?_); first | refine ret1 rfl ?_ | refine ret2 rfl rfl ?_ | refine ret0 ?_ | refine end1 rfl ?_ | refine end0 ?_))
    all_goals simp only [cmps] at *
    all_goals first
      | (have h : cuB c = true := by simp [cuB]; omega
         refine ⟨k + 1, ?_, by omega, by (repeat' (first | exact trivial | exact rfl | (refine ⟨Or.inl rfl, ?_⟩) | (refine ⟨Or.inr rfl, ?_⟩) | (refine ⟨Or.inr trivial, ?_⟩) | (refine ⟨rfl, ?_⟩) | (refine ⟨?_, ?_⟩))), by (repeat' (first | exact trivial | exact rfl | (refine ⟨Or.inl rfl, ?_⟩) | (refine ⟨Or.inr rfl, ?_⟩) | (refine ⟨Or.inr trivial, ?_⟩) | (refine ⟨rfl, ?_⟩) | (refine ⟨?_, ?_⟩))), by (repeat' (first | exact trivial | exact rfl | (refine ⟨Or.inl rfl, ?_⟩) | (refine ⟨Or.inr rfl, ?_⟩) | (refine ⟨Or.inr trivial, ?_⟩) | (refine ⟨rfl, ?_⟩) | (refine ⟨?_, ?_⟩))), by (repeat' (first | exact trivial | exact rfl | (refine ⟨Or.inl rfl, ?_⟩) | (refine ⟨Or.inr rfl, ?_⟩) | (refine ⟨Or.inr trivial, ?_⟩) | (refine ⟨rfl, ?_⟩) | (refine ⟨?_, ?_⟩)))⟩; exact ⟨by omega, hy h⟩)
      | (have h : cuB c = false := by simp [cuB]; omega
         refine congrArg (fun b => AV.d (D.sc (Value.bool b))) ?_; rw [hn h])
  · have : k = s.size := by omega
    subst this
    rw [← hlen, List.take_length] at hf
    repeat' (first | ((with_reducible refine gA ?_); (first | refine AW_seq ?_ | refine AW_region ?_ | (refine AW_cond rfl (fun hc => ?_) (fun hc => ?_) <;> try (exfalso; simp only [cmpL] at hc; omega)) | refine AW_ret ?_ | refine AW_exit ?_)) | ((with_reducible refine gS ?_); refine Es_s (T := Try.tab) rfl rfl rfl rfl ?_) | (with_reducible refine Es_nil ?_) | (with_reducible refine then_n ?_) | (with_reducible refine then_e ?_) | ((with_reducible refine block_e ?_ ?_); rfl) | ((with_reducible refine gR ?_); first | refine ret1 rfl ?_ | refine ret2 rfl rfl ?_ | refine ret0 ?_ | refine end1 rfl ?_ | refine end0 ?_))
    refine congrArg (fun b => AV.d (D.sc (Value.bool b))) ?_; rw [hf]
abbrev Mon := ByteArray × Int
def mnV (m : Mon) : AV := .agg [.d (.sc (.string m.1)), .d (.sc (.int .i64 m.2))]
def mMay (m : Mon) : Bool := curOk m.1 && (decide (-1099511627776 ≤ m.2) && decide (m.2 ≤ 1099511627776))
theorem mMay_t {m : Mon} : mMay m = true ↔ curOk m.1 = true ∧ -1099511627776 ≤ m.2 ∧ m.2 ≤ 1099511627776 := by simp [mMay]
set_option maxRecDepth 10000 in
set_option maxHeartbeats 1000000 in
theorem mMay_ac (m : Mon) : AC Try.prog 18 [mnV m] [] [] (fun r _ => r = .d (.sc (.bool (mMay m)))) := by
  have c1 := mCur_ac m.1
  have hsp := @mMay_t m
  unfold mnV
  generalize curOk m.1 = a at *
  refine AC_enter Try.func18 rfl Try.ntmps18 (rv := [.tmp 2]) rfl rfl (by simp) (fun w X G => ?_)
  repeat' (first | ((with_reducible refine gA ?_); (first | refine AW_seq ?_ | refine AW_region ?_ | refine AW_ret ?_)) | ((with_reducible refine gS ?_); refine Es_s (T := Try.tab) rfl rfl rfl rfl ?_) | (((with_reducible refine gS ?_); apply Es_q); rfl; (first | rfl | (refine w_tt ?_; assumption)); refine LStep_call (c1) rfl rfl rfl rfl) | (((with_reducible refine gS ?_); apply Es_q); rfl; (first | rfl | (refine w_tt ?_; assumption)); (first | refine LStep_simp (T := Try.tab) rfl rfl | (refine LStep_pickT rfl rfl ?_ rfl rfl; assumption) | (refine LStep_pickF rfl rfl ?_ rfl rfl; assumption))) | (refine Es_skip rfl ?_ rfl ?_; (first | rfl | (refine w_tf ?_; assumption) | (refine w_ft ?_; assumption))) | (((with_reducible refine gS ?_); apply Es_xs); rfl; rfl; refine LStep_boxN rfl rfl rfl rfl rfl rfl; rfl) | (refine Es_split rfl ?_ (fun _ => ?_) (fun _ => ?_); ((fail_if_success (refine und_t ?_; assumption)); (fail_if_success (refine und_f ?_; assumption)); exact trivial)) | (with_reducible refine Es_nil ?_) | (with_reducible refine then_n ?_) | ((with_reducible refine gR ?_); first | refine ret1 rfl ?_ | refine ret2 rfl rfl ?_ | refine ret0 ?_ | refine end1 rfl ?_ | refine end0 ?_))
  all_goals try simp only [cmps] at *
  all_goals first
    | (refine avB ?_; rw [hsp, leb_t]; constructor <;> intro hq <;> first | exact ⟨‹_›, by omega, by omega⟩ | omega)
    | (refine avB ?_; rw [hsp]; constructor <;> intro hq <;> first | (cases hq; done) | (exfalso; simp_all; done) | (exfalso; omega))
    | trace_state
theorem neg_fit {n : Int} (h : -9223372036854775808 < n ∧ n ≤ 9223372036854775807) : AV.d (.sc (.int .i64 (wrp .i64 (0 - n)))) = .d (.sc (.int .i64 (-n))) := by rw [wrp_fit (by omega), show 0 - n = -n by omega]
theorem wrpU_fit {n : Int} (h : 0 ≤ n ∧ n < 18446744073709551616) : wrp .u64 n = n := by
  unfold wrp
  exact u64_fit h
set_option maxRecDepth 10000 in
theorem size_ac (n : Int) (h : -1099511627776 ≤ n ∧ n ≤ 1099511627776) : AC Try.prog 48 [.d (.sc (.int .i64 n))] [] [] (fun r _ => r = uN n.natAbs) := by
  have e := neg_fit (n := n) (by omega)
  unfold uN
  refine AC_enter Try.func48 rfl Try.ntmps48 (rv := [.tmp 2]) rfl rfl (by simp) (fun w X G => ?_)
  repeat' (first | ((with_reducible refine gA ?_); (first | refine AW_seq ?_ | refine AW_region ?_ | (refine AW_cond rfl (fun hc => ?_) (fun hc => ?_) <;> try (exfalso; simp only [cmpL] at hc; omega)) | refine AW_ret ?_ | refine AW_skip ?_)) | (((with_reducible refine gS ?_); apply Es_q); rfl; rfl; (refine LStep_fitAt (T := Try.tab) (Ts := []) 6 ?_ ?_ ?_ e; exact rfl; exact rfl; exact rfl)) | ((with_reducible refine gS ?_); refine Es_s (T := Try.tab) rfl rfl rfl rfl ?_) | (((with_reducible refine gS ?_); apply Es_q); rfl; rfl; refine LStep_wrap (T := Try.tab) rfl rfl) | (with_reducible refine Es_nil ?_) | (with_reducible refine then_n ?_) | (with_reducible refine then_r ?_) | ((with_reducible refine gR ?_); first | refine ret1 rfl ?_ | refine ret2 rfl rfl ?_ | refine ret0 ?_ | refine end1 rfl ?_ | refine end0 ?_))
  all_goals simp only [cmps] at *
  all_goals first
    | (rw [wrpU_fit (by omega), show -n = (n.natAbs : Int) by omega]; done)
    | (rw [wrpU_fit (by omega)]; exact congrArg (fun z => AV.d (.sc (.int .u64 z))) (show n = (n.natAbs : Int) by omega))
    | trace_state
set_option maxRecDepth 10000 in
theorem rounder_ac : AC Try.prog 47 [.d (.sc (.int .i64 0))] [] [] (fun r _ => r = .fn 58 []) := by
  refine AC_enter Try.func47 rfl Try.ntmps47 (rv := [.tmp 2]) rfl rfl (by simp) (fun w X G => ?_)
  repeat' (first | ((with_reducible refine gA ?_); (first | refine AW_seq ?_ | refine AW_region ?_ | (refine AW_cond rfl (fun hc => ?_) (fun hc => ?_) <;> try (exfalso; simp only [cmpL] at hc; omega)) | refine AW_block ?_ | refine AW_ret ?_)) | ((with_reducible refine gS ?_); refine Es_s (T := Try.tab) rfl rfl rfl rfl ?_) | (with_reducible refine Es_nil ?_) | (with_reducible refine then_n ?_) | (with_reducible refine then_r ?_) | (with_reducible refine block_r ?_) | ((with_reducible refine gR ?_); first | refine ret1 rfl ?_ | refine ret2 rfl rfl ?_ | refine ret0 ?_ | refine end1 rfl ?_ | refine end0 ?_))
  all_goals simp only [cmps] at *
  all_goals first
    | rfl
    | trace_state
set_option maxRecDepth 10000 in
theorem down_ac (a b : Nat) : AC Try.prog 58 [uN a, uN b] [] [] (fun r h' => r = .d (.sc (.bool false)) ∧ SubH [] h') := by
  unfold uN
  refine AC_enter Try.func58 rfl Try.ntmps58 (rv := [.tmp 4]) rfl rfl (by simp) (fun w X G => ?_)
  repeat' (first | ((with_reducible refine gA ?_); (first | refine AW_seq ?_ | refine AW_region ?_ | refine AW_ret ?_)) | ((with_reducible refine gS ?_); refine Es_s (T := Try.tab) rfl rfl rfl rfl ?_) | (with_reducible refine Es_nil ?_) | (with_reducible refine then_n ?_) | ((with_reducible refine gR ?_); first | refine ret1 rfl ?_ | refine ret2 rfl rfl ?_ | refine ret0 ?_ | refine end1 rfl ?_ | refine end0 ?_))
  all_goals first
    | exact ⟨rfl, by (repeat' (first | exact trivial | exact rfl | (refine ⟨Or.inl rfl, ?_⟩) | (refine ⟨Or.inr rfl, ?_⟩) | (refine ⟨Or.inr trivial, ?_⟩) | (refine ⟨rfl, ?_⟩) | (refine ⟨?_, ?_⟩)))⟩
    | trace_state
def sgn (a : Int) (q : Nat) : Int := if a < 0 then -(q : Int) else q
def scaleR (a : Int) (n d : Nat) : Option Int := if a.natAbs * n / d ≤ 1099511627776 then some (sgn a (a.natAbs * n / d)) else none
def scV (c : ByteArray) (x : Option Int) : AV := .tup [match x with | some q => mnV (c, q) | none => mnV (ByteArray.empty, 0), .d (.sc (.bool x.isSome))]
theorem scV_some (c : ByteArray) (x : Int) : scV c (some x) = .tup [.agg [.d (.sc (.string c)), .d (.sc (.int .i64 x))], .d (.sc (.bool true))] := rfl
theorem scV_none (c : ByteArray) : scV c none = .tup [.agg [.d (.sc (.string ByteArray.empty)), .d (.sc (.int .i64 0))], .d (.sc (.bool false))] := rfl
theorem hi_big {p d : Nat} (hd : 0 < d) (h : d ≤ p / 18446744073709551616) : ¬ p / d ≤ 1099511627776 := by
  have h1 : 18446744073709551616 * d ≤ p := by
    have := Nat.div_mul_le_self p 18446744073709551616
    have := Nat.mul_le_mul_right 18446744073709551616 h
    omega
  have h2 := (Nat.le_div_iff_mul_le hd).2 h1
  omega
set_option maxRecDepth 10000 in
set_option maxHeartbeats 4000000 in
theorem scale_ac (m : Mon) (n d : Nat) (hm : mMay m = true) (hn : n < 9223372036854775808) (hd : 0 < d) (hd2 : d < 9223372036854775808) : AC Try.prog 32 [mnV m, rtV ((n : Int), (d : Int)), .d (.sc (.int .i64 0))] [] [] (fun r _ => r = scV m.1 (scaleR m.2 n d)) := by
  have c0 := rounder_ac
  have c1 := mMay_ac m
  have c2 := isRatio_ac n d hd
  rw [hm] at c1
  obtain ⟨_, hb⟩ := mMay_t.1 hm
  obtain ⟨c, a⟩ := m
  dsimp only at hb ⊢
  have c3 := size_ac a hb
  have ha : a.natAbs ≤ 1099511627776 := by omega
  have c4 := mul64_ac a.natAbs n (by omega) (by omega)
  have hpp : a.natAbs * n < 1099511627777 * 9223372036854775808 := Nat.mul_lt_mul_of_lt_of_le (by omega) (by omega) (by decide)
  unfold scaleR
  have c5 := fun hlt => div64_ac (a.natAbs * n / 18446744073709551616) (a.natAbs * n % 18446744073709551616) d hlt (by omega) (by omega)
  rw [show a.natAbs * n / 18446744073709551616 * 18446744073709551616 + a.natAbs * n % 18446744073709551616 = a.natAbs * n by omega] at c5
  have c6 := down_ac (a.natAbs * n % d) d
  have hbig := hi_big (p := a.natAbs * n) hd
  have hq : a.natAbs * n / d < 18446744073709551616 ∨ d ≤ a.natAbs * n / 18446744073709551616 := by
    by_cases h : d ≤ a.natAbs * n / 18446744073709551616
    · exact .inr h
    · refine .inl ((Nat.div_lt_iff_lt_mul hd).2 ?_)
      have h1 : a.natAbs * n / 18446744073709551616 + 1 ≤ d := by omega
      have h2 := Nat.mul_le_mul_left 18446744073709551616 h1
      omega
  unfold mnV rtV uN at *
  dsimp only at c2 ⊢
  by_cases hlt : a.natAbs * n / 18446744073709551616 < d
  · have c5' := c5 hlt
    clear c5
    generalize a.natAbs * n / 18446744073709551616 = hi at *
    generalize a.natAbs * n % 18446744073709551616 = lo at *
    generalize a.natAbs * n % d = rest at *
    generalize a.natAbs * n / d = q at *
    by_cases hle : q ≤ 1099511627776
    · rw [if_pos hle, scV_some]
      have e := neg_fit (n := (q : Int)) (by omega)
      refine AC_enterG Try.tab Try.func32 rfl Try.ntmps32 (rv := [.cell 6 39, .tmp 7]) rfl rfl (by simp) (fun w X G => ?_)
      repeat' (first | ((with_reducible refine gA ?_); (first | refine AW_seq ?_ | refine AW_region ?_ | refine AW_regionD Try.mixed ?_ | refine AW_condF rfl ?_ | (refine AW_condN rfl ?_ ?_; assumption) | (refine AW_cond rfl (fun hc => ?_) (fun hc => ?_) <;> try (exfalso; simp only [cmpL] at hc; omega)) | refine AW_ret ?_ | refine AW_skip ?_)) | ((first | ((with_reducible refine gS ?_); apply Es_q) | ((with_reducible refine gD ?_); apply Ed_q)); rfl; rfl; (first | (refine LStep_fitAt (T := Try.tab) (Ts := []) 72 ?_ ?_ ?_ e; exact rfl; exact rfl; exact rfl) | (refine LStep_conv (T := Try.tab) rfl rfl rfl rfl rfl ?_; (refine u64_fit ?_; omega)))) | (first | ((with_reducible refine gS ?_); refine Es_s (T := Try.tab) rfl rfl rfl rfl ?_) | ((with_reducible refine gD ?_); refine Ed_s (T := Try.tab) rfl rfl rfl rfl ?_)) | ((first | ((with_reducible refine gS ?_); apply Es_q) | ((with_reducible refine gD ?_); apply Ed_q)); rfl; rfl; (first | refine LStep_call (c0) rfl rfl rfl rfl | refine LStep_call (c1) rfl rfl rfl rfl | refine LStep_call (c2) rfl rfl rfl rfl | refine LStep_call (c3) rfl rfl rfl rfl | refine LStep_call (c4) rfl rfl rfl rfl | refine LStep_call (c5') rfl rfl rfl rfl | refine LStep_eqNilFn rfl rfl undFn rfl)) | (((with_reducible refine gS ?_); apply Es_xg); rfl; rfl; refine LStep_callHN [] [] c6 rfl rfl trivial rfl trivial rfl rfl; rfl) | (((with_reducible refine gS ?_); apply Es_q); rfl; rfl; (first | refine LStep_simp (T := Try.tab) rfl rfl | (refine LStep_conv (T := Try.tab) rfl rfl rfl rfl rfl ?_; (refine IntWalk.i64_in _ ?_; first | omega | (simp only [cmps] at *; omega))) | refine LStep_buildN (T := Try.tab) rfl rfl rfl rfl rfl rfl rfl)) | (refine Es_skip rfl ?_ rfl ?_; (first | rfl | (refine w_tf ?_; assumption) | (refine w_ft ?_; assumption))) | (((with_reducible refine gS ?_); apply Es_xs); rfl; rfl; (first | refine LStep_boxN rfl rfl rfl rfl rfl rfl | refine LStep_allocN (T := Try.tab) rfl rfl rfl rfl rfl rfl); rfl) | (((with_reducible refine gS ?_); apply Es_xn); rfl; rfl; (refine LStep_storeN (T := Try.tab) rfl rfl rfl rfl rfl rfl rfl ?_ rfl; (refine Nat.le_of_ble_eq_true ?_; rfl)); rfl) | (with_reducible refine Es_nil ?_) | ((with_reducible refine Ed_nil ?_ ?_); kernel_rfl) | (with_reducible refine then_n ?_) | ((with_reducible refine gRG ?_); first | refine retGa rfl ?_ | refine retGb rfl ?_ | refine retGc rfl ?_ | refine retG1 rfl rfl ?_ | refine endG1 rfl rfl ?_))
      all_goals simp only [cmps] at *
      all_goals first
        | (exfalso; omega)
        | (unfold sgn; rw [if_pos (by omega)]; done)
        | (unfold sgn; rw [if_neg (by omega)]; done)
        | trace_state
    · rw [if_neg hle, scV_none]
      refine AC_enterG Try.tab Try.func32 rfl Try.ntmps32 (rv := [.cell 6 39, .tmp 7]) rfl rfl (by simp) (fun w X G => ?_)
      repeat' (first | ((with_reducible refine gA ?_); (first | refine AW_seq ?_ | refine AW_region ?_ | refine AW_regionD Try.mixed ?_ | refine AW_condF rfl ?_ | (refine AW_cond rfl (fun hc => ?_) (fun hc => ?_) <;> try (exfalso; simp only [cmpL] at hc; omega)) | refine AW_ret ?_ | refine AW_skip ?_)) | ((first | ((with_reducible refine gS ?_); apply Es_q) | ((with_reducible refine gD ?_); apply Ed_q)); rfl; rfl; (refine LStep_conv (T := Try.tab) rfl rfl rfl rfl rfl ?_; (refine u64_fit ?_; omega))) | (first | ((with_reducible refine gS ?_); refine Es_s (T := Try.tab) rfl rfl rfl rfl ?_) | ((with_reducible refine gD ?_); refine Ed_s (T := Try.tab) rfl rfl rfl rfl ?_)) | ((first | ((with_reducible refine gS ?_); apply Es_q) | ((with_reducible refine gD ?_); apply Ed_q)); rfl; rfl; (first | refine LStep_call (c0) rfl rfl rfl rfl | refine LStep_call (c1) rfl rfl rfl rfl | refine LStep_call (c2) rfl rfl rfl rfl | refine LStep_call (c3) rfl rfl rfl rfl | refine LStep_call (c4) rfl rfl rfl rfl | refine LStep_call (c5') rfl rfl rfl rfl | refine LStep_eqNilFn rfl rfl undFn rfl)) | (((with_reducible refine gS ?_); apply Es_q); rfl; rfl; (first | refine LStep_simp (T := Try.tab) rfl rfl | refine LStep_buildN (T := Try.tab) rfl rfl rfl rfl rfl rfl rfl)) | (refine Es_skip rfl ?_ rfl ?_; (first | rfl | (refine w_tf ?_; assumption) | (refine w_ft ?_; assumption))) | (((with_reducible refine gS ?_); apply Es_xs); rfl; rfl; (first | refine LStep_boxN rfl rfl rfl rfl rfl rfl | refine LStep_allocN (T := Try.tab) rfl rfl rfl rfl rfl rfl); rfl) | (((with_reducible refine gS ?_); apply Es_xn); rfl; rfl; (refine LStep_storeN (T := Try.tab) rfl rfl rfl rfl rfl rfl rfl ?_ rfl; (refine Nat.le_of_ble_eq_true ?_; rfl)); rfl) | (with_reducible refine Es_nil ?_) | ((with_reducible refine Ed_nil ?_ ?_); kernel_rfl) | (with_reducible refine then_n ?_) | (with_reducible refine then_r ?_) | ((with_reducible refine gRG ?_); first | refine retGa rfl ?_ | refine retGb rfl ?_ | refine retGc rfl ?_ | refine retG1 rfl rfl ?_ | refine endG1 rfl rfl ?_))
      all_goals simp only [cmps] at *
      all_goals first
        | (exfalso; omega)
        | rfl
        | trace_state
  · rw [if_neg (hbig (by omega)), scV_none]
    clear c5
    generalize a.natAbs * n / 18446744073709551616 = hi at *
    generalize a.natAbs * n % 18446744073709551616 = lo at *
    refine AC_enterG Try.tab Try.func32 rfl Try.ntmps32 (rv := [.cell 6 39, .tmp 7]) rfl rfl (by simp) (fun w X G => ?_)
    repeat' (first | ((with_reducible refine gA ?_); (first | refine AW_seq ?_ | refine AW_region ?_ | refine AW_regionD Try.mixed ?_ | refine AW_condF rfl ?_ | (refine AW_cond rfl (fun hc => ?_) (fun hc => ?_) <;> try (exfalso; simp only [cmpL] at hc; omega)) | refine AW_ret ?_ | refine AW_skip ?_)) | ((first | ((with_reducible refine gS ?_); apply Es_q) | ((with_reducible refine gD ?_); apply Ed_q)); rfl; rfl; (refine LStep_conv (T := Try.tab) rfl rfl rfl rfl rfl ?_; (refine u64_fit ?_; omega))) | (first | ((with_reducible refine gS ?_); refine Es_s (T := Try.tab) rfl rfl rfl rfl ?_) | ((with_reducible refine gD ?_); refine Ed_s (T := Try.tab) rfl rfl rfl rfl ?_)) | ((first | ((with_reducible refine gS ?_); apply Es_q) | ((with_reducible refine gD ?_); apply Ed_q)); rfl; rfl; (first | refine LStep_call (c0) rfl rfl rfl rfl | refine LStep_call (c1) rfl rfl rfl rfl | refine LStep_call (c2) rfl rfl rfl rfl | refine LStep_call (c3) rfl rfl rfl rfl | refine LStep_call (c4) rfl rfl rfl rfl | refine LStep_eqNilFn rfl rfl undFn rfl)) | (((with_reducible refine gS ?_); apply Es_q); rfl; rfl; (first | refine LStep_simp (T := Try.tab) rfl rfl | refine LStep_buildN (T := Try.tab) rfl rfl rfl rfl rfl rfl rfl)) | (refine Es_skip rfl ?_ rfl ?_; (first | rfl | (refine w_tf ?_; assumption) | (refine w_ft ?_; assumption))) | (((with_reducible refine gS ?_); apply Es_xs); rfl; rfl; (first | refine LStep_boxN rfl rfl rfl rfl rfl rfl | refine LStep_allocN (T := Try.tab) rfl rfl rfl rfl rfl rfl); rfl) | (((with_reducible refine gS ?_); apply Es_xn); rfl; rfl; (refine LStep_storeN (T := Try.tab) rfl rfl rfl rfl rfl rfl rfl ?_ rfl; (refine Nat.le_of_ble_eq_true ?_; rfl)); rfl) | (with_reducible refine Es_nil ?_) | ((with_reducible refine Ed_nil ?_ ?_); kernel_rfl) | (with_reducible refine then_n ?_) | (with_reducible refine then_r ?_) | ((with_reducible refine gRG ?_); first | refine retGa rfl ?_ | refine retGb rfl ?_ | refine retGc rfl ?_ | refine retG1 rfl rfl ?_ | refine endG1 rfl rfl ?_))
    all_goals simp only [cmps] at *
    all_goals first
      | (exfalso; omega)
      | rfl
      | trace_state
set_option maxRecDepth 10000 in
set_option maxHeartbeats 1000000 in
theorem rem64_ac (p d : Nat) (hp : p < 340282366920938463463374607431768211456) (hd : 0 < d) (hd2 : d < 18446744073709551616) : AC Try.prog 33 [uN (p / 18446744073709551616), uN (p % 18446744073709551616), uN d] [] [] (fun r _ => r = uN (p % d)) := by
  have c1 := div64_ac (p / 18446744073709551616 % d) (p % 18446744073709551616) d (Nat.mod_lt _ hd) hd2 (by omega)
  have e : (p / 18446744073709551616 % d * 18446744073709551616 + p % 18446744073709551616) % d = p % d := by
    conv => rhs; rw [← Nat.div_add_mod p 18446744073709551616]
    rw [Nat.mul_comm 18446744073709551616]
    simp [Nat.add_mod, Nat.mul_mod]
  rw [e] at c1
  have h1 : p / 18446744073709551616 < 18446744073709551616 := by omega
  unfold uN at *
  generalize p / 18446744073709551616 = hi at *
  generalize p % 18446744073709551616 = lo at *
  refine AC_enter Try.func33 rfl Try.ntmps33 (rv := [.tmp 6]) rfl rfl (by simp) (fun w X G => ?_)
  repeat' (first | ((with_reducible refine gA ?_); (first | refine AW_seq ?_ | refine AW_region ?_ | refine AW_ret ?_)) | ((with_reducible refine gS ?_); refine Es_s (T := Try.tab) rfl rfl rfl rfl ?_) | (((with_reducible refine gS ?_); apply Es_q); rfl; rfl; (first | (refine LStep_rem rfl rfl rfl ?_ u64_rem rfl; omega) | refine LStep_call (c1) rfl rfl rfl rfl)) | (with_reducible refine Es_nil ?_) | (with_reducible refine then_n ?_) | ((with_reducible refine gR ?_); first | refine ret1 rfl ?_ | refine ret2 rfl rfl ?_ | refine ret0 ?_ | refine end1 rfl ?_ | refine end0 ?_))
  all_goals first
    | rfl
    | trace_state
/-! ### convert, Convert -/
def convR (a : Int) (n d : Nat) : Option (Int × (Int × Int)) := (scaleR a n d).map fun q => (q, rdc (a.natAbs * n % d) d)
def cvV (c : ByteArray) (x : Option (Int × (Int × Int))) : AV := .tup [match x with | some q => mnV (c, q.1) | none => mnV (ByteArray.empty, 0), rtV (match x with | some q => q.2 | none => (0, 0)), .d (.sc (.bool x.isSome))]
theorem cvV_some (c : ByteArray) (x : Int) (y : Int × Int) : cvV c (some (x, y)) = .tup [.agg [.d (.sc (.string c)), .d (.sc (.int .i64 x))], .agg [.d (.sc (.int .i64 y.1)), .d (.sc (.int .i64 y.2))], .d (.sc (.bool true))] := rfl
theorem cvV_none (c : ByteArray) : cvV c none = .tup [.agg [.d (.sc (.string ByteArray.empty)), .d (.sc (.int .i64 0))], .agg [.d (.sc (.int .i64 0)), .d (.sc (.int .i64 0))], .d (.sc (.bool false))] := rfl
set_option maxRecDepth 10000 in
set_option maxHeartbeats 4000000 in
theorem convert_ac (m : Mon) (to : ByteArray) (n d : Nat) (hm : mMay m = true) (hn : n < 9223372036854775808) (hd : 0 < d) (hd2 : d < 9223372036854775808) : AC Try.prog 20 [mnV m, .d (.sc (.string to)), rtV ((n : Int), (d : Int))] [] [] (fun r _ => r = cvV to (convR m.2 n d)) := by
  have c1 := scale_ac m n d hm hn hd hd2
  obtain ⟨_, hb⟩ := mMay_t.1 hm
  obtain ⟨c, a⟩ := m
  dsimp only at hb c1 ⊢
  have ha : a.natAbs ≤ 1099511627776 := by omega
  have hpp : a.natAbs * n < 1099511627777 * 9223372036854775808 := Nat.mul_lt_mul_of_lt_of_le (by omega) (by omega) (by decide)
  have c2 := mul64_ac a.natAbs n (by omega) (by omega)
  have c3 := rem64_ac (a.natAbs * n) d (by omega) hd (by omega)
  have hrem : a.natAbs * n % d < d := Nat.mod_lt _ hd
  have c4 := reduce_ac (a.natAbs * n % d) d hd (by omega) hd2
  have e := neg_fit (n := a) (by omega)
  have hmx : maxI a (-a) = (a.natAbs : Int) := by unfold maxI; split <;> omega
  unfold convR
  cases hs : scaleR a n d with
  | some q =>
    rw [hs, scV_some] at c1
    rw [Option.map_some, cvV_some]
    unfold mnV rtV uN at *
    dsimp only at c1 c4 ⊢
    clear hs
    generalize a.natAbs * n / 18446744073709551616 = hi at *
    generalize a.natAbs * n % 18446744073709551616 = lo at *
    generalize a.natAbs * n % d = rest at *
    refine AC_enterG Try.tab Try.func20 rfl Try.ntmps20 (rv := [.cell 6 39, .cell 7 30, .tmp 8]) rfl rfl (by simp) (fun w X G => ?_)
    repeat' (first | ((with_reducible refine gA ?_); (first | refine AW_seq ?_ | refine AW_region ?_ | refine AW_regionD Try.mixed ?_ | refine AW_condF rfl ?_ | refine AW_ret ?_ | refine AW_skip ?_)) | ((first | ((with_reducible refine gS ?_); apply Es_q) | ((with_reducible refine gD ?_); apply Ed_q)); rfl; rfl; (first | (refine LStep_fitAt (T := Try.tab) (Ts := []) 32 ?_ ?_ ?_ e; exact rfl; exact rfl; exact rfl) | (refine LStep_conv (T := Try.tab) rfl rfl rfl rfl rfl ?_; (first | (refine u64_fit ?_; omega) | (refine IntWalk.i64_in _ ?_; omega))))) | (first | ((with_reducible refine gS ?_); refine Es_s (T := Try.tab) rfl rfl rfl rfl ?_) | ((with_reducible refine gD ?_); refine Ed_s (T := Try.tab) rfl rfl rfl rfl ?_)) | ((first | ((with_reducible refine gS ?_); apply Es_q) | ((with_reducible refine gD ?_); apply Ed_q)); rfl; rfl; (first | refine LStep_call (c1) rfl rfl rfl rfl | refine LStep_call (c2) rfl rfl rfl rfl | refine LStep_call (c3) rfl rfl rfl rfl | refine LStep_call (c4) rfl rfl rfl rfl | refine LStep_max rfl rfl rfl rfl hmx)) | ((first | ((with_reducible refine gS ?_); apply Es_q) | ((with_reducible refine gD ?_); apply Ed_q)); rfl; rfl; refine LStep_buildN (T := Try.tab) rfl rfl rfl rfl rfl rfl rfl) | (refine Es_skip rfl ?_ rfl ?_; (first | rfl | (refine w_tf ?_; assumption) | (refine w_ft ?_; assumption))) | ((first | ((with_reducible refine gS ?_); apply Es_xs) | ((with_reducible refine gD ?_); apply Ed_xs)); rfl; rfl; (first | refine LStep_boxN rfl rfl rfl rfl rfl rfl | refine LStep_allocN (T := Try.tab) rfl rfl rfl rfl rfl rfl); rfl) | ((first | ((with_reducible refine gS ?_); apply Es_xn) | ((with_reducible refine gD ?_); apply Ed_xn)); rfl; rfl; (refine LStep_storeN (T := Try.tab) rfl rfl rfl rfl rfl rfl rfl ?_ rfl; (refine Nat.le_of_ble_eq_true ?_; rfl)); rfl) | (with_reducible refine Es_nil ?_) | ((with_reducible refine Ed_nil ?_ ?_); kernel_rfl) | (with_reducible refine then_n ?_) | ((with_reducible refine gRG ?_); first | refine retGa rfl ?_ | refine retGb rfl ?_ | refine retGc rfl ?_ | refine retG1 rfl rfl ?_ | refine endG1 rfl rfl ?_))
    all_goals try simp only at *
    all_goals first
      | rfl
      | trace_state
  | none =>
    rw [hs, scV_none] at c1
    rw [Option.map_none, cvV_none]
    unfold mnV rtV uN at *
    dsimp only at c1 c4 ⊢
    refine AC_enterG Try.tab Try.func20 rfl Try.ntmps20 (rv := [.cell 6 39, .cell 7 30, .tmp 8]) rfl rfl (by simp) (fun w X G => ?_)
    repeat' (first | ((with_reducible refine gA ?_); (first | refine AW_seq ?_ | refine AW_region ?_ | refine AW_condT rfl ?_ | refine AW_ret ?_)) | ((with_reducible refine gS ?_); refine Es_s (T := Try.tab) rfl rfl rfl rfl ?_) | (((with_reducible refine gS ?_); apply Es_q); rfl; rfl; refine LStep_call (c1) rfl rfl rfl rfl) | (((with_reducible refine gS ?_); apply Es_q); rfl; rfl; refine LStep_buildN (T := Try.tab) rfl rfl rfl rfl rfl rfl rfl) | (refine Es_skip rfl ?_ rfl ?_; (first | rfl | (refine w_tf ?_; assumption) | (refine w_ft ?_; assumption))) | (((with_reducible refine gS ?_); apply Es_xs); rfl; rfl; (first | refine LStep_boxN rfl rfl rfl rfl rfl rfl | refine LStep_allocN (T := Try.tab) rfl rfl rfl rfl rfl rfl); rfl) | (((with_reducible refine gS ?_); apply Es_xn); rfl; rfl; (refine LStep_storeN (T := Try.tab) rfl rfl rfl rfl rfl rfl rfl ?_ rfl; (refine Nat.le_of_ble_eq_true ?_; rfl)); rfl) | (with_reducible refine Es_nil ?_) | (with_reducible refine then_n ?_) | (with_reducible refine then_r ?_) | ((with_reducible refine gRG ?_); first | refine retGa rfl ?_ | refine retGb rfl ?_ | refine retGc rfl ?_ | refine retG1 rfl rfl ?_ | refine endG1 rfl rfl ?_))
    all_goals try simp only at *
    all_goals first
      | rfl
      | trace_state
theorem crossR_in {l : List RP} (hi : RInv l) {f t : ByteArray} {day : Int} {x : Int × Int} {r : List ByteArray} (h : crossR l f t day = some (x, r)) : ∃ n d : Nat, x = ((n : Int), (d : Int)) ∧ 0 < n ∧ n ≤ 1152921504606846976 ∧ 0 < d ∧ d ≤ 1152921504606846976 := by
  obtain ⟨ho, h4⟩ := rowP_ok l day f t
  unfold crossR at h
  split at h
  · generalize rowP l day f t = row at *
    cases row with
    | nil => cases h
    | cons a r' =>
      dsimp only at h
      obtain ⟨⟨a1, a2⟩, b1, b2⟩ := prK_in hi ho r'.length (by simp)
      have hpw : 1048576 ^ r'.length ≤ 1152921504606846976 := by
        have : (1048576 : Nat) ^ r'.length ≤ 1048576 ^ 3 := Nat.pow_le_pow_right (by decide) (by rw [List.length_cons] at h4; omega)
        exact Nat.le_trans this (by decide)
      generalize prK l day (a :: r') r'.length = p at *
      cases h
      obtain ⟨p1, p2⟩ := p
      dsimp only at *
      have hg := Nat.gcd_pos_of_pos_left p2 a1
      refine ⟨p1 / Nat.gcd p1 p2, p2 / Nat.gcd p1 p2, rfl, Nat.div_pos (Nat.le_of_dvd a1 (Nat.gcd_dvd_left _ _)) hg, ?_, Nat.div_pos (Nat.le_of_dvd b1 (Nat.gcd_dvd_right _ _)) hg, ?_⟩
      · exact Nat.le_trans (Nat.div_le_self _ _) (by omega)
      · exact Nat.le_trans (Nat.div_le_self _ _) (by omega)
  · cases h
def cvtR (l : List RP) (m : Mon) (to : ByteArray) (day : Int) : Option (Int × (Int × Int)) := if mMay m = true then match crossD l m.1 to day with
    | some (x, _) => convR m.2 x.1.toNat x.2.toNat
    | none => none
  else none
set_option maxRecDepth 10000 in
set_option maxHeartbeats 4000000 in
theorem cvt_ac (l : List RP) (m : Mon) (to : ByteArray) (day : Int) (hi : RInv l) (hl : l.length ≤ 4096) : AC Try.prog 9 [.ptr 1000 0, mnV m, .d (.sc (.string to)), .d (.sc (.int .i64 day))] (hR l) [1000, 1001]
    (fun r h' => r = cvV to (cvtR l m to day) ∧ SubH (hR l) h') := by
  have c1 := mMay_ac m
  unfold cvtR
  by_cases hm : mMay m = true
  · rw [if_pos hm]
    rw [hm] at c1
    have c2 := crossD_ac l m.1 to day hi hl
    cases hx : crossD l m.1 to day with
    | none =>
      rw [hx, crV_none] at c2
      dsimp only
      rw [cvV_none]
      unfold mnV at *
      unfold hR at *
      refine AC_enterG Try.tab Try.func9 rfl Try.ntmps9 (rv := [.cell 8 39, .cell 9 30, .tmp 10]) rfl rfl (by simp) (fun w X G => ?_)
      repeat' (first | ((with_reducible refine gA ?_); (first | refine AW_seq ?_ | refine AW_region ?_ | refine AW_condT rfl ?_ | refine AW_condF rfl ?_ | refine AW_ret ?_ | refine AW_skip ?_)) | ((with_reducible refine gS ?_); refine Es_s (T := Try.tab) rfl rfl rfl rfl ?_) | (((with_reducible refine gS ?_); apply Es_q); rfl; rfl; refine LStep_call (c1) rfl rfl rfl rfl) | (((with_reducible refine gS ?_); apply Es_xg); rfl; rfl; refine LStep_callHN [(1000, 1000), (1001, 1001)] [] c2 rfl rfl ⟨rfl, rfl, trivial⟩ rfl ⟨trivial, trivial, trivial⟩ rfl rfl; rfl) | (((with_reducible refine gS ?_); apply Es_q); rfl; rfl; refine LStep_buildN (T := Try.tab) rfl rfl rfl rfl rfl rfl rfl) | (refine Es_skip rfl ?_ rfl ?_; (first | rfl | (refine w_tf ?_; assumption) | (refine w_ft ?_; assumption))) | (((with_reducible refine gS ?_); apply Es_xs); rfl; rfl; (first | refine LStep_boxN rfl rfl rfl rfl rfl rfl | refine LStep_allocN (T := Try.tab) rfl rfl rfl rfl rfl rfl); rfl) | (((with_reducible refine gS ?_); apply Es_xn); rfl; rfl; (refine LStep_storeN (T := Try.tab) rfl rfl rfl rfl rfl rfl rfl ?_ rfl; (refine Nat.le_of_ble_eq_true ?_; rfl)); rfl) | (with_reducible refine Es_nil ?_) | (with_reducible refine then_n ?_) | (with_reducible refine then_r ?_) | ((with_reducible refine gRG ?_); first | refine retGa rfl ?_ | refine retGb rfl ?_ | refine retGc rfl ?_ | refine retG1 rfl rfl ?_ | refine endG1 rfl rfl ?_))
      all_goals try simp only [cmps] at *
      all_goals first
        | exact ⟨rfl, by (repeat' (first | exact trivial | exact rfl | (refine ⟨Or.inl rfl, ?_⟩) | (refine ⟨Or.inr rfl, ?_⟩) | (refine ⟨Or.inr trivial, ?_⟩) | (refine ⟨rfl, ?_⟩) | (refine ⟨?_, ?_⟩)))⟩
        | exact ⟨trivial, by (repeat' (first | exact trivial | exact rfl | (refine ⟨Or.inl rfl, ?_⟩) | (refine ⟨Or.inr rfl, ?_⟩) | (refine ⟨Or.inr trivial, ?_⟩) | (refine ⟨rfl, ?_⟩) | (refine ⟨?_, ?_⟩)))⟩
        | trace_state
    | some y =>
      obtain ⟨x, r⟩ := y
      have hx' : crossR l m.1 to day = some (x, r) := by
        unfold crossD at hx
        split at hx
        · exact hx
        · cases hx
      obtain ⟨n, d, rfl, n1, n2, d1, d2⟩ := crossR_in hi hx'
      have c3 := convert_ac m to n d hm (by omega) d1 (by omega)
      rw [hx, crV_some] at c2
      dsimp only at c2 ⊢
      rw [show ((n : Int)).toNat = n from rfl, show ((d : Int)).toNat = d from rfl]
      cases hq : convR m.2 n d with
      | some z =>
        obtain ⟨z1, z2⟩ := z
        rw [hq, cvV_some] at c3
        rw [cvV_some]
        unfold mnV at *
        unfold rtV at c3
        unfold hR at *
        dsimp only at c3
        refine AC_enterG Try.tab Try.func9 rfl Try.ntmps9 (rv := [.cell 8 39, .cell 9 30, .tmp 10]) rfl rfl (by simp) (fun w X G => ?_)
        repeat' (first | ((with_reducible refine gA ?_); (first | refine AW_seq ?_ | refine AW_region ?_ | refine AW_condF rfl ?_ | refine AW_ret ?_ | refine AW_skip ?_)) | ((with_reducible refine gS ?_); refine Es_s (T := Try.tab) rfl rfl rfl rfl ?_) | (((with_reducible refine gS ?_); apply Es_q); rfl; rfl; (first | refine LStep_call (c1) rfl rfl rfl rfl | refine LStep_call (c3) rfl rfl rfl rfl)) | (((with_reducible refine gS ?_); apply Es_xg); rfl; rfl; refine LStep_callHN [(1000, 1000), (1001, 1001)] [] c2 rfl rfl ⟨rfl, rfl, trivial⟩ rfl ⟨trivial, trivial, trivial⟩ rfl rfl; rfl) | (refine Es_skip rfl ?_ rfl ?_; (first | rfl | (refine w_tf ?_; assumption) | (refine w_ft ?_; assumption))) | (((with_reducible refine gS ?_); apply Es_xs); rfl; rfl; (first | refine LStep_boxN rfl rfl rfl rfl rfl rfl | refine LStep_allocN (T := Try.tab) rfl rfl rfl rfl rfl rfl); rfl) | (((with_reducible refine gS ?_); apply Es_xn); rfl; rfl; (refine LStep_storeN (T := Try.tab) rfl rfl rfl rfl rfl rfl rfl ?_ rfl; (refine Nat.le_of_ble_eq_true ?_; rfl)); rfl) | (with_reducible refine Es_nil ?_) | (with_reducible refine then_n ?_) | ((with_reducible refine gRG ?_); first | refine retGa rfl ?_ | refine retGb rfl ?_ | refine retGc rfl ?_ | refine retG1 rfl rfl ?_ | refine endG1 rfl rfl ?_))
        all_goals try simp only at *
        all_goals first
          | exact ⟨rfl, by (repeat' (first | exact trivial | exact rfl | (refine ⟨Or.inl rfl, ?_⟩) | (refine ⟨Or.inr rfl, ?_⟩) | (refine ⟨Or.inr trivial, ?_⟩) | (refine ⟨rfl, ?_⟩) | (refine ⟨?_, ?_⟩)))⟩
          | exact ⟨trivial, by (repeat' (first | exact trivial | exact rfl | (refine ⟨Or.inl rfl, ?_⟩) | (refine ⟨Or.inr rfl, ?_⟩) | (refine ⟨Or.inr trivial, ?_⟩) | (refine ⟨rfl, ?_⟩) | (refine ⟨?_, ?_⟩)))⟩
          | trace_state
      | none =>
        rw [hq, cvV_none] at c3
        rw [cvV_none]
        unfold mnV at *
        unfold rtV at c3
        unfold hR at *
        dsimp only at c3
        refine AC_enterG Try.tab Try.func9 rfl Try.ntmps9 (rv := [.cell 8 39, .cell 9 30, .tmp 10]) rfl rfl (by simp) (fun w X G => ?_)
        repeat' (first | ((with_reducible refine gA ?_); (first | refine AW_seq ?_ | refine AW_region ?_ | refine AW_condF rfl ?_ | refine AW_ret ?_ | refine AW_skip ?_)) | ((with_reducible refine gS ?_); refine Es_s (T := Try.tab) rfl rfl rfl rfl ?_) | (((with_reducible refine gS ?_); apply Es_q); rfl; rfl; (first | refine LStep_call (c1) rfl rfl rfl rfl | refine LStep_call (c3) rfl rfl rfl rfl)) | (((with_reducible refine gS ?_); apply Es_xg); rfl; rfl; refine LStep_callHN [(1000, 1000), (1001, 1001)] [] c2 rfl rfl ⟨rfl, rfl, trivial⟩ rfl ⟨trivial, trivial, trivial⟩ rfl rfl; rfl) | (refine Es_skip rfl ?_ rfl ?_; (first | rfl | (refine w_tf ?_; assumption) | (refine w_ft ?_; assumption))) | (((with_reducible refine gS ?_); apply Es_xs); rfl; rfl; (first | refine LStep_boxN rfl rfl rfl rfl rfl rfl | refine LStep_allocN (T := Try.tab) rfl rfl rfl rfl rfl rfl); rfl) | (((with_reducible refine gS ?_); apply Es_xn); rfl; rfl; (refine LStep_storeN (T := Try.tab) rfl rfl rfl rfl rfl rfl rfl ?_ rfl; (refine Nat.le_of_ble_eq_true ?_; rfl)); rfl) | (with_reducible refine Es_nil ?_) | (with_reducible refine then_n ?_) | ((with_reducible refine gRG ?_); first | refine retGa rfl ?_ | refine retGb rfl ?_ | refine retGc rfl ?_ | refine retG1 rfl rfl ?_ | refine endG1 rfl rfl ?_))
        all_goals try simp only at *
        all_goals first
          | exact ⟨rfl, by (repeat' (first | exact trivial | exact rfl | (refine ⟨Or.inl rfl, ?_⟩) | (refine ⟨Or.inr rfl, ?_⟩) | (refine ⟨Or.inr trivial, ?_⟩) | (refine ⟨rfl, ?_⟩) | (refine ⟨?_, ?_⟩)))⟩
          | exact ⟨trivial, by (repeat' (first | exact trivial | exact rfl | (refine ⟨Or.inl rfl, ?_⟩) | (refine ⟨Or.inr rfl, ?_⟩) | (refine ⟨Or.inr trivial, ?_⟩) | (refine ⟨rfl, ?_⟩) | (refine ⟨?_, ?_⟩)))⟩
          | trace_state
  · rw [if_neg hm, cvV_none]
    replace hm : mMay m = false := by simpa using hm
    rw [hm] at c1
    unfold mnV at *
    unfold hR
    refine AC_enterG Try.tab Try.func9 rfl Try.ntmps9 (rv := [.cell 8 39, .cell 9 30, .tmp 10]) rfl rfl (by simp) (fun w X G => ?_)
    repeat' (first | ((with_reducible refine gA ?_); (first | refine AW_seq ?_ | refine AW_region ?_ | refine AW_condT rfl ?_ | refine AW_ret ?_)) | ((with_reducible refine gS ?_); refine Es_s (T := Try.tab) rfl rfl rfl rfl ?_) | (((with_reducible refine gS ?_); apply Es_q); rfl; rfl; refine LStep_call (c1) rfl rfl rfl rfl) | (((with_reducible refine gS ?_); apply Es_q); rfl; rfl; refine LStep_buildN (T := Try.tab) rfl rfl rfl rfl rfl rfl rfl) | (refine Es_skip rfl ?_ rfl ?_; (first | rfl | (refine w_tf ?_; assumption) | (refine w_ft ?_; assumption))) | (((with_reducible refine gS ?_); apply Es_xs); rfl; rfl; (first | refine LStep_boxN rfl rfl rfl rfl rfl rfl | refine LStep_allocN (T := Try.tab) rfl rfl rfl rfl rfl rfl); rfl) | (((with_reducible refine gS ?_); apply Es_xn); rfl; rfl; (refine LStep_storeN (T := Try.tab) rfl rfl rfl rfl rfl rfl rfl ?_ rfl; (refine Nat.le_of_ble_eq_true ?_; rfl)); rfl) | (with_reducible refine Es_nil ?_) | (with_reducible refine then_n ?_) | (with_reducible refine then_r ?_) | ((with_reducible refine gRG ?_); first | refine retGa rfl ?_ | refine retGb rfl ?_ | refine retGc rfl ?_ | refine retG1 rfl rfl ?_ | refine endG1 rfl rfl ?_))
    all_goals first
      | exact ⟨rfl, by (repeat' (first | exact trivial | exact rfl | (refine ⟨Or.inl rfl, ?_⟩) | (refine ⟨Or.inr rfl, ?_⟩) | (refine ⟨Or.inr trivial, ?_⟩) | (refine ⟨rfl, ?_⟩) | (refine ⟨?_, ?_⟩)))⟩
      | exact ⟨trivial, by (repeat' (first | exact trivial | exact rfl | (refine ⟨Or.inl rfl, ?_⟩) | (refine ⟨Or.inr rfl, ?_⟩) | (refine ⟨Or.inr trivial, ?_⟩) | (refine ⟨rfl, ?_⟩) | (refine ⟨?_, ?_⟩)))⟩
      | trace_state
end Go.Proofs.Ytofdnkgieigncaa
