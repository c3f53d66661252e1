import Derived.Test.YtofdnkgieigncaaGreatV4
import Derived.Test.YtofdnkgieigncaaGreatR1
import Derived.Test.YtofdnkgieigncaaGreatQ7
import Derived.Laws.Externs
namespace Go.Proofs.YtofdnkgieigncaaGreat
open Go.SL

/-! ### math/bits.Add64, match.Balanced -/
section
variable {P : Program} {O : Org} {env : Env} {h : Hp} {o : Oper}
theorem u64_fit {n : Int} (h : 0 ≤ n ∧ n < 18446744073709551616) : IntKind.u64.wrap n = n := by
  have e : n % 18446744073709551616 = n := Int.emod_eq_of_lt h.1 h.2
  unfold IntKind.wrap
  simp only [IntKind.signed, Bool.false_and]
  rw [if_neg (by simp)]
  exact e
theorem lstep_shr {t yt : Nat} {x y : Operand} {k yk : IntKind} {m n q : Int} (ho : o.op = .binOp .shr t x y yt) (hx : evalA env x = .d (.sc (.int k m))) (hy : evalA env y = .d (.sc (.int yk n))) (hn : 0 ≤ n) (hq : m.fdiv (2 ^ (min n.toNat k.bits)) = q) (hd : dstOk o.dst O.nt = true) :
    LStep P O o env h [] [] (.d (.sc (.int k q))) [] := by
  subst hq
  refine .quiet hd (fun env' h' he _ a w G r => ?_)
  have h1 := evalA_rep r.env x
  have h2 := evalA_rep r.env y
  rw [he x (by simp [ho, Op.operands]), hx] at h1
  rw [he y (by simp [ho, Op.operands]), hy] at h2
  have hn' : ¬ n < 0 := by omega
  exact ⟨.int k (m.fdiv (2 ^ (min n.toNat k.bits))), by simp [execOp, ho, h1.sc_inv, h2.sc_inv, eqGuard, binOp, Op.shift, hn'], .d _ _ (.sc _ rfl)⟩
end
theorem add64_call (x y c : Int) (hx : 0 ≤ x) (hy : 0 ≤ y) (hc0 : 0 ≤ c) (hc : c ≤ 1) (hs : x + y + c < 18446744073709551616) (w : World) :
    (callFunc 38 #[.int .u64 x, .int .u64 y, .int .u64 c]).run Tryz.prog w = .ok (.value (.tuple #[.int .u64 (x + y + c), .int .u64 0])) w := by
  have h1 : Tryz.prog.funcs[38]? = some Tryz.f38 := Tryz.func38
  have h2 : Extern.findNext Tryz.f38 = none := by kernel_rfl
  have h3 : Extern.find Tryz.f38 = some add64Entry := by kernel_rfl
  have h4 : (Tryz.f38.name == "runtime.NumGoroutine") = false := by kernel_rfl
  have h5 : Tryz.f38.body.isNone = true := by kernel_rfl
  have h6 := run_add64 (P := Tryz.prog) x y c hx hy hc0 hc w
  rw [Int.emod_eq_of_lt (by omega) hs, Int.ediv_eq_zero_of_lt (by omega) hs] at h6
  simp only [callFunc, Sem.run_bind, run_program, h1, h2, h3, h4, h5, Result.andThen_ok, Bool.false_eq_true, if_false, if_true]
  simp [h6, Result.andThen]
section
variable {O : Org} {env : Env} {h : Hp} {o : Oper}
theorem lstep_add64 {x y c : Operand} {ts : Array TypeId} {m n k q : Int} (ho : o.op = .call { callee := .value (.func 38), args := #[x, y, c], argTypes := ts }) (hx : evalA env x = .d (.sc (.int .u64 m))) (hy : evalA env y = .d (.sc (.int .u64 n))) (hc : evalA env c = .d (.sc (.int .u64 k)))
    (hm : 0 ≤ m ∧ 0 ≤ n ∧ 0 ≤ k ∧ k ≤ 1 ∧ m + n + k < 18446744073709551616) (hq : m + n + k = q) (hd : dstOk o.dst O.nt = true) : LStep Tryz.prog O o env h [] [] (.tup [.d (.sc (.int .u64 q)), .d (.sc (.int .u64 0))]) [] := by
  subst hq
  refine .quiet hd (fun env' h' he _ a w G r => ?_)
  have h1 := evalA_rep r.env x
  have h2 := evalA_rep r.env y
  have h3 := evalA_rep r.env c
  rw [he x (by simp [ho, Op.operands, Call.operands]), hx] at h1
  rw [he y (by simp [ho, Op.operands, Call.operands]), hy] at h2
  rw [he c (by simp [ho, Op.operands, Call.operands]), hc] at h3
  refine ⟨.tuple #[.int .u64 (m + n + k), .int .u64 0], ?_, .tup _ _ rfl (fun i c v hc hv => ?_)⟩
  · have h0 := add64_call m n k hm.1 hm.2.1 hm.2.2.1 hm.2.2.2.1 hm.2.2.2.2 w
    have key : ∀ xs : Array Operand, xs.map a.eval = #[.int .u64 m, .int .u64 n, .int .u64 k] → o.op = .call { callee := .value (.func 38), args := xs, argTypes := ts } →
        (execOp a.eval o).run Tryz.prog w = .ok (.value (.tuple #[.int .u64 (m + n + k), .int .u64 0])) w := by
      intro xs has hop
      simp [execOp, hop, resolve, Act.eval, Deferred.ofValue, invoke, has, h0]
    exact key _ (by simp [h1.sc_inv, h2.sc_inv, h3.sc_inv]) ho
  · match i, hc, hv with
    | 0, hc, hv => cases hc; cases hv; exact .d _ _ (.sc _ rfl)
    | 1, hc, hv => cases hc; cases hv; exact .d _ _ (.sc _ rfl)
end
/-- what of letters is a remittance in a currency -/
def remB (cur : ByteArray) (l : Lt) : Bool := decide (l.kind = 27) && decide (l.cur = cur)
def remS (cur : ByteArray) (m : List Lt) : Int := ((m.filter (remB cur)).map (·.amt)).sum
theorem remS_snoc (cur : ByteArray) (m : List Lt) (l : Lt) : remS cur (m ++ [l]) = remS cur m + (if remB cur l = true then l.amt else 0) := by
  unfold remS
  rw [List.filter_append, List.map_append, List.sum_append]
  cases h : remB cur l <;> simp [h]
theorem remS_in (cur : ByteArray) (m : List Lt) : (∀ l ∈ m, 0 ≤ l.amt ∧ l.amt ≤ 1099511627776) → 0 ≤ remS cur m ∧ remS cur m ≤ 1099511627776 * (m.length : Int) := by
  refine list_snoc (p := fun m => (∀ l ∈ m, 0 ≤ l.amt ∧ l.amt ≤ 1099511627776) → 0 ≤ remS cur m ∧ remS cur m ≤ 1099511627776 * (m.length : Int)) (fun _ => by simp [remS]) (fun m l ih h => ?_) m
  have h1 := ih (fun x hx => h x (List.mem_append_left _ hx))
  have h2 := h l (by simp)
  rw [remS_snoc, List.length_append, List.length_singleton]
  split <;> omega
def hB (s : Led) : Hp := [(1010, some (.cells [.mp 1011, .own 1012 (s.P.map Post.enc).length, .mp 1013])), (1011, some (.map 96 98 (emap k2V aV s.A) none)), (1012, some (.arr 121 3 (s.P.map Post.enc))), (1013, some (.map 9 299 (emap sV hV s.H) none))]
set_option maxRecDepth 10000 in
set_option maxHeartbeats 4000000 in
theorem balanced_ac (sa sb : Led) (no vo cur : ByteArray) (m : List Lt) (hl : m.length ≤ 1000) (hm : ∀ l ∈ m, 0 ≤ l.amt ∧ l.amt ≤ 1099511627776)
    (h1 : -1099511627776 ≤ balS sa (vo, cur) ∧ balS sa (vo, cur) ≤ 1099511627776) (h2 : -1099511627776 ≤ balS sb (no, cur) ∧ balS sb (no, cur) ≤ 1099511627776) (h3 : 0 ≤ balS sa (vo, cur) + balS sb (no, cur)) :
    AC Tryz.prog 11 [.ptr 1000 0, .ptr 1010 0, .d (.sc (.string no)), .d (.sc (.string vo)), .d (.sl 14 (m.map Lt.enc)), .d (.sc (.string cur))] (hL sa ++ hB sb) [1000, 1001, 1002, 1003, 1010, 1011, 1012, 1013]
    (fun r h' => r = .d (.sc (.bool (decide (remS cur m = balS sa (vo, cur) + balS sb (no, cur))))) ∧ SubH (hL sa ++ hB sb) h') := by
  have ca := balance_ac sa vo cur
  have cb := balance_ac sb no cur
  have sh0 : ∀ n : Int, 0 ≤ n → n < 9223372036854775808 → n.fdiv (2 ^ (min (63 : Int).toNat IntKind.i64.bits)) = 0 := by
    intro n g1 g2
    rw [show (2 : Int) ^ (min (63 : Int).toNat IntKind.i64.bits) = 9223372036854775808 from rfl, Int.fdiv_eq_ediv_of_nonneg _ (by omega)]
    exact Int.ediv_eq_zero_of_lt g1 g2
  refine AC_enter Tryz.func11 rfl Tryz.ntmps11 (rv := [.tmp 12]) rfl rfl (by simp) (fun w X G => ?_)
  repeat' (first | ((with_reducible refine gA ?_); (first | refine AW_seq ?_ | refine AW_region ?_ | refine AW_block ?_)) | ((with_reducible refine gS ?_); refine Es_s (T := Tryz.tab) rfl rfl rfl rfl ?_) | (((with_reducible refine gS ?_); apply Es_q); rfl; rfl; refine LStep_lenM (T := Tryz.tab) rfl rfl rfl rfl) | (with_reducible refine Es_nil ?_) | (with_reducible refine then_n ?_))
  refine AW_forE (S := Nat) (fun k => k ≤ m.length) (fun k => [(25, .d (.sc (.int .i64 (k : Nat)))), (14, .d (.sc (.int .u64 (remS cur (m.take k))))), (13, .d (.sc (.int .u64 0)))]) (fun _ => []) (fun k => m.length - k) 0 (by omega) (by (repeat' (first | exact trivial | exact rfl | (refine ⟨Or.inl rfl, ?_⟩) | (refine ⟨Or.inr rfl, ?_⟩) | (refine ⟨Or.inr trivial, ?_⟩) | (refine ⟨rfl, ?_⟩) | (refine ⟨?_, ?_⟩)))) (by (repeat' (first | exact trivial | exact rfl | (refine ⟨Or.inl rfl, ?_⟩) | (refine ⟨Or.inr rfl, ?_⟩) | (refine ⟨Or.inr trivial, ?_⟩) | (refine ⟨rfl, ?_⟩) | (refine ⟨?_, ?_⟩)))) ?_
  intro k hk
  by_cases hlt : k < m.length
  · obtain ⟨l, hl1, _⟩ := drop_at hlt
    have ha := hm l (List.mem_of_getElem? hl1)
    have hb := remS_in cur (m.take k) (fun x hx => hm x (List.mem_of_mem_take hx))
    have ht : remS cur (m.take (k + 1)) = remS cur (m.take k) + (if remB cur l = true then l.amt else 0) := by rw [take_at hl1, remS_snoc]
    have hlen : (m.take k).length = k := by rw [List.length_take]; omega
    rw [hlen] at hb
    clear hm hlen
    generalize remS cur (m.take k) = R at *
    have hs0 := sh0 l.amt ha.1 (by omega)
    repeat' (first | ((with_reducible refine gA ?_); (first | refine AW_seq ?_ | refine AW_region ?_ | refine AW_condF rfl ?_ | (refine AW_cond rfl (fun hc => ?_) (fun hc => ?_) <;> try (exfalso; simp only [cmpL] at hc; omega)) | refine AW_block ?_ | refine AW_skip ?_)) | (((with_reducible refine gS ?_); apply Es_q); rfl; (first | rfl | (refine w_tt ?_; assumption)); (first | (refine LStep_conv (T := Tryz.tab) rfl rfl rfl rfl rfl ?_; (refine u64_fit ?_; omega)) | (refine lstep_shr (q := 0) rfl rfl rfl ?_ ?_ rfl; omega; exact hs0))) | ((with_reducible refine gS ?_); refine Es_s (T := Tryz.tab) rfl rfl rfl rfl ?_) | (((with_reducible refine gS ?_); apply Es_q); rfl; (first | rfl | (refine w_tt ?_; assumption)); (first | (refine lstep_add64 (q := R + l.amt) rfl rfl rfl rfl ?_ ?_ rfl; omega; omega) | (refine lstep_add64 (q := 0) rfl rfl rfl rfl ?_ ?_ rfl; omega; omega))) | (((with_reducible refine gS ?_); apply Es_q); rfl; (first | rfl | (refine w_tt ?_; assumption)); (first | refine LStep_simp (T := Tryz.tab) rfl rfl | (refine LStep_add rfl rfl rfl rfl ?_; (refine IntWalk.i64_in _ ?_; first | omega | (simp only [cmps] at *; omega))) | (refine LStep_pickT rfl rfl ?_ rfl rfl; assumption) | (refine LStep_pickF rfl rfl ?_ rfl rfl; assumption) | (refine LStep_indexM (T := Tryz.tab) (c := ?_) rfl rfl rfl rfl rfl rfl ?_; rotate_left; assumption))) | (refine Es_skip rfl ?_ rfl ?_; (first | rfl | (refine w_tf ?_; assumption) | (refine w_ft ?_; assumption))) | (((with_reducible refine gS ?_); apply Es_xs); rfl; rfl; refine LStep_allocN (T := Tryz.tab) rfl rfl rfl rfl rfl rfl; rfl) | (((with_reducible refine gS ?_); apply Es_xn); rfl; rfl; (refine LStep_storeN (T := Tryz.tab) rfl rfl rfl rfl rfl rfl rfl ?_ rfl; (refine Nat.le_of_ble_eq_true ?_; rfl)); rfl) | (refine Es_split rfl ?_ (fun _ => ?_) (fun _ => ?_); ((fail_if_success (refine und_t ?_; assumption)); (fail_if_success (refine und_f ?_; assumption)); exact trivial)) | (with_reducible refine Es_nil ?_) | (with_reducible refine then_n ?_) | (with_reducible refine block_n ?_))
    all_goals simp only [cmps] at *
    all_goals first
      | (rw [if_pos (by simp only [remB, Bool.and_eq_true, decide_eq_true_eq]; exact ⟨by assumption, by assumption⟩)] at ht
         refine ⟨k + 1, by omega, by omega, ?_, by (repeat' (first | exact trivial | exact rfl | (refine ⟨Or.inl rfl, ?_⟩) | (refine ⟨Or.inr rfl, ?_⟩) | (refine ⟨Or.inr trivial, ?_⟩) | (refine ⟨rfl, ?_⟩) | (refine ⟨?_, ?_⟩))), by (repeat' (first | exact trivial | exact rfl | (refine ⟨Or.inl rfl, ?_⟩) | (refine ⟨Or.inr rfl, ?_⟩) | (refine ⟨Or.inr trivial, ?_⟩) | (refine ⟨rfl, ?_⟩) | (refine ⟨?_, ?_⟩))), by (repeat' (first | exact trivial | exact rfl | (refine ⟨Or.inl rfl, ?_⟩) | (refine ⟨Or.inr rfl, ?_⟩) | (refine ⟨Or.inr trivial, ?_⟩) | (refine ⟨rfl, ?_⟩) | (refine ⟨?_, ?_⟩)))⟩
         rw [ht]; (repeat' (first | exact trivial | exact rfl | (refine ⟨Or.inl rfl, ?_⟩) | (refine ⟨Or.inr rfl, ?_⟩) | (refine ⟨Or.inr trivial, ?_⟩) | (refine ⟨rfl, ?_⟩) | (refine ⟨?_, ?_⟩))))
      | (rw [if_neg (by simp only [remB, Bool.and_eq_true, decide_eq_true_eq]; rintro ⟨g1, g2⟩; first | contradiction | omega), Int.add_zero] at ht
         refine ⟨k + 1, by omega, by omega, ?_, by (repeat' (first | exact trivial | exact rfl | (refine ⟨Or.inl rfl, ?_⟩) | (refine ⟨Or.inr rfl, ?_⟩) | (refine ⟨Or.inr trivial, ?_⟩) | (refine ⟨rfl, ?_⟩) | (refine ⟨?_, ?_⟩))), by (repeat' (first | exact trivial | exact rfl | (refine ⟨Or.inl rfl, ?_⟩) | (refine ⟨Or.inr rfl, ?_⟩) | (refine ⟨Or.inr trivial, ?_⟩) | (refine ⟨rfl, ?_⟩) | (refine ⟨?_, ?_⟩))), by (repeat' (first | exact trivial | exact rfl | (refine ⟨Or.inl rfl, ?_⟩) | (refine ⟨Or.inr rfl, ?_⟩) | (refine ⟨Or.inr trivial, ?_⟩) | (refine ⟨rfl, ?_⟩) | (refine ⟨?_, ?_⟩)))⟩
         rw [ht]; (repeat' (first | exact trivial | exact rfl | (refine ⟨Or.inl rfl, ?_⟩) | (refine ⟨Or.inr rfl, ?_⟩) | (refine ⟨Or.inr trivial, ?_⟩) | (refine ⟨rfl, ?_⟩) | (refine ⟨?_, ?_⟩))))
  · have : k = m.length := by omega
    subst this
    rw [List.take_length]
    have hb := remS_in cur m hm
    have hs0 := sh0 _ h3 (by omega)
    repeat' (first | ((with_reducible refine gA ?_); (first | refine AW_seq ?_ | refine AW_region ?_ | (refine AW_cond rfl (fun hc => ?_) (fun hc => ?_) <;> try (exfalso; simp only [cmpL] at hc; omega)) | refine AW_ret ?_ | refine AW_exit ?_)) | (((with_reducible refine gS ?_); apply Es_q); rfl; (first | rfl | (refine w_tt ?_; assumption)); (first | (refine LStep_conv (T := Tryz.tab) rfl rfl rfl rfl rfl ?_; (refine u64_fit ?_; omega)) | (refine lstep_shr (q := 0) rfl rfl rfl ?_ ?_ rfl; omega; exact hs0))) | ((with_reducible refine gS ?_); refine Es_s (T := Tryz.tab) rfl rfl rfl rfl ?_) | (((with_reducible refine gS ?_); apply Es_xg); rfl; (first | rfl | (refine w_tt ?_; assumption)); (first | refine LStep_callHN [] [] ca rfl rfl ⟨rfl, rfl, rfl, rfl, trivial⟩ rfl ⟨trivial, trivial, rfl, trivial, trivial⟩ rfl rfl | refine LStep_callHN [(1000, 1010), (1001, 1011), (1002, 1012), (1003, 1013)] [] cb rfl rfl ⟨rfl, rfl, rfl, rfl, trivial⟩ rfl ⟨trivial, trivial, rfl, trivial, trivial⟩ rfl rfl); rfl) | (((with_reducible refine gS ?_); apply Es_q); rfl; (first | rfl | (refine w_tt ?_; assumption)); (first | refine LStep_simp (T := Tryz.tab) rfl rfl | (refine LStep_add rfl rfl rfl rfl ?_; (refine IntWalk.i64_in _ ?_; first | omega | (simp only [cmps] at *; omega))) | (refine LStep_pickT rfl rfl ?_ rfl rfl; assumption) | (refine LStep_pickF rfl rfl ?_ rfl rfl; assumption))) | (refine Es_skip rfl ?_ rfl ?_; (first | rfl | (refine w_tf ?_; assumption) | (refine w_ft ?_; assumption))) | (refine Es_split rfl ?_ (fun _ => ?_) (fun _ => ?_); ((fail_if_success (refine und_t ?_; assumption)); (fail_if_success (refine und_f ?_; assumption)); exact trivial)) | (with_reducible refine Es_nil ?_) | (with_reducible refine then_n ?_) | (with_reducible refine then_e ?_) | ((with_reducible refine block_e ?_ ?_); rfl) | ((with_reducible refine gR ?_); first | refine ret1 rfl ?_ | refine ret2 rfl rfl ?_ | refine ret0 ?_ | refine end1 rfl ?_ | refine end0 ?_))
    · have hd : decide (remS cur m = balS sa (vo, cur) + balS sb (no, cur)) = true := decide_eq_true (eqb_t.1 (by assumption))
      rw [hd, eqb_t.2 rfl]
      exact ⟨rfl, rfl, rfl, rfl, rfl, rfl, rfl, rfl, rfl, trivial⟩
    · have hd : decide (remS cur m = balS sa (vo, cur) + balS sb (no, cur)) = false := decide_eq_false (eqb_f.1 (by assumption))
      rw [hd]
      exact ⟨rfl, rfl, rfl, rfl, rfl, rfl, rfl, rfl, rfl, trivial⟩
end Go.Proofs.YtofdnkgieigncaaGreat
