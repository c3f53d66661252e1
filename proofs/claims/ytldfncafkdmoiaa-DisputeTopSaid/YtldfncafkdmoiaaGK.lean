import Derived.Test.YtldfncafkdmoiaaGI
import Derived.Test.YtldfncafkdmoiaaGB
import Derived.Test.YtldfncafkdmoiaaFR
namespace Go.Proofs.Ytldfncafkdmoiaa
open Go.SL
/-! ### DisputeMoney -/
theorem srtR41 (rs : List Nat) (n : Nat) (hn : rs.length = n) (h : n ≤ 41) : srtR rs n :=
  sortM_ac n (List.range n) List.length_range h n (fun _ hx _ hy => cbR_ac rs n hn (List.mem_range.1 hx) (List.mem_range.1 hy)) (swoR rs)
/-- all splits that Money asks for, of 41 claimants at most -/
theorem spl_few (l : List Cl) (t : Nat) (ht : t ≤ 1099511627776) (hl : l.length ≤ 41) (hm : l.all mayC = true) : spl l t := by
  intro u ws hu h0 hlen hmem hlt
  have hmm : ∀ x ∈ l, 0 ≤ x.am ∧ x.am ≤ 1099511627776 := fun x hx => by
    have := mayC_of (List.all_eq_true.1 hm x hx)
    exact ⟨this.2.2.2.2.2.2.1, this.2.2.2.2.2.2.2⟩
  have hw : ∀ x ∈ ws, x ≤ 1099511627776 := fun x hx => by
    obtain ⟨y, hy, e⟩ := hmem x hx
    have := hmm y hy
    omega
  have hs1 : ws.sum ≤ 45079976738816 := by
    have := sum_le ws _ hw
    have : ws.length * 1099511627776 ≤ 41 * 1099511627776 := Nat.mul_le_mul_right _ (by omega)
    omega
  have hs0 : 0 < ws.sum := by omega
  refine split_ac u ws (by omega) h0 (by omega) hw (fun _ => hs0) (fun w hx => ?_) (srtR41 _ _ (by unfold shR; rw [List.length_map]) (by omega))
  have hwb := hw w hx
  have hp : u * w ≤ u * 1099511627776 := Nat.mul_le_mul_left u hwb
  have hp2 : u * w < ws.sum * 18446744073709551616 := by
    have : u * 1099511627776 ≤ ws.sum * 1099511627776 := Nat.mul_le_mul_right _ (by omega)
    omega
  have c := div64_ac (u * w / 18446744073709551616) (u * w % 18446744073709551616) ws.sum (by
    rw [Nat.div_lt_iff_lt_mul (by decide)]; exact hp2) (by omega) (Nat.mod_lt _ (by decide))
  rw [Nat.div_add_mod'] at c
  exact c
set_option maxRecDepth 10000 in
theorem moneyNo_ac (n : Int) (l : List Cl) (hl : l.length ≤ 4096) (h : n < 0 ∨ 1099511627776 < n ∨ l.all mayC = false) :
    AC Try.prog 18 [.d (.sc (.int .i64 n)), .d (.sl 5 (l.map Cl.enc))] [] [] (fun r _ => r = .tup [.d (.sc (.slice none 0 0)), .d (.sc (.int .i64 0)), .d (.sc (.int .i64 1))]) := by
  by_cases h1 : n < 0
  · have g1 : ltb n 0 = true := ltb_t.2 h1
    refine AC_enter Try.func18 rfl Try.ntmps18 (rv := [.tmp 4, .tmp 5, .tmp 6]) rfl rfl (by simp) (fun w X G => ?_)
    repeat' (first | ((with_reducible refine gA ?_); (first | refine AW_seq ?_ | refine AW_region ?_ | refine AW_condT rfl ?_ | refine AW_ret ?_)) | ((with_reducible refine gS ?_); refine Es_s (T := Try.tab) rfl rfl rfl rfl ?_) | (((with_reducible refine gS ?_); apply Es_q); rfl; rfl; (refine LStep_pickT rfl rfl ?_ rfl rfl; assumption)) | (refine Es_skip rfl ?_ rfl ?_; (first | rfl | (refine w_tf ?_; assumption) | (refine w_ft ?_; assumption))) | (with_reducible refine Es_nil ?_) | (with_reducible refine then_n ?_) | (with_reducible refine then_r ?_))
    all_goals first
      | rfl
      | trace_state
  have g1 : ltb n 0 = false := ltb_f.2 (by omega)
  by_cases h2 : 1099511627776 < n
  · have g2 : ltb 1099511627776 n = true := ltb_t.2 h2
    refine AC_enter Try.func18 rfl Try.ntmps18 (rv := [.tmp 4, .tmp 5, .tmp 6]) rfl rfl (by simp) (fun w X G => ?_)
    repeat' (first | ((with_reducible refine gA ?_); (first | refine AW_seq ?_ | refine AW_region ?_ | (refine AW_condY rfl ?_ ?_; assumption) | refine AW_ret ?_)) | ((with_reducible refine gS ?_); refine Es_s (T := Try.tab) rfl rfl rfl rfl ?_) | (((with_reducible refine gS ?_); apply Es_q); rfl; (first | rfl | (refine w_ff ?_; assumption)); (first | refine LStep_simp (T := Try.tab) rfl rfl | (refine LStep_pickF rfl rfl ?_ rfl rfl; assumption))) | (with_reducible refine Es_nil ?_) | (with_reducible refine then_n ?_) | (with_reducible refine then_r ?_))
    all_goals first
      | rfl
      | trace_state
  have g2 : ltb 1099511627776 n = false := ltb_f.2 (by omega)
  have hm : l.all mayC = false := by
    rcases h with q | q | q
    · omega
    · omega
    · exact q
  have cw := wrong_ac l hl
  rw [show wrongC l = 1 from if_neg (by rw [hm]; decide)] at cw
  refine AC_enter Try.func18 rfl Try.ntmps18 (rv := [.tmp 4, .tmp 5, .tmp 6]) rfl rfl (by simp) (fun w X G => ?_)
  repeat' (first | ((with_reducible refine gA ?_); (first | refine AW_seq ?_ | refine AW_region ?_ | (refine AW_condN rfl ?_ ?_; assumption) | (refine AW_cond rfl (fun hc => ?_) (fun hc => ?_) <;> try (exfalso; simp only [cmpL] at hc; omega)) | refine AW_ret ?_ | refine AW_skip ?_)) | ((with_reducible refine gS ?_); refine Es_s (T := Try.tab) rfl rfl rfl rfl ?_) | (((with_reducible refine gS ?_); apply Es_q); rfl; (first | rfl | (refine w_ff ?_; assumption)); refine LStep_call (cw) rfl rfl rfl rfl) | (((with_reducible refine gS ?_); apply Es_q); rfl; (first | rfl | (refine w_ff ?_; assumption)); (first | refine LStep_simp (T := Try.tab) rfl rfl | (refine LStep_pickF rfl rfl ?_ rfl rfl; assumption))) | (with_reducible refine Es_nil ?_) | (with_reducible refine then_n ?_) | (with_reducible refine then_r ?_))
  all_goals first
    | rfl
    | trace_state
theorem map_nNI (l : List Nat) : l.map nN = (l.map fun n => ((n : Nat) : Int)).map nI := by rw [List.map_map]; rfl
set_option maxRecDepth 10000 in
set_option maxHeartbeats 8000000 in
theorem lmoney_ac (n : Int) (l : List Cl) (hl : l.length ≤ 140737488351232) (hs : ∀ c ∈ l, c.In) : AC Try.prog 4 [.d (.sc (.int .i64 n)), .d (.sl 5 (l.map Cl.enc))] [] [] (fun r _ => r = .d (.sc (.bool true))) := by
  have e00 : eqb (0 : Int) 0 = true := eqb_t.2 rfl
  have e10 : eqb (1 : Int) 0 = false := eqb_f.2 (by decide)
  have e11 : eqb (1 : Int) 1 = true := eqb_t.2 rfl
  have n00 : (!(eqb (0 : Int) 0)) = false := by rw [e00]; rfl
  have n10 : (!(eqb (1 : Int) 0)) = true := by rw [e10]; rfl
  have cf := rfew_ac l hl hs
  cases hf : fewCl l with
  | false =>
    rw [hf] at cf
    refine AC_enter Try.func4 rfl Try.ntmps4 (rv := [.tmp 4]) rfl rfl (by simp) (fun w X G => ?_)
    repeat' (first | ((with_reducible refine gA ?_); (first | refine AW_seq ?_ | refine AW_region ?_ | refine AW_condT rfl ?_ | refine AW_condF rfl ?_ | refine AW_ret ?_ | refine AW_skip ?_)) | ((with_reducible refine gS ?_); refine Es_s (T := Try.tab) rfl rfl rfl rfl ?_) | (((with_reducible refine gS ?_); apply Es_q); rfl; rfl; (first | refine LStep_call (awake_ac) rfl rfl rfl rfl | refine LStep_call (cf) rfl rfl rfl rfl)) | (with_reducible refine Es_nil ?_) | (with_reducible refine then_n ?_) | (with_reducible refine then_r ?_) | ((with_reducible refine gR ?_); first | refine ret1 rfl ?_ | refine ret2 rfl rfl ?_ | refine ret0 ?_ | refine end1 rfl ?_ | refine end0 ?_))
    all_goals first
      | rfl
      | trace_state
  | true =>
  have h41 := few_len hf
  rw [hf] at cf
  have cw := rwrong_ac l (by omega) hs
  cases hm : l.all mayC with
  | false =>
    have ca := moneyNo_ac n l (by omega) (.inr (.inr hm))
    rw [show wrongC l = 1 from if_neg (by rw [hm]; decide)] at cw
    refine AC_enter Try.func4 rfl Try.ntmps4 (rv := [.tmp 4]) rfl rfl (by simp) (fun w X G => ?_)
    repeat' (first | ((with_reducible refine gA ?_); (first | refine AW_seq ?_ | refine AW_region ?_ | refine AW_condF rfl ?_ | (refine AW_condY rfl ?_ ?_; assumption) | refine AW_ret ?_ | refine AW_skip ?_)) | ((with_reducible refine gS ?_); refine Es_s (T := Try.tab) rfl rfl rfl rfl ?_) | (((with_reducible refine gS ?_); apply Es_q); rfl; (first | rfl | (refine w_tt ?_; assumption)); (first | refine LStep_call (awake_ac) rfl rfl rfl rfl | refine LStep_call (cf) rfl rfl rfl rfl | refine LStep_call (ca) rfl rfl rfl rfl | refine LStep_call (cw) rfl rfl rfl rfl)) | (((with_reducible refine gS ?_); apply Es_q); rfl; (first | rfl | (refine w_tt ?_; assumption)); (first | refine LStep_simp (T := Try.tab) rfl rfl | refine LStep_wrap (T := Try.tab) rfl rfl | (refine LStep_pickT rfl rfl ?_ rfl rfl; assumption) | (refine LStep_pickF rfl rfl ?_ rfl rfl; assumption))) | (refine Es_skip rfl ?_ rfl ?_; (first | rfl | (refine w_tf ?_; assumption) | (refine w_ft ?_; assumption))) | (with_reducible refine Es_nil ?_) | (with_reducible refine then_n ?_) | (with_reducible refine then_r ?_) | ((with_reducible refine gR ?_); first | refine ret1 rfl ?_ | refine ret2 rfl rfl ?_ | refine ret0 ?_ | refine end1 rfl ?_ | refine end0 ?_))
    all_goals first
      | rfl
      | (rw [eqb_t.2 rfl]; done)
      | trace_state
  | true =>
  rw [show wrongC l = 0 from if_pos hm] at cw
  by_cases h1 : n < 0
  · have g1 : ltb n 0 = true := ltb_t.2 h1
    have ca := moneyNo_ac n l (by omega) (.inl h1)
    refine AC_enter Try.func4 rfl Try.ntmps4 (rv := [.tmp 4]) rfl rfl (by simp) (fun w X G => ?_)
    repeat' (first | ((with_reducible refine gA ?_); (first | refine AW_seq ?_ | refine AW_region ?_ | refine AW_condT rfl ?_ | refine AW_condF rfl ?_ | (refine AW_condY rfl ?_ ?_; assumption) | refine AW_ret ?_ | refine AW_skip ?_)) | ((with_reducible refine gS ?_); refine Es_s (T := Try.tab) rfl rfl rfl rfl ?_) | (((with_reducible refine gS ?_); apply Es_q); rfl; (first | rfl | (refine w_tt ?_; assumption)); (first | refine LStep_call (awake_ac) rfl rfl rfl rfl | refine LStep_call (cf) rfl rfl rfl rfl | refine LStep_call (ca) rfl rfl rfl rfl | refine LStep_call (cw) rfl rfl rfl rfl)) | (((with_reducible refine gS ?_); apply Es_q); rfl; (first | rfl | (refine w_tt ?_; assumption)); (first | refine LStep_simp (T := Try.tab) rfl rfl | refine LStep_wrap (T := Try.tab) rfl rfl | (refine LStep_pickT rfl rfl ?_ rfl rfl; assumption))) | (refine Es_skip rfl ?_ rfl ?_; (first | rfl | (refine w_tf ?_; assumption) | (refine w_ft ?_; assumption))) | (with_reducible refine Es_nil ?_) | (with_reducible refine then_n ?_) | (with_reducible refine then_r ?_) | ((with_reducible refine gR ?_); first | refine ret1 rfl ?_ | refine ret2 rfl rfl ?_ | refine ret0 ?_ | refine end1 rfl ?_ | refine end0 ?_))
    all_goals first
      | rfl
      | (rw [eqb_t.2 rfl]; done)
      | trace_state
  have g1 : ltb n 0 = false := ltb_f.2 (by omega)
  by_cases h2 : 1099511627776 < n
  · have g2 : ltb 1099511627776 n = true := ltb_t.2 h2
    have ca := moneyNo_ac n l (by omega) (.inr (.inl h2))
    refine AC_enter Try.func4 rfl Try.ntmps4 (rv := [.tmp 4]) rfl rfl (by simp) (fun w X G => ?_)
    repeat' (first | ((with_reducible refine gA ?_); (first | refine AW_seq ?_ | refine AW_region ?_ | refine AW_condF rfl ?_ | (refine AW_condY rfl ?_ ?_; assumption) | refine AW_ret ?_ | refine AW_skip ?_)) | ((with_reducible refine gS ?_); refine Es_s (T := Try.tab) rfl rfl rfl rfl ?_) | (((with_reducible refine gS ?_); apply Es_q); rfl; (first | rfl | (refine w_tt ?_; assumption) | (refine w_ff ?_; assumption)); (first | refine LStep_call (awake_ac) rfl rfl rfl rfl | refine LStep_call (cf) rfl rfl rfl rfl | refine LStep_call (ca) rfl rfl rfl rfl | refine LStep_call (cw) rfl rfl rfl rfl)) | (((with_reducible refine gS ?_); apply Es_q); rfl; (first | rfl | (refine w_tt ?_; assumption) | (refine w_ff ?_; assumption)); (first | refine LStep_simp (T := Try.tab) rfl rfl | refine LStep_wrap (T := Try.tab) rfl rfl | (refine LStep_pickT rfl rfl ?_ rfl rfl; assumption) | (refine LStep_pickF rfl rfl ?_ rfl rfl; assumption))) | (with_reducible refine Es_nil ?_) | (with_reducible refine then_n ?_) | (with_reducible refine then_r ?_) | ((with_reducible refine gR ?_); first | refine ret1 rfl ?_ | refine ret2 rfl rfl ?_ | refine ret0 ?_ | refine end1 rfl ?_ | refine end0 ?_))
    all_goals first
      | rfl
      | (rw [eqb_t.2 rfl]; done)
      | trace_state
  have g2 : ltb 1099511627776 n = false := ltb_f.2 (by omega)
  obtain ⟨t, rfl⟩ : ∃ t : Nat, n = ((t : Nat) : Int) := ⟨n.toNat, by omega⟩
  have ca := money_ac t l (by omega) (by omega) hm (spl_few l t (by omega) h41 hm)
  have cr := rmoney_ac t l (by omega) h41 hm
  rw [(docM_eq l t 5).1] at cr
  have hlen := monN_len l t 5
  generalize (monN l t 5).1 = p at *
  generalize (monN l t 5).2 = q at *
  rw [map_nNI] at ca cr
  have cs := psame_ac (p.map fun n => ((n : Nat) : Int)) (p.map fun n => ((n : Nat) : Int)) (by rw [List.length_map]; omega) (by rw [List.length_map]; omega)
  rw [decide_eq_true rfl] at cs
  generalize (p.map fun n => ((n : Nat) : Int)) = p' at *
  have e1 : eqb ((q : Nat) : Int) ((q : Nat) : Int) = true := eqb_t.2 rfl
  refine AC_enter Try.func4 rfl Try.ntmps4 (rv := [.tmp 4]) rfl rfl (by simp) (fun w X G => ?_)
  repeat' (first | ((with_reducible refine gA ?_); (first | refine AW_seq ?_ | refine AW_region ?_ | refine AW_condF rfl ?_ | (refine AW_condN rfl ?_ ?_; assumption) | refine AW_ret ?_ | refine AW_skip ?_)) | ((with_reducible refine gS ?_); refine Es_s (T := Try.tab) rfl rfl rfl rfl ?_) | (((with_reducible refine gS ?_); apply Es_q); rfl; (first | rfl | (refine w_tt ?_; assumption) | (refine w_ff ?_; assumption)); (first | refine LStep_call (awake_ac) rfl rfl rfl rfl | refine LStep_call (cf) rfl rfl rfl rfl | refine LStep_call (ca) rfl rfl rfl rfl | refine LStep_call (cw) rfl rfl rfl rfl | refine LStep_call (cr) rfl rfl rfl rfl | refine LStep_call (cs) rfl rfl rfl rfl)) | (((with_reducible refine gS ?_); apply Es_q); rfl; (first | rfl | (refine w_tt ?_; assumption) | (refine w_ff ?_; assumption)); (first | refine LStep_simp (T := Try.tab) rfl rfl | (refine LStep_pickT rfl rfl ?_ rfl rfl; assumption) | (refine LStep_pickF rfl rfl ?_ rfl rfl; assumption))) | (with_reducible refine Es_nil ?_) | (with_reducible refine then_n ?_) | ((with_reducible refine gR ?_); first | refine ret1 rfl ?_ | refine ret2 rfl rfl ?_ | refine ret0 ?_ | refine end1 rfl ?_ | refine end0 ?_))
  all_goals first
    | rfl
    | (rw [eqb_t.2 rfl]; done)
    | trace_state
end Go.Proofs.Ytldfncafkdmoiaa
