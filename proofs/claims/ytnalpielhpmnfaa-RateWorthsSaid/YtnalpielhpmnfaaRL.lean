import Derived.Test.YtnalpielhpmnfaaRK
namespace Go.Proofs.Ytnalpielhpmnfaa
open Go.SL
/-! ### awake; RateGets, RateBack -/
theorem eqS_rt : eqS Try.tab 8 29 = some [1, 1] := by kernel_rfl
theorem eqG_rt : Try.prog.eqGuardType Try.prog.depth 29 = false := by kernel_rfl
theorem eqS_mn : eqS Try.tab 8 40 = some [2, 1] := by kernel_rfl
theorem eqG_mn : Try.prog.eqGuardType Try.prog.depth 40 = false := by kernel_rfl
theorem rt_refl (n d : Int) : eqVs [1, 1] [.int .i64 n, .int .i64 d] [.int .i64 n, .int .i64 d] = some true := by
  have h1 : eqb n n = true := eqb_t.2 rfl
  have h2 : eqb d d = true := eqb_t.2 rfl
  show some (eqb n n && (eqb d d && true)) = some true
  rw [h1, h2]; rfl
theorem mn_refl (c : ByteArray) (d : Int) : eqVs [2, 1] [.string c, .int .i64 d] [.string c, .int .i64 d] = some true := by
  have h1 : eqs c c = true := eqs_t.2 rfl
  have h2 : eqb d d = true := eqb_t.2 rfl
  show some (eqs c c && (eqb d d && true)) = some true
  rw [h1, h2]; rfl
def USD : ByteArray := ⟨#[85, 83, 68]⟩
def EUR : ByteArray := ⟨#[69, 85, 82]⟩
def rX0 : RP := ((USD, EUR, 5), (9, 10))
theorem aw_inv : RInv [rX0] := ⟨by decide +kernel, fun x hx => by rw [List.mem_singleton.1 hx]; decide +kernel⟩
theorem aw_1 : setE [] rX0 = 0 := by decide +kernel
theorem aw_2 : setL [] rX0 = [rX0] := by decide +kernel
theorem aw_3 : getR [rX0] EUR USD 7 = some (10, 9) := by decide +kernel
theorem aw_4 : getR [rX0] EUR USD 4 = none := by decide +kernel
theorem aw_5 : cvtR [rX0] (USD, 15) EUR 7 = some (13, (1, 2)) := by decide +kernel
set_option maxRecDepth 10000 in
set_option maxHeartbeats 4000000 in
theorem awake_ac : AC Try.prog 11 [] [] [] (fun r _ => r = .d (.sc (.bool true))) := by
  have cn := new_ac
  have c1 := set_ac [] rX0 (by decide)
  rw [aw_1, aw_2] at c1
  have c2 := get_ac [rX0] EUR USD 7 aw_inv (by decide)
  rw [aw_3, lkV_some] at c2
  have c3 := get_ac [rX0] EUR USD 4 aw_inv (by decide)
  rw [aw_4, lkV_none] at c3
  have c4 := cvt_ac [rX0] (USD, 15) EUR 7 aw_inv (by decide)
  rw [aw_5, cvV_some] at c4
  unfold hR at c1 c2 c3 c4
  unfold rAV rX0 at c1
  unfold mnV at c4
  unfold USD EUR at *
  dsimp only at c1 c2 c3 c4
  refine AC_enter Try.func11 rfl Try.ntmps11 (rv := [.tmp 0]) rfl rfl (by simp) (fun w X G => ?_)
  repeat' (first | ((with_reducible refine gA ?_); (first | refine AW_seq ?_ | refine AW_region ?_ | refine AW_condF rfl ?_ | refine AW_ret ?_ | refine AW_skip ?_)) | ((with_reducible refine gS ?_); refine Es_s (T := Try.tab) rfl rfl rfl rfl ?_) | (((with_reducible refine gS ?_); apply Es_q); rfl; (first | rfl | (refine w_tt ?_; assumption)); (first | refine LStep_eqNilP (T := Try.tab) rfl rfl rfl rfl | refine LStep_eqAgg (T := Try.tab) eqS_rt eqG_rt (by omega) rfl rfl rfl rfl (rt_refl _ _) rfl | refine LStep_eqAgg (T := Try.tab) eqS_mn eqG_mn (by omega) rfl rfl rfl rfl (mn_refl _ _) rfl)) | (((with_reducible refine gS ?_); apply Es_xg); rfl; (first | rfl | (refine w_tt ?_; assumption)); (first | refine LStep_callHN [] [(3, 10), (1, 1010)] cn rfl rfl trivial rfl trivial rfl rfl | refine LStep_callHN [(1000, 10), (1001, 1010)] [] c1 rfl rfl ⟨rfl, rfl, trivial⟩ rfl ⟨trivial, trivial, trivial⟩ rfl rfl | refine LStep_callHN [(1000, 10), (1001, 1010)] [] c2 rfl rfl ⟨rfl, rfl, trivial⟩ rfl ⟨trivial, trivial, trivial⟩ rfl rfl | refine LStep_callHN [(1000, 10), (1001, 1010)] [] c3 rfl rfl ⟨rfl, rfl, trivial⟩ rfl ⟨trivial, trivial, trivial⟩ rfl rfl | refine LStep_callHN [(1000, 10), (1001, 1010)] [] c4 rfl rfl ⟨rfl, rfl, trivial⟩ rfl ⟨trivial, trivial, trivial⟩ rfl rfl); rfl) | (((with_reducible refine gS ?_); apply Es_q); rfl; (first | rfl | (refine w_tt ?_; assumption)); (first | refine LStep_simp (T := Try.tab) rfl rfl | (refine LStep_pickT rfl rfl ?_ rfl rfl; assumption) | (refine LStep_pickF rfl rfl ?_ rfl rfl; assumption) | refine LStep_buildN (T := Try.tab) rfl rfl rfl rfl rfl rfl rfl)) | (refine Es_skip rfl ?_ rfl ?_; (first | rfl | (refine w_tf ?_; assumption) | (refine w_ft ?_; assumption))) | (((with_reducible refine gS ?_); apply Es_xs); rfl; rfl; refine LStep_allocN (T := Try.tab) rfl rfl rfl rfl rfl rfl; rfl) | (((with_reducible refine gS ?_); apply Es_xn); rfl; rfl; (refine LStep_storeN (T := Try.tab) rfl rfl rfl rfl rfl rfl rfl ?_ rfl; (refine Nat.le_of_ble_eq_true ?_; rfl)); rfl) | (refine Es_split rfl ?_ (fun _ => ?_) (fun _ => ?_); ((fail_if_success (refine und_t ?_; assumption)); (fail_if_success (refine und_f ?_; assumption)); exact trivial)) | (with_reducible refine Es_nil ?_) | (with_reducible refine then_n ?_) | ((with_reducible refine gR ?_); first | refine ret1 rfl ?_ | refine ret2 rfl rfl ?_ | refine ret0 ?_ | refine end1 rfl ?_ | refine end0 ?_))
  all_goals try simp only [cmps] at *
  all_goals first
    | rfl
    | (exfalso; contradiction)
    | trace_state
set_option maxRecDepth 10000 in
set_option maxHeartbeats 4000000 in
theorem gets_ac (l : List RP) (f t : ByteArray) (day : Int) (hl : l.length ≤ 140737488351232) (hs : ∀ x ∈ l, x.1.1.size ≤ 140737488351232 ∧ x.1.2.1.size ≤ 140737488351232) (hf : f.size ≤ 140737488351232) (ht : t.size ≤ 140737488351232) :
    AC Try.prog 3 [.d (.sl 5 (l.map rEnc)), .d (.sc (.string f)), .d (.sc (.string t)), .d (.sc (.int .i64 day))] [] [] (fun r _ => r = .d (.sc (.bool true))) := by
  have c0 := awake_ac
  have c1 := long_ac l hl hs
  cases hlg : longB l with
  | true =>
    rw [hlg] at c1
    refine AC_enter Try.func3 rfl Try.ntmps3 (rv := [.tmp 8]) rfl rfl (by simp) (fun w X G => ?_)
    repeat' (first | ((with_reducible refine gA ?_); (first | refine AW_seq ?_ | refine AW_region ?_ | refine AW_condT rfl ?_ | refine AW_ret ?_)) | ((with_reducible refine gS ?_); refine Es_s (T := Try.tab) rfl rfl rfl rfl ?_) | (((with_reducible refine gS ?_); apply Es_q); rfl; rfl; (first | refine LStep_call (c0) rfl rfl rfl rfl | refine LStep_call (c1) rfl rfl rfl rfl)) | (refine Es_skip rfl ?_ rfl ?_; (first | rfl | (refine w_tf ?_; assumption) | (refine w_ft ?_; assumption))) | (with_reducible refine Es_nil ?_) | (with_reducible refine then_n ?_) | (with_reducible refine then_r ?_) | ((with_reducible refine gR ?_); first | refine ret1 rfl ?_ | refine ret2 rfl rfl ?_ | refine ret0 ?_ | refine end1 rfl ?_ | refine end0 ?_))
    all_goals try simp only at *
    all_goals first
      | rfl
      | trace_state
  | false =>
    rw [hlg] at c1
    obtain ⟨hl1, _⟩ := longB_f hlg
    have cf := fill_ac l hl1
    obtain ⟨hi, hal⟩ := accR_all l
    have cg := get_ac (accR l) f t day hi (by omega)
    have cr := rGet_ac (accR l) f t day hi (by omega)
    unfold hR2 at cf
    unfold hR at cg
    cases hx : getR (accR l) f t day with
    | none =>
      rw [hx, lkV_none] at cg cr
      refine AC_enter Try.func3 rfl Try.ntmps3 (rv := [.tmp 8]) rfl rfl (by simp) (fun w X G => ?_)
      repeat' (first | ((with_reducible refine gA ?_); (first | refine AW_seq ?_ | refine AW_region ?_ | refine AW_condF rfl ?_ | (refine AW_cond rfl (fun hc => ?_) (fun hc => ?_) <;> try (exfalso; simp only [cmpL] at hc; omega)) | refine AW_ret ?_ | refine AW_skip ?_)) | ((with_reducible refine gS ?_); refine Es_s (T := Try.tab) rfl rfl rfl rfl ?_) | (((with_reducible refine gS ?_); apply Es_q); rfl; rfl; (first | refine LStep_call (c0) rfl rfl rfl rfl | refine LStep_call (c1) rfl rfl rfl rfl | refine LStep_call (cr) rfl rfl rfl rfl | refine LStep_eqNilP (T := Try.tab) rfl rfl rfl rfl | refine LStep_eqAgg (T := Try.tab) eqS_rt eqG_rt (by omega) rfl rfl rfl rfl (rt_refl _ _) rfl | refine LStep_eqBoolT (T := Try.tab) rfl rfl rfl rfl rfl rfl)) | (((with_reducible refine gS ?_); apply Es_xg); rfl; rfl; (first | refine LStep_callHN [] [(10, 28), (1010, 2801)] cf rfl rfl trivial rfl trivial rfl rfl | refine LStep_callHN [(1000, 28), (1001, 2801)] [] cg rfl rfl ⟨rfl, rfl, trivial⟩ rfl ⟨trivial, trivial, trivial⟩ rfl rfl); rfl) | (((with_reducible refine gS ?_); apply Es_q); rfl; rfl; (first | refine LStep_simp (T := Try.tab) rfl rfl | (refine LStep_add rfl rfl rfl rfl ?_; (refine IntWalk.i64_in _ ?_; first | omega | (simp only [cmps] at *; omega))) | refine LStep_wrap (T := Try.tab) rfl rfl)) | (refine Es_skip rfl ?_ rfl ?_; (first | rfl | (refine w_tf ?_; assumption) | (refine w_ft ?_; assumption))) | (((with_reducible refine gS ?_); apply Es_xs); rfl; rfl; refine LStep_allocN (T := Try.tab) rfl rfl rfl rfl rfl rfl; rfl) | (((with_reducible refine gS ?_); apply Es_xn); rfl; rfl; (refine LStep_storeN (T := Try.tab) rfl rfl rfl rfl rfl rfl rfl ?_ rfl; (refine Nat.le_of_ble_eq_true ?_; rfl)); rfl) | (with_reducible refine Es_nil ?_) | (with_reducible refine then_n ?_) | (with_reducible refine then_r ?_) | ((with_reducible refine gR ?_); first | refine ret1 rfl ?_ | refine ret2 rfl rfl ?_ | refine ret0 ?_ | refine end1 rfl ?_ | refine end0 ?_))
      all_goals try simp only [cmps] at *
      all_goals first
        | rfl
        | (exfalso; contradiction)
        | trace_state
    | some y =>
      rw [hx, lkV_some] at cg cr
      refine AC_enter Try.func3 rfl Try.ntmps3 (rv := [.tmp 8]) rfl rfl (by simp) (fun w X G => ?_)
      repeat' (first | ((with_reducible refine gA ?_); (first | refine AW_seq ?_ | refine AW_region ?_ | refine AW_condF rfl ?_ | (refine AW_cond rfl (fun hc => ?_) (fun hc => ?_) <;> try (exfalso; simp only [cmpL] at hc; omega)) | refine AW_ret ?_ | refine AW_skip ?_)) | ((with_reducible refine gS ?_); refine Es_s (T := Try.tab) rfl rfl rfl rfl ?_) | (((with_reducible refine gS ?_); apply Es_q); rfl; rfl; (first | refine LStep_call (c0) rfl rfl rfl rfl | refine LStep_call (c1) rfl rfl rfl rfl | refine LStep_call (cr) rfl rfl rfl rfl | refine LStep_eqNilP (T := Try.tab) rfl rfl rfl rfl | refine LStep_eqAgg (T := Try.tab) eqS_rt eqG_rt (by omega) rfl rfl rfl rfl (rt_refl _ _) rfl | refine LStep_eqBoolT (T := Try.tab) rfl rfl rfl rfl rfl rfl)) | (((with_reducible refine gS ?_); apply Es_xg); rfl; rfl; (first | refine LStep_callHN [] [(10, 28), (1010, 2801)] cf rfl rfl trivial rfl trivial rfl rfl | refine LStep_callHN [(1000, 28), (1001, 2801)] [] cg rfl rfl ⟨rfl, rfl, trivial⟩ rfl ⟨trivial, trivial, trivial⟩ rfl rfl); rfl) | (((with_reducible refine gS ?_); apply Es_q); rfl; rfl; (first | refine LStep_simp (T := Try.tab) rfl rfl | (refine LStep_add rfl rfl rfl rfl ?_; (refine IntWalk.i64_in _ ?_; first | omega | (simp only [cmps] at *; omega))) | refine LStep_wrap (T := Try.tab) rfl rfl)) | (refine Es_skip rfl ?_ rfl ?_; (first | rfl | (refine w_tf ?_; assumption) | (refine w_ft ?_; assumption))) | (((with_reducible refine gS ?_); apply Es_xs); rfl; rfl; refine LStep_allocN (T := Try.tab) rfl rfl rfl rfl rfl rfl; rfl) | (((with_reducible refine gS ?_); apply Es_xn); rfl; rfl; (refine LStep_storeN (T := Try.tab) rfl rfl rfl rfl rfl rfl rfl ?_ rfl; (refine Nat.le_of_ble_eq_true ?_; rfl)); rfl) | (with_reducible refine Es_nil ?_) | (with_reducible refine then_n ?_) | (with_reducible refine then_r ?_) | ((with_reducible refine gR ?_); first | refine ret1 rfl ?_ | refine ret2 rfl rfl ?_ | refine ret0 ?_ | refine end1 rfl ?_ | refine end0 ?_))
      all_goals try simp only [cmps] at *
      all_goals first
        | rfl
        | (exfalso; contradiction)
        | trace_state
end Go.Proofs.Ytnalpielhpmnfaa
