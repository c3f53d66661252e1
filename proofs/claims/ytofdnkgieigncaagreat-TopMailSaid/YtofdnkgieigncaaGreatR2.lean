import Derived.Test.YtofdnkgieigncaaGreatR1
namespace Go.Proofs.YtofdnkgieigncaaGreat
open Go.SL

/-! ### letters compared -/
theorem eqS_mon : eqS Tryz.tab 8 36 = some [2, 1] := by kernel_rfl
theorem eqG_mon : Tryz.prog.eqGuardType Tryz.prog.depth 36 = false := by kernel_rfl
def Lt.eqB (x y : Lt) : Bool :=
  eqs x.sfrom y.sfrom && eqs x.sto y.sto && eqb x.number y.number && eqb x.kind y.kind && eqb x.ack y.ack && eqs x.deal y.deal && eqs x.text y.text && eqs x.party y.party && eqb x.index y.index && eqb x.day y.day && (eqs x.cur y.cur && (eqb x.amt y.amt && true)) && allB Dc.eqB x.docs y.docs && allB eqs x.boxes y.boxes
theorem Lt.eqB_iff (x y : Lt) : x.eqB y = true ↔ x = y := by
  simp only [Lt.eqB, Bool.and_eq_true, Bool.and_true, eqs_t, eqb_t, allB_iff Dc.eqB_iff, allB_iff (fun _ _ => eqs_t)]
  constructor
  · intro h; cases x; cases y; simp_all
  · rintro rfl; simp
def Lt.tB (x y : Lt) : Bool := eqs x.sfrom y.sfrom && eqs x.sto y.sto && eqb x.number y.number
theorem Lt.tB_iff (x y : Lt) : x.tB y = true ↔ x.sfrom = y.sfrom ∧ x.sto = y.sto ∧ x.number = y.number := by
  simp only [Lt.tB, Bool.and_eq_true, eqs_t, eqb_t, and_assoc]

set_option maxRecDepth 10000 in
theorem key_ac (x : Lt) : AC Tryz.prog 35 [.agg x.cs] [] [] (fun r _ => r = .agg [.d (.sc (.string x.sfrom)), .d (.sc (.string x.sto)), .d (.sc (.int .i64 x.number))]) := by
  refine AC_enterC Tryz.tab Tryz.func35 rfl Tryz.ntmps35 (a0 := 2) (t0 := 105) rfl rfl (by simp) (fun w X G => ?_)
  repeat' (first | ((with_reducible refine gA ?_); (first | refine AW_seq ?_ | refine AW_region ?_ | refine AW_ret ?_)) | ((with_reducible refine gS ?_); refine Es_s (T := Tryz.tab) rfl rfl rfl rfl ?_) | (((with_reducible refine gS ?_); apply Es_q); rfl; rfl; refine LStep_buildN (T := Tryz.tab) rfl rfl rfl rfl rfl rfl rfl) | (refine Es_skip rfl ?_ rfl ?_; (first | rfl | (refine w_tf ?_; assumption) | (refine w_ft ?_; assumption))) | (((with_reducible refine gS ?_); apply Es_xs); rfl; rfl; (first | refine LStep_boxN rfl rfl rfl rfl rfl rfl | refine LStep_allocN (T := Tryz.tab) rfl rfl rfl rfl rfl rfl); rfl) | (((with_reducible refine gS ?_); apply Es_xn); rfl; rfl; (refine LStep_storeN (T := Tryz.tab) rfl rfl rfl rfl rfl rfl rfl ?_ rfl; (refine Nat.le_of_ble_eq_true ?_; rfl)); rfl) | (with_reducible refine Es_nil ?_) | (with_reducible refine then_n ?_) | ((with_reducible refine gC ?_); first | refine retC1 rfl ?_ | refine endC1 rfl ?_))
  rfl
set_option maxRecDepth 20000 in
set_option maxHeartbeats 4000000 in
theorem postSame_ac (x y : Lt) (h1 : x.docs.length ≤ 140737488351232) (h2 : ∀ d ∈ x.docs, d.flds.length ≤ 140737488351232) (h3 : x.boxes.length ≤ 140737488351232) : AC Tryz.prog 36 [.agg x.cs, .agg y.cs] [] [] (fun r _ => r = .d (.sc (.bool (x.eqB y)))) := by
  have c1 := equalD_ac x.docs y.docs h1 h2
  have c2 := equalS_ac x.boxes y.boxes h3
  clear h2
  refine AC_enter Tryz.func36 rfl Tryz.ntmps36 (rv := [.tmp 4]) rfl rfl (by simp) (fun w X G => ?_)
  repeat' (first | ((with_reducible refine gA ?_); (first | refine AW_seq ?_ | refine AW_region ?_)) | ((with_reducible refine gS ?_); refine Es_s (T := Tryz.tab) rfl rfl rfl rfl ?_) | (refine Es_skip rfl ?_ rfl ?_; (first | rfl | (refine w_tf ?_; assumption) | (refine w_ft ?_; assumption))) | (((with_reducible refine gS ?_); apply Es_xs); rfl; rfl; refine LStep_boxN rfl rfl rfl rfl rfl rfl; rfl) | (with_reducible refine Es_nil ?_) | (with_reducible refine then_n ?_))
  simp only [List.append]
  repeat' (first | ((with_reducible refine gA ?_); refine AW_ret ?_) | ((with_reducible refine gS ?_); refine Es_s (T := Tryz.tab) rfl rfl rfl rfl ?_) | (((with_reducible refine gS ?_); apply Es_q); rfl; (first | rfl | (refine w_tt ?_; assumption)); (first | refine LStep_call (c1) rfl rfl rfl rfl | refine LStep_call (c2) rfl rfl rfl rfl | refine LStep_eqAgg (T := Tryz.tab) eqS_mon eqG_mon (by omega) rfl rfl rfl rfl rfl rfl)) | (((with_reducible refine gS ?_); apply Es_q); rfl; (first | rfl | (refine w_tt ?_; assumption)); (first | refine LStep_simp (T := Tryz.tab) rfl rfl | (refine LStep_pickT rfl rfl ?_ rfl rfl; assumption) | (refine LStep_pickF rfl rfl ?_ rfl rfl; assumption))) | (refine Es_skip rfl ?_ rfl ?_; (first | rfl | (refine w_tf ?_; assumption) | (refine w_ft ?_; assumption))) | (refine Es_split rfl ?_ (fun _ => ?_) (fun _ => ?_); ((fail_if_success (refine und_t ?_; assumption)); (fail_if_success (refine und_f ?_; assumption)); exact trivial)) | (with_reducible refine Es_nil ?_) | (with_reducible refine then_n ?_) | ((with_reducible refine gR ?_); first | refine ret1 rfl ?_ | refine ret2 rfl rfl ?_ | refine ret0 ?_ | refine end1 rfl ?_ | refine end0 ?_))
  all_goals (simp_all [Lt.eqB])
end Go.Proofs.YtofdnkgieigncaaGreat
