import Derived.Test.YtjadbgmohmgaaaaD4
import Derived.Test.YtjadbgmohmgaaaaE2
namespace Go.Proofs.Ytjadbgmohmgaaaa
open Go.SL

/-! ### the document's example -/
def exO : Ord := { number := ⟨#[111]⟩, seller := ⟨#[115]⟩, buyer := ⟨#[98]⟩, currency := ⟨#[69, 85, 82]⟩, sfrom := ⟨#[102]⟩, sto := ⟨#[116]⟩, term := 0, lines := [⟨⟨#[116, 101, 97]⟩, 10, 3⟩] }
def exC1 : Cons := ⟨⟨#[111]⟩, 1, 1, [⟨⟨#[116, 101, 97]⟩, 4⟩]⟩
def exC2 : Cons := ⟨⟨#[111]⟩, 2, 2, [⟨⟨#[116, 101, 97]⟩, 6⟩]⟩
theorem exCut : cutR exO [1, 2] [[4], [6]] = .tup [.d (.sl 4 ([exC1, exC2].map Cons.enc)), .d (.sc (.int .i64 0))] := by kernel_rfl
theorem exV1 : pairR (valP exO exC1) = .tup [.d (.sc (.int .i64 12)), .d (.sc (.int .i64 0))] := by kernel_rfl
theorem exV2 : pairR (valP exO exC2) = .tup [.d (.sc (.int .i64 18)), .d (.sc (.int .i64 0))] := by kernel_rfl
theorem exT : exO.totalR = .tup [.d (.sc (.int .i64 30)), .d (.sc (.int .i64 0))] := by kernel_rfl
theorem exMay : exO.may = true := by kernel_rfl
theorem exFit : exO.Fit := by
  refine ⟨Nat.le_of_ble_eq_true rfl, Nat.le_of_ble_eq_true rfl, Nat.le_of_ble_eq_true rfl, Nat.le_of_ble_eq_true rfl, Nat.le_of_ble_eq_true rfl, Nat.le_of_ble_eq_true rfl, Nat.le_of_ble_eq_true rfl, fun x hx => ?_⟩
  have : x = ⟨⟨#[116, 101, 97]⟩, 10, 3⟩ := by simpa [exO] using hx
  subst this
  exact ⟨Nat.le_of_ble_eq_true rfl, by decide, by decide, by decide, by decide⟩
theorem exCutFit : CutFit exO [1, 2] [[4], [6]] :=
  ⟨Nat.le_of_ble_eq_true rfl, Nat.le_of_ble_eq_true rfl, Nat.le_of_ble_eq_true rfl, fun p hp => by
    simp only [List.mem_cons, List.not_mem_nil, or_false] at hp
    rcases hp with rfl | rfl <;> exact Nat.le_of_ble_eq_true rfl⟩
theorem exCut_ac : AC Try.prog 6 [.agg exO.cs, .d (.sl 1 ([1, 2].map iE)), .d (.sl 1 ([[4], [6]].map pE))] [] [] (fun r _ => r = .tup [.d (.sl 4 ([exC1, exC2].map Cons.enc)), .d (.sc (.int .i64 0))]) := (cut_ac _ _ _ exCutFit).mono (fun _ _ e => e.trans exCut)
theorem exV1_ac : AC Try.prog 8 [.agg exO.cs, .agg exC1.cs] [] [] (fun r _ => r = .tup [.d (.sc (.int .i64 12)), .d (.sc (.int .i64 0))]) := (value_ac exO exC1 (Nat.le_of_ble_eq_true rfl) (Nat.le_of_ble_eq_true rfl)).mono (fun _ _ e => e.trans exV1)
theorem exV2_ac : AC Try.prog 8 [.agg exO.cs, .agg exC2.cs] [] [] (fun r _ => r = .tup [.d (.sc (.int .i64 18)), .d (.sc (.int .i64 0))]) := (value_ac exO exC2 (Nat.le_of_ble_eq_true rfl) (Nat.le_of_ble_eq_true rfl)).mono (fun _ _ e => e.trans exV2)
theorem exT_ac : AC Try.prog 10 [.agg exO.cs] [] [] (fun r _ => r = .tup [.d (.sc (.int .i64 30)), .d (.sc (.int .i64 0))]) := (total_ac exO).mono (fun _ _ e => e.trans exT)
theorem exMay_ac : AC Try.prog 9 [.agg exO.cs] [] [] (fun r _ => r = .d (.sc (.bool true))) := (may_ac exO).mono (fun _ _ e => by rw [e, exMay])
theorem same1_ac (o : Ord) (fo : o.Fit) : AC Try.prog 11 [.agg o.cs, .agg o.cs] [] [] (fun r _ => r = .d (.sc (.bool true))) := (same_ac o o fo).mono (fun _ _ e => by rw [e, o.same_refl])
set_option maxRecDepth 20000 in
set_option maxHeartbeats 1000000 in
theorem awake_ac : AC Try.prog 4 [] [] [] (fun r _ => r = .d (.sc (.bool true))) := by
  have cs := same1_ac exO exFit
  refine AC_enter Try.func4 rfl Try.ntmps4 (rv := [.tmp 0]) rfl rfl (by simp) (fun w X G => ?_)
  repeat' (first | ((with_reducible refine gA ?_); (first | refine AW_seq ?_ | refine AW_region ?_ | refine AW_regionD Try.mixed ?_ | refine AW_condF rfl ?_ | refine AW_ret ?_ | refine AW_skip ?_)) | ((first | ((with_reducible refine gS ?_); apply Es_q) | ((with_reducible refine gD ?_); apply Ed_q)); rfl; rfl; (first | refine LStep_eqlT rfl rfl rfl rfl rfl | refine LStep_neqF rfl rfl rfl rfl rfl)) | (first | ((with_reducible refine gS ?_); refine Es_s (T := Try.tab) rfl rfl rfl rfl ?_) | ((with_reducible refine gD ?_); refine Ed_s (T := Try.tab) rfl rfl rfl rfl ?_)) | ((first | ((with_reducible refine gS ?_); apply Es_q) | ((with_reducible refine gD ?_); apply Ed_q)); rfl; rfl; (first | refine LStep_call (exCut_ac) rfl rfl rfl rfl | refine LStep_call (exV1_ac) rfl rfl rfl rfl | refine LStep_call (exV2_ac) rfl rfl rfl rfl | refine LStep_call (exT_ac) rfl rfl rfl rfl | refine LStep_call (exMay_ac) rfl rfl rfl rfl | refine LStep_call (cs) rfl rfl rfl rfl)) | ((first | ((with_reducible refine gS ?_); apply Es_q) | ((with_reducible refine gD ?_); apply Ed_q)); rfl; rfl; (first | refine LStep_simp (T := Try.tab) rfl rfl | refine LStep_lenM (T := Try.tab) rfl rfl rfl rfl | (refine LStep_index (T := Try.tab) (c := ?_) rfl rfl rfl rfl rfl rfl ?_ ?_; rotate_left; omega; (first | assumption | rfl)) | (refine LStep_lit (T := Try.tab) rfl rfl rfl rfl rfl rfl rfl rfl ?_; (refine Nat.le_of_ble_eq_true ?_; rfl)) | refine LStep_buildN (T := Try.tab) rfl rfl rfl rfl rfl rfl rfl)) | (refine Es_skip rfl ?_ rfl ?_; (first | rfl | (refine w_tf ?_; assumption) | (refine w_ft ?_; assumption))) | (((with_reducible refine gS ?_); apply Es_xs); rfl; rfl; refine LStep_allocN (T := Try.tab) rfl rfl rfl rfl rfl rfl; rfl) | (((with_reducible refine gS ?_); apply Es_xn); rfl; rfl; (refine LStep_storeN (T := Try.tab) rfl rfl rfl rfl rfl rfl rfl ?_ rfl; (refine Nat.le_of_ble_eq_true ?_; rfl)); rfl) | (with_reducible refine Es_nil ?_) | ((with_reducible refine Ed_nil ?_ ?_); kernel_rfl) | (with_reducible refine then_n ?_) | ((with_reducible refine gR ?_); first | refine ret1 rfl ?_ | refine ret2 rfl rfl ?_ | refine ret0 ?_ | refine end1 rfl ?_ | refine end0 ?_))
  all_goals rfl
theorem few0_ac (o : Ord) (fo : o.Fit) : AC Try.prog 5 [.agg o.cs, .d (.sc (.slice none 0 0))] [] [] (fun r _ => r = .d (.sc (.bool o.few))) :=
  ((few_ac o [] fo).coe (args' := [.agg o.cs, .d (.sc (.slice none 0 0))]) ⟨.refl _, .nil 4, trivial⟩).mono (fun _ _ e => by rw [e]; simp [consFew])

end Go.Proofs.Ytjadbgmohmgaaaa
