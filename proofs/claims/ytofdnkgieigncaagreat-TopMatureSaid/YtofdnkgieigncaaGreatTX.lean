/- The example of top24: a debt there and one back. -/
import Derived.Test.YtofdnkgieigncaaGreatNN
namespace Go.Proofs.YtofdnkgieigncaaGreat
open Go.SL
/-! ### the example: a debt there and one back -/
def exT : List Db := [((⟨#[85, 83, 68]⟩, ⟨#[97]⟩, ⟨#[98]⟩), 5), ((⟨#[85, 83, 68]⟩, ⟨#[98]⟩, ⟨#[97]⟩), 3)]
def exU : List Db := [((⟨#[85, 83, 68]⟩, ⟨#[97]⟩, ⟨#[98]⟩), 2)]
theorem exT_may : exT.all mayD = true := by decide +kernel
theorem exT_bad : ¬ badN exT := net_grid (may_one exT_may) (by decide +kernel)
theorem exT_pair : pairN exT = exU := by decide +kernel
set_option maxRecDepth 10000 in
set_option maxHeartbeats 4000000 in
theorem nets_ac : AC Tryz.prog 6 [] [] [] (fun r _ => r = .d (.sc (.bool true))) := by
  have c := pairsOk_ac exT (by decide) exT_may exT_bad
  rw [exT_pair] at c
  unfold exT exU at c
  refine AC_enter Tryz.func6 rfl Tryz.ntmps6 (rv := [.tmp 0]) rfl rfl (by simp) (fun w X G => ?_)
  repeat' (first | ((with_reducible refine gA ?_); (first | refine AW_seq ?_ | refine AW_region ?_ | refine AW_ret ?_)) | ((with_reducible refine gS ?_); refine Es_s (T := Tryz.tab) rfl rfl rfl rfl ?_) | (((with_reducible refine gS ?_); apply Es_q); rfl; (first | rfl | (refine w_tt ?_; assumption)); (first | refine LStep_call (c) rfl rfl rfl rfl | refine LStep_eqAgg (T := Tryz.tab) eqS_db eqG_db (by omega) rfl rfl rfl rfl rfl rfl)) | (((with_reducible refine gS ?_); apply Es_q); rfl; (first | rfl | (refine w_tt ?_; assumption)); (first | refine LStep_simp (T := Tryz.tab) rfl rfl | refine LStep_lenM (T := Tryz.tab) rfl rfl rfl rfl | (refine LStep_pickT rfl rfl ?_ rfl rfl; assumption) | (refine LStep_pickF rfl rfl ?_ rfl rfl; assumption) | (refine LStep_index (T := Tryz.tab) (c := ?_) rfl rfl rfl rfl rfl rfl ?_ ?_; rotate_left; omega; (first | assumption | rfl)) | (refine LStep_lit (T := Tryz.tab) rfl rfl rfl rfl rfl rfl rfl rfl ?_; (refine Nat.le_of_ble_eq_true ?_; rfl)) | refine LStep_buildN (T := Tryz.tab) rfl rfl rfl rfl rfl rfl rfl)) | (refine Es_skip rfl ?_ rfl ?_; (first | rfl | (refine w_tf ?_; assumption) | (refine w_ft ?_; assumption))) | (refine Es_split rfl ?_ (fun _ => ?_) (fun _ => ?_); ((fail_if_success (refine und_t ?_; assumption)); (fail_if_success (refine und_f ?_; assumption)); exact trivial)) | (with_reducible refine Es_nil ?_) | (with_reducible refine then_n ?_) | ((with_reducible refine gR ?_); first | refine ret1 rfl ?_ | refine ret2 rfl rfl ?_ | refine ret0 ?_ | refine end1 rfl ?_ | refine end0 ?_))
  all_goals simp only [cmps] at *
  all_goals first
    | rfl
    | (exfalso; omega)
    | (exfalso; rename_i hx; exact hx rfl)
    | (have es : ∀ s : ByteArray, eqs s s = true := fun s => eqs_t.2 rfl
       have en : ∀ n : Int, eqb n n = true := fun n => eqb_t.2 rfl
       simp only [es, en, Bool.and_true]; done)
    | trace_state
end Go.Proofs.YtofdnkgieigncaaGreat
