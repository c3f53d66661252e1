import Derived.Test.YtodgjgkoaahhmaaGreatDoorA1
import Derived.Test.YtodgjgkoaahhmaaGreatDoorTf
namespace Go.Proofs.YtodgjgkoaahhmaaGreatDoor
open Go.SL
/-! ### goods.Apart -/
def apTbl : List Int := [0, 1020, 40, 288, 288, 320, 0, 512, 0, 0]
def apObj : Obj := .cells #[.int .i64 0, .int .i64 1020, .int .i64 40, .int .i64 288, .int .i64 288, .int .i64 320, .int .i64 0, .int .i64 512, .int .i64 0, .int .i64 0] 165 (0, 0)
def hG : Nat × Option AObj := (9000, some (.raw 2 apObj))
def apV (m n : Nat) : Int := andI .i64 ((apTbl.getD m 0).fdiv (2 ^ (min ((n : Int)).toNat IntKind.i64.bits))) 1
theorem apV_ok : ∀ m : Fin 10, ∀ n : Fin 10, (decide (apV m n = 1) || decide (apV n m = 1)) = apB (m.1 : Int) (n.1 : Int) := by decide +kernel
theorem apT_at : ∀ m : Fin 10, (#[Value.int .i64 0, .int .i64 1020, .int .i64 40, .int .i64 288, .int .i64 288, .int .i64 320, .int .i64 0, .int .i64 512, .int .i64 0, .int .i64 0] : Array Value)[m.1]? = some (.int .i64 (apTbl.getD m.1 0)) := by
  intro m
  match m with
  | 0 => rfl
  | 1 => rfl
  | 2 => rfl
  | 3 => rfl
  | 4 => rfl
  | 5 => rfl
  | 6 => rfl
  | 7 => rfl
  | 8 => rfl
  | 9 => rfl
theorem apB_out {a b : Int} (h : a < 0 ∨ 10 ≤ a ∨ b < 0 ∨ 10 ≤ b) : apB a b = false := by
  have hr : ∀ p ∈ apRows, (0 ≤ p.1 ∧ p.1 < 10) ∧ (0 ≤ p.2 ∧ p.2 < 10) := by decide
  have one : ∀ x y : Int, (x < 0 ∨ 10 ≤ x ∨ y < 0 ∨ 10 ≤ y) → apRows.contains (x, y) = false := by
    intro x y hxy
    cases hq : apRows.contains (x, y) with
    | false => rfl
    | true =>
      have := hr (x, y) (List.contains_iff_mem.1 hq)
      simp only at this
      omega
  unfold apB
  rw [one a b h, one b a (by omega)]
  rfl
set_option maxRecDepth 10000 in
set_option maxHeartbeats 2000000 in
theorem apart_ac (a b : Int) : AC Tryz.prog 98 [.d (.sc (.int .i64 a)), .d (.sc (.int .i64 b))] [hG] [9000] (fun r h' => r = .d (.sc (.bool (apB a b))) ∧ SubH [hG] h') := by
  by_cases hout : a < 0 ∨ 10 ≤ a ∨ b < 0 ∨ 10 ≤ b
  · rw [apB_out hout]
    refine AC_enter Tryz.func98 rfl Tryz.ntmps98 (rv := [.tmp 4]) rfl rfl (by simp) (fun w X G => ?_)
    repeat' (first | ((with_reducible refine gA ?_); (first | refine AW_seq ?_ | refine AW_region ?_ | refine AW_condT rfl ?_ | (refine AW_cond rfl (fun hc => ?_) (fun hc => ?_) <;> try (exfalso; simp only [cmpL] at hc; omega)) | refine AW_ret ?_ | refine AW_skip ?_)) | ((with_reducible refine gS ?_); refine Es_s (T := Tryz.tab) rfl rfl rfl rfl ?_) | (((with_reducible refine gS ?_); apply Es_q); rfl; (first | rfl | (refine w_ff ?_; assumption)); (first | refine LStep_simp (T := Tryz.tab) rfl rfl | (refine LStep_pickT rfl rfl ?_ rfl rfl; assumption) | (refine LStep_pickF rfl rfl ?_ rfl rfl; assumption))) | (refine Es_skip rfl ?_ rfl ?_; (first | rfl | (refine w_tf ?_; assumption) | (refine w_ft ?_; assumption))) | (refine Es_split rfl ?_ (fun _ => ?_) (fun _ => ?_); ((fail_if_success (refine und_t ?_; assumption)); (fail_if_success (refine und_f ?_; assumption)); exact trivial)) | (with_reducible refine Es_nil ?_) | (with_reducible refine then_n ?_) | (with_reducible refine then_r ?_) | ((with_reducible refine gR ?_); first | refine ret1 rfl ?_ | refine ret2 rfl rfl ?_ | refine ret0 ?_ | refine end1 rfl ?_ | refine end0 ?_))
    all_goals simp only [cmps] at *
    all_goals first
      | (exfalso; omega)
      | exact ⟨by first | rfl | trivial, by (repeat' (first | exact trivial | exact rfl | (refine ⟨Or.inl rfl, ?_⟩) | (refine ⟨Or.inr rfl, ?_⟩) | (refine ⟨Or.inr trivial, ?_⟩) | (refine ⟨rfl, ?_⟩) | (refine ⟨?_, ?_⟩)))⟩
      | trace_state
  · obtain ⟨m, rfl⟩ := Int.eq_ofNat_of_zero_le (show 0 ≤ a by omega)
    obtain ⟨n, rfl⟩ := Int.eq_ofNat_of_zero_le (show 0 ≤ b by omega)
    have hm : m < 10 := by omega
    have hn : n < 10 := by omega
    have t1 := apT_at ⟨m, hm⟩
    have t2 := apT_at ⟨n, hn⟩
    have ok := apV_ok ⟨m, hm⟩ ⟨n, hn⟩
    dsimp only at t1 t2 ok
    have v1 : andI .i64 ((apTbl.getD m 0).fdiv (2 ^ (min ((n : Int)).toNat IntKind.i64.bits))) 1 = apV m n := rfl
    have v2 : andI .i64 ((apTbl.getD n 0).fdiv (2 ^ (min ((m : Int)).toNat IntKind.i64.bits))) 1 = apV n m := rfl
    rw [← ok]
    generalize apV m n = p at v1 ⊢
    generalize apV n m = q at v2 ⊢
    generalize apTbl.getD m 0 = x at t1 v1
    generalize apTbl.getD n 0 = y at t2 v2
    refine AC_enter Tryz.func98 rfl Tryz.ntmps98 (rv := [.tmp 4]) rfl rfl (by simp) (fun w X G => ?_)
    repeat' (first | ((with_reducible refine gA ?_); (first | refine AW_seq ?_ | refine AW_region ?_ | refine AW_condT rfl ?_ | (refine AW_cond rfl (fun hc => ?_) (fun hc => ?_) <;> try (exfalso; simp only [cmpL] at hc; omega)) | refine AW_ret ?_ | refine AW_skip ?_)) | ((with_reducible refine gS ?_); refine Es_s (T := Tryz.tab) rfl rfl rfl rfl ?_) | (((with_reducible refine gS ?_); apply Es_q); rfl; (first | rfl | (refine w_ff ?_; assumption)); (first | (refine LStep_indexGlob (T := Tryz.tab) 9000 rfl rfl rfl rfl rfl rfl ?_; assumption) | refine LStep_loadRaw (T := Tryz.tab) rfl rfl rfl rfl rfl t1 rfl | refine LStep_loadRaw (T := Tryz.tab) rfl rfl rfl rfl rfl t2 rfl | (refine LStep_shr rfl rfl rfl ?_ rfl rfl; omega) | refine LStep_and rfl rfl rfl v1 rfl | refine LStep_and rfl rfl rfl v2 rfl)) | (((with_reducible refine gS ?_); apply Es_q); rfl; (first | rfl | (refine w_ff ?_; assumption)); (first | refine LStep_simp (T := Tryz.tab) rfl rfl | (refine LStep_pickT rfl rfl ?_ rfl rfl; assumption) | (refine LStep_pickF rfl rfl ?_ rfl rfl; assumption))) | (refine Es_skip rfl ?_ rfl ?_; (first | rfl | (refine w_tf ?_; assumption) | (refine w_ft ?_; assumption))) | (refine Es_split rfl ?_ (fun _ => ?_) (fun _ => ?_); ((fail_if_success (refine und_t ?_; assumption)); (fail_if_success (refine und_f ?_; assumption)); exact trivial)) | (with_reducible refine Es_nil ?_) | (with_reducible refine then_n ?_) | (with_reducible refine then_r ?_) | ((with_reducible refine gR ?_); first | refine ret1 rfl ?_ | refine ret2 rfl rfl ?_ | refine ret0 ?_ | refine end1 rfl ?_ | refine end0 ?_))
    all_goals simp only [cmps] at *
    all_goals first
      | (exfalso; omega)
      | (refine ⟨?_, by (repeat' (first | exact trivial | exact rfl | (refine ⟨Or.inl rfl, ?_⟩) | (refine ⟨Or.inr rfl, ?_⟩) | (refine ⟨Or.inr trivial, ?_⟩) | (refine ⟨rfl, ?_⟩) | (refine ⟨?_, ?_⟩)))⟩; refine congrArg (fun b => AV.d (D.sc (Value.bool b))) ?_; simp [eqb_d, *]; done)
      | trace_state
end Go.Proofs.YtodgjgkoaahhmaaGreatDoor
