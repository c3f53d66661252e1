import Derived.Test.YtldfncafkdmoiaaFQ
import Derived.WalkKit
import Derived.ProofKit
import Derived.OpenShut
import Derived.SizedLaws
namespace Go.Proofs.Ytldfncafkdmoiaa
open Go.SL Go.ChangeShapes Go.WideShapes Go.ChangeAt Go.RowKit
/-! ### what the rows of this seat ask of the program; claimants among the arguments, read -/
theorem own : ownKnob Try.prog.godebug = none := by kernel_rfl
theorem kids : Kids Try.prog (· < Try.prog.types.size) := kids_rows (by kernel_rfl) (by kernel_rfl)
theorem full : ∀ t e, t < Try.prog.types.size → Try.prog.underlying t = some (.slice e) → 0 < Try.prog.cellsOf e := slices_full_of _ (by kernel_rfl)
theorem small {t : Nat} (h : Nat.blt t Try.prog.types.size = true) : t < Try.prog.types.size := by rwa [Nat.blt_eq] at h
def clS : List CS := [.str, .str, .int .i64, .int .i64, .int .i64]
def clsS : List CS := [.sl 5 56 [.str, .str, .int .i64, .int .i64, .int .i64]]
theorem argK_cl : argK Try.tab 23 = some (true, clS) := by kernel_rfl
theorem argK_cls : argK Try.tab 24 = some (false, clsS) := by kernel_rfl
def Cl.In (x : Cl) : Prop := x.nm.size ≤ 140737488351232 ∧ x.th.size ≤ 140737488351232
theorem clE_of (e : List D) (h : OkCs [.str, .str, .int .i64, .int .i64, .int .i64] e) : ∃ x : Cl, e = x.enc ∧ x.In := by
  obtain ⟨_, _, rfl, h1, h⟩ := h.cons_inv
  obtain ⟨_, _, rfl, h2, h⟩ := h.cons_inv
  obtain ⟨_, _, rfl, h3, h⟩ := h.cons_inv
  obtain ⟨_, _, rfl, h4, h⟩ := h.cons_inv
  obtain ⟨_, _, rfl, h5, h⟩ := h.cons_inv
  obtain rfl := h.nil_inv
  obtain ⟨s, rfl, q1⟩ := h1.str_inv
  obtain ⟨t, rfl, q2⟩ := h2.str_inv
  obtain ⟨n, rfl, _⟩ := h3.i64_inv
  obtain ⟨m, rfl, _⟩ := h4.i64_inv
  obtain ⟨k, rfl, _⟩ := h5.i64_inv
  exact ⟨⟨s, t, n, m, k⟩, rfl, q1, q2⟩
theorem cl_of {x : AV} (h : OkArg (true, clS) x) : ∃ c : Cl, x = .agg c.cs ∧ c.In := by
  obtain ⟨ds, rfl, h⟩ := h
  obtain ⟨c, rfl, hc⟩ := clE_of ds h
  exact ⟨c, rfl, hc⟩
theorem cls_of {x : AV} (h : OkArg (false, clsS) x) : ∃ l : List Cl, x = .d (.sl 5 (l.map Cl.enc)) ∧ l.length ≤ 140737488351232 ∧ ∀ c ∈ l, c.In := by
  obtain ⟨d, rfl, h⟩ := h
  obtain ⟨l, rfl, hl, hf⟩ := h.list clE_of
  exact ⟨l, rfl, by omega, hf⟩
def i64S : List CS := [.int .i64]
theorem argK_int : argK Try.tab 3 = some (false, i64S) := by kernel_rfl
theorem i64_of {x : AV} (h : OkArg (false, i64S) x) : ∃ n : Int, x = .d (.sc (.int .i64 n)) ∧ -9223372036854775808 ≤ n ∧ n ≤ 9223372036854775807 := by
  obtain ⟨d, rfl, h⟩ := h
  obtain ⟨n, rfl, h1, h2⟩ := h.i64_inv
  exact ⟨n, rfl, by omega, by omega⟩
/-! ### DisputeBetter -/
theorem few_len {l : List Cl} (h : fewCl l = true) : l.length ≤ 41 := by
  unfold fewCl at h
  rw [Bool.and_eq_true, decide_eq_true_eq] at h
  exact h.1
set_option maxRecDepth 10000 in
set_option maxHeartbeats 4000000 in
theorem lbetter_ac (a b : Cl) (l : List Cl) (ha : a.In) (hb : b.In) (hl : l.length ≤ 140737488351232) (hs : ∀ c ∈ l, c.In) : AC Try.prog 3 [.agg a.cs, .agg b.cs, .d (.sl 5 (l.map Cl.enc))] [] [] (fun r _ => r = .d (.sc (.bool true))) := by
  have cf := rfew_ac l hl hs
  have cg := rfew_ac [a, b] (by simp) (fun c hc => by
    rcases List.mem_cons.1 hc with rfl | h
    · exact ha
    · rw [List.mem_singleton.1 h]; exact hb)
  cases hf : fewCl l with
  | false =>
    rw [hf] at cf
    refine AC_enter Try.func3 rfl Try.ntmps3 (rv := [.tmp 6]) rfl rfl (by simp) (fun w X G => ?_)
    repeat' (first | ((with_reducible refine gA ?_); (first | refine AW_seq ?_ | refine AW_region ?_ | refine AW_condT rfl ?_ | refine AW_condF rfl ?_ | refine AW_ret ?_ | refine AW_skip ?_)) | ((with_reducible refine gS ?_); refine Es_s (T := Try.tab) rfl rfl rfl rfl ?_) | (((with_reducible refine gS ?_); apply Es_q); rfl; rfl; (first | refine LStep_call (awake_ac) rfl rfl rfl rfl | refine LStep_call (cf) rfl rfl rfl rfl)) | (refine Es_skip rfl ?_ rfl ?_; (first | rfl | (refine w_tf ?_; assumption) | (refine w_ft ?_; assumption))) | (((with_reducible refine gS ?_); apply Es_xs); rfl; rfl; refine LStep_boxN rfl rfl rfl rfl rfl rfl; rfl) | (with_reducible refine Es_nil ?_) | (with_reducible refine then_n ?_) | (with_reducible refine then_r ?_) | ((with_reducible refine gR ?_); first | refine ret1 rfl ?_ | refine ret2 rfl rfl ?_ | refine ret0 ?_ | refine end1 rfl ?_ | refine end0 ?_))
    all_goals first
      | rfl
      | trace_state
  | true =>
    have h41 := few_len hf
    rw [hf] at cf
    have c1 := rbetter_ac a b
    have c2 := better_ac a b
    have c3 := why_ac a b
    have c4 := rank_ac l (by omega)
    have c5 := rrank_ac l (by omega)
    have hlen : (isL ltJ l).length ≤ 1048576 := by rw [(isL_perm l).length_eq]; omega
    have c6 := rsame_ac (isL ltJ l) (isL ltJ l) hlen hlen
    rw [decide_eq_true rfl] at c6
    have e1 : eqb (-(jdg a b)) (-(jdg a b)) = true := eqb_t.2 rfl
    have e2 : eqs (whyS a b) (whyS a b) = true := eqs_t.2 rfl
    generalize -(jdg a b) = j at *
    generalize whyS a b = ws at *
    generalize isL ltJ l = R at *
    generalize fewCl [a, b] = fb at *
    cases fb with
    | false =>
      refine AC_enter Try.func3 rfl Try.ntmps3 (rv := [.tmp 6]) rfl rfl (by simp) (fun w X G => ?_)
      repeat' (first | ((with_reducible refine gA ?_); (first | refine AW_seq ?_ | refine AW_region ?_ | refine AW_condT rfl ?_ | refine AW_condF rfl ?_ | refine AW_ret ?_ | refine AW_skip ?_)) | ((with_reducible refine gS ?_); refine Es_s (T := Try.tab) rfl rfl rfl rfl ?_) | (((with_reducible refine gS ?_); apply Es_q); rfl; rfl; (first | refine LStep_call (awake_ac) rfl rfl rfl rfl | refine LStep_call (cf) rfl rfl rfl rfl | refine LStep_call (cg) rfl rfl rfl rfl)) | (((with_reducible refine gS ?_); apply Es_q); rfl; rfl; (first | refine LStep_simp (T := Try.tab) rfl rfl | (refine LStep_lit (T := Try.tab) rfl rfl rfl rfl rfl rfl rfl rfl ?_; (refine Nat.le_of_ble_eq_true ?_; rfl)))) | (refine Es_skip rfl ?_ rfl ?_; (first | rfl | (refine w_tf ?_; assumption) | (refine w_ft ?_; assumption))) | (((with_reducible refine gS ?_); apply Es_xs); rfl; rfl; refine LStep_boxN rfl rfl rfl rfl rfl rfl; rfl) | (with_reducible refine Es_nil ?_) | (with_reducible refine then_n ?_) | (with_reducible refine then_r ?_) | ((with_reducible refine gR ?_); first | refine ret1 rfl ?_ | refine ret2 rfl rfl ?_ | refine ret0 ?_ | refine end1 rfl ?_ | refine end0 ?_))
      all_goals first
        | rfl
        | trace_state
    | true =>
      refine AC_enter Try.func3 rfl Try.ntmps3 (rv := [.tmp 6]) rfl rfl (by simp) (fun w X G => ?_)
      repeat' (first | ((with_reducible refine gA ?_); (first | refine AW_seq ?_ | refine AW_region ?_ | refine AW_condF rfl ?_ | refine AW_ret ?_ | refine AW_skip ?_)) | ((with_reducible refine gS ?_); refine Es_s (T := Try.tab) rfl rfl rfl rfl ?_) | (((with_reducible refine gS ?_); apply Es_q); rfl; (first | rfl | (refine w_tt ?_; assumption)); (first | refine LStep_call (awake_ac) rfl rfl rfl rfl | refine LStep_call (cf) rfl rfl rfl rfl | refine LStep_call (cg) rfl rfl rfl rfl | refine LStep_call (c1) rfl rfl rfl rfl | refine LStep_call (c2) rfl rfl rfl rfl | refine LStep_call (c3) rfl rfl rfl rfl | refine LStep_call (c4) rfl rfl rfl rfl | refine LStep_call (c5) rfl rfl rfl rfl | refine LStep_call (c6) rfl rfl rfl rfl)) | (((with_reducible refine gS ?_); apply Es_q); rfl; (first | rfl | (refine w_tt ?_; assumption)); (first | refine LStep_simp (T := Try.tab) rfl rfl | (refine LStep_pickT rfl rfl ?_ rfl rfl; assumption) | (refine LStep_lit (T := Try.tab) rfl rfl rfl rfl rfl rfl rfl rfl ?_; (refine Nat.le_of_ble_eq_true ?_; rfl)))) | (refine Es_skip rfl ?_ rfl ?_; (first | rfl | (refine w_tf ?_; assumption) | (refine w_ft ?_; assumption))) | (((with_reducible refine gS ?_); apply Es_xs); rfl; rfl; refine LStep_boxN rfl rfl rfl rfl rfl rfl; rfl) | (with_reducible refine Es_nil ?_) | (with_reducible refine then_n ?_) | ((with_reducible refine gR ?_); first | refine ret1 rfl ?_ | refine ret2 rfl rfl ?_ | refine ret0 ?_ | refine end1 rfl ?_ | refine end0 ?_))
      all_goals first
        | rfl
        | trace_state
end Go.Proofs.Ytldfncafkdmoiaa
