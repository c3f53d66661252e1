import Derived.Test.YtjadbgmohmgaaaaC3
namespace Go.Proofs.Ytjadbgmohmgaaaa
open Go.SL

theorem eqS_line : eqS Try.tab 8 34 = some [2, 1, 1] := by kernel_rfl
theorem eqG_line : Try.prog.eqGuardType Try.prog.depth 34 = false := by kernel_rfl
def Line.eqB (x y : Line) : Bool := eqs x.good y.good && (eqb x.count y.count && (eqb x.price y.price && true))
def leq : List Line → List Line → Bool
  | [], [] => true
  | x :: xs, y :: ys => x.eqB y && leq xs ys
  | _, _ => false
theorem Line.eqB_refl (x : Line) : x.eqB x = true := by
  have h1 := eqs_t.2 (rfl : x.good = x.good)
  have h2 := eqb_t.2 (rfl : x.count = x.count)
  have h3 := eqb_t.2 (rfl : x.price = x.price)
  simp [Line.eqB, h1, h2, h3]
theorem leq_refl : ∀ l, leq l l = true
  | [] => rfl
  | x :: l => by rw [leq, Line.eqB_refl, leq_refl l]; rfl
def Ord.same (a b : Ord) : Bool := decide (a.number = b.number) && decide (a.seller = b.seller) && decide (a.buyer = b.buyer) && decide (a.currency = b.currency) && decide (a.sfrom = b.sfrom) && decide (a.sto = b.sto) && decide (a.term = b.term) &&
  (decide (a.lines.length = b.lines.length) && leq a.lines b.lines)
theorem Ord.same_refl (a : Ord) : a.same a = true := by simp [Ord.same, leq_refl]

set_option maxRecDepth 10000 in
theorem equalLines_ac (a b : List Line) (ha : a.length ≤ 140737488351232) : AC Try.prog 29 [.d (.sl 3 (a.map Line.enc)), .d (.sl 3 (b.map Line.enc))] [] [] (fun r _ => r = .d (.sc (.bool (decide (a.length = b.length) && leq a b)))) := by
  refine AC_enter Try.func29 rfl Try.ntmps29 (rv := [.tmp 4]) rfl rfl (by simp) (fun w X G => ?_)
  repeat' (first | ((with_reducible refine gA ?_); (first | refine AW_seq ?_ | refine AW_region ?_ | (refine AW_cond rfl (fun hc => ?_) (fun hc => ?_) <;> try (exfalso; simp only [cmpL] at hc; omega)) | refine AW_block ?_ | refine AW_ret ?_ | refine AW_skip ?_)) | ((with_reducible refine gS ?_); refine Es_s (T := Try.tab) rfl rfl rfl rfl ?_) | (((with_reducible refine gS ?_); apply Es_q); rfl; rfl; refine LStep_lenM (T := Try.tab) rfl rfl rfl rfl) | (with_reducible refine Es_nil ?_) | (with_reducible refine then_n ?_) | (with_reducible refine then_r ?_) | ((with_reducible refine gR ?_); first | refine ret1 rfl ?_ | refine ret2 rfl rfl ?_ | refine ret0 ?_ | refine end1 rfl ?_ | refine end0 ?_))
  all_goals simp only [cmps] at *
  · refine congrArg (fun b => AV.d (D.sc (Value.bool b))) ?_; have h : ¬ a.length = b.length := by omega
    simp [h]
  have hl : a.length = b.length := by omega
  refine AW_forE (S := Nat) (fun k => k ≤ a.length ∧ leq a b = leq (a.drop k) (b.drop k)) (fun k => [(13, .d (.sc (.int .i64 (k : Nat))))]) (fun _ => []) (fun k => a.length - k) 0 ⟨by omega, rfl⟩ (by (repeat' (first | exact trivial | exact rfl | (refine ⟨Or.inl rfl, ?_⟩) | (refine ⟨Or.inr rfl, ?_⟩) | (refine ⟨Or.inr trivial, ?_⟩) | (refine ⟨rfl, ?_⟩) | (refine ⟨?_, ?_⟩)))) (by (repeat' (first | exact trivial | exact rfl | (refine ⟨Or.inl rfl, ?_⟩) | (refine ⟨Or.inr rfl, ?_⟩) | (refine ⟨Or.inr trivial, ?_⟩) | (refine ⟨rfl, ?_⟩) | (refine ⟨?_, ?_⟩)))) ?_
  intro k ⟨hk, hf⟩
  by_cases hlt : k < a.length
  · obtain ⟨x, hx, hd⟩ := drop_at hlt
    obtain ⟨y, hy, hd'⟩ := drop_at (show k < b.length by omega)
    rw [hd, hd', leq] at hf
    repeat' (first | ((with_reducible refine gA ?_); (first | refine AW_seq ?_ | refine AW_region ?_ | refine AW_regionD Try.mixed ?_ | (refine AW_cond rfl (fun hc => ?_) (fun hc => ?_) <;> try (exfalso; simp only [cmpL] at hc; omega)) | refine AW_block ?_ | refine AW_ret ?_ | refine AW_skip ?_)) | (first | ((with_reducible refine gS ?_); refine Es_s (T := Try.tab) rfl rfl rfl rfl ?_) | ((with_reducible refine gD ?_); refine Ed_s (T := Try.tab) rfl rfl rfl rfl ?_)) | ((first | ((with_reducible refine gS ?_); apply Es_q) | ((with_reducible refine gD ?_); apply Ed_q)); rfl; rfl; refine LStep_neqAgg (T := Try.tab) eqS_line eqG_line (by omega) rfl rfl rfl rfl rfl rfl) | ((first | ((with_reducible refine gS ?_); apply Es_q) | ((with_reducible refine gD ?_); apply Ed_q)); rfl; rfl; (first | (refine LStep_add rfl rfl rfl rfl ?_; (refine IntWalk.i64_in _ ?_; first | omega | (simp only [cmps] at *; omega))) | (refine LStep_indexM (T := Try.tab) (c := ?_) rfl rfl rfl rfl rfl rfl ?_; rotate_left; assumption))) | (with_reducible refine Es_nil ?_) | ((with_reducible refine Ed_nil ?_ ?_); kernel_rfl) | (with_reducible refine then_n ?_) | (with_reducible refine then_r ?_) | (with_reducible refine block_n ?_) | (with_reducible refine block_r ?_) | ((with_reducible refine gR ?_); first | refine ret1 rfl ?_ | refine ret2 rfl rfl ?_ | refine ret0 ?_ | refine end1 rfl ?_ | refine end0 ?_))
    all_goals simp only [not_t, not_f] at *
    · have h : x.eqB y = false := by assumption
      refine congrArg (fun b => AV.d (D.sc (Value.bool b))) ?_; simp [hf, h]
    · have h : x.eqB y = true := by assumption
      refine ⟨k + 1, ?_, by omega, by (repeat' (first | exact trivial | exact rfl | (refine ⟨Or.inl rfl, ?_⟩) | (refine ⟨Or.inr rfl, ?_⟩) | (refine ⟨Or.inr trivial, ?_⟩) | (refine ⟨rfl, ?_⟩) | (refine ⟨?_, ?_⟩))), by (repeat' (first | exact trivial | exact rfl | (refine ⟨Or.inl rfl, ?_⟩) | (refine ⟨Or.inr rfl, ?_⟩) | (refine ⟨Or.inr trivial, ?_⟩) | (refine ⟨rfl, ?_⟩) | (refine ⟨?_, ?_⟩))), by (repeat' (first | exact trivial | exact rfl | (refine ⟨Or.inl rfl, ?_⟩) | (refine ⟨Or.inr rfl, ?_⟩) | (refine ⟨Or.inr trivial, ?_⟩) | (refine ⟨rfl, ?_⟩) | (refine ⟨?_, ?_⟩))), by (repeat' (first | exact trivial | exact rfl | (refine ⟨Or.inl rfl, ?_⟩) | (refine ⟨Or.inr rfl, ?_⟩) | (refine ⟨Or.inr trivial, ?_⟩) | (refine ⟨rfl, ?_⟩) | (refine ⟨?_, ?_⟩)))⟩; exact ⟨by omega, by rw [hf, h, Bool.true_and]⟩
  · have : k = a.length := by omega
    subst this
    have h2 : b.drop a.length = [] := by rw [hl]; exact drop_end
    rw [drop_end, h2, leq] at hf
    repeat' (first | ((with_reducible refine gA ?_); (first | refine AW_seq ?_ | refine AW_region ?_ | (refine AW_cond rfl (fun hc => ?_) (fun hc => ?_) <;> try (exfalso; simp only [cmpL] at hc; omega)) | refine AW_ret ?_ | refine AW_exit ?_)) | ((with_reducible refine gS ?_); refine Es_s (T := Try.tab) rfl rfl rfl rfl ?_) | (with_reducible refine Es_nil ?_) | (with_reducible refine then_n ?_) | (with_reducible refine then_e ?_) | ((with_reducible refine block_e ?_ ?_); rfl) | ((with_reducible refine gR ?_); first | refine ret1 rfl ?_ | refine ret2 rfl rfl ?_ | refine ret0 ?_ | refine end1 rfl ?_ | refine end0 ?_))
    refine congrArg (fun b => AV.d (D.sc (Value.bool b))) ?_; simp [hl, hf]
set_option maxRecDepth 10000 in
set_option maxHeartbeats 1000000 in
theorem same_ac (a b : Ord) (fa : a.Fit) : AC Try.prog 11 [.agg a.cs, .agg b.cs] [] [] (fun r _ => r = .d (.sc (.bool (a.same b)))) := by
  have hl := fa.ll
  refine AC_enter Try.func11 rfl Try.ntmps11 (rv := [.tmp 4]) rfl rfl (by simp) (fun w X G => ?_)
  repeat' (first | ((with_reducible refine gA ?_); (first | refine AW_seq ?_ | refine AW_region ?_ | refine AW_condT rfl ?_ | (refine AW_cond rfl (fun hc => ?_) (fun hc => ?_) <;> try (exfalso; simp only [cmpL] at hc; omega)) | refine AW_ret ?_ | refine AW_skip ?_)) | ((with_reducible refine gS ?_); refine Es_s (T := Try.tab) rfl rfl rfl rfl ?_) | (((with_reducible refine gS ?_); apply Es_q); rfl; (first | rfl | (refine w_ff ?_; assumption)); refine LStep_call (equalLines_ac _ _ hl) rfl rfl rfl rfl) | (((with_reducible refine gS ?_); apply Es_q); rfl; (first | rfl | (refine w_ff ?_; assumption)); (first | refine LStep_simp (T := Try.tab) rfl rfl | (refine LStep_pickT rfl rfl ?_ rfl rfl; assumption) | (refine LStep_pickF rfl rfl ?_ rfl rfl; assumption))) | (refine Es_skip rfl ?_ rfl ?_; (first | rfl | (refine w_tf ?_; assumption) | (refine w_ft ?_; assumption))) | (((with_reducible refine gS ?_); apply Es_xs); rfl; rfl; refine LStep_boxN rfl rfl rfl rfl rfl rfl; rfl) | (refine Es_split rfl ?_ (fun _ => ?_) (fun _ => ?_); ((fail_if_success (refine und_t ?_; assumption)); (fail_if_success (refine und_f ?_; assumption)); exact trivial)) | (with_reducible refine Es_nil ?_) | (with_reducible refine then_n ?_) | (with_reducible refine then_r ?_) | ((with_reducible refine gR ?_); first | refine ret1 rfl ?_ | refine ret2 rfl rfl ?_ | refine ret0 ?_ | refine end1 rfl ?_ | refine end0 ?_))
  all_goals simp only [cmps] at *
  all_goals (refine congrArg (fun b => AV.d (D.sc (Value.bool b))) ?_; simp_all [Ord.same])



end Go.Proofs.Ytjadbgmohmgaaaa
