import Derived.Test.YtjadbgmohmgaaaaC2
namespace Go.Proofs.Ytjadbgmohmgaaaa
open Go.SL








/-! ### the total -/
def sumC : List Line → Int → Int
  | [], a => a
  | x :: r, a => sumC r (a + x.count * x.price)
def heldR (n : Int) : AV := if 1099511627776 < n then .tup [.d (.sc (.int .i64 0)), .d (.sc (.int .i64 3))] else .tup [.d (.sc (.int .i64 n)), .d (.sc (.int .i64 0))]
def Ord.totalR (o : Ord) : AV := if o.may then heldR (sumC o.lines 0) else .tup [.d (.sc (.int .i64 0)), .d (.sc (.int .i64 1))]

theorem may_lines {o : Ord} (h : o.may = true) : o.lines.length ≤ 64 ∧ ∀ x ∈ o.lines, nameOk x.good = true ∧ 1 ≤ x.count ∧ x.count ≤ 1048576 ∧ 0 ≤ x.price ∧ x.price ≤ 1073741824 := by
  simp only [Ord.may, Bool.and_eq_true, decide_eq_true_eq, linesOk, List.all_eq_true] at h
  refine ⟨h.1.2, fun x hx => ?_⟩
  have := h.2.1 x hx
  simp only [Line.ok, countB, Bool.and_eq_true, decide_eq_true_eq] at this
  exact ⟨this.1.1, this.1.2.1, this.1.2.2, this.2.1, this.2.2⟩
theorem prod_le {a b : Int} (h1 : 1 ≤ a) (h2 : a ≤ 1048576) (h3 : 0 ≤ b) (h4 : b ≤ 1073741824) : 0 ≤ a * b ∧ a * b ≤ 1125899906842624 := by
  constructor
  · exact Int.mul_nonneg (by omega) h3
  · have := Int.mul_le_mul h2 h4 h3 (by omega)
    omega
set_option maxRecDepth 10000 in
theorem total_ac (o : Ord) : AC Try.prog 10 [.agg o.cs] [] [] (fun r _ => r = o.totalR) := by
  refine AC_enter Try.func10 rfl Try.ntmps10 (rv := [.tmp 2, .tmp 3]) rfl rfl (by simp) (fun w X G => ?_)
  repeat' (first | ((with_reducible refine gA ?_); (first | refine AW_seq ?_ | refine AW_region ?_ | (refine AW_cond rfl (fun hc => ?_) (fun hc => ?_) <;> try (exfalso; simp only [cmpL] at hc; omega)) | refine AW_block ?_ | refine AW_ret ?_ | refine AW_skip ?_)) | ((with_reducible refine gS ?_); refine Es_s (T := Try.tab) rfl rfl rfl rfl ?_) | (((with_reducible refine gS ?_); apply Es_q); rfl; rfl; refine LStep_call (may_ac _) rfl rfl rfl rfl) | (((with_reducible refine gS ?_); apply Es_q); rfl; rfl; refine LStep_lenM (T := Try.tab) rfl rfl rfl rfl) | (refine Es_skip rfl ?_ rfl ?_; (first | rfl | (refine w_tf ?_; assumption) | (refine w_ft ?_; assumption))) | (((with_reducible refine gS ?_); apply Es_xs); rfl; rfl; refine LStep_boxN rfl rfl rfl rfl rfl rfl; rfl) | (with_reducible refine Es_nil ?_) | (with_reducible refine then_n ?_) | (with_reducible refine then_r ?_) | ((with_reducible refine gR ?_); first | refine ret1 rfl ?_ | refine ret2 rfl rfl ?_ | refine ret0 ?_ | refine end1 rfl ?_ | refine end0 ?_))
  all_goals simp only [cmps] at *
  · have h : o.may = false := by assumption
    rw [Ord.totalR, h]; rfl
  have hmay : o.may = true := by assumption
  obtain ⟨h64, hl⟩ := may_lines hmay
  have hres : o.totalR = heldR (sumC o.lines 0) := by rw [Ord.totalR, hmay]; rfl
  rw [hres]
  refine AW_forE (S := Nat × Int) (fun s => s.1 ≤ o.lines.length ∧ sumC o.lines 0 = sumC (o.lines.drop s.1) s.2 ∧ 0 ≤ s.2 ∧ s.2 ≤ s.1 * 1125899906842624) (fun s => [(13, .d (.sc (.int .i64 (s.1 : Nat)))), (4, .d (.sc (.int .i64 s.2)))]) (fun _ => []) (fun s => o.lines.length - s.1) (0, 0) ⟨by omega, rfl, by omega, by omega⟩ (by (repeat' (first | exact trivial | exact rfl | (refine ⟨Or.inl rfl, ?_⟩) | (refine ⟨Or.inr rfl, ?_⟩) | (refine ⟨Or.inr trivial, ?_⟩) | (refine ⟨rfl, ?_⟩) | (refine ⟨?_, ?_⟩)))) (by (repeat' (first | exact trivial | exact rfl | (refine ⟨Or.inl rfl, ?_⟩) | (refine ⟨Or.inr rfl, ?_⟩) | (refine ⟨Or.inr trivial, ?_⟩) | (refine ⟨rfl, ?_⟩) | (refine ⟨?_, ?_⟩)))) ?_
  intro ⟨k, a⟩ ⟨hk, hf, ha, hb⟩
  simp only at hk hf ha hb
  by_cases hlt : k < o.lines.length
  · obtain ⟨x, hx, hd⟩ := drop_at hlt
    rw [hd] at hf
    obtain ⟨_, c1, c2, c3, c4⟩ := hl x (List.mem_of_getElem? hx)
    obtain ⟨p1, p2⟩ := prod_le c1 c2 c3 c4
    repeat' (first | ((with_reducible refine gA ?_); (first | refine AW_seq ?_ | refine AW_region ?_ | (refine AW_cond rfl (fun hc => ?_) (fun hc => ?_) <;> try (exfalso; simp only [cmpL] at hc; omega)) | refine AW_block ?_ | refine AW_skip ?_)) | ((with_reducible refine gS ?_); refine Es_s (T := Try.tab) rfl rfl rfl rfl ?_) | (((with_reducible refine gS ?_); apply Es_q); rfl; rfl; (first | (refine LStep_add rfl rfl rfl rfl ?_; (refine IntWalk.i64_in _ ?_; first | omega | (simp only [cmps] at *; omega))) | (refine LStep_mul rfl rfl rfl rfl ?_; (refine IntWalk.i64_in _ ?_; first | omega | (simp only [cmps] at *; omega))) | (refine LStep_indexM (T := Try.tab) (c := ?_) rfl rfl rfl rfl rfl rfl ?_; rotate_left; assumption))) | (refine Es_skip rfl ?_ rfl ?_; (first | rfl | (refine w_tf ?_; assumption) | (refine w_ft ?_; assumption))) | (((with_reducible refine gS ?_); apply Es_xs); rfl; rfl; refine LStep_allocN (T := Try.tab) rfl rfl rfl rfl rfl rfl; rfl) | (((with_reducible refine gS ?_); apply Es_xn); rfl; rfl; (refine LStep_storeN (T := Try.tab) rfl rfl rfl rfl rfl rfl rfl ?_ rfl; (refine Nat.le_of_ble_eq_true ?_; rfl)); rfl) | (with_reducible refine Es_nil ?_) | (with_reducible refine then_n ?_) | (with_reducible refine block_n ?_))
    (refine ⟨(k + 1, a + x.count * x.price), ?_, by omega, by (repeat' (first | exact trivial | exact rfl | (refine ⟨Or.inl rfl, ?_⟩) | (refine ⟨Or.inr rfl, ?_⟩) | (refine ⟨Or.inr trivial, ?_⟩) | (refine ⟨rfl, ?_⟩) | (refine ⟨?_, ?_⟩))), by (repeat' (first | exact trivial | exact rfl | (refine ⟨Or.inl rfl, ?_⟩) | (refine ⟨Or.inr rfl, ?_⟩) | (refine ⟨Or.inr trivial, ?_⟩) | (refine ⟨rfl, ?_⟩) | (refine ⟨?_, ?_⟩))), by (repeat' (first | exact trivial | exact rfl | (refine ⟨Or.inl rfl, ?_⟩) | (refine ⟨Or.inr rfl, ?_⟩) | (refine ⟨Or.inr trivial, ?_⟩) | (refine ⟨rfl, ?_⟩) | (refine ⟨?_, ?_⟩))), by (repeat' (first | exact trivial | exact rfl | (refine ⟨Or.inl rfl, ?_⟩) | (refine ⟨Or.inr rfl, ?_⟩) | (refine ⟨Or.inr trivial, ?_⟩) | (refine ⟨rfl, ?_⟩) | (refine ⟨?_, ?_⟩)))⟩; exact ⟨by omega, hf, by omega, by omega⟩)
  · have : k = o.lines.length := by omega
    subst this
    rw [drop_end, sumC] at hf
    repeat' (first | ((with_reducible refine gA ?_); (first | refine AW_seq ?_ | refine AW_region ?_ | (refine AW_cond rfl (fun hc => ?_) (fun hc => ?_) <;> try (exfalso; simp only [cmpL] at hc; omega)) | refine AW_ret ?_ | refine AW_skip ?_ | refine AW_exit ?_)) | ((with_reducible refine gS ?_); refine Es_s (T := Try.tab) rfl rfl rfl rfl ?_) | (with_reducible refine Es_nil ?_) | (with_reducible refine then_n ?_) | (with_reducible refine then_r ?_) | (with_reducible refine then_e ?_) | ((with_reducible refine block_e ?_ ?_); rfl) | ((with_reducible refine gR ?_); first | refine ret1 rfl ?_ | refine ret2 rfl rfl ?_ | refine ret0 ?_ | refine end1 rfl ?_ | refine end0 ?_))
    all_goals simp only [cmps] at *
    · rw [hf, heldR, if_pos (by assumption)]
    · rw [hf, heldR, if_neg (by omega)]




end Go.Proofs.Ytjadbgmohmgaaaa
