import Derived.Test.YtbekoielblcbmaaX5
namespace Go.Proofs.Ytbekoielblcbmaa
open Go.SL
/-! ### LedgerLets -/
def bsK : ByteArray := ⟨#[107, 101, 112, 116]⟩
theorem holdE_no {s : Led} {m : Int} (he : holdE s bsK bsA bsE m ≠ 0) : (aget (bsA, bsE) s.A).isSome = false ∨ m < 1 ∨ 1099511627776 < m ∨ frS s (bsA, bsE) < m ∨ holdE s bsK bsA bsE m = 5 ∨ holdE s bsK bsA bsE m = 7 := by
  have hk : lnameOk bsK = true := by kernel_rfl
  unfold holdE at he ⊢
  rw [if_neg (by rw [hk]; exact fun h => by cases h)] at he ⊢
  by_cases h1 : (aget bsK s.H).isSome = true
  · rw [if_pos h1]; exact .inr (.inr (.inr (.inr (.inl rfl))))
  rw [if_neg h1] at he ⊢
  by_cases h2 : (aget (bsA, bsE) s.A).isNone = true
  · refine .inl ?_
    cases h : aget (bsA, bsE) s.A with
    | none => rfl
    | some x => rw [h] at h2; simp at h2
  rw [if_neg h2] at he ⊢
  by_cases h3 : m < 1 ∨ m > 1099511627776
  · rcases h3 with h3 | h3
    · exact .inr (.inl h3)
    · exact .inr (.inr (.inl h3))
  rw [if_neg h3] at he ⊢
  by_cases h4 : frA s.A (bsA, bsE) < m
  · exact .inr (.inr (.inr (.inl h4)))
  rw [if_neg h4] at he ⊢
  by_cases h5 : s.H.length ≥ 4096
  · rw [if_pos h5]; exact .inr (.inr (.inr (.inr (.inr rfl))))
  rw [if_neg h5] at he
  exact absurd rfl he
theorem aget_put_self {κ α : Type} [DecidableEq κ] (k : κ) (c : α) (l : List (κ × α)) : aget k (aput k c l) = some c := by rw [aget_put, if_pos rfl]
theorem wr_hold (b h f m : Int) : wrp .i64 (wrp .i64 (b - wrp .i64 (h + m)) - f) = wrp .i64 (wrp .i64 (wrp .i64 (b - h) - f) - m) := by
  unfold wrp IntKind.wrap
  simp [IntKind.bits, IntKind.signed]
  omega
theorem wr_let (b h f m : Int) : wrp .i64 (wrp .i64 (b - wrp .i64 (wrp .i64 (h + m) - m)) - f) = wrp .i64 (wrp .i64 (b - h) - f) := by
  unfold wrp IntKind.wrap
  simp [IntKind.bits, IntKind.signed]
  omega
/-- what a hold of 'kept' does -/
theorem hold_does {s : Led} {m : Int} (he : holdE s bsK bsA bsE m = 0) : frS (holdS s bsK bsA bsE m) (bsA, bsE) = wrp .i64 (frS s (bsA, bsE) - m) ∧ balS (holdS s bsK bsA bsE m) (bsA, bsE) = balS s (bsA, bsE) ∧ letE (holdS s bsK bsA bsE m) bsK = 0 ∧ frS (letS (holdS s bsK bsA bsE m) bsK) (bsA, bsE) = frS s (bsA, bsE)
    ∧ (aget (bsA, bsE) s.A).isSome = true ∧ (aget (bsA, bsE) (holdS s bsK bsA bsE m).A).isSome = true ∧ (aget (bsA, bsE) (letS (holdS s bsK bsA bsE m) bsK).A).isSome = true := by
  obtain ⟨g1, g2, g3, g4, g5, g6, g7⟩ := holdE_ok he
  cases hq : aget (bsA, bsE) s.A with
  | none => exact absurd hq g3
  | some a =>
    have e1 : holdS s bsK bsA bsE m = ⟨aput (bsA, bsE) ⟨a.floor, a.bal, wrp .i64 (a.held + m)⟩ s.A, s.P, aput bsK ⟨bsK, bsA, bsE, m⟩ s.H⟩ := by
      unfold holdS; rw [if_pos he, hq]; rfl
    have e2 : letS (holdS s bsK bsA bsE m) bsK = ⟨aput (bsA, bsE) ⟨a.floor, a.bal, wrp .i64 (wrp .i64 (a.held + m) - m)⟩ (aput (bsA, bsE) ⟨a.floor, a.bal, wrp .i64 (a.held + m)⟩ s.A), s.P, adel bsK (aput bsK ⟨bsK, bsA, bsE, m⟩ s.H)⟩ := by
      rw [e1]
      unfold letS
      rw [aget_put_self]
      simp only [lessS, Hld.key, aget_put_self, Option.getD_some, Int.sub_self, if_true]
    refine ⟨?_, ?_, ?_, ?_, ?_, ?_, ?_⟩
    · rw [e1]; unfold frS; rw [aget_put_self, hq]; exact wr_hold _ _ _ _
    · rw [e1]; unfold balS; rw [aget_put_self, hq]; rfl
    · rw [e1]; unfold letE; rw [aget_put_self]; rfl
    · rw [e2]; unfold frS; rw [aget_put_self, hq]; exact wr_let _ _ _ _
    · rfl
    · rw [e1]; rw [aget_put_self]; rfl
    · rw [e2]; rw [aget_put_self]; rfl
set_option maxRecDepth 10000 in
set_option maxHeartbeats 4000000 in
theorem lets_ac (l : List Act) (m : Int) (hl : l.length ≤ 140737488351232) (hk : ∀ x ∈ l, 0 ≤ x.kind) : AC Try.prog 4 [.d (.sl 6 (l.map Act.enc)), .d (.sc (.int .i64 m))] [] [] (fun r _ => r = .d (.sc (.bool true))) := by
  have cf := few_ac l hl
  cases hfew : fewL l with
  | false =>
    rw [hfew] at cf
    refine AC_enter Try.func4 rfl Try.ntmps4 (rv := [.tmp 4]) rfl rfl (by simp) (fun w X G => ?_)
    repeat' (first | ((with_reducible refine gA ?_); (first | refine AW_seq ?_ | refine AW_region ?_ | refine AW_condT rfl ?_ | refine AW_ret ?_)) | ((with_reducible refine gS ?_); refine Es_s (T := Try.tab) rfl rfl rfl rfl ?_) | (((with_reducible refine gS ?_); apply Es_q); rfl; rfl; (first | refine LStep_call (awake_ac) rfl rfl rfl rfl | refine LStep_call (cf) rfl rfl rfl rfl)) | (((with_reducible refine gS ?_); apply Es_q); rfl; rfl; refine LStep_simp (T := Try.tab) rfl rfl) | (with_reducible refine Es_nil ?_) | (with_reducible refine then_n ?_) | (with_reducible refine then_r ?_) | ((with_reducible refine gR ?_); first | refine ret1 rfl ?_ | refine ret2 rfl rfl ?_ | refine ret0 ?_ | refine end1 rfl ?_ | refine end0 ?_))
    rfl
  | true =>
    rw [hfew] at cf
    have cp := played_ac l hfew hk
    have hok := playS_ok Led0_ok l
    generalize playS Led0 l = s at cp hok
    have c1 := lfree_ac s bsA bsE
    have c2 := balance_ac s bsA bsE
    have c3 := hold_ac s bsK bsA bsE m (by have := hok.lH; omega)
    have p1 : (s.P.map Post.enc).length = ((holdS s bsK bsA bsE m).P.map Post.enc).length := by rw [holdS_P]
    by_cases he : holdE s bsK bsA bsE m = 0
    · obtain ⟨d1, d2, d3, d4, d5, d6, d7⟩ := hold_does he
      have hok2 := holdS_ok hok bsK bsA bsE m
      rw [he] at c3
      have p2 : ((holdS s bsK bsA bsE m).P.map Post.enc).length = ((letS (holdS s bsK bsA bsE m) bsK).P.map Post.enc).length := by rw [letS_P]
      have c6 := let_ac (holdS s bsK bsA bsE m) bsK (fun q hq => (hok2.hold _ _ hq).2.1)
      rw [d3] at c6
      generalize holdS s bsK bsA bsE m = t at *
      generalize letS t bsK = u at *
      have c4 := lfree_ac t bsA bsE
      have c5 := balance_ac t bsA bsE
      have c7 := lfree_ac u bsA bsE
      rw [d1] at c4
      rw [d2] at c5
      rw [d4] at c7
      clear d1 d2 d3 d4 d5 d6 d7 he
      refine AC_enter Try.func4 rfl Try.ntmps4 (rv := [.tmp 4]) rfl rfl (by simp) (fun w X G => ?_)
      repeat' (first | ((with_reducible refine gA ?_); (first | refine AW_seq ?_ | refine AW_region ?_ | refine AW_condT rfl ?_ | refine AW_condF rfl ?_ | (refine AW_condN rfl ?_ ?_; assumption) | (refine AW_cond rfl (fun hc => ?_) (fun hc => ?_) <;> try (exfalso; simp only [cmpL] at hc; omega)) | refine AW_ret ?_ | refine AW_skip ?_)) | ((with_reducible refine gS ?_); refine Es_s (T := Try.tab) rfl rfl rfl rfl ?_) | (((with_reducible refine gS ?_); apply Es_q); rfl; (first | rfl | (refine w_ff ?_; assumption)); (first | refine LStep_call (awake_ac) rfl rfl rfl rfl | refine LStep_call (cf) rfl rfl rfl rfl)) | (((with_reducible refine gS ?_); apply Es_xg); rfl; (first | rfl | (refine w_ff ?_; assumption)); (first | refine LStep_callHN [] [(5, 26), (5001, 2601), (5002, 2602), (5003, 2603)] cp rfl rfl trivial rfl trivial rfl rfl | refine LStep_callHN [(1000, 26), (1001, 2601), (1002, 2602), (1003, 2603)] [] c1 rfl rfl ⟨rfl, rfl, rfl, rfl, trivial⟩ rfl ⟨trivial, trivial, rfl, trivial, trivial⟩ rfl rfl | refine LStep_callHN [(1000, 26), (1001, 2601), (1002, 2602), (1003, 2603)] [] c2 rfl rfl ⟨rfl, rfl, rfl, rfl, trivial⟩ rfl ⟨trivial, trivial, rfl, trivial, trivial⟩ rfl rfl | refine LStep_callHN [(1000, 26), (1001, 2601), (1002, 2602), (1003, 2603)] [] c3 rfl rfl ⟨rfl, rfl, rfl, rfl, trivial⟩ rfl ⟨trivial, trivial, p1, trivial, trivial⟩ rfl rfl | refine LStep_callHN [(1000, 26), (1001, 2601), (1002, 2602), (1003, 2603)] [] c4 rfl rfl ⟨rfl, rfl, rfl, rfl, trivial⟩ rfl ⟨trivial, trivial, rfl, trivial, trivial⟩ rfl rfl | refine LStep_callHN [(1000, 26), (1001, 2601), (1002, 2602), (1003, 2603)] [] c5 rfl rfl ⟨rfl, rfl, rfl, rfl, trivial⟩ rfl ⟨trivial, trivial, rfl, trivial, trivial⟩ rfl rfl | refine LStep_callHN [(1000, 26), (1001, 2601), (1002, 2602), (1003, 2603)] [] c6 rfl rfl ⟨rfl, rfl, rfl, rfl, trivial⟩ rfl ⟨trivial, trivial, p2, trivial, trivial⟩ rfl rfl | refine LStep_callHN [(1000, 26), (1001, 2601), (1002, 2602), (1003, 2603)] [] c7 rfl rfl ⟨rfl, rfl, rfl, rfl, trivial⟩ rfl ⟨trivial, trivial, rfl, trivial, trivial⟩ rfl rfl); rfl) | (((with_reducible refine gS ?_); apply Es_q); rfl; (first | rfl | (refine w_ff ?_; assumption)); (first | refine LStep_simp (T := Try.tab) rfl rfl | refine LStep_wrap (T := Try.tab) rfl rfl | (refine LStep_pickT rfl rfl ?_ rfl rfl; assumption) | (refine LStep_pickF rfl rfl ?_ rfl rfl; assumption))) | (refine Es_skip rfl ?_ rfl ?_; (first | rfl | (refine w_tf ?_; assumption) | (refine w_ft ?_; assumption))) | (refine Es_split rfl ?_ (fun _ => ?_) (fun _ => ?_); ((fail_if_success (refine und_t ?_; assumption)); (fail_if_success (refine und_f ?_; assumption)); exact trivial)) | (with_reducible refine Es_nil ?_) | (with_reducible refine then_n ?_) | (with_reducible refine then_r ?_) | ((with_reducible refine gR ?_); first | refine ret1 rfl ?_ | refine ret2 rfl rfl ?_ | refine ret0 ?_ | refine end1 rfl ?_ | refine end0 ?_))
      all_goals clear c1 c2 c3 c4 c5 c6 c7 cf cp
      all_goals first
        | rfl
        | (simp [eqb]; done)
        | (exfalso; simp [eqb] at *; done)
    · have hno := holdE_no he
      have e1 : holdS s bsK bsA bsE m = s := by unfold holdS; rw [if_neg he]
      rw [e1] at c3
      generalize holdE s bsK bsA bsE m = e at *
      generalize frS s (bsA, bsE) = fr at *
      generalize (aget (bsA, bsE) s.A).isSome = is at *
      clear e1 p1
      refine AC_enter Try.func4 rfl Try.ntmps4 (rv := [.tmp 4]) rfl rfl (by simp) (fun w X G => ?_)
      repeat' (first | ((with_reducible refine gA ?_); (first | refine AW_seq ?_ | refine AW_region ?_ | refine AW_condF rfl ?_ | (refine AW_cond rfl (fun hc => ?_) (fun hc => ?_) <;> try (exfalso; simp only [cmpL] at hc; omega)) | refine AW_ret ?_ | refine AW_skip ?_)) | ((with_reducible refine gS ?_); refine Es_s (T := Try.tab) rfl rfl rfl rfl ?_) | (((with_reducible refine gS ?_); apply Es_q); rfl; (first | rfl | (refine w_ff ?_; assumption)); (first | refine LStep_call (awake_ac) rfl rfl rfl rfl | refine LStep_call (cf) rfl rfl rfl rfl)) | (((with_reducible refine gS ?_); apply Es_xg); rfl; (first | rfl | (refine w_ff ?_; assumption)); (first | refine LStep_callHN [] [(5, 26), (5001, 2601), (5002, 2602), (5003, 2603)] cp rfl rfl trivial rfl trivial rfl rfl | refine LStep_callHN [(1000, 26), (1001, 2601), (1002, 2602), (1003, 2603)] [] c1 rfl rfl ⟨rfl, rfl, rfl, rfl, trivial⟩ rfl ⟨trivial, trivial, rfl, trivial, trivial⟩ rfl rfl | refine LStep_callHN [(1000, 26), (1001, 2601), (1002, 2602), (1003, 2603)] [] c2 rfl rfl ⟨rfl, rfl, rfl, rfl, trivial⟩ rfl ⟨trivial, trivial, rfl, trivial, trivial⟩ rfl rfl | refine LStep_callHN [(1000, 26), (1001, 2601), (1002, 2602), (1003, 2603)] [] c3 rfl rfl ⟨rfl, rfl, rfl, rfl, trivial⟩ rfl ⟨trivial, trivial, rfl, trivial, trivial⟩ rfl rfl); rfl) | (((with_reducible refine gS ?_); apply Es_q); rfl; (first | rfl | (refine w_ff ?_; assumption)); (first | refine LStep_simp (T := Try.tab) rfl rfl | (refine LStep_pickT rfl rfl ?_ rfl rfl; assumption) | (refine LStep_pickF rfl rfl ?_ rfl rfl; assumption))) | (refine Es_skip rfl ?_ rfl ?_; (first | rfl | (refine w_tf ?_; assumption) | (refine w_ft ?_; assumption))) | (refine Es_split rfl ?_ (fun _ => ?_) (fun _ => ?_); ((fail_if_success (refine und_t ?_; assumption)); (fail_if_success (refine und_f ?_; assumption)); exact trivial)) | (with_reducible refine Es_nil ?_) | (with_reducible refine then_n ?_) | (with_reducible refine then_r ?_) | ((with_reducible refine gR ?_); first | refine ret1 rfl ?_ | refine ret2 rfl rfl ?_ | refine ret0 ?_ | refine end1 rfl ?_ | refine end0 ?_))
      all_goals clear c1 c2 c3 cf cp
      all_goals first
        | rfl
        | (exfalso; simp [eqb] at *; done)
        | (refine congrArg (fun b => AV.d (D.sc (Value.bool b))) ?_; cases is <;> simp [eqb, ltb] at * <;> omega)
end Go.Proofs.Ytbekoielblcbmaa
