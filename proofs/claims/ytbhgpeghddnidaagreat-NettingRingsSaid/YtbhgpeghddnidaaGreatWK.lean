/- What the rows of this seat ask of the program, once; debts among the arguments, read. -/
import Derived.Test.YtbhgpeghddnidaaGreatWH
import Derived.WalkKit
import Derived.ProofKit
import Derived.OpenShut
import Derived.SizedLaws
namespace Go.Proofs.YtbhgpeghddnidaaGreat
open Go.SL Go.ChangeShapes Go.WideShapes Go.ChangeAt Go.RowKit

theorem own : ownKnob Tryz.prog.godebug = none := by kernel_rfl
theorem kids : Kids Tryz.prog (· < Tryz.prog.types.size) := kids_rows (by kernel_rfl) (by kernel_rfl)
theorem full : ∀ t e, t < Tryz.prog.types.size → Tryz.prog.underlying t = some (.slice e) → 0 < Tryz.prog.cellsOf e := slices_full_of _ (by kernel_rfl)
theorem small {t : Nat} (h : Nat.blt t Tryz.prog.types.size = true) : t < Tryz.prog.types.size := by rwa [Nat.blt_eq] at h
def dbS : List CS := [.str, .str, .str, .int .i64]
def dbsS : List CS := [.sl 4 56 dbS]
theorem argK_dbs : argK Tryz.tab 22 = some (false, dbsS) := by kernel_rfl
theorem db_of (e : List D) (h : OkCs dbS e) : ∃ d : Db, e = dbE d ∧ smD d := by
  unfold dbS at h
  obtain ⟨_, _, rfl, h1, h⟩ := h.cons_inv
  obtain ⟨_, _, rfl, h2, h⟩ := h.cons_inv
  obtain ⟨_, _, rfl, h3, h⟩ := h.cons_inv
  obtain ⟨_, _, rfl, h4, h⟩ := h.cons_inv
  obtain rfl := h.nil_inv
  obtain ⟨s1, rfl, hs1⟩ := h1.str_inv
  obtain ⟨s2, rfl, hs2⟩ := h2.str_inv
  obtain ⟨s3, rfl, hs3⟩ := h3.str_inv
  obtain ⟨n4, rfl, _⟩ := h4.i64_inv
  exact ⟨((s3, s1, s2), n4), rfl, by unfold smD; dsimp only; omega⟩
theorem dbs_of {x : AV} (h : OkArg (false, dbsS) x) : ∃ l : List Db, x = .d (.sl 4 (l.map dbE)) ∧ l.length ≤ 140737488351232 ∧ ∀ d ∈ l, smD d := by
  obtain ⟨d, rfl, h⟩ := h
  obtain ⟨l, rfl, h1, h2⟩ := h.list db_of
  exact ⟨l, rfl, by omega, h2⟩
theorem few_len {l : List Db} (h : fewD l = true) : l.length ≤ 31 := by
  unfold fewD at h
  rw [Bool.and_eq_true] at h
  exact of_decide_eq_true h.1
def TT : AV → Hp → Prop := fun r _ => r = .d (.sc (.bool true))
/-! ### NettingPairs -/
set_option maxRecDepth 10000 in
set_option maxHeartbeats 4000000 in
theorem lpairs_ac (l : List Db) (hl : l.length ≤ 140737488351232) (hs : ∀ d ∈ l, smD d) : AC Tryz.prog 4 [.d (.sl 4 (l.map dbE))] [] [] (fun r _ => r = .d (.sc (.bool true))) := by
  have ca := awake_ac
  have cf := rFew_ac l hl hs
  cases hf : fewD l with
  | false =>
    rw [hf] at cf
    refine AC_enter Tryz.func4 rfl Tryz.ntmps4 (rv := [.tmp 2]) rfl rfl (by simp) (fun w X G => ?_)
    repeat' (first | ((with_reducible refine gA ?_); (first | refine AW_seq ?_ | refine AW_region ?_ | refine AW_condT rfl ?_ | refine AW_condF rfl ?_ | refine AW_ret ?_ | refine AW_skip ?_)) | ((with_reducible refine gS ?_); refine Es_s (T := Tryz.tab) rfl rfl rfl rfl ?_) | (((with_reducible refine gS ?_); apply Es_q); rfl; rfl; (first | refine LStep_call (ca) rfl rfl rfl rfl | refine LStep_call (cf) rfl rfl rfl rfl)) | (with_reducible refine Es_nil ?_) | (with_reducible refine then_n ?_) | (with_reducible refine then_r ?_) | ((with_reducible refine gR ?_); first | refine ret1 rfl ?_ | refine ret2 rfl rfl ?_ | refine ret0 ?_ | refine end1 rfl ?_ | refine end0 ?_))
    all_goals first
      | rfl
      | trace_state
  | true =>
    rw [hf] at cf
    have hn := few_len hf
    have e0 : eqb (0 : Int) 0 = true := eqb_t.2 rfl
    have e1 : eqb (1 : Int) 1 = true := eqb_t.2 rfl
    have e3 : eqb (3 : Int) 3 = true := eqb_t.2 rfl
    have key : ∃ (X : List Db) (n : Int), (eqb n n = true) ∧ X.length ≤ 4096 ∧ AC Tryz.prog 13 [.d (.sl 4 (l.map dbE))] [] [] (fun r _ => r = .tup [.d (.sl 4 (X.map dbE)), .d (.sc (.int .i64 n))]) ∧ AC Tryz.prog 14 [.d (.sl 4 (l.map dbE))] [] [] (fun r _ => r = .tup [.d (.sl 4 (X.map dbE)), .d (.sc (.int .i64 n))]) := by
      cases hm : l.all mayD with
      | false => exact ⟨[], 1, e1, by simp, pairsNo_ac l (by omega) hm, rPairsNo_ac l (by omega) hs hm⟩
      | true =>
        by_cases hb : badN l
        · exact ⟨[], 3, e3, by simp, pairsBad_ac l (by omega) hm hb, rPairs_bad l (by omega) hs hm hb⟩
        · exact ⟨pairN l, 0, e0, by
            have hO := okD hm hb
            have := fit_len hO (pairN_told hO.one) (fun _ => Int.le_refl _)
            omega, pairsOk_ac l (by omega) hm hb, rPairs_ok l (by omega) hs hm hb⟩
    obtain ⟨X, n, hnn, hX, c1, c2⟩ := key
    have cs := rSame_ac X X (by omega)
    rw [sameB_self] at cs
    refine AC_enter Tryz.func4 rfl Tryz.ntmps4 (rv := [.tmp 2]) rfl rfl (by simp) (fun w X G => ?_)
    repeat' (first | ((with_reducible refine gA ?_); (first | refine AW_seq ?_ | refine AW_region ?_ | refine AW_condF rfl ?_ | refine AW_ret ?_ | refine AW_skip ?_)) | ((with_reducible refine gS ?_); refine Es_s (T := Tryz.tab) rfl rfl rfl rfl ?_) | (((with_reducible refine gS ?_); apply Es_q); rfl; rfl; (first | refine LStep_call (ca) rfl rfl rfl rfl | refine LStep_call (cf) rfl rfl rfl rfl | refine LStep_call (c1) rfl rfl rfl rfl | refine LStep_call (c2) rfl rfl rfl rfl | refine LStep_call (cs) rfl rfl rfl rfl)) | (((with_reducible refine gS ?_); apply Es_q); rfl; rfl; refine LStep_simp (T := Tryz.tab) rfl rfl) | (with_reducible refine Es_nil ?_) | (with_reducible refine then_n ?_) | ((with_reducible refine gR ?_); first | refine ret1 rfl ?_ | refine ret2 rfl rfl ?_ | refine ret0 ?_ | refine end1 rfl ?_ | refine end0 ?_))
    all_goals first
      | rfl
      | (rw [hnn]; done)
      | trace_state
/-! ### NettingNets -/
theorem posQ_len (l : List Db) : (posN l).length ≤ 2 * l.length ∧ (posC l).length ≤ 2 * l.length := by
  obtain ⟨h1, h2⟩ := pos_perm (l := l) (List.Perm.refl _)
  have := nz_len (l := l) (List.Perm.refl _)
  have := h1.length_eq
  have := h2.length_eq
  omega
theorem netN_len (l : List Db) : (netN l).length ≤ 2 * l.length := by
  rw [netN_L]
  exact Nat.le_trans (netL_len _) (posQ_len l).2
theorem rnet_ok (l : List Db) (hl : l.length ≤ 100) (hs : ∀ d ∈ l, smD d) (h : l.all mayD = true) (hb : ¬ badS l) : AC Tryz.prog 17 [.d (.sl 4 (l.map dbE))] [] [] (fun r _ => r = .tup [.d (.sl 4 ((netN l).map dbE)), .d (.sc (.int .i64 0))]) :=
  (rNet_ac l hl hs h).mono (fun r _ hr => by
    rcases hr with ⟨e, _⟩ | ⟨_, e⟩
    · exact absurd e hb
    · exact e)
theorem rnet_bad (l : List Db) (hl : l.length ≤ 100) (hs : ∀ d ∈ l, smD d) (h : l.all mayD = true) (hb : badS l) : AC Tryz.prog 17 [.d (.sl 4 (l.map dbE))] [] [] (fun r _ => r = .tup [.d (.sl 4 []), .d (.sc (.int .i64 3))]) :=
  (rNet_ac l hl hs h).mono (fun r _ hr => by
    rcases hr with ⟨_, e⟩ | ⟨e, _⟩
    · exact e
    · exact absurd hb e)
set_option maxRecDepth 10000 in
set_option maxHeartbeats 4000000 in
theorem lnets_ac (l : List Db) (hl : l.length ≤ 140737488351232) (hs : ∀ d ∈ l, smD d) : AC Tryz.prog 5 [.d (.sl 4 (l.map dbE))] [] [] (fun r _ => r = .d (.sc (.bool true))) := by
  have ca := awake_ac
  have cf := rFew_ac l hl hs
  cases hf : fewD l with
  | false =>
    rw [hf] at cf
    refine AC_enter Tryz.func5 rfl Tryz.ntmps5 (rv := [.tmp 2]) rfl rfl (by simp) (fun w X G => ?_)
    repeat' (first | ((with_reducible refine gA ?_); (first | refine AW_seq ?_ | refine AW_region ?_ | refine AW_condT rfl ?_ | refine AW_condF rfl ?_ | refine AW_ret ?_ | refine AW_skip ?_)) | ((with_reducible refine gS ?_); refine Es_s (T := Tryz.tab) rfl rfl rfl rfl ?_) | (((with_reducible refine gS ?_); apply Es_q); rfl; rfl; (first | refine LStep_call (ca) rfl rfl rfl rfl | refine LStep_call (cf) rfl rfl rfl rfl)) | (with_reducible refine Es_nil ?_) | (with_reducible refine then_n ?_) | (with_reducible refine then_r ?_) | ((with_reducible refine gR ?_); first | refine ret1 rfl ?_ | refine ret2 rfl rfl ?_ | refine ret0 ?_ | refine end1 rfl ?_ | refine end0 ?_))
    all_goals first
      | rfl
      | trace_state
  | true =>
    rw [hf] at cf
    have hn := few_len hf
    have ee : ∀ n : Int, eqb n n = true := fun n => eqb_t.2 rfl
    have key : ∃ (X : List Db) (n : Int), X.length ≤ 4096 ∧ AC Tryz.prog 16 [.d (.sl 4 (l.map dbE))] [] [] (fun r _ => r = .tup [.d (.sl 4 (X.map dbE)), .d (.sc (.int .i64 n))]) ∧ AC Tryz.prog 17 [.d (.sl 4 (l.map dbE))] [] [] (fun r _ => r = .tup [.d (.sl 4 (X.map dbE)), .d (.sc (.int .i64 n))]) := by
      cases hm : l.all mayD with
      | false => exact ⟨[], 1, by simp, netNo_ac l (by omega) hm, rNetNo_ac l (by omega) hs hm⟩
      | true =>
        by_cases hb : badS l
        · exact ⟨[], 3, by simp, net_bad l (by omega) hm hb, rnet_bad l (by omega) hs hm hb⟩
        · exact ⟨netN l, 0, by have := netN_len l; omega, net_ok l (by omega) hm hb, rnet_ok l (by omega) hs hm hb⟩
    obtain ⟨X, n, hX, c1, c2⟩ := key
    have cs := rSame_ac X X (by omega)
    rw [sameB_self] at cs
    have hnn := ee n
    refine AC_enter Tryz.func5 rfl Tryz.ntmps5 (rv := [.tmp 2]) rfl rfl (by simp) (fun w X G => ?_)
    repeat' (first | ((with_reducible refine gA ?_); (first | refine AW_seq ?_ | refine AW_region ?_ | refine AW_condF rfl ?_ | refine AW_ret ?_ | refine AW_skip ?_)) | ((with_reducible refine gS ?_); refine Es_s (T := Tryz.tab) rfl rfl rfl rfl ?_) | (((with_reducible refine gS ?_); apply Es_q); rfl; rfl; (first | refine LStep_call (ca) rfl rfl rfl rfl | refine LStep_call (cf) rfl rfl rfl rfl | refine LStep_call (c1) rfl rfl rfl rfl | refine LStep_call (c2) rfl rfl rfl rfl | refine LStep_call (cs) rfl rfl rfl rfl)) | (((with_reducible refine gS ?_); apply Es_q); rfl; rfl; refine LStep_simp (T := Tryz.tab) rfl rfl) | (with_reducible refine Es_nil ?_) | (with_reducible refine then_n ?_) | ((with_reducible refine gR ?_); first | refine ret1 rfl ?_ | refine ret2 rfl rfl ?_ | refine ret0 ?_ | refine end1 rfl ?_ | refine end0 ?_))
    all_goals first
      | rfl
      | (rw [hnn]; done)
      | trace_state
/-! ### NettingRings -/
set_option maxRecDepth 10000 in
set_option maxHeartbeats 4000000 in
theorem lrings_ac (l : List Db) (hl : l.length ≤ 140737488351232) (hs : ∀ d ∈ l, smD d) : AC Tryz.prog 6 [.d (.sl 4 (l.map dbE))] [] [] (fun r _ => r = .d (.sc (.bool true))) := by
  have ca := awake_ac
  have cf := rFew_ac l hl hs
  cases hf : fewD l with
  | false =>
    rw [hf] at cf
    refine AC_enter Tryz.func6 rfl Tryz.ntmps6 (rv := [.tmp 2]) rfl rfl (by simp) (fun w X G => ?_)
    repeat' (first | ((with_reducible refine gA ?_); (first | refine AW_seq ?_ | refine AW_region ?_ | refine AW_condT rfl ?_ | refine AW_condF rfl ?_ | refine AW_ret ?_ | refine AW_skip ?_)) | ((with_reducible refine gS ?_); refine Es_s (T := Tryz.tab) rfl rfl rfl rfl ?_) | (((with_reducible refine gS ?_); apply Es_q); rfl; rfl; (first | refine LStep_call (ca) rfl rfl rfl rfl | refine LStep_call (cf) rfl rfl rfl rfl)) | (with_reducible refine Es_nil ?_) | (with_reducible refine then_n ?_) | (with_reducible refine then_r ?_) | ((with_reducible refine gR ?_); first | refine ret1 rfl ?_ | refine ret2 rfl rfl ?_ | refine ret0 ?_ | refine end1 rfl ?_ | refine end0 ?_))
    all_goals first
      | rfl
      | trace_state
  | true =>
    rw [hf] at cf
    have hn := few_len hf
    have ee : ∀ n : Int, eqb n n = true := fun n => eqb_t.2 rfl
    have key : ∃ (X : List Db) (g n : Int), X.length ≤ 4096 ∧ AC Tryz.prog 18 [.d (.sl 4 (l.map dbE))] [] [] (fun r _ => r = .tup [.d (.sl 4 (X.map dbE)), .d (.sc (.int .i64 g)), .d (.sc (.int .i64 n))]) ∧ AC Tryz.prog 19 [.d (.sl 4 (l.map dbE))] [] [] (fun r _ => r = .tup [.d (.sl 4 (X.map dbE)), .d (.sc (.int .i64 g)), .d (.sc (.int .i64 n))]) := by
      cases hm : l.all mayD with
      | false => exact ⟨[], 0, 1, by simp, ringsNo_ac l (by omega) hm, rRingsNo_ac l (by omega) hs hm⟩
      | true =>
        by_cases hb : badN l
        · exact ⟨[], 0, 3, by simp, ringsBad_ac l (by omega) hm hb, rRingsBad_ac l (by omega) hs hm hb⟩
        · by_cases h8 : 8 < (parN l).length
          · exact ⟨[], 0, 7, by simp, ringsMany_ac l (by omega) hm hb h8, rRingsMany_ac l (by omega) hs hm hb h8⟩
          · exact ⟨ringsN l, goneN l, 0, by
              have hO := okD hm hb
              have := fit_len hO (ringsN_told hO) (fun k => (rg_tab hO k.1).2.1 _ _)
              omega, ringsOk_ac l (by omega) hm hb (by omega), rRingsOk_ac l (by omega) hs hm hb (by omega)⟩
    obtain ⟨X, g, n, hX, c1, c2⟩ := key
    have cs := rSame_ac X X (by omega)
    rw [sameB_self] at cs
    have hnn := ee n
    have hgg := ee g
    refine AC_enter Tryz.func6 rfl Tryz.ntmps6 (rv := [.tmp 2]) rfl rfl (by simp) (fun w X G => ?_)
    repeat' (first | ((with_reducible refine gA ?_); (first | refine AW_seq ?_ | refine AW_region ?_ | refine AW_condF rfl ?_ | refine AW_ret ?_ | refine AW_skip ?_)) | ((with_reducible refine gS ?_); refine Es_s (T := Tryz.tab) rfl rfl rfl rfl ?_) | (((with_reducible refine gS ?_); apply Es_q); rfl; (first | rfl | (refine w_tt ?_; assumption)); (first | refine LStep_call (ca) rfl rfl rfl rfl | refine LStep_call (cf) rfl rfl rfl rfl | refine LStep_call (c1) rfl rfl rfl rfl | refine LStep_call (c2) rfl rfl rfl rfl | refine LStep_call (cs) rfl rfl rfl rfl)) | (((with_reducible refine gS ?_); apply Es_q); rfl; (first | rfl | (refine w_tt ?_; assumption)); (first | refine LStep_simp (T := Tryz.tab) rfl rfl | (refine LStep_pickT rfl rfl ?_ rfl rfl; assumption))) | (with_reducible refine Es_nil ?_) | (with_reducible refine then_n ?_) | ((with_reducible refine gR ?_); first | refine ret1 rfl ?_ | refine ret2 rfl rfl ?_ | refine ret0 ?_ | refine end1 rfl ?_ | refine end0 ?_))
    all_goals first
      | rfl
      | (rw [hnn]; done)
      | trace_state
/-! ### NettingPositions -/
set_option maxRecDepth 10000 in
set_option maxHeartbeats 4000000 in
theorem lpositions_ac (a b : List Db) (hal : a.length ≤ 140737488351232) (has : ∀ d ∈ a, smD d) (hbl : b.length ≤ 140737488351232) (hbs : ∀ d ∈ b, smD d) : AC Tryz.prog 3 [.d (.sl 4 (a.map dbE)), .d (.sl 4 (b.map dbE))] [] [] (fun r _ => r = .d (.sc (.bool true))) := by
  have ca := awake_ac
  have cf := rFew_ac a hal has
  have cg := rFew_ac b hbl hbs
  cases hf : fewD a with
  | false =>
    rw [hf] at cf
    refine AC_enter Tryz.func3 rfl Tryz.ntmps3 (rv := [.tmp 4]) rfl rfl (by simp) (fun w X G => ?_)
    repeat' (first | ((with_reducible refine gA ?_); (first | refine AW_seq ?_ | refine AW_region ?_ | refine AW_condT rfl ?_ | refine AW_condF rfl ?_ | refine AW_ret ?_ | refine AW_skip ?_)) | ((with_reducible refine gS ?_); refine Es_s (T := Tryz.tab) rfl rfl rfl rfl ?_) | (((with_reducible refine gS ?_); apply Es_q); rfl; rfl; (first | refine LStep_call (ca) rfl rfl rfl rfl | refine LStep_call (cf) rfl rfl rfl rfl)) | (refine Es_skip rfl ?_ rfl ?_; (first | rfl | (refine w_tf ?_; assumption) | (refine w_ft ?_; assumption))) | (with_reducible refine Es_nil ?_) | (with_reducible refine then_n ?_) | (with_reducible refine then_r ?_) | ((with_reducible refine gR ?_); first | refine ret1 rfl ?_ | refine ret2 rfl rfl ?_ | refine ret0 ?_ | refine end1 rfl ?_ | refine end0 ?_))
    all_goals first
      | rfl
      | trace_state
  | true =>
  cases hg : fewD b with
  | false =>
    rw [hf] at cf
    rw [hg] at cg
    refine AC_enter Tryz.func3 rfl Tryz.ntmps3 (rv := [.tmp 4]) rfl rfl (by simp) (fun w X G => ?_)
    repeat' (first | ((with_reducible refine gA ?_); (first | refine AW_seq ?_ | refine AW_region ?_ | refine AW_condT rfl ?_ | refine AW_condF rfl ?_ | refine AW_ret ?_ | refine AW_skip ?_)) | ((with_reducible refine gS ?_); refine Es_s (T := Tryz.tab) rfl rfl rfl rfl ?_) | (((with_reducible refine gS ?_); apply Es_q); rfl; rfl; (first | refine LStep_call (ca) rfl rfl rfl rfl | refine LStep_call (cf) rfl rfl rfl rfl | refine LStep_call (cg) rfl rfl rfl rfl)) | (((with_reducible refine gS ?_); apply Es_q); rfl; rfl; refine LStep_simp (T := Tryz.tab) rfl rfl) | (with_reducible refine Es_nil ?_) | (with_reducible refine then_n ?_) | (with_reducible refine then_r ?_) | ((with_reducible refine gR ?_); first | refine ret1 rfl ?_ | refine ret2 rfl rfl ?_ | refine ret0 ?_ | refine end1 rfl ?_ | refine end0 ?_))
    all_goals first
      | rfl
      | trace_state
  | true =>
    rw [hf] at cf
    rw [hg] at cg
    have hn := few_len hf
    have hn2 := few_len hg
    have c1 := rPosition_ac a (by omega) has
    have c2 := rPosition_ac b (by omega) hbs
    have c3 := position_ac a (by omega)
    have c4 := same_ac a b (by omega) (by omega)
    have c5 := same_ac a a (by omega) (by omega)
    have hW : (posN (mF a)).length ≤ 140737488351232 := by have h1 := (posQ_len (mF a)).1; have h2 : (mF a).length ≤ a.length := List.length_filter_le _ _; omega
    unfold sameP at c4 c5
    rw [entB_self] at c5
    have c6 := rEntries_ac (posN (mF a)) (posN (mF a)) hW
    rw [entB_self] at c6
    have c7 := rEntries_ac (posN (mF a)) (posN (mF b)) hW
    generalize entB (posN (mF a)) (posN (mF b)) = z at *
    generalize posN (mF a) = U at *
    generalize posN (mF b) = V at *
    refine AC_enter Tryz.func3 rfl Tryz.ntmps3 (rv := [.tmp 4]) rfl rfl (by simp) (fun w X G => ?_)
    repeat' (first | ((with_reducible refine gA ?_); (first | refine AW_seq ?_ | refine AW_region ?_ | refine AW_condF rfl ?_ | refine AW_ret ?_ | refine AW_skip ?_)) | ((with_reducible refine gS ?_); refine Es_s (T := Tryz.tab) rfl rfl rfl rfl ?_) | (((with_reducible refine gS ?_); apply Es_q); rfl; rfl; (first | refine LStep_call (ca) rfl rfl rfl rfl | refine LStep_call (cf) rfl rfl rfl rfl | refine LStep_call (cg) rfl rfl rfl rfl | refine LStep_call (c1) rfl rfl rfl rfl | refine LStep_call (c2) rfl rfl rfl rfl | refine LStep_call (c3) rfl rfl rfl rfl | refine LStep_call (c4) rfl rfl rfl rfl | refine LStep_call (c5) rfl rfl rfl rfl | refine LStep_call (c6) rfl rfl rfl rfl | refine LStep_call (c7) rfl rfl rfl rfl | refine LStep_eqBoolT (T := Tryz.tab) rfl rfl rfl rfl rfl rfl)) | (((with_reducible refine gS ?_); apply Es_q); rfl; rfl; refine LStep_simp (T := Tryz.tab) rfl rfl) | (with_reducible refine Es_nil ?_) | (with_reducible refine then_n ?_) | ((with_reducible refine gR ?_); first | refine ret1 rfl ?_ | refine ret2 rfl rfl ?_ | refine ret0 ?_ | refine end1 rfl ?_ | refine end0 ?_))
    all_goals first
      | rfl
      | trace_state
end Go.Proofs.YtbhgpeghddnidaaGreat
