/- TopMature: interest, discount. -/
import Derived.Test.YtofdnkgieigncaaGreatMC
import Derived.Test.YtofdnkgieigncaaGreatTu
namespace Go.Proofs.YtofdnkgieigncaaGreat
open Go.SL

def stS (s n d days base : Nat) : List Nat × List Nat := ([s, n / Nat.gcd n d, days], [d / Nat.gcd n d, base])
def intR (s n d days base : Nat) : Option (Nat × Nat) :=
  match prodG 1 (stN (stS s n d days base) 6).1, prodG 1 (stN (stS s n d days base) 6).2 with
  | some a, some b => some (a, b)
  | _, _ => none
def intV : Option (Nat × Nat) → AV
  | some (a, b) => .tup [rtM a b, .d (.sc (.bool true))]
  | none => .tup [rtM 0 0, .d (.sc (.bool false))]
structure IntFit (s n d days base : Nat) : Prop where
  s1 : s ≤ 1099511627776
  n1 : n ≤ 1048576
  d1 : 1 ≤ d
  d2 : d ≤ 1048576
  t1 : days ≤ 1048576
  b1 : base = 360 ∨ base = 365
set_option maxRecDepth 20000 in
set_option maxHeartbeats 8000000 in
theorem interest_ac (s n d days base : Nat) (hf : IntFit s n d days base) : AC Tryz.prog 72 [nM s, rtM n d, nM days, nM base] [] [] (fun r _ => r = intV (intR s n d days base)) := by
  obtain ⟨hs, hn, hd1, hd2, ht, hb⟩ := hf
  have cb := isBaseM_ac (base : Int) (by omega)
  have cr := reduceM_ac n d (by omega) (by omega) (by omega)
  have hS0 : stN (stS s n d days base) 0 = ([s, n / Nat.gcd n d, days], [d / Nat.gcd n d, base]) := rfl
  have hn2 : n / Nat.gcd n d ≤ 1048576 := div_ok hn
  have hden := den_ok (a := n) (d := d) ⟨hd1, hd2⟩
  have hbase : 1 ≤ base ∧ base ≤ 1048576 := by omega
  unfold intR
  generalize stS s n d days base = S0 at *
  generalize n / Nat.gcd n d = n' at *
  generalize d / Nat.gcd n d = d' at *
  unfold rtM nM at *
  refine AC_enterG Tryz.tab Tryz.func72 rfl Tryz.ntmps72 (rv := [.cell 8 85, .tmp 9]) rfl rfl (by simp) (fun w X G => ?_)
  repeat' (first | ((with_reducible refine gA ?_); (first | refine AW_seq ?_ | refine AW_region ?_ | refine AW_condT rfl ?_ | refine AW_condF rfl ?_ | (refine AW_cond rfl (fun hc => ?_) (fun hc => ?_) <;> try (exfalso; simp only [cmpL] at hc; omega)) | refine AW_block ?_ | refine AW_ret ?_ | refine AW_skip ?_)) | ((with_reducible refine gS ?_); refine Es_s (T := Tryz.tab) rfl rfl rfl rfl ?_) | (((with_reducible refine gS ?_); apply Es_q); rfl; (first | rfl | (refine w_ff ?_; assumption)); (first | refine LStep_buildArr (T := Tryz.tab) rfl rfl rfl rfl rfl rfl | refine LStep_call (cb) rfl rfl rfl rfl | refine LStep_call (cr) rfl rfl rfl rfl)) | (((with_reducible refine gS ?_); apply Es_q); rfl; (first | rfl | (refine w_ff ?_; assumption)); (first | refine LStep_simp (T := Tryz.tab) rfl rfl | (refine LStep_pickT rfl rfl ?_ rfl rfl; assumption) | (refine LStep_pickF rfl rfl ?_ rfl rfl; assumption) | refine LStep_buildN (T := Tryz.tab) rfl rfl rfl rfl rfl rfl rfl)) | (refine Es_skip rfl ?_ rfl ?_; (first | rfl | (refine w_tf ?_; assumption) | (refine w_ft ?_; assumption))) | (((with_reducible refine gS ?_); apply Es_xs); rfl; rfl; (first | refine LStep_boxN rfl rfl rfl rfl rfl rfl | refine LStep_allocN (T := Tryz.tab) rfl rfl rfl rfl rfl rfl); rfl) | (((with_reducible refine gS ?_); apply Es_xn); rfl; rfl; (refine LStep_storeN (T := Tryz.tab) rfl rfl rfl rfl rfl rfl rfl ?_ rfl; (refine Nat.le_of_ble_eq_true ?_; rfl)); rfl) | (refine Es_split rfl ?_ (fun _ => ?_) (fun _ => ?_); ((fail_if_success (refine und_t ?_; assumption)); (fail_if_success (refine und_f ?_; assumption)); exact trivial)) | (with_reducible refine Es_nil ?_) | (with_reducible refine then_n ?_) | (with_reducible refine then_r ?_) | ((with_reducible refine gRG ?_); first | refine retGa rfl ?_ | refine retGb rfl ?_ | refine retGc rfl ?_ | refine retG1 rfl rfl ?_ | refine endG1 rfl rfl ?_))
  all_goals simp only [cmps] at *
  all_goals first
    | (exfalso; omega)
    | skip
  refine AW_forE (S := Nat × Nat × Nat × Nat × Nat × Nat) (fun t => t.1 ≤ 3 ∧ stN S0 (2 * t.1) = ([t.2.1, t.2.2.1, t.2.2.2.1], [t.2.2.2.2.1, t.2.2.2.2.2]) ∧ t.2.1 ≤ 1099511627776 ∧ t.2.2.1 ≤ 1048576 ∧ t.2.2.2.1 ≤ 1048576 ∧ (1 ≤ t.2.2.2.2.1 ∧ t.2.2.2.2.1 ≤ 1048576) ∧ (1 ≤ t.2.2.2.2.2 ∧ t.2.2.2.2.2 ≤ 1048576))
    (fun t => [(67, .d (.sc (.int .i64 (t.1 : Nat))))]) (fun t => [(12, some (.cells [nM t.2.1, nM t.2.2.1, nM t.2.2.2.1])), (13, some (.cells [nM t.2.2.2.2.1, nM t.2.2.2.2.2]))]) (fun t => 3 - t.1) (0, s, n', days, d', base) ⟨by omega, hS0, hs, hn2, ht, hden, hbase⟩ (by (repeat' (first | exact trivial | exact rfl | (refine ⟨Or.inl rfl, ?_⟩) | (refine ⟨Or.inr rfl, ?_⟩) | (refine ⟨Or.inr trivial, ?_⟩) | (refine ⟨rfl, ?_⟩) | (refine ⟨?_, ?_⟩)))) (by (repeat' (first | exact trivial | exact rfl | (refine ⟨Or.inl rfl, ?_⟩) | (refine ⟨Or.inr rfl, ?_⟩) | (refine ⟨Or.inr trivial, ?_⟩) | (refine ⟨rfl, ?_⟩) | (refine ⟨?_, ?_⟩)))) ?_
  intro ⟨i, a, b, c, d, e⟩ ⟨hi, hst, ha, hb1, hc1, hd1, he1⟩
  dsimp only at hi hst ha hb1 hc1 hd1 he1 ⊢
  rcases (show i = 0 ∨ i = 1 ∨ i = 2 ∨ i = 3 by omega) with rfl | rfl | rfl | rfl
  · repeat' (first | ((with_reducible refine gA ?_); (first | refine AW_seq ?_ | refine AW_region ?_ | (refine AW_cond rfl (fun hc => ?_) (fun hc => ?_) <;> try (exfalso; simp only [cmpL] at hc; omega)) | refine AW_block ?_ | refine AW_skip ?_)) | ((with_reducible refine gS ?_); refine Es_s (T := Tryz.tab) rfl rfl rfl rfl ?_) | (with_reducible refine Es_nil ?_) | (with_reducible refine then_n ?_))
    refine AW_forE (S := Nat × Nat × Nat × Nat × Nat × Nat) (fun t => t.1 ≤ 2 ∧ stN S0 (0 + t.1) = ([t.2.1, t.2.2.1, t.2.2.2.1], [t.2.2.2.2.1, t.2.2.2.2.2]) ∧ t.2.1 ≤ 1099511627776 ∧ t.2.2.1 ≤ 1048576 ∧ t.2.2.2.1 ≤ 1048576 ∧ (1 ≤ t.2.2.2.2.1 ∧ t.2.2.2.2.1 ≤ 1048576) ∧ (1 ≤ t.2.2.2.2.2 ∧ t.2.2.2.2.2 ≤ 1048576))
      (fun t => [(70, .d (.sc (.int .i64 (t.1 : Nat))))]) (fun t => [(12, some (.cells [nM t.2.1, nM t.2.2.1, nM t.2.2.2.1])), (13, some (.cells [nM t.2.2.2.2.1, nM t.2.2.2.2.2]))]) (fun t => 2 - t.1) (0, a, b, c, d, e) ⟨by omega, hst, ha, hb1, hc1, hd1, he1⟩ (by (repeat' (first | exact trivial | exact rfl | (refine ⟨Or.inl rfl, ?_⟩) | (refine ⟨Or.inr rfl, ?_⟩) | (refine ⟨Or.inr trivial, ?_⟩) | (refine ⟨rfl, ?_⟩) | (refine ⟨?_, ?_⟩)))) (by (repeat' (first | exact trivial | exact rfl | (refine ⟨Or.inl rfl, ?_⟩) | (refine ⟨Or.inr rfl, ?_⟩) | (refine ⟨Or.inr trivial, ?_⟩) | (refine ⟨rfl, ?_⟩) | (refine ⟨?_, ?_⟩)))) ?_
    clear hst ha hb1 hc1 hd1 he1
    intro ⟨j, a, b, c, d, e⟩ ⟨hj, hst, ha, hb1, hc1, hd1, he1⟩
    dsimp only at hj hst ha hb1 hc1 hd1 he1 ⊢
    rcases (show j = 0 ∨ j = 1 ∨ j = 2 by omega) with rfl | rfl | rfl
    · have hg := Nat.gcd_pos_of_pos_right a (show 0 < d by omega)
      have cd := divisor_ac a d (by omega) (by omega)
      have hnx : stN S0 (0 + 1) = ([a / Nat.gcd a d, b, c], [d / Nat.gcd a d, e]) := by
        rw [stN, show stN S0 0 = _ from hst]; rfl
      have e1 : IntKind.i64.wrap (((a : Nat) : Int).tdiv ((Nat.gcd a d : Nat) : Int)) = ((a / Nat.gcd a d : Nat) : Int) := quoM (by omega)
      have e2 : IntKind.i64.wrap (((d : Nat) : Int).tdiv ((Nat.gcd a d : Nat) : Int)) = ((d / Nat.gcd a d : Nat) : Int) := quoM (by omega)
      have hx2 : a / Nat.gcd a d ≤ a := Nat.div_le_self _ _
      have hy2 := den_ok (a := a) (d := d) hd1
      unfold nM at *
      repeat' (first | ((with_reducible refine gA ?_); (first | refine AW_seq ?_ | refine AW_region ?_ | refine AW_regionD Tryz.mixed ?_ | (refine AW_cond rfl (fun hc => ?_) (fun hc => ?_) <;> try (exfalso; simp only [cmpL] at hc; omega)) | refine AW_block ?_ | refine AW_skip ?_)) | (first | ((with_reducible refine gS ?_); refine Es_s (T := Tryz.tab) rfl rfl rfl rfl ?_) | ((with_reducible refine gD ?_); refine Ed_s (T := Tryz.tab) rfl rfl rfl rfl ?_)) | ((first | ((with_reducible refine gS ?_); apply Es_q) | ((with_reducible refine gD ?_); apply Ed_q)); rfl; rfl; (first | refine LStep_indexPtr (T := Tryz.tab) rfl rfl rfl rfl rfl rfl rfl | refine LStep_call (cd) rfl rfl rfl rfl | (refine LStep_quo rfl rfl rfl ?_ e1 rfl; omega) | (refine LStep_quo rfl rfl rfl ?_ e2 rfl; omega))) | (((with_reducible refine gS ?_); apply Es_q); rfl; rfl; (refine LStep_add rfl rfl rfl rfl ?_; (refine IntWalk.i64_in _ ?_; first | omega | (simp only [cmps] at *; omega)))) | (((with_reducible refine gS ?_); apply Es_xn); rfl; rfl; (refine LStep_storeN (T := Tryz.tab) rfl rfl rfl rfl rfl rfl rfl ?_ rfl; (refine Nat.le_of_ble_eq_true ?_; rfl)); rfl) | (with_reducible refine Es_nil ?_) | ((with_reducible refine Ed_nil ?_ ?_); kernel_rfl) | (with_reducible refine then_n ?_) | (with_reducible refine block_n ?_))
      all_goals simp only [cmps] at *
      all_goals first
        | (exfalso; omega)
        | (refine ⟨(1, a / Nat.gcd a d, b, c, d / Nat.gcd a d, e), ?_, by omega, by (repeat' (first | exact trivial | exact rfl | (refine ⟨Or.inl rfl, ?_⟩) | (refine ⟨Or.inr rfl, ?_⟩) | (refine ⟨Or.inr trivial, ?_⟩) | (refine ⟨rfl, ?_⟩) | (refine ⟨?_, ?_⟩))), by (repeat' (first | exact trivial | exact rfl | (refine ⟨Or.inl rfl, ?_⟩) | (refine ⟨Or.inr rfl, ?_⟩) | (refine ⟨Or.inr trivial, ?_⟩) | (refine ⟨rfl, ?_⟩) | (refine ⟨?_, ?_⟩))), by (repeat' (first | exact trivial | exact rfl | (refine ⟨Or.inl rfl, ?_⟩) | (refine ⟨Or.inr rfl, ?_⟩) | (refine ⟨Or.inr trivial, ?_⟩) | (refine ⟨rfl, ?_⟩) | (refine ⟨?_, ?_⟩))), by (repeat' (first | exact trivial | exact rfl | (refine ⟨Or.inl rfl, ?_⟩) | (refine ⟨Or.inr rfl, ?_⟩) | (refine ⟨Or.inr trivial, ?_⟩) | (refine ⟨rfl, ?_⟩) | (refine ⟨?_, ?_⟩)))⟩; exact ⟨by omega, hnx, div_ok ha, hb1, hc1, den_ok hd1, he1⟩)
        | trace_state
    · have hg := Nat.gcd_pos_of_pos_right a (show 0 < e by omega)
      have cd := divisor_ac a e (by omega) (by omega)
      have hnx : stN S0 (1 + 1) = ([a / Nat.gcd a e, b, c], [d, e / Nat.gcd a e]) := by
        rw [stN, show stN S0 1 = _ from hst]; rfl
      have e1 : IntKind.i64.wrap (((a : Nat) : Int).tdiv ((Nat.gcd a e : Nat) : Int)) = ((a / Nat.gcd a e : Nat) : Int) := quoM (by omega)
      have e2 : IntKind.i64.wrap (((e : Nat) : Int).tdiv ((Nat.gcd a e : Nat) : Int)) = ((e / Nat.gcd a e : Nat) : Int) := quoM (by omega)
      have hx2 : a / Nat.gcd a e ≤ a := Nat.div_le_self _ _
      have hy2 := den_ok (a := a) (d := e) he1
      unfold nM at *
      repeat' (first | ((with_reducible refine gA ?_); (first | refine AW_seq ?_ | refine AW_region ?_ | refine AW_regionD Tryz.mixed ?_ | (refine AW_cond rfl (fun hc => ?_) (fun hc => ?_) <;> try (exfalso; simp only [cmpL] at hc; omega)) | refine AW_block ?_ | refine AW_skip ?_)) | (first | ((with_reducible refine gS ?_); refine Es_s (T := Tryz.tab) rfl rfl rfl rfl ?_) | ((with_reducible refine gD ?_); refine Ed_s (T := Tryz.tab) rfl rfl rfl rfl ?_)) | ((first | ((with_reducible refine gS ?_); apply Es_q) | ((with_reducible refine gD ?_); apply Ed_q)); rfl; rfl; (first | refine LStep_indexPtr (T := Tryz.tab) rfl rfl rfl rfl rfl rfl rfl | refine LStep_call (cd) rfl rfl rfl rfl | (refine LStep_quo rfl rfl rfl ?_ e1 rfl; omega) | (refine LStep_quo rfl rfl rfl ?_ e2 rfl; omega))) | (((with_reducible refine gS ?_); apply Es_q); rfl; rfl; (refine LStep_add rfl rfl rfl rfl ?_; (refine IntWalk.i64_in _ ?_; first | omega | (simp only [cmps] at *; omega)))) | (((with_reducible refine gS ?_); apply Es_xn); rfl; rfl; (refine LStep_storeN (T := Tryz.tab) rfl rfl rfl rfl rfl rfl rfl ?_ rfl; (refine Nat.le_of_ble_eq_true ?_; rfl)); rfl) | (with_reducible refine Es_nil ?_) | ((with_reducible refine Ed_nil ?_ ?_); kernel_rfl) | (with_reducible refine then_n ?_) | (with_reducible refine block_n ?_))
      all_goals simp only [cmps] at *
      all_goals first
        | (exfalso; omega)
        | (refine ⟨(2, a / Nat.gcd a e, b, c, d, e / Nat.gcd a e), ?_, by omega, by (repeat' (first | exact trivial | exact rfl | (refine ⟨Or.inl rfl, ?_⟩) | (refine ⟨Or.inr rfl, ?_⟩) | (refine ⟨Or.inr trivial, ?_⟩) | (refine ⟨rfl, ?_⟩) | (refine ⟨?_, ?_⟩))), by (repeat' (first | exact trivial | exact rfl | (refine ⟨Or.inl rfl, ?_⟩) | (refine ⟨Or.inr rfl, ?_⟩) | (refine ⟨Or.inr trivial, ?_⟩) | (refine ⟨rfl, ?_⟩) | (refine ⟨?_, ?_⟩))), by (repeat' (first | exact trivial | exact rfl | (refine ⟨Or.inl rfl, ?_⟩) | (refine ⟨Or.inr rfl, ?_⟩) | (refine ⟨Or.inr trivial, ?_⟩) | (refine ⟨rfl, ?_⟩) | (refine ⟨?_, ?_⟩))), by (repeat' (first | exact trivial | exact rfl | (refine ⟨Or.inl rfl, ?_⟩) | (refine ⟨Or.inr rfl, ?_⟩) | (refine ⟨Or.inr trivial, ?_⟩) | (refine ⟨rfl, ?_⟩) | (refine ⟨?_, ?_⟩)))⟩; exact ⟨by omega, hnx, div_ok ha, hb1, hc1, hd1, den_ok he1⟩)
        | trace_state
    · repeat' (first | ((with_reducible refine gA ?_); (first | refine AW_seq ?_ | refine AW_region ?_ | (refine AW_cond rfl (fun hc => ?_) (fun hc => ?_) <;> try (exfalso; simp only [cmpL] at hc; omega)) | refine AW_exit ?_)) | ((with_reducible refine gS ?_); refine Es_s (T := Tryz.tab) rfl rfl rfl rfl ?_) | (((with_reducible refine gS ?_); apply Es_q); rfl; rfl; (refine LStep_add rfl rfl rfl rfl ?_; (refine IntWalk.i64_in _ ?_; first | omega | (simp only [cmps] at *; omega)))) | (with_reducible refine Es_nil ?_) | (with_reducible refine then_n ?_) | (with_reducible refine then_e ?_) | (with_reducible refine block_n ?_) | ((with_reducible refine block_e ?_ ?_); rfl))
      all_goals simp only [cmps] at *
      all_goals first
        | (exfalso; omega)
        | (refine ⟨(1, a, b, c, d, e), ?_, by omega, by (repeat' (first | exact trivial | exact rfl | (refine ⟨Or.inl rfl, ?_⟩) | (refine ⟨Or.inr rfl, ?_⟩) | (refine ⟨Or.inr trivial, ?_⟩) | (refine ⟨rfl, ?_⟩) | (refine ⟨?_, ?_⟩))), by (repeat' (first | exact trivial | exact rfl | (refine ⟨Or.inl rfl, ?_⟩) | (refine ⟨Or.inr rfl, ?_⟩) | (refine ⟨Or.inr trivial, ?_⟩) | (refine ⟨rfl, ?_⟩) | (refine ⟨?_, ?_⟩))), by (repeat' (first | exact trivial | exact rfl | (refine ⟨Or.inl rfl, ?_⟩) | (refine ⟨Or.inr rfl, ?_⟩) | (refine ⟨Or.inr trivial, ?_⟩) | (refine ⟨rfl, ?_⟩) | (refine ⟨?_, ?_⟩))), by (repeat' (first | exact trivial | exact rfl | (refine ⟨Or.inl rfl, ?_⟩) | (refine ⟨Or.inr rfl, ?_⟩) | (refine ⟨Or.inr trivial, ?_⟩) | (refine ⟨rfl, ?_⟩) | (refine ⟨?_, ?_⟩)))⟩; exact ⟨by omega, hst, ha, hb1, hc1, hd1, he1⟩)
        | trace_state
  · repeat' (first | ((with_reducible refine gA ?_); (first | refine AW_seq ?_ | refine AW_region ?_ | (refine AW_cond rfl (fun hc => ?_) (fun hc => ?_) <;> try (exfalso; simp only [cmpL] at hc; omega)) | refine AW_block ?_ | refine AW_skip ?_)) | ((with_reducible refine gS ?_); refine Es_s (T := Tryz.tab) rfl rfl rfl rfl ?_) | (with_reducible refine Es_nil ?_) | (with_reducible refine then_n ?_))
    refine AW_forE (S := Nat × Nat × Nat × Nat × Nat × Nat) (fun t => t.1 ≤ 2 ∧ stN S0 (2 + t.1) = ([t.2.1, t.2.2.1, t.2.2.2.1], [t.2.2.2.2.1, t.2.2.2.2.2]) ∧ t.2.1 ≤ 1099511627776 ∧ t.2.2.1 ≤ 1048576 ∧ t.2.2.2.1 ≤ 1048576 ∧ (1 ≤ t.2.2.2.2.1 ∧ t.2.2.2.2.1 ≤ 1048576) ∧ (1 ≤ t.2.2.2.2.2 ∧ t.2.2.2.2.2 ≤ 1048576))
      (fun t => [(70, .d (.sc (.int .i64 (t.1 : Nat))))]) (fun t => [(12, some (.cells [nM t.2.1, nM t.2.2.1, nM t.2.2.2.1])), (13, some (.cells [nM t.2.2.2.2.1, nM t.2.2.2.2.2]))]) (fun t => 2 - t.1) (0, a, b, c, d, e) ⟨by omega, hst, ha, hb1, hc1, hd1, he1⟩ (by (repeat' (first | exact trivial | exact rfl | (refine ⟨Or.inl rfl, ?_⟩) | (refine ⟨Or.inr rfl, ?_⟩) | (refine ⟨Or.inr trivial, ?_⟩) | (refine ⟨rfl, ?_⟩) | (refine ⟨?_, ?_⟩)))) (by (repeat' (first | exact trivial | exact rfl | (refine ⟨Or.inl rfl, ?_⟩) | (refine ⟨Or.inr rfl, ?_⟩) | (refine ⟨Or.inr trivial, ?_⟩) | (refine ⟨rfl, ?_⟩) | (refine ⟨?_, ?_⟩)))) ?_
    clear hst ha hb1 hc1 hd1 he1
    intro ⟨j, a, b, c, d, e⟩ ⟨hj, hst, ha, hb1, hc1, hd1, he1⟩
    dsimp only at hj hst ha hb1 hc1 hd1 he1 ⊢
    rcases (show j = 0 ∨ j = 1 ∨ j = 2 by omega) with rfl | rfl | rfl
    · have hg := Nat.gcd_pos_of_pos_right b (show 0 < d by omega)
      have cd := divisor_ac b d (by omega) (by omega)
      have hnx : stN S0 (2 + 1) = ([a, b / Nat.gcd b d, c], [d / Nat.gcd b d, e]) := by
        rw [stN, show stN S0 2 = _ from hst]; rfl
      have e1 : IntKind.i64.wrap (((b : Nat) : Int).tdiv ((Nat.gcd b d : Nat) : Int)) = ((b / Nat.gcd b d : Nat) : Int) := quoM (by omega)
      have e2 : IntKind.i64.wrap (((d : Nat) : Int).tdiv ((Nat.gcd b d : Nat) : Int)) = ((d / Nat.gcd b d : Nat) : Int) := quoM (by omega)
      have hx2 : b / Nat.gcd b d ≤ b := Nat.div_le_self _ _
      have hy2 := den_ok (a := b) (d := d) hd1
      unfold nM at *
      repeat' (first | ((with_reducible refine gA ?_); (first | refine AW_seq ?_ | refine AW_region ?_ | refine AW_regionD Tryz.mixed ?_ | (refine AW_cond rfl (fun hc => ?_) (fun hc => ?_) <;> try (exfalso; simp only [cmpL] at hc; omega)) | refine AW_block ?_ | refine AW_skip ?_)) | (first | ((with_reducible refine gS ?_); refine Es_s (T := Tryz.tab) rfl rfl rfl rfl ?_) | ((with_reducible refine gD ?_); refine Ed_s (T := Tryz.tab) rfl rfl rfl rfl ?_)) | ((first | ((with_reducible refine gS ?_); apply Es_q) | ((with_reducible refine gD ?_); apply Ed_q)); rfl; rfl; (first | refine LStep_indexPtr (T := Tryz.tab) rfl rfl rfl rfl rfl rfl rfl | refine LStep_call (cd) rfl rfl rfl rfl | (refine LStep_quo rfl rfl rfl ?_ e1 rfl; omega) | (refine LStep_quo rfl rfl rfl ?_ e2 rfl; omega))) | (((with_reducible refine gS ?_); apply Es_q); rfl; rfl; (refine LStep_add rfl rfl rfl rfl ?_; (refine IntWalk.i64_in _ ?_; first | omega | (simp only [cmps] at *; omega)))) | (((with_reducible refine gS ?_); apply Es_xn); rfl; rfl; (refine LStep_storeN (T := Tryz.tab) rfl rfl rfl rfl rfl rfl rfl ?_ rfl; (refine Nat.le_of_ble_eq_true ?_; rfl)); rfl) | (with_reducible refine Es_nil ?_) | ((with_reducible refine Ed_nil ?_ ?_); kernel_rfl) | (with_reducible refine then_n ?_) | (with_reducible refine block_n ?_))
      all_goals simp only [cmps] at *
      all_goals first
        | (exfalso; omega)
        | (refine ⟨(1, a, b / Nat.gcd b d, c, d / Nat.gcd b d, e), ?_, by omega, by (repeat' (first | exact trivial | exact rfl | (refine ⟨Or.inl rfl, ?_⟩) | (refine ⟨Or.inr rfl, ?_⟩) | (refine ⟨Or.inr trivial, ?_⟩) | (refine ⟨rfl, ?_⟩) | (refine ⟨?_, ?_⟩))), by (repeat' (first | exact trivial | exact rfl | (refine ⟨Or.inl rfl, ?_⟩) | (refine ⟨Or.inr rfl, ?_⟩) | (refine ⟨Or.inr trivial, ?_⟩) | (refine ⟨rfl, ?_⟩) | (refine ⟨?_, ?_⟩))), by (repeat' (first | exact trivial | exact rfl | (refine ⟨Or.inl rfl, ?_⟩) | (refine ⟨Or.inr rfl, ?_⟩) | (refine ⟨Or.inr trivial, ?_⟩) | (refine ⟨rfl, ?_⟩) | (refine ⟨?_, ?_⟩))), by (repeat' (first | exact trivial | exact rfl | (refine ⟨Or.inl rfl, ?_⟩) | (refine ⟨Or.inr rfl, ?_⟩) | (refine ⟨Or.inr trivial, ?_⟩) | (refine ⟨rfl, ?_⟩) | (refine ⟨?_, ?_⟩)))⟩; exact ⟨by omega, hnx, ha, div_ok hb1, hc1, den_ok hd1, he1⟩)
        | trace_state
    · have hg := Nat.gcd_pos_of_pos_right b (show 0 < e by omega)
      have cd := divisor_ac b e (by omega) (by omega)
      have hnx : stN S0 (3 + 1) = ([a, b / Nat.gcd b e, c], [d, e / Nat.gcd b e]) := by
        rw [stN, show stN S0 3 = _ from hst]; rfl
      have e1 : IntKind.i64.wrap (((b : Nat) : Int).tdiv ((Nat.gcd b e : Nat) : Int)) = ((b / Nat.gcd b e : Nat) : Int) := quoM (by omega)
      have e2 : IntKind.i64.wrap (((e : Nat) : Int).tdiv ((Nat.gcd b e : Nat) : Int)) = ((e / Nat.gcd b e : Nat) : Int) := quoM (by omega)
      have hx2 : b / Nat.gcd b e ≤ b := Nat.div_le_self _ _
      have hy2 := den_ok (a := b) (d := e) he1
      unfold nM at *
      repeat' (first | ((with_reducible refine gA ?_); (first | refine AW_seq ?_ | refine AW_region ?_ | refine AW_regionD Tryz.mixed ?_ | (refine AW_cond rfl (fun hc => ?_) (fun hc => ?_) <;> try (exfalso; simp only [cmpL] at hc; omega)) | refine AW_block ?_ | refine AW_skip ?_)) | (first | ((with_reducible refine gS ?_); refine Es_s (T := Tryz.tab) rfl rfl rfl rfl ?_) | ((with_reducible refine gD ?_); refine Ed_s (T := Tryz.tab) rfl rfl rfl rfl ?_)) | ((first | ((with_reducible refine gS ?_); apply Es_q) | ((with_reducible refine gD ?_); apply Ed_q)); rfl; rfl; (first | refine LStep_indexPtr (T := Tryz.tab) rfl rfl rfl rfl rfl rfl rfl | refine LStep_call (cd) rfl rfl rfl rfl | (refine LStep_quo rfl rfl rfl ?_ e1 rfl; omega) | (refine LStep_quo rfl rfl rfl ?_ e2 rfl; omega))) | (((with_reducible refine gS ?_); apply Es_q); rfl; rfl; (refine LStep_add rfl rfl rfl rfl ?_; (refine IntWalk.i64_in _ ?_; first | omega | (simp only [cmps] at *; omega)))) | (((with_reducible refine gS ?_); apply Es_xn); rfl; rfl; (refine LStep_storeN (T := Tryz.tab) rfl rfl rfl rfl rfl rfl rfl ?_ rfl; (refine Nat.le_of_ble_eq_true ?_; rfl)); rfl) | (with_reducible refine Es_nil ?_) | ((with_reducible refine Ed_nil ?_ ?_); kernel_rfl) | (with_reducible refine then_n ?_) | (with_reducible refine block_n ?_))
      all_goals simp only [cmps] at *
      all_goals first
        | (exfalso; omega)
        | (refine ⟨(2, a, b / Nat.gcd b e, c, d, e / Nat.gcd b e), ?_, by omega, by (repeat' (first | exact trivial | exact rfl | (refine ⟨Or.inl rfl, ?_⟩) | (refine ⟨Or.inr rfl, ?_⟩) | (refine ⟨Or.inr trivial, ?_⟩) | (refine ⟨rfl, ?_⟩) | (refine ⟨?_, ?_⟩))), by (repeat' (first | exact trivial | exact rfl | (refine ⟨Or.inl rfl, ?_⟩) | (refine ⟨Or.inr rfl, ?_⟩) | (refine ⟨Or.inr trivial, ?_⟩) | (refine ⟨rfl, ?_⟩) | (refine ⟨?_, ?_⟩))), by (repeat' (first | exact trivial | exact rfl | (refine ⟨Or.inl rfl, ?_⟩) | (refine ⟨Or.inr rfl, ?_⟩) | (refine ⟨Or.inr trivial, ?_⟩) | (refine ⟨rfl, ?_⟩) | (refine ⟨?_, ?_⟩))), by (repeat' (first | exact trivial | exact rfl | (refine ⟨Or.inl rfl, ?_⟩) | (refine ⟨Or.inr rfl, ?_⟩) | (refine ⟨Or.inr trivial, ?_⟩) | (refine ⟨rfl, ?_⟩) | (refine ⟨?_, ?_⟩)))⟩; exact ⟨by omega, hnx, ha, div_ok hb1, hc1, hd1, den_ok he1⟩)
        | trace_state
    · repeat' (first | ((with_reducible refine gA ?_); (first | refine AW_seq ?_ | refine AW_region ?_ | (refine AW_cond rfl (fun hc => ?_) (fun hc => ?_) <;> try (exfalso; simp only [cmpL] at hc; omega)) | refine AW_exit ?_)) | ((with_reducible refine gS ?_); refine Es_s (T := Tryz.tab) rfl rfl rfl rfl ?_) | (((with_reducible refine gS ?_); apply Es_q); rfl; rfl; (refine LStep_add rfl rfl rfl rfl ?_; (refine IntWalk.i64_in _ ?_; first | omega | (simp only [cmps] at *; omega)))) | (with_reducible refine Es_nil ?_) | (with_reducible refine then_n ?_) | (with_reducible refine then_e ?_) | (with_reducible refine block_n ?_) | ((with_reducible refine block_e ?_ ?_); rfl))
      all_goals simp only [cmps] at *
      all_goals first
        | (exfalso; omega)
        | (refine ⟨(2, a, b, c, d, e), ?_, by omega, by (repeat' (first | exact trivial | exact rfl | (refine ⟨Or.inl rfl, ?_⟩) | (refine ⟨Or.inr rfl, ?_⟩) | (refine ⟨Or.inr trivial, ?_⟩) | (refine ⟨rfl, ?_⟩) | (refine ⟨?_, ?_⟩))), by (repeat' (first | exact trivial | exact rfl | (refine ⟨Or.inl rfl, ?_⟩) | (refine ⟨Or.inr rfl, ?_⟩) | (refine ⟨Or.inr trivial, ?_⟩) | (refine ⟨rfl, ?_⟩) | (refine ⟨?_, ?_⟩))), by (repeat' (first | exact trivial | exact rfl | (refine ⟨Or.inl rfl, ?_⟩) | (refine ⟨Or.inr rfl, ?_⟩) | (refine ⟨Or.inr trivial, ?_⟩) | (refine ⟨rfl, ?_⟩) | (refine ⟨?_, ?_⟩))), by (repeat' (first | exact trivial | exact rfl | (refine ⟨Or.inl rfl, ?_⟩) | (refine ⟨Or.inr rfl, ?_⟩) | (refine ⟨Or.inr trivial, ?_⟩) | (refine ⟨rfl, ?_⟩) | (refine ⟨?_, ?_⟩)))⟩; exact ⟨by omega, hst, ha, hb1, hc1, hd1, he1⟩)
        | trace_state
  · repeat' (first | ((with_reducible refine gA ?_); (first | refine AW_seq ?_ | refine AW_region ?_ | (refine AW_cond rfl (fun hc => ?_) (fun hc => ?_) <;> try (exfalso; simp only [cmpL] at hc; omega)) | refine AW_block ?_ | refine AW_skip ?_)) | ((with_reducible refine gS ?_); refine Es_s (T := Tryz.tab) rfl rfl rfl rfl ?_) | (with_reducible refine Es_nil ?_) | (with_reducible refine then_n ?_))
    refine AW_forE (S := Nat × Nat × Nat × Nat × Nat × Nat) (fun t => t.1 ≤ 2 ∧ stN S0 (4 + t.1) = ([t.2.1, t.2.2.1, t.2.2.2.1], [t.2.2.2.2.1, t.2.2.2.2.2]) ∧ t.2.1 ≤ 1099511627776 ∧ t.2.2.1 ≤ 1048576 ∧ t.2.2.2.1 ≤ 1048576 ∧ (1 ≤ t.2.2.2.2.1 ∧ t.2.2.2.2.1 ≤ 1048576) ∧ (1 ≤ t.2.2.2.2.2 ∧ t.2.2.2.2.2 ≤ 1048576))
      (fun t => [(70, .d (.sc (.int .i64 (t.1 : Nat))))]) (fun t => [(12, some (.cells [nM t.2.1, nM t.2.2.1, nM t.2.2.2.1])), (13, some (.cells [nM t.2.2.2.2.1, nM t.2.2.2.2.2]))]) (fun t => 2 - t.1) (0, a, b, c, d, e) ⟨by omega, hst, ha, hb1, hc1, hd1, he1⟩ (by (repeat' (first | exact trivial | exact rfl | (refine ⟨Or.inl rfl, ?_⟩) | (refine ⟨Or.inr rfl, ?_⟩) | (refine ⟨Or.inr trivial, ?_⟩) | (refine ⟨rfl, ?_⟩) | (refine ⟨?_, ?_⟩)))) (by (repeat' (first | exact trivial | exact rfl | (refine ⟨Or.inl rfl, ?_⟩) | (refine ⟨Or.inr rfl, ?_⟩) | (refine ⟨Or.inr trivial, ?_⟩) | (refine ⟨rfl, ?_⟩) | (refine ⟨?_, ?_⟩)))) ?_
    clear hst ha hb1 hc1 hd1 he1
    intro ⟨j, a, b, c, d, e⟩ ⟨hj, hst, ha, hb1, hc1, hd1, he1⟩
    dsimp only at hj hst ha hb1 hc1 hd1 he1 ⊢
    rcases (show j = 0 ∨ j = 1 ∨ j = 2 by omega) with rfl | rfl | rfl
    · have hg := Nat.gcd_pos_of_pos_right c (show 0 < d by omega)
      have cd := divisor_ac c d (by omega) (by omega)
      have hnx : stN S0 (4 + 1) = ([a, b, c / Nat.gcd c d], [d / Nat.gcd c d, e]) := by
        rw [stN, show stN S0 4 = _ from hst]; rfl
      have e1 : IntKind.i64.wrap (((c : Nat) : Int).tdiv ((Nat.gcd c d : Nat) : Int)) = ((c / Nat.gcd c d : Nat) : Int) := quoM (by omega)
      have e2 : IntKind.i64.wrap (((d : Nat) : Int).tdiv ((Nat.gcd c d : Nat) : Int)) = ((d / Nat.gcd c d : Nat) : Int) := quoM (by omega)
      have hx2 : c / Nat.gcd c d ≤ c := Nat.div_le_self _ _
      have hy2 := den_ok (a := c) (d := d) hd1
      unfold nM at *
      repeat' (first | ((with_reducible refine gA ?_); (first | refine AW_seq ?_ | refine AW_region ?_ | refine AW_regionD Tryz.mixed ?_ | (refine AW_cond rfl (fun hc => ?_) (fun hc => ?_) <;> try (exfalso; simp only [cmpL] at hc; omega)) | refine AW_block ?_ | refine AW_skip ?_)) | (first | ((with_reducible refine gS ?_); refine Es_s (T := Tryz.tab) rfl rfl rfl rfl ?_) | ((with_reducible refine gD ?_); refine Ed_s (T := Tryz.tab) rfl rfl rfl rfl ?_)) | ((first | ((with_reducible refine gS ?_); apply Es_q) | ((with_reducible refine gD ?_); apply Ed_q)); rfl; rfl; (first | refine LStep_indexPtr (T := Tryz.tab) rfl rfl rfl rfl rfl rfl rfl | refine LStep_call (cd) rfl rfl rfl rfl | (refine LStep_quo rfl rfl rfl ?_ e1 rfl; omega) | (refine LStep_quo rfl rfl rfl ?_ e2 rfl; omega))) | (((with_reducible refine gS ?_); apply Es_q); rfl; rfl; (refine LStep_add rfl rfl rfl rfl ?_; (refine IntWalk.i64_in _ ?_; first | omega | (simp only [cmps] at *; omega)))) | (((with_reducible refine gS ?_); apply Es_xn); rfl; rfl; (refine LStep_storeN (T := Tryz.tab) rfl rfl rfl rfl rfl rfl rfl ?_ rfl; (refine Nat.le_of_ble_eq_true ?_; rfl)); rfl) | (with_reducible refine Es_nil ?_) | ((with_reducible refine Ed_nil ?_ ?_); kernel_rfl) | (with_reducible refine then_n ?_) | (with_reducible refine block_n ?_))
      all_goals simp only [cmps] at *
      all_goals first
        | (exfalso; omega)
        | (refine ⟨(1, a, b, c / Nat.gcd c d, d / Nat.gcd c d, e), ?_, by omega, by (repeat' (first | exact trivial | exact rfl | (refine ⟨Or.inl rfl, ?_⟩) | (refine ⟨Or.inr rfl, ?_⟩) | (refine ⟨Or.inr trivial, ?_⟩) | (refine ⟨rfl, ?_⟩) | (refine ⟨?_, ?_⟩))), by (repeat' (first | exact trivial | exact rfl | (refine ⟨Or.inl rfl, ?_⟩) | (refine ⟨Or.inr rfl, ?_⟩) | (refine ⟨Or.inr trivial, ?_⟩) | (refine ⟨rfl, ?_⟩) | (refine ⟨?_, ?_⟩))), by (repeat' (first | exact trivial | exact rfl | (refine ⟨Or.inl rfl, ?_⟩) | (refine ⟨Or.inr rfl, ?_⟩) | (refine ⟨Or.inr trivial, ?_⟩) | (refine ⟨rfl, ?_⟩) | (refine ⟨?_, ?_⟩))), by (repeat' (first | exact trivial | exact rfl | (refine ⟨Or.inl rfl, ?_⟩) | (refine ⟨Or.inr rfl, ?_⟩) | (refine ⟨Or.inr trivial, ?_⟩) | (refine ⟨rfl, ?_⟩) | (refine ⟨?_, ?_⟩)))⟩; exact ⟨by omega, hnx, ha, hb1, div_ok hc1, den_ok hd1, he1⟩)
        | trace_state
    · have hg := Nat.gcd_pos_of_pos_right c (show 0 < e by omega)
      have cd := divisor_ac c e (by omega) (by omega)
      have hnx : stN S0 (5 + 1) = ([a, b, c / Nat.gcd c e], [d, e / Nat.gcd c e]) := by
        rw [stN, show stN S0 5 = _ from hst]; rfl
      have e1 : IntKind.i64.wrap (((c : Nat) : Int).tdiv ((Nat.gcd c e : Nat) : Int)) = ((c / Nat.gcd c e : Nat) : Int) := quoM (by omega)
      have e2 : IntKind.i64.wrap (((e : Nat) : Int).tdiv ((Nat.gcd c e : Nat) : Int)) = ((e / Nat.gcd c e : Nat) : Int) := quoM (by omega)
      have hx2 : c / Nat.gcd c e ≤ c := Nat.div_le_self _ _
      have hy2 := den_ok (a := c) (d := e) he1
      unfold nM at *
      repeat' (first | ((with_reducible refine gA ?_); (first | refine AW_seq ?_ | refine AW_region ?_ | refine AW_regionD Tryz.mixed ?_ | (refine AW_cond rfl (fun hc => ?_) (fun hc => ?_) <;> try (exfalso; simp only [cmpL] at hc; omega)) | refine AW_block ?_ | refine AW_skip ?_)) | (first | ((with_reducible refine gS ?_); refine Es_s (T := Tryz.tab) rfl rfl rfl rfl ?_) | ((with_reducible refine gD ?_); refine Ed_s (T := Tryz.tab) rfl rfl rfl rfl ?_)) | ((first | ((with_reducible refine gS ?_); apply Es_q) | ((with_reducible refine gD ?_); apply Ed_q)); rfl; rfl; (first | refine LStep_indexPtr (T := Tryz.tab) rfl rfl rfl rfl rfl rfl rfl | refine LStep_call (cd) rfl rfl rfl rfl | (refine LStep_quo rfl rfl rfl ?_ e1 rfl; omega) | (refine LStep_quo rfl rfl rfl ?_ e2 rfl; omega))) | (((with_reducible refine gS ?_); apply Es_q); rfl; rfl; (refine LStep_add rfl rfl rfl rfl ?_; (refine IntWalk.i64_in _ ?_; first | omega | (simp only [cmps] at *; omega)))) | (((with_reducible refine gS ?_); apply Es_xn); rfl; rfl; (refine LStep_storeN (T := Tryz.tab) rfl rfl rfl rfl rfl rfl rfl ?_ rfl; (refine Nat.le_of_ble_eq_true ?_; rfl)); rfl) | (with_reducible refine Es_nil ?_) | ((with_reducible refine Ed_nil ?_ ?_); kernel_rfl) | (with_reducible refine then_n ?_) | (with_reducible refine block_n ?_))
      all_goals simp only [cmps] at *
      all_goals first
        | (exfalso; omega)
        | (refine ⟨(2, a, b, c / Nat.gcd c e, d, e / Nat.gcd c e), ?_, by omega, by (repeat' (first | exact trivial | exact rfl | (refine ⟨Or.inl rfl, ?_⟩) | (refine ⟨Or.inr rfl, ?_⟩) | (refine ⟨Or.inr trivial, ?_⟩) | (refine ⟨rfl, ?_⟩) | (refine ⟨?_, ?_⟩))), by (repeat' (first | exact trivial | exact rfl | (refine ⟨Or.inl rfl, ?_⟩) | (refine ⟨Or.inr rfl, ?_⟩) | (refine ⟨Or.inr trivial, ?_⟩) | (refine ⟨rfl, ?_⟩) | (refine ⟨?_, ?_⟩))), by (repeat' (first | exact trivial | exact rfl | (refine ⟨Or.inl rfl, ?_⟩) | (refine ⟨Or.inr rfl, ?_⟩) | (refine ⟨Or.inr trivial, ?_⟩) | (refine ⟨rfl, ?_⟩) | (refine ⟨?_, ?_⟩))), by (repeat' (first | exact trivial | exact rfl | (refine ⟨Or.inl rfl, ?_⟩) | (refine ⟨Or.inr rfl, ?_⟩) | (refine ⟨Or.inr trivial, ?_⟩) | (refine ⟨rfl, ?_⟩) | (refine ⟨?_, ?_⟩)))⟩; exact ⟨by omega, hnx, ha, hb1, div_ok hc1, hd1, den_ok he1⟩)
        | trace_state
    · repeat' (first | ((with_reducible refine gA ?_); (first | refine AW_seq ?_ | refine AW_region ?_ | (refine AW_cond rfl (fun hc => ?_) (fun hc => ?_) <;> try (exfalso; simp only [cmpL] at hc; omega)) | refine AW_exit ?_)) | ((with_reducible refine gS ?_); refine Es_s (T := Tryz.tab) rfl rfl rfl rfl ?_) | (((with_reducible refine gS ?_); apply Es_q); rfl; rfl; (refine LStep_add rfl rfl rfl rfl ?_; (refine IntWalk.i64_in _ ?_; first | omega | (simp only [cmps] at *; omega)))) | (with_reducible refine Es_nil ?_) | (with_reducible refine then_n ?_) | (with_reducible refine then_e ?_) | (with_reducible refine block_n ?_) | ((with_reducible refine block_e ?_ ?_); rfl))
      all_goals simp only [cmps] at *
      all_goals first
        | (exfalso; omega)
        | (refine ⟨(3, a, b, c, d, e), ?_, by omega, by (repeat' (first | exact trivial | exact rfl | (refine ⟨Or.inl rfl, ?_⟩) | (refine ⟨Or.inr rfl, ?_⟩) | (refine ⟨Or.inr trivial, ?_⟩) | (refine ⟨rfl, ?_⟩) | (refine ⟨?_, ?_⟩))), by (repeat' (first | exact trivial | exact rfl | (refine ⟨Or.inl rfl, ?_⟩) | (refine ⟨Or.inr rfl, ?_⟩) | (refine ⟨Or.inr trivial, ?_⟩) | (refine ⟨rfl, ?_⟩) | (refine ⟨?_, ?_⟩))), by (repeat' (first | exact trivial | exact rfl | (refine ⟨Or.inl rfl, ?_⟩) | (refine ⟨Or.inr rfl, ?_⟩) | (refine ⟨Or.inr trivial, ?_⟩) | (refine ⟨rfl, ?_⟩) | (refine ⟨?_, ?_⟩))), by (repeat' (first | exact trivial | exact rfl | (refine ⟨Or.inl rfl, ?_⟩) | (refine ⟨Or.inr rfl, ?_⟩) | (refine ⟨Or.inr trivial, ?_⟩) | (refine ⟨rfl, ?_⟩) | (refine ⟨?_, ?_⟩)))⟩; exact ⟨by omega, hst, ha, hb1, hc1, hd1, he1⟩)
        | trace_state
  · have cp := product_ac [a, b, c] (fun x hx => by simp at hx; omega) (by simp)
    have cq := product_ac [d, e] (fun x hx => by simp at hx; omega) (by simp)
    have hst : stN S0 6 = ([a, b, c], [d, e]) := hst
    rw [hst]
    dsimp only
    unfold nM at *
    cases hp : prodG 1 [a, b, c] with
    | none =>
      rw [hp] at cp
      cases hq : prodG 1 [d, e] with
      | none =>
        rw [hq] at cq
        unfold prodV nM at cp cq
        repeat' (first | ((with_reducible refine gA ?_); (first | refine AW_seq ?_ | refine AW_region ?_ | refine AW_condT rfl ?_ | (refine AW_cond rfl (fun hc => ?_) (fun hc => ?_) <;> try (exfalso; simp only [cmpL] at hc; omega)) | refine AW_ret ?_ | refine AW_exit ?_)) | ((with_reducible refine gS ?_); refine Es_s (T := Tryz.tab) rfl rfl rfl rfl ?_) | (((with_reducible refine gS ?_); apply Es_q); rfl; rfl; (first | refine LStep_call (cp) rfl rfl rfl rfl | refine LStep_call (cq) rfl rfl rfl rfl)) | (((with_reducible refine gS ?_); apply Es_xs); rfl; rfl; refine LStep_sliceBox (T := Tryz.tab) rfl rfl rfl rfl rfl rfl rfl rfl rfl; rfl) | (((with_reducible refine gS ?_); apply Es_q); rfl; rfl; refine LStep_buildN (T := Tryz.tab) rfl rfl rfl rfl rfl rfl rfl) | (refine Es_skip rfl ?_ rfl ?_; (first | rfl | (refine w_tf ?_; assumption) | (refine w_ft ?_; assumption))) | (((with_reducible refine gS ?_); apply Es_xn); rfl; rfl; (refine LStep_storeN (T := Tryz.tab) rfl rfl rfl rfl rfl rfl rfl ?_ rfl; (refine Nat.le_of_ble_eq_true ?_; rfl)); rfl) | (with_reducible refine Es_nil ?_) | (with_reducible refine then_n ?_) | (with_reducible refine then_r ?_) | (with_reducible refine then_e ?_) | ((with_reducible refine block_e ?_ ?_); rfl) | ((with_reducible refine gRG ?_); first | refine retGa rfl ?_ | refine retGb rfl ?_ | refine retGc rfl ?_ | refine retG1 rfl rfl ?_ | refine endG1 rfl rfl ?_))
        all_goals simp only [cmps] at *
        all_goals first
          | rfl
          | (exfalso; omega)
          | trace_state
      | some q =>
        rw [hq] at cq
        unfold prodV nM at cp cq
        repeat' (first | ((with_reducible refine gA ?_); (first | refine AW_seq ?_ | refine AW_region ?_ | refine AW_condT rfl ?_ | (refine AW_cond rfl (fun hc => ?_) (fun hc => ?_) <;> try (exfalso; simp only [cmpL] at hc; omega)) | refine AW_ret ?_ | refine AW_exit ?_)) | ((with_reducible refine gS ?_); refine Es_s (T := Tryz.tab) rfl rfl rfl rfl ?_) | (((with_reducible refine gS ?_); apply Es_q); rfl; rfl; (first | refine LStep_call (cp) rfl rfl rfl rfl | refine LStep_call (cq) rfl rfl rfl rfl)) | (((with_reducible refine gS ?_); apply Es_xs); rfl; rfl; refine LStep_sliceBox (T := Tryz.tab) rfl rfl rfl rfl rfl rfl rfl rfl rfl; rfl) | (((with_reducible refine gS ?_); apply Es_q); rfl; rfl; refine LStep_buildN (T := Tryz.tab) rfl rfl rfl rfl rfl rfl rfl) | (refine Es_skip rfl ?_ rfl ?_; (first | rfl | (refine w_tf ?_; assumption) | (refine w_ft ?_; assumption))) | (((with_reducible refine gS ?_); apply Es_xn); rfl; rfl; (refine LStep_storeN (T := Tryz.tab) rfl rfl rfl rfl rfl rfl rfl ?_ rfl; (refine Nat.le_of_ble_eq_true ?_; rfl)); rfl) | (with_reducible refine Es_nil ?_) | (with_reducible refine then_n ?_) | (with_reducible refine then_r ?_) | (with_reducible refine then_e ?_) | ((with_reducible refine block_e ?_ ?_); rfl) | ((with_reducible refine gRG ?_); first | refine retGa rfl ?_ | refine retGb rfl ?_ | refine retGc rfl ?_ | refine retG1 rfl rfl ?_ | refine endG1 rfl rfl ?_))
        all_goals simp only [cmps] at *
        all_goals first
          | rfl
          | (exfalso; omega)
          | trace_state
    | some p =>
      rw [hp] at cp
      cases hq : prodG 1 [d, e] with
      | none =>
        rw [hq] at cq
        unfold prodV nM at cp cq
        repeat' (first | ((with_reducible refine gA ?_); (first | refine AW_seq ?_ | refine AW_region ?_ | refine AW_condT rfl ?_ | (refine AW_cond rfl (fun hc => ?_) (fun hc => ?_) <;> try (exfalso; simp only [cmpL] at hc; omega)) | refine AW_ret ?_ | refine AW_exit ?_)) | ((with_reducible refine gS ?_); refine Es_s (T := Tryz.tab) rfl rfl rfl rfl ?_) | (((with_reducible refine gS ?_); apply Es_q); rfl; rfl; (first | refine LStep_call (cp) rfl rfl rfl rfl | refine LStep_call (cq) rfl rfl rfl rfl)) | (((with_reducible refine gS ?_); apply Es_xs); rfl; rfl; refine LStep_sliceBox (T := Tryz.tab) rfl rfl rfl rfl rfl rfl rfl rfl rfl; rfl) | (((with_reducible refine gS ?_); apply Es_q); rfl; rfl; (first | refine LStep_simp (T := Tryz.tab) rfl rfl | refine LStep_buildN (T := Tryz.tab) rfl rfl rfl rfl rfl rfl rfl)) | (((with_reducible refine gS ?_); apply Es_xn); rfl; rfl; (refine LStep_storeN (T := Tryz.tab) rfl rfl rfl rfl rfl rfl rfl ?_ rfl; (refine Nat.le_of_ble_eq_true ?_; rfl)); rfl) | (with_reducible refine Es_nil ?_) | (with_reducible refine then_n ?_) | (with_reducible refine then_r ?_) | (with_reducible refine then_e ?_) | ((with_reducible refine block_e ?_ ?_); rfl) | ((with_reducible refine gRG ?_); first | refine retGa rfl ?_ | refine retGb rfl ?_ | refine retGc rfl ?_ | refine retG1 rfl rfl ?_ | refine endG1 rfl rfl ?_))
        all_goals simp only [cmps] at *
        all_goals first
          | rfl
          | (exfalso; omega)
          | trace_state
      | some q =>
        rw [hq] at cq
        unfold prodV nM at cp cq
        repeat' (first | ((with_reducible refine gA ?_); (first | refine AW_seq ?_ | refine AW_region ?_ | refine AW_condF rfl ?_ | (refine AW_cond rfl (fun hc => ?_) (fun hc => ?_) <;> try (exfalso; simp only [cmpL] at hc; omega)) | refine AW_ret ?_ | refine AW_skip ?_ | refine AW_exit ?_)) | ((with_reducible refine gS ?_); refine Es_s (T := Tryz.tab) rfl rfl rfl rfl ?_) | (((with_reducible refine gS ?_); apply Es_q); rfl; rfl; (first | refine LStep_call (cp) rfl rfl rfl rfl | refine LStep_call (cq) rfl rfl rfl rfl)) | (((with_reducible refine gS ?_); apply Es_xs); rfl; rfl; refine LStep_sliceBox (T := Tryz.tab) rfl rfl rfl rfl rfl rfl rfl rfl rfl; rfl) | (((with_reducible refine gS ?_); apply Es_q); rfl; rfl; (first | refine LStep_simp (T := Tryz.tab) rfl rfl | refine LStep_buildN (T := Tryz.tab) rfl rfl rfl rfl rfl rfl rfl)) | (((with_reducible refine gS ?_); apply Es_xn); rfl; rfl; (refine LStep_storeN (T := Tryz.tab) rfl rfl rfl rfl rfl rfl rfl ?_ rfl; (refine Nat.le_of_ble_eq_true ?_; rfl)); rfl) | (with_reducible refine Es_nil ?_) | (with_reducible refine then_n ?_) | (with_reducible refine then_e ?_) | ((with_reducible refine block_e ?_ ?_); rfl) | ((with_reducible refine gRG ?_); first | refine retGa rfl ?_ | refine retGb rfl ?_ | refine retGc rfl ?_ | refine retG1 rfl rfl ?_ | refine endG1 rfl rfl ?_))
        all_goals simp only [cmps] at *
        all_goals first
          | rfl
          | (exfalso; omega)
          | trace_state
theorem prodG_lt : ∀ {l : List Nat} {out p : Nat}, prodG out l = some p → out < 9223372036854775808 → p < 9223372036854775808
  | [], _, _, h, h0 => by cases h; exact h0
  | n :: l, out, p, h, h0 => by
    unfold prodG at h
    split at h
    · cases h
    · exact prodG_lt h (by omega)
theorem prodG_pos : ∀ {l : List Nat} {out p : Nat}, prodG out l = some p → 0 < out → (∀ x ∈ l, 0 < x) → 0 < p
  | [], _, _, h, h0, _ => by cases h; exact h0
  | n :: l, out, p, h, h0, hl => by
    unfold prodG at h
    split at h
    · cases h
    · exact prodG_pos h (Nat.mul_pos h0 (hl n List.mem_cons_self)) (fun x hx => hl x (List.mem_cons_of_mem _ hx))
theorem int_ok {s n d days base a b : Nat} (hf : IntFit s n d days base) (h : intR s n d days base = some (a, b)) : a < 9223372036854775808 ∧ 0 < b ∧ b < 9223372036854775808 := by
  have h0 : StI s (n / Nat.gcd n d) days (d / Nat.gcd n d) base (stS s n d days base) := ⟨_, _, _, _, _, rfl, Nat.le_refl _, Nat.le_refl _, Nat.le_refl _, ⟨(den_ok ⟨hf.d1, hf.d2⟩).1, Nat.le_refl _⟩, ⟨by have := hf.b1; omega, Nat.le_refl _⟩⟩
  obtain ⟨a', b', c', d', e', h1, _, _, _, hd, he⟩ := (h0.all 6 (by omega)).ex
  unfold intR at h
  rw [h1] at h
  dsimp only at h
  cases hp : prodG 1 [a', b', c'] with
  | none => rw [hp] at h; cases h
  | some p =>
    cases hq : prodG 1 [d', e'] with
    | none => rw [hp, hq] at h; cases h
    | some q =>
      rw [hp, hq] at h
      cases h
      exact ⟨prodG_lt hp (by omega), prodG_pos hq (by omega) (fun x hx => by simp at hx; omega), prodG_lt hq (by omega)⟩
def discV (s : Nat) : Option (Nat × Nat) → AV
  | none => .tup [nM 0, nM 0, .d (.sc (.bool false))]
  | some (a, b) => if nearN a b ≤ s then .tup [nM (s - nearN a b), nM (nearN a b), .d (.sc (.bool true))] else .tup [nM 0, nM 0, .d (.sc (.bool false))]
set_option maxRecDepth 20000 in
set_option maxHeartbeats 4000000 in
theorem discount_ac (s n d days base : Nat) (hf : IntFit s n d days base) : AC Tryz.prog 26 [nM s, rtM n d, nM days, nM base] [] [] (fun r _ => r = discV s (intR s n d days base)) := by
  have ci := interest_ac s n d days base hf
  have hs := hf.s1
  cases hi : intR s n d days base with
  | none =>
    rw [hi] at ci
    unfold intV discV rtM nM at *
    refine AC_enter Tryz.func26 rfl Tryz.ntmps26 (rv := [.tmp 8, .tmp 9, .tmp 10]) rfl rfl (by simp) (fun w X G => ?_)
    repeat' (first | ((with_reducible refine gA ?_); (first | refine AW_seq ?_ | refine AW_region ?_ | refine AW_condT rfl ?_ | refine AW_ret ?_)) | ((with_reducible refine gS ?_); refine Es_s (T := Tryz.tab) rfl rfl rfl rfl ?_) | (((with_reducible refine gS ?_); apply Es_q); rfl; rfl; refine LStep_call (ci) rfl rfl rfl rfl) | (refine Es_skip rfl ?_ rfl ?_; (first | rfl | (refine w_tf ?_; assumption) | (refine w_ft ?_; assumption))) | (((with_reducible refine gS ?_); apply Es_xs); rfl; rfl; (first | refine LStep_boxN rfl rfl rfl rfl rfl rfl | refine LStep_allocN (T := Tryz.tab) rfl rfl rfl rfl rfl rfl); rfl) | (((with_reducible refine gS ?_); apply Es_xn); rfl; rfl; (refine LStep_storeN (T := Tryz.tab) rfl rfl rfl rfl rfl rfl rfl ?_ rfl; (refine Nat.le_of_ble_eq_true ?_; rfl)); rfl) | (with_reducible refine Es_nil ?_) | (with_reducible refine then_n ?_) | (with_reducible refine then_r ?_))
    all_goals simp only [cmps] at *
    all_goals first
      | rfl
      | (exfalso; omega)
      | trace_state
  | some p =>
    obtain ⟨a, b⟩ := p
    obtain ⟨h1, h2, h3⟩ := int_ok hf hi
    have cn := nearest_ac a b h2 h1 h3
    rw [hi] at ci
    unfold intV discV rtM nM at *
    dsimp only at ci ⊢
    generalize nearN a b = q at *
    by_cases hq : q ≤ s
    · rw [if_pos hq]
      have e1 : (s : Int) - (q : Int) = ((s - q : Nat) : Int) := by omega
      rw [← e1]
      refine AC_enter Tryz.func26 rfl Tryz.ntmps26 (rv := [.tmp 8, .tmp 9, .tmp 10]) rfl rfl (by simp) (fun w X G => ?_)
      repeat' (first | ((with_reducible refine gA ?_); (first | refine AW_seq ?_ | refine AW_region ?_ | refine AW_condF rfl ?_ | (refine AW_cond rfl (fun hc => ?_) (fun hc => ?_) <;> try (exfalso; simp only [cmpL] at hc; omega)) | refine AW_ret ?_ | refine AW_skip ?_)) | ((with_reducible refine gS ?_); refine Es_s (T := Tryz.tab) rfl rfl rfl rfl ?_) | (((with_reducible refine gS ?_); apply Es_q); rfl; rfl; (first | refine LStep_call (ci) rfl rfl rfl rfl | refine LStep_call (cn) rfl rfl rfl rfl)) | (((with_reducible refine gS ?_); apply Es_q); rfl; rfl; (refine LStep_sub rfl rfl rfl rfl ?_; (refine IntWalk.i64_in _ ?_; first | omega | (simp only [cmps] at *; omega)))) | (refine Es_skip rfl ?_ rfl ?_; (first | rfl | (refine w_tf ?_; assumption) | (refine w_ft ?_; assumption))) | (((with_reducible refine gS ?_); apply Es_xs); rfl; rfl; (first | refine LStep_boxN rfl rfl rfl rfl rfl rfl | refine LStep_allocN (T := Tryz.tab) rfl rfl rfl rfl rfl rfl); rfl) | (((with_reducible refine gS ?_); apply Es_xn); rfl; rfl; (refine LStep_storeN (T := Tryz.tab) rfl rfl rfl rfl rfl rfl rfl ?_ rfl; (refine Nat.le_of_ble_eq_true ?_; rfl)); rfl) | (with_reducible refine Es_nil ?_) | (with_reducible refine then_n ?_))
      all_goals simp only [cmps] at *
      all_goals first
        | rfl
        | (exfalso; omega)
        | trace_state
    · rw [if_neg hq]
      refine AC_enter Tryz.func26 rfl Tryz.ntmps26 (rv := [.tmp 8, .tmp 9, .tmp 10]) rfl rfl (by simp) (fun w X G => ?_)
      repeat' (first | ((with_reducible refine gA ?_); (first | refine AW_seq ?_ | refine AW_region ?_ | refine AW_condF rfl ?_ | (refine AW_cond rfl (fun hc => ?_) (fun hc => ?_) <;> try (exfalso; simp only [cmpL] at hc; omega)) | refine AW_ret ?_ | refine AW_skip ?_)) | ((with_reducible refine gS ?_); refine Es_s (T := Tryz.tab) rfl rfl rfl rfl ?_) | (((with_reducible refine gS ?_); apply Es_q); rfl; rfl; (first | refine LStep_call (ci) rfl rfl rfl rfl | refine LStep_call (cn) rfl rfl rfl rfl)) | (refine Es_skip rfl ?_ rfl ?_; (first | rfl | (refine w_tf ?_; assumption) | (refine w_ft ?_; assumption))) | (((with_reducible refine gS ?_); apply Es_xs); rfl; rfl; (first | refine LStep_boxN rfl rfl rfl rfl rfl rfl | refine LStep_allocN (T := Tryz.tab) rfl rfl rfl rfl rfl rfl); rfl) | (((with_reducible refine gS ?_); apply Es_xn); rfl; rfl; (refine LStep_storeN (T := Tryz.tab) rfl rfl rfl rfl rfl rfl rfl ?_ rfl; (refine Nat.le_of_ble_eq_true ?_; rfl)); rfl) | (with_reducible refine Es_nil ?_) | (with_reducible refine then_n ?_) | (with_reducible refine then_r ?_))
      all_goals simp only [cmps] at *
      all_goals first
        | rfl
        | (exfalso; omega)
        | trace_state
end Go.Proofs.YtofdnkgieigncaaGreat
