import Derived.Test.YtofdnkgieigncaaRE
import Derived.Test.YtofdnkgieigncaaGD
namespace Go.Proofs.Ytofdnkgieigncaa
open Go.SL
/-! ### the chart's rate, Reduce, Get -/
theorem aget_permR {κ α : Type} [DecidableEq κ] {l m : List (κ × α)} (h : l.Perm m) (hn : (akeys l).Nodup) (k : κ) : aget k l = aget k m := by
  have hm : (akeys m).Nodup := (h.map _).nodup_iff.1 hn
  cases hl : aget k l with
  | some a => exact (aget_of_mem hm (h.mem_iff.1 (aget_mem hl))).symm
  | none =>
    refine (aget_none.2 fun hc => aget_none.1 hl ?_).symm
    exact (h.map (·.1)).mem_iff.2 hc
def hCh (l : List RP) (day : Int) : Hp := [(1000, some (.mapP 119 121 (prE l day))), (1001, some (.mapP 9 35 (nbE l day)))]
def hCm (l : List RP) (day : Int) (es2 : List (Value × AV)) : Hp := [(1000, some (.mapP 119 121 (prE l day))), (1001, some (.map 9 35 es2 none))]
def lkV (x : Option (Int × Int)) : AV := .tup [rtV (x.getD (0, 0)), .d (.sc (.bool x.isSome))]
theorem lkV_some (x : Int × Int) : lkV (some x) = .tup [.agg [.d (.sc (.int .i64 x.1)), .d (.sc (.int .i64 x.2))], .d (.sc (.bool true))] := rfl
set_option maxRecDepth 10000 in
set_option maxHeartbeats 2000000 in
theorem rateM_ac (l : List RP) (day : Int) (es2 : List (Value × AV)) (f t : ByteArray) : AC Try.prog 46 [.agg [.mp 1000, .mp 1001], .d (.sc (.string f)), .d (.sc (.string t))] (hCm l day es2) [1000, 1001]
    (fun r h' => r = lkV (linkR l day f t) ∧ SubH (hCm l day es2) h') := by
  refine AC.unP (m := 1000) (kt := 119) (et := 121) (es0 := prE l day) (fun es r h' => r = lkV (linkR l day f t) ∧ SubH [(1000, some (.map 119 121 es none)), (1001, some (.map 9 35 es2 none))] h') rfl (fun es hes => ?_) (fun es r h' ⟨q, a1, a2, _⟩ => ?_)
  · obtain ⟨v, hv, rfl⟩ := perm_map_inv hes (chM l day) rfl
    refine AC.heap (h := [(1000, some (.map 119 121 (emap k2V dtV v) none)), (1001, some (.map 9 35 es2 none))]) ?_ (fun i => by
      by_cases h1 : 1000 = i
      · subst h1; rfl
      · unfold hCm
        simp only [hget_cons, if_neg h1])
    have hML := p2_keys (cv := dtV) v
    obtain ⟨hn0, hg0⟩ := chM_get day l
    have hnv : (akeys v).Nodup := (hv.map _).nodup_iff.2 hn0
    have hg : ∀ p, aget p v = (lat l p day).map dtOf := fun p => by rw [aget_permR hv hnv, hg0]
    have g1 := hg (f, t)
    have g2 := hg (t, f)
    clear hg hg0 hn0 hnv hv hes
    unfold lkV linkR
    cases h1 : lat l (f, t) day with
    | some x =>
      rw [h1] at g1
      have hf := mget_some (cv := dtV) k2V_keq g1
      obtain ⟨⟨a, b, d⟩, n, m⟩ := x
      refine AC_enterG Try.tab Try.func46 rfl Try.ntmps46 (rv := [.cell 6 30, .tmp 7]) rfl rfl (by simp) (fun w X G => ?_)
      repeat' (first | ((with_reducible refine gA ?_); (first | refine AW_seq ?_ | refine AW_region ?_ | refine AW_condT rfl ?_ | refine AW_ret ?_)) | ((with_reducible refine gS ?_); refine Es_s (T := Try.tab) rfl rfl rfl rfl ?_) | (((with_reducible refine gS ?_); apply Es_q); rfl; rfl; refine LStep_lookupOk (T := Try.tab) rfl rfl rfl keyP2 rfl rfl rfl rfl hML hf) | (((with_reducible refine gS ?_); apply Es_q); rfl; rfl; refine LStep_buildN (T := Try.tab) rfl rfl rfl rfl rfl rfl rfl) | (refine Es_skip rfl ?_ rfl ?_; (first | rfl | (refine w_tf ?_; assumption) | (refine w_ft ?_; assumption))) | (((with_reducible refine gS ?_); apply Es_xs); rfl; rfl; (first | refine LStep_boxN rfl rfl rfl rfl rfl rfl | refine LStep_allocN (T := Try.tab) rfl rfl rfl rfl rfl rfl); rfl) | (((with_reducible refine gS ?_); apply Es_xn); rfl; rfl; (refine LStep_storeN (T := Try.tab) rfl rfl rfl rfl rfl rfl rfl ?_ rfl; (refine Nat.le_of_ble_eq_true ?_; rfl)); rfl) | (with_reducible refine Es_nil ?_) | (with_reducible refine then_n ?_) | (with_reducible refine then_r ?_) | ((with_reducible refine gRG ?_); first | refine retGa rfl ?_ | refine retGb rfl ?_ | refine retGc rfl ?_ | refine retG1 rfl rfl ?_ | refine endG1 rfl rfl ?_))
      all_goals first
        | exact ⟨rfl, by (repeat' (first | exact trivial | exact rfl | (refine ⟨Or.inl rfl, ?_⟩) | (refine ⟨Or.inr rfl, ?_⟩) | (refine ⟨Or.inr trivial, ?_⟩) | (refine ⟨rfl, ?_⟩) | (refine ⟨?_, ?_⟩)))⟩
        | trace_state
    | none =>
      rw [h1] at g1
      have hf := mget_no (cv := dtV) k2V_keq g1
      cases h2 : lat l (t, f) day with
      | some x =>
        rw [h2] at g2
        have hf2 := mget_some (cv := dtV) k2V_keq g2
        obtain ⟨⟨a, b, d⟩, n, m⟩ := x
        refine AC_enterG Try.tab Try.func46 rfl Try.ntmps46 (rv := [.cell 6 30, .tmp 7]) rfl rfl (by simp) (fun w X G => ?_)
        repeat' (first | ((with_reducible refine gA ?_); (first | refine AW_seq ?_ | refine AW_region ?_ | refine AW_condT rfl ?_ | refine AW_condF rfl ?_ | refine AW_ret ?_ | refine AW_skip ?_)) | ((with_reducible refine gS ?_); refine Es_s (T := Try.tab) rfl rfl rfl rfl ?_) | (((with_reducible refine gS ?_); apply Es_q); rfl; rfl; (first | refine LStep_lookupNoZ (T := Try.tab) rfl rfl rfl keyP2 rfl rfl rfl rfl rfl rfl hML hf | refine LStep_lookupOk (T := Try.tab) rfl rfl rfl keyP2 rfl rfl rfl rfl hML hf2)) | (((with_reducible refine gS ?_); apply Es_q); rfl; rfl; refine LStep_buildN (T := Try.tab) rfl rfl rfl rfl rfl rfl rfl) | (refine Es_skip rfl ?_ rfl ?_; (first | rfl | (refine w_tf ?_; assumption) | (refine w_ft ?_; assumption))) | (((with_reducible refine gS ?_); apply Es_xs); rfl; rfl; (first | refine LStep_boxN rfl rfl rfl rfl rfl rfl | refine LStep_allocN (T := Try.tab) rfl rfl rfl rfl rfl rfl); rfl) | (((with_reducible refine gS ?_); apply Es_xn); rfl; rfl; (refine LStep_storeN (T := Try.tab) rfl rfl rfl rfl rfl rfl rfl ?_ rfl; (refine Nat.le_of_ble_eq_true ?_; rfl)); rfl) | (with_reducible refine Es_nil ?_) | (with_reducible refine then_n ?_) | (with_reducible refine then_r ?_) | ((with_reducible refine gRG ?_); first | refine retGa rfl ?_ | refine retGb rfl ?_ | refine retGc rfl ?_ | refine retG1 rfl rfl ?_ | refine endG1 rfl rfl ?_))
        all_goals first
          | exact ⟨rfl, by (repeat' (first | exact trivial | exact rfl | (refine ⟨Or.inl rfl, ?_⟩) | (refine ⟨Or.inr rfl, ?_⟩) | (refine ⟨Or.inr trivial, ?_⟩) | (refine ⟨rfl, ?_⟩) | (refine ⟨?_, ?_⟩)))⟩
          | trace_state
      | none =>
        rw [h2] at g2
        have hf2 := mget_no (cv := dtV) k2V_keq g2
        refine AC_enterG Try.tab Try.func46 rfl Try.ntmps46 (rv := [.cell 6 30, .tmp 7]) rfl rfl (by simp) (fun w X G => ?_)
        repeat' (first | ((with_reducible refine gA ?_); (first | refine AW_seq ?_ | refine AW_region ?_ | refine AW_condF rfl ?_ | refine AW_ret ?_ | refine AW_skip ?_)) | ((with_reducible refine gS ?_); refine Es_s (T := Try.tab) rfl rfl rfl rfl ?_) | (((with_reducible refine gS ?_); apply Es_q); rfl; rfl; (first | refine LStep_lookupNoZ (T := Try.tab) rfl rfl rfl keyP2 rfl rfl rfl rfl rfl rfl hML hf | refine LStep_lookupNoZ (T := Try.tab) rfl rfl rfl keyP2 rfl rfl rfl rfl rfl rfl hML hf2)) | (((with_reducible refine gS ?_); apply Es_q); rfl; rfl; refine LStep_buildN (T := Try.tab) rfl rfl rfl rfl rfl rfl rfl) | (refine Es_skip rfl ?_ rfl ?_; (first | rfl | (refine w_tf ?_; assumption) | (refine w_ft ?_; assumption))) | (((with_reducible refine gS ?_); apply Es_xs); rfl; rfl; (first | refine LStep_boxN rfl rfl rfl rfl rfl rfl | refine LStep_allocN (T := Try.tab) rfl rfl rfl rfl rfl rfl); rfl) | (((with_reducible refine gS ?_); apply Es_xn); rfl; rfl; (refine LStep_storeN (T := Try.tab) rfl rfl rfl rfl rfl rfl rfl ?_ rfl; (refine Nat.le_of_ble_eq_true ?_; rfl)); rfl) | (with_reducible refine Es_nil ?_) | (with_reducible refine then_n ?_) | ((with_reducible refine gRG ?_); first | refine retGa rfl ?_ | refine retGb rfl ?_ | refine retGc rfl ?_ | refine retG1 rfl rfl ?_ | refine endG1 rfl rfl ?_))
        all_goals first
          | exact ⟨rfl, by (repeat' (first | exact trivial | exact rfl | (refine ⟨Or.inl rfl, ?_⟩) | (refine ⟨Or.inr rfl, ?_⟩) | (refine ⟨Or.inr trivial, ?_⟩) | (refine ⟨rfl, ?_⟩) | (refine ⟨?_, ?_⟩)))⟩
          | trace_state
  · exact ⟨a1, q, rfl, (hget_cons _ _ _ _).trans ((if_neg (by decide)).trans a2), trivial⟩
/-- a chart whose row of neighbours stands in any order -/
theorem AC.unNb {f : FuncId} {args : List AV} {l : List RP} {day : Int} {v : AV} (H : ∀ w : List (ByteArray × List ByteArray), w.Perm (nbM (akeys (chM l day))) → AC Try.prog f args (hCm l day (w.map fun p => (sV p.1, AV.d (.sl 1 (rowE (sortS p.2)))))) [1000, 1001] (fun r h' => r = v ∧ SubH (hCm l day (w.map fun p => (sV p.1, AV.d (.sl 1 (rowE (sortS p.2)))))) h')) :
    AC Try.prog f args (hCh l day) [1000, 1001] (fun r h' => r = v ∧ SubH (hCh l day) h') := by
  refine AC.unP (m := 1001) (kt := 9) (et := 35) (es0 := nbE l day) (fun es r h' => r = v ∧ SubH (hCm l day es) h') rfl (fun es hes => ?_) (fun es r h' ⟨q, a1, a2, _⟩ => ?_)
  · obtain ⟨w, hw, rfl⟩ := perm_map_inv hes (nbM (akeys (chM l day))) rfl
    refine AC.heap (H w hw) (fun i => ?_)
    by_cases h1 : 1001 = i
    · subst h1; rfl
    · unfold hCm hCh
      simp only [hget_cons, if_neg h1]
  · exact ⟨a2, q, (hget_cons _ _ _ _).trans ((if_neg (by decide)).trans a1), rfl, trivial⟩
theorem rate_ac (l : List RP) (day : Int) (f t : ByteArray) : AC Try.prog 46 [.agg [.mp 1000, .mp 1001], .d (.sc (.string f)), .d (.sc (.string t))] (hCh l day) [1000, 1001]
    (fun r h' => r = lkV (linkR l day f t) ∧ SubH (hCh l day) h') := AC.unNb fun _ _ => rateM_ac l day _ f t
/-! #### Reduce -/
def rdc (n d : Nat) : Int × Int := (((n / Nat.gcd n d : Nat) : Int), ((d / Nat.gcd n d : Nat) : Int))
theorem gcd_next {a b : Nat} (_hb : b ≠ 0) : Nat.gcd b (a % b) = Nat.gcd a b := by
  rw [Nat.gcd_comm a b, Nat.gcd_rec b a, Nat.gcd_comm]
set_option maxRecDepth 10000 in
theorem isRatio_ac (n d : Nat) (hd : 0 < d) : AC Try.prog 35 [rtV ((n : Int), (d : Int))] [] [] (fun r _ => r = .d (.sc (.bool true))) := by
  unfold rtV
  refine AC_enter Try.func35 rfl Try.ntmps35 (rv := [.tmp 2]) rfl rfl (by simp) (fun w X G => ?_)
  repeat' (first | ((with_reducible refine gA ?_); (first | refine AW_seq ?_ | refine AW_region ?_ | refine AW_ret ?_)) | ((with_reducible refine gS ?_); refine Es_s (T := Try.tab) rfl rfl rfl rfl ?_) | (((with_reducible refine gS ?_); apply Es_q); rfl; (first | rfl | (refine w_tt ?_; assumption)); (first | refine LStep_simp (T := Try.tab) rfl rfl | (refine LStep_pickT rfl rfl ?_ rfl rfl; assumption) | (refine LStep_pickF rfl rfl ?_ rfl rfl; assumption))) | (refine Es_skip rfl ?_ rfl ?_; (first | rfl | (refine w_tf ?_; assumption) | (refine w_ft ?_; assumption))) | (((with_reducible refine gS ?_); apply Es_xs); rfl; rfl; refine LStep_boxN rfl rfl rfl rfl rfl rfl; rfl) | (refine Es_split rfl ?_ (fun _ => ?_) (fun _ => ?_); ((fail_if_success (refine und_t ?_; assumption)); (fail_if_success (refine und_f ?_; assumption)); exact trivial)) | (with_reducible refine Es_nil ?_) | (with_reducible refine then_n ?_) | ((with_reducible refine gR ?_); first | refine ret1 rfl ?_ | refine ret2 rfl rfl ?_ | refine ret0 ?_ | refine end1 rfl ?_ | refine end0 ?_))
  all_goals simp only [cmps] at *
  all_goals first
    | (exfalso; omega)
    | (refine avB ?_; rw [leb_t]; simp; omega)
    | (refine avB ?_; simp; omega)
    | trace_state
theorem i64_quoN {a b : Nat} (h : a < 9223372036854775808) : IntKind.i64.wrap (((a : Nat) : Int).tdiv ((b : Nat) : Int)) = ((a / b : Nat) : Int) := by
  have e : ((a : Nat) : Int).tdiv ((b : Nat) : Int) = ((a / b : Nat) : Int) := rfl
  rw [e]
  refine IntWalk.i64_in _ ?_
  have := Nat.div_le_self a b
  generalize a / b = q at *
  omega
set_option maxRecDepth 10000 in
set_option maxHeartbeats 2000000 in
theorem reduce_ac (n d : Nat) (hd : 0 < d) (hn : n < 9223372036854775808) (hd2 : d < 9223372036854775808) : AC Try.prog 34 [rtV ((n : Int), (d : Int))] [] [] (fun r _ => r = .tup [rtV (rdc n d), .d (.sc (.bool true))]) := by
  have c1 := isRatio_ac n d hd
  unfold rtV at c1 ⊢
  dsimp only at c1
  refine AC_enterG Try.tab Try.func34 rfl Try.ntmps34 (rv := [.cell 2 30, .tmp 3]) rfl rfl (by simp) (fun w X G => ?_)
  repeat' (first | ((with_reducible refine gA ?_); (first | refine AW_seq ?_ | refine AW_region ?_ | refine AW_regionD Try.mixed ?_ | refine AW_condF rfl ?_ | refine AW_block ?_ | refine AW_skip ?_)) | (first | ((with_reducible refine gS ?_); refine Es_s (T := Try.tab) rfl rfl rfl rfl ?_) | ((with_reducible refine gD ?_); refine Ed_s (T := Try.tab) rfl rfl rfl rfl ?_)) | (((with_reducible refine gS ?_); apply Es_q); rfl; rfl; refine LStep_call (c1) rfl rfl rfl rfl) | (refine Es_skip rfl ?_ rfl ?_; (first | rfl | (refine w_tf ?_; assumption) | (refine w_ft ?_; assumption))) | (((with_reducible refine gS ?_); apply Es_xs); rfl; rfl; (first | refine LStep_boxN rfl rfl rfl rfl rfl rfl | refine LStep_allocN (T := Try.tab) rfl rfl rfl rfl rfl rfl); rfl) | (with_reducible refine Es_nil ?_) | ((with_reducible refine Ed_nil ?_ ?_); kernel_rfl) | (with_reducible refine then_n ?_))
  refine AW_forE (S := Nat × Nat) (fun t => Nat.gcd t.1 t.2 = Nat.gcd n d ∧ t.1 < 9223372036854775808 ∧ t.2 < 9223372036854775808) (fun t => [(4, .d (.sc (.int .i64 (t.1 : Nat)))), (5, .d (.sc (.int .i64 (t.2 : Nat))))]) (fun _ => []) (fun t => t.2) (n, d) ⟨rfl, hn, hd2⟩ (by (repeat' (first | exact trivial | exact rfl | (refine ⟨Or.inl rfl, ?_⟩) | (refine ⟨Or.inr rfl, ?_⟩) | (refine ⟨Or.inr trivial, ?_⟩) | (refine ⟨rfl, ?_⟩) | (refine ⟨?_, ?_⟩)))) (by (repeat' (first | exact trivial | exact rfl | (refine ⟨Or.inl rfl, ?_⟩) | (refine ⟨Or.inr rfl, ?_⟩) | (refine ⟨Or.inr trivial, ?_⟩) | (refine ⟨rfl, ?_⟩) | (refine ⟨?_, ?_⟩)))) ?_
  intro ⟨a, b⟩ ⟨hg, ha, hb⟩
  dsimp only at hg ha hb ⊢
  by_cases h0 : b = 0
  · subst h0
    rw [Nat.gcd_zero_right] at hg
    have hp : a ≠ 0 := by
      have := Nat.gcd_pos_of_pos_right n hd
      omega
    subst hg
    have e1 : IntKind.i64.wrap (((n : Nat) : Int).tdiv ((Nat.gcd n d : Nat) : Int)) = ((n / Nat.gcd n d : Nat) : Int) := i64_quoN hn
    have e2 : IntKind.i64.wrap (((d : Nat) : Int).tdiv ((Nat.gcd n d : Nat) : Int)) = ((d / Nat.gcd n d : Nat) : Int) := i64_quoN hd2
    unfold rdc
    repeat' (first | ((with_reducible refine gA ?_); (first | refine AW_seq ?_ | refine AW_region ?_ | refine AW_regionD Try.mixed ?_ | (refine AW_cond rfl (fun hc => ?_) (fun hc => ?_) <;> try (exfalso; simp only [cmpL] at hc; omega)) | refine AW_ret ?_ | refine AW_exit ?_)) | (first | ((with_reducible refine gS ?_); refine Es_s (T := Try.tab) rfl rfl rfl rfl ?_) | ((with_reducible refine gD ?_); refine Ed_s (T := Try.tab) rfl rfl rfl rfl ?_)) | (((with_reducible refine gD ?_); apply Ed_q); rfl; rfl; (first | (refine LStep_quo rfl rfl rfl ?_ e1 rfl; omega) | (refine LStep_quo rfl rfl rfl ?_ e2 rfl; omega))) | (((with_reducible refine gD ?_); apply Ed_q); rfl; rfl; refine LStep_buildN (T := Try.tab) rfl rfl rfl rfl rfl rfl rfl) | (((with_reducible refine gD ?_); apply Ed_xn); rfl; rfl; (refine LStep_storeN (T := Try.tab) rfl rfl rfl rfl rfl rfl rfl ?_ rfl; (refine Nat.le_of_ble_eq_true ?_; rfl)); rfl) | (with_reducible refine Es_nil ?_) | ((with_reducible refine Ed_nil ?_ ?_); kernel_rfl) | (with_reducible refine then_n ?_) | (with_reducible refine then_e ?_) | ((with_reducible refine block_e ?_ ?_); rfl) | ((with_reducible refine gRG ?_); first | refine retGa rfl ?_ | refine retGb rfl ?_ | refine retGc rfl ?_ | refine retG1 rfl rfl ?_ | refine endG1 rfl rfl ?_))
    all_goals simp only [cmps] at *
    all_goals first
      | rfl
      | (exfalso; omega)
      | trace_state
  · have e1 : ((a : Nat) : Int).tmod ((b : Nat) : Int) = ((a % b : Nat) : Int) := rfl
    have hlt := Nat.mod_lt a (show b > 0 by omega)
    repeat' (first | ((with_reducible refine gA ?_); (first | refine AW_seq ?_ | refine AW_region ?_ | refine AW_regionD Try.mixed ?_ | (refine AW_cond rfl (fun hc => ?_) (fun hc => ?_) <;> try (exfalso; simp only [cmpL] at hc; omega)) | refine AW_block ?_ | refine AW_skip ?_)) | (first | ((with_reducible refine gS ?_); refine Es_s (T := Try.tab) rfl rfl rfl rfl ?_) | ((with_reducible refine gD ?_); refine Ed_s (T := Try.tab) rfl rfl rfl rfl ?_)) | (((with_reducible refine gD ?_); apply Ed_q); rfl; rfl; (refine LStep_rem rfl rfl rfl ?_ e1 rfl; omega)) | (with_reducible refine Es_nil ?_) | ((with_reducible refine Ed_nil ?_ ?_); kernel_rfl) | (with_reducible refine then_n ?_) | (with_reducible refine block_n ?_))
    all_goals simp only [cmps] at *
    all_goals first
      | (exfalso; omega)
      | (refine ⟨(b, a % b), ?_, by omega, by (repeat' (first | exact trivial | exact rfl | (refine ⟨Or.inl rfl, ?_⟩) | (refine ⟨Or.inr rfl, ?_⟩) | (refine ⟨Or.inr trivial, ?_⟩) | (refine ⟨rfl, ?_⟩) | (refine ⟨?_, ?_⟩))), by (repeat' (first | exact trivial | exact rfl | (refine ⟨Or.inl rfl, ?_⟩) | (refine ⟨Or.inr rfl, ?_⟩) | (refine ⟨Or.inr trivial, ?_⟩) | (refine ⟨rfl, ?_⟩) | (refine ⟨?_, ?_⟩))), by (repeat' (first | exact trivial | exact rfl | (refine ⟨Or.inl rfl, ?_⟩) | (refine ⟨Or.inr rfl, ?_⟩) | (refine ⟨Or.inr trivial, ?_⟩) | (refine ⟨rfl, ?_⟩) | (refine ⟨?_, ?_⟩))), by (repeat' (first | exact trivial | exact rfl | (refine ⟨Or.inl rfl, ?_⟩) | (refine ⟨Or.inr rfl, ?_⟩) | (refine ⟨Or.inr trivial, ?_⟩) | (refine ⟨rfl, ?_⟩) | (refine ⟨?_, ?_⟩)))⟩; exact ⟨by rw [gcd_next h0, hg], by omega, by omega⟩)
      | trace_state
/-! #### Get -/
theorem linkR_in {l : List RP} (h : RInv l) {day : Int} {f t : ByteArray} {x : Int × Int} (e : linkR l day f t = some x) : ∃ n d : Nat, x = ((n : Int), (d : Int)) ∧ 0 < n ∧ n ≤ 1048576 ∧ 0 < d ∧ d ≤ 1048576 := by
  have key : ∀ p y, lat l p day = some y → ∃ n d : Nat, y.2 = ((n : Int), (d : Int)) ∧ 0 < n ∧ n ≤ 1048576 ∧ 0 < d ∧ d ≤ 1048576 := fun p y hy => by
    obtain ⟨h1, _⟩ := (lat_spec p day l).2 y hy
    obtain ⟨_, _, _, _, h2, h3⟩ := mayR_t.1 (h.may y h1)
    refine ⟨y.2.1.toNat, y.2.2.toNat, Prod.ext ?_ ?_, ?_⟩
    · show y.2.1 = _; omega
    · show y.2.2 = _; omega
    · omega
  unfold linkR at e
  split at e
  · rename_i y hy
    obtain ⟨n, d, h1, h2⟩ := key _ y hy
    cases e
    exact ⟨n, d, h1, h2⟩
  · split at e
    · rename_i y hy
      obtain ⟨n, d, h1, h2⟩ := key _ y hy
      cases e
      refine ⟨d, n, ?_, by omega⟩
      rw [h1]
    · cases e
end Go.Proofs.Ytofdnkgieigncaa
