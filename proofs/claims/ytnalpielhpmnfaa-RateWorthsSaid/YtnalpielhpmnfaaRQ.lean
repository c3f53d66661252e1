import Derived.Test.YtnalpielhpmnfaaRP
namespace Go.Proofs.Ytnalpielhpmnfaa
open Go.SL
/-! ### the document's Times, product -/
theorem rdc_scale {c x y : Nat} (hc : 0 < c) : rdc (c * x) (c * y) = rdc x y := by
  unfold rdc
  rw [Nat.gcd_mul_left, Nat.mul_div_mul_left _ _ hc, Nat.mul_div_mul_left _ _ hc]
theorem rdc_mul {a b n d : Nat} (ha : 0 < a) (hn : 0 < n) : rdc (a / Nat.gcd a b * (n / Nat.gcd n d)) (b / Nat.gcd a b * (d / Nat.gcd n d)) = rdc (a * n) (b * d) := by
  have p1 : 0 < Nat.gcd a b := Nat.gcd_pos_of_pos_left _ ha
  have p2 : 0 < Nat.gcd n d := Nat.gcd_pos_of_pos_left _ hn
  obtain ⟨x, hx⟩ := Nat.gcd_dvd_left a b
  obtain ⟨y, hy⟩ := Nat.gcd_dvd_right a b
  obtain ⟨z, hz⟩ := Nat.gcd_dvd_left n d
  obtain ⟨v, hv⟩ := Nat.gcd_dvd_right n d
  generalize Nat.gcd a b = g at *
  generalize Nat.gcd n d = k at *
  subst hx hy hz hv
  rw [Nat.mul_div_cancel_left _ p1, Nat.mul_div_cancel_left _ p1, Nat.mul_div_cancel_left _ p2, Nat.mul_div_cancel_left _ p2]
  have e1 : g * x * (k * z) = (g * k) * (x * z) := by simp only [Nat.mul_comm, Nat.mul_left_comm]
  have e2 : g * y * (k * v) = (g * k) * (y * v) := by simp only [Nat.mul_comm, Nat.mul_left_comm]
  rw [e1, e2, rdc_scale (Nat.mul_pos p1 p2)]
theorem copr {n d : Nat} (h : 0 < n) : Nat.gcd (n / Nat.gcd n d) (d / Nat.gcd n d) = 1 := Nat.coprime_div_gcd_div_gcd (Nat.gcd_pos_of_pos_left _ h)
theorem div_gcd_pos {n d : Nat} (h : 0 < n) : 0 < n / Nat.gcd n d := Nat.div_pos (Nat.le_of_dvd h (Nat.gcd_dvd_left _ _)) (Nat.gcd_pos_of_pos_left _ h)
theorem div_gcd_posR {n d : Nat} (h : 0 < d) : 0 < d / Nat.gcd n d := Nat.div_pos (Nat.le_of_dvd h (Nat.gcd_dvd_right _ _)) (Nat.gcd_pos_of_pos_right _ h)
set_option maxRecDepth 10000 in
set_option maxHeartbeats 4000000 in
theorem rTimes_ac (n1 d1 n2 d2 : Nat) (c1 : Nat.gcd n1 d1 = 1) (c2 : Nat.gcd n2 d2 = 1) (hn1 : 0 < n1) (hd1 : 0 < d1) (hn2 : 0 < n2) (hd2 : 0 < d2) (hn : n1 * n2 ≤ 1152921504606846976) (hd : d1 * d2 ≤ 1152921504606846976) :
    AC Try.prog 58 [rtV ((n1 : Int), (d1 : Int)), rtV ((n2 : Int), (d2 : Int))] [] [] (fun r _ => r = .tup [rtV (rdc (n1 * n2) (d1 * d2)), .d (.sc (.bool true))]) := by
  have b1 : n1 ≤ n1 * n2 := Nat.le_mul_of_pos_right _ hn2
  have b2 : n2 ≤ n1 * n2 := Nat.le_mul_of_pos_left _ hn1
  have b3 : d1 ≤ d1 * d2 := Nat.le_mul_of_pos_right _ hd2
  have b4 : d2 ≤ d1 * d2 := Nat.le_mul_of_pos_left _ hd1
  have k1 := rReduce_ac n1 d2 hd2 (by omega) (by omega)
  have k2 := rReduce_ac n2 d1 hd1 (by omega) (by omega)
  rw [gcd_prod c1 c2 hd1 hd2]
  have q1 : n1 / Nat.gcd n1 d2 ≤ n1 := Nat.div_le_self _ _
  have q2 : d2 / Nat.gcd n1 d2 ≤ d2 := Nat.div_le_self _ _
  have q3 : n2 / Nat.gcd n2 d1 ≤ n2 := Nat.div_le_self _ _
  have q4 : d1 / Nat.gcd n2 d1 ≤ d1 := Nat.div_le_self _ _
  have p1 := div_gcd_pos (d := d2) hn1
  have p2 := div_gcd_posR (n := n1) hd2
  have p3 := div_gcd_pos (d := d1) hn2
  have p4 := div_gcd_posR (n := n2) hd1
  unfold rdc at k1 k2
  generalize n1 / Nat.gcd n1 d2 = xn at *
  generalize d2 / Nat.gcd n1 d2 = xd at *
  generalize n2 / Nat.gcd n2 d1 = yn at *
  generalize d1 / Nat.gcd n2 d1 = yd at *
  have m1 : xn * yn ≤ 1152921504606846976 := Nat.le_trans (Nat.mul_le_mul q1 q3) hn
  have m2 : xd * yd ≤ 1152921504606846976 := Nat.le_trans (Nat.mul_le_mul q2 q4) (by rw [Nat.mul_comm]; exact hd)
  have e1 : IntKind.i64.wrap (((4611686018427387904 : Nat) : Int).tdiv ((yn : Nat) : Int)) = ((4611686018427387904 / yn : Nat) : Int) := i64_quoN (by omega)
  have e2 : IntKind.i64.wrap (((4611686018427387904 : Nat) : Int).tdiv ((yd : Nat) : Int)) = ((4611686018427387904 / yd : Nat) : Int) := i64_quoN (by omega)
  have l1 : xn ≤ 4611686018427387904 / yn := (Nat.le_div_iff_mul_le p3).2 (by omega)
  have l2 : xd ≤ 4611686018427387904 / yd := (Nat.le_div_iff_mul_le p4).2 (by omega)
  have w1 : AV.d (.sc (.int .i64 (wrp .i64 (((xn : Nat) : Int) * ((yn : Nat) : Int))))) = .d (.sc (.int .i64 ((xn * yn : Nat) : Int))) := by rw [← Int.natCast_mul, wrp_fit (by omega)]
  have w2 : AV.d (.sc (.int .i64 (wrp .i64 (((xd : Nat) : Int) * ((yd : Nat) : Int))))) = .d (.sc (.int .i64 ((xd * yd : Nat) : Int))) := by rw [← Int.natCast_mul, wrp_fit (by omega)]
  clear hn hd b1 b2 b3 b4
  generalize 4611686018427387904 / yn = u1 at *
  generalize 4611686018427387904 / yd = u2 at *
  unfold rtV at *
  dsimp only at k1 k2
  refine AC_enterG Try.tab Try.func58 rfl Try.ntmps58 (rv := [.cell 4 29, .tmp 5]) rfl rfl (by simp) (fun w X G => ?_)
  repeat' (first | ((with_reducible refine gA ?_); (first | refine AW_seq ?_ | refine AW_region ?_ | refine AW_regionD Try.mixed ?_ | refine AW_condT rfl ?_ | (refine AW_cond rfl (fun hc => ?_) (fun hc => ?_) <;> try (exfalso; simp only [cmpL] at hc; omega)) | refine AW_ret ?_ | refine AW_skip ?_)) | ((first | ((with_reducible refine gS ?_); apply Es_q) | ((with_reducible refine gD ?_); apply Ed_q)); rfl; (first | rfl | (refine w_ff ?_; assumption)); (first | (refine LStep_fitAt (T := Try.tab) (Ts := []) 50 ?_ ?_ ?_ w1; exact rfl; exact rfl; exact rfl) | (refine LStep_fitAt (T := Try.tab) (Ts := []) 55 ?_ ?_ ?_ w2; exact rfl; exact rfl; exact rfl))) | (first | ((with_reducible refine gS ?_); refine Es_s (T := Try.tab) rfl rfl rfl rfl ?_) | ((with_reducible refine gD ?_); refine Ed_s (T := Try.tab) rfl rfl rfl rfl ?_)) | ((first | ((with_reducible refine gS ?_); apply Es_q) | ((with_reducible refine gD ?_); apply Ed_q)); rfl; (first | rfl | (refine w_ff ?_; assumption)); (first | refine LStep_call (k1) rfl rfl rfl rfl | refine LStep_call (k2) rfl rfl rfl rfl | (refine LStep_quo rfl rfl rfl ?_ e1 rfl; omega) | (refine LStep_quo rfl rfl rfl ?_ e2 rfl; omega))) | ((first | ((with_reducible refine gS ?_); apply Es_q) | ((with_reducible refine gD ?_); apply Ed_q)); rfl; (first | rfl | (refine w_ff ?_; assumption)); (first | refine LStep_simp (T := Try.tab) rfl rfl | (refine LStep_pickT rfl rfl ?_ rfl rfl; assumption) | (refine LStep_pickF rfl rfl ?_ rfl rfl; assumption) | refine LStep_buildN (T := Try.tab) rfl rfl rfl rfl rfl rfl rfl)) | ((first | refine Es_skip rfl ?_ rfl ?_ | refine Ed_skip rfl ?_ rfl ?_); (first | rfl | (refine w_tf ?_; assumption) | (refine w_ft ?_; assumption))) | ((first | ((with_reducible refine gS ?_); apply Es_xs) | ((with_reducible refine gD ?_); apply Ed_xs)); rfl; rfl; (first | refine LStep_boxN rfl rfl rfl rfl rfl rfl | refine LStep_allocN (T := Try.tab) rfl rfl rfl rfl rfl rfl); rfl) | ((first | ((with_reducible refine gS ?_); apply Es_xn) | ((with_reducible refine gD ?_); apply Ed_xn)); rfl; rfl; (refine LStep_storeN (T := Try.tab) rfl rfl rfl rfl rfl rfl rfl ?_ rfl; (refine Nat.le_of_ble_eq_true ?_; rfl)); rfl) | (refine Ed_split rfl ?_ (fun _ => ?_) (fun _ => ?_); ((fail_if_success (refine und_t ?_; assumption)); (fail_if_success (refine und_f ?_; assumption)); exact trivial)) | (with_reducible refine Es_nil ?_) | ((with_reducible refine Ed_nil ?_ ?_); kernel_rfl) | (with_reducible refine then_n ?_) | (with_reducible refine then_r ?_) | ((with_reducible refine gRG ?_); first | refine retGa rfl ?_ | refine retGb rfl ?_ | refine retGc rfl ?_ | refine retG1 rfl rfl ?_ | refine endG1 rfl rfl ?_))
  all_goals try simp only [cmps] at *
  all_goals first
    | rfl
    | (exfalso; omega)
    | trace_state
def prV (l : List RP) (day : Int) (row : List ByteArray) (b : Bool) : AV := .tup [rtV (if b = true then rdc (prK l day row (row.length - 1)).1 (prK l day row (row.length - 1)).2 else (0, 0)), .d (.sc (.bool b)), .d (.sc (.bool b))]
set_option maxRecDepth 10000 in
set_option maxHeartbeats 8000000 in
theorem product_ac (l : List RP) (row : List ByteArray) (day : Int) (hi : RInv l) (hl : l.length ≤ 4096) (hd : dayOk day = true) (hc : ∀ x ∈ row, curOk x = true) (h1 : 0 < row.length) (h4 : row.length ≤ 4) :
    AC Try.prog 39 [.d (.sl 5 (l.map rEnc)), rowS row, .d (.sc (.int .i64 day))] [] [] (fun r _ => r = prV l day row (okB l day row)) := by
  have hok := @okB_t l day row
  have cg := fun a b => rGet_ac l a b day hi hl
  have hgt : ∀ a b, a ∈ row → b ∈ row → a ≠ b → getR l a b day = (linkR l day a b).map rdI := fun a b ha hb hne => by
    unfold getR
    rw [hc a ha, hc b hb, hd]
    simp only [Bool.and_self, if_true, if_neg hne]
  have hK : ∀ k, okRow l day (row.take (k + 1)) → k < row.length → (0 < (prK l day row k).1 ∧ (prK l day row k).1 ≤ 1048576 ^ k) ∧ (0 < (prK l day row k).2 ∧ (prK l day row k).2 ≤ 1048576 ^ k) := by
    intro k hk hkl
    induction k with
    | zero => exact ⟨⟨Nat.one_pos, Nat.le_refl 1⟩, Nat.one_pos, Nat.le_refl 1⟩
    | succ k ih =>
      obtain ⟨x, hx, _⟩ := drop_at (show k < row.length by omega)
      obtain ⟨y, hy, _⟩ := drop_at hkl
      obtain ⟨n, d, e1, e2, n1, n2, d1, d2⟩ := lkN_of hi (hk k x y (by rw [List.getElem?_take, if_pos (by omega)]; exact hx) (by rw [List.getElem?_take, if_pos (by omega)]; exact hy))
      obtain ⟨⟨i1, i2⟩, i3, i4⟩ := ih (fun j a b ha hb => by
        rw [List.getElem?_take] at ha hb
        split at hb
        · rename_i hj
          rw [if_pos (by omega)] at ha
          exact hk j a b (by rw [List.getElem?_take, if_pos (by omega)]; exact ha) (by rw [List.getElem?_take, if_pos (by omega)]; exact hb)
        · cases hb) (by omega)
      have e : prK l day row (k + 1) = ((prK l day row k).1 * n, (prK l day row k).2 * d) := by
        show ((prK l day row k).1 * (lkN l day (row.getD k ByteArray.empty) (row.getD (k + 1) ByteArray.empty)).1, (prK l day row k).2 * (lkN l day (row.getD k ByteArray.empty) (row.getD (k + 1) ByteArray.empty)).2) = _
        rw [getD_of hx, getD_of hy, e2]
      rw [e]
      exact ⟨⟨Nat.mul_pos i1 n1, by rw [Nat.pow_succ]; exact Nat.mul_le_mul i2 n2⟩, Nat.mul_pos i3 d1, by rw [Nat.pow_succ]; exact Nat.mul_le_mul i4 d2⟩
  have one : rdc 1 1 = (1, 1) := by decide
  unfold rowS rowE
  refine AC_enterG Try.tab Try.func39 rfl Try.ntmps39 (rv := [.cell 6 29, .tmp 7, .tmp 8]) rfl rfl (by simp) (fun w X G => ?_)
  repeat' (first | ((with_reducible refine gA ?_); (first | refine AW_seq ?_ | refine AW_region ?_ | refine AW_block ?_)) | ((with_reducible refine gS ?_); refine Es_s (T := Try.tab) rfl rfl rfl rfl ?_) | (((with_reducible refine gS ?_); apply Es_q); rfl; rfl; refine LStep_buildN (T := Try.tab) rfl rfl rfl rfl rfl rfl rfl) | (refine Es_skip rfl ?_ rfl ?_; (first | rfl | (refine w_tf ?_; assumption) | (refine w_ft ?_; assumption))) | (((with_reducible refine gS ?_); apply Es_xs); rfl; rfl; refine LStep_allocN (T := Try.tab) rfl rfl rfl rfl rfl rfl; rfl) | (((with_reducible refine gS ?_); apply Es_xn); rfl; rfl; (refine LStep_storeN (T := Try.tab) rfl rfl rfl rfl rfl rfl rfl ?_ rfl; (refine Nat.le_of_ble_eq_true ?_; rfl)); rfl) | (with_reducible refine Es_nil ?_) | (with_reducible refine then_n ?_))
  refine AW_forE (S := Nat) (fun k => k < row.length ∧ okRow l day (row.take (k + 1))) (fun k => [(11, .d (.sc (.int .i64 ((k + 1 : Nat) : Int)))), (10, .d (.sc (.bool true)))]) (fun k => [(9, some (.cells [.d (.sc (.int .i64 (rdc (prK l day row k).1 (prK l day row k).2).1)), .d (.sc (.int .i64 (rdc (prK l day row k).1 (prK l day row k).2).2))]))]) (fun k => row.length - k) 0 ⟨h1, fun j a b ha hb => by
      rw [List.getElem?_take] at hb
      split at hb
      · omega
      · cases hb⟩ (by (repeat' (first | exact trivial | exact rfl | (refine ⟨Or.inl rfl, ?_⟩) | (refine ⟨Or.inr rfl, ?_⟩) | (refine ⟨Or.inr trivial, ?_⟩) | (refine ⟨rfl, ?_⟩) | (refine ⟨?_, ?_⟩)))) (by rw [show prK l day row 0 = (1, 1) from rfl, one]; (repeat' (first | exact trivial | exact rfl | (refine ⟨Or.inl rfl, ?_⟩) | (refine ⟨Or.inr rfl, ?_⟩) | (refine ⟨Or.inr trivial, ?_⟩) | (refine ⟨rfl, ?_⟩) | (refine ⟨?_, ?_⟩)))) ?_
  intro k ⟨hk, hp⟩
  obtain ⟨⟨p1, p2⟩, q1, q2⟩ := hK k hp hk
  by_cases hlt : k + 1 < row.length
  · obtain ⟨x, hx, _⟩ := drop_at (l := row) hk
    obtain ⟨y, hy, _⟩ := drop_at hlt
    have hx' : row[((k : Nat) : Int).toNat]? = some x := by rw [Int.toNat_natCast]; exact hx
    have hy' : row[((k + 1 : Nat) : Int).toNat]? = some y := by rw [Int.toNat_natCast]; exact hy
    have hsub : AV.d (.sc (.int .i64 (wrp .i64 (((k + 1 : Nat) : Int) - 1)))) = .d (.sc (.int .i64 ((k : Nat) : Int))) := by rw [wrp_fit (by omega), show (((k + 1 : Nat) : Int) - 1) = (k : Int) by omega]
    have cgk := cg x y
    by_cases hxy : x = y
    · subst hxy
      have hbad : okB l day row = false := by
        cases hq : okB l day row with
        | false => rfl
        | true =>
          have := hok.1 hq k x x hx hy
          rw [hasL_irr hi] at this
          cases this
      have hgx : getR l x x day = some (1, 1) := by
        unfold getR
        rw [hc x (List.mem_of_getElem? hx), hd]
        simp
      rw [hgx, lkV_some] at cgk
      rw [hbad]
      unfold prV rtV
      repeat' (first | ((with_reducible refine gA ?_); (first | refine AW_seq ?_ | refine AW_region ?_ | refine AW_regionD Try.mixed ?_ | refine AW_condT rfl ?_ | (refine AW_cond rfl (fun hc => ?_) (fun hc => ?_) <;> try (exfalso; simp only [cmpL] at hc; omega)) | refine AW_block ?_ | refine AW_ret ?_ | refine AW_skip ?_)) | ((first | ((with_reducible refine gS ?_); apply Es_q) | ((with_reducible refine gD ?_); apply Ed_q)); rfl; rfl; (first | (refine LStep_fitAt (T := Try.tab) (Ts := []) 25 ?_ ?_ ?_ hsub; exact rfl; exact rfl; exact rfl) | (refine LStep_fitAt (T := Try.tab) (Ts := []) 41 ?_ ?_ ?_ hsub; exact rfl; exact rfl; exact rfl))) | (first | ((with_reducible refine gS ?_); refine Es_s (T := Try.tab) rfl rfl rfl rfl ?_) | ((with_reducible refine gD ?_); refine Ed_s (T := Try.tab) rfl rfl rfl rfl ?_)) | ((first | ((with_reducible refine gS ?_); apply Es_q) | ((with_reducible refine gD ?_); apply Ed_q)); rfl; rfl; refine LStep_call (cgk) rfl rfl rfl rfl) | ((first | ((with_reducible refine gS ?_); apply Es_q) | ((with_reducible refine gD ?_); apply Ed_q)); rfl; rfl; (first | refine LStep_simp (T := Try.tab) rfl rfl | refine LStep_lenM (T := Try.tab) rfl rfl rfl rfl | (refine LStep_indexM (T := Try.tab) (c := ?_) rfl rfl rfl rfl rfl rfl ?_; rotate_left; assumption) | refine LStep_buildN (T := Try.tab) rfl rfl rfl rfl rfl rfl rfl)) | ((first | refine Es_skip rfl ?_ rfl ?_ | refine Ed_skip rfl ?_ rfl ?_); (first | rfl | (refine w_tf ?_; assumption) | (refine w_ft ?_; assumption))) | ((first | ((with_reducible refine gS ?_); apply Es_xs) | ((with_reducible refine gD ?_); apply Ed_xs)); rfl; rfl; refine LStep_allocN (T := Try.tab) rfl rfl rfl rfl rfl rfl; rfl) | ((first | ((with_reducible refine gS ?_); apply Es_xn) | ((with_reducible refine gD ?_); apply Ed_xn)); rfl; rfl; (refine LStep_storeN (T := Try.tab) rfl rfl rfl rfl rfl rfl rfl ?_ rfl; (refine Nat.le_of_ble_eq_true ?_; rfl)); rfl) | (with_reducible refine Es_nil ?_) | ((with_reducible refine Ed_nil ?_ ?_); kernel_rfl) | (with_reducible refine then_n ?_) | (with_reducible refine then_r ?_) | (with_reducible refine block_r ?_) | ((with_reducible refine gRG ?_); first | refine retGa rfl ?_ | refine retGb rfl ?_ | refine retGc rfl ?_ | refine retG1 rfl rfl ?_ | refine endG1 rfl rfl ?_))
      all_goals try simp only [cmps] at *
      all_goals first
        | rfl
        | (exfalso; omega)
        | (exfalso; contradiction)
        | trace_state
    · rw [hgt x y (List.mem_of_getElem? hx) (List.mem_of_getElem? hy) hxy] at cgk
      cases hlk : linkR l day x y with
      | none =>
        have hbad : okB l day row = false := by
          cases hq : okB l day row with
          | false => rfl
          | true =>
            have := hok.1 hq k x y hx hy
            unfold hasL at this
            rw [hlk] at this
            cases this
        rw [hlk, Option.map_none, lkV_none] at cgk
        rw [hbad]
        unfold prV rtV
        repeat' (first | ((with_reducible refine gA ?_); (first | refine AW_seq ?_ | refine AW_region ?_ | refine AW_regionD Try.mixed ?_ | refine AW_condT rfl ?_ | (refine AW_cond rfl (fun hc => ?_) (fun hc => ?_) <;> try (exfalso; simp only [cmpL] at hc; omega)) | refine AW_block ?_ | refine AW_ret ?_ | refine AW_skip ?_)) | ((first | ((with_reducible refine gS ?_); apply Es_q) | ((with_reducible refine gD ?_); apply Ed_q)); rfl; rfl; (refine LStep_fitAt (T := Try.tab) (Ts := []) 25 ?_ ?_ ?_ hsub; exact rfl; exact rfl; exact rfl)) | (first | ((with_reducible refine gS ?_); refine Es_s (T := Try.tab) rfl rfl rfl rfl ?_) | ((with_reducible refine gD ?_); refine Ed_s (T := Try.tab) rfl rfl rfl rfl ?_)) | ((first | ((with_reducible refine gS ?_); apply Es_q) | ((with_reducible refine gD ?_); apply Ed_q)); rfl; rfl; refine LStep_call (cgk) rfl rfl rfl rfl) | ((first | ((with_reducible refine gS ?_); apply Es_q) | ((with_reducible refine gD ?_); apply Ed_q)); rfl; rfl; (first | refine LStep_lenM (T := Try.tab) rfl rfl rfl rfl | (refine LStep_indexM (T := Try.tab) (c := ?_) rfl rfl rfl rfl rfl rfl ?_; rotate_left; assumption) | refine LStep_buildN (T := Try.tab) rfl rfl rfl rfl rfl rfl rfl)) | (refine Ed_skip rfl ?_ rfl ?_; (first | rfl | (refine w_tf ?_; assumption) | (refine w_ft ?_; assumption))) | ((first | ((with_reducible refine gS ?_); apply Es_xs) | ((with_reducible refine gD ?_); apply Ed_xs)); rfl; rfl; refine LStep_allocN (T := Try.tab) rfl rfl rfl rfl rfl rfl; rfl) | ((first | ((with_reducible refine gS ?_); apply Es_xn) | ((with_reducible refine gD ?_); apply Ed_xn)); rfl; rfl; (refine LStep_storeN (T := Try.tab) rfl rfl rfl rfl rfl rfl rfl ?_ rfl; (refine Nat.le_of_ble_eq_true ?_; rfl)); rfl) | (with_reducible refine Es_nil ?_) | ((with_reducible refine Ed_nil ?_ ?_); kernel_rfl) | (with_reducible refine then_n ?_) | (with_reducible refine then_r ?_) | (with_reducible refine block_r ?_) | ((with_reducible refine gRG ?_); first | refine retGa rfl ?_ | refine retGb rfl ?_ | refine retGc rfl ?_ | refine retG1 rfl rfl ?_ | refine endG1 rfl rfl ?_))
        all_goals try simp only [cmps] at *
        all_goals first
          | rfl
          | (exfalso; omega)
          | (exfalso; contradiction)
          | trace_state
      | some z =>
        have hh : hasL l day x y = true := by unfold hasL; rw [hlk]; rfl
        obtain ⟨n, d, e1, e2, n1, n2, d1, d2⟩ := lkN_of hi hh
        rw [e1, Option.map_some, lkV_some, show rdI ((n : Int), (d : Int)) = rdc n d from rfl] at cgk
        have hp' : okRow l day (row.take (k + 1 + 1)) := fun j a b ha hb => by
          rw [List.getElem?_take] at ha hb
          split at hb
          · rename_i hj
            rw [if_pos (by omega)] at ha
            by_cases hjk : j = k
            · subst hjk
              rw [hx] at ha
              rw [hy] at hb
              cases ha
              cases hb
              exact hh
            · exact hp j a b (by rw [List.getElem?_take, if_pos (by omega)]; exact ha) (by rw [List.getElem?_take, if_pos (by omega)]; exact hb)
          · cases hb
        have e : prK l day row (k + 1) = ((prK l day row k).1 * n, (prK l day row k).2 * d) := by
          show ((prK l day row k).1 * (lkN l day (row.getD k ByteArray.empty) (row.getD (k + 1) ByteArray.empty)).1, (prK l day row k).2 * (lkN l day (row.getD k ByteArray.empty) (row.getD (k + 1) ByteArray.empty)).2) = _
          rw [getD_of hx, getD_of hy, e2]
        have hb := hK (k + 1) hp' hlt
        rw [e] at hb
        dsimp only at hb
        have hpw : 1048576 ^ (k + 1) ≤ 1152921504606846976 := by
          have : (1048576 : Nat) ^ (k + 1) ≤ 1048576 ^ 3 := Nat.pow_le_pow_right (by decide) (by omega)
          exact Nat.le_trans this (by decide)
        generalize hpn : prK l day row (k + 1) = pn at *
        generalize prK l day row k = pk at *
        obtain ⟨a, b⟩ := pk
        dsimp only at *
        have t1 : a / Nat.gcd a b * (n / Nat.gcd n d) ≤ a * n := Nat.mul_le_mul (Nat.div_le_self _ _) (Nat.div_le_self _ _)
        have t2 : b / Nat.gcd a b * (d / Nat.gcd n d) ≤ b * d := Nat.mul_le_mul (Nat.div_le_self _ _) (Nat.div_le_self _ _)
        have ct := rTimes_ac (a / Nat.gcd a b) (b / Nat.gcd a b) (n / Nat.gcd n d) (d / Nat.gcd n d) (copr p1) (copr n1) (div_gcd_pos p1) (div_gcd_posR q1) (div_gcd_pos n1) (div_gcd_posR d1) (by omega) (by omega)
        rw [rdc_mul p1 n1] at ct
        have hnx : rdc pn.1 pn.2 = rdc (a * n) (b * d) := by rw [e]
        unfold rdc at cgk
        unfold rtV at ct
        dsimp only at ct cgk
        have hab : rdc a b = (((a / Nat.gcd a b : Nat) : Int), ((b / Nat.gcd a b : Nat) : Int)) := rfl
        rw [hab]
        dsimp only
        clear hb t1 t2 p2 q2 hpw
        generalize rdc (a * n) (b * d) = R at *
        obtain ⟨R1, R2⟩ := R
        generalize a / Nat.gcd a b = a' at *
        generalize b / Nat.gcd a b = b' at *
        generalize n / Nat.gcd n d = n' at *
        generalize d / Nat.gcd n d = d' at *
        dsimp only at *
        repeat' (first | ((with_reducible refine gA ?_); (first | refine AW_seq ?_ | refine AW_region ?_ | refine AW_regionD Try.mixed ?_ | refine AW_condT rfl ?_ | (refine AW_cond rfl (fun hc => ?_) (fun hc => ?_) <;> try (exfalso; simp only [cmpL] at hc; omega)) | refine AW_block ?_ | refine AW_ret ?_ | refine AW_skip ?_)) | ((first | ((with_reducible refine gS ?_); apply Es_q) | ((with_reducible refine gD ?_); apply Ed_q)); rfl; rfl; (first | (refine LStep_fitAt (T := Try.tab) (Ts := []) 25 ?_ ?_ ?_ hsub; exact rfl; exact rfl; exact rfl) | (refine LStep_fitAt (T := Try.tab) (Ts := []) 41 ?_ ?_ ?_ hsub; exact rfl; exact rfl; exact rfl))) | (first | ((with_reducible refine gS ?_); refine Es_s (T := Try.tab) rfl rfl rfl rfl ?_) | ((with_reducible refine gD ?_); refine Ed_s (T := Try.tab) rfl rfl rfl rfl ?_)) | ((first | ((with_reducible refine gS ?_); apply Es_q) | ((with_reducible refine gD ?_); apply Ed_q)); rfl; rfl; (first | refine LStep_call (cgk) rfl rfl rfl rfl | refine LStep_call (ct) rfl rfl rfl rfl)) | ((first | ((with_reducible refine gS ?_); apply Es_q) | ((with_reducible refine gD ?_); apply Ed_q)); rfl; rfl; (first | refine LStep_simp (T := Try.tab) rfl rfl | refine LStep_lenM (T := Try.tab) rfl rfl rfl rfl | (refine LStep_add rfl rfl rfl rfl ?_; (refine IntWalk.i64_in _ ?_; first | omega | (simp only [cmps] at *; omega))) | (refine LStep_indexM (T := Try.tab) (c := ?_) rfl rfl rfl rfl rfl rfl ?_; rotate_left; assumption) | refine LStep_buildN (T := Try.tab) rfl rfl rfl rfl rfl rfl rfl)) | (refine Ed_skip rfl ?_ rfl ?_; (first | rfl | (refine w_tf ?_; assumption) | (refine w_ft ?_; assumption))) | ((first | ((with_reducible refine gS ?_); apply Es_xs) | ((with_reducible refine gD ?_); apply Ed_xs)); rfl; rfl; refine LStep_allocN (T := Try.tab) rfl rfl rfl rfl rfl rfl; rfl) | ((first | ((with_reducible refine gS ?_); apply Es_xn) | ((with_reducible refine gD ?_); apply Ed_xn)); rfl; rfl; (refine LStep_storeN (T := Try.tab) rfl rfl rfl rfl rfl rfl rfl ?_ rfl; (refine Nat.le_of_ble_eq_true ?_; rfl)); rfl) | (with_reducible refine Es_nil ?_) | ((with_reducible refine Ed_nil ?_ ?_); kernel_rfl) | (with_reducible refine then_n ?_) | (with_reducible refine then_r ?_) | (with_reducible refine block_n ?_) | (with_reducible refine block_r ?_) | ((with_reducible refine gRG ?_); first | refine retGa rfl ?_ | refine retGb rfl ?_ | refine retGc rfl ?_ | refine retG1 rfl rfl ?_ | refine endG1 rfl rfl ?_))
        all_goals try simp only [cmps] at *
        all_goals first
          | (exfalso; omega)
          | (exfalso; contradiction)
          | (refine ⟨k + 1, ⟨hlt, hp'⟩, by omega, by (repeat' (first | exact trivial | exact rfl | (refine ⟨Or.inl rfl, ?_⟩) | (refine ⟨Or.inr rfl, ?_⟩) | (refine ⟨Or.inr trivial, ?_⟩) | (refine ⟨rfl, ?_⟩) | (refine ⟨?_, ?_⟩))), by (repeat' (first | exact trivial | exact rfl | (refine ⟨Or.inl rfl, ?_⟩) | (refine ⟨Or.inr rfl, ?_⟩) | (refine ⟨Or.inr trivial, ?_⟩) | (refine ⟨rfl, ?_⟩) | (refine ⟨?_, ?_⟩))), ?_, by (repeat' (first | exact trivial | exact rfl | (refine ⟨Or.inl rfl, ?_⟩) | (refine ⟨Or.inr rfl, ?_⟩) | (refine ⟨Or.inr trivial, ?_⟩) | (refine ⟨rfl, ?_⟩) | (refine ⟨?_, ?_⟩)))⟩; (try dsimp only); rw [hpn, hnx]; (repeat' (first | exact trivial | exact rfl | (refine ⟨Or.inl rfl, ?_⟩) | (refine ⟨Or.inr rfl, ?_⟩) | (refine ⟨Or.inr trivial, ?_⟩) | (refine ⟨rfl, ?_⟩) | (refine ⟨?_, ?_⟩))); done)
          | trace_state
  · have hkr : k = row.length - 1 := by omega
    have hall : row.take (k + 1) = row := List.take_of_length_le (by omega)
    rw [hall] at hp
    rw [hok.2 hp]
    unfold prV rtV
    rw [if_pos rfl, ← hkr]
    repeat' (first | ((with_reducible refine gA ?_); (first | refine AW_seq ?_ | refine AW_region ?_ | (refine AW_cond rfl (fun hc => ?_) (fun hc => ?_) <;> try (exfalso; simp only [cmpL] at hc; omega)) | refine AW_ret ?_ | refine AW_exit ?_)) | ((with_reducible refine gS ?_); refine Es_s (T := Try.tab) rfl rfl rfl rfl ?_) | (((with_reducible refine gS ?_); apply Es_q); rfl; rfl; refine LStep_lenM (T := Try.tab) rfl rfl rfl rfl) | (((with_reducible refine gS ?_); apply Es_xn); rfl; rfl; (refine LStep_storeN (T := Try.tab) rfl rfl rfl rfl rfl rfl rfl ?_ rfl; (refine Nat.le_of_ble_eq_true ?_; rfl)); rfl) | (with_reducible refine Es_nil ?_) | (with_reducible refine then_n ?_) | (with_reducible refine then_e ?_) | ((with_reducible refine block_e ?_ ?_); rfl) | ((with_reducible refine gRG ?_); first | refine retGa rfl ?_ | refine retGb rfl ?_ | refine retGc rfl ?_ | refine retG1 rfl rfl ?_ | refine endG1 rfl rfl ?_))
    all_goals try simp only [cmps] at *
    all_goals first
      | rfl
      | (exfalso; omega)
      | trace_state
end Go.Proofs.Ytnalpielhpmnfaa
