import Derived.Test.YtofdnkgieigncaaRG
namespace Go.Proofs.Ytofdnkgieigncaa
open Go.SL
/-! ### cross, Cross -/
def lkN (l : List RP) (day : Int) (a b : ByteArray) : Nat × Nat := match linkR l day a b with
  | some x => (x.1.toNat, x.2.toNat)
  | none => (0, 0)
/-- the product of the first k rates along a row -/
def prK (l : List RP) (day : Int) (row : List ByteArray) : Nat → Nat × Nat
  | 0 => (1, 1)
  | k + 1 => ((prK l day row k).1 * (lkN l day (row.getD k ByteArray.empty) (row.getD (k + 1) ByteArray.empty)).1, (prK l day row k).2 * (lkN l day (row.getD k ByteArray.empty) (row.getD (k + 1) ByteArray.empty)).2)
def okRow (l : List RP) (day : Int) (row : List ByteArray) : Prop := ∀ (k : Nat) (a b : ByteArray), row[k]? = some a → row[k + 1]? = some b → hasL l day a b = true
theorem lkN_of {l : List RP} (h : RInv l) {day : Int} {a b : ByteArray} (e : hasL l day a b = true) : ∃ n d : Nat, linkR l day a b = some ((n : Int), (d : Int)) ∧ lkN l day a b = (n, d) ∧ 0 < n ∧ n ≤ 1048576 ∧ 0 < d ∧ d ≤ 1048576 := by
  unfold hasL at e
  cases hx : linkR l day a b with
  | none => rw [hx] at e; cases e
  | some x =>
    obtain ⟨n, d, rfl, h1⟩ := linkR_in h hx
    refine ⟨n, d, rfl, ?_, h1⟩
    unfold lkN
    rw [hx]
    rfl
theorem getD_of {row : List ByteArray} {k : Nat} {a : ByteArray} (h : row[k]? = some a) : row.getD k ByteArray.empty = a := by rw [List.getD_eq_getElem?_getD, h]; rfl
theorem prK_in {l : List RP} (h : RInv l) {day : Int} {row : List ByteArray} (ho : okRow l day row) : ∀ k, k < row.length → (0 < (prK l day row k).1 ∧ (prK l day row k).1 ≤ 1048576 ^ k) ∧ (0 < (prK l day row k).2 ∧ (prK l day row k).2 ≤ 1048576 ^ k)
  | 0, _ => by simp [prK]
  | k + 1, hk => by
    obtain ⟨⟨a1, a2⟩, b1, b2⟩ := prK_in h ho k (by omega)
    obtain ⟨a, ha, _⟩ := drop_at (l := row) (show k < row.length by omega)
    obtain ⟨b, hb, _⟩ := drop_at (l := row) hk
    obtain ⟨n, d, _, e2, n1, n2, d1, d2⟩ := lkN_of h (ho k a b ha hb)
    have e : prK l day row (k + 1) = ((prK l day row k).1 * n, (prK l day row k).2 * d) := by
      show ((prK l day row k).1 * (lkN l day (row.getD k ByteArray.empty) (row.getD (k + 1) ByteArray.empty)).1, (prK l day row k).2 * (lkN l day (row.getD k ByteArray.empty) (row.getD (k + 1) ByteArray.empty)).2) = _
      rw [getD_of ha, getD_of hb, e2]
    rw [e]
    refine ⟨⟨Nat.mul_pos a1 n1, ?_⟩, Nat.mul_pos b1 d1, ?_⟩
    · rw [Nat.pow_succ]; exact Nat.mul_le_mul a2 n2
    · rw [Nat.pow_succ]; exact Nat.mul_le_mul b2 d2
theorem okRow2 {l : List RP} {day : Int} {a b : ByteArray} (h : hasL l day a b = true) : okRow l day [a, b] := by
  intro k x y hx hy
  match k with
  | 0 => cases hx; cases hy; exact h
  | k + 1 => cases hy
theorem okRow_cons {l : List RP} {day : Int} {a b : ByteArray} {r : List ByteArray} (h : hasL l day a b = true) (hr : okRow l day (b :: r)) : okRow l day (a :: b :: r) := by
  intro k x y hx hy
  match k with
  | 0 => cases hx; cases hy; exact h
  | k + 1 => exact hr k x y hx hy
theorem rowP_ok (l : List RP) (day : Int) (f t : ByteArray) : okRow l day (rowP l day f t) ∧ (rowP l day f t).length ≤ 4 := by
  unfold rowP
  split
  · exact ⟨fun k x y hx hy => (by cases hy), by simp⟩
  · split
    · rename_i h
      exact ⟨okRow2 h, by simp⟩
    · split
      · rename_i a ha
        have h1 := List.mem_of_find?_eq_some ha
        have h2 := List.find?_some ha
        rw [mem_nb] at h1
        exact ⟨okRow_cons h1 (okRow2 h2), by simp⟩
      · split
        · rename_i r hr
          obtain ⟨a, ha, hg⟩ := List.exists_of_findSome?_eq_some hr
          rw [Option.map_eq_some_iff] at hg
          obtain ⟨b, hb, rfl⟩ := hg
          have h1 := List.mem_of_find?_eq_some hb
          have h2 := List.find?_some hb
          rw [mem_nb] at h1 ha
          simp only [Bool.and_eq_true] at h2
          exact ⟨okRow_cons ha (okRow_cons h1 (okRow2 h2.2)), by simp⟩
        · exact ⟨fun k x y hx hy => (by cases hy), by simp⟩
def crossR (l : List RP) (f t : ByteArray) (day : Int) : Option ((Int × Int) × List ByteArray) :=
  if (curOk f && curOk t) = true then match rowP l day f t with
    | [] => none
    | a :: r => some (rdc (prK l day (a :: r) r.length).1 (prK l day (a :: r) r.length).2, a :: r)
  else none
def crV (x : Option ((Int × Int) × List ByteArray)) : AV := .tup [rtV (match x with | some y => y.1 | none => (0, 0)), rowS (match x with | some y => y.2 | none => []), .d (.sc (.bool x.isSome))]
theorem crV_some (x : Int × Int) (r : List ByteArray) : crV (some (x, r)) = .tup [.agg [.d (.sc (.int .i64 x.1)), .d (.sc (.int .i64 x.2))], .d (.sl 1 (r.map sN)), .d (.sc (.bool true))] := rfl
theorem crV_none : crV none = .tup [.agg [.d (.sc (.int .i64 0)), .d (.sc (.int .i64 0))], .d (.sl 1 []), .d (.sc (.bool false))] := rfl
set_option maxRecDepth 10000 in
set_option maxHeartbeats 8000000 in
theorem cross_ac (l : List RP) (day : Int) (f t : ByteArray) (hl : l.length ≤ 4096) (hi : RInv l) : AC Try.prog 31 [.agg [.mp 1000, .mp 1001], .d (.sc (.string f)), .d (.sc (.string t))] (hCh l day) [1000, 1001]
    (fun r h' => r = crV (crossR l f t day) ∧ SubH (hCh l day) h') := by
  have c1 := risCur_ac f
  have c2 := risCur_ac t
  have cr := row_ac l day f t hl
  have ct := fun a b => rate_ac l day a b
  obtain ⟨ho, h4⟩ := rowP_ok l day f t
  unfold crossR
  by_cases hok : (curOk f && curOk t) = true
  · rw [if_pos hok]
    have hok' := hok
    simp only [Bool.and_eq_true] at hok'
    obtain ⟨h1, h2⟩ := hok'
    rw [h1] at c1
    rw [h2] at c2
    clear hok h1 h2
    unfold rowS rowE at cr
    generalize rowP l day f t = row at *
    cases row with
    | nil =>
      dsimp only
      rw [crV_none]
      unfold hCh at *
      refine AC_enterG Try.tab Try.func31 rfl Try.ntmps31 (rv := [.cell 6 30, .tmp 7, .tmp 8]) rfl rfl (by simp) (fun w X G => ?_)
      repeat' (first | ((with_reducible refine gRc ?_); refine AW_nilD 1 7 rfl ?_) | ((with_reducible refine gA ?_); (first | refine AW_seq ?_ | refine AW_region ?_ | refine AW_condF rfl ?_ | (refine AW_cond rfl (fun hc => ?_) (fun hc => ?_) <;> try (exfalso; simp only [cmpL] at hc; omega)) | refine AW_ret ?_ | refine AW_skip ?_)) | ((with_reducible refine gS ?_); refine Es_s (T := Try.tab) rfl rfl rfl rfl ?_) | (((with_reducible refine gS ?_); apply Es_q); rfl; rfl; (first | refine LStep_call (c1) rfl rfl rfl rfl | refine LStep_call (c2) rfl rfl rfl rfl)) | (((with_reducible refine gS ?_); apply Es_xg); rfl; rfl; refine LStep_callHN [(1000, 1000), (1001, 1001)] [] cr rfl rfl ⟨rfl, rfl, trivial⟩ rfl ⟨trivial, trivial, trivial⟩ rfl rfl; rfl) | (((with_reducible refine gS ?_); apply Es_q); rfl; rfl; (first | refine LStep_simp (T := Try.tab) rfl rfl | refine LStep_lenM (T := Try.tab) rfl rfl rfl rfl | refine LStep_buildN (T := Try.tab) rfl rfl rfl rfl rfl rfl rfl)) | (refine Es_skip rfl ?_ rfl ?_; (first | rfl | (refine w_tf ?_; assumption) | (refine w_ft ?_; assumption))) | (((with_reducible refine gS ?_); apply Es_xs); rfl; rfl; (first | refine LStep_boxN rfl rfl rfl rfl rfl rfl | refine LStep_allocN (T := Try.tab) rfl rfl rfl rfl rfl rfl); rfl) | (((with_reducible refine gS ?_); apply Es_xn); rfl; rfl; (refine LStep_storeN (T := Try.tab) rfl rfl rfl rfl rfl rfl rfl ?_ rfl; (refine Nat.le_of_ble_eq_true ?_; rfl)); rfl) | (with_reducible refine Es_nil ?_) | (with_reducible refine then_n ?_) | (with_reducible refine then_r ?_) | ((with_reducible refine gRG ?_); first | refine retGa rfl ?_ | refine retGb rfl ?_ | refine retGc rfl ?_ | refine retG1 rfl rfl ?_ | refine endG1 rfl rfl ?_))
      all_goals simp only [cmps] at *
      all_goals first
        | (exfalso; omega)
        | exact ⟨rfl, by (repeat' (first | exact trivial | exact rfl | (refine ⟨Or.inl rfl, ?_⟩) | (refine ⟨Or.inr rfl, ?_⟩) | (refine ⟨Or.inr trivial, ?_⟩) | (refine ⟨rfl, ?_⟩) | (refine ⟨?_, ?_⟩)))⟩
        | exact ⟨trivial, by (repeat' (first | exact trivial | exact rfl | (refine ⟨Or.inl rfl, ?_⟩) | (refine ⟨Or.inr rfl, ?_⟩) | (refine ⟨Or.inr trivial, ?_⟩) | (refine ⟨rfl, ?_⟩) | (refine ⟨?_, ?_⟩)))⟩
        | trace_state
    | cons a r =>
      have hK := prK_in hi ho
      dsimp only
      rw [crV_some]
      generalize hrow : a :: r = row at *
      have hrl : row.length = r.length + 1 := by rw [← hrow]; rfl
      unfold hCh at *
      refine AC_enterG Try.tab Try.func31 rfl Try.ntmps31 (rv := [.cell 6 30, .tmp 7, .tmp 8]) rfl rfl (by simp) (fun w X G => ?_)
      repeat' (first | ((with_reducible refine gA ?_); (first | refine AW_seq ?_ | refine AW_region ?_ | refine AW_condF rfl ?_ | (refine AW_cond rfl (fun hc => ?_) (fun hc => ?_) <;> try (exfalso; simp only [cmpL] at hc; omega)) | refine AW_block ?_ | refine AW_skip ?_)) | ((with_reducible refine gS ?_); refine Es_s (T := Try.tab) rfl rfl rfl rfl ?_) | (((with_reducible refine gS ?_); apply Es_q); rfl; rfl; (first | refine LStep_call (c1) rfl rfl rfl rfl | refine LStep_call (c2) rfl rfl rfl rfl)) | (((with_reducible refine gS ?_); apply Es_xg); rfl; rfl; refine LStep_callHN [(1000, 1000), (1001, 1001)] [] cr rfl rfl ⟨rfl, rfl, trivial⟩ rfl ⟨trivial, trivial, trivial⟩ rfl rfl; rfl) | (((with_reducible refine gS ?_); apply Es_q); rfl; rfl; (first | refine LStep_simp (T := Try.tab) rfl rfl | refine LStep_lenM (T := Try.tab) rfl rfl rfl rfl | refine LStep_buildN (T := Try.tab) rfl rfl rfl rfl rfl rfl rfl)) | (refine Es_skip rfl ?_ rfl ?_; (first | rfl | (refine w_tf ?_; assumption) | (refine w_ft ?_; assumption))) | (((with_reducible refine gS ?_); apply Es_xs); rfl; rfl; (first | refine LStep_boxN rfl rfl rfl rfl rfl rfl | refine LStep_allocN (T := Try.tab) rfl rfl rfl rfl rfl rfl); rfl) | (((with_reducible refine gS ?_); apply Es_xn); rfl; rfl; (refine LStep_storeN (T := Try.tab) rfl rfl rfl rfl rfl rfl rfl ?_ rfl; (refine Nat.le_of_ble_eq_true ?_; rfl)); rfl) | (with_reducible refine Es_nil ?_) | (with_reducible refine then_n ?_))
      refine AW_forE (S := Nat) (fun k => k < row.length) (fun k => [(11, .d (.sc (.int .i64 ((k + 1 : Nat) : Int))))]) (fun k => [(10, some (.cells [.d (.sc (.int .i64 ((prK l day row k).1 : Nat))), .d (.sc (.int .i64 ((prK l day row k).2 : Nat)))]))]) (fun k => row.length - k) 0 (by omega) (by (repeat' (first | exact trivial | exact rfl | (refine ⟨Or.inl rfl, ?_⟩) | (refine ⟨Or.inr rfl, ?_⟩) | (refine ⟨Or.inr trivial, ?_⟩) | (refine ⟨rfl, ?_⟩) | (refine ⟨?_, ?_⟩)))) (by (repeat' (first | exact trivial | exact rfl | (refine ⟨Or.inl rfl, ?_⟩) | (refine ⟨Or.inr rfl, ?_⟩) | (refine ⟨Or.inr trivial, ?_⟩) | (refine ⟨rfl, ?_⟩) | (refine ⟨?_, ?_⟩)))) ?_
      intro k hk
      obtain ⟨⟨p1, p2⟩, q1, q2⟩ := hK k hk
      by_cases hlt : k + 1 < row.length
      · obtain ⟨x, hx, _⟩ := drop_at (l := row) hk
        obtain ⟨y, hy, _⟩ := drop_at hlt
        obtain ⟨n, d, e1, e2, n1, n2, d1, d2⟩ := lkN_of hi (ho k x y hx hy)
        have ctk := ct x y
        rw [e1, lkV_some] at ctk
        dsimp only at ctk
        have e : prK l day row (k + 1) = ((prK l day row k).1 * n, (prK l day row k).2 * d) := by
          show ((prK l day row k).1 * (lkN l day (row.getD k ByteArray.empty) (row.getD (k + 1) ByteArray.empty)).1, (prK l day row k).2 * (lkN l day (row.getD k ByteArray.empty) (row.getD (k + 1) ByteArray.empty)).2) = _
          rw [getD_of hx, getD_of hy, e2]
        have hb := hK (k + 1) hlt
        rw [e] at hb
        dsimp only at hb
        have hpw : 1048576 ^ (k + 1) ≤ 1152921504606846976 := by
          have : (1048576 : Nat) ^ (k + 1) ≤ 1048576 ^ 3 := Nat.pow_le_pow_right (by decide) (by omega)
          exact Nat.le_trans this (by decide)
        have m1 : AV.d (.sc (.int .i64 (wrp .i64 (((prK l day row k).1 : Nat) * (n : Int))))) = .d (.sc (.int .i64 (((prK l day row k).1 * n : Nat) : Int))) := by
          rw [← Int.natCast_mul, wrp_fit (by omega)]
        have m2 : AV.d (.sc (.int .i64 (wrp .i64 (((prK l day row k).2 : Nat) * (d : Int))))) = .d (.sc (.int .i64 (((prK l day row k).2 * d : Nat) : Int))) := by
          rw [← Int.natCast_mul, wrp_fit (by omega)]
        have hsub : AV.d (.sc (.int .i64 (wrp .i64 (((k + 1 : Nat) : Int) - 1)))) = .d (.sc (.int .i64 ((k : Nat) : Int))) := by rw [wrp_fit (by omega), show (((k + 1 : Nat) : Int) - 1) = (k : Int) by omega]
        have hx' : row[((k : Nat) : Int).toNat]? = some x := by rw [Int.toNat_natCast]; exact hx
        have hy' : row[((k + 1 : Nat) : Int).toNat]? = some y := by rw [Int.toNat_natCast]; exact hy
        generalize hpn : prK l day row (k + 1) = pn at *
        generalize prK l day row k = pk at *
        subst e
        repeat' (first | ((with_reducible refine gA ?_); (first | refine AW_seq ?_ | refine AW_region ?_ | refine AW_regionD Try.mixed ?_ | (refine AW_cond rfl (fun hc => ?_) (fun hc => ?_) <;> try (exfalso; simp only [cmpL] at hc; omega)) | refine AW_block ?_ | refine AW_skip ?_)) | ((first | ((with_reducible refine gS ?_); apply Es_q) | ((with_reducible refine gD ?_); apply Ed_q)); rfl; rfl; (first | (refine LStep_fitAt (T := Try.tab) (Ts := []) 43 ?_ ?_ ?_ hsub; exact rfl; exact rfl; exact rfl) | (refine LStep_fitAt (T := Try.tab) (Ts := []) 57 ?_ ?_ ?_ m1; exact rfl; exact rfl; exact rfl) | (refine LStep_fitAt (T := Try.tab) (Ts := []) 63 ?_ ?_ ?_ m2; exact rfl; exact rfl; exact rfl))) | (first | ((with_reducible refine gS ?_); refine Es_s (T := Try.tab) rfl rfl rfl rfl ?_) | ((with_reducible refine gD ?_); refine Ed_s (T := Try.tab) rfl rfl rfl rfl ?_)) | ((first | ((with_reducible refine gS ?_); apply Es_xg) | ((with_reducible refine gD ?_); apply Ed_xg)); rfl; rfl; refine LStep_callHN [(1000, 1000), (1001, 1001)] [] ctk rfl rfl ⟨rfl, rfl, trivial⟩ rfl ⟨trivial, trivial, trivial⟩ rfl rfl; rfl) | ((first | ((with_reducible refine gS ?_); apply Es_q) | ((with_reducible refine gD ?_); apply Ed_q)); rfl; rfl; (first | refine LStep_lenM (T := Try.tab) rfl rfl rfl rfl | (refine LStep_add rfl rfl rfl rfl ?_; (refine IntWalk.i64_in _ ?_; first | omega | (simp only [cmps] at *; omega))) | (refine LStep_indexM (T := Try.tab) (c := ?_) rfl rfl rfl rfl rfl rfl ?_; rotate_left; assumption))) | (refine Ed_skip rfl ?_ rfl ?_; (first | rfl | (refine w_tf ?_; assumption) | (refine w_ft ?_; assumption))) | ((first | ((with_reducible refine gS ?_); apply Es_xs) | ((with_reducible refine gD ?_); apply Ed_xs)); rfl; rfl; refine LStep_allocN (T := Try.tab) rfl rfl rfl rfl rfl rfl; rfl) | ((first | ((with_reducible refine gS ?_); apply Es_xn) | ((with_reducible refine gD ?_); apply Ed_xn)); rfl; rfl; (refine LStep_storeN (T := Try.tab) rfl rfl rfl rfl rfl rfl rfl ?_ rfl; (refine Nat.le_of_ble_eq_true ?_; rfl)); rfl) | (with_reducible refine Es_nil ?_) | ((with_reducible refine Ed_nil ?_ ?_); kernel_rfl) | (with_reducible refine then_n ?_) | (with_reducible refine block_n ?_))
        all_goals simp only [cmps] at *
        all_goals first
          | (exfalso; omega)
          | (refine ⟨k + 1, hlt, by omega, by (repeat' (first | exact trivial | exact rfl | (refine ⟨Or.inl rfl, ?_⟩) | (refine ⟨Or.inr rfl, ?_⟩) | (refine ⟨Or.inr trivial, ?_⟩) | (refine ⟨rfl, ?_⟩) | (refine ⟨?_, ?_⟩))), by (repeat' (first | exact trivial | exact rfl | (refine ⟨Or.inl rfl, ?_⟩) | (refine ⟨Or.inr rfl, ?_⟩) | (refine ⟨Or.inr trivial, ?_⟩) | (refine ⟨rfl, ?_⟩) | (refine ⟨?_, ?_⟩))), ?_, by (repeat' (first | exact trivial | exact rfl | (refine ⟨Or.inl rfl, ?_⟩) | (refine ⟨Or.inr rfl, ?_⟩) | (refine ⟨Or.inr trivial, ?_⟩) | (refine ⟨rfl, ?_⟩) | (refine ⟨?_, ?_⟩)))⟩; rw [hpn]; (repeat' (first | exact trivial | exact rfl | (refine ⟨Or.inl rfl, ?_⟩) | (refine ⟨Or.inr rfl, ?_⟩) | (refine ⟨Or.inr trivial, ?_⟩) | (refine ⟨rfl, ?_⟩) | (refine ⟨?_, ?_⟩))); done)
          | trace_state
      · have hkr : k = r.length := by omega
        subst hkr
        have hpw : 1048576 ^ r.length ≤ 1152921504606846976 := by
          have : (1048576 : Nat) ^ r.length ≤ 1048576 ^ 3 := Nat.pow_le_pow_right (by decide) (by omega)
          exact Nat.le_trans this (by decide)
        have cd := reduce_ac (prK l day row r.length).1 (prK l day row r.length).2 q1 (by omega) (by omega)
        unfold rtV at cd
        repeat' (first | ((with_reducible refine gA ?_); (first | refine AW_seq ?_ | refine AW_region ?_ | refine AW_condF rfl ?_ | (refine AW_cond rfl (fun hc => ?_) (fun hc => ?_) <;> try (exfalso; simp only [cmpL] at hc; omega)) | refine AW_ret ?_ | refine AW_skip ?_ | refine AW_exit ?_)) | ((with_reducible refine gS ?_); refine Es_s (T := Try.tab) rfl rfl rfl rfl ?_) | (((with_reducible refine gS ?_); apply Es_q); rfl; rfl; refine LStep_call (cd) rfl rfl rfl rfl) | (((with_reducible refine gS ?_); apply Es_q); rfl; rfl; refine LStep_lenM (T := Try.tab) rfl rfl rfl rfl) | (((with_reducible refine gS ?_); apply Es_xn); rfl; rfl; (refine LStep_storeN (T := Try.tab) rfl rfl rfl rfl rfl rfl rfl ?_ rfl; (refine Nat.le_of_ble_eq_true ?_; rfl)); rfl) | (with_reducible refine Es_nil ?_) | (with_reducible refine then_n ?_) | (with_reducible refine then_e ?_) | ((with_reducible refine block_e ?_ ?_); rfl) | ((with_reducible refine gRG ?_); first | refine retGa rfl ?_ | refine retGb rfl ?_ | refine retGc rfl ?_ | refine retG1 rfl rfl ?_ | refine endG1 rfl rfl ?_))
        all_goals simp only [cmps] at *
        all_goals first
          | (exfalso; omega)
          | exact ⟨rfl, by (repeat' (first | exact trivial | exact rfl | (refine ⟨Or.inl rfl, ?_⟩) | (refine ⟨Or.inr rfl, ?_⟩) | (refine ⟨Or.inr trivial, ?_⟩) | (refine ⟨rfl, ?_⟩) | (refine ⟨?_, ?_⟩)))⟩
          | exact ⟨trivial, by (repeat' (first | exact trivial | exact rfl | (refine ⟨Or.inl rfl, ?_⟩) | (refine ⟨Or.inr rfl, ?_⟩) | (refine ⟨Or.inr trivial, ?_⟩) | (refine ⟨rfl, ?_⟩) | (refine ⟨?_, ?_⟩)))⟩
          | trace_state
  · rw [if_neg hok, crV_none]
    clear cr ct
    generalize curOk f = a at *
    generalize curOk t = b at *
    unfold hCh
    refine AC_enterG Try.tab Try.func31 rfl Try.ntmps31 (rv := [.cell 6 30, .tmp 7, .tmp 8]) rfl rfl (by simp) (fun w X G => ?_)
    repeat' (first | ((with_reducible refine gRc ?_); refine AW_nilD 1 7 rfl ?_) | ((with_reducible refine gA ?_); (first | refine AW_seq ?_ | refine AW_region ?_ | refine AW_condT rfl ?_ | (refine AW_cond rfl (fun hc => ?_) (fun hc => ?_) <;> try (exfalso; simp only [cmpL] at hc; omega)) | refine AW_ret ?_ | refine AW_skip ?_)) | ((with_reducible refine gS ?_); refine Es_s (T := Try.tab) rfl rfl rfl rfl ?_) | (((with_reducible refine gS ?_); apply Es_q); rfl; (first | rfl | (refine w_ff ?_; assumption)); (first | refine LStep_call (c1) rfl rfl rfl rfl | refine LStep_call (c2) rfl rfl rfl rfl)) | (((with_reducible refine gS ?_); apply Es_q); rfl; (first | rfl | (refine w_ff ?_; assumption)); (first | refine LStep_simp (T := Try.tab) rfl rfl | (refine LStep_pickT rfl rfl ?_ rfl rfl; assumption) | (refine LStep_pickF rfl rfl ?_ rfl rfl; assumption) | refine LStep_buildN (T := Try.tab) rfl rfl rfl rfl rfl rfl rfl)) | (refine Es_skip rfl ?_ rfl ?_; (first | rfl | (refine w_tf ?_; assumption) | (refine w_ft ?_; assumption))) | (((with_reducible refine gS ?_); apply Es_xs); rfl; rfl; (first | refine LStep_boxN rfl rfl rfl rfl rfl rfl | refine LStep_allocN (T := Try.tab) rfl rfl rfl rfl rfl rfl); rfl) | (((with_reducible refine gS ?_); apply Es_xn); rfl; rfl; (refine LStep_storeN (T := Try.tab) rfl rfl rfl rfl rfl rfl rfl ?_ rfl; (refine Nat.le_of_ble_eq_true ?_; rfl)); rfl) | (refine Es_split rfl ?_ (fun _ => ?_) (fun _ => ?_); ((fail_if_success (refine und_t ?_; assumption)); (fail_if_success (refine und_f ?_; assumption)); exact trivial)) | (with_reducible refine Es_nil ?_) | (with_reducible refine then_n ?_) | (with_reducible refine then_r ?_) | ((with_reducible refine gRG ?_); first | refine retGa rfl ?_ | refine retGb rfl ?_ | refine retGc rfl ?_ | refine retG1 rfl rfl ?_ | refine endG1 rfl rfl ?_))
    all_goals simp only [cmps] at *
    all_goals first
      | (exfalso; simp_all; done)
      | exact ⟨rfl, by (repeat' (first | exact trivial | exact rfl | (refine ⟨Or.inl rfl, ?_⟩) | (refine ⟨Or.inr rfl, ?_⟩) | (refine ⟨Or.inr trivial, ?_⟩) | (refine ⟨rfl, ?_⟩) | (refine ⟨?_, ?_⟩)))⟩
      | exact ⟨trivial, by (repeat' (first | exact trivial | exact rfl | (refine ⟨Or.inl rfl, ?_⟩) | (refine ⟨Or.inr rfl, ?_⟩) | (refine ⟨Or.inr trivial, ?_⟩) | (refine ⟨rfl, ?_⟩) | (refine ⟨?_, ?_⟩)))⟩
      | trace_state
def crossD (l : List RP) (f t : ByteArray) (day : Int) : Option ((Int × Int) × List ByteArray) := if dayOk day = true then crossR l f t day else none
set_option maxRecDepth 10000 in
set_option maxHeartbeats 4000000 in
theorem crossD_ac (l : List RP) (f t : ByteArray) (day : Int) (hi : RInv l) (hl : l.length ≤ 4096) : AC Try.prog 19 [.ptr 1000 0, .d (.sc (.string f)), .d (.sc (.string t)), .d (.sc (.int .i64 day))] (hR l) [1000, 1001]
    (fun r h' => r = crV (crossD l f t day) ∧ SubH (hR l) h') := by
  have c3 := isDay_ac day
  unfold crossD
  by_cases h : dayOk day = true
  · rw [if_pos h]
    rw [h] at c3
    have cc := chart_ac l day hi.nd hl
    have cr := cross_ac l day f t hl hi
    unfold crV rtV rowS at *
    unfold hCh hR at *
    refine AC_enterG Try.tab Try.func19 rfl Try.ntmps19 (rv := [.cell 8 30, .tmp 9, .tmp 10]) rfl rfl (by simp) (fun w X G => ?_)
    repeat' (first | ((with_reducible refine gA ?_); (first | refine AW_seq ?_ | refine AW_region ?_ | refine AW_condF rfl ?_ | refine AW_ret ?_ | refine AW_skip ?_)) | ((with_reducible refine gS ?_); refine Es_s (T := Try.tab) rfl rfl rfl rfl ?_) | (((with_reducible refine gS ?_); apply Es_q); rfl; rfl; refine LStep_call (c3) rfl rfl rfl rfl) | (((with_reducible refine gS ?_); apply Es_xg); rfl; rfl; (first | refine LStep_callHN [(1000, 1000), (1001, 1001)] [(14, 17), (15, 1701)] cc rfl rfl ⟨rfl, rfl, trivial⟩ rfl ⟨trivial, trivial, trivial⟩ rfl rfl | refine LStep_callHN [(1000, 17), (1001, 1701)] [] cr rfl rfl ⟨rfl, rfl, trivial⟩ rfl ⟨trivial, trivial, trivial⟩ rfl rfl); rfl) | (refine Es_skip rfl ?_ rfl ?_; (first | rfl | (refine w_tf ?_; assumption) | (refine w_ft ?_; assumption))) | (((with_reducible refine gS ?_); apply Es_xs); rfl; rfl; refine LStep_allocN (T := Try.tab) rfl rfl rfl rfl rfl rfl; rfl) | (((with_reducible refine gS ?_); apply Es_xn); rfl; rfl; (refine LStep_storeN (T := Try.tab) rfl rfl rfl rfl rfl rfl rfl ?_ rfl; (refine Nat.le_of_ble_eq_true ?_; rfl)); rfl) | (with_reducible refine Es_nil ?_) | (with_reducible refine then_n ?_) | ((with_reducible refine gRG ?_); first | refine retGa rfl ?_ | refine retGb rfl ?_ | refine retGc rfl ?_ | refine retG1 rfl rfl ?_ | refine endG1 rfl rfl ?_))
    all_goals simp only at *
    all_goals first
      | exact ⟨rfl, by (repeat' (first | exact trivial | exact rfl | (refine ⟨Or.inl rfl, ?_⟩) | (refine ⟨Or.inr rfl, ?_⟩) | (refine ⟨Or.inr trivial, ?_⟩) | (refine ⟨rfl, ?_⟩) | (refine ⟨?_, ?_⟩)))⟩
      | exact ⟨trivial, by (repeat' (first | exact trivial | exact rfl | (refine ⟨Or.inl rfl, ?_⟩) | (refine ⟨Or.inr rfl, ?_⟩) | (refine ⟨Or.inr trivial, ?_⟩) | (refine ⟨rfl, ?_⟩) | (refine ⟨?_, ?_⟩)))⟩
      | trace_state
  · rw [if_neg h, crV_none]
    replace h : dayOk day = false := by simpa using h
    rw [h] at c3
    unfold hR
    refine AC_enterG Try.tab Try.func19 rfl Try.ntmps19 (rv := [.cell 8 30, .tmp 9, .tmp 10]) rfl rfl (by simp) (fun w X G => ?_)
    repeat' (first | ((with_reducible refine gRc ?_); refine AW_nilD 1 9 rfl ?_) | ((with_reducible refine gA ?_); (first | refine AW_seq ?_ | refine AW_region ?_ | refine AW_condT rfl ?_ | refine AW_ret ?_)) | ((with_reducible refine gS ?_); refine Es_s (T := Try.tab) rfl rfl rfl rfl ?_) | (((with_reducible refine gS ?_); apply Es_q); rfl; rfl; refine LStep_call (c3) rfl rfl rfl rfl) | (((with_reducible refine gS ?_); apply Es_q); rfl; rfl; refine LStep_buildN (T := Try.tab) rfl rfl rfl rfl rfl rfl rfl) | (refine Es_skip rfl ?_ rfl ?_; (first | rfl | (refine w_tf ?_; assumption) | (refine w_ft ?_; assumption))) | (((with_reducible refine gS ?_); apply Es_xs); rfl; rfl; refine LStep_allocN (T := Try.tab) rfl rfl rfl rfl rfl rfl; rfl) | (((with_reducible refine gS ?_); apply Es_xn); rfl; rfl; (refine LStep_storeN (T := Try.tab) rfl rfl rfl rfl rfl rfl rfl ?_ rfl; (refine Nat.le_of_ble_eq_true ?_; rfl)); rfl) | (with_reducible refine Es_nil ?_) | (with_reducible refine then_n ?_) | (with_reducible refine then_r ?_) | ((with_reducible refine gRG ?_); first | refine retGa rfl ?_ | refine retGb rfl ?_ | refine retGc rfl ?_ | refine retG1 rfl rfl ?_ | refine endG1 rfl rfl ?_))
    all_goals first
      | exact ⟨rfl, by (repeat' (first | exact trivial | exact rfl | (refine ⟨Or.inl rfl, ?_⟩) | (refine ⟨Or.inr rfl, ?_⟩) | (refine ⟨Or.inr trivial, ?_⟩) | (refine ⟨rfl, ?_⟩) | (refine ⟨?_, ?_⟩)))⟩
      | exact ⟨trivial, by (repeat' (first | exact trivial | exact rfl | (refine ⟨Or.inl rfl, ?_⟩) | (refine ⟨Or.inr rfl, ?_⟩) | (refine ⟨Or.inr trivial, ?_⟩) | (refine ⟨rfl, ?_⟩) | (refine ⟨?_, ?_⟩)))⟩
      | trace_state
end Go.Proofs.Ytofdnkgieigncaa
