import Derived.Test.YtodgjgkoaahhmaaGreatDoorDC
namespace Go.Proofs.YtodgjgkoaahhmaaGreatDoor
open Go.SL
/-! ### trim.Moments -/
set_option maxRecDepth 10000 in
theorem moments_ac (S : Ship) (L : List Load) (hL : L.length ≤ 140737488351232) (hf : fitL S L = true) : AC Tryz.prog 33 [.agg S.cs, .d (.sl 7 (L.map Load.enc))] [] [] (fun r _ => r = .tup [.d (.sc (.int .i64 (sLong S L))), .d (.sc (.int .i64 (sCross S L))), .d (.sc (.int .i64 (sUp L))), .d (.sc (.int .i64 (wsum L)))]) := by
  have c1 := tsum_ac S L hL
  rw [hf] at c1
  generalize sLong S L = u1 at *
  generalize sCross S L = u2 at *
  generalize sUp L = u3 at *
  generalize wsum L = u4 at *
  refine AC_enter Tryz.func33 rfl Tryz.ntmps33 (rv := [.tmp 4, .tmp 5, .tmp 6, .tmp 7]) rfl rfl (by simp) (fun w X G => ?_)
  repeat' (first | ((with_reducible refine gA ?_); (first | refine AW_seq ?_ | refine AW_region ?_ | refine AW_regionD Tryz.mixed ?_ | refine AW_ret ?_)) | (first | ((with_reducible refine gS ?_); refine Es_s (T := Tryz.tab) rfl rfl rfl rfl ?_) | ((with_reducible refine gD ?_); refine Ed_s (T := Tryz.tab) rfl rfl rfl rfl ?_)) | (((with_reducible refine gS ?_); apply Es_q); rfl; rfl; refine LStep_call (c1) rfl rfl rfl rfl) | (refine Es_skip rfl ?_ rfl ?_; (first | rfl | (refine w_tf ?_; assumption) | (refine w_ft ?_; assumption))) | (((with_reducible refine gS ?_); apply Es_xs); rfl; rfl; (first | refine LStep_boxN rfl rfl rfl rfl rfl rfl | refine LStep_allocN (T := Tryz.tab) rfl rfl rfl rfl rfl rfl); rfl) | (((with_reducible refine gS ?_); apply Es_xn); rfl; rfl; (refine LStep_storeN (T := Tryz.tab) rfl rfl rfl rfl rfl rfl rfl ?_ rfl; (refine Nat.le_of_ble_eq_true ?_; rfl)); rfl) | (with_reducible refine Es_nil ?_) | ((with_reducible refine Ed_nil ?_ ?_); kernel_rfl) | (with_reducible refine then_n ?_))
  all_goals first
    | rfl
    | trace_state
/-! ### a plan at its start -/
abbrev Un := Int × Int
def uV (u : Un) : AV := .agg [.d (.sc (.int .i64 u.1)), .d (.sc (.int .i64 u.2))]
def unit (S : Ship) (b r : Int) : Un := (2 * b - S.bays + 1, 2 * r - S.rows + 1)
def rowU (S : Ship) (b : Int) (n : Nat) : List (Sl × Un) := (List.range n).map fun r => (⟨b, (r : Nat), 0⟩, unit S b (r : Nat))
def unitsB (S : Ship) (n R : Nat) : List (Sl × Un) := (List.range n).flatMap fun b => rowU S (b : Nat) R
theorem rowU_succ (S : Ship) (b : Int) (n : Nat) : rowU S b (n + 1) = rowU S b n ++ [(⟨b, (n : Nat), 0⟩, unit S b (n : Nat))] := by
  unfold rowU
  rw [List.range_succ, List.map_append]
  rfl
theorem unitsB_succ (S : Ship) (n R : Nat) : unitsB S (n + 1) R = unitsB S n R ++ rowU S (n : Nat) R := by
  unfold unitsB
  rw [List.range_succ, List.flatMap_append]
  simp
theorem rowU_key {S : Ship} {b : Int} {n : Nat} {s : Sl} (h : s ∈ akeys (rowU S b n)) : ∃ r : Nat, r < n ∧ s = ⟨b, r, 0⟩ := by
  unfold akeys rowU at h
  rw [List.map_map] at h
  obtain ⟨r, hr, rfl⟩ := List.mem_map.1 h
  exact ⟨r, List.mem_range.1 hr, rfl⟩
theorem unitsB_key {S : Ship} {n R : Nat} {s : Sl} (h : s ∈ akeys (unitsB S n R)) : ∃ b r : Nat, b < n ∧ r < R ∧ s = ⟨b, r, 0⟩ := by
  unfold akeys at h
  obtain ⟨p, hp, rfl⟩ := List.mem_map.1 h
  unfold unitsB at hp
  obtain ⟨b, hb, hp⟩ := List.mem_flatMap.1 hp
  obtain ⟨r, h1, h2⟩ := rowU_key (List.mem_map.2 ⟨p, hp, rfl⟩)
  exact ⟨b, r, List.mem_range.1 hb, h1, h2⟩
theorem akeys_app {κ α : Type} (l m : List (κ × α)) : akeys (l ++ m) = akeys l ++ akeys m := List.map_append
theorem units_new {S : Ship} {k j R : Nat} : aget (⟨(k : Nat), (j : Nat), 0⟩ : Sl) (unitsB S k R ++ rowU S (k : Nat) j) = none := by
  rw [aget_none, akeys_app]
  intro h
  rcases List.mem_append.1 h with q | q
  · obtain ⟨b, r, h1, h2, h3⟩ := unitsB_key q
    rw [Sl_eq] at h3
    simp only at h3
    omega
  · obtain ⟨r, h1, h3⟩ := rowU_key q
    rw [Sl_eq] at h3
    simp only at h3
    omega
theorem rowU_nodup (S : Ship) (b : Int) : ∀ n : Nat, (akeys (rowU S b n)).Nodup
  | 0 => List.nodup_nil
  | n + 1 => by
    rw [rowU_succ, akeys_app, List.nodup_append]
    refine ⟨rowU_nodup S b n, by simp [akeys], fun x hx y hy => ?_⟩
    obtain ⟨r, h1, rfl⟩ := rowU_key hx
    have : y = ⟨b, (n : Nat), 0⟩ := by simpa [akeys] using hy
    rw [this]
    intro e
    rw [Sl_eq] at e
    simp only at e
    omega
theorem unitsB_nodup (S : Ship) (R : Nat) : ∀ n : Nat, (akeys (unitsB S n R)).Nodup
  | 0 => List.nodup_nil
  | n + 1 => by
    rw [unitsB_succ, akeys_app, List.nodup_append]
    refine ⟨unitsB_nodup S R n, rowU_nodup S _ R, fun x hx y hy => ?_⟩
    obtain ⟨b, r, h1, _, rfl⟩ := unitsB_key hx
    obtain ⟨r', _, rfl⟩ := rowU_key hy
    intro e
    rw [Sl_eq] at e
    simp only at e
    omega
theorem units_at {S : Ship} {n R b r : Nat} (hb : b < n) (hr : r < R) : aget (⟨(b : Nat), (r : Nat), 0⟩ : Sl) (unitsB S n R) = some (unit S b r) := by
  refine aget_of_mem (unitsB_nodup S R n) ?_
  unfold unitsB
  exact List.mem_flatMap.2 ⟨b, List.mem_range.2 hb, List.mem_map.2 ⟨r, List.mem_range.2 hr, rfl⟩⟩
def plCs (S : Ship) (i0 i1 i2 : Nat) (a b : Int) (p : AV) : List AV := [.d (.sc (.string S.nm)), .d (.sc (.int .i64 S.bays)), .d (.sc (.int .i64 S.rows)), .d (.sc (.int .i64 S.tiers)), .d (.sc (.int .i64 S.stack)), .d (.sc (.int .i64 S.trim)), .d (.sc (.int .i64 S.list)), .d (.sc (.int .i64 S.up)), .d (.sc (.int .i64 S.most)), .ptr i0 0, .mp i1, .mp i2, .d (.sc (.int .i64 a)), .d (.sc (.int .i64 b)), p]
def nilA : AV := .d (.sc (.slice none 0 0))
set_option maxRecDepth 10000 in
set_option maxHeartbeats 4000000 in
theorem start_ac (S : Ship) (B R : Nat) (hS : shipOk S = true) (hB' : S.bays = B) (hR : S.rows = R) : AC Tryz.prog 14 [.agg S.cs] [] []
    (fun r h' => r = .ptr 23 0 ∧ SubH ([(23, some (.cells (plCs S 1000 20 21 0 0 nilA))), (20, some (.map 38 59 (emap slV uV (unitsB S B R)) none)), (21, some (.mapF 38 3 []))] ++ hB S []) h') := by
  have hi : (1 ≤ S.bays ∧ S.bays ≤ 32) ∧ (1 ≤ S.rows ∧ S.rows ≤ 32) ∧ (1 ≤ S.tiers ∧ S.tiers ≤ 32) := by
    have h := hS
    simp only [shipOk, Bool.and_eq_true, frB_t] at h
    omega
  have cn := newOk_ac S hS
  have z0 : unitsB S 0 R = [] := rfl
  refine AC_enter Tryz.func14 rfl Tryz.ntmps14 (rv := [.tmp 2]) rfl rfl (by simp) (fun w X G => ?_)
  repeat' (first | ((with_reducible refine gA ?_); (first | refine AW_seq ?_ | refine AW_region ?_ | refine AW_block ?_)) | ((with_reducible refine gS ?_); refine Es_s (T := Tryz.tab) rfl rfl rfl rfl ?_) | (((with_reducible refine gS ?_); apply Es_xs); rfl; rfl; (first | refine LStep_makeMapF (T := Tryz.tab) (kt := 38) (et := 3) rfl rfl rfl rfl rfl | refine lstep_makeMapT (T := Tryz.tab) rfl rfl rfl rfl rfl); rfl) | (((with_reducible refine gS ?_); apply Es_xg); rfl; rfl; refine LStep_callHN [] [(11, 1000), (8, 1001), (9, 1002)] cn rfl rfl trivial rfl trivial rfl rfl; rfl) | (((with_reducible refine gS ?_); apply Es_q); rfl; rfl; refine LStep_buildN (T := Tryz.tab) rfl rfl rfl rfl rfl rfl rfl) | (refine Es_skip rfl ?_ rfl ?_; (first | rfl | (refine w_tf ?_; assumption) | (refine w_ft ?_; assumption))) | (((with_reducible refine gS ?_); apply Es_xs); rfl; rfl; refine LStep_boxN rfl rfl rfl rfl rfl rfl; rfl) | (with_reducible refine Es_nil ?_) | (with_reducible refine then_n ?_))
  refine AW_forE (S := Nat) (fun k => k ≤ B) (fun k => [(26, .d (.sc (.int .i64 (k : Nat))))]) (fun k => [(20, some (.map 38 59 (emap slV uV (unitsB S k R)) none))]) (fun k => B - k) 0 (by omega) (by (repeat' (first | exact trivial | exact rfl | (refine ⟨Or.inl rfl, ?_⟩) | (refine ⟨Or.inr rfl, ?_⟩) | (refine ⟨Or.inr trivial, ?_⟩) | (refine ⟨rfl, ?_⟩) | (refine ⟨?_, ?_⟩)))) (by rw [z0]; (repeat' (first | exact trivial | exact rfl | (refine ⟨Or.inl rfl, ?_⟩) | (refine ⟨Or.inr rfl, ?_⟩) | (refine ⟨Or.inr trivial, ?_⟩) | (refine ⟨rfl, ?_⟩) | (refine ⟨?_, ?_⟩)))) ?_
  intro k hk
  by_cases hlt : k < B
  · have g1 : ltb (k : Nat) S.bays = true := by rw [ltb_t]; omega
    have z1 : unitsB S k R ++ rowU S (k : Nat) 0 = unitsB S k R := by unfold rowU; simp
    repeat' (first | ((with_reducible refine gA ?_); (first | refine AW_seq ?_ | refine AW_region ?_ | (refine AW_condY rfl ?_ ?_; assumption) | refine AW_block ?_ | refine AW_skip ?_)) | ((with_reducible refine gS ?_); refine Es_s (T := Tryz.tab) rfl rfl rfl rfl ?_) | (with_reducible refine Es_nil ?_) | (with_reducible refine then_n ?_))
    refine AW_forE (S := Nat) (fun j => j ≤ R) (fun j => [(31, .d (.sc (.int .i64 (j : Nat))))]) (fun j => [(20, some (.map 38 59 (emap slV uV (unitsB S k R ++ rowU S (k : Nat) j)) none))]) (fun j => R - j) 0 (by omega) (by (repeat' (first | exact trivial | exact rfl | (refine ⟨Or.inl rfl, ?_⟩) | (refine ⟨Or.inr rfl, ?_⟩) | (refine ⟨Or.inr trivial, ?_⟩) | (refine ⟨rfl, ?_⟩) | (refine ⟨?_, ?_⟩)))) (by rw [z1]; (repeat' (first | exact trivial | exact rfl | (refine ⟨Or.inl rfl, ?_⟩) | (refine ⟨Or.inr rfl, ?_⟩) | (refine ⟨Or.inr trivial, ?_⟩) | (refine ⟨rfl, ?_⟩) | (refine ⟨?_, ?_⟩)))) ?_
    intro j hj
    by_cases hlj : j < R
    · have g2 : ltb (j : Nat) S.rows = true := by rw [ltb_t]; omega
      have hx : fitL S [⟨⟨(k : Nat), (j : Nat), 0⟩, ⟨#[]⟩, 1, 0, 0⟩] = true := by
        unfold fitL
        rw [hS, Bool.true_and, Bool.and_eq_true, Bool.and_eq_true, decide_eq_true_eq, decide_eq_true_eq, List.all_eq_true]
        refine ⟨by simp, fun y hy => ?_, by simp⟩
        rw [List.mem_singleton.1 hy, fitOne_t]
        dsimp only
        omega
      have cm := moments_ac S [⟨⟨(k : Nat), (j : Nat), 0⟩, ⟨#[]⟩, 1, 0, 0⟩] (by simp) hx
      have e1 : sLong S [⟨⟨(k : Nat), (j : Nat), 0⟩, ⟨#[]⟩, 1, 0, 0⟩] = 2 * (k : Nat) - S.bays + 1 := by simp [sLong, mLong]
      have e2 : sCross S [⟨⟨(k : Nat), (j : Nat), 0⟩, ⟨#[]⟩, 1, 0, 0⟩] = 2 * (j : Nat) - S.rows + 1 := by simp [sCross, mCross]
      rw [e1, e2] at cm
      have m1 : mput (slV ⟨(k : Nat), (j : Nat), 0⟩) (uV (2 * (k : Nat) - S.bays + 1, 2 * (j : Nat) - S.rows + 1)) (emap slV uV (unitsB S k R ++ rowU S (k : Nat) j)) = emap slV uV (unitsB S k R ++ rowU S (k : Nat) (j + 1)) := by
        rw [mput_emap slV_keq, aput_new units_new, rowU_succ, List.append_assoc]
        rfl
      generalize unitsB S k R ++ rowU S (k : Nat) j = U at *
      clear e1 e2 hx
      repeat' (first | ((with_reducible refine gA ?_); (first | refine AW_seq ?_ | refine AW_region ?_ | refine AW_regionD Tryz.mixed ?_ | (refine AW_condY rfl ?_ ?_; assumption) | refine AW_block ?_ | refine AW_skip ?_)) | (first | ((with_reducible refine gS ?_); refine Es_s (T := Tryz.tab) rfl rfl rfl rfl ?_) | ((with_reducible refine gD ?_); refine Ed_s (T := Tryz.tab) rfl rfl rfl rfl ?_)) | ((first | ((with_reducible refine gS ?_); apply Es_q) | ((with_reducible refine gD ?_); apply Ed_q)); rfl; rfl; refine LStep_call (cm) rfl rfl rfl rfl) | ((first | ((with_reducible refine gS ?_); apply Es_xn) | ((with_reducible refine gD ?_); apply Ed_xn)); rfl; rfl; refine LStep_mapUpdate (T := Tryz.tab) rfl rfl rfl keySl rfl rfl rfl rfl rfl (sl_keys _) rfl; rfl) | ((first | ((with_reducible refine gS ?_); apply Es_q) | ((with_reducible refine gD ?_); apply Ed_q)); rfl; rfl; (first | (refine LStep_add rfl rfl rfl rfl ?_; (refine IntWalk.i64_in _ ?_; first | omega | (simp only [cmps] at *; omega))) | (refine LStep_lit (T := Tryz.tab) rfl rfl rfl rfl rfl rfl rfl rfl ?_; (refine Nat.le_of_ble_eq_true ?_; rfl)) | refine LStep_buildN (T := Tryz.tab) rfl rfl rfl rfl rfl rfl rfl)) | (refine Es_skip rfl ?_ rfl ?_; (first | rfl | (refine w_tf ?_; assumption) | (refine w_ft ?_; assumption))) | (((with_reducible refine gS ?_); apply Es_xs); rfl; rfl; refine LStep_allocN (T := Tryz.tab) rfl rfl rfl rfl rfl rfl; rfl) | (((with_reducible refine gS ?_); apply Es_xn); rfl; rfl; (refine LStep_storeN (T := Tryz.tab) rfl rfl rfl rfl rfl rfl rfl ?_ rfl; (refine Nat.le_of_ble_eq_true ?_; rfl)); rfl) | (with_reducible refine Es_nil ?_) | ((with_reducible refine Ed_nil ?_ ?_); kernel_rfl) | (with_reducible refine then_n ?_) | (with_reducible refine block_n ?_))
      all_goals first
        | (refine ⟨j + 1, by omega, by omega, by (repeat' (first | exact trivial | exact rfl | (refine ⟨Or.inl rfl, ?_⟩) | (refine ⟨Or.inr rfl, ?_⟩) | (refine ⟨Or.inr trivial, ?_⟩) | (refine ⟨rfl, ?_⟩) | (refine ⟨?_, ?_⟩))), by (repeat' (first | exact trivial | exact rfl | (refine ⟨Or.inl rfl, ?_⟩) | (refine ⟨Or.inr rfl, ?_⟩) | (refine ⟨Or.inr trivial, ?_⟩) | (refine ⟨rfl, ?_⟩) | (refine ⟨?_, ?_⟩))), ?_, by (repeat' (first | exact trivial | exact rfl | (refine ⟨Or.inl rfl, ?_⟩) | (refine ⟨Or.inr rfl, ?_⟩) | (refine ⟨Or.inr trivial, ?_⟩) | (refine ⟨rfl, ?_⟩) | (refine ⟨?_, ?_⟩)))⟩
           rw [← m1]; (repeat' (first | exact trivial | exact rfl | (refine ⟨Or.inl rfl, ?_⟩) | (refine ⟨Or.inr rfl, ?_⟩) | (refine ⟨Or.inr trivial, ?_⟩) | (refine ⟨rfl, ?_⟩) | (refine ⟨?_, ?_⟩))))
        | trace_state
    · have : j = R := by omega
      subst this
      have g2 : ltb (j : Nat) S.rows = false := by rw [ltb_f]; omega
      rw [← unitsB_succ]
      repeat' (first | ((with_reducible refine gA ?_); (first | refine AW_seq ?_ | refine AW_region ?_ | (refine AW_condN rfl ?_ ?_; assumption) | refine AW_exit ?_)) | ((with_reducible refine gS ?_); refine Es_s (T := Tryz.tab) rfl rfl rfl rfl ?_) | (((with_reducible refine gS ?_); apply Es_q); rfl; rfl; (refine LStep_add rfl rfl rfl rfl ?_; (refine IntWalk.i64_in _ ?_; first | omega | (simp only [cmps] at *; omega)))) | (with_reducible refine Es_nil ?_) | (with_reducible refine then_n ?_) | (with_reducible refine then_e ?_) | (with_reducible refine block_n ?_) | ((with_reducible refine block_e ?_ ?_); rfl))
      all_goals first
        | (refine ⟨k + 1, by omega, by omega, by (repeat' (first | exact trivial | exact rfl | (refine ⟨Or.inl rfl, ?_⟩) | (refine ⟨Or.inr rfl, ?_⟩) | (refine ⟨Or.inr trivial, ?_⟩) | (refine ⟨rfl, ?_⟩) | (refine ⟨?_, ?_⟩))), by (repeat' (first | exact trivial | exact rfl | (refine ⟨Or.inl rfl, ?_⟩) | (refine ⟨Or.inr rfl, ?_⟩) | (refine ⟨Or.inr trivial, ?_⟩) | (refine ⟨rfl, ?_⟩) | (refine ⟨?_, ?_⟩))), by (repeat' (first | exact trivial | exact rfl | (refine ⟨Or.inl rfl, ?_⟩) | (refine ⟨Or.inr rfl, ?_⟩) | (refine ⟨Or.inr trivial, ?_⟩) | (refine ⟨rfl, ?_⟩) | (refine ⟨?_, ?_⟩))), by (repeat' (first | exact trivial | exact rfl | (refine ⟨Or.inl rfl, ?_⟩) | (refine ⟨Or.inr rfl, ?_⟩) | (refine ⟨Or.inr trivial, ?_⟩) | (refine ⟨rfl, ?_⟩) | (refine ⟨?_, ?_⟩)))⟩; done)
        | trace_state
  · have : k = B := by omega
    subst this
    have g1 : ltb (k : Nat) S.bays = false := by rw [ltb_f]; omega
    repeat' (first | ((with_reducible refine gA ?_); (first | refine AW_seq ?_ | refine AW_region ?_ | (refine AW_condN rfl ?_ ?_; assumption) | refine AW_ret ?_ | refine AW_exit ?_)) | ((with_reducible refine gS ?_); refine Es_s (T := Tryz.tab) rfl rfl rfl rfl ?_) | (with_reducible refine Es_nil ?_) | (with_reducible refine then_n ?_) | (with_reducible refine then_e ?_) | ((with_reducible refine block_e ?_ ?_); rfl) | ((with_reducible refine gR ?_); first | refine ret1 rfl ?_ | refine ret2 rfl rfl ?_ | refine ret0 ?_ | refine end1 rfl ?_ | refine end0 ?_))
    all_goals first
      | exact ⟨rfl, by (repeat' (first | exact trivial | exact rfl | (refine ⟨Or.inl rfl, ?_⟩) | (refine ⟨Or.inr rfl, ?_⟩) | (refine ⟨Or.inr trivial, ?_⟩) | (refine ⟨rfl, ?_⟩) | (refine ⟨?_, ?_⟩)))⟩
      | trace_state
end Go.Proofs.YtodgjgkoaahhmaaGreatDoor
namespace Go.Proofs.YtodgjgkoaahhmaaGreatDoor
open Go.SL
/-! ### a plan in memory -/
def plA (S : Ship) (L : List Load) (B R : Nat) (a b : Int) (T : List (Sl × Int)) (P : List ByteArray) : Hp :=
  [(1010, some (.cells (plCs S 1000 1011 1012 a b (.own 1013 (P.map sN).length)))), (1011, some (.map 38 59 (emap slV uV (unitsB S B R)) none)), (1012, some (.mapF 38 3 (emap slV iV T))), (1013, some (.arr 9 1 (P.map sN)))] ++ hB S L
def plId : List Nat := [1010, 1011, 1012, 1013, 1000, 1001, 1002]
def nowL (S : Ship) (a : Int) (b : Int) (w : Int) : Int := a + (2 * b - S.bays + 1) * w
def nowC (S : Ship) (a : Int) (r : Int) (w : Int) : Int := a + (2 * r - S.rows + 1) * w
theorem mul_in2 {w q : Int} (h1 : 0 ≤ w ∧ w ≤ 1048576) (h2 : -32 ≤ q ∧ q ≤ 32) : -33554432 ≤ q * w ∧ q * w ≤ 33554432 := by
  rw [Int.mul_comm]
  exact mul_in h1 h2
set_option maxRecDepth 10000 in
set_option maxHeartbeats 4000000 in
theorem with_ac (S : Ship) (L : List Load) (B R : Nat) (a b : Int) (T : List (Sl × Int)) (P : List ByteArray) (k j : Nat) (w : Int) (hk : k < B) (hj : j < R) (hB' : S.bays = B) (hR : S.rows = R) (h32 : B ≤ 32 ∧ R ≤ 32) (ha : -137438953472 ≤ a ∧ a ≤ 137438953472) (hb : -137438953472 ≤ b ∧ b ≤ 137438953472) (hw : 0 ≤ w ∧ w ≤ 1048576) :
    AC Tryz.prog 42 [.ptr 1010 0, slA ⟨(k : Nat), (j : Nat), 0⟩, .d (.sc (.int .i64 w))] (plA S L B R a b T P) plId (fun r h' => r = .agg [.d (.sc (.int .i64 (nowL S a k w))), .d (.sc (.int .i64 (nowC S b j w)))] ∧ Kp (plA S L B R a b T P) h') := by
  have hm : mfind (slV ⟨(k : Nat), (j : Nat), 0⟩) (emap slV uV (unitsB S B R)) = some (.agg [.d (.sc (.int .i64 (2 * (k : Nat) - S.bays + 1))), .d (.sc (.int .i64 (2 * (j : Nat) - S.rows + 1)))]) := mfind_some (cv := uV) slV_keq (units_at (S := S) hk hj)
  have m1 := mul_in2 (w := w) (q := 2 * (k : Nat) - S.bays + 1) hw (by omega)
  have m2 := mul_in2 (w := w) (q := 2 * (j : Nat) - S.rows + 1) hw (by omega)
  unfold nowL nowC
  refine AC_enterC Tryz.tab Tryz.func42 rfl Tryz.ntmps42 (a0 := 6) (t0 := 59) rfl rfl (by simp) (fun w X G => ?_)
  repeat' (first | ((with_reducible refine gA ?_); (first | refine AW_seq ?_ | refine AW_region ?_ | refine AW_regionD Tryz.mixed ?_ | refine AW_ret ?_)) | ((with_reducible refine gD ?_); refine Ed_s (T := Tryz.tab) rfl rfl rfl rfl ?_) | ((first | ((with_reducible refine gS ?_); apply Es_q) | ((with_reducible refine gD ?_); apply Ed_q)); rfl; rfl; refine LStep_lookup (T := Tryz.tab) rfl rfl rfl keySl rfl rfl rfl rfl (sl_keys _) hm) | ((first | ((with_reducible refine gS ?_); apply Es_q) | ((with_reducible refine gD ?_); apply Ed_q)); rfl; rfl; (first | (refine LStep_add rfl rfl rfl rfl ?_; (refine IntWalk.i64_in _ ?_; first | omega | (simp only [cmps] at *; omega))) | (refine LStep_mul rfl rfl rfl rfl ?_; (refine IntWalk.i64_in _ ?_; first | omega | (simp only [cmps] at *; omega))) | refine LStep_buildN (T := Tryz.tab) rfl rfl rfl rfl rfl rfl rfl)) | ((first | refine Es_skip rfl ?_ rfl ?_ | refine Ed_skip rfl ?_ rfl ?_); (first | rfl | (refine w_tf ?_; assumption) | (refine w_ft ?_; assumption))) | ((first | ((with_reducible refine gS ?_); apply Es_xs) | ((with_reducible refine gD ?_); apply Ed_xs)); rfl; rfl; (first | refine LStep_boxN rfl rfl rfl rfl rfl rfl | refine LStep_allocN (T := Tryz.tab) rfl rfl rfl rfl rfl rfl); rfl) | (((with_reducible refine gD ?_); apply Ed_xn); rfl; rfl; (refine LStep_storeN (T := Tryz.tab) rfl rfl rfl rfl rfl rfl rfl ?_ rfl; (refine Nat.le_of_ble_eq_true ?_; rfl)); rfl) | (with_reducible refine Es_nil ?_) | ((with_reducible refine Ed_nil ?_ ?_); kernel_rfl) | (with_reducible refine then_n ?_) | ((with_reducible refine gC ?_); first | refine retC1 rfl ?_ | refine endC1 rfl ?_))
  all_goals first
    | exact ⟨rfl, Kp.sub (by unfold plA; (repeat' (first | exact trivial | exact rfl | (refine ⟨Or.inl rfl, ?_⟩) | (refine ⟨Or.inr rfl, ?_⟩) | (refine ⟨Or.inr trivial, ?_⟩) | (refine ⟨rfl, ?_⟩) | (refine ⟨?_, ?_⟩))))⟩
    | trace_state
set_option maxRecDepth 10000 in
theorem ssize_ac (n : Int) (hn : -4611686018427387904 ≤ n ∧ n ≤ 4611686018427387904) : AC Tryz.prog 75 [.d (.sc (.int .i64 n))] [] [] (fun r _ => r = .d (.sc (.int .i64 (maxI n (-n))))) := by
  have e : AV.d (.sc (.int .i64 (wrp .i64 (0 - n)))) = AV.d (.sc (.int .i64 (-n))) := by rw [wrp_fit (by omega)]; congr 3; omega
  refine AC_enter Tryz.func75 rfl Tryz.ntmps75 (rv := [.tmp 2]) rfl rfl (by simp) (fun w X G => ?_)
  repeat' (first | ((with_reducible refine gA ?_); (first | refine AW_seq ?_ | refine AW_region ?_ | refine AW_ret ?_)) | (((with_reducible refine gS ?_); apply Es_q); rfl; rfl; refine LStep_fitQ (T := Tryz.tab) rfl rfl e) | ((with_reducible refine gS ?_); refine Es_s (T := Tryz.tab) rfl rfl rfl rfl ?_) | (((with_reducible refine gS ?_); apply Es_q); rfl; rfl; refine LStep_max rfl rfl rfl rfl rfl) | (with_reducible refine Es_nil ?_) | (with_reducible refine then_n ?_) | ((with_reducible refine gR ?_); first | refine ret1 rfl ?_ | refine ret2 rfl rfl ?_ | refine ret0 ?_ | refine end1 rfl ?_ | refine end0 ?_))
  all_goals first
    | rfl
    | trace_state
/-! ### places -/
structure Pc where
  lean : Int
  sl : Sl
def Pc.enc (x : Pc) : List D := [.sc (.int .i64 x.lean), .sc (.int .i64 x.sl.b), .sc (.int .i64 x.sl.r), .sc (.int .i64 x.sl.t)]
def cmpPc (x y : Pc) : Int := if cmpI x.lean y.lean ≠ 0 then cmpI x.lean y.lean else if cmpI x.sl.t y.sl.t ≠ 0 then cmpI x.sl.t y.sl.t else if cmpI x.sl.b y.sl.b ≠ 0 then cmpI x.sl.b y.sl.b else cmpI x.sl.r y.sl.r
set_option maxRecDepth 10000 in
theorem slots1_ac (p q : Pc) : AC Tryz.prog 77 [.agg (p.enc.map .d), .agg (q.enc.map .d)] [] [] (fun r _ => r = .d (.sc (.int .i64 (cmpPc p q)))) := by
  unfold cmpPc
  have c1 := compareI_ac p.lean q.lean
  have c2 := compareI_ac p.sl.t q.sl.t
  have c3 := compareI_ac p.sl.b q.sl.b
  have c4 := compareI_ac p.sl.r q.sl.r
  have c5 := or4_ac (cmpI p.lean q.lean) (cmpI p.sl.t q.sl.t) (cmpI p.sl.b q.sl.b) (cmpI p.sl.r q.sl.r)
  unfold Pc.enc
  refine AC_enter Tryz.func77 rfl Tryz.ntmps77 (rv := [.tmp 4]) rfl rfl (by simp) (fun w X G => ?_)
  repeat' (first | ((with_reducible refine gA ?_); (first | refine AW_seq ?_ | refine AW_region ?_ | refine AW_regionD Tryz.mixed ?_ | refine AW_ret ?_)) | (first | ((with_reducible refine gS ?_); refine Es_s (T := Tryz.tab) rfl rfl rfl rfl ?_) | ((with_reducible refine gD ?_); refine Ed_s (T := Tryz.tab) rfl rfl rfl rfl ?_)) | ((first | ((with_reducible refine gS ?_); apply Es_q) | ((with_reducible refine gD ?_); apply Ed_q)); rfl; rfl; (first | refine LStep_call (c1) rfl rfl rfl rfl | refine LStep_call (c2) rfl rfl rfl rfl | refine LStep_call (c3) rfl rfl rfl rfl | refine LStep_call (c4) rfl rfl rfl rfl | refine LStep_call (c5) rfl rfl rfl rfl)) | ((first | ((with_reducible refine gS ?_); apply Es_q) | ((with_reducible refine gD ?_); apply Ed_q)); rfl; rfl; (refine LStep_lit (T := Tryz.tab) rfl rfl rfl rfl rfl rfl rfl rfl ?_; (refine Nat.le_of_ble_eq_true ?_; rfl))) | (refine Es_skip rfl ?_ rfl ?_; (first | rfl | (refine w_tf ?_; assumption) | (refine w_ft ?_; assumption))) | (((with_reducible refine gS ?_); apply Es_xs); rfl; rfl; refine LStep_boxN rfl rfl rfl rfl rfl rfl; rfl) | (with_reducible refine Es_nil ?_) | ((with_reducible refine Ed_nil ?_ ?_); kernel_rfl) | (with_reducible refine then_n ?_) | ((with_reducible refine gR ?_); first | refine ret1 rfl ?_ | refine ret2 rfl rfl ?_ | refine ret0 ?_ | refine end1 rfl ?_ | refine end0 ?_))
  rfl
def ltC (x y : Pc) : Bool := decide (cmpPc x y < 0)
theorem ltC_t {x y : Pc} : ltC x y = true ↔ x.lean < y.lean ∨ (x.lean = y.lean ∧ (x.sl.t < y.sl.t ∨ (x.sl.t = y.sl.t ∧ (x.sl.b < y.sl.b ∨ (x.sl.b = y.sl.b ∧ x.sl.r < y.sl.r))))) := by
  unfold ltC
  rw [decide_eq_true_eq]
  unfold cmpPc
  by_cases h1 : x.lean = y.lean
  · rw [if_neg (by rw [ne_eq, Decidable.not_not, cmpI_eq]; exact h1)]
    by_cases h2 : x.sl.t = y.sl.t
    · rw [if_neg (by rw [ne_eq, Decidable.not_not, cmpI_eq]; exact h2)]
      by_cases h3 : x.sl.b = y.sl.b
      · rw [if_neg (by rw [ne_eq, Decidable.not_not, cmpI_eq]; exact h3), cmpI_lt]; omega
      · rw [if_pos (by rw [ne_eq, cmpI_eq]; exact h3), cmpI_lt]; omega
    · rw [if_pos (by rw [ne_eq, cmpI_eq]; exact h2), cmpI_lt]; omega
  · rw [if_pos (by rw [ne_eq, cmpI_eq]; exact h1), cmpI_lt]; omega
theorem ltC_f {x y : Pc} : ltC x y = false ↔ ¬ (x.lean < y.lean ∨ (x.lean = y.lean ∧ (x.sl.t < y.sl.t ∨ (x.sl.t = y.sl.t ∧ (x.sl.b < y.sl.b ∨ (x.sl.b = y.sl.b ∧ x.sl.r < y.sl.r)))))) := by rw [← ltC_t]; simp
theorem swoC : Sort.SWO ltC := by
  refine ⟨fun x => ?_, fun x y z h1 h2 => ?_, fun x y z h1 h2 => ?_⟩
  · rw [ltC_f]; omega
  · rw [ltC_t] at *; omega
  · rw [ltC_f] at *; omega
def pcD : List D → Pc
  | [.sc (.int _ l), .sc (.int _ b), .sc (.int _ r), .sc (.int _ t)] => ⟨l, ⟨b, r, t⟩⟩
  | _ => ⟨0, ⟨0, 0, 0⟩⟩
def cmpCD (x y : List D) : Int := cmpPc (pcD x) (pcD y)
theorem swoCD : Sort.SWO (ltOf cmpCD) := swo_of (f := pcD) swoC
theorem ltC_tri {x y : Pc} (h1 : ltC x y = false) (h2 : ltC y x = false) : x = y := by
  rw [ltC_f] at *
  cases x with
  | mk l s => cases y with
    | mk l' s' =>
      simp only [Pc.mk.injEq, Sl_eq] at *
      omega
theorem sortPc_ac (e : List Pc) (hl : e.length ≤ 1048576) : AC Tryz.prog 76 [.own 1000 e.length, .fn 77 []] (H0 132 4 (e.map Pc.enc)) [1000] (fun r h' => r = .tup [] ∧ SubH (H0 132 4 ((isL ltC e).map Pc.enc)) h') :=
  sortFunc_ac Tryz.sortPlaces 4 Tryz.isAgg132 Tryz.sizeOf132 (callable_of Tryz.func76 rfl rfl) (callable_of Tryz.func77 rfl rfl)
    132 e.length (e.map Pc.enc) ((isL ltC e).map Pc.enc) cmpCD swoCD (List.length_map _).symm (by rw [List.length_map]; omega)
    (fun x hx y hy => by
      obtain ⟨p, _, rfl⟩ := List.mem_map.1 hx
      obtain ⟨q, _, rfl⟩ := List.mem_map.1 hy
      exact slots1_ac p q)
    ((isL_perm e).map _) (List.pairwise_map.2 ((isL_sorted swoC e).imp (fun h => h)))
    (fun x hx y hy h1 h2 => by
      obtain ⟨p, _, rfl⟩ := List.mem_map.1 hx
      obtain ⟨q, _, rfl⟩ := List.mem_map.1 hy
      rw [ltC_tri (x := p) (y := q) h1 h2])
/-! ### slots: plain -/
def tierOf (T : List (Sl × Int)) (b r : Int) : Int := (aget (⟨b, r, 0⟩ : Sl) T).getD 0
def leanOf (S : Ship) (a b : Int) (k j w : Int) : Int := maxI (nowL S a k w) (-(nowL S a k w)) + maxI (nowC S b j w) (-(nowC S b j w))
def pcAt (S : Ship) (a b : Int) (T : List (Sl × Int)) (w : Int) (k j : Int) : List Pc := if tierOf T k j < S.tiers then [⟨leanOf S a b k j w, ⟨k, j, tierOf T k j⟩⟩] else []
def pcRow (S : Ship) (a b : Int) (T : List (Sl × Int)) (w : Int) (k : Int) (n : Nat) : List Pc := (List.range n).flatMap fun j => pcAt S a b T w k (j : Nat)
def pcAll (S : Ship) (a b : Int) (T : List (Sl × Int)) (w : Int) (n R : Nat) : List Pc := (List.range n).flatMap fun k => pcRow S a b T w (k : Nat) R
section
variable {S : Ship} {a b : Int} {T : List (Sl × Int)} {w : Int}
theorem pcRow_succ (k : Int) (n : Nat) : pcRow S a b T w k (n + 1) = pcRow S a b T w k n ++ pcAt S a b T w k (n : Nat) := by
  unfold pcRow
  rw [List.range_succ, List.flatMap_append]
  simp
theorem pcAll_succ (n R : Nat) : pcAll S a b T w (n + 1) R = pcAll S a b T w n R ++ pcRow S a b T w (n : Nat) R := by
  unfold pcAll
  rw [List.range_succ, List.flatMap_append]
  simp
theorem pcRow_len (k : Int) : ∀ n : Nat, (pcRow S a b T w k n).length ≤ n
  | 0 => Nat.le_refl _
  | n + 1 => by
    have := pcRow_len k n
    rw [pcRow_succ, List.length_append]
    unfold pcAt
    split <;> simp <;> omega
theorem pcAll_len (R : Nat) (hR : R ≤ 32) : ∀ n : Nat, (pcAll S a b T w n R).length ≤ 32 * n
  | 0 => Nat.le_refl _
  | n + 1 => by
    have h1 := pcAll_len R hR n
    have h2 := pcRow_len (S := S) (a := a) (b := b) (T := T) (w := w) (n : Nat) R
    rw [pcAll_succ, List.length_append]
    omega
end
end Go.Proofs.YtodgjgkoaahhmaaGreatDoor
namespace Go.Proofs.YtodgjgkoaahhmaaGreatDoor
open Go.SL
/-! ### slots -/
def Sl.enc (s : Sl) : List D := [.sc (.int .i64 s.b), .sc (.int .i64 s.r), .sc (.int .i64 s.t)]
/-- a row that is filled place by place -/
def fillL {α β : Type} (f : α → β) (z : β) (l : List α) (k : Nat) : List β := (l.take k).map f ++ List.replicate (l.length - k) z
section
variable {α β : Type} {f : α → β} {z : β} {l : List α}
theorem fillL_zero : fillL f z l 0 = List.replicate l.length z := by unfold fillL; simp
theorem fillL_all : fillL f z l l.length = l.map f := by unfold fillL; simp
theorem fillL_len {k : Nat} (hk : k ≤ l.length) : (fillL f z l k).length = l.length := by unfold fillL; simp; omega
theorem fillL_at {k : Nat} (hk : k < l.length) : (fillL f z l k)[k]? = some z := by
  unfold fillL
  rw [List.getElem?_append_right (by simp; omega)]
  simp [List.getElem?_replicate]
  omega
theorem fillL_set {k : Nat} {x : α} (hx : l[k]? = some x) : (fillL f z l k).set k (f x) = fillL f z l (k + 1) := by
  have hk : k < l.length := (List.getElem?_eq_some_iff.1 hx).1
  obtain ⟨m, hm⟩ : ∃ m, l.length - k = m + 1 := ⟨l.length - k - 1, by omega⟩
  have hl : ((l.take k).map f).length = k := by simp; omega
  unfold fillL
  rw [List.set_append_right _ _ (by omega), hl, Nat.sub_self, hm, List.replicate_succ, List.set_cons_zero, List.take_add_one, hx, show l.length - (k + 1) = m by omega]
  simp
end
set_option maxRecDepth 10000 in
set_option maxHeartbeats 8000000 in
theorem slots_ac (S : Ship) (L : List Load) (B R : Nat) (a b : Int) (T : List (Sl × Int)) (P : List ByteArray) (wt : Int) (hB' : S.bays = B) (hR : S.rows = R) (h32 : B ≤ 32 ∧ R ≤ 32) (ha : -137438953472 ≤ a ∧ a ≤ 137438953472) (hb : -137438953472 ≤ b ∧ b ≤ 137438953472) (hw : 0 ≤ wt ∧ wt ≤ 1048576) :
    AC Tryz.prog 41 [.ptr 1010 0, .d (.sc (.int .i64 wt))] (plA S L B R a b T P) plId (fun r h' => r = .d (.sl 3 (((isL ltC (pcAll S a b T wt B R)).map (·.sl)).map Sl.enc)) ∧ Kp (plA S L B R a b T P) h') := by
  have z0 : pcAll S a b T wt 0 R = [] := rfl
  have hlen := pcAll_len (S := S) (a := a) (b := b) (T := T) (w := wt) R h32.2
  refine AC_enter Tryz.func41 rfl Tryz.ntmps41 (rv := [.tmp 4]) rfl rfl (by simp) (fun w X G => ?_)
  repeat' (first | ((with_reducible refine gA ?_); (first | refine AW_seq ?_ | refine AW_region ?_ | refine AW_block ?_)) | ((with_reducible refine gS ?_); refine Es_s (T := Tryz.tab) rfl rfl rfl rfl ?_) | (with_reducible refine Es_nil ?_) | (with_reducible refine then_n ?_))
  refine AW_openNil (t := 5) (id := 2000) (e := 132) (sz := 4) rfl rfl rfl rfl ?_
  refine AW_forE (S := Nat) (fun k => k ≤ B) (fun k => [(19, .d (.sc (.int .i64 (k : Nat)))), (5, .own 2000 ((pcAll S a b T wt k R).map Pc.enc).length)]) (fun k => [(2000, some (.arr 132 4 ((pcAll S a b T wt k R).map Pc.enc)))]) (fun k => B - k) 0 (by omega) (by rw [z0]; (repeat' (first | exact trivial | exact rfl | (refine ⟨Or.inl rfl, ?_⟩) | (refine ⟨Or.inr rfl, ?_⟩) | (refine ⟨Or.inr trivial, ?_⟩) | (refine ⟨rfl, ?_⟩) | (refine ⟨?_, ?_⟩)))) (by rw [z0]; (repeat' (first | exact trivial | exact rfl | (refine ⟨Or.inl rfl, ?_⟩) | (refine ⟨Or.inr rfl, ?_⟩) | (refine ⟨Or.inr trivial, ?_⟩) | (refine ⟨rfl, ?_⟩) | (refine ⟨?_, ?_⟩)))) ?_
  intro k hk
  by_cases hlt : k < B
  · have g1 : ltb (k : Nat) S.bays = true := by rw [ltb_t]; omega
    have z1 : pcAll S a b T wt k R ++ pcRow S a b T wt (k : Nat) 0 = pcAll S a b T wt k R := by unfold pcRow; simp
    have hlk := hlen k
    rw [← z1]
    repeat' (first | ((with_reducible refine gA ?_); (first | refine AW_seq ?_ | refine AW_region ?_ | (refine AW_condY rfl ?_ ?_; assumption) | refine AW_block ?_ | refine AW_skip ?_)) | ((with_reducible refine gS ?_); refine Es_s (T := Tryz.tab) rfl rfl rfl rfl ?_) | (with_reducible refine Es_nil ?_) | (with_reducible refine then_n ?_))
    refine AW_forE (S := Nat) (fun j => j ≤ R) (fun j => [(27, .d (.sc (.int .i64 (j : Nat)))), (5, .own 2000 ((pcAll S a b T wt k R ++ pcRow S a b T wt (k : Nat) j).map Pc.enc).length)]) (fun j => [(2000, some (.arr 132 4 ((pcAll S a b T wt k R ++ pcRow S a b T wt (k : Nat) j).map Pc.enc)))]) (fun j => R - j) 0 (by omega) (by (repeat' (first | exact trivial | exact rfl | (refine ⟨Or.inl rfl, ?_⟩) | (refine ⟨Or.inr rfl, ?_⟩) | (refine ⟨Or.inr trivial, ?_⟩) | (refine ⟨rfl, ?_⟩) | (refine ⟨?_, ?_⟩)))) (by (repeat' (first | exact trivial | exact rfl | (refine ⟨Or.inl rfl, ?_⟩) | (refine ⟨Or.inr rfl, ?_⟩) | (refine ⟨Or.inr trivial, ?_⟩) | (refine ⟨rfl, ?_⟩) | (refine ⟨?_, ?_⟩)))) ?_
    intro j hj
    by_cases hlj : j < R
    · have g2 : ltb (j : Nat) S.rows = true := by rw [ltb_t]; omega
      have cw := with_ac S L B R a b T P k j wt hlt hlj hB' hR h32 ha hb hw
      have m1 := mul_in2 (w := wt) (q := 2 * (k : Nat) - S.bays + 1) hw (by omega)
      have m2 := mul_in2 (w := wt) (q := 2 * (j : Nat) - S.rows + 1) hw (by omega)
      have n1 : -137472507904 ≤ nowL S a k wt ∧ nowL S a k wt ≤ 137472507904 := by unfold nowL; omega
      have n2 : -137472507904 ≤ nowC S b j wt ∧ nowC S b j wt ≤ 137472507904 := by unfold nowC; omega
      have c1 := ssize_ac (nowL S a k wt) (by omega)
      have c2 := ssize_ac (nowC S b j wt) (by omega)
      have q1 := maxI_in n1
      have q2 := maxI_in n2
      have hrs := pcRow_succ (S := S) (a := a) (b := b) (T := T) (w := wt) (k : Nat) j
      have hrl := pcRow_len (S := S) (a := a) (b := b) (T := T) (w := wt) (k : Nat) j
      have hpc : pcAt S a b T wt (k : Nat) (j : Nat) = if tierOf T (k : Nat) (j : Nat) < S.tiers then [⟨maxI (nowL S a k wt) (-(nowL S a k wt)) + maxI (nowC S b j wt) (-(nowC S b j wt)), ⟨(k : Nat), (j : Nat), tierOf T (k : Nat) (j : Nat)⟩⟩] else [] := rfl
      have hm : (mfind (slV ⟨(k : Nat), (j : Nat), 0⟩) (emap slV iV T)).getD (.d (.sc (.int .i64 0))) = .d (.sc (.int .i64 (tierOf T (k : Nat) (j : Nat)))) := by
        rw [mfind_emap slV_keq]
        unfold tierOf
        cases aget (⟨(k : Nat), (j : Nat), 0⟩ : Sl) T <;> rfl
      have hll : (pcAll S a b T wt k R ++ pcRow S a b T wt (k : Nat) j).length ≤ 2048 := by rw [List.length_append]; omega
      rw [hpc] at hrs
      generalize tierOf T (k : Nat) (j : Nat) = ti at *
      generalize nowL S a k wt = u1 at *
      generalize nowC S b j wt = u2 at *
      generalize maxI u1 (-u1) = v1 at *
      generalize maxI u2 (-u2) = v2 at *
      clear hpc m1 m2
      by_cases ht : ti < S.tiers
      · have g3 : ltb ti S.tiers = true := by rw [ltb_t]; exact ht
        rw [if_pos ht] at hrs
        repeat' (first | ((with_reducible refine gA ?_); (first | refine AW_seq ?_ | refine AW_region ?_ | refine AW_regionD Tryz.mixed ?_ | (refine AW_condY rfl ?_ ?_; assumption) | refine AW_block ?_ | refine AW_skip ?_)) | (first | ((with_reducible refine gS ?_); refine Es_s (T := Tryz.tab) rfl rfl rfl rfl ?_) | ((with_reducible refine gD ?_); refine Ed_s (T := Tryz.tab) rfl rfl rfl rfl ?_)) | ((first | ((with_reducible refine gS ?_); apply Es_q) | ((with_reducible refine gD ?_); apply Ed_q)); rfl; rfl; (first | refine LStep_callB cw rfl rfl ⟨rfl, rfl, rfl, rfl, rfl, rfl, rfl, trivial⟩ rfl rfl | refine LStep_call (c1) rfl rfl rfl rfl | refine LStep_call (c2) rfl rfl rfl rfl | refine LStep_lookupF (T := Tryz.tab) rfl rfl rfl keySl rfl rfl rfl rfl rfl rfl (sl_keys _) hm)) | ((first | ((with_reducible refine gS ?_); apply Es_xs) | ((with_reducible refine gD ?_); apply Ed_xs)); rfl; rfl; (refine LStep_append (T := Tryz.tab) rfl rfl rfl rfl rfl rfl rfl rfl rfl rfl ?_ ?_ ?_; rfl; (rw [List.length_map]; simp only [List.length_cons, List.length_nil]; omega); (unfold maxLen; rw [List.length_map]; simp only [List.length_cons, List.length_nil]; omega)); rfl) | ((first | ((with_reducible refine gS ?_); apply Es_q) | ((with_reducible refine gD ?_); apply Ed_q)); rfl; rfl; (first | (refine LStep_add rfl rfl rfl rfl ?_; (refine IntWalk.i64_in _ ?_; first | omega | (simp only [cmps] at *; omega))) | (refine LStep_lit (T := Tryz.tab) rfl rfl rfl rfl rfl rfl rfl rfl ?_; (refine Nat.le_of_ble_eq_true ?_; rfl)) | refine LStep_buildN (T := Tryz.tab) rfl rfl rfl rfl rfl rfl rfl)) | (refine Es_skip rfl ?_ rfl ?_; (first | rfl | (refine w_tf ?_; assumption) | (refine w_ft ?_; assumption))) | (((with_reducible refine gS ?_); apply Es_xs); rfl; rfl; refine LStep_allocN (T := Tryz.tab) rfl rfl rfl rfl rfl rfl; rfl) | (((with_reducible refine gS ?_); apply Es_xn); rfl; rfl; (refine LStep_storeN (T := Tryz.tab) rfl rfl rfl rfl rfl rfl rfl ?_ rfl; (refine Nat.le_of_ble_eq_true ?_; rfl)); rfl) | (with_reducible refine Es_nil ?_) | ((with_reducible refine Ed_nil ?_ ?_); kernel_rfl) | (with_reducible refine then_n ?_) | (with_reducible refine block_n ?_))
        all_goals first
          | (refine ⟨j + 1, by omega, by omega, ?_, by (repeat' (first | exact trivial | exact rfl | (refine ⟨Or.inl rfl, ?_⟩) | (refine ⟨Or.inr rfl, ?_⟩) | (refine ⟨Or.inr trivial, ?_⟩) | (refine ⟨rfl, ?_⟩) | (refine ⟨?_, ?_⟩))), ?_, by (repeat' (first | exact trivial | exact rfl | (refine ⟨Or.inl rfl, ?_⟩) | (refine ⟨Or.inr rfl, ?_⟩) | (refine ⟨Or.inr trivial, ?_⟩) | (refine ⟨rfl, ?_⟩) | (refine ⟨?_, ?_⟩)))⟩
             · rw [hrs, ← List.append_assoc, List.map_append]; (repeat' (first | exact trivial | exact rfl | (refine ⟨Or.inl rfl, ?_⟩) | (refine ⟨Or.inr rfl, ?_⟩) | (refine ⟨Or.inr trivial, ?_⟩) | (refine ⟨rfl, ?_⟩) | (refine ⟨?_, ?_⟩)))
             · rw [hrs, ← List.append_assoc, List.map_append]; (repeat' (first | exact trivial | exact rfl | (refine ⟨Or.inl rfl, ?_⟩) | (refine ⟨Or.inr rfl, ?_⟩) | (refine ⟨Or.inr trivial, ?_⟩) | (refine ⟨rfl, ?_⟩) | (refine ⟨?_, ?_⟩))))
          | trace_state
      · have g3 : ltb ti S.tiers = false := by rw [ltb_f]; omega
        rw [if_neg ht, List.append_nil] at hrs
        repeat' (first | ((with_reducible refine gA ?_); (first | refine AW_seq ?_ | refine AW_region ?_ | refine AW_regionD Tryz.mixed ?_ | (refine AW_condY rfl ?_ ?_; assumption) | (refine AW_condN rfl ?_ ?_; assumption) | refine AW_block ?_ | refine AW_skip ?_)) | (first | ((with_reducible refine gS ?_); refine Es_s (T := Tryz.tab) rfl rfl rfl rfl ?_) | ((with_reducible refine gD ?_); refine Ed_s (T := Tryz.tab) rfl rfl rfl rfl ?_)) | ((first | ((with_reducible refine gS ?_); apply Es_q) | ((with_reducible refine gD ?_); apply Ed_q)); rfl; rfl; (first | refine LStep_callB cw rfl rfl ⟨rfl, rfl, rfl, rfl, rfl, rfl, rfl, trivial⟩ rfl rfl | refine LStep_call (c1) rfl rfl rfl rfl | refine LStep_call (c2) rfl rfl rfl rfl | refine LStep_lookupF (T := Tryz.tab) rfl rfl rfl keySl rfl rfl rfl rfl rfl rfl (sl_keys _) hm)) | ((first | ((with_reducible refine gS ?_); apply Es_q) | ((with_reducible refine gD ?_); apply Ed_q)); rfl; rfl; (first | (refine LStep_add rfl rfl rfl rfl ?_; (refine IntWalk.i64_in _ ?_; first | omega | (simp only [cmps] at *; omega))) | refine LStep_buildN (T := Tryz.tab) rfl rfl rfl rfl rfl rfl rfl)) | (refine Es_skip rfl ?_ rfl ?_; (first | rfl | (refine w_tf ?_; assumption) | (refine w_ft ?_; assumption))) | (((with_reducible refine gS ?_); apply Es_xs); rfl; rfl; refine LStep_allocN (T := Tryz.tab) rfl rfl rfl rfl rfl rfl; rfl) | (((with_reducible refine gS ?_); apply Es_xn); rfl; rfl; (refine LStep_storeN (T := Tryz.tab) rfl rfl rfl rfl rfl rfl rfl ?_ rfl; (refine Nat.le_of_ble_eq_true ?_; rfl)); rfl) | (with_reducible refine Es_nil ?_) | ((with_reducible refine Ed_nil ?_ ?_); kernel_rfl) | (with_reducible refine then_n ?_) | (with_reducible refine block_n ?_))
        all_goals first
          | (refine ⟨j + 1, by omega, by omega, ?_, by (repeat' (first | exact trivial | exact rfl | (refine ⟨Or.inl rfl, ?_⟩) | (refine ⟨Or.inr rfl, ?_⟩) | (refine ⟨Or.inr trivial, ?_⟩) | (refine ⟨rfl, ?_⟩) | (refine ⟨?_, ?_⟩))), ?_, by (repeat' (first | exact trivial | exact rfl | (refine ⟨Or.inl rfl, ?_⟩) | (refine ⟨Or.inr rfl, ?_⟩) | (refine ⟨Or.inr trivial, ?_⟩) | (refine ⟨rfl, ?_⟩) | (refine ⟨?_, ?_⟩)))⟩
             · rw [hrs]; (repeat' (first | exact trivial | exact rfl | (refine ⟨Or.inl rfl, ?_⟩) | (refine ⟨Or.inr rfl, ?_⟩) | (refine ⟨Or.inr trivial, ?_⟩) | (refine ⟨rfl, ?_⟩) | (refine ⟨?_, ?_⟩)))
             · rw [hrs]; (repeat' (first | exact trivial | exact rfl | (refine ⟨Or.inl rfl, ?_⟩) | (refine ⟨Or.inr rfl, ?_⟩) | (refine ⟨Or.inr trivial, ?_⟩) | (refine ⟨rfl, ?_⟩) | (refine ⟨?_, ?_⟩))))
          | trace_state
    · have : j = R := by omega
      subst this
      have g2 : ltb (j : Nat) S.rows = false := by rw [ltb_f]; omega
      have hs := pcAll_succ (S := S) (a := a) (b := b) (T := T) (w := wt) k j
      repeat' (first | ((with_reducible refine gA ?_); (first | refine AW_seq ?_ | refine AW_region ?_ | (refine AW_condN rfl ?_ ?_; assumption) | refine AW_exit ?_)) | ((with_reducible refine gS ?_); refine Es_s (T := Tryz.tab) rfl rfl rfl rfl ?_) | (((with_reducible refine gS ?_); apply Es_q); rfl; rfl; (refine LStep_add rfl rfl rfl rfl ?_; (refine IntWalk.i64_in _ ?_; first | omega | (simp only [cmps] at *; omega)))) | (with_reducible refine Es_nil ?_) | (with_reducible refine then_n ?_) | (with_reducible refine then_e ?_) | (with_reducible refine block_n ?_) | ((with_reducible refine block_e ?_ ?_); rfl))
      all_goals first
        | (refine ⟨k + 1, by omega, by omega, ?_, by (repeat' (first | exact trivial | exact rfl | (refine ⟨Or.inl rfl, ?_⟩) | (refine ⟨Or.inr rfl, ?_⟩) | (refine ⟨Or.inr trivial, ?_⟩) | (refine ⟨rfl, ?_⟩) | (refine ⟨?_, ?_⟩))), ?_, by (repeat' (first | exact trivial | exact rfl | (refine ⟨Or.inl rfl, ?_⟩) | (refine ⟨Or.inr rfl, ?_⟩) | (refine ⟨Or.inr trivial, ?_⟩) | (refine ⟨rfl, ?_⟩) | (refine ⟨?_, ?_⟩)))⟩
           · rw [hs]; (repeat' (first | exact trivial | exact rfl | (refine ⟨Or.inl rfl, ?_⟩) | (refine ⟨Or.inr rfl, ?_⟩) | (refine ⟨Or.inr trivial, ?_⟩) | (refine ⟨rfl, ?_⟩) | (refine ⟨?_, ?_⟩)))
           · rw [hs]; (repeat' (first | exact trivial | exact rfl | (refine ⟨Or.inl rfl, ?_⟩) | (refine ⟨Or.inr rfl, ?_⟩) | (refine ⟨Or.inr trivial, ?_⟩) | (refine ⟨rfl, ?_⟩) | (refine ⟨?_, ?_⟩))))
        | trace_state
  · have : k = B := by omega
    subst this
    have g1 : ltb (k : Nat) S.bays = false := by rw [ltb_f]; omega
    have cs := sortPc_ac (pcAll S a b T wt k R) (by have := hlen k; omega)
    have hls : (isL ltC (pcAll S a b T wt k R)).length = (pcAll S a b T wt k R).length := (isL_perm _).length_eq
    have hl2 := hlen k
    generalize isL ltC (pcAll S a b T wt k R) = e at *
    generalize pcAll S a b T wt k R = e0 at *
    have hfz : (e.map Pc.enc).length = (e0.map Pc.enc).length := by rw [List.length_map, List.length_map, hls]
    have hn0 : (e0.map Pc.enc).length = e.length := by rw [List.length_map, hls]
    rw [hn0]
    have cs' : AC Tryz.prog 76 [.own 1000 e.length, .fn 77 []] (H0 132 4 (e0.map Pc.enc)) [1000] (fun r h' => r = .tup [] ∧ SubH (H0 132 4 (e.map Pc.enc)) h') := by rw [hls]; exact cs
    repeat' (first | ((with_reducible refine gA ?_); refine AW_freeze [5] (id := 2000) ⟨rfl, trivial⟩ rfl (List.length_map _) ?_) | ((with_reducible refine gA ?_); (first | refine AW_seq ?_ | refine AW_region ?_ | (refine AW_condN rfl ?_ ?_; assumption) | refine AW_block ?_ | refine AW_exit ?_)) | ((with_reducible refine gS ?_); refine Es_s (T := Tryz.tab) rfl rfl rfl rfl ?_) | (((with_reducible refine gS ?_); apply Es_q); rfl; rfl; refine LStep_lenOwn (T := Tryz.tab) rfl rfl rfl rfl rfl List.length_replicate) | (((with_reducible refine gS ?_); apply Es_xs); rfl; rfl; (refine LStep_makeOwn (T := Tryz.tab) rfl rfl rfl rfl rfl rfl rfl rfl rfl rfl ?_ ?_ ?_ ?_; omega; omega; omega; omega); rfl) | (((with_reducible refine gS ?_); apply Es_xg); rfl; rfl; refine LStep_callHN [(1000, 2000)] [] cs' rfl rfl ⟨rfl, trivial⟩ rfl ⟨hfz.symm, trivial⟩ rfl rfl; rfl) | (((with_reducible refine gS ?_); apply Es_q); rfl; rfl; refine LStep_lenM (T := Tryz.tab) rfl rfl rfl rfl) | (with_reducible refine Es_nil ?_) | (with_reducible refine then_n ?_) | (with_reducible refine then_e ?_) | ((with_reducible refine block_e ?_ ?_); rfl))
    simp only [Int.toNat_natCast]
    refine AW_forE (S := Nat) (fun j => j ≤ e.length) (fun j => [(75, .d (.sc (.int .i64 (j : Nat))))]) (fun j => [(72, some (.arr 38 3 (fillL (fun x : Pc => x.sl.enc) (Sl.enc ⟨0, 0, 0⟩) e j)))]) (fun j => e.length - j) 0 (by omega) (by (repeat' (first | exact trivial | exact rfl | (refine ⟨Or.inl rfl, ?_⟩) | (refine ⟨Or.inr rfl, ?_⟩) | (refine ⟨Or.inr trivial, ?_⟩) | (refine ⟨rfl, ?_⟩) | (refine ⟨?_, ?_⟩)))) (by rw [fillL_zero]; (repeat' (first | exact trivial | exact rfl | (refine ⟨Or.inl rfl, ?_⟩) | (refine ⟨Or.inr rfl, ?_⟩) | (refine ⟨Or.inr trivial, ?_⟩) | (refine ⟨rfl, ?_⟩) | (refine ⟨?_, ?_⟩)))) ?_
    intro j hj
    by_cases hlj : j < e.length
    · have g2 : ltb (j : Nat) (e.length : Nat) = true := by rw [ltb_t]; omega
      obtain ⟨x, hx⟩ : ∃ x, e[j]? = some x := ⟨e[j], List.getElem?_eq_getElem hlj⟩
      have hs := fillL_set (f := fun x : Pc => x.sl.enc) (z := Sl.enc ⟨0, 0, 0⟩) hx
      have hat := fillL_at (f := fun x : Pc => x.sl.enc) (z := Sl.enc ⟨0, 0, 0⟩) hlj
      have hfl := fillL_len (f := fun x : Pc => x.sl.enc) (z := Sl.enc ⟨0, 0, 0⟩) (Nat.le_of_lt hlj)
      repeat' (first | ((with_reducible refine gA ?_); (first | refine AW_seq ?_ | refine AW_region ?_ | (refine AW_condY rfl ?_ ?_; assumption) | refine AW_block ?_ | refine AW_skip ?_)) | ((with_reducible refine gS ?_); refine Es_s (T := Tryz.tab) rfl rfl rfl rfl ?_) | (((with_reducible refine gS ?_); apply Es_q); rfl; rfl; refine LStep_indexOwnM (T := Tryz.tab) rfl rfl rfl rfl rfl rfl rfl hfl (by rw [hfl]; exact hlj)) | (((with_reducible refine gS ?_); apply Es_xn); rfl; rfl; refine LStep_storeEW (e' := x.sl.enc) (T := Tryz.tab) rfl rfl rfl rfl rfl rfl hfl hat rfl rfl rfl; rfl) | (((with_reducible refine gS ?_); apply Es_q); rfl; rfl; (first | (refine LStep_add rfl rfl rfl rfl ?_; (refine IntWalk.i64_in _ ?_; first | omega | (simp only [cmps] at *; omega))) | (refine LStep_indexM (T := Tryz.tab) (c := ?_) rfl rfl rfl rfl rfl rfl ?_; rotate_left; assumption))) | (with_reducible refine Es_nil ?_) | (with_reducible refine then_n ?_) | (with_reducible refine block_n ?_))
      exact ⟨j + 1, by omega, by omega, by (repeat' (first | exact trivial | exact rfl | (refine ⟨Or.inl rfl, ?_⟩) | (refine ⟨Or.inr rfl, ?_⟩) | (refine ⟨Or.inr trivial, ?_⟩) | (refine ⟨rfl, ?_⟩) | (refine ⟨?_, ?_⟩))), by (repeat' (first | exact trivial | exact rfl | (refine ⟨Or.inl rfl, ?_⟩) | (refine ⟨Or.inr rfl, ?_⟩) | (refine ⟨Or.inr trivial, ?_⟩) | (refine ⟨rfl, ?_⟩) | (refine ⟨?_, ?_⟩))), by dsimp only; rw [← hs]; (repeat' (first | exact trivial | exact rfl | (refine ⟨Or.inl rfl, ?_⟩) | (refine ⟨Or.inr rfl, ?_⟩) | (refine ⟨Or.inr trivial, ?_⟩) | (refine ⟨rfl, ?_⟩) | (refine ⟨?_, ?_⟩))), by (repeat' (first | exact trivial | exact rfl | (refine ⟨Or.inl rfl, ?_⟩) | (refine ⟨Or.inr rfl, ?_⟩) | (refine ⟨Or.inr trivial, ?_⟩) | (refine ⟨rfl, ?_⟩) | (refine ⟨?_, ?_⟩)))⟩
    · have : j = e.length := by omega
      subst this
      have g2 : ltb (e.length : Nat) (e.length : Nat) = false := by rw [ltb_f]; omega
      repeat' (first | ((with_reducible refine gRc ?_); refine AW_freeze [4] (id := 72) ⟨rfl, trivial⟩ rfl (fillL_len (Nat.le_refl _)) ?_) | ((with_reducible refine gA ?_); (first | refine AW_seq ?_ | refine AW_region ?_ | (refine AW_condN rfl ?_ ?_; assumption) | refine AW_ret ?_ | refine AW_exit ?_)) | ((with_reducible refine gS ?_); refine Es_s (T := Tryz.tab) rfl rfl rfl rfl ?_) | (with_reducible refine Es_nil ?_) | (with_reducible refine then_n ?_) | (with_reducible refine then_e ?_) | ((with_reducible refine block_e ?_ ?_); rfl) | ((with_reducible refine gR ?_); first | refine ret1 rfl ?_ | refine ret2 rfl rfl ?_ | refine ret0 ?_ | refine end1 rfl ?_ | refine end0 ?_))
      refine ⟨?_, ?_⟩
      · show _ = AV.d (D.sl 3 ((e.map (·.sl)).map Sl.enc))
        rw [List.map_map]
        exact congrArg (fun v => AV.d (D.sl 3 v)) fillL_all
      · exact SubH.each (H := plA S L k R a b T P) (by (repeat' (first | exact trivial | exact rfl | (refine ⟨Or.inl rfl, ?_⟩) | (refine ⟨Or.inr rfl, ?_⟩) | (refine ⟨Or.inr trivial, ?_⟩) | (refine ⟨rfl, ?_⟩) | (refine ⟨?_, ?_⟩))))
end Go.Proofs.YtodgjgkoaahhmaaGreatDoor
namespace Go.Proofs.YtodgjgkoaahhmaaGreatDoor
open Go.SL
/-! ### twice -/
def bV (b : Bool) : AV := .d (.sc (.bool b))
def boxM (l : List Load) : List (ByteArray × Bool) := l.map fun x => (x.box, true)
theorem boxM_no {b : ByteArray} {l : List Load} (h : b ∉ l.map (·.box)) : aget b (boxM l) = none := by
  rw [aget_none]
  intro hm
  apply h
  unfold akeys boxM at hm
  rw [List.map_map] at hm
  exact hm
theorem boxM_yes {b : ByteArray} {l : List Load} (h : b ∈ l.map (·.box)) : aget b (boxM l) = some true := by
  cases hq : aget b (boxM l) with
  | none =>
    rw [aget_none] at hq
    exfalso; apply hq
    unfold akeys boxM
    rw [List.map_map]
    exact h
  | some c =>
    have := aget_mem hq
    unfold boxM at this
    obtain ⟨x, _, hx⟩ := List.mem_map.1 this
    injection hx with _ h2
    rw [← h2]
theorem box_keys (l : List (ByteArray × Bool)) : ∀ p ∈ emap sV bV l, keyB .string p.1 = true := by
  intro p hp
  obtain ⟨q, _, rfl⟩ := List.mem_map.1 hp
  rfl
def twiceB (l : List Load) : Bool := !decide ((l.map (·.box)).Nodup)
theorem twice_step {l : List Load} {k : Nat} {x : Load} (hx : l[k]? = some x) (hn : ((l.take k).map (·.box)).Nodup) :
    (x.box ∈ (l.take k).map (·.box) → twiceB l = true) ∧ (x.box ∉ (l.take k).map (·.box) → ((l.take (k + 1)).map (·.box)).Nodup ∧ boxM (l.take (k + 1)) = boxM (l.take k) ++ [(x.box, true)]) := by
  have ht : l.take (k + 1) = l.take k ++ [x] := by rw [List.take_add_one, hx]; rfl
  refine ⟨fun h => ?_, fun h => ⟨?_, ?_⟩⟩
  · have hnn : ¬ (l.map (·.box)).Nodup := by
      intro hq
      have hq2 : ((l.take (k + 1)).map (·.box)).Nodup := by
        rw [List.map_take]
        exact hq.sublist (List.take_sublist _ _)
      rw [ht, List.map_append, List.nodup_append] at hq2
      exact hq2.2.2 _ h _ (by simp) rfl
    unfold twiceB
    rw [decide_eq_false hnn]; rfl
  · rw [ht, List.map_append, List.nodup_append]
    refine ⟨hn, by simp, fun a ha b hb => ?_⟩
    simp only [List.map_cons, List.map_nil, List.mem_singleton] at hb
    subst hb
    rintro rfl
    exact h ha
  · unfold boxM
    rw [ht, List.map_append]; rfl
set_option maxRecDepth 10000 in
set_option maxHeartbeats 4000000 in
theorem twice_ac (l : List Load) (hl : l.length ≤ 1048576) : AC Tryz.prog 13 [.d (.sl 7 (l.map Load.enc))] [] [] (fun r _ => r = .d (.sc (.bool (twiceB l)))) := by
  refine AC_enter Tryz.func13 rfl Tryz.ntmps13 (rv := [.tmp 2]) rfl rfl (by simp) (fun w X G => ?_)
  repeat' (first | ((with_reducible refine gA ?_); (first | refine AW_seq ?_ | refine AW_region ?_ | refine AW_block ?_)) | ((with_reducible refine gS ?_); refine Es_s (T := Tryz.tab) rfl rfl rfl rfl ?_) | (((with_reducible refine gS ?_); apply Es_xs); rfl; rfl; refine lstep_makeMapT (T := Tryz.tab) rfl rfl rfl rfl rfl; rfl) | (((with_reducible refine gS ?_); apply Es_q); rfl; rfl; refine LStep_lenM (T := Tryz.tab) rfl rfl rfl rfl) | (with_reducible refine Es_nil ?_) | (with_reducible refine then_n ?_))
  refine AW_forE (S := Nat) (fun k => k ≤ l.length ∧ ((l.take k).map (·.box)).Nodup) (fun k => [(9, .d (.sc (.int .i64 (k : Nat))))]) (fun k => [(6, some (.map 9 4 (emap sV bV (boxM (l.take k))) none))]) (fun k => l.length - k) 0 ⟨by omega, by simp⟩ (by (repeat' (first | exact trivial | exact rfl | (refine ⟨Or.inl rfl, ?_⟩) | (refine ⟨Or.inr rfl, ?_⟩) | (refine ⟨Or.inr trivial, ?_⟩) | (refine ⟨rfl, ?_⟩) | (refine ⟨?_, ?_⟩)))) (by show SubH [(6, some (.map 9 4 [] none))] _; (repeat' (first | exact trivial | exact rfl | (refine ⟨Or.inl rfl, ?_⟩) | (refine ⟨Or.inr rfl, ?_⟩) | (refine ⟨Or.inr trivial, ?_⟩) | (refine ⟨rfl, ?_⟩) | (refine ⟨?_, ?_⟩)))) ?_
  intro k ⟨hk, hnd⟩
  by_cases hlt : k < l.length
  · obtain ⟨x, hx⟩ : ∃ x, l[k]? = some x := ⟨_, List.getElem?_eq_getElem hlt⟩
    obtain ⟨s1, s2⟩ := twice_step hx hnd
    have g1 : ltb (k : Nat) (l.length : Nat) = true := by rw [ltb_t]; omega
    by_cases hm : x.box ∈ (l.take k).map (·.box)
    · have hf := mfind_some (cv := bV) sV_keq (boxM_yes hm)
      rw [s1 hm]
      repeat' (first | ((with_reducible refine gA ?_); (first | refine AW_seq ?_ | refine AW_region ?_ | refine AW_condT rfl ?_ | (refine AW_condY rfl ?_ ?_; assumption) | refine AW_block ?_ | refine AW_ret ?_ | refine AW_skip ?_)) | ((with_reducible refine gS ?_); refine Es_s (T := Tryz.tab) rfl rfl rfl rfl ?_) | (((with_reducible refine gS ?_); apply Es_q); rfl; rfl; refine LStep_lookup (T := Tryz.tab) (c := bV true) rfl rfl rfl rfl rfl rfl rfl rfl (box_keys _) hf) | (((with_reducible refine gS ?_); apply Es_q); rfl; rfl; (refine LStep_indexM (T := Tryz.tab) (c := ?_) rfl rfl rfl rfl rfl rfl ?_; rotate_left; assumption)) | (refine Es_skip rfl ?_ rfl ?_; (first | rfl | (refine w_tf ?_; assumption) | (refine w_ft ?_; assumption))) | (((with_reducible refine gS ?_); apply Es_xs); rfl; rfl; refine LStep_allocN (T := Tryz.tab) rfl rfl rfl rfl rfl rfl; rfl) | (((with_reducible refine gS ?_); apply Es_xn); rfl; rfl; (refine LStep_storeN (T := Tryz.tab) rfl rfl rfl rfl rfl rfl rfl ?_ rfl; (refine Nat.le_of_ble_eq_true ?_; rfl)); rfl) | (with_reducible refine Es_nil ?_) | (with_reducible refine then_n ?_) | (with_reducible refine then_r ?_) | (with_reducible refine block_r ?_) | ((with_reducible refine gR ?_); first | refine ret1 rfl ?_ | refine ret2 rfl rfl ?_ | refine ret0 ?_ | refine end1 rfl ?_ | refine end0 ?_))
      all_goals rfl
    · have hf := mfind_no (cv := bV) sV_keq (boxM_no hm)
      obtain ⟨n1, n2⟩ := s2 hm
      have hp : mput (sV x.box) (bV true) (emap sV bV (boxM (l.take k))) = emap sV bV (boxM (l.take (k + 1))) := by
        rw [mput_emap sV_keq, aput_new (boxM_no hm), n2]
      repeat' (first | ((with_reducible refine gA ?_); (first | refine AW_seq ?_ | refine AW_region ?_ | refine AW_condF rfl ?_ | (refine AW_condY rfl ?_ ?_; assumption) | refine AW_block ?_ | refine AW_skip ?_)) | ((with_reducible refine gS ?_); refine Es_s (T := Tryz.tab) rfl rfl rfl rfl ?_) | (((with_reducible refine gS ?_); apply Es_q); rfl; rfl; refine LStep_lookup0 (T := Tryz.tab) rfl rfl rfl rfl rfl rfl rfl rfl (box_keys _) rfl rfl hf) | (((with_reducible refine gS ?_); apply Es_xn); rfl; rfl; refine LStep_mapUpdate (T := Tryz.tab) rfl rfl rfl rfl rfl rfl rfl rfl rfl (box_keys _) rfl; rfl) | (((with_reducible refine gS ?_); apply Es_q); rfl; rfl; (first | (refine LStep_add rfl rfl rfl rfl ?_; (refine IntWalk.i64_in _ ?_; first | omega | (simp only [cmps] at *; omega))) | (refine LStep_indexM (T := Tryz.tab) (c := ?_) rfl rfl rfl rfl rfl rfl ?_; rotate_left; assumption))) | (refine Es_skip rfl ?_ rfl ?_; (first | rfl | (refine w_tf ?_; assumption) | (refine w_ft ?_; assumption))) | (((with_reducible refine gS ?_); apply Es_xs); rfl; rfl; refine LStep_allocN (T := Tryz.tab) rfl rfl rfl rfl rfl rfl; rfl) | (((with_reducible refine gS ?_); apply Es_xn); rfl; rfl; (refine LStep_storeN (T := Tryz.tab) rfl rfl rfl rfl rfl rfl rfl ?_ rfl; (refine Nat.le_of_ble_eq_true ?_; rfl)); rfl) | (with_reducible refine Es_nil ?_) | (with_reducible refine then_n ?_) | (with_reducible refine block_n ?_))
      all_goals first
        | exact ⟨k + 1, ⟨by omega, n1⟩, by omega, by (repeat' (first | exact trivial | exact rfl | (refine ⟨Or.inl rfl, ?_⟩) | (refine ⟨Or.inr rfl, ?_⟩) | (refine ⟨Or.inr trivial, ?_⟩) | (refine ⟨rfl, ?_⟩) | (refine ⟨?_, ?_⟩))), by (repeat' (first | exact trivial | exact rfl | (refine ⟨Or.inl rfl, ?_⟩) | (refine ⟨Or.inr rfl, ?_⟩) | (refine ⟨Or.inr trivial, ?_⟩) | (refine ⟨rfl, ?_⟩) | (refine ⟨?_, ?_⟩))), by dsimp only; rw [← hp]; (repeat' (first | exact trivial | exact rfl | (refine ⟨Or.inl rfl, ?_⟩) | (refine ⟨Or.inr rfl, ?_⟩) | (refine ⟨Or.inr trivial, ?_⟩) | (refine ⟨rfl, ?_⟩) | (refine ⟨?_, ?_⟩))), by (repeat' (first | exact trivial | exact rfl | (refine ⟨Or.inl rfl, ?_⟩) | (refine ⟨Or.inr rfl, ?_⟩) | (refine ⟨Or.inr trivial, ?_⟩) | (refine ⟨rfl, ?_⟩) | (refine ⟨?_, ?_⟩)))⟩
        | trace_state
  · have : k = l.length := by omega
    subst this
    rw [List.take_length] at hnd
    have g1 : ltb (l.length : Nat) (l.length : Nat) = false := by rw [ltb_f]; omega
    have ht : twiceB l = false := by unfold twiceB; rw [decide_eq_true hnd]; rfl
    rw [ht]
    repeat' (first | ((with_reducible refine gA ?_); (first | refine AW_seq ?_ | refine AW_region ?_ | (refine AW_condN rfl ?_ ?_; assumption) | refine AW_ret ?_ | refine AW_exit ?_)) | ((with_reducible refine gS ?_); refine Es_s (T := Tryz.tab) rfl rfl rfl rfl ?_) | (with_reducible refine Es_nil ?_) | (with_reducible refine then_n ?_) | (with_reducible refine then_e ?_) | ((with_reducible refine block_e ?_ ?_); rfl) | ((with_reducible refine gR ?_); first | refine ret1 rfl ?_ | refine ret2 rfl rfl ?_ | refine ret0 ?_ | refine end1 rfl ?_ | refine end0 ?_))
    all_goals rfl
/-! ### mayAll -/
def mayAllB (S : Ship) (l : List Load) : Bool := shipOk S && l.all mayL
def offS (x : Load) : Load := { x with sl := ⟨-1, 0, 0⟩ }
theorem offS_put (S : Ship) (x : Load) : putE S [] (offS x) = (if mayL x = true then 3 else 1) ∧ putL S [] (offS x) = [] := by
  have e : putE S [] (offS x) = if mayL x = true then 3 else 1 := by
    have h1 : mayL (offS x) = mayL x := rfl
    have h2 : (byB [] (offS x).box).isSome = false := rfl
    have h3 : onB S (offS x).sl = false := by
      cases h : onB S (offS x).sl with
      | false => rfl
      | true =>
        simp only [onB, offS, Bool.and_eq_true, frB_t] at h
        omega
    unfold putE
    rw [h1, h2, h3]
    cases mayL x <;> rfl
  refine ⟨e, ?_⟩
  unfold putL
  rw [e]
  cases mayL x <;> rfl
theorem may_step {l : List Load} {k : Nat} {x : Load} (hx : l[k]? = some x) (hn : (l.take k).all mayL = true) : (mayL x = false → l.all mayL = false) ∧ (mayL x = true → (l.take (k + 1)).all mayL = true) := by
  have ht : l.take (k + 1) = l.take k ++ [x] := by rw [List.take_add_one, hx]; rfl
  refine ⟨fun h => ?_, fun h => by rw [ht, List.all_append, hn]; simp [h]⟩
  rw [List.all_eq_false]
  exact ⟨x, List.mem_of_getElem? hx, by simp [h]⟩
set_option maxRecDepth 10000 in
set_option maxHeartbeats 4000000 in
theorem mayAllNo_ac (S : Ship) (l : List Load) (hS : shipOk S = false) : AC Tryz.prog 12 [.agg S.cs, .d (.sl 7 (l.map Load.enc))] [hG] [9000] (fun r h' => r = .d (.sc (.bool false)) ∧ SubH [hG] h') := by
  have cn := newNo_ac S hS
  have f01 : (!(eqb 1 0)) = true := by simp [eqb]
  refine AC_enter Tryz.func12 rfl Tryz.ntmps12 (rv := [.tmp 4]) rfl rfl (by simp) (fun w X G => ?_)
  repeat' (first | ((with_reducible refine gA ?_); (first | refine AW_seq ?_ | refine AW_region ?_ | (refine AW_condY rfl ?_ ?_; assumption) | refine AW_ret ?_)) | ((with_reducible refine gS ?_); refine Es_s (T := Tryz.tab) rfl rfl rfl rfl ?_) | (((with_reducible refine gS ?_); apply Es_q); rfl; rfl; refine LStep_call (cn) rfl rfl rfl rfl) | (refine Es_skip rfl ?_ rfl ?_; (first | rfl | (refine w_tf ?_; assumption) | (refine w_ft ?_; assumption))) | (((with_reducible refine gS ?_); apply Es_xs); rfl; rfl; refine LStep_boxN rfl rfl rfl rfl rfl rfl; rfl) | (with_reducible refine Es_nil ?_) | (with_reducible refine then_n ?_) | (with_reducible refine then_r ?_) | ((with_reducible refine gR ?_); first | refine ret1 rfl ?_ | refine ret2 rfl rfl ?_ | refine ret0 ?_ | refine end1 rfl ?_ | refine end0 ?_))
  all_goals exact ⟨rfl, by (repeat' (first | exact trivial | exact rfl | (refine ⟨Or.inl rfl, ?_⟩) | (refine ⟨Or.inr rfl, ?_⟩) | (refine ⟨Or.inr trivial, ?_⟩) | (refine ⟨rfl, ?_⟩) | (refine ⟨?_, ?_⟩)))⟩
set_option maxRecDepth 10000 in
set_option maxHeartbeats 4000000 in
theorem mayAll_ac (S : Ship) (l : List Load) (hl : l.length ≤ 1048576) : AC Tryz.prog 12 [.agg S.cs, .d (.sl 7 (l.map Load.enc))] [hG] [9000] (fun r h' => r = .d (.sc (.bool (mayAllB S l))) ∧ SubH [hG] h') := by
  cases e1 : shipOk S with
  | false =>
    have e : mayAllB S l = false := by unfold mayAllB; rw [e1]; rfl
    rw [e]
    exact mayAllNo_ac S l e1
  | true =>
  have f00 : (!(eqb 0 0)) = false := by simp [eqb]
  have e0 : mayAllB S l = l.all mayL := by unfold mayAllB; rw [e1]; rfl
  have cn := newOk_ac S e1
  rw [e0]
  refine AC_enter Tryz.func12 rfl Tryz.ntmps12 (rv := [.tmp 4]) rfl rfl (by simp) (fun w X G => ?_)
  repeat' (first | ((with_reducible refine gA ?_); (first | refine AW_seq ?_ | refine AW_region ?_ | (refine AW_condN rfl ?_ ?_; assumption) | refine AW_block ?_ | refine AW_skip ?_)) | ((with_reducible refine gS ?_); refine Es_s (T := Tryz.tab) rfl rfl rfl rfl ?_) | (((with_reducible refine gS ?_); apply Es_xg); rfl; rfl; refine LStep_callHN [] [(11, 1000), (8, 1001), (9, 1002)] cn rfl rfl trivial rfl trivial rfl rfl; rfl) | (((with_reducible refine gS ?_); apply Es_q); rfl; rfl; refine LStep_lenM (T := Tryz.tab) rfl rfl rfl rfl) | (refine Es_skip rfl ?_ rfl ?_; (first | rfl | (refine w_tf ?_; assumption) | (refine w_ft ?_; assumption))) | (((with_reducible refine gS ?_); apply Es_xs); rfl; rfl; refine LStep_boxN rfl rfl rfl rfl rfl rfl; rfl) | (with_reducible refine Es_nil ?_) | (with_reducible refine then_n ?_))
  refine AW_forE (S := Nat) (fun k => k ≤ l.length ∧ (l.take k).all mayL = true) (fun k => [(18, .d (.sc (.int .i64 (k : Nat))))]) (fun k => hB S []) (fun k => l.length - k) 0 ⟨by omega, by simp⟩ (by (repeat' (first | exact trivial | exact rfl | (refine ⟨Or.inl rfl, ?_⟩) | (refine ⟨Or.inr rfl, ?_⟩) | (refine ⟨Or.inr trivial, ?_⟩) | (refine ⟨rfl, ?_⟩) | (refine ⟨?_, ?_⟩)))) (by (repeat' (first | exact trivial | exact rfl | (refine ⟨Or.inl rfl, ?_⟩) | (refine ⟨Or.inr rfl, ?_⟩) | (refine ⟨Or.inr trivial, ?_⟩) | (refine ⟨rfl, ?_⟩) | (refine ⟨?_, ?_⟩)))) ?_
  intro k ⟨hk, hnd⟩
  by_cases hlt : k < l.length
  · obtain ⟨x, hx⟩ : ∃ x, l[k]? = some x := ⟨_, List.getElem?_eq_getElem hlt⟩
    obtain ⟨s1, s2⟩ := may_step hx hnd
    obtain ⟨p1, p2⟩ := offS_put S x
    have cp := put_ac S [] (offS x) (inv00 e1) e1 (tot_in2 (inv00 e1) e1)
    rw [p1, p2] at cp
    have g1 : ltb (k : Nat) (l.length : Nat) = true := by rw [ltb_t]; omega
    cases hm : mayL x with
    | false =>
      rw [hm] at cp
      rw [s1 hm]
      have f1 : eqb 1 1 = true := by simp [eqb]
      have cp' := cp
      simp only [Bool.false_eq_true, if_false] at cp'
      repeat' (first | ((with_reducible refine gA ?_); (first | refine AW_seq ?_ | refine AW_region ?_ | (refine AW_condY rfl ?_ ?_; assumption) | refine AW_block ?_ | refine AW_ret ?_ | refine AW_skip ?_)) | ((with_reducible refine gS ?_); refine Es_s (T := Tryz.tab) rfl rfl rfl rfl ?_) | (((with_reducible refine gS ?_); apply Es_xg); rfl; rfl; refine LStep_callHN [] [] cp' rfl rfl ⟨rfl, rfl, rfl, rfl, trivial⟩ rfl ⟨trivial, trivial, trivial, trivial, trivial⟩ rfl rfl; rfl) | (((with_reducible refine gS ?_); apply Es_q); rfl; rfl; (first | (refine LStep_indexM (T := Tryz.tab) (c := ?_) rfl rfl rfl rfl rfl rfl ?_; rotate_left; assumption) | refine LStep_buildN (T := Tryz.tab) rfl rfl rfl rfl rfl rfl rfl)) | (refine Es_skip rfl ?_ rfl ?_; (first | rfl | (refine w_tf ?_; assumption) | (refine w_ft ?_; assumption))) | (((with_reducible refine gS ?_); apply Es_xs); rfl; rfl; refine LStep_allocN (T := Tryz.tab) rfl rfl rfl rfl rfl rfl; rfl) | (((with_reducible refine gS ?_); apply Es_xn); rfl; rfl; (refine LStep_storeN (T := Tryz.tab) rfl rfl rfl rfl rfl rfl rfl ?_ rfl; (refine Nat.le_of_ble_eq_true ?_; rfl)); rfl) | (with_reducible refine Es_nil ?_) | (with_reducible refine then_n ?_) | (with_reducible refine then_r ?_) | (with_reducible refine block_r ?_) | ((with_reducible refine gR ?_); first | refine ret1 rfl ?_ | refine ret2 rfl rfl ?_ | refine ret0 ?_ | refine end1 rfl ?_ | refine end0 ?_))
      all_goals first
        | exact ⟨rfl, by (repeat' (first | exact trivial | exact rfl | (refine ⟨Or.inl rfl, ?_⟩) | (refine ⟨Or.inr rfl, ?_⟩) | (refine ⟨Or.inr trivial, ?_⟩) | (refine ⟨rfl, ?_⟩) | (refine ⟨?_, ?_⟩)))⟩
        | trace_state
    | true =>
      rw [hm] at cp
      have f1 : eqb 3 1 = false := by simp [eqb]
      have cp' := cp
      simp only [if_true] at cp'
      repeat' (first | ((with_reducible refine gA ?_); (first | refine AW_seq ?_ | refine AW_region ?_ | (refine AW_condY rfl ?_ ?_; assumption) | (refine AW_condN rfl ?_ ?_; assumption) | refine AW_block ?_ | refine AW_skip ?_)) | ((with_reducible refine gS ?_); refine Es_s (T := Tryz.tab) rfl rfl rfl rfl ?_) | (((with_reducible refine gS ?_); apply Es_xg); rfl; rfl; refine LStep_callHN [] [] cp' rfl rfl ⟨rfl, rfl, rfl, rfl, trivial⟩ rfl ⟨trivial, trivial, trivial, trivial, trivial⟩ rfl rfl; rfl) | (((with_reducible refine gS ?_); apply Es_q); rfl; rfl; (first | (refine LStep_add rfl rfl rfl rfl ?_; (refine IntWalk.i64_in _ ?_; first | omega | (simp only [cmps] at *; omega))) | (refine LStep_indexM (T := Tryz.tab) (c := ?_) rfl rfl rfl rfl rfl rfl ?_; rotate_left; assumption) | refine LStep_buildN (T := Tryz.tab) rfl rfl rfl rfl rfl rfl rfl)) | (refine Es_skip rfl ?_ rfl ?_; (first | rfl | (refine w_tf ?_; assumption) | (refine w_ft ?_; assumption))) | (((with_reducible refine gS ?_); apply Es_xs); rfl; rfl; refine LStep_allocN (T := Tryz.tab) rfl rfl rfl rfl rfl rfl; rfl) | (((with_reducible refine gS ?_); apply Es_xn); rfl; rfl; (refine LStep_storeN (T := Tryz.tab) rfl rfl rfl rfl rfl rfl rfl ?_ rfl; (refine Nat.le_of_ble_eq_true ?_; rfl)); rfl) | (with_reducible refine Es_nil ?_) | (with_reducible refine then_n ?_) | (with_reducible refine block_n ?_))
      all_goals first
        | exact ⟨k + 1, ⟨by omega, s2 hm⟩, by omega, by (repeat' (first | exact trivial | exact rfl | (refine ⟨Or.inl rfl, ?_⟩) | (refine ⟨Or.inr rfl, ?_⟩) | (refine ⟨Or.inr trivial, ?_⟩) | (refine ⟨rfl, ?_⟩) | (refine ⟨?_, ?_⟩))), by (repeat' (first | exact trivial | exact rfl | (refine ⟨Or.inl rfl, ?_⟩) | (refine ⟨Or.inr rfl, ?_⟩) | (refine ⟨Or.inr trivial, ?_⟩) | (refine ⟨rfl, ?_⟩) | (refine ⟨?_, ?_⟩))), by (repeat' (first | exact trivial | exact rfl | (refine ⟨Or.inl rfl, ?_⟩) | (refine ⟨Or.inr rfl, ?_⟩) | (refine ⟨Or.inr trivial, ?_⟩) | (refine ⟨rfl, ?_⟩) | (refine ⟨?_, ?_⟩))), by (repeat' (first | exact trivial | exact rfl | (refine ⟨Or.inl rfl, ?_⟩) | (refine ⟨Or.inr rfl, ?_⟩) | (refine ⟨Or.inr trivial, ?_⟩) | (refine ⟨rfl, ?_⟩) | (refine ⟨?_, ?_⟩)))⟩
        | trace_state
  · have : k = l.length := by omega
    subst this
    rw [List.take_length] at hnd
    have g1 : ltb (l.length : Nat) (l.length : Nat) = false := by rw [ltb_f]; omega
    rw [hnd]
    repeat' (first | ((with_reducible refine gA ?_); (first | refine AW_seq ?_ | refine AW_region ?_ | (refine AW_condN rfl ?_ ?_; assumption) | refine AW_ret ?_ | refine AW_exit ?_)) | ((with_reducible refine gS ?_); refine Es_s (T := Tryz.tab) rfl rfl rfl rfl ?_) | (with_reducible refine Es_nil ?_) | (with_reducible refine then_n ?_) | (with_reducible refine then_e ?_) | ((with_reducible refine block_e ?_ ?_); rfl) | ((with_reducible refine gR ?_); first | refine ret1 rfl ?_ | refine ret2 rfl rfl ?_ | refine ret0 ?_ | refine end1 rfl ?_ | refine end0 ?_))
    all_goals first
      | exact ⟨rfl, by (repeat' (first | exact trivial | exact rfl | (refine ⟨Or.inl rfl, ?_⟩) | (refine ⟨Or.inr rfl, ?_⟩) | (refine ⟨Or.inr trivial, ?_⟩) | (refine ⟨rfl, ?_⟩) | (refine ⟨?_, ?_⟩)))⟩
      | trace_state
end Go.Proofs.YtodgjgkoaahhmaaGreatDoor
namespace Go.Proofs.YtodgjgkoaahhmaaGreatDoor
open Go.SL
/-! ### add -/
def atL (x : Load) (s : Sl) : Load := { x with sl := s }
/-- the plan, the boxes of add (1003 the pointer, 1004 the load), the variable -/
def plX (S : Ship) (L : List Load) (B R : Nat) (a b : Int) (T : List (Sl × Int)) (P : List ByteArray) (x : Load) : Hp := plA S L B R a b T P ++ [(1003, some (.cells [.ptr 1010 0])), (1004, some (.cells x.cs2)), hG]
def plXid : List Nat := [1010, 1011, 1012, 1013, 1000, 1001, 1002, 1003, 1004, 9000]
set_option maxRecDepth 10000 in
set_option maxHeartbeats 4000000 in
theorem add1_ac (S : Ship) (L : List Load) (B R : Nat) (a b : Int) (T : List (Sl × Int)) (P : List ByteArray) (x : Load) (s : Sl) (hv : Inv2 S L) (hS : shipOk S = true) :
    AC Tryz.prog 40 [slA s, .ptr 1004 0, .ptr 1003 0] (plX S L B R a b T P x) plXid (fun r h' => r = .d (.sc (.bool (eqb (putE S L (atL x s)) 0))) ∧ SubH (plX S (putL S L (atL x s)) B R a b T P (atL x s)) h') := by
  have cp := put_ac S L (atL x s) hv hS (tot_in2 hv hS)
  generalize putE S L (atL x s) = e at cp ⊢
  generalize putL S L (atL x s) = L' at cp ⊢
  refine AC_enter Tryz.func40 rfl Tryz.ntmps40 (rv := [.tmp 4]) rfl rfl (by simp) (fun w X G => ?_)
  repeat' (first | ((with_reducible refine gA ?_); (first | refine AW_seq ?_ | refine AW_region ?_ | refine AW_regionD Tryz.mixed ?_ | refine AW_ret ?_)) | (first | ((with_reducible refine gS ?_); refine Es_s (T := Tryz.tab) rfl rfl rfl rfl ?_) | ((with_reducible refine gD ?_); refine Ed_s (T := Tryz.tab) rfl rfl rfl rfl ?_)) | ((first | ((with_reducible refine gS ?_); apply Es_xg) | ((with_reducible refine gD ?_); apply Ed_xg)); rfl; rfl; refine LStep_callHN [] [] cp rfl rfl ⟨rfl, rfl, rfl, rfl, trivial⟩ rfl ⟨trivial, trivial, trivial, trivial, trivial⟩ rfl rfl; rfl) | (refine Es_skip rfl ?_ rfl ?_; (first | rfl | (refine w_tf ?_; assumption) | (refine w_ft ?_; assumption))) | (((with_reducible refine gS ?_); apply Es_xs); rfl; rfl; refine LStep_boxN rfl rfl rfl rfl rfl rfl; rfl) | (((with_reducible refine gS ?_); apply Es_xn); rfl; rfl; (refine LStep_storeN (T := Tryz.tab) rfl rfl rfl rfl rfl rfl rfl ?_ rfl; (refine Nat.le_of_ble_eq_true ?_; rfl)); rfl) | (with_reducible refine Es_nil ?_) | ((with_reducible refine Ed_nil ?_ ?_); kernel_rfl) | (with_reducible refine then_n ?_) | ((with_reducible refine gR ?_); first | refine ret1 rfl ?_ | refine ret2 rfl rfl ?_ | refine ret0 ?_ | refine end1 rfl ?_ | refine end0 ?_))
  all_goals first
    | exact ⟨rfl, by (repeat' (first | exact trivial | exact rfl | (refine ⟨Or.inl rfl, ?_⟩) | (refine ⟨Or.inr rfl, ?_⟩) | (refine ⟨Or.inr trivial, ?_⟩) | (refine ⟨rfl, ?_⟩) | (refine ⟨?_, ?_⟩)))⟩
    | trace_state
end Go.Proofs.YtodgjgkoaahhmaaGreatDoor
namespace Go.Proofs.YtodgjgkoaahhmaaGreatDoor
open Go.SL
theorem putL_no {S : Ship} {L : List Load} {x : Load} (h : putE S L x ≠ 0) : putL S L x = L := by unfold putL; rw [if_neg h]
def triesP (S : Ship) (a b : Int) (T : List (Sl × Int)) (wt : Int) (B R : Nat) : List Sl := (isL ltC (pcAll S a b T wt B R)).map (·.sl)
theorem triesP_len {S : Ship} {a b : Int} {T : List (Sl × Int)} {wt : Int} {B R : Nat} (h32 : B ≤ 32 ∧ R ≤ 32) : (triesP S a b T wt B R).length ≤ 1024 := by
  unfold triesP
  rw [List.length_map, (isL_perm _).length_eq]
  have := pcAll_len (S := S) (a := a) (b := b) (T := T) (w := wt) R h32.2 B
  omega
set_option maxRecDepth 10000 in
set_option maxHeartbeats 8000000 in
theorem addNo_ac (S : Ship) (L : List Load) (B R : Nat) (a b : Int) (T : List (Sl × Int)) (P : List ByteArray) (x : Load) (hv : Inv2 S L) (hS : shipOk S = true) (hB' : S.bays = B) (hR : S.rows = R) (h32 : B ≤ 32 ∧ R ≤ 32) (ha : -137438953472 ≤ a ∧ a ≤ 137438953472) (hb : -137438953472 ≤ b ∧ b ≤ 137438953472) (hw : 0 ≤ x.w ∧ x.w ≤ 1048576)
    (hno : ∀ s ∈ triesP S a b T x.w B R, putE S L (atL x s) ≠ 0) :
    AC Tryz.prog 16 [.ptr 1010 0, .agg x.cs2] (plA S L B R a b T P ++ [hG]) [1010, 1011, 1012, 1013, 1000, 1001, 1002, 9000] (fun r h' => r = .d (.sc (.bool false)) ∧ SubH (plA S L B R a b T P ++ [hG]) h') := by
  have cs : AC Tryz.prog 41 [.ptr 1010 0, .d (.sc (.int .i64 x.w))] (plA S L B R a b T P) plId (fun r h' => r = .d (.sl 3 ((triesP S a b T x.w B R).map Sl.enc)) ∧ Kp (plA S L B R a b T P) h') := slots_ac S L B R a b T P x.w hB' hR h32 ha hb hw
  have hsl := triesP_len (S := S) (a := a) (b := b) (T := T) (wt := x.w) h32
  generalize triesP S a b T x.w B R = ss at *
  refine AC_enter Tryz.func16 rfl Tryz.ntmps16 (rv := [.tmp 4]) rfl rfl (by simp) (fun w X G => ?_)
  repeat' (first | ((with_reducible refine gA ?_); (first | refine AW_seq ?_ | refine AW_region ?_ | refine AW_block ?_)) | ((with_reducible refine gS ?_); refine Es_s (T := Tryz.tab) rfl rfl rfl rfl ?_) | (((with_reducible refine gS ?_); apply Es_q); rfl; rfl; refine LStep_callB cs rfl rfl ⟨rfl, rfl, rfl, rfl, rfl, rfl, rfl, trivial⟩ rfl rfl) | (((with_reducible refine gS ?_); apply Es_q); rfl; rfl; refine LStep_lenM (T := Tryz.tab) rfl rfl rfl rfl) | (refine Es_skip rfl ?_ rfl ?_; (first | rfl | (refine w_tf ?_; assumption) | (refine w_ft ?_; assumption))) | (((with_reducible refine gS ?_); apply Es_xs); rfl; rfl; refine LStep_boxN rfl rfl rfl rfl rfl rfl; rfl) | (with_reducible refine Es_nil ?_) | (with_reducible refine then_n ?_))
  refine AW_forE (S := Nat × Sl) (fun k => k.1 ≤ ss.length) (fun k => [(15, .d (.sc (.int .i64 (k.1 : Nat))))]) (fun k => [(3, some (.cells (atL x k.2).cs2))]) (fun k => ss.length - k.1) (0, x.sl) (Nat.zero_le _) (by (repeat' (first | exact trivial | exact rfl | (refine ⟨Or.inl rfl, ?_⟩) | (refine ⟨Or.inr rfl, ?_⟩) | (refine ⟨Or.inr trivial, ?_⟩) | (refine ⟨rfl, ?_⟩) | (refine ⟨?_, ?_⟩)))) (by (repeat' (first | exact trivial | exact rfl | (refine ⟨Or.inl rfl, ?_⟩) | (refine ⟨Or.inr rfl, ?_⟩) | (refine ⟨Or.inr trivial, ?_⟩) | (refine ⟨rfl, ?_⟩) | (refine ⟨?_, ?_⟩)))) ?_
  intro ⟨k, c⟩ hk
  dsimp only at hk ⊢
  by_cases hlt : k < ss.length
  · obtain ⟨s, hs⟩ : ∃ s, ss[k]? = some s := ⟨_, List.getElem?_eq_getElem hlt⟩
    have g1 : ltb (k : Nat) (ss.length : Nat) = true := by rw [ltb_t]; omega
    have hne := hno s (List.mem_of_getElem? hs)
    have ca := add1_ac S L B R a b T P (atL x c) s hv hS
    have ea : atL (atL x c) s = atL x s := rfl
    have f0 : eqb (putE S L (atL x s)) 0 = false := by
      cases h : eqb (putE S L (atL x s)) 0 with
      | false => rfl
      | true => exfalso; apply hne; simpa [eqb] using h
    rw [ea, f0, putL_no hne] at ca
    repeat' (first | ((with_reducible refine gA ?_); (first | refine AW_seq ?_ | refine AW_region ?_ | refine AW_condT rfl ?_ | (refine AW_condY rfl ?_ ?_; assumption) | refine AW_block ?_ | refine AW_skip ?_ | refine AW_exit ?_)) | ((with_reducible refine gS ?_); refine Es_s (T := Tryz.tab) rfl rfl rfl rfl ?_) | (((with_reducible refine gS ?_); apply Es_xg); rfl; rfl; refine LStep_callHN [(1003, 2), (1004, 3)] [] ca rfl rfl ⟨rfl, rfl, rfl, rfl, rfl, rfl, rfl, rfl, rfl, rfl, trivial⟩ rfl ⟨trivial, trivial, trivial, rfl, trivial, trivial, trivial, trivial, trivial, trivial, trivial⟩ rfl rfl; rfl) | (((with_reducible refine gS ?_); apply Es_q); rfl; rfl; (first | (refine LStep_add rfl rfl rfl rfl ?_; (refine IntWalk.i64_in _ ?_; first | omega | (simp only [cmps] at *; omega))) | (refine LStep_indexM (T := Tryz.tab) (c := ?_) rfl rfl rfl rfl rfl rfl ?_; rotate_left; assumption))) | (refine Es_skip rfl ?_ rfl ?_; (first | rfl | (refine w_tf ?_; assumption) | (refine w_ft ?_; assumption))) | (((with_reducible refine gS ?_); apply Es_xs); rfl; rfl; refine LStep_allocN (T := Tryz.tab) rfl rfl rfl rfl rfl rfl; rfl) | (((with_reducible refine gS ?_); apply Es_xn); rfl; rfl; (refine LStep_storeN (T := Tryz.tab) rfl rfl rfl rfl rfl rfl rfl ?_ rfl; (refine Nat.le_of_ble_eq_true ?_; rfl)); rfl) | (with_reducible refine Es_nil ?_) | (with_reducible refine then_n ?_) | (with_reducible refine then_e ?_) | ((with_reducible refine block_e ?_ ?_); rfl))
    all_goals first
      | exact ⟨(k + 1, s), by dsimp only; omega, by dsimp only; omega, by (repeat' (first | exact trivial | exact rfl | (refine ⟨Or.inl rfl, ?_⟩) | (refine ⟨Or.inr rfl, ?_⟩) | (refine ⟨Or.inr trivial, ?_⟩) | (refine ⟨rfl, ?_⟩) | (refine ⟨?_, ?_⟩))), by dsimp only; (repeat' (first | exact trivial | exact rfl | (refine ⟨Or.inl rfl, ?_⟩) | (refine ⟨Or.inr rfl, ?_⟩) | (refine ⟨Or.inr trivial, ?_⟩) | (refine ⟨rfl, ?_⟩) | (refine ⟨?_, ?_⟩))), by dsimp only; (repeat' (first | exact trivial | exact rfl | (refine ⟨Or.inl rfl, ?_⟩) | (refine ⟨Or.inr rfl, ?_⟩) | (refine ⟨Or.inr trivial, ?_⟩) | (refine ⟨rfl, ?_⟩) | (refine ⟨?_, ?_⟩))), by (repeat' (first | exact trivial | exact rfl | (refine ⟨Or.inl rfl, ?_⟩) | (refine ⟨Or.inr rfl, ?_⟩) | (refine ⟨Or.inr trivial, ?_⟩) | (refine ⟨rfl, ?_⟩) | (refine ⟨?_, ?_⟩)))⟩
      | trace_state
  · have : k = ss.length := by omega
    subst this
    have g1 : ltb (ss.length : Nat) (ss.length : Nat) = false := by rw [ltb_f]; omega
    repeat' (first | ((with_reducible refine gA ?_); (first | refine AW_seq ?_ | refine AW_region ?_ | (refine AW_condN rfl ?_ ?_; assumption) | refine AW_ret ?_ | refine AW_exit ?_)) | ((with_reducible refine gS ?_); refine Es_s (T := Tryz.tab) rfl rfl rfl rfl ?_) | (with_reducible refine Es_nil ?_) | (with_reducible refine then_n ?_) | (with_reducible refine then_e ?_) | ((with_reducible refine block_e ?_ ?_); rfl) | ((with_reducible refine gR ?_); first | refine ret1 rfl ?_ | refine ret2 rfl rfl ?_ | refine ret0 ?_ | refine end1 rfl ?_ | refine end0 ?_))
    all_goals first
      | exact ⟨rfl, by (repeat' (first | exact trivial | exact rfl | (refine ⟨Or.inl rfl, ?_⟩) | (refine ⟨Or.inr rfl, ?_⟩) | (refine ⟨Or.inr trivial, ?_⟩) | (refine ⟨rfl, ?_⟩) | (refine ⟨?_, ?_⟩)))⟩
      | trace_state
end Go.Proofs.YtodgjgkoaahhmaaGreatDoor
namespace Go.Proofs.YtodgjgkoaahhmaaGreatDoor
open Go.SL
theorem mem_tries {S : Ship} {a b : Int} {T : List (Sl × Int)} {wt : Int} {B R : Nat} {s : Sl} (h : s ∈ triesP S a b T wt B R) : ∃ k j : Nat, k < B ∧ j < R ∧ s = ⟨(k : Nat), (j : Nat), tierOf T (k : Nat) (j : Nat)⟩ ∧ tierOf T (k : Nat) (j : Nat) < S.tiers := by
  unfold triesP at h
  obtain ⟨p, hp, rfl⟩ := List.mem_map.1 h
  rw [(isL_perm _).mem_iff] at hp
  unfold pcAll pcRow at hp
  obtain ⟨k, hk, hp⟩ := List.mem_flatMap.1 hp
  obtain ⟨j, hj, hp⟩ := List.mem_flatMap.1 hp
  rw [List.mem_range] at hk hj
  unfold pcAt at hp
  split at hp
  · rename_i ht
    rw [List.mem_singleton] at hp
    subst hp
    exact ⟨k, j, hk, hj, rfl, ht⟩
  · cases hp
def stkOf (s : Sl) : Sl := ⟨s.b, s.r, 0⟩
set_option maxRecDepth 10000 in
set_option maxHeartbeats 8000000 in
theorem addOk_ac (S : Ship) (L : List Load) (B R : Nat) (a b : Int) (T : List (Sl × Int)) (P : List ByteArray) (x : Load) (hv : Inv2 S L) (hS : shipOk S = true) (hB' : S.bays = B) (hR : S.rows = R) (h32 : B ≤ 32 ∧ R ≤ 32) (ha : -137438953472 ≤ a ∧ a ≤ 137438953472) (hb : -137438953472 ≤ b ∧ b ≤ 137438953472) (hw : 0 ≤ x.w ∧ x.w ≤ 1048576)
    (hT0 : ∀ k j, 0 ≤ tierOf T k j) (hPl : P.length ≤ 1048576) (k0 : Nat) (s : Sl) (hs0 : (triesP S a b T x.w B R)[k0]? = some s) (hno : ∀ s' ∈ (triesP S a b T x.w B R).take k0, putE S L (atL x s') ≠ 0) (hyes : putE S L (atL x s) = 0) :
    AC Tryz.prog 16 [.ptr 1010 0, .agg x.cs2] (plA S L B R a b T P ++ [hG]) [1010, 1011, 1012, 1000, 1001, 1002, 9000] (fun r h' => r = .d (.sc (.bool true)) ∧ SubH (plA S (putL S L (atL x s)) B R (nowL S a s.b x.w) (nowC S b s.r x.w) (aput (stkOf s) (tierOf T s.b s.r + 1) T) (P ++ [x.box]) ++ [hG]) h') := by
  have cs : AC Tryz.prog 41 [.ptr 1010 0, .d (.sc (.int .i64 x.w))] (plA S L B R a b T P) plId (fun r h' => r = .d (.sl 3 ((triesP S a b T x.w B R).map Sl.enc)) ∧ Kp (plA S L B R a b T P) h') := slots_ac S L B R a b T P x.w hB' hR h32 ha hb hw
  have hsl := triesP_len (S := S) (a := a) (b := b) (T := T) (wt := x.w) h32
  obtain ⟨sk, sj, hsk, hsj, hse, htl⟩ := mem_tries (List.mem_of_getElem? hs0)
  have htB : S.tiers ≤ 32 := by
    have h := hS
    simp only [shipOk, Bool.and_eq_true, frB_t] at h
    omega
  have hti := hT0 (sk : Nat) (sj : Nat)
  generalize triesP S a b T x.w B R = ss at *
  have hk0 : k0 < ss.length := (List.getElem?_eq_some_iff.1 hs0).1
  refine AC_enter Tryz.func16 rfl Tryz.ntmps16 (rv := [.tmp 4]) rfl rfl (by simp) (fun w X G => ?_)
  repeat' (first | ((with_reducible refine gA ?_); (first | refine AW_seq ?_ | refine AW_region ?_ | refine AW_block ?_)) | ((with_reducible refine gS ?_); refine Es_s (T := Tryz.tab) rfl rfl rfl rfl ?_) | (((with_reducible refine gS ?_); apply Es_q); rfl; rfl; refine LStep_callB cs rfl rfl ⟨rfl, rfl, rfl, rfl, rfl, rfl, rfl, trivial⟩ rfl rfl) | (((with_reducible refine gS ?_); apply Es_q); rfl; rfl; refine LStep_lenM (T := Tryz.tab) rfl rfl rfl rfl) | (refine Es_skip rfl ?_ rfl ?_; (first | rfl | (refine w_tf ?_; assumption) | (refine w_ft ?_; assumption))) | (((with_reducible refine gS ?_); apply Es_xs); rfl; rfl; refine LStep_boxN rfl rfl rfl rfl rfl rfl; rfl) | (with_reducible refine Es_nil ?_) | (with_reducible refine then_n ?_))
  refine AW_forE (S := Nat × Sl) (fun k => k.1 ≤ k0) (fun k => [(15, .d (.sc (.int .i64 (k.1 : Nat))))]) (fun k => [(3, some (.cells (atL x k.2).cs2))]) (fun k => k0 - k.1) (0, x.sl) (Nat.zero_le _) (by (repeat' (first | exact trivial | exact rfl | (refine ⟨Or.inl rfl, ?_⟩) | (refine ⟨Or.inr rfl, ?_⟩) | (refine ⟨Or.inr trivial, ?_⟩) | (refine ⟨rfl, ?_⟩) | (refine ⟨?_, ?_⟩)))) (by (repeat' (first | exact trivial | exact rfl | (refine ⟨Or.inl rfl, ?_⟩) | (refine ⟨Or.inr rfl, ?_⟩) | (refine ⟨Or.inr trivial, ?_⟩) | (refine ⟨rfl, ?_⟩) | (refine ⟨?_, ?_⟩)))) ?_
  intro ⟨k, c⟩ hk
  dsimp only at hk ⊢
  have g1 : ltb (k : Nat) (ss.length : Nat) = true := by rw [ltb_t]; omega
  by_cases hlt : k < k0
  · obtain ⟨s', hs⟩ : ∃ s', ss[k]? = some s' := ⟨_, List.getElem?_eq_getElem (by omega)⟩
    have hne := hno s' (List.mem_of_getElem? (by rw [List.getElem?_take, if_pos hlt]; exact hs))
    have ca := add1_ac S L B R a b T P (atL x c) s' hv hS
    have ea : atL (atL x c) s' = atL x s' := rfl
    have f0 : eqb (putE S L (atL x s')) 0 = false := by
      cases h : eqb (putE S L (atL x s')) 0 with
      | false => rfl
      | true => exfalso; apply hne; simpa [eqb] using h
    rw [ea, f0, putL_no hne] at ca
    repeat' (first | ((with_reducible refine gA ?_); (first | refine AW_seq ?_ | refine AW_region ?_ | refine AW_condT rfl ?_ | (refine AW_condY rfl ?_ ?_; assumption) | refine AW_block ?_ | refine AW_skip ?_ | refine AW_exit ?_)) | ((with_reducible refine gS ?_); refine Es_s (T := Tryz.tab) rfl rfl rfl rfl ?_) | (((with_reducible refine gS ?_); apply Es_xg); rfl; rfl; refine LStep_callHN [(1003, 2), (1004, 3)] [] ca rfl rfl ⟨rfl, rfl, rfl, rfl, rfl, rfl, rfl, rfl, rfl, rfl, trivial⟩ rfl ⟨trivial, trivial, trivial, rfl, trivial, trivial, trivial, trivial, trivial, trivial, trivial⟩ rfl rfl; rfl) | (((with_reducible refine gS ?_); apply Es_q); rfl; rfl; (first | (refine LStep_add rfl rfl rfl rfl ?_; (refine IntWalk.i64_in _ ?_; first | omega | (simp only [cmps] at *; omega))) | (refine LStep_indexM (T := Tryz.tab) (c := ?_) rfl rfl rfl rfl rfl rfl ?_; rotate_left; assumption))) | (refine Es_skip rfl ?_ rfl ?_; (first | rfl | (refine w_tf ?_; assumption) | (refine w_ft ?_; assumption))) | (((with_reducible refine gS ?_); apply Es_xs); rfl; rfl; refine LStep_allocN (T := Tryz.tab) rfl rfl rfl rfl rfl rfl; rfl) | (((with_reducible refine gS ?_); apply Es_xn); rfl; rfl; (refine LStep_storeN (T := Tryz.tab) rfl rfl rfl rfl rfl rfl rfl ?_ rfl; (refine Nat.le_of_ble_eq_true ?_; rfl)); rfl) | (with_reducible refine Es_nil ?_) | (with_reducible refine then_n ?_) | (with_reducible refine then_e ?_) | ((with_reducible refine block_e ?_ ?_); rfl))
    all_goals first
      | exact ⟨(k + 1, s'), by dsimp only; omega, by dsimp only; omega, by (repeat' (first | exact trivial | exact rfl | (refine ⟨Or.inl rfl, ?_⟩) | (refine ⟨Or.inr rfl, ?_⟩) | (refine ⟨Or.inr trivial, ?_⟩) | (refine ⟨rfl, ?_⟩) | (refine ⟨?_, ?_⟩))), by dsimp only; (repeat' (first | exact trivial | exact rfl | (refine ⟨Or.inl rfl, ?_⟩) | (refine ⟨Or.inr rfl, ?_⟩) | (refine ⟨Or.inr trivial, ?_⟩) | (refine ⟨rfl, ?_⟩) | (refine ⟨?_, ?_⟩))), by dsimp only; (repeat' (first | exact trivial | exact rfl | (refine ⟨Or.inl rfl, ?_⟩) | (refine ⟨Or.inr rfl, ?_⟩) | (refine ⟨Or.inr trivial, ?_⟩) | (refine ⟨rfl, ?_⟩) | (refine ⟨?_, ?_⟩))), by (repeat' (first | exact trivial | exact rfl | (refine ⟨Or.inl rfl, ?_⟩) | (refine ⟨Or.inr rfl, ?_⟩) | (refine ⟨Or.inr trivial, ?_⟩) | (refine ⟨rfl, ?_⟩) | (refine ⟨?_, ?_⟩)))⟩
      | trace_state
  · have : k = k0 := by omega
    subst this
    have ca := add1_ac S L B R a b T P (atL x c) s hv hS
    have ea : atL (atL x c) s = atL x s := rfl
    have f0 : eqb (putE S L (atL x s)) 0 = true := by rw [hyes]; simp [eqb]
    rw [ea, f0] at ca
    have cw := with_ac S (putL S L (atL x s)) B R a b T P sk sj x.w hsk hsj hB' hR h32 ha hb hw
    have hs := hs0
    rw [hse] at ca cw hs ⊢
    dsimp only
    have hst : stkOf ⟨(sk : Nat), (sj : Nat), tierOf T (sk : Nat) (sj : Nat)⟩ = ⟨(sk : Nat), (sj : Nat), 0⟩ := rfl
    rw [hst]
    have hv0 : (aget (⟨(sk : Nat), (sj : Nat), 0⟩ : Sl) T).getD 0 = tierOf T (sk : Nat) (sj : Nat) := rfl
    have f1 : (mfind (slV ⟨(sk : Nat), (sj : Nat), 0⟩) (emap slV iV T)).getD (iV 0) = iV (tierOf T (sk : Nat) (sj : Nat)) := by
      rw [mfind_emap slV_keq, ← hv0]
      cases aget (⟨(sk : Nat), (sj : Nat), 0⟩ : Sl) T <;> rfl
    have f2 : (mfind (slV ⟨(sk : Nat), (sj : Nat), 0⟩) (emap slV iV (aput ⟨(sk : Nat), (sj : Nat), 0⟩ (tierOf T (sk : Nat) (sj : Nat)) T))).getD (iV 0) = iV (tierOf T (sk : Nat) (sj : Nat)) := by rw [mfind_emap slV_keq, aget_put, if_pos rfl]; rfl
    have f3 := mentry_emap (cv := iV) slV_keq (⟨(sk : Nat), (sj : Nat), 0⟩ : Sl) 0 T
    rw [hv0] at f3
    have f4 : (emap slV iV (aput (⟨(sk : Nat), (sj : Nat), 0⟩ : Sl) (tierOf T (sk : Nat) (sj : Nat)) T))[aidx (⟨(sk : Nat), (sj : Nat), 0⟩ : Sl) T]? = some (slV ⟨(sk : Nat), (sj : Nat), 0⟩, iV (tierOf T (sk : Nat) (sj : Nat))) := by
      unfold emap; rw [List.getElem?_map, (aput_set _ _ 0 T).2]; rfl
    have f5 : (emap slV iV (aput (⟨(sk : Nat), (sj : Nat), 0⟩ : Sl) (tierOf T (sk : Nat) (sj : Nat)) T)).set (aidx (⟨(sk : Nat), (sj : Nat), 0⟩ : Sl) T) (slV ⟨(sk : Nat), (sj : Nat), 0⟩, iV (tierOf T (sk : Nat) (sj : Nat) + 1)) = emap slV iV (aput ⟨(sk : Nat), (sj : Nat), 0⟩ (tierOf T (sk : Nat) (sj : Nat) + 1) T) := by
      rw [emap_set, (aput_set _ _ _ T).1]
    generalize putL S L (atL x ⟨(sk : Nat), (sj : Nat), tierOf T (sk : Nat) (sj : Nat)⟩) = L' at *
    clear hse hst hv0 hno hT0 cs hyes ea f0
    generalize tierOf T (sk : Nat) (sj : Nat) = ti at *
    repeat' (first | ((with_reducible refine gA ?_); refine AW_regionG' (id := 8) 5 7 1012 (.mapF 38 3 (emap slV iV (aput ⟨(sk : Nat), (sj : Nat), 0⟩ ti T))) Tryz.mixed ?_) | ((with_reducible refine gG ?_); first | (refine Eg_q rfl rfl rfl (LStep_simp (T := Tryz.tab) rfl rfl) ?_) | (refine Eg_q rfl rfl rfl (LStep_buildN (T := Tryz.tab) rfl rfl rfl rfl rfl rfl rfl) ?_) | (refine Eg_q rfl rfl rfl (LStep_add rfl rfl rfl rfl ?_) ?_; (refine IntWalk.i64_in _ ?_; omega)) | (refine Eg_r rfl rfl rfl (LStep_lookupF (T := Tryz.tab) rfl rfl rfl keySl rfl rfl rfl rfl rfl rfl (sl_keys _) f1) (LStep_lookupF (T := Tryz.tab) rfl rfl rfl keySl rfl rfl rfl rfl rfl rfl (sl_keys _) f2) ?_) | (refine Eg_x rfl rfl rfl (LStep_mapEntry (T := Tryz.tab) rfl rfl rfl keySl rfl rfl rfl rfl rfl rfl (sl_keys _) f3) rfl ?_) | (refine Eg_n rfl rfl rfl (LStep_entryStore rfl rfl rfl rfl rfl rfl rfl f4) rfl ?_)) | (refine Eg_nil (by kernel_rfl) (by kernel_rfl) ⟨_, rfl, rfl, List.mem_cons_self⟩ ?_) | ((with_reducible refine gA ?_); (first | refine AW_seq ?_ | refine AW_region ?_ | refine AW_regionD Tryz.mixed ?_ | refine AW_condF rfl ?_ | (refine AW_condY rfl ?_ ?_; assumption) | refine AW_block ?_ | refine AW_ret ?_ | refine AW_skip ?_)) | (first | ((with_reducible refine gS ?_); refine Es_s (T := Tryz.tab) rfl rfl rfl rfl ?_) | ((with_reducible refine gD ?_); refine Ed_s (T := Tryz.tab) rfl rfl rfl rfl ?_)) | ((first | ((with_reducible refine gS ?_); apply Es_q) | ((with_reducible refine gD ?_); apply Ed_q)); rfl; rfl; refine LStep_callB cw rfl rfl ⟨rfl, rfl, rfl, rfl, rfl, rfl, rfl, trivial⟩ rfl rfl) | ((first | ((with_reducible refine gS ?_); apply Es_xs) | ((with_reducible refine gD ?_); apply Ed_xs)); rfl; rfl; (refine LStep_append (T := Tryz.tab) rfl rfl rfl rfl rfl rfl rfl rfl rfl rfl ?_ ?_ ?_; rfl; (rw [List.length_map]; simp only [List.length_cons, List.length_nil]; omega); (unfold maxLen; rw [List.length_map]; simp only [List.length_cons, List.length_nil]; omega)); rfl) | ((first | ((with_reducible refine gS ?_); apply Es_xg) | ((with_reducible refine gD ?_); apply Ed_xg)); rfl; rfl; refine LStep_callHN [(1003, 2), (1004, 3)] [] ca rfl rfl ⟨rfl, rfl, rfl, rfl, rfl, rfl, rfl, rfl, rfl, rfl, trivial⟩ rfl ⟨trivial, trivial, trivial, rfl, trivial, trivial, trivial, trivial, trivial, trivial, trivial⟩ rfl rfl; rfl) | ((first | ((with_reducible refine gS ?_); apply Es_q) | ((with_reducible refine gD ?_); apply Ed_q)); rfl; rfl; (first | (refine LStep_indexM (T := Tryz.tab) (c := ?_) rfl rfl rfl rfl rfl rfl ?_; rotate_left; assumption) | (refine LStep_lit (T := Tryz.tab) rfl rfl rfl rfl rfl rfl rfl rfl ?_; (refine Nat.le_of_ble_eq_true ?_; rfl)) | refine LStep_buildN (T := Tryz.tab) rfl rfl rfl rfl rfl rfl rfl)) | (refine Es_skip rfl ?_ rfl ?_; (first | rfl | (refine w_tf ?_; assumption) | (refine w_ft ?_; assumption))) | ((first | ((with_reducible refine gS ?_); apply Es_xs) | ((with_reducible refine gD ?_); apply Ed_xs)); rfl; rfl; refine LStep_allocN (T := Tryz.tab) rfl rfl rfl rfl rfl rfl; rfl) | ((first | ((with_reducible refine gS ?_); apply Es_xn) | ((with_reducible refine gD ?_); apply Ed_xn)); rfl; rfl; (refine LStep_storeN (T := Tryz.tab) rfl rfl rfl rfl rfl rfl rfl ?_ rfl; (refine Nat.le_of_ble_eq_true ?_; rfl)); rfl) | (with_reducible refine Es_nil ?_) | ((with_reducible refine Ed_nil ?_ ?_); kernel_rfl) | (with_reducible refine then_n ?_) | (with_reducible refine then_r ?_) | (with_reducible refine block_r ?_) | ((with_reducible refine gR ?_); first | refine ret1 rfl ?_ | refine ret2 rfl rfl ?_ | refine ret0 ?_ | refine end1 rfl ?_ | refine end0 ?_))
    have hP2 : (P ++ [x.box]).map sN = P.map sN ++ [[.sc (.string x.box)]] := by rw [List.map_append]; rfl
    refine ⟨rfl, ?_⟩
    show SubH ([(1010, some (.cells (plCs S 1000 1011 1012 (nowL S a (sk : Nat) x.w) (nowC S b (sj : Nat) x.w) (.own 1013 ((P ++ [x.box]).map sN).length)))), (1011, some (.map 38 59 (emap slV uV (unitsB S B R)) none)), (1012, some (.mapF 38 3 (emap slV iV (aput ⟨(sk : Nat), (sj : Nat), 0⟩ (ti + 1) T)))), (1013, some (.arr 9 1 ((P ++ [x.box]).map sN)))] ++ hB S L' ++ [hG]) _
    rw [hP2, ← f5]
    (repeat' (first | exact trivial | exact rfl | (refine ⟨Or.inl rfl, ?_⟩) | (refine ⟨Or.inr rfl, ?_⟩) | (refine ⟨Or.inr trivial, ?_⟩) | (refine ⟨rfl, ?_⟩) | (refine ⟨?_, ?_⟩)))
end Go.Proofs.YtodgjgkoaahhmaaGreatDoor
