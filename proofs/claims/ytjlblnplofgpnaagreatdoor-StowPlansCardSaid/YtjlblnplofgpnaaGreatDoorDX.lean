import Derived.Test.YtjlblnplofgpnaaGreatDoorDV
import Derived.Test.YtjlblnplofgpnaaGreatDoorAE
import Derived.Test.YtjlblnplofgpnaaGreatDoorDU
import Derived.Test.YtjlblnplofgpnaaGreatDoorTl
namespace Go.Proofs.YtjlblnplofgpnaaGreatDoor
open Go.SL
/-! ### the document's best, Wrong, Plan -/
theorem ltC_ahead {S : Ship} {L : List Load} {x : Load} {s s0 : Sl} (h : leanL S (L ++ [atL x s]) = leanL S (L ++ [atL x s0])) : ltC (pcS S L x s) (pcS S L x s0) = aheadS s s0 := by
  rw [Bool.eq_iff_iff, ltC_t]
  unfold aheadS pcS
  rw [decide_eq_true_eq]
  dsimp only
  omega
theorem ltC_lean {S : Ship} {L : List Load} {x : Load} {s s0 : Sl} (h : leanL S (L ++ [atL x s]) ≠ leanL S (L ++ [atL x s0])) : ltC (pcS S L x s) (pcS S L x s0) = ltb (leanL S (L ++ [atL x s])) (leanL S (L ++ [atL x s0])) := by
  rw [Bool.eq_iff_iff, ltC_t, ltb_t]
  unfold pcS
  dsimp only
  omega
def bLeast (S : Ship) (L : List Load) (x : Load) : Option Sl → Int
  | none => 0
  | some s => leanL S (L ++ [atL x s])
def bOut (x : Load) : Option Sl → Load
  | none => x
  | some s => atL x s
theorem stepB_no {S : Ship} {L : List Load} {x : Load} {st : Option Sl} {s : Sl} (h : putE S L (atL x s) ≠ 0) : stepB S L x st s = st := by unfold stepB; rw [if_pos h]
theorem stepB_yes {S : Ship} {L : List Load} {x : Load} {st : Option Sl} {s : Sl} (h : putE S L (atL x s) = 0) : stepB S L x st s = match st with
  | none => some s
  | some s0 => if ltC (pcS S L x s) (pcS S L x s0) = true then some s else st := by unfold stepB; rw [if_neg (by simp [h])]; cases st <;> rfl
theorem tot_all {S : Ship} {L : List Load} (hv : Inv2 S L) : ∀ y ∈ L, 0 ≤ y.w ∧ y.w ≤ 1048576 := fun y hy => by have := hv.ok y hy; omega
theorem on_all {S : Ship} {L : List Load} (hv : Inv2 S L) (hi : S.bays ≤ 32 ∧ S.rows ≤ 32) : ∀ y ∈ L, (-1048576 ≤ y.sl.b ∧ y.sl.b ≤ 1048576) ∧ (-1048576 ≤ y.sl.r ∧ y.sl.r ≤ 1048576) := fun y hy => by have := hv.on y hy; omega
set_option maxRecDepth 10000 in
set_option maxHeartbeats 16000000 in
theorem rbest_ac (S : Ship) (L : List Load) (x : Load) (B R T : Nat) (hv : Inv2 S L) (hS : shipOk S = true) (hB : S.bays = B) (hR : S.rows = R) (hT : S.tiers = T) (hl : L.length ≤ 4000) (hb : x.box.size ≤ 9007199254740992) :
    AC Tryz.prog 49 [.agg S.cs, .d (.sl 7 (L.map Load.enc)), .agg x.cs2] [] [] (fun r _ => r = .tup [.agg (bOut x (bestP S B R L x)).cs2, .d (.sc (.bool (bestP S B R L x).isSome))]) := by
  have hi : (1 ≤ S.bays ∧ S.bays ≤ 32) ∧ (1 ≤ S.rows ∧ S.rows ≤ 32) ∧ (1 ≤ S.tiers ∧ S.tiers ≤ 32) := by
    have h := hS
    simp only [shipOk, Bool.and_eq_true, frB_t] at h
    omega
  have z0 : (allS R T 0 : List Sl) = [] := rfl
  rw [← best_eq (T := T) hv.toInv hB hR hT]
  refine AC_enterG Tryz.tab Tryz.func49 rfl Tryz.ntmps49 (rv := [.cell 6 43, .tmp 7]) rfl rfl (by simp) (fun w X G => ?_)
  repeat' (first | ((with_reducible refine gA ?_); (first | refine AW_seq ?_ | refine AW_region ?_ | refine AW_block ?_)) | ((with_reducible refine gS ?_); refine Es_s (T := Tryz.tab) rfl rfl rfl rfl ?_) | (refine Es_skip rfl ?_ rfl ?_; (first | rfl | (refine w_tf ?_; assumption) | (refine w_ft ?_; assumption))) | (((with_reducible refine gS ?_); apply Es_xs); rfl; rfl; (first | refine LStep_boxN rfl rfl rfl rfl rfl rfl | refine LStep_allocN (T := Tryz.tab) rfl rfl rfl rfl rfl rfl); rfl) | (((with_reducible refine gS ?_); apply Es_xn); rfl; rfl; (refine LStep_storeN (T := Tryz.tab) rfl rfl rfl rfl rfl rfl rfl ?_ rfl; (refine Nat.le_of_ble_eq_true ?_; rfl)); rfl) | (with_reducible refine Es_nil ?_) | (with_reducible refine then_n ?_))
  refine AW_forE (S := Nat × Sl) (fun k => k.1 ≤ B) (fun k => [(11, .d (.sc (.int .i64 (k.1 : Nat)))), (8, .d (.sc (.bool ((allS R T k.1).foldl (stepB S L x) none).isSome))), (9, .d (.sc (.int .i64 (bLeast S L x ((allS R T k.1).foldl (stepB S L x) none)))))]) (fun k => [(5, some (.cells (atL x k.2).cs2)), (10, some (.cells (bOut x ((allS R T k.1).foldl (stepB S L x) none)).cs2))]) (fun k => B - k.1) (0, x.sl) (Nat.zero_le _) (by (repeat' (first | exact trivial | exact rfl | (refine ⟨Or.inl rfl, ?_⟩) | (refine ⟨Or.inr rfl, ?_⟩) | (refine ⟨Or.inr trivial, ?_⟩) | (refine ⟨rfl, ?_⟩) | (refine ⟨?_, ?_⟩)))) (by (repeat' (first | exact trivial | exact rfl | (refine ⟨Or.inl rfl, ?_⟩) | (refine ⟨Or.inr rfl, ?_⟩) | (refine ⟨Or.inr trivial, ?_⟩) | (refine ⟨rfl, ?_⟩) | (refine ⟨?_, ?_⟩)))) ?_
  intro ⟨b, c⟩ hk
  dsimp only at hk ⊢
  by_cases hlt : b < B
  · have g1 : ltb (b : Nat) S.bays = true := by rw [ltb_t]; omega
    have z1 : allS R T b ++ rowS (b : Nat) T 0 = allS R T b := by unfold rowS; simp
    rw [← z1]
    repeat' (first | ((with_reducible refine gA ?_); (first | refine AW_seq ?_ | refine AW_region ?_ | (refine AW_condY rfl ?_ ?_; assumption) | refine AW_block ?_ | refine AW_skip ?_)) | ((with_reducible refine gS ?_); refine Es_s (T := Tryz.tab) rfl rfl rfl rfl ?_) | (with_reducible refine Es_nil ?_) | (with_reducible refine then_n ?_))
    refine AW_forE (S := Nat × Sl) (fun k => k.1 ≤ R) (fun k => [(12, .d (.sc (.int .i64 (k.1 : Nat)))), (8, .d (.sc (.bool ((allS R T b ++ rowS (b : Nat) T k.1).foldl (stepB S L x) none).isSome))), (9, .d (.sc (.int .i64 (bLeast S L x ((allS R T b ++ rowS (b : Nat) T k.1).foldl (stepB S L x) none)))))]) (fun k => [(5, some (.cells (atL x k.2).cs2)), (10, some (.cells (bOut x ((allS R T b ++ rowS (b : Nat) T k.1).foldl (stepB S L x) none)).cs2))]) (fun k => R - k.1) (0, c) (Nat.zero_le _) (by (repeat' (first | exact trivial | exact rfl | (refine ⟨Or.inl rfl, ?_⟩) | (refine ⟨Or.inr rfl, ?_⟩) | (refine ⟨Or.inr trivial, ?_⟩) | (refine ⟨rfl, ?_⟩) | (refine ⟨?_, ?_⟩)))) (by (repeat' (first | exact trivial | exact rfl | (refine ⟨Or.inl rfl, ?_⟩) | (refine ⟨Or.inr rfl, ?_⟩) | (refine ⟨Or.inr trivial, ?_⟩) | (refine ⟨rfl, ?_⟩) | (refine ⟨?_, ?_⟩)))) ?_
    intro ⟨r, c⟩ hk
    dsimp only at hk ⊢
    by_cases hlr : r < R
    · have g2 : ltb (r : Nat) S.rows = true := by rw [ltb_t]; omega
      have z2 : allS R T b ++ rowS (b : Nat) T r ++ colS (b : Nat) (r : Nat) 0 = allS R T b ++ rowS (b : Nat) T r := by unfold colS; simp
      rw [← z2]
      repeat' (first | ((with_reducible refine gA ?_); (first | refine AW_seq ?_ | refine AW_region ?_ | (refine AW_condY rfl ?_ ?_; assumption) | refine AW_block ?_ | refine AW_skip ?_)) | ((with_reducible refine gS ?_); refine Es_s (T := Tryz.tab) rfl rfl rfl rfl ?_) | (with_reducible refine Es_nil ?_) | (with_reducible refine then_n ?_))
      refine AW_forE (S := Nat × Sl) (fun k => k.1 ≤ T) (fun k => [(13, .d (.sc (.int .i64 (k.1 : Nat)))), (8, .d (.sc (.bool ((allS R T b ++ rowS (b : Nat) T r ++ colS (b : Nat) (r : Nat) k.1).foldl (stepB S L x) none).isSome))), (9, .d (.sc (.int .i64 (bLeast S L x ((allS R T b ++ rowS (b : Nat) T r ++ colS (b : Nat) (r : Nat) k.1).foldl (stepB S L x) none)))))]) (fun k => [(5, some (.cells (atL x k.2).cs2)), (10, some (.cells (bOut x ((allS R T b ++ rowS (b : Nat) T r ++ colS (b : Nat) (r : Nat) k.1).foldl (stepB S L x) none)).cs2))]) (fun k => T - k.1) (0, c) (Nat.zero_le _) (by (repeat' (first | exact trivial | exact rfl | (refine ⟨Or.inl rfl, ?_⟩) | (refine ⟨Or.inr rfl, ?_⟩) | (refine ⟨Or.inr trivial, ?_⟩) | (refine ⟨rfl, ?_⟩) | (refine ⟨?_, ?_⟩)))) (by (repeat' (first | exact trivial | exact rfl | (refine ⟨Or.inl rfl, ?_⟩) | (refine ⟨Or.inr rfl, ?_⟩) | (refine ⟨Or.inr trivial, ?_⟩) | (refine ⟨rfl, ?_⟩) | (refine ⟨?_, ?_⟩)))) ?_
      intro ⟨t, c⟩ hk
      dsimp only at hk ⊢
      by_cases hlt2 : t < T
      · have g3 : ltb (t : Nat) S.tiers = true := by rw [ltb_t]; omega
        have hst : (allS R T b ++ rowS (b : Nat) T r ++ colS (b : Nat) (r : Nat) (t + 1)).foldl (stepB S L x) none = stepB S L x ((allS R T b ++ rowS (b : Nat) T r ++ colS (b : Nat) (r : Nat) t).foldl (stepB S L x) none) ⟨(b : Nat), (r : Nat), (t : Nat)⟩ := by
          rw [colS_succ, ← List.append_assoc, List.foldl_append]; rfl
        generalize hs : (⟨(b : Nat), (r : Nat), (t : Nat)⟩ : Sl) = s at *
        have cw := rWrong_ac S L (atL x s) hS (by omega) hv.nS hv.nB (tot_all hv) (on_all hv (by omega)) hb
        generalize (allS R T b ++ rowS (b : Nat) T r ++ colS (b : Nat) (r : Nat) t).foldl (stepB S L x) none = st at *
        by_cases h0 : putE S L (atL x s) = 0
        · rw [stepB_yes h0] at hst
          rw [h0] at cw
          have hv2 := put_inv hv h0
          have cl : AC Tryz.prog 89 [.agg S.cs, .d (.sl 7 ([] ++ L.map Load.enc ++ [(atL x s).enc]))] [] [] (fun r _ => r = .d (.sc (.int .i64 (leanL S (L ++ [atL x s]))))) := by
            have := rLean_ac S (L ++ [atL x s]) (fit_inv hv2 hS (by rw [List.length_append]; simp only [List.length_cons, List.length_nil]; omega))
            rw [List.map_append] at this
            exact this
          cases st with
          | none =>
            have e1 : bLeast S L x (some s) = leanL S (L ++ [atL x s]) := rfl
            have e2 : bOut x (some s) = atL x s := rfl
            generalize leanL S (L ++ [atL x s]) = v at *
            clear hv hv2 z0 z1 z2
            subst hs
            repeat' (first | ((with_reducible refine gA ?_); (first | refine AW_seq ?_ | refine AW_region ?_ | refine AW_regionD Tryz.mixed ?_ | refine AW_condT rfl ?_ | (refine AW_condY rfl ?_ ?_; assumption) | (refine AW_cond rfl (fun hc => ?_) (fun hc => ?_) <;> try (exfalso; simp only [cmpL] at hc; omega)) | refine AW_block ?_ | refine AW_skip ?_)) | (first | ((with_reducible refine gS ?_); refine Es_s (T := Tryz.tab) rfl rfl rfl rfl ?_) | ((with_reducible refine gD ?_); refine Ed_s (T := Tryz.tab) rfl rfl rfl rfl ?_)) | ((first | ((with_reducible refine gS ?_); apply Es_q) | ((with_reducible refine gD ?_); apply Ed_q)); rfl; rfl; (first | refine LStep_call (cw) rfl rfl rfl rfl | refine LStep_call (cl) rfl rfl rfl rfl)) | ((first | ((with_reducible refine gS ?_); apply Es_xs) | ((with_reducible refine gD ?_); apply Ed_xs)); rfl; rfl; (first | (refine LStep_litOwn (T := Tryz.tab) (len := 0) rfl rfl rfl rfl rfl rfl rfl rfl rfl rfl ?_ ?_; (refine Nat.le_of_ble_eq_true ?_; rfl); (unfold maxLen; omega)) | (refine LStep_appendD (T := Tryz.tab) (dst := 50) 45 rfl rfl rfl rfl rfl rfl rfl rfl rfl rfl rfl ?_ ?_ ?_; rfl; (simp only [List.length_map, List.length_nil, List.length_cons, List.length_append]; omega); (unfold maxLen; simp only [List.length_map, List.length_nil, List.length_cons, List.length_append]; omega)) | (refine LStep_append (T := Tryz.tab) rfl rfl rfl rfl rfl rfl rfl rfl rfl rfl ?_ ?_ ?_; rfl; (simp only [List.length_map, List.length_nil, List.length_cons, List.length_append]; omega); (unfold maxLen; simp only [List.length_map, List.length_nil, List.length_cons, List.length_append]; omega))); rfl) | ((first | ((with_reducible refine gS ?_); apply Es_q) | ((with_reducible refine gD ?_); apply Ed_q)); rfl; rfl; (first | (refine LStep_add rfl rfl rfl rfl ?_; (refine IntWalk.i64_in _ ?_; first | omega | (simp only [cmps] at *; omega))) | (refine LStep_lit (T := Tryz.tab) rfl rfl rfl rfl rfl rfl rfl rfl ?_; (refine Nat.le_of_ble_eq_true ?_; rfl)) | refine LStep_buildN (T := Tryz.tab) rfl rfl rfl rfl rfl rfl rfl)) | (refine Es_skip rfl ?_ rfl ?_; (first | rfl | (refine w_tf ?_; assumption) | (refine w_ft ?_; assumption))) | ((first | ((with_reducible refine gS ?_); apply Es_xn) | ((with_reducible refine gD ?_); apply Ed_xn)); rfl; rfl; (refine LStep_storeN (T := Tryz.tab) rfl rfl rfl rfl rfl rfl rfl ?_ rfl; (refine Nat.le_of_ble_eq_true ?_; rfl)); rfl) | (with_reducible refine Es_nil ?_) | ((with_reducible refine Ed_nil ?_ ?_); kernel_rfl) | (with_reducible refine then_n ?_) | (with_reducible refine block_n ?_))
            all_goals first
              | (refine ⟨(t + 1, ⟨(b : Nat), (r : Nat), (t : Nat)⟩), by dsimp only; omega, by dsimp only; omega, ?_, by (repeat' (first | exact trivial | exact rfl | (refine ⟨Or.inl rfl, ?_⟩) | (refine ⟨Or.inr rfl, ?_⟩) | (refine ⟨Or.inr trivial, ?_⟩) | (refine ⟨rfl, ?_⟩) | (refine ⟨?_, ?_⟩))), ?_, by (repeat' (first | exact trivial | exact rfl | (refine ⟨Or.inl rfl, ?_⟩) | (refine ⟨Or.inr rfl, ?_⟩) | (refine ⟨Or.inr trivial, ?_⟩) | (refine ⟨rfl, ?_⟩) | (refine ⟨?_, ?_⟩)))⟩
                 · dsimp only; rw [hst]; dsimp only; rw [e1]; (repeat' (first | exact trivial | exact rfl | (refine ⟨Or.inl rfl, ?_⟩) | (refine ⟨Or.inr rfl, ?_⟩) | (refine ⟨Or.inr trivial, ?_⟩) | (refine ⟨rfl, ?_⟩) | (refine ⟨?_, ?_⟩)))
                 · dsimp only; rw [hst]; dsimp only; rw [e2]; (repeat' (first | exact trivial | exact rfl | (refine ⟨Or.inl rfl, ?_⟩) | (refine ⟨Or.inr rfl, ?_⟩) | (refine ⟨Or.inr trivial, ?_⟩) | (refine ⟨rfl, ?_⟩) | (refine ⟨?_, ?_⟩))))
              | trace_state
          | some s0 =>
            dsimp only at hst
            have ca := rahead_ac s s0
            have e1 : bLeast S L x (some s) = leanL S (L ++ [atL x s]) := rfl
            have e2 : bOut x (some s) = atL x s := rfl
            have e3 : bLeast S L x (some s0) = leanL S (L ++ [atL x s0]) := rfl
            have e4 : bOut x (some s0) = atL x s0 := rfl
            have fin : ∀ q, ltC (pcS S L x s) (pcS S L x s0) = q → (allS R T b ++ rowS (b : Nat) T r ++ colS (b : Nat) (r : Nat) (t + 1)).foldl (stepB S L x) none = (bif q then some s else some s0) := fun q hb => by
              rw [hst, hb]; cases q <;> rfl
            have k1 := ltC_ahead (S := S) (L := L) (x := x) (s := s) (s0 := s0)
            have k2 := ltC_lean (S := S) (L := L) (x := x) (s := s) (s0 := s0)
            generalize leanL S (L ++ [atL x s]) = v at *
            generalize leanL S (L ++ [atL x s0]) = v0 at *
            rw [e3, e4]
            clear hv hv2 z0 z1 z2 hst
            rcases Int.lt_trichotomy v v0 with hlt3 | heq | hgt
            · have fin2 : _ = some s := fin true (by rw [k2 (by omega), ltb_t]; exact hlt3)
              have q1 : ltb v v0 = true := by rw [ltb_t]; exact hlt3
              subst hs
              repeat' (first | ((with_reducible refine gA ?_); (first | refine AW_seq ?_ | refine AW_region ?_ | refine AW_regionD Tryz.mixed ?_ | refine AW_condT rfl ?_ | (refine AW_condY rfl ?_ ?_; assumption) | (refine AW_cond rfl (fun hc => ?_) (fun hc => ?_) <;> try (exfalso; simp only [cmpL] at hc; omega)) | refine AW_block ?_ | refine AW_skip ?_)) | (first | ((with_reducible refine gS ?_); refine Es_s (T := Tryz.tab) rfl rfl rfl rfl ?_) | ((with_reducible refine gD ?_); refine Ed_s (T := Tryz.tab) rfl rfl rfl rfl ?_)) | ((first | ((with_reducible refine gS ?_); apply Es_q) | ((with_reducible refine gD ?_); apply Ed_q)); rfl; rfl; (first | refine LStep_call (cw) rfl rfl rfl rfl | refine LStep_call (cl) rfl rfl rfl rfl)) | ((first | ((with_reducible refine gS ?_); apply Es_xs) | ((with_reducible refine gD ?_); apply Ed_xs)); rfl; rfl; (first | (refine LStep_litOwn (T := Tryz.tab) (len := 0) rfl rfl rfl rfl rfl rfl rfl rfl rfl rfl ?_ ?_; (refine Nat.le_of_ble_eq_true ?_; rfl); (unfold maxLen; omega)) | (refine LStep_appendD (T := Tryz.tab) (dst := 50) 45 rfl rfl rfl rfl rfl rfl rfl rfl rfl rfl rfl ?_ ?_ ?_; rfl; (simp only [List.length_map, List.length_nil, List.length_cons, List.length_append]; omega); (unfold maxLen; simp only [List.length_map, List.length_nil, List.length_cons, List.length_append]; omega)) | (refine LStep_append (T := Tryz.tab) rfl rfl rfl rfl rfl rfl rfl rfl rfl rfl ?_ ?_ ?_; rfl; (simp only [List.length_map, List.length_nil, List.length_cons, List.length_append]; omega); (unfold maxLen; simp only [List.length_map, List.length_nil, List.length_cons, List.length_append]; omega))); rfl) | ((first | ((with_reducible refine gS ?_); apply Es_q) | ((with_reducible refine gD ?_); apply Ed_q)); rfl; rfl; (first | refine LStep_simp (T := Tryz.tab) rfl rfl | (refine LStep_add rfl rfl rfl rfl ?_; (refine IntWalk.i64_in _ ?_; first | omega | (simp only [cmps] at *; omega))) | (refine LStep_pickT rfl rfl ?_ rfl rfl; assumption) | (refine LStep_lit (T := Tryz.tab) rfl rfl rfl rfl rfl rfl rfl rfl ?_; (refine Nat.le_of_ble_eq_true ?_; rfl)) | refine LStep_buildN (T := Tryz.tab) rfl rfl rfl rfl rfl rfl rfl)) | (refine Es_skip rfl ?_ rfl ?_; (first | rfl | (refine w_tf ?_; assumption) | (refine w_ft ?_; assumption))) | ((first | ((with_reducible refine gS ?_); apply Es_xn) | ((with_reducible refine gD ?_); apply Ed_xn)); rfl; rfl; (refine LStep_storeN (T := Tryz.tab) rfl rfl rfl rfl rfl rfl rfl ?_ rfl; (refine Nat.le_of_ble_eq_true ?_; rfl)); rfl) | (with_reducible refine Es_nil ?_) | ((with_reducible refine Ed_nil ?_ ?_); kernel_rfl) | (with_reducible refine then_n ?_) | (with_reducible refine block_n ?_))
              all_goals first
                | (refine ⟨(t + 1, ⟨(b : Nat), (r : Nat), (t : Nat)⟩), by dsimp only; omega, by dsimp only; omega, ?_, by (repeat' (first | exact trivial | exact rfl | (refine ⟨Or.inl rfl, ?_⟩) | (refine ⟨Or.inr rfl, ?_⟩) | (refine ⟨Or.inr trivial, ?_⟩) | (refine ⟨rfl, ?_⟩) | (refine ⟨?_, ?_⟩))), ?_, by (repeat' (first | exact trivial | exact rfl | (refine ⟨Or.inl rfl, ?_⟩) | (refine ⟨Or.inr rfl, ?_⟩) | (refine ⟨Or.inr trivial, ?_⟩) | (refine ⟨rfl, ?_⟩) | (refine ⟨?_, ?_⟩)))⟩
                   · dsimp only; rw [fin2, e1]; (repeat' (first | exact trivial | exact rfl | (refine ⟨Or.inl rfl, ?_⟩) | (refine ⟨Or.inr rfl, ?_⟩) | (refine ⟨Or.inr trivial, ?_⟩) | (refine ⟨rfl, ?_⟩) | (refine ⟨?_, ?_⟩)))
                   · dsimp only; rw [fin2, e2]; (repeat' (first | exact trivial | exact rfl | (refine ⟨Or.inl rfl, ?_⟩) | (refine ⟨Or.inr rfl, ?_⟩) | (refine ⟨Or.inr trivial, ?_⟩) | (refine ⟨rfl, ?_⟩) | (refine ⟨?_, ?_⟩))))
                | trace_state
            · have q1 : ltb v v0 = false := by rw [ltb_f]; omega
              have q2 : eqb v v0 = true := by rw [eqb_t]; exact heq
              have k1 := k1 heq
              cases ha : aheadS s s0 with
              | true =>
                rw [ha] at ca k1
                have fin2 : _ = some s := fin true k1
                subst hs
                repeat' (first | ((with_reducible refine gA ?_); (first | refine AW_seq ?_ | refine AW_region ?_ | refine AW_regionD Tryz.mixed ?_ | refine AW_condT rfl ?_ | (refine AW_condY rfl ?_ ?_; assumption) | (refine AW_cond rfl (fun hc => ?_) (fun hc => ?_) <;> try (exfalso; simp only [cmpL] at hc; omega)) | refine AW_block ?_ | refine AW_skip ?_)) | (first | ((with_reducible refine gS ?_); refine Es_s (T := Tryz.tab) rfl rfl rfl rfl ?_) | ((with_reducible refine gD ?_); refine Ed_s (T := Tryz.tab) rfl rfl rfl rfl ?_)) | ((first | ((with_reducible refine gS ?_); apply Es_q) | ((with_reducible refine gD ?_); apply Ed_q)); rfl; (first | rfl | (refine w_tt ?_; assumption) | (refine w_ff ?_; assumption)); (first | refine LStep_call (cw) rfl rfl rfl rfl | refine LStep_call (cl) rfl rfl rfl rfl | refine LStep_call (ca) rfl rfl rfl rfl)) | ((first | ((with_reducible refine gS ?_); apply Es_xs) | ((with_reducible refine gD ?_); apply Ed_xs)); rfl; (first | rfl | (refine w_tt ?_; assumption) | (refine w_ff ?_; assumption)); (first | (refine LStep_litOwn (T := Tryz.tab) (len := 0) rfl rfl rfl rfl rfl rfl rfl rfl rfl rfl ?_ ?_; (refine Nat.le_of_ble_eq_true ?_; rfl); (unfold maxLen; omega)) | (refine LStep_appendD (T := Tryz.tab) (dst := 50) 45 rfl rfl rfl rfl rfl rfl rfl rfl rfl rfl rfl ?_ ?_ ?_; rfl; (simp only [List.length_map, List.length_nil, List.length_cons, List.length_append]; omega); (unfold maxLen; simp only [List.length_map, List.length_nil, List.length_cons, List.length_append]; omega)) | (refine LStep_append (T := Tryz.tab) rfl rfl rfl rfl rfl rfl rfl rfl rfl rfl ?_ ?_ ?_; rfl; (simp only [List.length_map, List.length_nil, List.length_cons, List.length_append]; omega); (unfold maxLen; simp only [List.length_map, List.length_nil, List.length_cons, List.length_append]; omega))); rfl) | ((first | ((with_reducible refine gS ?_); apply Es_q) | ((with_reducible refine gD ?_); apply Ed_q)); rfl; (first | rfl | (refine w_tt ?_; assumption) | (refine w_ff ?_; assumption)); (first | refine LStep_simp (T := Tryz.tab) rfl rfl | (refine LStep_add rfl rfl rfl rfl ?_; (refine IntWalk.i64_in _ ?_; first | omega | (simp only [cmps] at *; omega))) | (refine LStep_pickT rfl rfl ?_ rfl rfl; assumption) | (refine LStep_pickF rfl rfl ?_ rfl rfl; assumption) | (refine LStep_lit (T := Tryz.tab) rfl rfl rfl rfl rfl rfl rfl rfl ?_; (refine Nat.le_of_ble_eq_true ?_; rfl)) | refine LStep_buildN (T := Tryz.tab) rfl rfl rfl rfl rfl rfl rfl)) | ((first | ((with_reducible refine gS ?_); apply Es_xn) | ((with_reducible refine gD ?_); apply Ed_xn)); rfl; rfl; (refine LStep_storeN (T := Tryz.tab) rfl rfl rfl rfl rfl rfl rfl ?_ rfl; (refine Nat.le_of_ble_eq_true ?_; rfl)); rfl) | (with_reducible refine Es_nil ?_) | ((with_reducible refine Ed_nil ?_ ?_); kernel_rfl) | (with_reducible refine then_n ?_) | (with_reducible refine block_n ?_))
                all_goals first
                  | (refine ⟨(t + 1, ⟨(b : Nat), (r : Nat), (t : Nat)⟩), by dsimp only; omega, by dsimp only; omega, ?_, by (repeat' (first | exact trivial | exact rfl | (refine ⟨Or.inl rfl, ?_⟩) | (refine ⟨Or.inr rfl, ?_⟩) | (refine ⟨Or.inr trivial, ?_⟩) | (refine ⟨rfl, ?_⟩) | (refine ⟨?_, ?_⟩))), ?_, by (repeat' (first | exact trivial | exact rfl | (refine ⟨Or.inl rfl, ?_⟩) | (refine ⟨Or.inr rfl, ?_⟩) | (refine ⟨Or.inr trivial, ?_⟩) | (refine ⟨rfl, ?_⟩) | (refine ⟨?_, ?_⟩)))⟩
                     · dsimp only; rw [fin2, e1]; (repeat' (first | exact trivial | exact rfl | (refine ⟨Or.inl rfl, ?_⟩) | (refine ⟨Or.inr rfl, ?_⟩) | (refine ⟨Or.inr trivial, ?_⟩) | (refine ⟨rfl, ?_⟩) | (refine ⟨?_, ?_⟩)))
                     · dsimp only; rw [fin2, e2]; (repeat' (first | exact trivial | exact rfl | (refine ⟨Or.inl rfl, ?_⟩) | (refine ⟨Or.inr rfl, ?_⟩) | (refine ⟨Or.inr trivial, ?_⟩) | (refine ⟨rfl, ?_⟩) | (refine ⟨?_, ?_⟩))))
                  | trace_state
              | false =>
                rw [ha] at ca k1
                have fin2 : _ = some s0 := fin false k1
                subst hs
                repeat' (first | ((with_reducible refine gA ?_); (first | refine AW_seq ?_ | refine AW_region ?_ | refine AW_regionD Tryz.mixed ?_ | refine AW_condF rfl ?_ | (refine AW_condY rfl ?_ ?_; assumption) | (refine AW_cond rfl (fun hc => ?_) (fun hc => ?_) <;> try (exfalso; simp only [cmpL] at hc; omega)) | refine AW_block ?_ | refine AW_skip ?_)) | (first | ((with_reducible refine gS ?_); refine Es_s (T := Tryz.tab) rfl rfl rfl rfl ?_) | ((with_reducible refine gD ?_); refine Ed_s (T := Tryz.tab) rfl rfl rfl rfl ?_)) | ((first | ((with_reducible refine gS ?_); apply Es_q) | ((with_reducible refine gD ?_); apply Ed_q)); rfl; (first | rfl | (refine w_tt ?_; assumption) | (refine w_ff ?_; assumption)); (first | refine LStep_call (cw) rfl rfl rfl rfl | refine LStep_call (cl) rfl rfl rfl rfl | refine LStep_call (ca) rfl rfl rfl rfl)) | ((first | ((with_reducible refine gS ?_); apply Es_xs) | ((with_reducible refine gD ?_); apply Ed_xs)); rfl; (first | rfl | (refine w_tt ?_; assumption) | (refine w_ff ?_; assumption)); (first | (refine LStep_litOwn (T := Tryz.tab) (len := 0) rfl rfl rfl rfl rfl rfl rfl rfl rfl rfl ?_ ?_; (refine Nat.le_of_ble_eq_true ?_; rfl); (unfold maxLen; omega)) | (refine LStep_appendD (T := Tryz.tab) (dst := 50) 45 rfl rfl rfl rfl rfl rfl rfl rfl rfl rfl rfl ?_ ?_ ?_; rfl; (simp only [List.length_map, List.length_nil, List.length_cons, List.length_append]; omega); (unfold maxLen; simp only [List.length_map, List.length_nil, List.length_cons, List.length_append]; omega)) | (refine LStep_append (T := Tryz.tab) rfl rfl rfl rfl rfl rfl rfl rfl rfl rfl ?_ ?_ ?_; rfl; (simp only [List.length_map, List.length_nil, List.length_cons, List.length_append]; omega); (unfold maxLen; simp only [List.length_map, List.length_nil, List.length_cons, List.length_append]; omega))); rfl) | ((first | ((with_reducible refine gS ?_); apply Es_q) | ((with_reducible refine gD ?_); apply Ed_q)); rfl; (first | rfl | (refine w_tt ?_; assumption) | (refine w_ff ?_; assumption)); (first | refine LStep_simp (T := Tryz.tab) rfl rfl | (refine LStep_add rfl rfl rfl rfl ?_; (refine IntWalk.i64_in _ ?_; first | omega | (simp only [cmps] at *; omega))) | (refine LStep_pickT rfl rfl ?_ rfl rfl; assumption) | (refine LStep_pickF rfl rfl ?_ rfl rfl; assumption) | (refine LStep_lit (T := Tryz.tab) rfl rfl rfl rfl rfl rfl rfl rfl ?_; (refine Nat.le_of_ble_eq_true ?_; rfl)) | refine LStep_buildN (T := Tryz.tab) rfl rfl rfl rfl rfl rfl rfl)) | (((with_reducible refine gS ?_); apply Es_xn); rfl; rfl; (refine LStep_storeN (T := Tryz.tab) rfl rfl rfl rfl rfl rfl rfl ?_ rfl; (refine Nat.le_of_ble_eq_true ?_; rfl)); rfl) | (with_reducible refine Es_nil ?_) | ((with_reducible refine Ed_nil ?_ ?_); kernel_rfl) | (with_reducible refine then_n ?_) | (with_reducible refine block_n ?_))
                all_goals first
                  | (refine ⟨(t + 1, ⟨(b : Nat), (r : Nat), (t : Nat)⟩), by dsimp only; omega, by dsimp only; omega, ?_, by (repeat' (first | exact trivial | exact rfl | (refine ⟨Or.inl rfl, ?_⟩) | (refine ⟨Or.inr rfl, ?_⟩) | (refine ⟨Or.inr trivial, ?_⟩) | (refine ⟨rfl, ?_⟩) | (refine ⟨?_, ?_⟩))), ?_, by (repeat' (first | exact trivial | exact rfl | (refine ⟨Or.inl rfl, ?_⟩) | (refine ⟨Or.inr rfl, ?_⟩) | (refine ⟨Or.inr trivial, ?_⟩) | (refine ⟨rfl, ?_⟩) | (refine ⟨?_, ?_⟩)))⟩
                     · dsimp only; rw [fin2, e3]; (repeat' (first | exact trivial | exact rfl | (refine ⟨Or.inl rfl, ?_⟩) | (refine ⟨Or.inr rfl, ?_⟩) | (refine ⟨Or.inr trivial, ?_⟩) | (refine ⟨rfl, ?_⟩) | (refine ⟨?_, ?_⟩)))
                     · dsimp only; rw [fin2, e4]; (repeat' (first | exact trivial | exact rfl | (refine ⟨Or.inl rfl, ?_⟩) | (refine ⟨Or.inr rfl, ?_⟩) | (refine ⟨Or.inr trivial, ?_⟩) | (refine ⟨rfl, ?_⟩) | (refine ⟨?_, ?_⟩))))
                  | trace_state
            · have q1 : ltb v v0 = false := by rw [ltb_f]; omega
              have q2 : eqb v v0 = false := by rw [eqb_f]; omega
              have fin2 : _ = some s0 := fin false (by rw [k2 (by omega)]; exact q1)
              subst hs
              repeat' (first | ((with_reducible refine gA ?_); (first | refine AW_seq ?_ | refine AW_region ?_ | refine AW_regionD Tryz.mixed ?_ | refine AW_condF rfl ?_ | (refine AW_condY rfl ?_ ?_; assumption) | (refine AW_cond rfl (fun hc => ?_) (fun hc => ?_) <;> try (exfalso; simp only [cmpL] at hc; omega)) | refine AW_block ?_ | refine AW_skip ?_)) | (first | ((with_reducible refine gS ?_); refine Es_s (T := Tryz.tab) rfl rfl rfl rfl ?_) | ((with_reducible refine gD ?_); refine Ed_s (T := Tryz.tab) rfl rfl rfl rfl ?_)) | ((first | ((with_reducible refine gS ?_); apply Es_q) | ((with_reducible refine gD ?_); apply Ed_q)); rfl; (first | rfl | (refine w_ff ?_; assumption)); (first | refine LStep_call (cw) rfl rfl rfl rfl | refine LStep_call (cl) rfl rfl rfl rfl)) | ((first | ((with_reducible refine gS ?_); apply Es_xs) | ((with_reducible refine gD ?_); apply Ed_xs)); rfl; (first | rfl | (refine w_ff ?_; assumption)); (first | (refine LStep_litOwn (T := Tryz.tab) (len := 0) rfl rfl rfl rfl rfl rfl rfl rfl rfl rfl ?_ ?_; (refine Nat.le_of_ble_eq_true ?_; rfl); (unfold maxLen; omega)) | (refine LStep_appendD (T := Tryz.tab) (dst := 50) 45 rfl rfl rfl rfl rfl rfl rfl rfl rfl rfl rfl ?_ ?_ ?_; rfl; (simp only [List.length_map, List.length_nil, List.length_cons, List.length_append]; omega); (unfold maxLen; simp only [List.length_map, List.length_nil, List.length_cons, List.length_append]; omega)) | (refine LStep_append (T := Tryz.tab) rfl rfl rfl rfl rfl rfl rfl rfl rfl rfl ?_ ?_ ?_; rfl; (simp only [List.length_map, List.length_nil, List.length_cons, List.length_append]; omega); (unfold maxLen; simp only [List.length_map, List.length_nil, List.length_cons, List.length_append]; omega))); rfl) | ((first | ((with_reducible refine gS ?_); apply Es_q) | ((with_reducible refine gD ?_); apply Ed_q)); rfl; (first | rfl | (refine w_ff ?_; assumption)); (first | refine LStep_simp (T := Tryz.tab) rfl rfl | (refine LStep_add rfl rfl rfl rfl ?_; (refine IntWalk.i64_in _ ?_; first | omega | (simp only [cmps] at *; omega))) | (refine LStep_pickF rfl rfl ?_ rfl rfl; assumption) | (refine LStep_lit (T := Tryz.tab) rfl rfl rfl rfl rfl rfl rfl rfl ?_; (refine Nat.le_of_ble_eq_true ?_; rfl)) | refine LStep_buildN (T := Tryz.tab) rfl rfl rfl rfl rfl rfl rfl)) | (refine Es_skip rfl ?_ rfl ?_; (first | rfl | (refine w_tf ?_; assumption) | (refine w_ft ?_; assumption))) | (((with_reducible refine gS ?_); apply Es_xn); rfl; rfl; (refine LStep_storeN (T := Tryz.tab) rfl rfl rfl rfl rfl rfl rfl ?_ rfl; (refine Nat.le_of_ble_eq_true ?_; rfl)); rfl) | (with_reducible refine Es_nil ?_) | ((with_reducible refine Ed_nil ?_ ?_); kernel_rfl) | (with_reducible refine then_n ?_) | (with_reducible refine block_n ?_))
              all_goals first
                | (refine ⟨(t + 1, ⟨(b : Nat), (r : Nat), (t : Nat)⟩), by dsimp only; omega, by dsimp only; omega, ?_, by (repeat' (first | exact trivial | exact rfl | (refine ⟨Or.inl rfl, ?_⟩) | (refine ⟨Or.inr rfl, ?_⟩) | (refine ⟨Or.inr trivial, ?_⟩) | (refine ⟨rfl, ?_⟩) | (refine ⟨?_, ?_⟩))), ?_, by (repeat' (first | exact trivial | exact rfl | (refine ⟨Or.inl rfl, ?_⟩) | (refine ⟨Or.inr rfl, ?_⟩) | (refine ⟨Or.inr trivial, ?_⟩) | (refine ⟨rfl, ?_⟩) | (refine ⟨?_, ?_⟩)))⟩
                   · dsimp only; rw [fin2, e3]; (repeat' (first | exact trivial | exact rfl | (refine ⟨Or.inl rfl, ?_⟩) | (refine ⟨Or.inr rfl, ?_⟩) | (refine ⟨Or.inr trivial, ?_⟩) | (refine ⟨rfl, ?_⟩) | (refine ⟨?_, ?_⟩)))
                   · dsimp only; rw [fin2, e4]; (repeat' (first | exact trivial | exact rfl | (refine ⟨Or.inl rfl, ?_⟩) | (refine ⟨Or.inr rfl, ?_⟩) | (refine ⟨Or.inr trivial, ?_⟩) | (refine ⟨rfl, ?_⟩) | (refine ⟨?_, ?_⟩))))
                | trace_state
        · rw [stepB_no h0] at hst
          have g4 : (!(eqb (putE S L (atL x s)) 0)) = true := by rw [eqb_f.2 h0]; rfl
          generalize putE S L (atL x s) = e at *
          clear hv z0 z1 z2
          subst hs
          repeat' (first | ((with_reducible refine gA ?_); (first | refine AW_seq ?_ | refine AW_region ?_ | (refine AW_condY rfl ?_ ?_; assumption) | refine AW_block ?_ | refine AW_skip ?_ | refine AW_exit ?_)) | ((with_reducible refine gS ?_); refine Es_s (T := Tryz.tab) rfl rfl rfl rfl ?_) | (((with_reducible refine gS ?_); apply Es_q); rfl; rfl; refine LStep_call (cw) rfl rfl rfl rfl) | (((with_reducible refine gS ?_); apply Es_q); rfl; rfl; (first | (refine LStep_add rfl rfl rfl rfl ?_; (refine IntWalk.i64_in _ ?_; first | omega | (simp only [cmps] at *; omega))) | refine LStep_buildN (T := Tryz.tab) rfl rfl rfl rfl rfl rfl rfl)) | (((with_reducible refine gS ?_); apply Es_xn); rfl; rfl; (refine LStep_storeN (T := Tryz.tab) rfl rfl rfl rfl rfl rfl rfl ?_ rfl; (refine Nat.le_of_ble_eq_true ?_; rfl)); rfl) | (with_reducible refine Es_nil ?_) | (with_reducible refine then_n ?_) | (with_reducible refine then_e ?_) | ((with_reducible refine block_e ?_ ?_); rfl))
          all_goals first
            | (refine ⟨(t + 1, ⟨(b : Nat), (r : Nat), (t : Nat)⟩), by dsimp only; omega, by dsimp only; omega, ?_, by (repeat' (first | exact trivial | exact rfl | (refine ⟨Or.inl rfl, ?_⟩) | (refine ⟨Or.inr rfl, ?_⟩) | (refine ⟨Or.inr trivial, ?_⟩) | (refine ⟨rfl, ?_⟩) | (refine ⟨?_, ?_⟩))), ?_, by (repeat' (first | exact trivial | exact rfl | (refine ⟨Or.inl rfl, ?_⟩) | (refine ⟨Or.inr rfl, ?_⟩) | (refine ⟨Or.inr trivial, ?_⟩) | (refine ⟨rfl, ?_⟩) | (refine ⟨?_, ?_⟩)))⟩
               · dsimp only; rw [hst]; (repeat' (first | exact trivial | exact rfl | (refine ⟨Or.inl rfl, ?_⟩) | (refine ⟨Or.inr rfl, ?_⟩) | (refine ⟨Or.inr trivial, ?_⟩) | (refine ⟨rfl, ?_⟩) | (refine ⟨?_, ?_⟩)))
               · dsimp only; rw [hst]; (repeat' (first | exact trivial | exact rfl | (refine ⟨Or.inl rfl, ?_⟩) | (refine ⟨Or.inr rfl, ?_⟩) | (refine ⟨Or.inr trivial, ?_⟩) | (refine ⟨rfl, ?_⟩) | (refine ⟨?_, ?_⟩))))
            | trace_state
      · have : t = T := by omega
        subst this
        have g3 : ltb (t : Nat) S.tiers = false := by rw [ltb_f]; omega
        have hst : allS R t b ++ rowS (b : Nat) t (r + 1) = allS R t b ++ rowS (b : Nat) t r ++ colS (b : Nat) (r : Nat) t := by rw [rowS_succ, List.append_assoc]
        repeat' (first | ((with_reducible refine gA ?_); (first | refine AW_seq ?_ | refine AW_region ?_ | (refine AW_condN rfl ?_ ?_; assumption) | refine AW_exit ?_)) | ((with_reducible refine gS ?_); refine Es_s (T := Tryz.tab) rfl rfl rfl rfl ?_) | (((with_reducible refine gS ?_); apply Es_q); rfl; rfl; (refine LStep_add rfl rfl rfl rfl ?_; (refine IntWalk.i64_in _ ?_; first | omega | (simp only [cmps] at *; omega)))) | (with_reducible refine Es_nil ?_) | (with_reducible refine then_n ?_) | (with_reducible refine then_e ?_) | (with_reducible refine block_n ?_) | ((with_reducible refine block_e ?_ ?_); rfl))
        all_goals first
          | (refine ⟨(r + 1, c), by dsimp only; omega, by dsimp only; omega, ?_, by (repeat' (first | exact trivial | exact rfl | (refine ⟨Or.inl rfl, ?_⟩) | (refine ⟨Or.inr rfl, ?_⟩) | (refine ⟨Or.inr trivial, ?_⟩) | (refine ⟨rfl, ?_⟩) | (refine ⟨?_, ?_⟩))), ?_, by (repeat' (first | exact trivial | exact rfl | (refine ⟨Or.inl rfl, ?_⟩) | (refine ⟨Or.inr rfl, ?_⟩) | (refine ⟨Or.inr trivial, ?_⟩) | (refine ⟨rfl, ?_⟩) | (refine ⟨?_, ?_⟩)))⟩
             · dsimp only; rw [hst]; (repeat' (first | exact trivial | exact rfl | (refine ⟨Or.inl rfl, ?_⟩) | (refine ⟨Or.inr rfl, ?_⟩) | (refine ⟨Or.inr trivial, ?_⟩) | (refine ⟨rfl, ?_⟩) | (refine ⟨?_, ?_⟩)))
             · dsimp only; rw [hst]; (repeat' (first | exact trivial | exact rfl | (refine ⟨Or.inl rfl, ?_⟩) | (refine ⟨Or.inr rfl, ?_⟩) | (refine ⟨Or.inr trivial, ?_⟩) | (refine ⟨rfl, ?_⟩) | (refine ⟨?_, ?_⟩))))
          | trace_state
    · have : r = R := by omega
      subst this
      have g2 : ltb (r : Nat) S.rows = false := by rw [ltb_f]; omega
      have hst : allS r T (b + 1) = allS r T b ++ rowS (b : Nat) T r := allS_succ _ _ _
      repeat' (first | ((with_reducible refine gA ?_); (first | refine AW_seq ?_ | refine AW_region ?_ | (refine AW_condN rfl ?_ ?_; assumption) | refine AW_exit ?_)) | ((with_reducible refine gS ?_); refine Es_s (T := Tryz.tab) rfl rfl rfl rfl ?_) | (((with_reducible refine gS ?_); apply Es_q); rfl; rfl; (refine LStep_add rfl rfl rfl rfl ?_; (refine IntWalk.i64_in _ ?_; first | omega | (simp only [cmps] at *; omega)))) | (with_reducible refine Es_nil ?_) | (with_reducible refine then_n ?_) | (with_reducible refine then_e ?_) | (with_reducible refine block_n ?_) | ((with_reducible refine block_e ?_ ?_); rfl))
      all_goals first
        | (refine ⟨(b + 1, c), by dsimp only; omega, by dsimp only; omega, ?_, by (repeat' (first | exact trivial | exact rfl | (refine ⟨Or.inl rfl, ?_⟩) | (refine ⟨Or.inr rfl, ?_⟩) | (refine ⟨Or.inr trivial, ?_⟩) | (refine ⟨rfl, ?_⟩) | (refine ⟨?_, ?_⟩))), ?_, by (repeat' (first | exact trivial | exact rfl | (refine ⟨Or.inl rfl, ?_⟩) | (refine ⟨Or.inr rfl, ?_⟩) | (refine ⟨Or.inr trivial, ?_⟩) | (refine ⟨rfl, ?_⟩) | (refine ⟨?_, ?_⟩)))⟩
           · dsimp only; rw [hst]; (repeat' (first | exact trivial | exact rfl | (refine ⟨Or.inl rfl, ?_⟩) | (refine ⟨Or.inr rfl, ?_⟩) | (refine ⟨Or.inr trivial, ?_⟩) | (refine ⟨rfl, ?_⟩) | (refine ⟨?_, ?_⟩)))
           · dsimp only; rw [hst]; (repeat' (first | exact trivial | exact rfl | (refine ⟨Or.inl rfl, ?_⟩) | (refine ⟨Or.inr rfl, ?_⟩) | (refine ⟨Or.inr trivial, ?_⟩) | (refine ⟨rfl, ?_⟩) | (refine ⟨?_, ?_⟩))))
        | trace_state
  · have : b = B := by omega
    subst this
    have g1 : ltb (b : Nat) S.bays = false := by rw [ltb_f]; omega
    repeat' (first | ((with_reducible refine gA ?_); (first | refine AW_seq ?_ | refine AW_region ?_ | (refine AW_condN rfl ?_ ?_; assumption) | refine AW_ret ?_ | refine AW_exit ?_)) | ((with_reducible refine gS ?_); refine Es_s (T := Tryz.tab) rfl rfl rfl rfl ?_) | (((with_reducible refine gS ?_); apply Es_xn); rfl; rfl; (refine LStep_storeN (T := Tryz.tab) rfl rfl rfl rfl rfl rfl rfl ?_ rfl; (refine Nat.le_of_ble_eq_true ?_; rfl)); rfl) | (with_reducible refine Es_nil ?_) | (with_reducible refine then_n ?_) | (with_reducible refine then_e ?_) | ((with_reducible refine block_e ?_ ?_); rfl) | ((with_reducible refine gRG ?_); first | refine retGa rfl ?_ | refine retGb rfl ?_ | refine retGc rfl ?_ | refine retG1 rfl rfl ?_ | refine endG1 rfl rfl ?_))
    all_goals first
      | rfl
      | trace_state
end Go.Proofs.YtjlblnplofgpnaaGreatDoor
namespace Go.Proofs.YtjlblnplofgpnaaGreatDoor
open Go.SL
/-! ### the document's Wrong, Plan -/
theorem find_take {l : List Load} {k : Nat} {x : Load} (_hx : l[k]? = some x) (hn : ((l.take k).map (·.box)).Nodup) : (x.box ∈ (l.take k).map (·.box) → ∃ j : Nat, fI (fun y => eqs y.box x.box) (l.take k) 0 = (j : Nat)) ∧ (x.box ∉ (l.take k).map (·.box) → fI (fun y => eqs y.box x.box) (l.take k) 0 = -1) := by
  rcases by_place hn x.box with ⟨g1, g2⟩ | ⟨j, y, g0, g1, g2⟩
  · refine ⟨fun h => ?_, fun _ => g2⟩
    obtain ⟨z, hz, e⟩ := List.mem_map.1 h
    exact absurd e (byB_none.1 g1 z hz)
  · refine ⟨fun _ => ⟨j, g2⟩, fun h => ?_⟩
    obtain ⟨h1, h2⟩ := (byB_some hn).1 g1
    exact absurd (List.mem_map.2 ⟨y, h1, h2⟩) h
set_option maxRecDepth 10000 in
set_option maxHeartbeats 8000000 in
theorem rWrong15_ac (S : Ship) (l : List Load) (hl : l.length ≤ 4096) (hs : S.nm.size ≤ 9007199254740992) (hb : ∀ x ∈ l, x.box.size ≤ 9007199254740992) : AC Tryz.prog 17 [.agg S.cs, .d (.sl 7 (l.map Load.enc))] [] [] (fun r _ => r = .d (.sc (.int .i64 (planE S l)))) := by
  have c1 := rmay_ac S hs
  cases e1 : shipOk S with
  | false =>
    rw [e1] at c1
    have hE : planE S l = 1 := by unfold planE mayAllB; rw [e1]; rfl
    rw [hE]
    refine AC_enter Tryz.func17 rfl Tryz.ntmps17 (rv := [.tmp 4]) rfl rfl (by simp) (fun w X G => ?_)
    repeat' (first | ((with_reducible refine gA ?_); (first | refine AW_seq ?_ | refine AW_region ?_ | refine AW_condT rfl ?_ | refine AW_ret ?_)) | ((with_reducible refine gS ?_); refine Es_s (T := Tryz.tab) rfl rfl rfl rfl ?_) | (((with_reducible refine gS ?_); apply Es_q); rfl; rfl; refine LStep_call (c1) rfl rfl rfl rfl) | (refine Es_skip rfl ?_ rfl ?_; (first | rfl | (refine w_tf ?_; assumption) | (refine w_ft ?_; assumption))) | (((with_reducible refine gS ?_); apply Es_xs); rfl; rfl; refine LStep_boxN rfl rfl rfl rfl rfl rfl; rfl) | (with_reducible refine Es_nil ?_) | (with_reducible refine then_n ?_) | (with_reducible refine then_r ?_) | ((with_reducible refine gR ?_); first | refine ret1 rfl ?_ | refine ret2 rfl rfl ?_ | refine ret0 ?_ | refine end1 rfl ?_ | refine end0 ?_))
    all_goals first
      | rfl
      | trace_state
  | true =>
  rw [e1] at c1
  have f0 : ltb 4096 (l.length : Nat) = false := by rw [ltb_f]; omega
  refine AC_enter Tryz.func17 rfl Tryz.ntmps17 (rv := [.tmp 4]) rfl rfl (by simp) (fun w X G => ?_)
  repeat' (first | ((with_reducible refine gA ?_); (first | refine AW_seq ?_ | refine AW_region ?_ | refine AW_condF rfl ?_ | refine AW_block ?_ | refine AW_skip ?_)) | ((with_reducible refine gS ?_); refine Es_s (T := Tryz.tab) rfl rfl rfl rfl ?_) | (((with_reducible refine gS ?_); apply Es_q); rfl; rfl; refine LStep_call (c1) rfl rfl rfl rfl) | (refine Es_skip rfl ?_ rfl ?_; (first | rfl | (refine w_tf ?_; assumption) | (refine w_ft ?_; assumption))) | (((with_reducible refine gS ?_); apply Es_xs); rfl; rfl; refine LStep_boxN rfl rfl rfl rfl rfl rfl; rfl) | (with_reducible refine Es_nil ?_) | (with_reducible refine then_n ?_))
  refine AW_forE (S := Nat) (fun k => k ≤ l.length ∧ (l.take k).all mayL = true) (fun k => [(5, .d (.sc (.int .i64 (k : Nat))))]) (fun _ => []) (fun k => l.length - k) 0 ⟨by omega, rfl⟩ (by (repeat' (first | exact trivial | exact rfl | (refine ⟨Or.inl rfl, ?_⟩) | (refine ⟨Or.inr rfl, ?_⟩) | (refine ⟨Or.inr trivial, ?_⟩) | (refine ⟨rfl, ?_⟩) | (refine ⟨?_, ?_⟩)))) (by (repeat' (first | exact trivial | exact rfl | (refine ⟨Or.inl rfl, ?_⟩) | (refine ⟨Or.inr rfl, ?_⟩) | (refine ⟨Or.inr trivial, ?_⟩) | (refine ⟨rfl, ?_⟩) | (refine ⟨?_, ?_⟩)))) ?_
  intro k ⟨hk, ha⟩
  by_cases hlt : k < l.length
  · obtain ⟨x, hx, _⟩ := drop_at hlt
    obtain ⟨m1, m2⟩ := may_step hx ha
    have cr := right_ac x (hb x (List.mem_of_getElem? hx))
    have g1 : ltb (k : Nat) (l.length : Nat) = true := by rw [ltb_t]; omega
    cases e2 : mayL x with
    | false =>
      rw [e2] at cr
      have hE : planE S l = 1 := by unfold planE mayAllB; rw [m1 e2, Bool.and_false]; rfl
      rw [hE]
      repeat' (first | ((with_reducible refine gA ?_); (first | refine AW_seq ?_ | refine AW_region ?_ | refine AW_condT rfl ?_ | (refine AW_condY rfl ?_ ?_; assumption) | refine AW_block ?_ | refine AW_ret ?_ | refine AW_skip ?_)) | ((with_reducible refine gS ?_); refine Es_s (T := Tryz.tab) rfl rfl rfl rfl ?_) | (((with_reducible refine gS ?_); apply Es_q); rfl; rfl; refine LStep_call (cr) rfl rfl rfl rfl) | (((with_reducible refine gS ?_); apply Es_q); rfl; rfl; (first | refine LStep_lenM (T := Tryz.tab) rfl rfl rfl rfl | (refine LStep_indexM (T := Tryz.tab) (c := ?_) rfl rfl rfl rfl rfl rfl ?_; rotate_left; assumption))) | (with_reducible refine Es_nil ?_) | (with_reducible refine then_n ?_) | (with_reducible refine then_r ?_) | (with_reducible refine block_r ?_) | ((with_reducible refine gR ?_); first | refine ret1 rfl ?_ | refine ret2 rfl rfl ?_ | refine ret0 ?_ | refine end1 rfl ?_ | refine end0 ?_))
      all_goals first
        | rfl
        | trace_state
    | true =>
      rw [e2] at cr
      repeat' (first | ((with_reducible refine gA ?_); (first | refine AW_seq ?_ | refine AW_region ?_ | refine AW_condF rfl ?_ | (refine AW_condY rfl ?_ ?_; assumption) | refine AW_block ?_ | refine AW_skip ?_)) | ((with_reducible refine gS ?_); refine Es_s (T := Tryz.tab) rfl rfl rfl rfl ?_) | (((with_reducible refine gS ?_); apply Es_q); rfl; rfl; refine LStep_call (cr) rfl rfl rfl rfl) | (((with_reducible refine gS ?_); apply Es_q); rfl; rfl; (first | refine LStep_lenM (T := Tryz.tab) rfl rfl rfl rfl | (refine LStep_add rfl rfl rfl rfl ?_; (refine IntWalk.i64_in _ ?_; first | omega | (simp only [cmps] at *; omega))) | (refine LStep_indexM (T := Tryz.tab) (c := ?_) rfl rfl rfl rfl rfl rfl ?_; rotate_left; assumption))) | (with_reducible refine Es_nil ?_) | (with_reducible refine then_n ?_) | (with_reducible refine block_n ?_))
      all_goals first
        | (refine ⟨k + 1, ⟨by omega, m2 e2⟩, by omega, by (repeat' (first | exact trivial | exact rfl | (refine ⟨Or.inl rfl, ?_⟩) | (refine ⟨Or.inr rfl, ?_⟩) | (refine ⟨Or.inr trivial, ?_⟩) | (refine ⟨rfl, ?_⟩) | (refine ⟨?_, ?_⟩))), by (repeat' (first | exact trivial | exact rfl | (refine ⟨Or.inl rfl, ?_⟩) | (refine ⟨Or.inr rfl, ?_⟩) | (refine ⟨Or.inr trivial, ?_⟩) | (refine ⟨rfl, ?_⟩) | (refine ⟨?_, ?_⟩))), by (repeat' (first | exact trivial | exact rfl | (refine ⟨Or.inl rfl, ?_⟩) | (refine ⟨Or.inr rfl, ?_⟩) | (refine ⟨Or.inr trivial, ?_⟩) | (refine ⟨rfl, ?_⟩) | (refine ⟨?_, ?_⟩))), by (repeat' (first | exact trivial | exact rfl | (refine ⟨Or.inl rfl, ?_⟩) | (refine ⟨Or.inr rfl, ?_⟩) | (refine ⟨Or.inr trivial, ?_⟩) | (refine ⟨rfl, ?_⟩) | (refine ⟨?_, ?_⟩)))⟩; done)
        | trace_state
  · have : k = l.length := by omega
    subst this
    rw [List.take_length] at ha
    have hma : mayAllB S l = true := by unfold mayAllB; rw [e1, ha]; rfl
    have g1 : ltb (l.length : Nat) (l.length : Nat) = false := by rw [ltb_f]; omega
    repeat' (first | ((with_reducible refine gA ?_); (first | refine AW_seq ?_ | refine AW_region ?_ | (refine AW_condN rfl ?_ ?_; assumption) | refine AW_block ?_ | refine AW_exit ?_)) | ((with_reducible refine gS ?_); refine Es_s (T := Tryz.tab) rfl rfl rfl rfl ?_) | (((with_reducible refine gS ?_); apply Es_q); rfl; rfl; refine LStep_lenM (T := Tryz.tab) rfl rfl rfl rfl) | (with_reducible refine Es_nil ?_) | (with_reducible refine then_n ?_) | (with_reducible refine then_e ?_) | ((with_reducible refine block_e ?_ ?_); rfl))
    refine AW_forE (S := Nat) (fun k => k ≤ l.length ∧ ((l.take k).map (·.box)).Nodup) (fun k => [(6, .d (.sc (.int .i64 (k : Nat))))]) (fun _ => []) (fun k => l.length - k) 0 ⟨by omega, by simp⟩ (by (repeat' (first | exact trivial | exact rfl | (refine ⟨Or.inl rfl, ?_⟩) | (refine ⟨Or.inr rfl, ?_⟩) | (refine ⟨Or.inr trivial, ?_⟩) | (refine ⟨rfl, ?_⟩) | (refine ⟨?_, ?_⟩)))) (by (repeat' (first | exact trivial | exact rfl | (refine ⟨Or.inl rfl, ?_⟩) | (refine ⟨Or.inr rfl, ?_⟩) | (refine ⟨Or.inr trivial, ?_⟩) | (refine ⟨rfl, ?_⟩) | (refine ⟨?_, ?_⟩)))) ?_
    intro k ⟨hk, hn⟩
    by_cases hlt : k < l.length
    · obtain ⟨x, hx, _⟩ := drop_at hlt
      have g2 : ltb (k : Nat) (l.length : Nat) = true := by rw [ltb_t]; omega
      obtain ⟨t1, t2⟩ := twice_step hx hn
      obtain ⟨u1, u2⟩ := find_take hx hn
      have cf := rFind_ac (l.take k) x.box (by rw [List.length_take]; omega)
      have ep : (l.take ((k : Nat) : Int).toNat).drop (0 : Int).toNat = l.take k := by simp
      rw [← ep] at cf
      rw [ep] at cf
      by_cases hq : x.box ∈ (l.take k).map (·.box)
      · obtain ⟨j, hj⟩ := u1 hq
        rw [hj] at cf
        rw [← ep] at cf
        have hE : planE S l = 5 := by unfold planE; rw [hma, t1 hq]; rfl
        rw [hE]
        have g3 : leb 0 (j : Nat) = true := by rw [leb_t]; omega
        repeat' (first | ((with_reducible refine gA ?_); (first | refine AW_seq ?_ | refine AW_region ?_ | refine AW_regionD Tryz.mixed ?_ | (refine AW_condY rfl ?_ ?_; assumption) | refine AW_block ?_ | refine AW_ret ?_ | refine AW_skip ?_)) | (first | ((with_reducible refine gS ?_); refine Es_s (T := Tryz.tab) rfl rfl rfl rfl ?_) | ((with_reducible refine gD ?_); refine Ed_s (T := Tryz.tab) rfl rfl rfl rfl ?_)) | ((first | ((with_reducible refine gS ?_); apply Es_q) | ((with_reducible refine gD ?_); apply Ed_q)); rfl; rfl; refine LStep_call (cf) rfl rfl rfl rfl) | ((first | ((with_reducible refine gS ?_); apply Es_q) | ((with_reducible refine gD ?_); apply Ed_q)); rfl; rfl; (first | refine LStep_lenM (T := Tryz.tab) rfl rfl rfl rfl | (refine LStep_indexM (T := Tryz.tab) (c := ?_) rfl rfl rfl rfl rfl rfl ?_; rotate_left; assumption) | (refine LStep_partM (T := Tryz.tab) rfl rfl rfl rfl rfl rfl rfl ?_ ?_ ?_; omega; (first | omega | (simp only [List.length_map]; omega)); (first | omega | (simp only [List.length_map]; omega))))) | (with_reducible refine Es_nil ?_) | ((with_reducible refine Ed_nil ?_ ?_); kernel_rfl) | (with_reducible refine then_n ?_) | (with_reducible refine then_r ?_) | (with_reducible refine block_r ?_) | ((with_reducible refine gR ?_); first | refine ret1 rfl ?_ | refine ret2 rfl rfl ?_ | refine ret0 ?_ | refine end1 rfl ?_ | refine end0 ?_))
        all_goals first
          | rfl
          | trace_state
      · have hj := u2 hq
        rw [hj] at cf
        rw [← ep] at cf
        have g3 : leb 0 (-1) = false := by rw [leb_f]; omega
        repeat' (first | ((with_reducible refine gA ?_); (first | refine AW_seq ?_ | refine AW_region ?_ | refine AW_regionD Tryz.mixed ?_ | (refine AW_condY rfl ?_ ?_; assumption) | (refine AW_condN rfl ?_ ?_; assumption) | refine AW_block ?_ | refine AW_skip ?_)) | (first | ((with_reducible refine gS ?_); refine Es_s (T := Tryz.tab) rfl rfl rfl rfl ?_) | ((with_reducible refine gD ?_); refine Ed_s (T := Tryz.tab) rfl rfl rfl rfl ?_)) | ((first | ((with_reducible refine gS ?_); apply Es_q) | ((with_reducible refine gD ?_); apply Ed_q)); rfl; rfl; refine LStep_call (cf) rfl rfl rfl rfl) | ((first | ((with_reducible refine gS ?_); apply Es_q) | ((with_reducible refine gD ?_); apply Ed_q)); rfl; rfl; (first | refine LStep_lenM (T := Tryz.tab) rfl rfl rfl rfl | (refine LStep_add rfl rfl rfl rfl ?_; (refine IntWalk.i64_in _ ?_; first | omega | (simp only [cmps] at *; omega))) | (refine LStep_indexM (T := Tryz.tab) (c := ?_) rfl rfl rfl rfl rfl rfl ?_; rotate_left; assumption) | (refine LStep_partM (T := Tryz.tab) rfl rfl rfl rfl rfl rfl rfl ?_ ?_ ?_; omega; (first | omega | (simp only [List.length_map]; omega)); (first | omega | (simp only [List.length_map]; omega))))) | (with_reducible refine Es_nil ?_) | ((with_reducible refine Ed_nil ?_ ?_); kernel_rfl) | (with_reducible refine then_n ?_) | (with_reducible refine block_n ?_))
        all_goals first
          | (refine ⟨k + 1, ⟨by omega, (t2 hq).1⟩, by omega, by (repeat' (first | exact trivial | exact rfl | (refine ⟨Or.inl rfl, ?_⟩) | (refine ⟨Or.inr rfl, ?_⟩) | (refine ⟨Or.inr trivial, ?_⟩) | (refine ⟨rfl, ?_⟩) | (refine ⟨?_, ?_⟩))), by (repeat' (first | exact trivial | exact rfl | (refine ⟨Or.inl rfl, ?_⟩) | (refine ⟨Or.inr rfl, ?_⟩) | (refine ⟨Or.inr trivial, ?_⟩) | (refine ⟨rfl, ?_⟩) | (refine ⟨?_, ?_⟩))), by (repeat' (first | exact trivial | exact rfl | (refine ⟨Or.inl rfl, ?_⟩) | (refine ⟨Or.inr rfl, ?_⟩) | (refine ⟨Or.inr trivial, ?_⟩) | (refine ⟨rfl, ?_⟩) | (refine ⟨?_, ?_⟩))), by (repeat' (first | exact trivial | exact rfl | (refine ⟨Or.inl rfl, ?_⟩) | (refine ⟨Or.inr rfl, ?_⟩) | (refine ⟨Or.inr trivial, ?_⟩) | (refine ⟨rfl, ?_⟩) | (refine ⟨?_, ?_⟩)))⟩; done)
          | trace_state
    · have : k = l.length := by omega
      subst this
      rw [List.take_length] at hn
      have hE : planE S l = 0 := by unfold planE twiceB; rw [hma, decide_eq_true hn]; rfl
      rw [hE]
      repeat' (first | ((with_reducible refine gA ?_); (first | refine AW_seq ?_ | refine AW_region ?_ | (refine AW_condN rfl ?_ ?_; assumption) | refine AW_ret ?_ | refine AW_skip ?_ | refine AW_exit ?_)) | ((with_reducible refine gS ?_); refine Es_s (T := Tryz.tab) rfl rfl rfl rfl ?_) | (((with_reducible refine gS ?_); apply Es_q); rfl; rfl; refine LStep_lenM (T := Tryz.tab) rfl rfl rfl rfl) | (with_reducible refine Es_nil ?_) | (with_reducible refine then_n ?_) | (with_reducible refine then_e ?_) | ((with_reducible refine block_e ?_ ?_); rfl) | ((with_reducible refine gR ?_); first | refine ret1 rfl ?_ | refine ret2 rfl rfl ?_ | refine ret0 ?_ | refine end1 rfl ?_ | refine end0 ?_))
      all_goals first
        | rfl
        | trace_state
set_option maxRecDepth 10000 in
set_option maxHeartbeats 16000000 in
theorem rPlan_ac (S : Ship) (l : List Load) (hl : l.length ≤ 20) (hE : planE S l = 0) (hs : S.nm.size ≤ 9007199254740992) (hb : ∀ x ∈ l, x.box.size ≤ 9007199254740992) : AC Tryz.prog 18 [.agg S.cs, .d (.sl 7 (l.map Load.enc))] [] [] (fun r _ => r = .tup [.d (.sl 7 ((lsort (planL S (bN S) (rN S) l)).map Load.enc)), .d (.sl 1 ((sortS (planO S (bN S) (rN S) l)).map sN))]) := by
  have hm : mayAllB S l = true := by
    cases h : mayAllB S l with
    | true => rfl
    | false => unfold planE at hE; rw [h] at hE; cases hE
  unfold mayAllB at hm
  rw [Bool.and_eq_true] at hm
  obtain ⟨hS, _⟩ := hm
  have hi : (1 ≤ S.bays ∧ S.bays ≤ 32) ∧ (1 ≤ S.rows ∧ S.rows ≤ 32) ∧ (1 ≤ S.tiers ∧ S.tiers ≤ 32) := by
    have h := hS
    simp only [shipOk, Bool.and_eq_true, frB_t] at h
    omega
  have hB0 : S.bays = (bN S : Nat) := by unfold bN; omega
  have hR0 : S.rows = (rN S : Nat) := by unfold rN; omega
  have hT0 : S.tiers = (S.tiers.toNat : Nat) := by omega
  unfold planL planO keepL goneL
  generalize bN S = B at *
  generalize rN S = R at *
  generalize S.tiers.toNat = T at *
  have co := rOrder_ac l (by omega)
  have hol : (isL ltO l).length ≤ 20 := by rw [(isL_perm l).length_eq]; exact hl
  have hob : ∀ x ∈ isL ltO l, x.box.size ≤ 9007199254740992 := fun x hx => hb x ((isL_perm l).mem_iff.1 hx)
  generalize isL ltO l = o at *
  clear hE
  have z0 : fillP S B R (o.take 0) = ([], []) := rfl
  have z1 : sortT [] = [] := rfl
  refine AC_enter Tryz.func18 rfl Tryz.ntmps18 (rv := [.tmp 4, .tmp 5]) rfl rfl (by simp) (fun w X G => ?_)
  repeat' (first | ((with_reducible refine gA ?_); (first | refine AW_seq ?_ | refine AW_region ?_ | refine AW_block ?_)) | ((with_reducible refine gS ?_); refine Es_s (T := Tryz.tab) rfl rfl rfl rfl ?_) | (((with_reducible refine gS ?_); apply Es_q); rfl; rfl; refine LStep_call (co) rfl rfl rfl rfl) | (((with_reducible refine gS ?_); apply Es_xs); rfl; rfl; (refine LStep_litOwn (T := Tryz.tab) (len := 0) (id := 12) rfl rfl rfl rfl rfl rfl rfl rfl rfl rfl ?_ ?_; (refine Nat.le_of_ble_eq_true ?_; rfl); (unfold maxLen; omega)); rfl) | (((with_reducible refine gS ?_); apply Es_q); rfl; rfl; (refine LStep_lit (T := Tryz.tab) rfl rfl rfl rfl rfl rfl rfl rfl ?_; (refine Nat.le_of_ble_eq_true ?_; rfl))) | (refine Es_skip rfl ?_ rfl ?_; (first | rfl | (refine w_tf ?_; assumption) | (refine w_ft ?_; assumption))) | (((with_reducible refine gS ?_); apply Es_xs); rfl; rfl; refine LStep_boxN rfl rfl rfl rfl rfl rfl; rfl) | (with_reducible refine Es_nil ?_) | (with_reducible refine then_n ?_))
  refine AW_forE (S := Nat) (fun k => k ≤ o.length) (fun k => [(9, .d (.sc (.int .i64 (k : Nat)))), (6, .own 12 ((fillP S B R (o.take k)).1.map Load.enc).length), (7, .d (.sl 1 ((sortT (fillP S B R (o.take k)).2).map sN)))]) (fun k => [(12, some (.arr 43 7 ((fillP S B R (o.take k)).1.map Load.enc)))]) (fun k => o.length - k) 0 (by omega) (by rw [z0]; (repeat' (first | exact trivial | exact rfl | (refine ⟨Or.inl rfl, ?_⟩) | (refine ⟨Or.inr rfl, ?_⟩) | (refine ⟨Or.inr trivial, ?_⟩) | (refine ⟨rfl, ?_⟩) | (refine ⟨?_, ?_⟩)))) (by rw [z0]; (repeat' (first | exact trivial | exact rfl | (refine ⟨Or.inl rfl, ?_⟩) | (refine ⟨Or.inr rfl, ?_⟩) | (refine ⟨Or.inr trivial, ?_⟩) | (refine ⟨rfl, ?_⟩) | (refine ⟨?_, ?_⟩)))) ?_
  intro k hk
  obtain ⟨hv, hlen⟩ := fillP_inv (B := B) (R := R) hS (o.take k)
  rw [List.length_take] at hlen
  by_cases hlt : k < o.length
  · obtain ⟨x, hx, _⟩ := drop_at hlt
    have hxo := hob x (List.mem_of_getElem? hx)
    have hst : fillP S B R (o.take (k + 1)) = stepP S B R (fillP S B R (o.take k)) x := by rw [take_at hx, fillP_snoc]
    have g1 : ltb (k : Nat) (o.length : Nat) = true := by rw [ltb_t]; omega
    generalize hst0 : fillP S B R (o.take k) = st at *
    obtain ⟨L, out⟩ := st
    dsimp only at hv hlen ⊢
    have cb := rbest_ac S L x B R T hv hS hB0 hR0 hT0 (by omega) hxo
    have hsl : (sortT out).length ≤ 20 := by rw [(sortT_spec out).1.length_eq]; omega
    cases hq : bestP S B R L x with
    | none =>
      rw [hq] at cb
      have cp := rputT_ac (sortT out) x.box (by omega)
      rw [← sortT_snoc] at cp
      have hs2 : fillP S B R (o.take (k + 1)) = (L, out ++ [x.box]) := by rw [hst]; unfold stepP; dsimp only; rw [hq]
      generalize ho2 : sortT (out ++ [x.box]) = out' at *
      clear hst hq hob co hst0 hv
      repeat' (first | ((with_reducible refine gA ?_); (first | refine AW_seq ?_ | refine AW_region ?_ | refine AW_regionD Tryz.mixed ?_ | refine AW_condF rfl ?_ | (refine AW_condY rfl ?_ ?_; assumption) | refine AW_block ?_ | refine AW_skip ?_)) | (first | ((with_reducible refine gS ?_); refine Es_s (T := Tryz.tab) rfl rfl rfl rfl ?_) | ((with_reducible refine gD ?_); refine Ed_s (T := Tryz.tab) rfl rfl rfl rfl ?_)) | ((first | ((with_reducible refine gS ?_); apply Es_q) | ((with_reducible refine gD ?_); apply Ed_q)); rfl; rfl; (first | refine LStep_callR 12 cb rfl rfl rfl rfl ⟨.inl rfl, .inr ⟨rfl, rfl⟩, .inl rfl, trivial⟩ rfl | refine LStep_call (cp) rfl rfl rfl rfl)) | ((first | ((with_reducible refine gS ?_); apply Es_q) | ((with_reducible refine gD ?_); apply Ed_q)); rfl; rfl; (first | refine LStep_lenM (T := Tryz.tab) rfl rfl rfl rfl | (refine LStep_add rfl rfl rfl rfl ?_; (refine IntWalk.i64_in _ ?_; first | omega | (simp only [cmps] at *; omega))) | (refine LStep_indexM (T := Tryz.tab) (c := ?_) rfl rfl rfl rfl rfl rfl ?_; rotate_left; assumption))) | (refine Ed_skip rfl ?_ rfl ?_; (first | rfl | (refine w_tf ?_; assumption) | (refine w_ft ?_; assumption))) | (((with_reducible refine gD ?_); apply Ed_xs); rfl; rfl; refine LStep_allocN (T := Tryz.tab) rfl rfl rfl rfl rfl rfl; rfl) | (((with_reducible refine gD ?_); apply Ed_xn); rfl; rfl; (refine LStep_storeN (T := Tryz.tab) rfl rfl rfl rfl rfl rfl rfl ?_ rfl; (refine Nat.le_of_ble_eq_true ?_; rfl)); rfl) | (with_reducible refine Es_nil ?_) | ((with_reducible refine Ed_nil ?_ ?_); kernel_rfl) | (with_reducible refine then_n ?_) | (with_reducible refine block_n ?_))
      all_goals first
        | (refine ⟨k + 1, by omega, by omega, ?_, by (repeat' (first | exact trivial | exact rfl | (refine ⟨Or.inl rfl, ?_⟩) | (refine ⟨Or.inr rfl, ?_⟩) | (refine ⟨Or.inr trivial, ?_⟩) | (refine ⟨rfl, ?_⟩) | (refine ⟨?_, ?_⟩))), ?_, by (repeat' (first | exact trivial | exact rfl | (refine ⟨Or.inl rfl, ?_⟩) | (refine ⟨Or.inr rfl, ?_⟩) | (refine ⟨Or.inr trivial, ?_⟩) | (refine ⟨rfl, ?_⟩) | (refine ⟨?_, ?_⟩)))⟩
           · rw [hs2]; dsimp only; rw [ho2]; (repeat' (first | exact trivial | exact rfl | (refine ⟨Or.inl rfl, ?_⟩) | (refine ⟨Or.inr rfl, ?_⟩) | (refine ⟨Or.inr trivial, ?_⟩) | (refine ⟨rfl, ?_⟩) | (refine ⟨?_, ?_⟩)))
           · rw [hs2]; (repeat' (first | exact trivial | exact rfl | (refine ⟨Or.inl rfl, ?_⟩) | (refine ⟨Or.inr rfl, ?_⟩) | (refine ⟨Or.inr trivial, ?_⟩) | (refine ⟨rfl, ?_⟩) | (refine ⟨?_, ?_⟩))))
        | trace_state
    | some s =>
      rw [hq] at cb
      have hs2 : fillP S B R (o.take (k + 1)) = (L ++ [atL x s], out) := by rw [hst]; unfold stepP; dsimp only; rw [hq]
      have hM2 : (L ++ [atL x s]).map Load.enc = L.map Load.enc ++ [(atL x s).enc] := by rw [List.map_append]; rfl
      clear hst hq hob co hst0 hv
      repeat' (first | ((with_reducible refine gA ?_); (first | refine AW_seq ?_ | refine AW_region ?_ | refine AW_regionD Tryz.mixed ?_ | refine AW_condT rfl ?_ | (refine AW_condY rfl ?_ ?_; assumption) | refine AW_block ?_ | refine AW_skip ?_)) | (first | ((with_reducible refine gS ?_); refine Es_s (T := Tryz.tab) rfl rfl rfl rfl ?_) | ((with_reducible refine gD ?_); refine Ed_s (T := Tryz.tab) rfl rfl rfl rfl ?_)) | ((first | ((with_reducible refine gS ?_); apply Es_q) | ((with_reducible refine gD ?_); apply Ed_q)); rfl; rfl; refine LStep_callR 12 cb rfl rfl rfl rfl ⟨.inl rfl, .inr ⟨rfl, rfl⟩, .inl rfl, trivial⟩ rfl) | ((first | ((with_reducible refine gS ?_); apply Es_xs) | ((with_reducible refine gD ?_); apply Ed_xs)); rfl; rfl; (refine LStep_append (T := Tryz.tab) rfl rfl rfl rfl rfl rfl rfl rfl rfl rfl ?_ ?_ ?_; rfl; (rw [List.length_map]; simp only [List.length_cons, List.length_nil]; omega); (unfold maxLen; rw [List.length_map]; simp only [List.length_cons, List.length_nil]; omega)); rfl) | ((first | ((with_reducible refine gS ?_); apply Es_q) | ((with_reducible refine gD ?_); apply Ed_q)); rfl; rfl; (first | refine LStep_lenM (T := Tryz.tab) rfl rfl rfl rfl | (refine LStep_add rfl rfl rfl rfl ?_; (refine IntWalk.i64_in _ ?_; first | omega | (simp only [cmps] at *; omega))) | (refine LStep_indexM (T := Tryz.tab) (c := ?_) rfl rfl rfl rfl rfl rfl ?_; rotate_left; assumption) | (refine LStep_lit (T := Tryz.tab) rfl rfl rfl rfl rfl rfl rfl rfl ?_; (refine Nat.le_of_ble_eq_true ?_; rfl)))) | (refine Ed_skip rfl ?_ rfl ?_; (first | rfl | (refine w_tf ?_; assumption) | (refine w_ft ?_; assumption))) | (((with_reducible refine gD ?_); apply Ed_xs); rfl; rfl; refine LStep_allocN (T := Tryz.tab) rfl rfl rfl rfl rfl rfl; rfl) | (((with_reducible refine gD ?_); apply Ed_xn); rfl; rfl; (refine LStep_storeN (T := Tryz.tab) rfl rfl rfl rfl rfl rfl rfl ?_ rfl; (refine Nat.le_of_ble_eq_true ?_; rfl)); rfl) | (with_reducible refine Es_nil ?_) | ((with_reducible refine Ed_nil ?_ ?_); kernel_rfl) | (with_reducible refine then_n ?_) | (with_reducible refine block_n ?_))
      all_goals first
        | (refine ⟨k + 1, by omega, by omega, ?_, by (repeat' (first | exact trivial | exact rfl | (refine ⟨Or.inl rfl, ?_⟩) | (refine ⟨Or.inr rfl, ?_⟩) | (refine ⟨Or.inr trivial, ?_⟩) | (refine ⟨rfl, ?_⟩) | (refine ⟨?_, ?_⟩))), ?_, by (repeat' (first | exact trivial | exact rfl | (refine ⟨Or.inl rfl, ?_⟩) | (refine ⟨Or.inr rfl, ?_⟩) | (refine ⟨Or.inr trivial, ?_⟩) | (refine ⟨rfl, ?_⟩) | (refine ⟨?_, ?_⟩)))⟩
           · rw [hs2]; dsimp only; rw [hM2]; (repeat' (first | exact trivial | exact rfl | (refine ⟨Or.inl rfl, ?_⟩) | (refine ⟨Or.inr rfl, ?_⟩) | (refine ⟨Or.inr trivial, ?_⟩) | (refine ⟨rfl, ?_⟩) | (refine ⟨?_, ?_⟩)))
           · rw [hs2]; dsimp only; rw [hM2]; (repeat' (first | exact trivial | exact rfl | (refine ⟨Or.inl rfl, ?_⟩) | (refine ⟨Or.inr rfl, ?_⟩) | (refine ⟨Or.inr trivial, ?_⟩) | (refine ⟨rfl, ?_⟩) | (refine ⟨?_, ?_⟩))))
        | trace_state
  · have hkl : k = o.length := by omega
    subst hkl
    have g1 : ltb (o.length : Nat) (o.length : Nat) = false := by rw [ltb_f]; omega
    have hpu := fillP_puts (S := S) (B := B) (R := R) o
    rw [List.take_length] at hv hlen ⊢
    generalize hst0 : fillP S B R o = st at *
    obtain ⟨L, out⟩ := st
    dsimp only at hv hlen hpu ⊢
    have hLl : L.length ≤ 20 := by omega
    have hol2 : out.length ≤ 20 := by omega
    have hit := inv_take hS hpu
    clear hob co hst0 z0 hpu hlen
    repeat' (first | ((with_reducible refine gA ?_); (first | refine AW_seq ?_ | refine AW_region ?_ | (refine AW_condN rfl ?_ ?_; assumption) | refine AW_block ?_ | refine AW_exit ?_)) | ((with_reducible refine gS ?_); refine Es_s (T := Tryz.tab) rfl rfl rfl rfl ?_) | (((with_reducible refine gS ?_); apply Es_q); rfl; rfl; refine LStep_lenM (T := Tryz.tab) rfl rfl rfl rfl) | (with_reducible refine Es_nil ?_) | (with_reducible refine then_n ?_) | (with_reducible refine then_e ?_) | ((with_reducible refine block_e ?_ ?_); rfl))
    refine AW_freeze [6] (id := 12) ⟨rfl, trivial⟩ rfl rfl ?_
    have q0 : out ++ goneK L L.length = out := by rw [goneK_all, List.append_nil]
    have q1 : L.take L.length = L := List.take_length
    refine AW_forE (S := Nat) (fun n => n ≤ L.length ∧ keepN S L L.length = keepN S L n) (fun n => [(6, .d (.sl 7 ((L.take n).map Load.enc))), (7, .d (.sl 1 ((sortT (out ++ goneK L n)).map sN)))]) (fun n => []) (fun n => n) L.length ⟨Nat.le_refl _, rfl⟩ (by rw [q0, q1]; (repeat' (first | exact trivial | exact rfl | (refine ⟨Or.inl rfl, ?_⟩) | (refine ⟨Or.inr rfl, ?_⟩) | (refine ⟨Or.inr trivial, ?_⟩) | (refine ⟨rfl, ?_⟩) | (refine ⟨?_, ?_⟩)))) (by (repeat' (first | exact trivial | exact rfl | (refine ⟨Or.inl rfl, ?_⟩) | (refine ⟨Or.inr rfl, ?_⟩) | (refine ⟨Or.inr trivial, ?_⟩) | (refine ⟨rfl, ?_⟩) | (refine ⟨?_, ?_⟩)))) ?_
    intro n ⟨hn, hkn⟩
    have hln : (L.take n).length = n := by rw [List.length_take]; omega
    have hgl : (goneK L n).length ≤ 20 := by unfold goneK; simp; omega
    have hzl : (sortT (out ++ goneK L n)).length ≤ 40 := by rw [(sortT_spec _).1.length_eq, List.length_append]; omega
    have cf := rSafe_ac S (L.take n) hs (by omega)
    have cd := rSorted_ac (L.take n) (by omega)
    by_cases hsf : safeE S (L.take n) = 0
    · have hkk : keepN S L L.length = n := by
        rw [hkn]
        cases n with
        | zero => rfl
        | succ n => show (if safeE S (L.take (n + 1)) = 0 then n + 1 else keepN S L n) = n + 1; rw [if_pos hsf]
      rw [hsf] at cf
      rw [hkk, ← sortT_eq]
      show AW Tryz.prog _ _ (thenQ _ (blockQ _ (thenQ _ _))) _ _
      have hgg : ((L.drop n).reverse.map (·.box)) = goneK L n := rfl
      rw [hgg]
      generalize sortT (out ++ goneK L n) = zs at *
      generalize hM : L.take n = M at *
      clear hit hkk hkn hgg
      repeat' (first | ((with_reducible refine gA ?_); (first | refine AW_seq ?_ | refine AW_region ?_ | (refine AW_cond rfl (fun hc => ?_) (fun hc => ?_) <;> try (exfalso; simp only [cmpL] at hc; omega)) | refine AW_ret ?_ | refine AW_exit ?_)) | ((with_reducible refine gS ?_); refine Es_s (T := Tryz.tab) rfl rfl rfl rfl ?_) | (((with_reducible refine gS ?_); apply Es_q); rfl; rfl; (first | refine LStep_call (cf) rfl rfl rfl rfl | refine LStep_call (cd) rfl rfl rfl rfl)) | (with_reducible refine Es_nil ?_) | (with_reducible refine then_n ?_) | (with_reducible refine then_e ?_) | ((with_reducible refine block_e ?_ ?_); rfl) | ((with_reducible refine gR ?_); first | refine ret1 rfl ?_ | refine ret2 rfl rfl ?_ | refine ret0 ?_ | refine end1 rfl ?_ | refine end0 ?_))
      all_goals first
        | rfl
        | trace_state
    · obtain ⟨m, rfl⟩ : ∃ m, n = m + 1 := by
        cases n with
        | zero => rw [List.take_zero] at hsf; exact absurd (safeE_nil hS) hsf
        | succ m => exact ⟨m, rfl⟩
      obtain ⟨x, hx, _⟩ := drop_at (show m < L.length by omega)
      have ht := take_at hx
      have cp := rputT_ac (sortT (out ++ goneK L (m + 1))) x.box (by omega)
      have hgs := goneK_succ hx
      have hz2 : sortT (out ++ goneK L m) = insT x.box (sortT (out ++ goneK L (m + 1))) := by rw [hgs, ← List.append_assoc, sortT_snoc]
      rw [← hz2] at cp
      have hkm : keepN S L L.length = keepN S L m := by rw [hkn]; show (if safeE S (L.take (m + 1)) = 0 then m + 1 else keepN S L m) = _; rw [if_neg hsf]
      have hPl : (L.take m).length = m := by rw [List.length_take]; omega
      have g3 : (!(eqb (safeE S (L.take (m + 1))) 0)) = true := by rw [eqb_f.2 hsf]; rfl
      have g4 : (((L.take (m + 1)).length : Int) - 1).toNat = m := by omega
      have hxc : ((L.take (m + 1)).map Load.enc)[(((L.take (m + 1)).length : Int) - 1).toNat]? = some x.enc := by
        rw [g4, ht, List.map_append, List.getElem?_append_right (by rw [List.length_map]; omega), List.length_map, hPl, Nat.sub_self]; rfl
      have hPt : ((L.take (m + 1)).take (((L.take (m + 1)).length : Int) - 1).toNat).drop (0 : Int).toNat = L.take m := by
        rw [g4, ht, List.take_append_of_le_length (by omega), List.take_of_length_le (by omega)]; rfl
      generalize sortT (out ++ goneK L (m + 1)) = zs at *
      generalize hz3 : sortT (out ++ goneK L m) = zs' at *
      generalize safeE S (L.take (m + 1)) = sv at *
      generalize L.take (m + 1) = M at *
      generalize hM' : L.take m = M' at *
      clear hit ht g4 hgs cd
      repeat' (first | ((with_reducible refine gA ?_); (first | refine AW_seq ?_ | refine AW_region ?_ | (refine AW_condY rfl ?_ ?_; assumption) | refine AW_block ?_ | refine AW_skip ?_)) | ((with_reducible refine gS ?_); refine Es_s (T := Tryz.tab) rfl rfl rfl rfl ?_) | (((with_reducible refine gS ?_); apply Es_q); rfl; rfl; (first | refine LStep_call (cf) rfl rfl rfl rfl | refine LStep_call (cp) rfl rfl rfl rfl)) | (((with_reducible refine gS ?_); apply Es_q); rfl; rfl; (first | refine LStep_lenM (T := Tryz.tab) rfl rfl rfl rfl | (refine LStep_sub rfl rfl rfl rfl ?_; (refine IntWalk.i64_in _ ?_; first | omega | (simp only [cmps] at *; omega))) | (refine LStep_index (T := Tryz.tab) (c := ?_) rfl rfl rfl rfl rfl rfl ?_ ?_; rotate_left; omega; (first | assumption | rfl)) | (refine LStep_partM (T := Tryz.tab) rfl rfl rfl rfl rfl rfl rfl ?_ ?_ ?_; omega; (first | omega | (simp only [List.length_map]; omega)); (first | omega | (simp only [List.length_map]; omega))))) | (with_reducible refine Es_nil ?_) | (with_reducible refine then_n ?_) | (with_reducible refine block_n ?_))
      all_goals first
        | (refine ⟨m, ⟨by omega, hkm⟩, by omega, ?_, by (repeat' (first | exact trivial | exact rfl | (refine ⟨Or.inl rfl, ?_⟩) | (refine ⟨Or.inr rfl, ?_⟩) | (refine ⟨Or.inr trivial, ?_⟩) | (refine ⟨rfl, ?_⟩) | (refine ⟨?_, ?_⟩))), by (repeat' (first | exact trivial | exact rfl | (refine ⟨Or.inl rfl, ?_⟩) | (refine ⟨Or.inr rfl, ?_⟩) | (refine ⟨Or.inr trivial, ?_⟩) | (refine ⟨rfl, ?_⟩) | (refine ⟨?_, ?_⟩))), by (repeat' (first | exact trivial | exact rfl | (refine ⟨Or.inl rfl, ?_⟩) | (refine ⟨Or.inr rfl, ?_⟩) | (refine ⟨Or.inr trivial, ?_⟩) | (refine ⟨rfl, ?_⟩) | (refine ⟨?_, ?_⟩)))⟩
           rw [hz3, hM', ← hPt]; (repeat' (first | exact trivial | exact rfl | (refine ⟨Or.inl rfl, ?_⟩) | (refine ⟨Or.inr rfl, ?_⟩) | (refine ⟨Or.inr trivial, ?_⟩) | (refine ⟨rfl, ?_⟩) | (refine ⟨?_, ?_⟩))))
        | trace_state
end Go.Proofs.YtjlblnplofgpnaaGreatDoor
