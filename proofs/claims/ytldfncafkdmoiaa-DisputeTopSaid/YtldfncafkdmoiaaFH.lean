import Derived.Test.YtldfncafkdmoiaaFG
import Derived.Test.YtldfncafkdmoiaaFD
namespace Go.Proofs.Ytldfncafkdmoiaa
open Go.SL
/-! ### slices.SortStableFunc at ints, 20 at most: 'less' reads objects that keep -/
section
variable {g : FuncId} {cmp : Nat → Nat → Int} {ro : List AV} {re : Nat} {rd : List (List D)}
/-- what the callback reads -/
def HR (ro : List AV) (re : Nat) (rd : List (List D)) : Hp := [(1100, some (.cells ro)), (1101, some (.arr re 1 rd))]
def H3 (ro : List AV) (re : Nat) (rd : List (List D)) (l : List Nat) : Hp := (1000, some (.arr 3 1 (l.map nN))) :: HR ro re rd
def cbN (g : FuncId) (cmp : Nat → Nat → Int) (n : Nat) (re : Nat) (rd : List (List D)) (x y : Nat) : Prop :=
  AC Try.prog g [.d (.sc (.int .i64 ((x : Nat) : Int))), .d (.sc (.int .i64 ((y : Nat) : Int))), .ptr 1100 0] (HR [.own 1101 n] re rd) [1100, 1101] (fun r h' => r = .d (.sc (.int .i64 (cmp x y))) ∧ Kp (HR [.own 1101 n] re rd) h')
/-- x on its way down: behind A the sorted P, x at j of it, then what is still to come -/
def arrG (A P : List Nat) (x : Nat) (R : List Nat) (j : Nat) : List Nat := A ++ (P.take j ++ x :: (P.drop j ++ R))
theorem arrG_len (A P : List Nat) (x : Nat) (R : List Nat) (j : Nat) (hj : j ≤ P.length) : (arrG A P x R j).length = A.length + P.length + (R.length + 1) := by
  unfold arrG
  simp only [List.length_append, List.length_cons, List.length_take, List.length_drop]
  omega
theorem arrG_at (A P : List Nat) (x : Nat) (R : List Nat) (j : Nat) (hj : j ≤ P.length) : (arrG A P x R j)[A.length + j]? = some x := by
  unfold arrG
  have hl : (P.take j).length = j := by rw [List.length_take]; omega
  rw [List.getElem?_append_right (by omega), show A.length + j - A.length = j by omega, List.getElem?_append_right (by omega), hl, Nat.sub_self]
  rfl
theorem arrG_pre (A P : List Nat) (x : Nat) (R : List Nat) (m y : Nat) (hy : P[m]? = some y) : (arrG A P x R (m + 1))[A.length + m]? = some y := by
  unfold arrG
  have hlt : m < P.length := (List.getElem?_eq_some_iff.1 hy).1
  have hl : (P.take (m + 1)).length = m + 1 := by rw [List.length_take]; omega
  rw [List.getElem?_append_right (by omega), show A.length + m - A.length = m by omega, List.getElem?_append_left (by omega), List.getElem?_take, if_pos (by omega), hy]
theorem set2_mid {α : Type} (A B : List α) (x y : α) : ((A ++ y :: x :: B).set (A.length + 1) y).set A.length x = A ++ x :: y :: B := by
  rw [List.set_append_right _ _ (by omega), show A.length + 1 - A.length = 1 by omega, List.set_append_right _ _ (by omega), Nat.sub_self]
  rfl
theorem arrG_swap (A P : List Nat) (x : Nat) (R : List Nat) (m y : Nat) (hy : P[m]? = some y) : ((arrG A P x R (m + 1)).set (A.length + (m + 1)) y).set (A.length + m) x = arrG A P x R m := by
  have hlt : m < P.length := (List.getElem?_eq_some_iff.1 hy).1
  have e1 : P.take (m + 1) = P.take m ++ [y] := take_at hy
  have e2 : P.drop m = y :: P.drop (m + 1) := by
    obtain ⟨y', h1, h2⟩ := drop_at hlt
    rw [hy] at h1
    cases h1
    exact h2
  have hl : (A ++ P.take m).length = A.length + m := by rw [List.length_append, List.length_take]; omega
  have h := set2_mid (A ++ P.take m) (P.drop (m + 1) ++ R) x y
  rw [hl] at h
  unfold arrG
  rw [e1, e2]
  simpa only [List.append_assoc, List.cons_append, List.nil_append, Nat.add_assoc] using h
set_option maxRecDepth 10000 in
set_option maxHeartbeats 4000000 in
theorem insN_ac (n : Nat) (A S B : List Nat) (hn : (A ++ (S ++ B)).length = n) (hle : n ≤ 4096) (m0 : Nat) (hC : ∀ x ∈ S, ∀ y ∈ S, cbN g cmp m0 re rd x y) (hO : Sort.SWO (ltOf cmp)) :
    AC Try.prog 93 [.own 1000 n, .d (.sc (.int .i64 ((A.length : Nat) : Int))), .d (.sc (.int .i64 ((A.length + S.length : Nat) : Int))), .fn g [.ptr 1100 0]] (H3 [.own 1101 m0] re rd (A ++ (S ++ B))) [1000, 1100, 1101]
      (fun r h' => r = .tup [] ∧ SubH (H3 [.own 1101 m0] re rd (A ++ (isL (ltOf cmp) S ++ B))) h') := by
  have hlen : A.length + S.length + B.length = n := by rw [← hn]; simp; omega
  unfold H3
  by_cases h0 : S.length = 0
  · have : S = [] := List.eq_nil_of_length_eq_zero h0
    subst this
    have f1 : ltb ((A.length : Nat) + 1) ((A.length : Nat) : Int) = false := by rw [ltb_f]; omega
    refine AC_enter Try.func93 rfl Try.ntmps93 (rv := []) rfl rfl (by simp) (fun w X G => ?_)
    repeat' (first | ((with_reducible refine gA ?_); (first | refine AW_seq ?_ | refine AW_region ?_ | refine AW_block ?_)) | ((with_reducible refine gS ?_); refine Es_s (T := Try.tab) rfl rfl rfl rfl ?_) | (((with_reducible refine gS ?_); apply Es_q); rfl; rfl; (refine LStep_add rfl rfl rfl rfl ?_; (refine IntWalk.i64_in _ ?_; first | omega | (simp only [cmps] at *; omega)))) | (with_reducible refine Es_nil ?_) | (with_reducible refine then_n ?_))
    refine AW_forE (S := Nat) (fun _ => True) (fun _ => []) (fun _ => []) (fun k => k) 0 trivial (by (repeat' (first | exact trivial | exact rfl | (refine ⟨Or.inl rfl, ?_⟩) | (refine ⟨Or.inr rfl, ?_⟩) | (refine ⟨Or.inr trivial, ?_⟩) | (refine ⟨rfl, ?_⟩) | (refine ⟨?_, ?_⟩)))) (by (repeat' (first | exact trivial | exact rfl | (refine ⟨Or.inl rfl, ?_⟩) | (refine ⟨Or.inr rfl, ?_⟩) | (refine ⟨Or.inr trivial, ?_⟩) | (refine ⟨rfl, ?_⟩) | (refine ⟨?_, ?_⟩)))) ?_
    intro k _
    repeat' (first | ((with_reducible refine gA ?_); (first | refine AW_seq ?_ | refine AW_region ?_ | (refine AW_condN rfl ?_ ?_; assumption) | refine AW_exit ?_)) | ((with_reducible refine gS ?_); refine Es_s (T := Try.tab) rfl rfl rfl rfl ?_) | (with_reducible refine Es_nil ?_) | (with_reducible refine then_n ?_) | (with_reducible refine then_e ?_) | ((with_reducible refine block_e ?_ ?_); rfl) | ((with_reducible refine gR ?_); first | refine ret1 rfl ?_ | refine ret2 rfl rfl ?_ | refine ret0 ?_ | refine end1 rfl ?_ | refine end0 ?_))
    exact ⟨rfl, by (repeat' (first | exact trivial | exact rfl | (refine ⟨Or.inl rfl, ?_⟩) | (refine ⟨Or.inr rfl, ?_⟩) | (refine ⟨Or.inr trivial, ?_⟩) | (refine ⟨rfl, ?_⟩) | (refine ⟨?_, ?_⟩)))⟩
  have i1 : isL (ltOf cmp) (S.take 1) ++ S.drop 1 = S := by
    cases S with
    | nil => rfl
    | cons x r => rfl
  refine AC_enter Try.func93 rfl Try.ntmps93 (rv := []) rfl rfl (by simp) (fun w X G => ?_)
  repeat' (first | ((with_reducible refine gA ?_); (first | refine AW_seq ?_ | refine AW_region ?_ | refine AW_block ?_)) | ((with_reducible refine gS ?_); refine Es_s (T := Try.tab) rfl rfl rfl rfl ?_) | (((with_reducible refine gS ?_); apply Es_q); rfl; rfl; (refine LStep_add rfl rfl rfl rfl ?_; (refine IntWalk.i64_in _ ?_; first | omega | (simp only [cmps] at *; omega)))) | (with_reducible refine Es_nil ?_) | (with_reducible refine then_n ?_))
  refine AW_forE (S := Nat) (fun k => 1 ≤ k ∧ k ≤ S.length) (fun k => [(8, .d (.sc (.int .i64 ((A.length + k : Nat) : Int))))]) (fun k => [(1000, some (.arr 3 1 ((A ++ (isL (ltOf cmp) (S.take k) ++ (S.drop k ++ B))).map nN)))]) (fun k => S.length - k) 1 ⟨by omega, by omega⟩ (by (repeat' (first | exact trivial | exact rfl | (refine ⟨Or.inl rfl, ?_⟩) | (refine ⟨Or.inr rfl, ?_⟩) | (refine ⟨Or.inr trivial, ?_⟩) | (refine ⟨rfl, ?_⟩) | (refine ⟨?_, ?_⟩)))) (by rw [← List.append_assoc _ _ B, i1]; (repeat' (first | exact trivial | exact rfl | (refine ⟨Or.inl rfl, ?_⟩) | (refine ⟨Or.inr rfl, ?_⟩) | (refine ⟨Or.inr trivial, ?_⟩) | (refine ⟨rfl, ?_⟩) | (refine ⟨?_, ?_⟩)))) ?_
  intro k ⟨hk1, hk⟩
  by_cases hlt : k < S.length
  · obtain ⟨x, hx, hd⟩ := drop_at hlt
    have hst : isL (ltOf cmp) (S.take (k + 1)) = insL (ltOf cmp) x (isL (ltOf cmp) (S.take k)) := by rw [take_at hx, isL_snoc]
    have hP := isL_perm (lt := ltOf cmp) (S.take k)
    have hPl : (isL (ltOf cmp) (S.take k)).length = k := by rw [hP.length_eq, List.length_take]; omega
    have hPs := isL_sorted hO (S.take k)
    have hPm : ∀ y ∈ isL (ltOf cmp) (S.take k), y ∈ S := fun y hy => List.mem_of_mem_take (hP.mem_iff.1 hy)
    have hxl := List.mem_of_getElem? hx
    have hrl : (S.drop (k + 1) ++ B).length + k + 1 + A.length = n := by rw [List.length_append, List.length_drop]; omega
    have g0 : ltb ((A.length + k : Nat) : Int) ((A.length + S.length : Nat) : Int) = true := by rw [ltb_t]; omega
    generalize isL (ltOf cmp) (S.take k) = P at hst hPl hPs hPm ⊢
    have e0 : A ++ (P ++ (S.drop k ++ B)) = arrG A P x (S.drop (k + 1) ++ B) k := by
      unfold arrG
      rw [hd, List.take_of_length_le (show P.length ≤ k by omega), List.drop_eq_nil_of_le (show P.length ≤ k by omega)]
      simp
    generalize hr : S.drop (k + 1) ++ B = R at *
    rw [e0]
    clear hd hP e0
    repeat' (first | ((with_reducible refine gA ?_); (first | refine AW_seq ?_ | refine AW_region ?_ | (refine AW_condY rfl ?_ ?_; assumption) | refine AW_block ?_ | refine AW_skip ?_)) | ((with_reducible refine gS ?_); refine Es_s (T := Try.tab) rfl rfl rfl rfl ?_) | (with_reducible refine Es_nil ?_) | (with_reducible refine then_n ?_))
    refine AW_forE (S := Nat) (fun j => j ≤ k ∧ ∀ y ∈ P.drop j, ltOf cmp x y = true) (fun j => [(9, .d (.sc (.int .i64 ((A.length + j : Nat) : Int))))]) (fun j => [(1000, some (.arr 3 1 ((arrG A P x R j).map nN)))]) (fun j => j) k ⟨by omega, by rw [List.drop_eq_nil_of_le (by omega)]; intro y hy; cases hy⟩ (by (repeat' (first | exact trivial | exact rfl | (refine ⟨Or.inl rfl, ?_⟩) | (refine ⟨Or.inr rfl, ?_⟩) | (refine ⟨Or.inr trivial, ?_⟩) | (refine ⟨rfl, ?_⟩) | (refine ⟨?_, ?_⟩)))) (by (repeat' (first | exact trivial | exact rfl | (refine ⟨Or.inl rfl, ?_⟩) | (refine ⟨Or.inr rfl, ?_⟩) | (refine ⟨Or.inr trivial, ?_⟩) | (refine ⟨rfl, ?_⟩) | (refine ⟨?_, ?_⟩)))) ?_
    intro j ⟨hj, hgt⟩
    rcases j with _ | m
    · have f1 : ltb ((A.length : Nat) : Int) ((A.length + 0 : Nat) : Int) = false := by rw [ltb_f]; omega
      have e9 : arrG A P x R 0 = A ++ (insL (ltOf cmp) x P ++ R) := by
        have := insL_at (lt := ltOf cmp) (x := x) (A := []) (B := P) (by simp) (by rw [List.drop_zero] at hgt; exact hgt)
        rw [List.nil_append, List.nil_append] at this
        rw [this]
        unfold arrG
        simp
      repeat' (first | ((with_reducible refine gA ?_); (first | refine AW_seq ?_ | refine AW_region ?_ | refine AW_regionD Try.mixed ?_ | refine AW_condF rfl ?_ | refine AW_exit ?_)) | (first | ((with_reducible refine gS ?_); refine Es_s (T := Try.tab) rfl rfl rfl rfl ?_) | ((with_reducible refine gD ?_); refine Ed_s (T := Try.tab) rfl rfl rfl rfl ?_)) | ((first | ((with_reducible refine gS ?_); apply Es_q) | ((with_reducible refine gD ?_); apply Ed_q)); rfl; rfl; (first | (refine LStep_add rfl rfl rfl rfl ?_; (refine IntWalk.i64_in _ ?_; first | omega | (simp only [cmps] at *; omega))) | (refine LStep_pickF rfl rfl ?_ rfl rfl; assumption))) | (refine Ed_skip rfl ?_ rfl ?_; (first | rfl | (refine w_tf ?_; assumption) | (refine w_ft ?_; assumption))) | (with_reducible refine Es_nil ?_) | ((with_reducible refine Ed_nil ?_ ?_); kernel_rfl) | (with_reducible refine then_n ?_) | (with_reducible refine then_e ?_) | (with_reducible refine block_n ?_) | ((with_reducible refine block_e ?_ ?_); rfl))
      all_goals first
        | (refine ⟨k + 1, ⟨by omega, by omega⟩, by omega, by (repeat' (first | exact trivial | exact rfl | (refine ⟨Or.inl rfl, ?_⟩) | (refine ⟨Or.inr rfl, ?_⟩) | (refine ⟨Or.inr trivial, ?_⟩) | (refine ⟨rfl, ?_⟩) | (refine ⟨?_, ?_⟩))), by (repeat' (first | exact trivial | exact rfl | (refine ⟨Or.inl rfl, ?_⟩) | (refine ⟨Or.inr rfl, ?_⟩) | (refine ⟨Or.inr trivial, ?_⟩) | (refine ⟨rfl, ?_⟩) | (refine ⟨?_, ?_⟩))), ?_, by (repeat' (first | exact trivial | exact rfl | (refine ⟨Or.inl rfl, ?_⟩) | (refine ⟨Or.inr rfl, ?_⟩) | (refine ⟨Or.inr trivial, ?_⟩) | (refine ⟨rfl, ?_⟩) | (refine ⟨?_, ?_⟩)))⟩
           rw [hst, hr, ← e9]; (repeat' (first | exact trivial | exact rfl | (refine ⟨Or.inl rfl, ?_⟩) | (refine ⟨Or.inr rfl, ?_⟩) | (refine ⟨Or.inr trivial, ?_⟩) | (refine ⟨rfl, ?_⟩) | (refine ⟨?_, ?_⟩))))
        | trace_state
    · obtain ⟨y, hy⟩ : ∃ y, P[m]? = some y := ⟨_, List.getElem?_eq_getElem (by omega)⟩
      have hyl := hPm y (List.mem_of_getElem? hy)
      have c := hC x hxl y hyl
      unfold cbN at c
      have a1 := arrG_at A P x R (m + 1) (by omega)
      have a2 := arrG_pre A P x R m y hy
      have a3 := arrG_len A P x R (m + 1) (by omega)
      have a4 := arrG_swap A P x R m y hy
      have f1 : ltb ((A.length : Nat) : Int) ((A.length + (m + 1) : Nat) : Int) = true := by rw [ltb_t]; omega
      have hsub : AV.d (.sc (.int .i64 (wrp .i64 (((A.length + (m + 1) : Nat) : Int) - 1)))) = AV.d (.sc (.int .i64 ((A.length + m : Nat) : Int))) := by
        rw [wrp_fit (by omega)]
        congr 3
        omega
      by_cases hc : ltOf cmp x y = true
      · have f2 : ltb (cmp x y) 0 = true := by rw [ltb_t]; unfold ltOf at hc; rwa [decide_eq_true_eq] at hc
        have hgm : ∀ z ∈ P.drop m, ltOf cmp x z = true := fun z hz' => by
          obtain ⟨y', h1, h2⟩ := drop_at (show m < P.length by omega)
          rw [hy] at h1
          cases h1
          rw [h2] at hz'
          rcases List.mem_cons.1 hz' with q | q
          · rw [q]; exact hc
          · exact hgt z q
        have hLn : (arrG A P x R (m + 1)).length = n := by omega
        generalize arrG A P x R (m + 1) = L at *
        have b1 : (L.map nN)[A.length + (m + 1)]? = some (nN x) := by rw [List.getElem?_map, a1]; rfl
        have b2 : ((L.map nN).set (A.length + (m + 1)) (nN y))[A.length + m]? = some (nN y) := by rw [List.getElem?_set_ne (by omega), List.getElem?_map, a2]; rfl
        have b4 : (((L.map nN).set (A.length + (m + 1)) (nN y)).set (A.length + m) (nN x)) = (arrG A P x R m).map nN := by rw [← a4, List.map_set, List.map_set]
        generalize cmp x y = v at *
        repeat' (first | ((with_reducible refine gA ?_); (first | refine AW_seq ?_ | refine AW_region ?_ | refine AW_regionD Try.mixed ?_ | (refine AW_condY rfl ?_ ?_; assumption) | refine AW_block ?_ | refine AW_skip ?_)) | ((first | ((with_reducible refine gS ?_); apply Es_q) | ((with_reducible refine gD ?_); apply Ed_q)); rfl; (first | rfl | (refine w_tt ?_; assumption)); refine LStep_fitQ (T := Try.tab) rfl rfl hsub) | (first | ((with_reducible refine gS ?_); refine Es_s (T := Try.tab) rfl rfl rfl rfl ?_) | ((with_reducible refine gD ?_); refine Ed_s (T := Try.tab) rfl rfl rfl rfl ?_)) | (((with_reducible refine gD ?_); apply Ed_q); rfl; (first | rfl | (refine w_tt ?_; assumption)); (first | (refine LStep_indexOwnM (T := Try.tab) rfl rfl rfl rfl rfl rfl rfl ?_ ?_; (simp only [List.length_set, List.length_map]; omega); (simp only [List.length_set, List.length_map]; omega)) | (refine LStep_loadEM (T := Try.tab) rfl rfl rfl rfl rfl ?_ a1 rfl; (rw [List.length_map]; omega)) | (refine LStep_loadEM (T := Try.tab) rfl rfl rfl rfl rfl ?_ a2 rfl; (rw [List.length_map]; omega)) | refine LStep_callB c rfl rfl ⟨rfl, rfl, trivial⟩ rfl rfl)) | (((with_reducible refine gD ?_); apply Ed_xn); rfl; rfl; (first | (refine LStep_storeE (T := Try.tab) rfl rfl rfl rfl rfl rfl rfl rfl ?_ b1 ?_; (simp only [List.length_set, List.length_map]; omega); (refine Nat.le_of_ble_eq_true ?_; rfl)) | (refine LStep_storeE (T := Try.tab) rfl rfl rfl rfl rfl rfl rfl rfl ?_ b2 ?_; (simp only [List.length_set, List.length_map]; omega); (refine Nat.le_of_ble_eq_true ?_; rfl))); rfl) | (((with_reducible refine gD ?_); apply Ed_q); rfl; (first | rfl | (refine w_tt ?_; assumption)); (first | refine LStep_simp (T := Try.tab) rfl rfl | (refine LStep_pickT rfl rfl ?_ rfl rfl; assumption))) | (with_reducible refine Es_nil ?_) | ((with_reducible refine Ed_nil ?_ ?_); kernel_rfl) | (with_reducible refine then_n ?_) | (with_reducible refine block_n ?_))
        all_goals first
          | (refine ⟨m, ⟨by omega, hgm⟩, by omega, by (repeat' (first | exact trivial | exact rfl | (refine ⟨Or.inl rfl, ?_⟩) | (refine ⟨Or.inr rfl, ?_⟩) | (refine ⟨Or.inr trivial, ?_⟩) | (refine ⟨rfl, ?_⟩) | (refine ⟨?_, ?_⟩))), by (repeat' (first | exact trivial | exact rfl | (refine ⟨Or.inl rfl, ?_⟩) | (refine ⟨Or.inr rfl, ?_⟩) | (refine ⟨Or.inr trivial, ?_⟩) | (refine ⟨rfl, ?_⟩) | (refine ⟨?_, ?_⟩))), ?_, by (repeat' (first | exact trivial | exact rfl | (refine ⟨Or.inl rfl, ?_⟩) | (refine ⟨Or.inr rfl, ?_⟩) | (refine ⟨Or.inr trivial, ?_⟩) | (refine ⟨rfl, ?_⟩) | (refine ⟨?_, ?_⟩)))⟩
             rw [← b4]; (repeat' (first | exact trivial | exact rfl | (refine ⟨Or.inl rfl, ?_⟩) | (refine ⟨Or.inr rfl, ?_⟩) | (refine ⟨Or.inr trivial, ?_⟩) | (refine ⟨rfl, ?_⟩) | (refine ⟨?_, ?_⟩))))
          | trace_state
      · have f2 : ltb (cmp x y) 0 = false := by rw [ltb_f]; unfold ltOf at hc; rw [decide_eq_true_eq] at hc; omega
        have e9 : arrG A P x R (m + 1) = A ++ (insL (ltOf cmp) x P ++ R) := by
          have hA : ∀ z ∈ P.take (m + 1), ltOf cmp x z = false := fun z hz' => by
            rw [take_at hy] at hz'
            have hxy : ltOf cmp x y = false := by simpa using hc
            rcases List.mem_append.1 hz' with q | q
            · obtain ⟨i, hi, rfl⟩ := List.getElem_of_mem q
              rw [List.length_take] at hi
              have hlt2 : m < P.length := by omega
              have h1 := List.pairwise_iff_getElem.1 hPs i m (by omega) hlt2 (by omega)
              have h2 : P[m] = y := by rw [List.getElem?_eq_getElem hlt2] at hy; exact Option.some.inj hy
              rw [List.getElem_take]
              rw [h2] at h1
              exact hO.ntrans _ _ _ hxy h1
            · rw [List.mem_singleton.1 q]; exact hxy
          have h1 := insL_at (lt := ltOf cmp) hA hgt
          rw [List.take_append_drop] at h1
          rw [h1]
          unfold arrG
          simp
        have hLn : (arrG A P x R (m + 1)).length = n := by omega
        clear a4
        generalize arrG A P x R (m + 1) = L at *
        generalize cmp x y = v at *
        repeat' (first | ((with_reducible refine gA ?_); (first | refine AW_seq ?_ | refine AW_region ?_ | refine AW_regionD Try.mixed ?_ | (refine AW_condN rfl ?_ ?_; assumption) | refine AW_exit ?_)) | ((first | ((with_reducible refine gS ?_); apply Es_q) | ((with_reducible refine gD ?_); apply Ed_q)); rfl; (first | rfl | (refine w_tt ?_; assumption)); refine LStep_fitQ (T := Try.tab) rfl rfl hsub) | (first | ((with_reducible refine gS ?_); refine Es_s (T := Try.tab) rfl rfl rfl rfl ?_) | ((with_reducible refine gD ?_); refine Ed_s (T := Try.tab) rfl rfl rfl rfl ?_)) | ((first | ((with_reducible refine gS ?_); apply Es_q) | ((with_reducible refine gD ?_); apply Ed_q)); rfl; (first | rfl | (refine w_tt ?_; assumption)); (first | (refine LStep_indexOwnM (T := Try.tab) rfl rfl rfl rfl rfl rfl rfl ?_ ?_; (simp only [List.length_set, List.length_map]; omega); (simp only [List.length_set, List.length_map]; omega)) | (refine LStep_loadEM (T := Try.tab) rfl rfl rfl rfl rfl ?_ a1 rfl; (rw [List.length_map]; omega)) | (refine LStep_loadEM (T := Try.tab) rfl rfl rfl rfl rfl ?_ a2 rfl; (rw [List.length_map]; omega)) | refine LStep_callB c rfl rfl ⟨rfl, rfl, trivial⟩ rfl rfl)) | ((first | ((with_reducible refine gS ?_); apply Es_q) | ((with_reducible refine gD ?_); apply Ed_q)); rfl; (first | rfl | (refine w_tt ?_; assumption)); (first | refine LStep_simp (T := Try.tab) rfl rfl | (refine LStep_add rfl rfl rfl rfl ?_; (refine IntWalk.i64_in _ ?_; first | omega | (simp only [cmps] at *; omega))) | (refine LStep_pickT rfl rfl ?_ rfl rfl; assumption))) | (with_reducible refine Es_nil ?_) | ((with_reducible refine Ed_nil ?_ ?_); kernel_rfl) | (with_reducible refine then_n ?_) | (with_reducible refine then_e ?_) | (with_reducible refine block_n ?_) | ((with_reducible refine block_e ?_ ?_); rfl))
        all_goals first
          | (refine ⟨k + 1, ⟨by omega, by omega⟩, by omega, by (repeat' (first | exact trivial | exact rfl | (refine ⟨Or.inl rfl, ?_⟩) | (refine ⟨Or.inr rfl, ?_⟩) | (refine ⟨Or.inr trivial, ?_⟩) | (refine ⟨rfl, ?_⟩) | (refine ⟨?_, ?_⟩))), by (repeat' (first | exact trivial | exact rfl | (refine ⟨Or.inl rfl, ?_⟩) | (refine ⟨Or.inr rfl, ?_⟩) | (refine ⟨Or.inr trivial, ?_⟩) | (refine ⟨rfl, ?_⟩) | (refine ⟨?_, ?_⟩))), ?_, by (repeat' (first | exact trivial | exact rfl | (refine ⟨Or.inl rfl, ?_⟩) | (refine ⟨Or.inr rfl, ?_⟩) | (refine ⟨Or.inr trivial, ?_⟩) | (refine ⟨rfl, ?_⟩) | (refine ⟨?_, ?_⟩)))⟩
             rw [hst, hr, ← e9]; (repeat' (first | exact trivial | exact rfl | (refine ⟨Or.inl rfl, ?_⟩) | (refine ⟨Or.inr rfl, ?_⟩) | (refine ⟨Or.inr trivial, ?_⟩) | (refine ⟨rfl, ?_⟩) | (refine ⟨?_, ?_⟩))))
          | trace_state
  · have : k = S.length := by omega
    subst this
    have f1 : ltb ((A.length + S.length : Nat) : Int) ((A.length + S.length : Nat) : Int) = false := by rw [ltb_f]; omega
    rw [List.take_length, List.drop_eq_nil_of_le (Nat.le_refl _), List.nil_append]
    repeat' (first | ((with_reducible refine gA ?_); (first | refine AW_seq ?_ | refine AW_region ?_ | (refine AW_condN rfl ?_ ?_; assumption) | refine AW_exit ?_)) | ((with_reducible refine gS ?_); refine Es_s (T := Try.tab) rfl rfl rfl rfl ?_) | (with_reducible refine Es_nil ?_) | (with_reducible refine then_n ?_) | (with_reducible refine then_e ?_) | ((with_reducible refine block_e ?_ ?_); rfl) | ((with_reducible refine gR ?_); first | refine ret1 rfl ?_ | refine ret2 rfl rfl ?_ | refine ret0 ?_ | refine end1 rfl ?_ | refine end0 ?_))
    all_goals first
      | exact ⟨rfl, by (repeat' (first | exact trivial | exact rfl | (refine ⟨Or.inl rfl, ?_⟩) | (refine ⟨Or.inr rfl, ?_⟩) | (refine ⟨Or.inr trivial, ?_⟩) | (refine ⟨rfl, ?_⟩) | (refine ⟨?_, ?_⟩)))⟩
      | trace_state
set_option maxRecDepth 10000 in
set_option maxHeartbeats 4000000 in
theorem stabN_ac (n : Nat) (l : List Nat) (hnl : l.length = n) (h20 : n ≤ 20) (m0 : Nat) (hC : ∀ x ∈ l, ∀ y ∈ l, cbN g cmp m0 re rd x y) (hO : Sort.SWO (ltOf cmp)) :
    AC Try.prog 79 [.own 1000 n, .d (.sc (.int .i64 (n : Nat))), .fn g [.ptr 1100 0]] (H3 [.own 1101 m0] re rd l) [1000, 1100, 1101] (fun r h' => r = .tup [] ∧ SubH (H3 [.own 1101 m0] re rd (isL (ltOf cmp) l)) h') := by
  have hp := isL_perm (lt := ltOf cmp) l
  have hl2 : (isL (ltOf cmp) l).length = l.length := hp.length_eq
  have c1 := insN_ac n [] l [] (by simpa using hnl) (by omega) m0 hC hO
  have c2 := insN_ac (g := g) (re := re) (rd := rd) n (isL (ltOf cmp) l) [] [] (by simpa [hl2] using hnl) (by omega) m0 (fun x hx => by cases hx) hO
  rw [List.append_nil, List.append_nil, List.nil_append, List.nil_append, List.length_nil, Nat.zero_add, hnl] at c1
  rw [show isL (ltOf cmp) ([] : List Nat) = [] from rfl, List.append_nil, List.append_nil, List.length_nil, Nat.add_zero, hl2, hnl] at c2
  have f9 : ltb 20 ((n : Nat) : Int) = false := by rw [ltb_f]; omega
  have hl1 : (l.map nN).length = ((isL (ltOf cmp) l).map nN).length := by rw [List.length_map, List.length_map, hl2]
  unfold H3 at *
  by_cases h : n = 20
  · subst h
    have f1 : leb 20 ((20 : Nat) : Int) = true := by rw [leb_t]; omega
    have f2 : leb (20 + 20) ((20 : Nat) : Int) = false := by rw [leb_f]; omega
    generalize isL (ltOf cmp) l = l2 at *
    refine AC_enter Try.func79 rfl Try.ntmps79 (rv := []) rfl rfl (by simp) (fun w X G => ?_)
    repeat' (first | ((with_reducible refine gA ?_); (first | refine AW_seq ?_ | refine AW_region ?_ | refine AW_block ?_)) | ((with_reducible refine gS ?_); refine Es_s (T := Try.tab) rfl rfl rfl rfl ?_) | (with_reducible refine Es_nil ?_) | (with_reducible refine then_n ?_))
    refine AW_rounds 3 ?_
    repeat' (first | ((with_reducible refine gRd ?_); refine rounds_stepD [11, 12, 13, 14, 15, 16, 17, 18, 19, 20, 21, 22] [] ?_) | ((with_reducible refine gA ?_); (first | refine AW_seq ?_ | refine AW_region ?_ | (refine AW_condY rfl ?_ ?_; assumption) | (refine AW_condN rfl ?_ ?_; assumption) | refine AW_block ?_ | refine AW_skip ?_ | refine AW_exit ?_)) | ((with_reducible refine gS ?_); refine Es_s (T := Try.tab) rfl rfl rfl rfl ?_) | (((with_reducible refine gS ?_); apply Es_xg); rfl; rfl; (first | refine LStep_callHN [] [] c1 rfl rfl ⟨rfl, rfl, rfl, trivial⟩ rfl ⟨hl1, trivial, rfl, trivial⟩ rfl rfl | refine LStep_callHN [] [] c2 rfl rfl ⟨rfl, rfl, rfl, trivial⟩ rfl ⟨rfl, trivial, rfl, trivial⟩ rfl rfl); rfl) | (((with_reducible refine gS ?_); apply Es_q); rfl; rfl; (refine LStep_add rfl rfl rfl rfl ?_; (refine IntWalk.i64_in _ ?_; first | omega | (simp only [cmps] at *; omega)))) | (with_reducible refine Es_nil ?_) | (with_reducible refine then_n ?_) | (with_reducible refine then_e ?_) | (with_reducible refine block_n ?_) | ((with_reducible refine block_e ?_ ?_); rfl))
    refine AW_rounds 1 ?_
    repeat' (first | ((with_reducible refine gRd ?_); refine rounds_stepD [] [] ?_) | ((with_reducible refine gA ?_); (first | refine AW_seq ?_ | refine AW_region ?_ | (refine AW_condN rfl ?_ ?_; assumption) | refine AW_exit ?_)) | ((with_reducible refine gS ?_); refine Es_s (T := Try.tab) rfl rfl rfl rfl ?_) | (with_reducible refine Es_nil ?_) | (with_reducible refine then_n ?_) | (with_reducible refine then_e ?_) | ((with_reducible refine block_e ?_ ?_); rfl) | ((with_reducible refine gR ?_); first | refine ret1 rfl ?_ | refine ret2 rfl rfl ?_ | refine ret0 ?_ | refine end1 rfl ?_ | refine end0 ?_))
    all_goals first
      | exact ⟨rfl, by (repeat' (first | exact trivial | exact rfl | (refine ⟨Or.inl rfl, ?_⟩) | (refine ⟨Or.inr rfl, ?_⟩) | (refine ⟨Or.inr trivial, ?_⟩) | (refine ⟨rfl, ?_⟩) | (refine ⟨?_, ?_⟩)))⟩
      | trace_state
  · have f1 : leb 20 ((n : Nat) : Int) = false := by rw [leb_f]; omega
    generalize isL (ltOf cmp) l = l2 at *
    refine AC_enter Try.func79 rfl Try.ntmps79 (rv := []) rfl rfl (by simp) (fun w X G => ?_)
    repeat' (first | ((with_reducible refine gA ?_); (first | refine AW_seq ?_ | refine AW_region ?_ | refine AW_block ?_)) | ((with_reducible refine gS ?_); refine Es_s (T := Try.tab) rfl rfl rfl rfl ?_) | (with_reducible refine Es_nil ?_) | (with_reducible refine then_n ?_))
    refine AW_rounds 1 ?_
    repeat' (first | ((with_reducible refine gRd ?_); refine rounds_stepD [11, 12, 13, 14, 15, 16, 17, 18, 19, 20, 21, 22] [] ?_) | ((with_reducible refine gA ?_); (first | refine AW_seq ?_ | refine AW_region ?_ | (refine AW_condN rfl ?_ ?_; assumption) | refine AW_block ?_ | refine AW_exit ?_)) | ((with_reducible refine gS ?_); refine Es_s (T := Try.tab) rfl rfl rfl rfl ?_) | (((with_reducible refine gS ?_); apply Es_xg); rfl; rfl; refine LStep_callHN [] [] c1 rfl rfl ⟨rfl, rfl, rfl, trivial⟩ rfl ⟨hl1, trivial, rfl, trivial⟩ rfl rfl; rfl) | (with_reducible refine Es_nil ?_) | (with_reducible refine then_n ?_) | (with_reducible refine then_e ?_) | ((with_reducible refine block_e ?_ ?_); rfl))
    refine AW_rounds 1 ?_
    repeat' (first | ((with_reducible refine gRd ?_); refine rounds_stepD [] [] ?_) | ((with_reducible refine gA ?_); (first | refine AW_seq ?_ | refine AW_region ?_ | (refine AW_condN rfl ?_ ?_; assumption) | refine AW_exit ?_)) | ((with_reducible refine gS ?_); refine Es_s (T := Try.tab) rfl rfl rfl rfl ?_) | (with_reducible refine Es_nil ?_) | (with_reducible refine then_n ?_) | (with_reducible refine then_e ?_) | ((with_reducible refine block_e ?_ ?_); rfl) | ((with_reducible refine gR ?_); first | refine ret1 rfl ?_ | refine ret2 rfl rfl ?_ | refine ret0 ?_ | refine end1 rfl ?_ | refine end0 ?_))
    all_goals first
      | exact ⟨rfl, by (repeat' (first | exact trivial | exact rfl | (refine ⟨Or.inl rfl, ?_⟩) | (refine ⟨Or.inr rfl, ?_⟩) | (refine ⟨Or.inr trivial, ?_⟩) | (refine ⟨rfl, ?_⟩) | (refine ⟨?_, ?_⟩)))⟩
      | trace_state
set_option maxRecDepth 10000 in
theorem sortN_ac (n : Nat) (l : List Nat) (hnl : l.length = n) (h20 : n ≤ 20) (m0 : Nat) (hC : ∀ x ∈ l, ∀ y ∈ l, cbN g cmp m0 re rd x y) (hO : Sort.SWO (ltOf cmp)) :
    AC Try.prog 51 [.own 1000 n, .fn g [.ptr 1100 0]] (H3 [.own 1101 m0] re rd l) [1000, 1100, 1101] (fun r h' => r = .tup [] ∧ SubH (H3 [.own 1101 m0] re rd (isL (ltOf cmp) l)) h') := by
  have c1 := stabN_ac n l hnl h20 m0 hC hO
  have hl1 : (l.map nN).length = ((isL (ltOf cmp) l).map nN).length := by rw [List.length_map, List.length_map, (isL_perm (lt := ltOf cmp) l).length_eq]
  have hz : (l.map nN).length = n := by rw [List.length_map, hnl]
  unfold H3 at *
  generalize isL (ltOf cmp) l = l2 at *
  refine AC_enter Try.func51 rfl Try.ntmps51 (rv := []) rfl rfl (by simp) (fun w X G => ?_)
  repeat' (first | ((with_reducible refine gA ?_); refine AW_region ?_) | ((with_reducible refine gS ?_); refine Es_s (T := Try.tab) rfl rfl rfl rfl ?_) | (((with_reducible refine gS ?_); apply Es_q); rfl; rfl; refine LStep_lenOwn (T := Try.tab) rfl rfl rfl rfl rfl hz) | (((with_reducible refine gS ?_); apply Es_xg); rfl; rfl; refine LStep_callHN [] [] c1 rfl rfl ⟨rfl, rfl, rfl, trivial⟩ rfl ⟨hl1, trivial, rfl, trivial⟩ rfl rfl; rfl) | (with_reducible refine Es_nil ?_) | ((with_reducible refine gR ?_); first | refine ret1 rfl ?_ | refine ret2 rfl rfl ?_ | refine ret0 ?_ | refine end1 rfl ?_ | refine end0 ?_))
  all_goals first
    | exact ⟨rfl, by (repeat' (first | exact trivial | exact rfl | (refine ⟨Or.inl rfl, ?_⟩) | (refine ⟨Or.inr rfl, ?_⟩) | (refine ⟨Or.inr trivial, ?_⟩) | (refine ⟨rfl, ?_⟩) | (refine ⟨?_, ?_⟩)))⟩
    | trace_state
end
end Go.Proofs.Ytldfncafkdmoiaa
