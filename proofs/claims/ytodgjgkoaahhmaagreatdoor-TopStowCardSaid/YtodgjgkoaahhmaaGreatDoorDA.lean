import Derived.Test.YtodgjgkoaahhmaaGreatDoorTk
import Derived.Test.YtodgjgkoaahhmaaGreatDoorH1
import Derived.Test.YtodgjgkoaahhmaaGreatDoorPl
import Derived.Test.YtodgjgkoaahhmaaGreatDoorTab
namespace Go.Proofs.YtodgjgkoaahhmaaGreatDoor
open Go.SL
/-! ### slices.SortStableFunc at loads, 20 at most -/
section
variable {g : FuncId} {cmp : List D → List D → Int} {l : List (List D)}
theorem ins_none (hz : ∀ x ∈ l, x.length = 7) (a b n : Nat) (hb : b ≤ a + 1) (ha : a ≤ 64) : AC Tryz.prog 99 [.own 1000 n, .d (.sc (.int .i64 (a : Nat))), .d (.sc (.int .i64 (b : Nat))), .fn g []] (H0 40 7 l) [1000] (fun r h' => r = .tup [] ∧ SubH (H0 40 7 l) h') := by
  have f1 : ltb ((a : Nat) + 1) (b : Nat) = false := by rw [ltb_f]; omega
  refine AC_enter Tryz.func99 rfl Tryz.ntmps99 (rv := []) rfl rfl (by simp) (fun w X G => ?_)
  repeat' (first | ((with_reducible refine gA ?_); (first | refine AW_seq ?_ | refine AW_region ?_ | refine AW_block ?_)) | ((with_reducible refine gS ?_); refine Es_s (T := Tryz.tab) rfl rfl rfl rfl ?_) | (((with_reducible refine gS ?_); apply Es_q); rfl; rfl; (refine LStep_add rfl rfl rfl rfl ?_; (refine IntWalk.i64_in _ ?_; first | omega | (simp only [cmps] at *; omega)))) | (with_reducible refine Es_nil ?_) | (with_reducible refine then_n ?_))
  refine AW_forE (S := Nat) (fun _ => True) (fun _ => []) (fun _ => []) (fun k => k) 0 trivial (by (repeat' (first | exact trivial | exact rfl | (refine ⟨Or.inl rfl, ?_⟩) | (refine ⟨Or.inr rfl, ?_⟩) | (refine ⟨Or.inr trivial, ?_⟩) | (refine ⟨rfl, ?_⟩) | (refine ⟨?_, ?_⟩)))) (by (repeat' (first | exact trivial | exact rfl | (refine ⟨Or.inl rfl, ?_⟩) | (refine ⟨Or.inr rfl, ?_⟩) | (refine ⟨Or.inr trivial, ?_⟩) | (refine ⟨rfl, ?_⟩) | (refine ⟨?_, ?_⟩)))) ?_
  intro k _
  repeat' (first | ((with_reducible refine gA ?_); (first | refine AW_seq ?_ | refine AW_region ?_ | (refine AW_condN rfl ?_ ?_; assumption) | refine AW_exit ?_)) | ((with_reducible refine gS ?_); refine Es_s (T := Tryz.tab) rfl rfl rfl rfl ?_) | (with_reducible refine Es_nil ?_) | (with_reducible refine then_n ?_) | (with_reducible refine then_e ?_) | ((with_reducible refine block_e ?_ ?_); rfl) | ((with_reducible refine gR ?_); first | refine ret1 rfl ?_ | refine ret2 rfl rfl ?_ | refine ret0 ?_ | refine end1 rfl ?_ | refine end0 ?_))
  exact ⟨rfl, rfl, trivial⟩
def arrJ (P : List (List D)) (x : List D) (rest : List (List D)) (j : Nat) : List (List D) := P.take j ++ x :: (P.drop j ++ rest)
theorem arrJ_len (P : List (List D)) (x : List D) (rest : List (List D)) (j : Nat) (hj : j ≤ P.length) : (arrJ P x rest j).length = P.length + (rest.length + 1) := by
  unfold arrJ
  simp only [List.length_append, List.length_cons, List.length_take, List.length_drop]
  omega
theorem arrJ_at (P : List (List D)) (x : List D) (rest : List (List D)) (j : Nat) (hj : j ≤ P.length) : (arrJ P x rest j)[j]? = some x := by
  unfold arrJ
  have hl : (P.take j).length = j := by rw [List.length_take]; omega
  rw [List.getElem?_append_right (by omega), hl, Nat.sub_self]
  rfl
theorem arrJ_pre (P : List (List D)) (x : List D) (rest : List (List D)) (m : Nat) (y : List D) (hy : P[m]? = some y) : (arrJ P x rest (m + 1))[m]? = some y := by
  unfold arrJ
  have hlt : m < P.length := (List.getElem?_eq_some_iff.1 hy).1
  have hl : (P.take (m + 1)).length = m + 1 := by rw [List.length_take]; omega
  rw [List.getElem?_append_left (by omega), List.getElem?_take, if_pos (by omega), hy]
theorem arrJ_swap (P : List (List D)) (x : List D) (rest : List (List D)) (m : Nat) (y : List D) (hy : P[m]? = some y) : ((arrJ P x rest (m + 1)).set (m + 1) y).set m x = arrJ P x rest m := by
  have hlt : m < P.length := (List.getElem?_eq_some_iff.1 hy).1
  have e1 : P.take (m + 1) = P.take m ++ [y] := take_at hy
  have e2 : P.drop m = y :: P.drop (m + 1) := by
    obtain ⟨y', h1, h2⟩ := drop_at hlt
    rw [hy] at h1
    cases h1
    exact h2
  have hl : (P.take m).length = m := by rw [List.length_take]; omega
  unfold arrJ
  rw [e1, e2, List.append_assoc]
  refine List.ext_getElem? (fun i => ?_)
  rw [List.getElem?_set, List.getElem?_set]
  simp only [List.length_set]
  by_cases h1 : m = i
  · subst h1
    rw [if_pos rfl, List.getElem?_append_right (by omega), hl, Nat.sub_self]
    rw [if_pos (by simp only [List.length_append, List.length_cons, List.length_nil]; omega)]
    rfl
  · rw [if_neg h1]
    by_cases h2 : m + 1 = i
    · subst h2
      rw [if_pos rfl, List.getElem?_append_right (by omega), hl, show m + 1 - m = 1 by omega]
      rw [if_pos (by simp only [List.length_append, List.length_cons, List.length_nil]; omega)]
      rfl
    · rw [if_neg h2]
      by_cases h3 : i < m
      · rw [List.getElem?_append_left (by omega), List.getElem?_append_left (by omega)]
      · obtain ⟨d, rfl⟩ : ∃ d, i = m + (d + 2) := ⟨i - m - 2, by omega⟩
        have e3 : P.take m ++ ([y] ++ x :: (P.drop (m + 1) ++ rest)) = P.take m ++ [y, x] ++ (P.drop (m + 1) ++ rest) := by simp
        have e4 : P.take m ++ x :: (y :: P.drop (m + 1) ++ rest) = P.take m ++ [x, y] ++ (P.drop (m + 1) ++ rest) := by simp
        have e5 : ∀ (A : List (List D)), A.length = m + 2 → (A ++ (P.drop (m + 1) ++ rest))[m + (d + 2)]? = (P.drop (m + 1) ++ rest)[d]? := fun A hA => by
          rw [List.getElem?_append_right (by omega), hA, show m + (d + 2) - (m + 2) = d by omega]
        rw [e3, e4, e5 _ (by simp only [List.length_append, List.length_cons, List.length_nil]; omega), e5 _ (by simp only [List.length_append, List.length_cons, List.length_nil]; omega)]
set_option maxRecDepth 10000 in
set_option maxHeartbeats 4000000 in
theorem ins_all (hz : ∀ x ∈ l, x.length = 7) (hn : l.length ≤ 64) (hC : ∀ x ∈ l, ∀ y ∈ l, AC Tryz.prog g [.agg (x.map .d), .agg (y.map .d)] [] [] (fun r _ => r = .d (.sc (.int .i64 (cmp x y))))) (hO : Sort.SWO (ltOf cmp)) :
    AC Tryz.prog 99 [.own 1000 l.length, .d (.sc (.int .i64 (0 : Nat))), .d (.sc (.int .i64 (l.length : Nat))), .fn g []] (H0 40 7 l) [1000] (fun r h' => r = .tup [] ∧ SubH (H0 40 7 (isL (ltOf cmp) l)) h') := by
  have hpl := (isL_perm (lt := ltOf cmp) l).length_eq
  by_cases h0 : l.length = 0
  · have : l = [] := List.eq_nil_of_length_eq_zero h0
    subst this
    exact ins_none (by simp) 0 0 0 (by omega) (by omega)
  have i1 : isL (ltOf cmp) (l.take 1) ++ l.drop 1 = l := by
    cases l with
    | nil => rfl
    | cons x r => rfl
  refine AC_enter Tryz.func99 rfl Tryz.ntmps99 (rv := []) rfl rfl (by simp) (fun w X G => ?_)
  repeat' (first | ((with_reducible refine gA ?_); (first | refine AW_seq ?_ | refine AW_region ?_ | refine AW_block ?_)) | ((with_reducible refine gS ?_); refine Es_s (T := Tryz.tab) rfl rfl rfl rfl ?_) | (((with_reducible refine gS ?_); apply Es_q); rfl; rfl; (refine LStep_add rfl rfl rfl rfl ?_; (refine IntWalk.i64_in _ ?_; first | omega | (simp only [cmps] at *; omega)))) | (with_reducible refine Es_nil ?_) | (with_reducible refine then_n ?_))
  refine AW_forE (S := Nat) (fun k => 1 ≤ k ∧ k ≤ l.length) (fun k => [(8, .d (.sc (.int .i64 (k : Nat))))]) (fun k => [(1000, some (.arr 40 7 (isL (ltOf cmp) (l.take k) ++ l.drop k)))]) (fun k => l.length - k) 1 ⟨by omega, by omega⟩ (by (repeat' (first | exact trivial | exact rfl | (refine ⟨Or.inl rfl, ?_⟩) | (refine ⟨Or.inr rfl, ?_⟩) | (refine ⟨Or.inr trivial, ?_⟩) | (refine ⟨rfl, ?_⟩) | (refine ⟨?_, ?_⟩)))) (by rw [i1]; (repeat' (first | exact trivial | exact rfl | (refine ⟨Or.inl rfl, ?_⟩) | (refine ⟨Or.inr rfl, ?_⟩) | (refine ⟨Or.inr trivial, ?_⟩) | (refine ⟨rfl, ?_⟩) | (refine ⟨?_, ?_⟩)))) ?_
  intro k ⟨hk1, hk⟩
  by_cases hlt : k < l.length
  · obtain ⟨x, hx, hd⟩ := drop_at hlt
    have hst : isL (ltOf cmp) (l.take (k + 1)) = insL (ltOf cmp) x (isL (ltOf cmp) (l.take k)) := by rw [take_at hx, isL_snoc]
    have hP := isL_perm (lt := ltOf cmp) (l.take k)
    have hPl : (isL (ltOf cmp) (l.take k)).length = k := by rw [hP.length_eq, List.length_take]; omega
    have hPs := isL_sorted hO (l.take k)
    have hPm : ∀ y ∈ isL (ltOf cmp) (l.take k), y ∈ l := fun y hy => List.mem_of_mem_take (hP.mem_iff.1 hy)
    have hxl := List.mem_of_getElem? hx
    have hrl : (l.drop (k + 1)).length + k + 1 = l.length := by rw [List.length_drop]; omega
    generalize isL (ltOf cmp) (l.take k) = P at hst hPl hPs hPm ⊢
    have e0 : P ++ l.drop k = arrJ P x (l.drop (k + 1)) k := by
      unfold arrJ
      rw [hd, List.take_of_length_le (show P.length ≤ k by omega), List.drop_eq_nil_of_le (show P.length ≤ k by omega), List.nil_append]
    generalize hr : l.drop (k + 1) = rest at *
    rw [e0]
    clear hd hP
    repeat' (first | ((with_reducible refine gA ?_); (first | refine AW_seq ?_ | refine AW_region ?_ | (refine AW_cond rfl (fun hc => ?_) (fun hc => ?_) <;> try (exfalso; simp only [cmpL] at hc; omega)) | refine AW_block ?_ | refine AW_skip ?_)) | ((with_reducible refine gS ?_); refine Es_s (T := Tryz.tab) rfl rfl rfl rfl ?_) | (with_reducible refine Es_nil ?_) | (with_reducible refine then_n ?_))
    refine AW_forE (S := Nat) (fun j => j ≤ k ∧ ∀ y ∈ P.drop j, ltOf cmp x y = true) (fun j => [(9, .d (.sc (.int .i64 (j : Nat))))]) (fun j => [(1000, some (.arr 40 7 (arrJ P x rest j)))]) (fun j => j) k ⟨by omega, by rw [List.drop_eq_nil_of_le (by omega)]; intro y hy; cases hy⟩ (by (repeat' (first | exact trivial | exact rfl | (refine ⟨Or.inl rfl, ?_⟩) | (refine ⟨Or.inr rfl, ?_⟩) | (refine ⟨Or.inr trivial, ?_⟩) | (refine ⟨rfl, ?_⟩) | (refine ⟨?_, ?_⟩)))) (by (repeat' (first | exact trivial | exact rfl | (refine ⟨Or.inl rfl, ?_⟩) | (refine ⟨Or.inr rfl, ?_⟩) | (refine ⟨Or.inr trivial, ?_⟩) | (refine ⟨rfl, ?_⟩) | (refine ⟨?_, ?_⟩)))) ?_
    intro j ⟨hj, hgt⟩
    rcases j with _ | m
    · have f1 : ltb 0 ((0 : Nat) : Int) = false := by rw [ltb_f]; omega
      have e9 : arrJ P x rest 0 = insL (ltOf cmp) x P ++ rest := by
        have := insL_at (lt := ltOf cmp) (x := x) (A := []) (B := P) (by simp) (by rw [List.drop_zero] at hgt; exact hgt)
        rw [List.nil_append, List.nil_append] at this
        rw [this]
        unfold arrJ
        simp
      repeat' (first | ((with_reducible refine gA ?_); (first | refine AW_seq ?_ | refine AW_region ?_ | refine AW_regionD Tryz.mixed ?_ | refine AW_condF rfl ?_ | refine AW_exit ?_)) | (first | ((with_reducible refine gS ?_); refine Es_s (T := Tryz.tab) rfl rfl rfl rfl ?_) | ((with_reducible refine gD ?_); refine Ed_s (T := Tryz.tab) rfl rfl rfl rfl ?_)) | ((first | ((with_reducible refine gS ?_); apply Es_q) | ((with_reducible refine gD ?_); apply Ed_q)); rfl; rfl; (first | (refine LStep_add rfl rfl rfl rfl ?_; (refine IntWalk.i64_in _ ?_; first | omega | (simp only [cmps] at *; omega))) | (refine LStep_pickF rfl rfl ?_ rfl rfl; assumption))) | (refine Ed_skip rfl ?_ rfl ?_; (first | rfl | (refine w_tf ?_; assumption) | (refine w_ft ?_; assumption))) | (with_reducible refine Es_nil ?_) | ((with_reducible refine Ed_nil ?_ ?_); kernel_rfl) | (with_reducible refine then_n ?_) | (with_reducible refine then_e ?_) | (with_reducible refine block_n ?_) | ((with_reducible refine block_e ?_ ?_); rfl))
      all_goals first
        | (refine ⟨k + 1, ⟨by omega, by omega⟩, by omega, by (repeat' (first | exact trivial | exact rfl | (refine ⟨Or.inl rfl, ?_⟩) | (refine ⟨Or.inr rfl, ?_⟩) | (refine ⟨Or.inr trivial, ?_⟩) | (refine ⟨rfl, ?_⟩) | (refine ⟨?_, ?_⟩))), by (repeat' (first | exact trivial | exact rfl | (refine ⟨Or.inl rfl, ?_⟩) | (refine ⟨Or.inr rfl, ?_⟩) | (refine ⟨Or.inr trivial, ?_⟩) | (refine ⟨rfl, ?_⟩) | (refine ⟨?_, ?_⟩))), ?_, by (repeat' (first | exact trivial | exact rfl | (refine ⟨Or.inl rfl, ?_⟩) | (refine ⟨Or.inr rfl, ?_⟩) | (refine ⟨Or.inr trivial, ?_⟩) | (refine ⟨rfl, ?_⟩) | (refine ⟨?_, ?_⟩)))⟩
           rw [hst, hr, ← e9]; (repeat' (first | exact trivial | exact rfl | (refine ⟨Or.inl rfl, ?_⟩) | (refine ⟨Or.inr rfl, ?_⟩) | (refine ⟨Or.inr trivial, ?_⟩) | (refine ⟨rfl, ?_⟩) | (refine ⟨?_, ?_⟩))))
        | trace_state
    · obtain ⟨y, hy⟩ : ∃ y, P[m]? = some y := ⟨_, List.getElem?_eq_getElem (by omega)⟩
      have hyl := hPm y (List.mem_of_getElem? hy)
      have c := (hC x hxl y hyl).mono (R' := fun r h' => r = .d (.sc (.int .i64 (cmp x y))) ∧ Kp [] h') (fun _ _ h => ⟨h, fun id o hg => by cases hg⟩)
      have a1 := arrJ_at P x rest (m + 1) (by omega)
      have a2 := arrJ_pre P x rest m y hy
      have a3 := arrJ_len P x rest (m + 1) (by omega)
      have a4 := arrJ_swap P x rest m y hy
      have f1 : ltb 0 ((m + 1 : Nat) : Int) = true := by rw [ltb_t]; omega
      have hsub : AV.d (.sc (.int .i64 (wrp .i64 (((m + 1 : Nat) : Int) - 1)))) = AV.d (.sc (.int .i64 (m : Nat))) := by
        rw [wrp_fit (by omega)]
        congr 3
        omega
      have hlx := hz x hxl
      have hly := hz y hyl
      by_cases hc : ltOf cmp x y = true
      · have f2 : ltb (cmp x y) 0 = true := by rw [ltb_t]; unfold ltOf at hc; rwa [decide_eq_true_eq] at hc
        have hgm : ∀ z ∈ P.drop m, ltOf cmp x z = true := fun z hz' => by
          obtain ⟨y', h1, h2⟩ := drop_at (show m < P.length by omega)
          rw [hy] at h1
          cases h1
          rw [h2] at hz'
          rcases List.mem_cons.1 hz' with q | q
          · rw [q]; exact hc
          · exact hgt z q
        have a5 : ((arrJ P x rest (m + 1)).set (m + 1) y)[m]? = some y := by rw [List.getElem?_set_ne (by omega)]; exact a2
        generalize cmp x y = v at *
        repeat' (first | ((with_reducible refine gA ?_); (first | refine AW_seq ?_ | refine AW_region ?_ | refine AW_regionD Tryz.mixed ?_ | (refine AW_condY rfl ?_ ?_; assumption) | refine AW_block ?_ | refine AW_skip ?_)) | ((first | ((with_reducible refine gS ?_); apply Es_q) | ((with_reducible refine gD ?_); apply Ed_q)); rfl; (first | rfl | (refine w_tt ?_; assumption)); refine LStep_fitQ (T := Tryz.tab) rfl rfl hsub) | (first | ((with_reducible refine gS ?_); refine Es_s (T := Tryz.tab) rfl rfl rfl rfl ?_) | ((with_reducible refine gD ?_); refine Ed_s (T := Tryz.tab) rfl rfl rfl rfl ?_)) | (((with_reducible refine gD ?_); apply Ed_q); rfl; (first | rfl | (refine w_tt ?_; assumption)); (first | (refine LStep_indexOwnM (T := Tryz.tab) rfl rfl rfl rfl rfl rfl rfl ?_ ?_; (first | (rw [a3]; omega) | (rw [List.length_set, a3]; omega)); (first | (rw [a3]; omega) | (rw [List.length_set, a3]; omega))) | (refine LStep_loadEW (T := Tryz.tab) rfl rfl rfl rfl rfl rfl ?_ a1 hlx; (rw [a3]; omega)) | (refine LStep_loadEW (T := Tryz.tab) rfl rfl rfl rfl rfl rfl ?_ a2 hly; (rw [a3]; omega)) | refine LStep_callB c rfl rfl trivial rfl rfl)) | (((with_reducible refine gD ?_); apply Ed_xn); rfl; rfl; (first | (refine LStep_storeEW (T := Tryz.tab) rfl rfl rfl rfl rfl rfl ?_ a1 hlx hly rfl; (rw [a3]; omega)) | (refine LStep_storeEW (T := Tryz.tab) rfl rfl rfl rfl rfl rfl ?_ a5 hly hlx rfl; (rw [List.length_set, a3]; omega))); rfl) | (((with_reducible refine gD ?_); apply Ed_q); rfl; (first | rfl | (refine w_tt ?_; assumption)); (first | refine LStep_simp (T := Tryz.tab) rfl rfl | (refine LStep_pickT rfl rfl ?_ rfl rfl; assumption))) | (with_reducible refine Es_nil ?_) | ((with_reducible refine Ed_nil ?_ ?_); kernel_rfl) | (with_reducible refine then_n ?_) | (with_reducible refine block_n ?_))
        all_goals first
          | (refine ⟨m, ⟨by omega, hgm⟩, by omega, by (repeat' (first | exact trivial | exact rfl | (refine ⟨Or.inl rfl, ?_⟩) | (refine ⟨Or.inr rfl, ?_⟩) | (refine ⟨Or.inr trivial, ?_⟩) | (refine ⟨rfl, ?_⟩) | (refine ⟨?_, ?_⟩))), by (repeat' (first | exact trivial | exact rfl | (refine ⟨Or.inl rfl, ?_⟩) | (refine ⟨Or.inr rfl, ?_⟩) | (refine ⟨Or.inr trivial, ?_⟩) | (refine ⟨rfl, ?_⟩) | (refine ⟨?_, ?_⟩))), ?_, by (repeat' (first | exact trivial | exact rfl | (refine ⟨Or.inl rfl, ?_⟩) | (refine ⟨Or.inr rfl, ?_⟩) | (refine ⟨Or.inr trivial, ?_⟩) | (refine ⟨rfl, ?_⟩) | (refine ⟨?_, ?_⟩)))⟩
             rw [← a4]; (repeat' (first | exact trivial | exact rfl | (refine ⟨Or.inl rfl, ?_⟩) | (refine ⟨Or.inr rfl, ?_⟩) | (refine ⟨Or.inr trivial, ?_⟩) | (refine ⟨rfl, ?_⟩) | (refine ⟨?_, ?_⟩))))
          | trace_state
      · have f2 : ltb (cmp x y) 0 = false := by rw [ltb_f]; unfold ltOf at hc; rw [decide_eq_true_eq] at hc; omega
        have e9 : arrJ P x rest (m + 1) = insL (ltOf cmp) x P ++ rest := by
          have hA : ∀ z ∈ P.take (m + 1), ltOf cmp x z = false := fun z hz' => by
            rw [take_at hy] at hz'
            have hxy : ltOf cmp x y = false := by simpa using hc
            rcases List.mem_append.1 hz' with q | q
            · obtain ⟨i, hi, rfl⟩ := List.getElem_of_mem q
              rw [List.length_take] at hi
              have hlt2 : m < P.length := by omega
              have h1 := List.pairwise_iff_getElem.1 hPs i m (by omega) hlt2 (by omega)
              have h2 : P[m] = y := by rw [List.getElem?_eq_getElem hlt2] at hy; exact Option.some.inj hy
              rw [List.getElem_take]
              rw [h2] at h1
              exact hO.ntrans _ _ _ hxy h1
            · rw [List.mem_singleton.1 q]; exact hxy
          have h1 := insL_at (lt := ltOf cmp) hA hgt
          rw [List.take_append_drop] at h1
          rw [h1]
          unfold arrJ
          simp
        generalize cmp x y = v at *
        repeat' (first | ((with_reducible refine gA ?_); (first | refine AW_seq ?_ | refine AW_region ?_ | refine AW_regionD Tryz.mixed ?_ | (refine AW_condN rfl ?_ ?_; assumption) | refine AW_exit ?_)) | ((first | ((with_reducible refine gS ?_); apply Es_q) | ((with_reducible refine gD ?_); apply Ed_q)); rfl; (first | rfl | (refine w_tt ?_; assumption)); refine LStep_fitQ (T := Tryz.tab) rfl rfl hsub) | (first | ((with_reducible refine gS ?_); refine Es_s (T := Tryz.tab) rfl rfl rfl rfl ?_) | ((with_reducible refine gD ?_); refine Ed_s (T := Tryz.tab) rfl rfl rfl rfl ?_)) | ((first | ((with_reducible refine gS ?_); apply Es_q) | ((with_reducible refine gD ?_); apply Ed_q)); rfl; (first | rfl | (refine w_tt ?_; assumption)); (first | (refine LStep_indexOwnM (T := Tryz.tab) rfl rfl rfl rfl rfl rfl rfl ?_ ?_; (first | (rw [a3]; omega) | (rw [List.length_set, a3]; omega)); (first | (rw [a3]; omega) | (rw [List.length_set, a3]; omega))) | (refine LStep_loadEW (T := Tryz.tab) rfl rfl rfl rfl rfl rfl ?_ a1 hlx; (rw [a3]; omega)) | (refine LStep_loadEW (T := Tryz.tab) rfl rfl rfl rfl rfl rfl ?_ a2 hly; (rw [a3]; omega)) | refine LStep_callB c rfl rfl trivial rfl rfl)) | ((first | ((with_reducible refine gS ?_); apply Es_q) | ((with_reducible refine gD ?_); apply Ed_q)); rfl; (first | rfl | (refine w_tt ?_; assumption)); (first | refine LStep_simp (T := Tryz.tab) rfl rfl | (refine LStep_add rfl rfl rfl rfl ?_; (refine IntWalk.i64_in _ ?_; first | omega | (simp only [cmps] at *; omega))) | (refine LStep_pickT rfl rfl ?_ rfl rfl; assumption))) | (with_reducible refine Es_nil ?_) | ((with_reducible refine Ed_nil ?_ ?_); kernel_rfl) | (with_reducible refine then_n ?_) | (with_reducible refine then_e ?_) | (with_reducible refine block_n ?_) | ((with_reducible refine block_e ?_ ?_); rfl))
        all_goals first
          | (refine ⟨k + 1, ⟨by omega, by omega⟩, by omega, by (repeat' (first | exact trivial | exact rfl | (refine ⟨Or.inl rfl, ?_⟩) | (refine ⟨Or.inr rfl, ?_⟩) | (refine ⟨Or.inr trivial, ?_⟩) | (refine ⟨rfl, ?_⟩) | (refine ⟨?_, ?_⟩))), by (repeat' (first | exact trivial | exact rfl | (refine ⟨Or.inl rfl, ?_⟩) | (refine ⟨Or.inr rfl, ?_⟩) | (refine ⟨Or.inr trivial, ?_⟩) | (refine ⟨rfl, ?_⟩) | (refine ⟨?_, ?_⟩))), ?_, by (repeat' (first | exact trivial | exact rfl | (refine ⟨Or.inl rfl, ?_⟩) | (refine ⟨Or.inr rfl, ?_⟩) | (refine ⟨Or.inr trivial, ?_⟩) | (refine ⟨rfl, ?_⟩) | (refine ⟨?_, ?_⟩)))⟩
             rw [hst, hr, ← e9]; (repeat' (first | exact trivial | exact rfl | (refine ⟨Or.inl rfl, ?_⟩) | (refine ⟨Or.inr rfl, ?_⟩) | (refine ⟨Or.inr trivial, ?_⟩) | (refine ⟨rfl, ?_⟩) | (refine ⟨?_, ?_⟩))))
          | trace_state
  · have : k = l.length := by omega
    subst this
    have f1 : ltb (l.length : Nat) (l.length : Nat) = false := by rw [ltb_f]; omega
    rw [List.take_length, List.drop_eq_nil_of_le (Nat.le_refl _), List.append_nil]
    repeat' (first | ((with_reducible refine gA ?_); (first | refine AW_seq ?_ | refine AW_region ?_ | (refine AW_condN rfl ?_ ?_; assumption) | refine AW_exit ?_)) | ((with_reducible refine gS ?_); refine Es_s (T := Tryz.tab) rfl rfl rfl rfl ?_) | (with_reducible refine Es_nil ?_) | (with_reducible refine then_n ?_) | (with_reducible refine then_e ?_) | ((with_reducible refine block_e ?_ ?_); rfl) | ((with_reducible refine gR ?_); first | refine ret1 rfl ?_ | refine ret2 rfl rfl ?_ | refine ret0 ?_ | refine end1 rfl ?_ | refine end0 ?_))
    all_goals first
      | exact ⟨rfl, by (repeat' (first | exact trivial | exact rfl | (refine ⟨Or.inl rfl, ?_⟩) | (refine ⟨Or.inr rfl, ?_⟩) | (refine ⟨Or.inr trivial, ?_⟩) | (refine ⟨rfl, ?_⟩) | (refine ⟨?_, ?_⟩)))⟩
      | trace_state
set_option maxRecDepth 10000 in
set_option maxHeartbeats 4000000 in
theorem stableCmp_ac (n : Nat) (hnl : l.length = n) (h20 : n ≤ 20) (hz : ∀ x ∈ l, x.length = 7) (hC : ∀ x ∈ l, ∀ y ∈ l, AC Tryz.prog g [.agg (x.map .d), .agg (y.map .d)] [] [] (fun r _ => r = .d (.sc (.int .i64 (cmp x y))))) (hO : Sort.SWO (ltOf cmp)) :
    AC Tryz.prog 72 [.own 1000 n, .d (.sc (.int .i64 (n : Nat))), .fn g []] (H0 40 7 l) [1000] (fun r h' => r = .tup [] ∧ SubH (H0 40 7 (isL (ltOf cmp) l)) h') := by
  have c1 := ins_all hz (by omega) hC hO
  have hp := isL_perm (lt := ltOf cmp) l
  have hz2 : ∀ x ∈ isL (ltOf cmp) l, x.length = 7 := fun x hx => hz x (hp.mem_iff.1 hx)
  have hl2 : (isL (ltOf cmp) l).length = l.length := hp.length_eq
  rw [hnl] at c1
  have f9 : ltb 20 ((n : Nat) : Int) = false := by rw [ltb_f]; omega
  by_cases h : n = 20
  · subst h
    have c2 := ins_none (g := g) hz2 20 20 20 (by omega) (by omega)
    have f1 : leb 20 ((20 : Nat) : Int) = true := by rw [leb_t]; omega
    have f2 : leb (20 + 20) ((20 : Nat) : Int) = false := by rw [leb_f]; omega
    have hl1 : l.length = (isL (ltOf cmp) l).length := hl2.symm
    generalize isL (ltOf cmp) l = l2 at *
    refine AC_enter Tryz.func72 rfl Tryz.ntmps72 (rv := []) rfl rfl (by simp) (fun w X G => ?_)
    repeat' (first | ((with_reducible refine gA ?_); (first | refine AW_seq ?_ | refine AW_region ?_ | refine AW_block ?_)) | ((with_reducible refine gS ?_); refine Es_s (T := Tryz.tab) rfl rfl rfl rfl ?_) | (with_reducible refine Es_nil ?_) | (with_reducible refine then_n ?_))
    refine AW_rounds 3 ?_
    repeat' (first | ((with_reducible refine gRd ?_); refine rounds_stepD [11, 12, 13, 14, 15, 16, 17, 18, 19, 20, 21, 22] [] ?_) | ((with_reducible refine gA ?_); (first | refine AW_seq ?_ | refine AW_region ?_ | (refine AW_condY rfl ?_ ?_; assumption) | (refine AW_condN rfl ?_ ?_; assumption) | refine AW_block ?_ | refine AW_skip ?_ | refine AW_exit ?_)) | ((with_reducible refine gS ?_); refine Es_s (T := Tryz.tab) rfl rfl rfl rfl ?_) | (((with_reducible refine gS ?_); apply Es_xg); rfl; rfl; (first | refine LStep_callHN [] [] c1 rfl rfl ⟨rfl, trivial⟩ rfl ⟨hl1, trivial⟩ rfl rfl | refine LStep_callHN [] [] c2 rfl rfl ⟨rfl, trivial⟩ rfl ⟨rfl, trivial⟩ rfl rfl); rfl) | (((with_reducible refine gS ?_); apply Es_q); rfl; rfl; (refine LStep_add rfl rfl rfl rfl ?_; (refine IntWalk.i64_in _ ?_; first | omega | (simp only [cmps] at *; omega)))) | (with_reducible refine Es_nil ?_) | (with_reducible refine then_n ?_) | (with_reducible refine then_e ?_) | (with_reducible refine block_n ?_) | ((with_reducible refine block_e ?_ ?_); rfl))
    refine AW_rounds 1 ?_
    repeat' (first | ((with_reducible refine gRd ?_); refine rounds_stepD [] [] ?_) | ((with_reducible refine gA ?_); (first | refine AW_seq ?_ | refine AW_region ?_ | (refine AW_condN rfl ?_ ?_; assumption) | refine AW_exit ?_)) | ((with_reducible refine gS ?_); refine Es_s (T := Tryz.tab) rfl rfl rfl rfl ?_) | (with_reducible refine Es_nil ?_) | (with_reducible refine then_n ?_) | (with_reducible refine then_e ?_) | ((with_reducible refine block_e ?_ ?_); rfl) | ((with_reducible refine gR ?_); first | refine ret1 rfl ?_ | refine ret2 rfl rfl ?_ | refine ret0 ?_ | refine end1 rfl ?_ | refine end0 ?_))
    all_goals first
      | exact ⟨rfl, by (repeat' (first | exact trivial | exact rfl | (refine ⟨Or.inl rfl, ?_⟩) | (refine ⟨Or.inr rfl, ?_⟩) | (refine ⟨Or.inr trivial, ?_⟩) | (refine ⟨rfl, ?_⟩) | (refine ⟨?_, ?_⟩)))⟩
      | trace_state
  · have f1 : leb 20 ((n : Nat) : Int) = false := by rw [leb_f]; omega
    have hl1 : l.length = (isL (ltOf cmp) l).length := hl2.symm
    generalize isL (ltOf cmp) l = l2 at *
    refine AC_enter Tryz.func72 rfl Tryz.ntmps72 (rv := []) rfl rfl (by simp) (fun w X G => ?_)
    repeat' (first | ((with_reducible refine gA ?_); (first | refine AW_seq ?_ | refine AW_region ?_ | refine AW_block ?_)) | ((with_reducible refine gS ?_); refine Es_s (T := Tryz.tab) rfl rfl rfl rfl ?_) | (with_reducible refine Es_nil ?_) | (with_reducible refine then_n ?_))
    refine AW_rounds 1 ?_
    repeat' (first | ((with_reducible refine gRd ?_); refine rounds_stepD [11, 12, 13, 14, 15, 16, 17, 18, 19, 20, 21, 22] [] ?_) | ((with_reducible refine gA ?_); (first | refine AW_seq ?_ | refine AW_region ?_ | (refine AW_condN rfl ?_ ?_; assumption) | refine AW_block ?_ | refine AW_exit ?_)) | ((with_reducible refine gS ?_); refine Es_s (T := Tryz.tab) rfl rfl rfl rfl ?_) | (((with_reducible refine gS ?_); apply Es_xg); rfl; rfl; refine LStep_callHN [] [] c1 rfl rfl ⟨rfl, trivial⟩ rfl ⟨hl1, trivial⟩ rfl rfl; rfl) | (with_reducible refine Es_nil ?_) | (with_reducible refine then_n ?_) | (with_reducible refine then_e ?_) | ((with_reducible refine block_e ?_ ?_); rfl))
    refine AW_rounds 1 ?_
    repeat' (first | ((with_reducible refine gRd ?_); refine rounds_stepD [] [] ?_) | ((with_reducible refine gA ?_); (first | refine AW_seq ?_ | refine AW_region ?_ | (refine AW_condN rfl ?_ ?_; assumption) | refine AW_exit ?_)) | ((with_reducible refine gS ?_); refine Es_s (T := Tryz.tab) rfl rfl rfl rfl ?_) | (with_reducible refine Es_nil ?_) | (with_reducible refine then_n ?_) | (with_reducible refine then_e ?_) | ((with_reducible refine block_e ?_ ?_); rfl) | ((with_reducible refine gR ?_); first | refine ret1 rfl ?_ | refine ret2 rfl rfl ?_ | refine ret0 ?_ | refine end1 rfl ?_ | refine end0 ?_))
    all_goals first
      | exact ⟨rfl, by (repeat' (first | exact trivial | exact rfl | (refine ⟨Or.inl rfl, ?_⟩) | (refine ⟨Or.inr rfl, ?_⟩) | (refine ⟨Or.inr trivial, ?_⟩) | (refine ⟨rfl, ?_⟩) | (refine ⟨?_, ?_⟩)))⟩
      | trace_state
set_option maxRecDepth 10000 in
theorem sortStable_ac (n : Nat) (hnl : l.length = n) (h20 : n ≤ 20) (hz : ∀ x ∈ l, x.length = 7) (hC : ∀ x ∈ l, ∀ y ∈ l, AC Tryz.prog g [.agg (x.map .d), .agg (y.map .d)] [] [] (fun r _ => r = .d (.sc (.int .i64 (cmp x y))))) (hO : Sort.SWO (ltOf cmp)) :
    AC Tryz.prog 35 [.own 1000 n, .fn g []] (H0 40 7 l) [1000] (fun r h' => r = .tup [] ∧ SubH (H0 40 7 (isL (ltOf cmp) l)) h') := by
  have c1 := stableCmp_ac n hnl h20 hz hC hO
  have hl1 : l.length = (isL (ltOf cmp) l).length := (isL_perm (lt := ltOf cmp) l).length_eq.symm
  generalize isL (ltOf cmp) l = l2 at *
  refine AC_enter Tryz.func35 rfl Tryz.ntmps35 (rv := []) rfl rfl (by simp) (fun w X G => ?_)
  repeat' (first | ((with_reducible refine gA ?_); refine AW_region ?_) | ((with_reducible refine gS ?_); refine Es_s (T := Tryz.tab) rfl rfl rfl rfl ?_) | (((with_reducible refine gS ?_); apply Es_q); rfl; rfl; refine LStep_lenOwn (T := Tryz.tab) rfl rfl rfl rfl rfl hnl) | (((with_reducible refine gS ?_); apply Es_xg); rfl; rfl; refine LStep_callHN [] [] c1 rfl rfl ⟨rfl, trivial⟩ rfl ⟨hl1, trivial⟩ rfl rfl; rfl) | (with_reducible refine Es_nil ?_) | ((with_reducible refine gR ?_); first | refine ret1 rfl ?_ | refine ret2 rfl rfl ?_ | refine ret0 ?_ | refine end1 rfl ?_ | refine end0 ?_))
  all_goals first
    | exact ⟨rfl, by (repeat' (first | exact trivial | exact rfl | (refine ⟨Or.inl rfl, ?_⟩) | (refine ⟨Or.inr rfl, ?_⟩) | (refine ⟨Or.inr trivial, ?_⟩) | (refine ⟨rfl, ?_⟩) | (refine ⟨?_, ?_⟩)))⟩
    | trace_state
end
end Go.Proofs.YtodgjgkoaahhmaaGreatDoor
