import Derived.Test.YtjadbgmohmgaaaaD3
namespace Go.Proofs.Ytjadbgmohmgaaaa
open Go.SL

def lotsOf : List Line → List Int → List Lot
  | x :: xs, n :: ns => if 0 < n then ⟨x.good, n⟩ :: lotsOf xs ns else lotsOf xs ns
  | _, _ => []
def cutAll (o : Ord) : List Int → List (List Int) → Nat → List Cons
  | d :: ds, p :: ps, i => ⟨o.number, (i : Int) + 1, d, lotsOf o.lines p⟩ :: cutAll o ds ps (i + 1)
  | _, _, _ => []
theorem lotsOf_nil : lotsOf [] [] = [] := rfl
theorem cutAll_nil (o : Ord) (i : Nat) : cutAll o [] [] i = [] := rfl
def cutL (o : Ord) (dates : List Int) (parts : List (List Int)) : List Cons := if cutCode o dates parts = 0 then cutAll o dates parts 0 else []
def cutR (o : Ord) (dates : List Int) (parts : List (List Int)) : AV := .tup [.d (.sl 4 ((cutL o dates parts).map Cons.enc)), .d (.sc (.int .i64 (cutCode o dates parts)))]
theorem code_of {o : Ord} {dates : List Int} {parts : List (List Int)} (h : cutCode o dates parts = 0) : o.may = true ∧ pMay o.lines.length dates parts = true ∧ srt dates = true ∧ parts.any zeroP = false ∧ wholeB parts o.lines 0 = true := by
  unfold cutCode at h
  split at h
  · cases h
  · rename_i h1
    split at h
    · cases h
    · rename_i h2
      split at h
      · cases h
      · rename_i h3
        split at h
        · cases h
        · rename_i h4
          simp at h1 h2 h3 h4
          exact ⟨h1.1, h1.2, h2, by simpa using h3, h4⟩
theorem cutR_no {o : Ord} {dates : List Int} {parts : List (List Int)} (h : cutCode o dates parts ≠ 0) : cutR o dates parts = .tup [.d (.sl 4 []), .d (.sc (.int .i64 (cutCode o dates parts)))] := by rw [cutR, cutL, if_neg h]; rfl
theorem cutR_yes {o : Ord} {dates : List Int} {parts : List (List Int)} (h : cutCode o dates parts = 0) : cutR o dates parts = .tup [.d (.sl 4 ((cutAll o dates parts 0).map Cons.enc)), .d (.sc (.int .i64 0))] := by rw [cutR, cutL, if_pos h, h]
set_option maxRecDepth 20000 in
set_option maxHeartbeats 4000000 in
theorem cut_ac (o : Ord) (dates : List Int) (parts : List (List Int)) (hf : CutFit o dates parts) : AC Try.prog 6 [.agg o.cs, .d (.sl 1 (dates.map iE)), .d (.sl 1 (parts.map pE))] [] [] (fun r _ => r = cutR o dates parts) := by
  have cf := (cutFirst_ac o dates parts hf).kp rfl
  refine AC_enter Try.func6 rfl Try.ntmps6 (rv := [.tmp 6, .tmp 7]) rfl rfl (by simp) (fun w X G => ?_)
  repeat' (first | ((with_reducible refine gRc ?_); refine AW_nilD 4 6 rfl ?_) | ((with_reducible refine gA ?_); (first | refine AW_seq ?_ | refine AW_region ?_ | (refine AW_cond rfl (fun hc => ?_) (fun hc => ?_) <;> try (exfalso; simp only [cmpL] at hc; omega)) | refine AW_ret ?_ | refine AW_skip ?_)) | ((with_reducible refine gS ?_); refine Es_s (T := Try.tab) rfl rfl rfl rfl ?_) | (((with_reducible refine gS ?_); apply Es_xg); rfl; rfl; refine LStep_callHN [(1003, 3), (1004, 4), (1005, 5)] [] cf rfl rfl ⟨rfl, rfl, rfl, trivial⟩ rfl ⟨trivial, trivial, trivial, trivial⟩ rfl rfl; rfl) | (((with_reducible refine gS ?_); apply Es_q); rfl; rfl; (first | refine LStep_lenM (T := Try.tab) rfl rfl rfl rfl | (refine LStep_litA (T := Try.tab) rfl rfl rfl rfl rfl rfl rfl ?_; (refine Nat.le_of_ble_eq_true ?_; rfl)) | refine LStep_buildN (T := Try.tab) rfl rfl rfl rfl rfl rfl rfl)) | (refine Es_skip rfl ?_ rfl ?_; (first | rfl | (refine w_tf ?_; assumption) | (refine w_ft ?_; assumption))) | (((with_reducible refine gS ?_); apply Es_xs); rfl; rfl; refine LStep_boxN rfl rfl rfl rfl rfl rfl; rfl) | (with_reducible refine Es_nil ?_) | (with_reducible refine then_n ?_) | (with_reducible refine then_r ?_) | ((with_reducible refine gR ?_); first | refine ret1 rfl ?_ | refine ret2 rfl rfl ?_ | refine ret0 ?_ | refine end1 rfl ?_ | refine end0 ?_))
  all_goals simp only [cmps] at *
  · rw [cutR_no (by assumption)]
  have h0 : cutCode o dates parts = 0 := by assumption
  rw [cutR_yes h0]
  obtain ⟨e1, e2, _, _, _⟩ := code_of h0
  obtain ⟨e3, e4, e5, _, e6⟩ := pMay_of e2
  obtain ⟨e7, e8⟩ := may_lines e1
  clear cf
  repeat' (first | ((with_reducible refine gA ?_); (first | refine AW_seq ?_ | refine AW_region ?_ | refine AW_block ?_)) | ((with_reducible refine gS ?_); refine Es_s (T := Try.tab) rfl rfl rfl rfl ?_) | (((with_reducible refine gS ?_); apply Es_xs); rfl; rfl; (refine LStep_makeOwn (T := Try.tab) rfl rfl rfl rfl rfl rfl rfl rfl rfl rfl ?_ ?_ ?_ ?_; omega; omega; omega; omega); rfl) | (((with_reducible refine gS ?_); apply Es_q); rfl; rfl; refine LStep_lenM (T := Try.tab) rfl rfl rfl rfl) | (with_reducible refine Es_nil ?_) | (with_reducible refine then_n ?_))
  refine AW_forE (S := Nat × List Cons) (fun s => s.1 ≤ parts.length ∧ s.2.length = s.1 ∧ cutAll o dates parts 0 = s.2 ++ cutAll o (dates.drop s.1) (parts.drop s.1) s.1)
    (fun s => [(33, .d (.sc (.int .i64 (s.1 : Nat)))), (9, .own 30 (s.2.map Cons.enc).length)]) (fun s => [(30, some (.arr 39 4 (s.2.map Cons.enc)))]) (fun s => parts.length - s.1) (0, []) ⟨by omega, rfl, rfl⟩ (by (repeat' (first | exact trivial | exact rfl | (refine ⟨Or.inl rfl, ?_⟩) | (refine ⟨Or.inr rfl, ?_⟩) | (refine ⟨Or.inr trivial, ?_⟩) | (refine ⟨rfl, ?_⟩) | (refine ⟨?_, ?_⟩)))) (by (repeat' (first | exact trivial | exact rfl | (refine ⟨Or.inl rfl, ?_⟩) | (refine ⟨Or.inr rfl, ?_⟩) | (refine ⟨Or.inr trivial, ?_⟩) | (refine ⟨rfl, ?_⟩) | (refine ⟨?_, ?_⟩)))) ?_
  intro ⟨k, acc⟩ ⟨hk, hacc, hg⟩
  dsimp only at hk hacc hg ⊢
  by_cases hlt : k < parts.length
  · obtain ⟨p, hp, hdp⟩ := drop_at hlt
    obtain ⟨d, hd, hdd⟩ := drop_at (show k < dates.length by omega)
    obtain ⟨p1, p2⟩ := e6 p (List.mem_of_getElem? hp)
    rw [hdp, hdd, cutAll] at hg
    repeat' (first | ((with_reducible refine gA ?_); (first | refine AW_seq ?_ | refine AW_region ?_ | refine AW_regionD Try.mixed ?_ | (refine AW_cond rfl (fun hc => ?_) (fun hc => ?_) <;> try (exfalso; simp only [cmpL] at hc; omega)) | refine AW_block ?_ | refine AW_skip ?_)) | (first | ((with_reducible refine gS ?_); refine Es_s (T := Try.tab) rfl rfl rfl rfl ?_) | ((with_reducible refine gD ?_); refine Ed_s (T := Try.tab) rfl rfl rfl rfl ?_)) | ((first | ((with_reducible refine gS ?_); apply Es_q) | ((with_reducible refine gD ?_); apply Ed_q)); rfl; rfl; (first | refine LStep_lenM (T := Try.tab) rfl rfl rfl rfl | (refine LStep_add rfl rfl rfl rfl ?_; (refine IntWalk.i64_in _ ?_; first | omega | (simp only [cmps] at *; omega))) | (refine LStep_indexM (T := Try.tab) (c := ?_) rfl rfl rfl rfl rfl rfl ?_; rotate_left; assumption) | refine LStep_buildN (T := Try.tab) rfl rfl rfl rfl rfl rfl rfl)) | (refine Ed_skip rfl ?_ rfl ?_; (first | rfl | (refine w_tf ?_; assumption) | (refine w_ft ?_; assumption))) | (((with_reducible refine gD ?_); apply Ed_xs); rfl; rfl; refine LStep_allocN (T := Try.tab) rfl rfl rfl rfl rfl rfl; rfl) | (((with_reducible refine gD ?_); apply Ed_xn); rfl; rfl; (refine LStep_storeN (T := Try.tab) rfl rfl rfl rfl rfl rfl rfl ?_ rfl; (refine Nat.le_of_ble_eq_true ?_; rfl)); rfl) | (with_reducible refine Es_nil ?_) | ((with_reducible refine Ed_nil ?_ ?_); kernel_rfl) | (with_reducible refine then_n ?_))
    refine AW_openCell 36 2 12 3 2000 rfl rfl rfl rfl rfl ?_
    refine AW_forE (S := Nat × List Lot) (fun s => s.1 ≤ o.lines.length ∧ s.2.length ≤ s.1 ∧ lotsOf o.lines p = s.2 ++ lotsOf (o.lines.drop s.1) (p.drop s.1))
      (fun s => [(50, .d (.sc (.int .i64 (s.1 : Nat))))]) (fun s => [(12, some (.cells [.d (.sc (.string o.number)), .d (.sc (.int .i64 ((k : Nat) + 1))), .d (.sc (.int .i64 d)), .own 2000 (s.2.map Lot.enc).length])), (2000, some (.arr 36 2 (s.2.map Lot.enc)))]) (fun s => o.lines.length - s.1) (0, []) ⟨by omega, by simp, rfl⟩ (by (repeat' (first | exact trivial | exact rfl | (refine ⟨Or.inl rfl, ?_⟩) | (refine ⟨Or.inr rfl, ?_⟩) | (refine ⟨Or.inr trivial, ?_⟩) | (refine ⟨rfl, ?_⟩) | (refine ⟨?_, ?_⟩)))) (by (repeat' (first | exact trivial | exact rfl | (refine ⟨Or.inl rfl, ?_⟩) | (refine ⟨Or.inr rfl, ?_⟩) | (refine ⟨Or.inr trivial, ?_⟩) | (refine ⟨rfl, ?_⟩) | (refine ⟨?_, ?_⟩)))) ?_
    intro ⟨j, ls⟩ ⟨hj, hls, hq⟩
    dsimp only at hj hls hq ⊢
    by_cases hjt : j < o.lines.length
    · obtain ⟨x, hx, hdx⟩ := drop_at hjt
      obtain ⟨n, hn, hdn⟩ := drop_at (show j < p.length by omega)
      rw [hdx, hdn, lotsOf] at hq
      repeat' (first | ((with_reducible refine gA ?_); (first | refine AW_seq ?_ | refine AW_region ?_ | refine AW_regionD Try.mixed ?_ | (refine AW_cond rfl (fun hc => ?_) (fun hc => ?_) <;> try (exfalso; simp only [cmpL] at hc; omega)) | refine AW_block ?_ | refine AW_skip ?_)) | (first | ((with_reducible refine gS ?_); refine Es_s (T := Try.tab) rfl rfl rfl rfl ?_) | ((with_reducible refine gD ?_); refine Ed_s (T := Try.tab) rfl rfl rfl rfl ?_)) | ((first | ((with_reducible refine gS ?_); apply Es_xs) | ((with_reducible refine gD ?_); apply Ed_xs)); rfl; rfl; (refine LStep_append (T := Try.tab) rfl rfl rfl rfl rfl rfl rfl rfl rfl rfl ?_ ?_ ?_; rfl; (rw [List.length_map]; simp only [List.length_cons, List.length_nil]; omega); (unfold maxLen; rw [List.length_map]; simp only [List.length_cons, List.length_nil]; omega)); rfl) | ((first | ((with_reducible refine gS ?_); apply Es_q) | ((with_reducible refine gD ?_); apply Ed_q)); rfl; rfl; (first | (refine LStep_add rfl rfl rfl rfl ?_; (refine IntWalk.i64_in _ ?_; first | omega | (simp only [cmps] at *; omega))) | (refine LStep_indexM (T := Try.tab) (c := ?_) rfl rfl rfl rfl rfl rfl ?_; rotate_left; assumption) | (refine LStep_lit (T := Try.tab) rfl rfl rfl rfl rfl rfl rfl rfl ?_; (refine Nat.le_of_ble_eq_true ?_; rfl)) | refine LStep_buildN (T := Try.tab) rfl rfl rfl rfl rfl rfl rfl)) | (refine Es_skip rfl ?_ rfl ?_; (first | rfl | (refine w_tf ?_; assumption) | (refine w_ft ?_; assumption))) | ((first | ((with_reducible refine gS ?_); apply Es_xs) | ((with_reducible refine gD ?_); apply Ed_xs)); rfl; rfl; refine LStep_allocN (T := Try.tab) rfl rfl rfl rfl rfl rfl; rfl) | ((first | ((with_reducible refine gS ?_); apply Es_xn) | ((with_reducible refine gD ?_); apply Ed_xn)); rfl; rfl; (refine LStep_storeN (T := Try.tab) rfl rfl rfl rfl rfl rfl rfl ?_ rfl; (refine Nat.le_of_ble_eq_true ?_; rfl)); rfl) | (with_reducible refine Es_nil ?_) | ((with_reducible refine Ed_nil ?_ ?_); kernel_rfl) | (with_reducible refine then_n ?_) | (with_reducible refine block_n ?_))
      all_goals simp only [cmps] at *
      · have h : 0 < n := by assumption
        rw [if_pos h] at hq
        refine ⟨(j + 1, ls ++ [⟨x.good, n⟩]), ⟨by omega, by simp; omega, by rw [hq]; simp⟩, by dsimp only; omega, by (repeat' (first | exact trivial | exact rfl | (refine ⟨Or.inl rfl, ?_⟩) | (refine ⟨Or.inr rfl, ?_⟩) | (refine ⟨Or.inr trivial, ?_⟩) | (refine ⟨rfl, ?_⟩) | (refine ⟨?_, ?_⟩))), by (repeat' (first | exact trivial | exact rfl | (refine ⟨Or.inl rfl, ?_⟩) | (refine ⟨Or.inr rfl, ?_⟩) | (refine ⟨Or.inr trivial, ?_⟩) | (refine ⟨rfl, ?_⟩) | (refine ⟨?_, ?_⟩))), ?_, by (repeat' (first | exact trivial | exact rfl | (refine ⟨Or.inl rfl, ?_⟩) | (refine ⟨Or.inr rfl, ?_⟩) | (refine ⟨Or.inr trivial, ?_⟩) | (refine ⟨rfl, ?_⟩) | (refine ⟨?_, ?_⟩)))⟩
        dsimp only
        rw [List.map_append]
        (repeat' (first | exact trivial | exact rfl | (refine ⟨Or.inl rfl, ?_⟩) | (refine ⟨Or.inr rfl, ?_⟩) | (refine ⟨Or.inr trivial, ?_⟩) | (refine ⟨rfl, ?_⟩) | (refine ⟨?_, ?_⟩)))
      · have h : ¬ 0 < n := by omega
        rw [if_neg h] at hq
        refine ⟨(j + 1, ls), ?_, by omega, by (repeat' (first | exact trivial | exact rfl | (refine ⟨Or.inl rfl, ?_⟩) | (refine ⟨Or.inr rfl, ?_⟩) | (refine ⟨Or.inr trivial, ?_⟩) | (refine ⟨rfl, ?_⟩) | (refine ⟨?_, ?_⟩))), by (repeat' (first | exact trivial | exact rfl | (refine ⟨Or.inl rfl, ?_⟩) | (refine ⟨Or.inr rfl, ?_⟩) | (refine ⟨Or.inr trivial, ?_⟩) | (refine ⟨rfl, ?_⟩) | (refine ⟨?_, ?_⟩))), by (repeat' (first | exact trivial | exact rfl | (refine ⟨Or.inl rfl, ?_⟩) | (refine ⟨Or.inr rfl, ?_⟩) | (refine ⟨Or.inr trivial, ?_⟩) | (refine ⟨rfl, ?_⟩) | (refine ⟨?_, ?_⟩))), by (repeat' (first | exact trivial | exact rfl | (refine ⟨Or.inl rfl, ?_⟩) | (refine ⟨Or.inr rfl, ?_⟩) | (refine ⟨Or.inr trivial, ?_⟩) | (refine ⟨rfl, ?_⟩) | (refine ⟨?_, ?_⟩)))⟩; dsimp only; exact ⟨by omega, by omega, hq⟩
    · have : j = o.lines.length := by omega
      subst this
      have hpn : p.drop o.lines.length = [] := by rw [← p1]; exact drop_end
      rw [drop_end, hpn, lotsOf_nil, List.append_nil] at hq
      repeat' (first | ((with_reducible refine gA ?_); refine AW_freezeCell 12 3 (id := 2000) rfl rfl rfl rfl ?_) | ((with_reducible refine gA ?_); (first | refine AW_seq ?_ | refine AW_region ?_ | (refine AW_cond rfl (fun hc => ?_) (fun hc => ?_) <;> try (exfalso; simp only [cmpL] at hc; omega)) | refine AW_exit ?_)) | ((with_reducible refine gS ?_); refine Es_s (T := Try.tab) rfl rfl rfl rfl ?_) | (((with_reducible refine gS ?_); apply Es_xs); rfl; rfl; (refine LStep_append (T := Try.tab) rfl rfl rfl rfl rfl rfl rfl rfl rfl rfl ?_ ?_ ?_; rfl; (rw [List.length_map]; simp only [List.length_cons, List.length_nil]; omega); (unfold maxLen; rw [List.length_map]; simp only [List.length_cons, List.length_nil]; omega)); rfl) | (((with_reducible refine gS ?_); apply Es_q); rfl; rfl; (first | (refine LStep_add rfl rfl rfl rfl ?_; (refine IntWalk.i64_in _ ?_; first | omega | (simp only [cmps] at *; omega))) | (refine LStep_lit (T := Try.tab) rfl rfl rfl rfl rfl rfl rfl rfl ?_; (refine Nat.le_of_ble_eq_true ?_; rfl)))) | (with_reducible refine Es_nil ?_) | (with_reducible refine then_n ?_) | (with_reducible refine then_e ?_) | (with_reducible refine block_n ?_) | ((with_reducible refine block_e ?_ ?_); rfl))
      · refine ⟨(k + 1, acc ++ [⟨o.number, (k : Int) + 1, d, ls⟩]), ⟨by omega, by simp; omega, by rw [hg, hq]; simp⟩, by dsimp only; omega, ?_, by (repeat' (first | exact trivial | exact rfl | (refine ⟨Or.inl rfl, ?_⟩) | (refine ⟨Or.inr rfl, ?_⟩) | (refine ⟨Or.inr trivial, ?_⟩) | (refine ⟨rfl, ?_⟩) | (refine ⟨?_, ?_⟩))), ?_, by (repeat' (first | exact trivial | exact rfl | (refine ⟨Or.inl rfl, ?_⟩) | (refine ⟨Or.inr rfl, ?_⟩) | (refine ⟨Or.inr trivial, ?_⟩) | (refine ⟨rfl, ?_⟩) | (refine ⟨?_, ?_⟩)))⟩
        all_goals (dsimp only; rw [List.map_append]; (repeat' (first | exact trivial | exact rfl | (refine ⟨Or.inl rfl, ?_⟩) | (refine ⟨Or.inr rfl, ?_⟩) | (refine ⟨Or.inr trivial, ?_⟩) | (refine ⟨rfl, ?_⟩) | (refine ⟨?_, ?_⟩))))
  · have : k = parts.length := by omega
    subst this
    have h2 : dates.drop parts.length = [] := by rw [e3]; exact drop_end
    rw [drop_end, h2, cutAll_nil, List.append_nil] at hg
    repeat' (first | ((with_reducible refine gRc ?_); refine AW_freeze [6] (id := 30) ⟨rfl, trivial⟩ rfl rfl ?_) | ((with_reducible refine gA ?_); (first | refine AW_seq ?_ | refine AW_region ?_ | (refine AW_cond rfl (fun hc => ?_) (fun hc => ?_) <;> try (exfalso; simp only [cmpL] at hc; omega)) | refine AW_ret ?_ | refine AW_exit ?_)) | ((with_reducible refine gS ?_); refine Es_s (T := Try.tab) rfl rfl rfl rfl ?_) | (with_reducible refine Es_nil ?_) | (with_reducible refine then_n ?_) | (with_reducible refine then_e ?_) | ((with_reducible refine block_e ?_ ?_); rfl) | ((with_reducible refine gR ?_); first | refine ret1 rfl ?_ | refine ret2 rfl rfl ?_ | refine ret0 ?_ | refine end1 rfl ?_ | refine end0 ?_))
    rw [hg]
end Go.Proofs.Ytjadbgmohmgaaaa
