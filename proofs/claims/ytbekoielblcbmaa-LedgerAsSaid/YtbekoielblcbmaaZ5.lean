import Derived.Test.YtbekoielblcbmaaZ4
namespace Go.Proofs.Ytbekoielblcbmaa
open Go.SL
/-! ### the document's Hold, Take -/
theorem aput_da {k : K2} {a a' : Acc} : ∀ {l : List (K2 × Acc)}, aget k l = some a → a'.floor = a.floor → a'.bal = a.bal → (aput k a' l).map daE = l.map daE
  | [], e, _, _ => by cases e
  | (q, c) :: l, e, h1, h2 => by
    rw [aget] at e
    rw [aput]
    split at e
    · rename_i hq
      cases e
      rw [if_pos hq]
      simp only [List.map_cons, daE, h1, h2, ← hq]
    · rename_i hq
      rw [if_neg hq, List.map_cons, List.map_cons, aput_da e h1 h2]
theorem nm_keys {A B : List (K2 × Acc)} (h : ∀ p ∈ A, lnameOk p.1.1 = true) (e : akeys B = akeys A) : ∀ p ∈ B, lnameOk p.1.1 = true := by
  intro p hp
  have : p.1 ∈ akeys A := by rw [← e]; exact List.mem_map.2 ⟨p, hp, rfl⟩
  obtain ⟨q, hq1, hq2⟩ := List.mem_map.1 this
  rw [← hq2]
  exact h q hq1
theorem keys_put {k : K2} {a a' : Acc} {l : List (K2 × Acc)} (h : aget k l = some a) : akeys (aput k a' l) = akeys l := by
  rw [akeys_put, if_pos (Classical.byContradiction fun e => by rw [aget_none.2 e] at h; cases h)]
theorem at_fr {s : Led} (hs : s.Ok) {k : K2} {a : Acc} (h : aget k s.A = some a) : s.A[aidx k s.A]? = some (k, a) := aidx_at h
set_option maxRecDepth 20000 in
set_option maxHeartbeats 4000000 in
theorem rhold2_ac (s : Led) (H : List Hld) (i n c : ByteArray) (m : Int) (hs : s.Ok) (hv : s.Inv) (hd : DocH s H) (hf : s.H.length < 4096) : ∃ H', DocH (holdS s i n c m) H' ∧ AC Try.prog 43 [docA s.A s.P H, .d (.sc (.string i)), .d (.sc (.string n)), .d (.sc (.string c)), .d (.sc (.int .i64 m))] [] []
    (fun r _ => r = .tup [docA (holdS s i n c m).A (holdS s i n c m).P H', .d (.sc (.int .i64 (holdE s i n c m)))]) := by
  have hl := doc_len hd hs
  have hlA := hs.lA
  have c0 := rname_ac i
  have c1 := rhold_ac s.A s.P H i (by omega)
  have c2 := rfind_ac s.A s.P H n c (by omega)
  by_cases he : holdE s i n c m = 0
  · obtain ⟨g1, g2, g3, g4, g5, g6, g7⟩ := holdE_ok he
    obtain ⟨a, ha⟩ : ∃ a, aget (n, c) s.A = some a := by
      cases hq : aget (n, c) s.A with
      | none => exact absurd hq g3
      | some a => exact ⟨a, rfl⟩
    rw [fI_none ((hk_get hd hs i).trans g2)] at c1
    rw [fI_some ha] at c2
    rw [g1] at c0
    have hat := aidx_at ha
    have cr := rfree_ac s.A s.P H (aidx (n, c) s.A) ((n, c), a) (by omega) hat
    rw [doc_held hd hs hv (List.mem_of_getElem? hat), ← Acc.fr] at cr
    have hfr : frA s.A (n, c) = a.fr := by unfold frA; rw [ha]; rfl
    rw [hfr] at g6
    have hS : holdS s i n c m = ⟨aput (n, c) ⟨a.floor, a.bal, wrp .i64 (a.held + m)⟩ s.A, s.P, s.H ++ [(i, ⟨i, n, c, m⟩)]⟩ := by
      unfold holdS
      rw [if_pos he, ha, aput_new g2]
      rfl
    rw [he, hS]
    refine ⟨H ++ [⟨i, n, c, m⟩], ⟨?_, nm_keys hd.nm (keys_put ha)⟩, ?_⟩
    · unfold mvals
      rw [List.map_append]
      exact hd.perm.append_right _
    have hda := aput_da (a' := ⟨a.floor, a.bal, wrp .i64 (a.held + m)⟩) ha rfl rfl
    unfold docA
    dsimp only
    rw [hda, List.map_append]
    clear he hS hv hs hd g2
    refine AC_enterG Try.tab Try.func43 rfl Try.ntmps43 (rv := [.cell 10 45, .tmp 11]) rfl rfl (by simp) (fun w X G => ?_)
    repeat' (first | ((with_reducible refine gA ?_); refine AW_freezeCell 5 2 (id := 42) rfl rfl rfl rfl ?_) | ((with_reducible refine gA ?_); (first | refine AW_seq ?_ | refine AW_region ?_ | refine AW_condT rfl ?_ | refine AW_condF rfl ?_ | (refine AW_cond rfl (fun hc => ?_) (fun hc => ?_) <;> try (exfalso; simp only [cmpL] at hc; omega)) | refine AW_ret ?_ | refine AW_skip ?_)) | ((with_reducible refine gS ?_); refine Es_s (T := Try.tab) rfl rfl rfl rfl ?_) | (((with_reducible refine gS ?_); apply Es_q); rfl; (first | rfl | (refine w_ff ?_; assumption)); (first | refine LStep_call (c0) rfl rfl rfl rfl | refine LStep_call (c1) rfl rfl rfl rfl | refine LStep_call (c2) rfl rfl rfl rfl | refine LStep_call (cr) rfl rfl rfl rfl)) | (((with_reducible refine gS ?_); apply Es_xs); rfl; (first | rfl | (refine w_ff ?_; assumption)); (first | (refine LStep_litOwn (T := Try.tab) (len := 0) rfl rfl rfl rfl rfl rfl rfl rfl rfl rfl ?_ ?_; (refine Nat.le_of_ble_eq_true ?_; rfl); (unfold maxLen; omega)) | (refine LStep_append (T := Try.tab) rfl rfl rfl rfl rfl rfl rfl rfl rfl rfl ?_ ?_ ?_; rfl; (simp only [List.length_map, List.length_nil, List.length_append, List.length_cons]; omega); (unfold maxLen; simp only [List.length_map, List.length_nil, List.length_append, List.length_cons]; omega))); rfl) | (((with_reducible refine gS ?_); apply Es_q); rfl; (first | rfl | (refine w_ff ?_; assumption)); (first | refine LStep_simp (T := Try.tab) rfl rfl | (refine LStep_pickT rfl rfl ?_ rfl rfl; assumption) | (refine LStep_pickF rfl rfl ?_ rfl rfl; assumption) | (refine LStep_lit (T := Try.tab) rfl rfl rfl rfl rfl rfl rfl rfl ?_; (refine Nat.le_of_ble_eq_true ?_; rfl)) | refine LStep_buildN (T := Try.tab) rfl rfl rfl rfl rfl rfl rfl)) | (refine Es_skip rfl ?_ rfl ?_; (first | rfl | (refine w_tf ?_; assumption) | (refine w_ft ?_; assumption))) | (((with_reducible refine gS ?_); apply Es_xs); rfl; rfl; (first | refine LStep_boxN rfl rfl rfl rfl rfl rfl | refine LStep_allocN (T := Try.tab) rfl rfl rfl rfl rfl rfl); rfl) | (((with_reducible refine gS ?_); apply Es_xn); rfl; rfl; (refine LStep_storeN (T := Try.tab) rfl rfl rfl rfl rfl rfl rfl ?_ rfl; (refine Nat.le_of_ble_eq_true ?_; rfl)); rfl) | (refine Es_split rfl ?_ (fun _ => ?_) (fun _ => ?_); ((fail_if_success (refine und_t ?_; assumption)); (fail_if_success (refine und_f ?_; assumption)); exact trivial)) | (with_reducible refine Es_nil ?_) | (with_reducible refine then_n ?_) | (with_reducible refine then_r ?_) | ((with_reducible refine gRG ?_); first | refine retGa rfl ?_ | refine retGb rfl ?_ | refine retGc rfl ?_ | refine retG1 rfl rfl ?_ | refine endG1 rfl rfl ?_))
    all_goals simp only [cmps] at *
    all_goals first
      | (exfalso; omega)
      | (exfalso; simp at *; done)
      | rfl
      | trace_state
  · have hS : holdS s i n c m = s := by unfold holdS; rw [if_neg he]
    rw [hS]
    refine ⟨H, hd, ?_⟩
    have fin : ∀ {k : Int}, holdE s i n c m = k → AV.tup [docA s.A s.P H, .d (.sc (.int .i64 k))] = .tup [docA s.A s.P H, .d (.sc (.int .i64 (holdE s i n c m)))] := fun h => by rw [h]
    have hgi := hk_get hd hs i
    cases hq : aget i s.H with
    | some h =>
      rw [hq] at hgi
      rw [fI_some hgi] at c1
      refine AC_enterG Try.tab Try.func43 rfl Try.ntmps43 (rv := [.cell 10 45, .tmp 11]) rfl rfl (by simp) (fun w X G => ?_)
      repeat' (first | ((with_reducible refine gA ?_); (first | refine AW_seq ?_ | refine AW_region ?_ | (refine AW_cond rfl (fun hc => ?_) (fun hc => ?_) <;> try (exfalso; simp only [cmpL] at hc; omega)) | refine AW_ret ?_ | refine AW_skip ?_)) | ((with_reducible refine gS ?_); refine Es_s (T := Try.tab) rfl rfl rfl rfl ?_) | (((with_reducible refine gS ?_); apply Es_q); rfl; rfl; (first | refine LStep_call (c0) rfl rfl rfl rfl | refine LStep_call (c1) rfl rfl rfl rfl)) | (refine Es_skip rfl ?_ rfl ?_; (first | rfl | (refine w_tf ?_; assumption) | (refine w_ft ?_; assumption))) | (((with_reducible refine gS ?_); apply Es_xs); rfl; rfl; (first | refine LStep_boxN rfl rfl rfl rfl rfl rfl | refine LStep_allocN (T := Try.tab) rfl rfl rfl rfl rfl rfl); rfl) | (((with_reducible refine gS ?_); apply Es_xn); rfl; rfl; (refine LStep_storeN (T := Try.tab) rfl rfl rfl rfl rfl rfl rfl ?_ rfl; (refine Nat.le_of_ble_eq_true ?_; rfl)); rfl) | (with_reducible refine Es_nil ?_) | (with_reducible refine then_n ?_) | (with_reducible refine then_r ?_) | ((with_reducible refine gRG ?_); first | refine retGa rfl ?_ | refine retGb rfl ?_ | refine retGc rfl ?_ | refine retG1 rfl rfl ?_ | refine endG1 rfl rfl ?_))
      all_goals simp only [cmps] at *
      all_goals first
        | (exfalso; omega)
        | (refine fin ?_; (first | (rw [holdE, if_pos (by (first | assumption | omega | (simp [*]; done) | (simp [*]; omega)))]) | (rw [holdE, if_neg (by (first | assumption | omega | (simp [*]; done) | (simp [*]; omega))), if_pos (by (first | assumption | omega | (simp [*]; done) | (simp [*]; omega)))]) | (rw [holdE, if_neg (by (first | assumption | omega | (simp [*]; done) | (simp [*]; omega))), if_neg (by (first | assumption | omega | (simp [*]; done) | (simp [*]; omega))), if_pos (by (first | assumption | omega | (simp [*]; done) | (simp [*]; omega)))]) | (rw [holdE, if_neg (by (first | assumption | omega | (simp [*]; done) | (simp [*]; omega))), if_neg (by (first | assumption | omega | (simp [*]; done) | (simp [*]; omega))), if_neg (by (first | assumption | omega | (simp [*]; done) | (simp [*]; omega))), if_pos (by (first | assumption | omega | (simp [*]; done) | (simp [*]; omega)))]) | (rw [holdE, if_neg (by (first | assumption | omega | (simp [*]; done) | (simp [*]; omega))), if_neg (by (first | assumption | omega | (simp [*]; done) | (simp [*]; omega))), if_neg (by (first | assumption | omega | (simp [*]; done) | (simp [*]; omega))), if_neg (by (first | assumption | omega | (simp [*]; done) | (simp [*]; omega))), if_pos (by (first | assumption | omega | (simp [*]; done) | (simp [*]; omega)))]) | (rw [holdE, if_neg (by (first | assumption | omega | (simp [*]; done) | (simp [*]; omega))), if_neg (by (first | assumption | omega | (simp [*]; done) | (simp [*]; omega))), if_neg (by (first | assumption | omega | (simp [*]; done) | (simp [*]; omega))), if_neg (by (first | assumption | omega | (simp [*]; done) | (simp [*]; omega))), if_neg (by (first | assumption | omega | (simp [*]; done) | (simp [*]; omega))), if_pos (by (first | assumption | omega | (simp [*]; done) | (simp [*]; omega)))]) | (rw [holdE, if_neg (by (first | assumption | omega | (simp [*]; done) | (simp [*]; omega))), if_neg (by (first | assumption | omega | (simp [*]; done) | (simp [*]; omega))), if_neg (by (first | assumption | omega | (simp [*]; done) | (simp [*]; omega))), if_neg (by (first | assumption | omega | (simp [*]; done) | (simp [*]; omega))), if_neg (by (first | assumption | omega | (simp [*]; done) | (simp [*]; omega))), if_neg (by (first | assumption | omega | (simp [*]; done) | (simp [*]; omega)))])); done)
    | none =>
    rw [hq] at hgi
    rw [fI_none hgi] at c1
    cases ha : aget (n, c) s.A with
    | none =>
      rw [fI_none ha] at c2
      refine AC_enterG Try.tab Try.func43 rfl Try.ntmps43 (rv := [.cell 10 45, .tmp 11]) rfl rfl (by simp) (fun w X G => ?_)
      repeat' (first | ((with_reducible refine gA ?_); (first | refine AW_seq ?_ | refine AW_region ?_ | (refine AW_cond rfl (fun hc => ?_) (fun hc => ?_) <;> try (exfalso; simp only [cmpL] at hc; omega)) | refine AW_ret ?_ | refine AW_skip ?_)) | ((with_reducible refine gS ?_); refine Es_s (T := Try.tab) rfl rfl rfl rfl ?_) | (((with_reducible refine gS ?_); apply Es_q); rfl; rfl; (first | refine LStep_call (c0) rfl rfl rfl rfl | refine LStep_call (c1) rfl rfl rfl rfl | refine LStep_call (c2) rfl rfl rfl rfl)) | (refine Es_skip rfl ?_ rfl ?_; (first | rfl | (refine w_tf ?_; assumption) | (refine w_ft ?_; assumption))) | (((with_reducible refine gS ?_); apply Es_xs); rfl; rfl; (first | refine LStep_boxN rfl rfl rfl rfl rfl rfl | refine LStep_allocN (T := Try.tab) rfl rfl rfl rfl rfl rfl); rfl) | (((with_reducible refine gS ?_); apply Es_xn); rfl; rfl; (refine LStep_storeN (T := Try.tab) rfl rfl rfl rfl rfl rfl rfl ?_ rfl; (refine Nat.le_of_ble_eq_true ?_; rfl)); rfl) | (with_reducible refine Es_nil ?_) | (with_reducible refine then_n ?_) | (with_reducible refine then_r ?_) | ((with_reducible refine gRG ?_); first | refine retGa rfl ?_ | refine retGb rfl ?_ | refine retGc rfl ?_ | refine retG1 rfl rfl ?_ | refine endG1 rfl rfl ?_))
      all_goals simp only [cmps] at *
      all_goals first
        | (exfalso; omega)
        | (refine fin ?_; (first | (rw [holdE, if_pos (by (first | assumption | omega | (simp [*]; done) | (simp [*]; omega)))]) | (rw [holdE, if_neg (by (first | assumption | omega | (simp [*]; done) | (simp [*]; omega))), if_pos (by (first | assumption | omega | (simp [*]; done) | (simp [*]; omega)))]) | (rw [holdE, if_neg (by (first | assumption | omega | (simp [*]; done) | (simp [*]; omega))), if_neg (by (first | assumption | omega | (simp [*]; done) | (simp [*]; omega))), if_pos (by (first | assumption | omega | (simp [*]; done) | (simp [*]; omega)))]) | (rw [holdE, if_neg (by (first | assumption | omega | (simp [*]; done) | (simp [*]; omega))), if_neg (by (first | assumption | omega | (simp [*]; done) | (simp [*]; omega))), if_neg (by (first | assumption | omega | (simp [*]; done) | (simp [*]; omega))), if_pos (by (first | assumption | omega | (simp [*]; done) | (simp [*]; omega)))]) | (rw [holdE, if_neg (by (first | assumption | omega | (simp [*]; done) | (simp [*]; omega))), if_neg (by (first | assumption | omega | (simp [*]; done) | (simp [*]; omega))), if_neg (by (first | assumption | omega | (simp [*]; done) | (simp [*]; omega))), if_neg (by (first | assumption | omega | (simp [*]; done) | (simp [*]; omega))), if_pos (by (first | assumption | omega | (simp [*]; done) | (simp [*]; omega)))]) | (rw [holdE, if_neg (by (first | assumption | omega | (simp [*]; done) | (simp [*]; omega))), if_neg (by (first | assumption | omega | (simp [*]; done) | (simp [*]; omega))), if_neg (by (first | assumption | omega | (simp [*]; done) | (simp [*]; omega))), if_neg (by (first | assumption | omega | (simp [*]; done) | (simp [*]; omega))), if_neg (by (first | assumption | omega | (simp [*]; done) | (simp [*]; omega))), if_pos (by (first | assumption | omega | (simp [*]; done) | (simp [*]; omega)))]) | (rw [holdE, if_neg (by (first | assumption | omega | (simp [*]; done) | (simp [*]; omega))), if_neg (by (first | assumption | omega | (simp [*]; done) | (simp [*]; omega))), if_neg (by (first | assumption | omega | (simp [*]; done) | (simp [*]; omega))), if_neg (by (first | assumption | omega | (simp [*]; done) | (simp [*]; omega))), if_neg (by (first | assumption | omega | (simp [*]; done) | (simp [*]; omega))), if_neg (by (first | assumption | omega | (simp [*]; done) | (simp [*]; omega)))])); done)
    | some a =>
      rw [fI_some ha] at c2
      have hat := aidx_at ha
      have cr := rfree_ac s.A s.P H (aidx (n, c) s.A) ((n, c), a) (by omega) hat
      rw [doc_held hd hs hv (List.mem_of_getElem? hat), ← Acc.fr] at cr
      have hfr : frA s.A (n, c) = a.fr := by unfold frA; rw [ha]; rfl
      have hno : lnameOk i = true → 1 ≤ m → m ≤ 1099511627776 → m ≤ a.fr → False := fun h1 h2 h3 h4 => he (by
        unfold holdE
        rw [if_neg (by simp [h1]), hq, if_neg (by simp), ha, if_neg (by simp), if_neg (by omega), hfr, if_neg (by omega), if_neg (by omega)])
      refine AC_enterG Try.tab Try.func43 rfl Try.ntmps43 (rv := [.cell 10 45, .tmp 11]) rfl rfl (by simp) (fun w X G => ?_)
      repeat' (first | ((with_reducible refine gA ?_); refine AW_freezeCell 5 2 (id := 42) rfl rfl rfl rfl ?_) | ((with_reducible refine gA ?_); (first | refine AW_seq ?_ | refine AW_region ?_ | refine AW_condT rfl ?_ | (refine AW_cond rfl (fun hc => ?_) (fun hc => ?_) <;> try (exfalso; simp only [cmpL] at hc; omega)) | refine AW_ret ?_ | refine AW_skip ?_)) | ((with_reducible refine gS ?_); refine Es_s (T := Try.tab) rfl rfl rfl rfl ?_) | (((with_reducible refine gS ?_); apply Es_q); rfl; (first | rfl | (refine w_ff ?_; assumption)); (first | refine LStep_call (c0) rfl rfl rfl rfl | refine LStep_call (c1) rfl rfl rfl rfl | refine LStep_call (c2) rfl rfl rfl rfl | refine LStep_call (cr) rfl rfl rfl rfl)) | (((with_reducible refine gS ?_); apply Es_xs); rfl; (first | rfl | (refine w_ff ?_; assumption)); (first | (refine LStep_litOwn (T := Try.tab) (len := 0) rfl rfl rfl rfl rfl rfl rfl rfl rfl rfl ?_ ?_; (refine Nat.le_of_ble_eq_true ?_; rfl); (unfold maxLen; omega)) | (refine LStep_append (T := Try.tab) rfl rfl rfl rfl rfl rfl rfl rfl rfl rfl ?_ ?_ ?_; rfl; (simp only [List.length_map, List.length_nil, List.length_append, List.length_cons]; omega); (unfold maxLen; simp only [List.length_map, List.length_nil, List.length_append, List.length_cons]; omega))); rfl) | (((with_reducible refine gS ?_); apply Es_q); rfl; (first | rfl | (refine w_ff ?_; assumption)); (first | refine LStep_simp (T := Try.tab) rfl rfl | (refine LStep_pickT rfl rfl ?_ rfl rfl; assumption) | (refine LStep_pickF rfl rfl ?_ rfl rfl; assumption) | (refine LStep_lit (T := Try.tab) rfl rfl rfl rfl rfl rfl rfl rfl ?_; (refine Nat.le_of_ble_eq_true ?_; rfl)) | refine LStep_buildN (T := Try.tab) rfl rfl rfl rfl rfl rfl rfl)) | (refine Es_skip rfl ?_ rfl ?_; (first | rfl | (refine w_tf ?_; assumption) | (refine w_ft ?_; assumption))) | (((with_reducible refine gS ?_); apply Es_xs); rfl; rfl; (first | refine LStep_boxN rfl rfl rfl rfl rfl rfl | refine LStep_allocN (T := Try.tab) rfl rfl rfl rfl rfl rfl); rfl) | (((with_reducible refine gS ?_); apply Es_xn); rfl; rfl; (refine LStep_storeN (T := Try.tab) rfl rfl rfl rfl rfl rfl rfl ?_ rfl; (refine Nat.le_of_ble_eq_true ?_; rfl)); rfl) | (refine Es_split rfl ?_ (fun _ => ?_) (fun _ => ?_); ((fail_if_success (refine und_t ?_; assumption)); (fail_if_success (refine und_f ?_; assumption)); exact trivial)) | (with_reducible refine Es_nil ?_) | (with_reducible refine then_n ?_) | (with_reducible refine then_r ?_) | ((with_reducible refine gRG ?_); first | refine retGa rfl ?_ | refine retGb rfl ?_ | refine retGc rfl ?_ | refine retG1 rfl rfl ?_ | refine endG1 rfl rfl ?_))
      all_goals simp only [cmps] at *
      all_goals first
        | (exfalso; omega)
        | (exfalso; exact hno (by assumption) (by assumption) (by assumption) (by assumption))
        | (refine fin ?_; (first | (rw [holdE, if_pos (by (first | assumption | omega | (simp [*]; done) | (simp [*]; omega)))]) | (rw [holdE, if_neg (by (first | assumption | omega | (simp [*]; done) | (simp [*]; omega))), if_pos (by (first | assumption | omega | (simp [*]; done) | (simp [*]; omega)))]) | (rw [holdE, if_neg (by (first | assumption | omega | (simp [*]; done) | (simp [*]; omega))), if_neg (by (first | assumption | omega | (simp [*]; done) | (simp [*]; omega))), if_pos (by (first | assumption | omega | (simp [*]; done) | (simp [*]; omega)))]) | (rw [holdE, if_neg (by (first | assumption | omega | (simp [*]; done) | (simp [*]; omega))), if_neg (by (first | assumption | omega | (simp [*]; done) | (simp [*]; omega))), if_neg (by (first | assumption | omega | (simp [*]; done) | (simp [*]; omega))), if_pos (by (first | assumption | omega | (simp [*]; done) | (simp [*]; omega)))]) | (rw [holdE, if_neg (by (first | assumption | omega | (simp [*]; done) | (simp [*]; omega))), if_neg (by (first | assumption | omega | (simp [*]; done) | (simp [*]; omega))), if_neg (by (first | assumption | omega | (simp [*]; done) | (simp [*]; omega))), if_neg (by (first | assumption | omega | (simp [*]; done) | (simp [*]; omega))), if_pos (by (first | assumption | omega | (simp [*]; done) | (simp [*]; omega)))]) | (rw [holdE, if_neg (by (first | assumption | omega | (simp [*]; done) | (simp [*]; omega))), if_neg (by (first | assumption | omega | (simp [*]; done) | (simp [*]; omega))), if_neg (by (first | assumption | omega | (simp [*]; done) | (simp [*]; omega))), if_neg (by (first | assumption | omega | (simp [*]; done) | (simp [*]; omega))), if_neg (by (first | assumption | omega | (simp [*]; done) | (simp [*]; omega))), if_pos (by (first | assumption | omega | (simp [*]; done) | (simp [*]; omega)))]) | (rw [holdE, if_neg (by (first | assumption | omega | (simp [*]; done) | (simp [*]; omega))), if_neg (by (first | assumption | omega | (simp [*]; done) | (simp [*]; omega))), if_neg (by (first | assumption | omega | (simp [*]; done) | (simp [*]; omega))), if_neg (by (first | assumption | omega | (simp [*]; done) | (simp [*]; omega))), if_neg (by (first | assumption | omega | (simp [*]; done) | (simp [*]; omega))), if_neg (by (first | assumption | omega | (simp [*]; done) | (simp [*]; omega)))])); done)
        | trace_state
theorem mvals_put {i : ByteArray} {h h' : Hld} : ∀ {l : List (ByteArray × Hld)}, aget i l = some h → (mvals (aput i h' l)).Perm (mvals (adel i l) ++ [h'])
  | [], e => by cases e
  | (q, c) :: l, e => by
    rw [aget] at e
    rw [aput, adel]
    split at e
    · rename_i hq
      rw [if_pos hq, if_pos hq]
      exact (List.perm_append_comm (l₁ := [h']) (l₂ := mvals l))
    · rename_i hq
      rw [if_neg hq, if_neg hq]
      exact (mvals_put e).cons _
set_option maxRecDepth 20000 in
set_option maxHeartbeats 4000000 in
theorem rtake_ac (s : Led) (H : List Hld) (i to : ByteArray) (m : Int) (hs : s.Ok) (hv : s.Inv) (hd : DocH s H) (hf : s.P.length < 4096) (hi : i.size ≤ 1048576) : ∃ H', DocH (if takeE s i to m = 0 then takeS s i to m else s) H' ∧ AC Try.prog 44 [docA s.A s.P H, .d (.sc (.string i)), .d (.sc (.string to)), .d (.sc (.int .i64 m))] [] []
    (fun r _ => r = .tup [docA (if takeE s i to m = 0 then takeS s i to m else s).A (if takeE s i to m = 0 then takeS s i to m else s).P H', .d (.sc (.int .i64 (takeE s i to m)))]) := by
  have hl := doc_len hd hs
  have hlA := hs.lA
  have c1 := rhold_ac s.A s.P H i (by omega)
  have fin : ∀ {k : Int}, takeE s i to m = k → AV.tup [docA s.A s.P H, .d (.sc (.int .i64 k))] = .tup [docA s.A s.P H, .d (.sc (.int .i64 (takeE s i to m)))] := fun h => by rw [h]
  by_cases he : takeE s i to m = 0
  · obtain ⟨h, b, q1, q2, q3, q4, q5, q6, q7⟩ := takeE_ok he
    obtain ⟨r1, r2, r3, r4⟩ := hs.hold _ _ q1
    obtain ⟨a, ha⟩ : ∃ a, aget h.key s.A = some a := by
      cases hq : aget h.key s.A with
      | none => exact absurd hq r2
      | some a => exact ⟨a, rfl⟩
    obtain ⟨k, hk1, hk2, hk3, hk4⟩ := docLess hd hs q1
    have hLo := lessS_ok hs q1 q4 q5
    have hLi := lessS_inv hs hv q1 q4 q5
    have hda : (lessS s h m).A.map daE = s.A.map daE := aput_da ha (by rw [ha]; rfl) (by rw [ha]; rfl)
    have hkeys : akeys (lessS s h m).A = akeys s.A := keys_put ha
    have c2 := rfind_ac s.A s.P H to h.cur (by omega)
    rw [fI_some q2] at c2
    have hat := aidx_at q2
    rw [hk1] at c1
    have c3 := rwithout_ac s.A s.P H k (by omega) hk2
    have hne : h.key ≠ (to, h.cur) := fun e => q3 (congrArg Prod.fst e).symm
    have hkx : ∀ e ∈ takeX h to m, aget e.key (lessS s h m).A ≠ none := fun e hm => by
      simp only [takeX, List.mem_cons, List.not_mem_nil, or_false] at hm
      rcases hm with rfl | rfl
      · exact aget_keep r2
      · exact aget_keep (by rw [show Ent.key ⟨to, h.cur, m⟩ = (to, h.cur) from rfl, q2]; simp)
    have h40 : ∀ e ∈ takeX h to m, e.in40 := fun e hm => by
      simp only [takeX, List.mem_cons, List.not_mem_nil, or_false] at hm
      rcases hm with rfl | rfl <;> exact ⟨by simp only; omega, by simp only; omega⟩
    have hbb : ∀ p ∈ (lessS s h m).A, -1099511627776 ≤ p.2.bal ∧ p.2.bal ≤ 1099511627776 := fun p hp => acc_bal (hLi.acc _ _ (aget_of_mem hLo.nA (k := p.1) (c := p.2) hp))
    have hbook := fun H' => rbook_ac (lessS s h m).A s.P H' (takeT i) (takeX h to m) (by have := hLo.lA; omega) (by omega) (by simp [takeX]) h40 hkx hLo.nA (fun p hp => by have := hbb p hp; omega)
    have hS : takeS s i to m = ⟨bkE (lessS s h m).A (takeX h to m), s.P ++ [⟨(s.P.length : Int) + 1, takeT i, takeX h to m⟩], (lessS s h m).H⟩ := by
      unfold takeS
      rw [q1]
      show enterS (lessS s h m) _ _ = _
      unfold enterS
      rw [enterA_bk h40 (by simp [takeX]) (fun p hp => by have := hbb p hp; omega)]
      rfl
    rw [if_pos he, he, hS]
    have hneg : AV.d (.sc (.int .i64 (wrp .i64 (0 - m)))) = .d (.sc (.int .i64 (-m))) := by rw [wrp_fit (by omega), Int.zero_sub]
    have hpa := hbb _ (aget_mem (show aget (to, h.cur) (lessS s h m).A = some b by show aget _ (aput h.key _ s.A) = _; rw [aget_put, if_neg hne]; exact q2))
    simp only at hpa
    have hnm : ∀ p ∈ bkE (lessS s h m).A (takeX h to m), lnameOk p.1.1 = true := nm_keys hd.nm ((bk_keys _ _).trans hkeys)
    have hadd : b.bal + m ≤ 1099511627776 := by rw [wrp_fit (by omega)] at q7; exact q7
    have hss : (⟨#[116, 97, 107, 101, 32]⟩ : ByteArray).size = 5 := rfl
    by_cases hall : h.amt - m = 0
    · refine ⟨H.eraseIdx k, ⟨?_, hnm⟩, ?_⟩
      · show (H.eraseIdx k).Perm (mvals (if h.amt - m = 0 then adel h.id s.H else _))
        rw [if_pos hall]
        exact hk4
      have cb := hbook (H.eraseIdx k)
      have e1 : docA (lessS s h m).A s.P (H.eraseIdx k) = docA s.A s.P (H.eraseIdx k) := by unfold docA; rw [hda]
      rw [e1] at cb
      clear he hS hs hv hd hLo hLi hbook hkx h40 hbb
      refine AC_enterG Try.tab Try.func44 rfl Try.ntmps44 (rv := [.cell 8 45, .tmp 9]) rfl rfl (by simp) (fun w X G => ?_)
      repeat' (first | ((with_reducible refine gA ?_); refine AW_freezeCell 4 2 (id := 59) rfl rfl rfl rfl ?_) | ((with_reducible refine gA ?_); (first | refine AW_seq ?_ | refine AW_region ?_ | refine AW_condT rfl ?_ | (refine AW_cond rfl (fun hc => ?_) (fun hc => ?_) <;> try (exfalso; simp only [cmpL] at hc; omega)) | refine AW_ret ?_ | refine AW_skip ?_)) | (((with_reducible refine gS ?_); apply Es_q); rfl; (first | rfl | (refine w_ff ?_; assumption)); refine lstep_fit (T := Try.tab) rfl rfl hneg) | ((with_reducible refine gS ?_); refine Es_s (T := Try.tab) rfl rfl rfl rfl ?_) | (((with_reducible refine gS ?_); apply Es_q); rfl; (first | rfl | (refine w_ff ?_; assumption)); (first | refine LStep_call (c1) rfl rfl rfl rfl | refine LStep_call (c2) rfl rfl rfl rfl | refine LStep_call (cb) rfl rfl rfl rfl | (refine lstep_cat rfl rfl rfl rfl ?_; omega))) | (((with_reducible refine gS ?_); apply Es_xg); rfl; (first | rfl | (refine w_ff ?_; assumption)); refine LStep_callHN [] [(7, 59)] c3 rfl rfl trivial rfl trivial rfl rfl; rfl) | (((with_reducible refine gS ?_); apply Es_q); rfl; (first | rfl | (refine w_ff ?_; assumption)); (first | refine LStep_simp (T := Try.tab) rfl rfl | (refine LStep_add rfl rfl rfl rfl ?_; (refine IntWalk.i64_in _ ?_; first | omega | (simp only [cmps] at *; omega))) | (refine LStep_pickT rfl rfl ?_ rfl rfl; assumption) | (refine LStep_pickF rfl rfl ?_ rfl rfl; assumption) | (refine LStep_indexM (T := Try.tab) (c := ?_) rfl rfl rfl rfl rfl rfl ?_; rotate_left; assumption) | (refine LStep_lit (T := Try.tab) rfl rfl rfl rfl rfl rfl rfl rfl ?_; (refine Nat.le_of_ble_eq_true ?_; rfl)) | refine LStep_buildN (T := Try.tab) rfl rfl rfl rfl rfl rfl rfl)) | (refine Es_skip rfl ?_ rfl ?_; (first | rfl | (refine w_tf ?_; assumption) | (refine w_ft ?_; assumption))) | (((with_reducible refine gS ?_); apply Es_xs); rfl; rfl; (first | refine LStep_boxN rfl rfl rfl rfl rfl rfl | refine LStep_allocN (T := Try.tab) rfl rfl rfl rfl rfl rfl); rfl) | (((with_reducible refine gS ?_); apply Es_xn); rfl; rfl; (refine LStep_storeN (T := Try.tab) rfl rfl rfl rfl rfl rfl rfl ?_ rfl; (refine Nat.le_of_ble_eq_true ?_; rfl)); rfl) | (refine Es_split rfl ?_ (fun _ => ?_) (fun _ => ?_); ((fail_if_success (refine und_t ?_; assumption)); (fail_if_success (refine und_f ?_; assumption)); exact trivial)) | (with_reducible refine Es_nil ?_) | (with_reducible refine then_n ?_) | (with_reducible refine then_r ?_) | ((with_reducible refine gRG ?_); first | refine retGa rfl ?_ | refine retGb rfl ?_ | refine retGc rfl ?_ | refine retG1 rfl rfl ?_ | refine endG1 rfl rfl ?_))
      all_goals simp only [cmps] at *
      all_goals first
        | (exfalso; omega)
        | (exfalso; exact absurd ‹to = _› q3)
        | rfl
        | trace_state
    · refine ⟨H.eraseIdx k ++ [⟨h.id, h.acct, h.cur, h.amt - m⟩], ⟨?_, hnm⟩, ?_⟩
      · show List.Perm _ (mvals (if h.amt - m = 0 then _ else aput h.id _ s.H))
        rw [if_neg hall]
        exact (hk4.append_right _).trans (mvals_put (by rw [r1]; exact q1)).symm
      have cb := hbook (H.eraseIdx k ++ [⟨h.id, h.acct, h.cur, h.amt - m⟩])
      have e1 : docA (lessS s h m).A s.P (H.eraseIdx k ++ [⟨h.id, h.acct, h.cur, h.amt - m⟩]) = .agg [.d (.sl 4 (s.A.map daE)), .d (.sl 3 (s.P.map Post.enc)), .d (.sl 4 ((H.eraseIdx k).map Hld.enc ++ [[.sc (.string h.id), .sc (.string h.acct), .sc (.string h.cur), .sc (.int .i64 (h.amt - m))]]))] := by unfold docA; rw [hda, List.map_append]; rfl
      rw [e1] at cb
      have hle : (H.eraseIdx k).length ≤ H.length := List.length_eraseIdx_le _ _
      clear he hS hs hv hd hLo hLi hbook hkx h40 hbb
      refine AC_enterG Try.tab Try.func44 rfl Try.ntmps44 (rv := [.cell 8 45, .tmp 9]) rfl rfl (by simp) (fun w X G => ?_)
      repeat' (first | ((with_reducible refine gA ?_); (first | refine AW_seq ?_ | refine AW_region ?_ | refine AW_condT rfl ?_ | (refine AW_cond rfl (fun hc => ?_) (fun hc => ?_) <;> try (exfalso; simp only [cmpL] at hc; omega)) | refine AW_ret ?_ | refine AW_skip ?_)) | (((with_reducible refine gS ?_); apply Es_q); rfl; (first | rfl | (refine w_ff ?_; assumption)); refine lstep_fit (T := Try.tab) rfl rfl hneg) | ((with_reducible refine gS ?_); refine Es_s (T := Try.tab) rfl rfl rfl rfl ?_) | (((with_reducible refine gS ?_); apply Es_q); rfl; (first | rfl | (refine w_ff ?_; assumption)); (first | refine LStep_call (c1) rfl rfl rfl rfl | refine LStep_call (c2) rfl rfl rfl rfl | refine LStep_call (cb) rfl rfl rfl rfl | (refine lstep_cat rfl rfl rfl rfl ?_; omega))) | (((with_reducible refine gS ?_); apply Es_xs); rfl; (first | rfl | (refine w_ff ?_; assumption)); (refine LStep_appendD (T := Try.tab) 59 rfl rfl rfl rfl rfl rfl rfl rfl rfl rfl rfl ?_ ?_ ?_; rfl; (simp only [List.length_map, List.length_nil, List.length_cons]; omega); (unfold maxLen; simp only [List.length_map, List.length_nil, List.length_cons]; omega)); rfl) | (((with_reducible refine gS ?_); apply Es_xg); rfl; (first | rfl | (refine w_ff ?_; assumption)); refine LStep_callHN [] [(7, 59)] c3 rfl rfl trivial rfl trivial rfl rfl; rfl) | (((with_reducible refine gS ?_); apply Es_q); rfl; (first | rfl | (refine w_ff ?_; assumption)); (first | refine LStep_simp (T := Try.tab) rfl rfl | (refine LStep_add rfl rfl rfl rfl ?_; (refine IntWalk.i64_in _ ?_; first | omega | (simp only [cmps] at *; omega))) | (refine LStep_sub rfl rfl rfl rfl ?_; (refine IntWalk.i64_in _ ?_; first | omega | (simp only [cmps] at *; omega))) | (refine LStep_pickT rfl rfl ?_ rfl rfl; assumption) | (refine LStep_pickF rfl rfl ?_ rfl rfl; assumption) | (refine LStep_indexM (T := Try.tab) (c := ?_) rfl rfl rfl rfl rfl rfl ?_; rotate_left; assumption) | (refine LStep_lit (T := Try.tab) rfl rfl rfl rfl rfl rfl rfl rfl ?_; (refine Nat.le_of_ble_eq_true ?_; rfl)) | refine LStep_buildN (T := Try.tab) rfl rfl rfl rfl rfl rfl rfl)) | (refine Es_skip rfl ?_ rfl ?_; (first | rfl | (refine w_tf ?_; assumption) | (refine w_ft ?_; assumption))) | (((with_reducible refine gS ?_); apply Es_xs); rfl; rfl; (first | refine LStep_boxN rfl rfl rfl rfl rfl rfl | refine LStep_allocN (T := Try.tab) rfl rfl rfl rfl rfl rfl); rfl) | (((with_reducible refine gS ?_); apply Es_xn); rfl; rfl; (refine LStep_storeN (T := Try.tab) rfl rfl rfl rfl rfl rfl rfl ?_ rfl; (refine Nat.le_of_ble_eq_true ?_; rfl)); rfl) | (refine Es_split rfl ?_ (fun _ => ?_) (fun _ => ?_); ((fail_if_success (refine und_t ?_; assumption)); (fail_if_success (refine und_f ?_; assumption)); exact trivial)) | (with_reducible refine Es_nil ?_) | (with_reducible refine then_n ?_) | (with_reducible refine then_r ?_) | ((with_reducible refine gRG ?_); first | refine retGa rfl ?_ | refine retGb rfl ?_ | refine retGc rfl ?_ | refine retG1 rfl rfl ?_ | refine endG1 rfl rfl ?_))
      all_goals simp only [cmps] at *
      all_goals first
        | (exfalso; omega)
        | (exfalso; exact absurd ‹to = _› q3)
        | rfl
        | trace_state
  · rw [if_neg he]
    refine ⟨H, hd, ?_⟩
    have hgi := hk_get hd hs i
    cases hq : aget i s.H with
    | none =>
      rw [hq] at hgi
      rw [fI_none hgi] at c1
      have hE : takeE s i to m = 4 := by unfold takeE; rw [hq]
      refine AC_enterG Try.tab Try.func44 rfl Try.ntmps44 (rv := [.cell 8 45, .tmp 9]) rfl rfl (by simp) (fun w X G => ?_)
      repeat' (first | ((with_reducible refine gA ?_); (first | refine AW_seq ?_ | refine AW_region ?_ | (refine AW_cond rfl (fun hc => ?_) (fun hc => ?_) <;> try (exfalso; simp only [cmpL] at hc; omega)) | refine AW_ret ?_)) | ((with_reducible refine gS ?_); refine Es_s (T := Try.tab) rfl rfl rfl rfl ?_) | (((with_reducible refine gS ?_); apply Es_q); rfl; rfl; refine LStep_call (c1) rfl rfl rfl rfl) | (refine Es_skip rfl ?_ rfl ?_; (first | rfl | (refine w_tf ?_; assumption) | (refine w_ft ?_; assumption))) | (((with_reducible refine gS ?_); apply Es_xs); rfl; rfl; (first | refine LStep_boxN rfl rfl rfl rfl rfl rfl | refine LStep_allocN (T := Try.tab) rfl rfl rfl rfl rfl rfl); rfl) | (((with_reducible refine gS ?_); apply Es_xn); rfl; rfl; (refine LStep_storeN (T := Try.tab) rfl rfl rfl rfl rfl rfl rfl ?_ rfl; (refine Nat.le_of_ble_eq_true ?_; rfl)); rfl) | (with_reducible refine Es_nil ?_) | (with_reducible refine then_n ?_) | (with_reducible refine then_r ?_) | ((with_reducible refine gRG ?_); first | refine retGa rfl ?_ | refine retGb rfl ?_ | refine retGc rfl ?_ | refine retG1 rfl rfl ?_ | refine endG1 rfl rfl ?_))
      all_goals simp only [cmps] at *
      all_goals first
        | (exfalso; omega)
        | exact fin hE
    | some h =>
      obtain ⟨r1, r2, r3, r4⟩ := hs.hold _ _ hq
      obtain ⟨k, hk1, hk2, hk3, hk4⟩ := docLess hd hs hq
      rw [hk1] at c1
      have hE : takeE s i to m = takeH s h to m := by unfold takeE; rw [hq]
      rw [hE] at fin he ⊢
      have c2 := rfind_ac s.A s.P H to h.cur (by omega)
      cases ha : aget (to, h.cur) s.A with
      | none =>
        rw [fI_none ha] at c2
        have hF : takeH s h to m = 4 := by unfold takeH; rw [ha]; rfl
        refine AC_enterG Try.tab Try.func44 rfl Try.ntmps44 (rv := [.cell 8 45, .tmp 9]) rfl rfl (by simp) (fun w X G => ?_)
        repeat' (first | ((with_reducible refine gA ?_); (first | refine AW_seq ?_ | refine AW_region ?_ | (refine AW_cond rfl (fun hc => ?_) (fun hc => ?_) <;> try (exfalso; simp only [cmpL] at hc; omega)) | refine AW_ret ?_ | refine AW_skip ?_)) | ((with_reducible refine gS ?_); refine Es_s (T := Try.tab) rfl rfl rfl rfl ?_) | (((with_reducible refine gS ?_); apply Es_q); rfl; rfl; (first | refine LStep_call (c1) rfl rfl rfl rfl | refine LStep_call (c2) rfl rfl rfl rfl)) | (((with_reducible refine gS ?_); apply Es_q); rfl; rfl; (refine LStep_indexM (T := Try.tab) (c := ?_) rfl rfl rfl rfl rfl rfl ?_; rotate_left; assumption)) | (refine Es_skip rfl ?_ rfl ?_; (first | rfl | (refine w_tf ?_; assumption) | (refine w_ft ?_; assumption))) | (((with_reducible refine gS ?_); apply Es_xs); rfl; rfl; (first | refine LStep_boxN rfl rfl rfl rfl rfl rfl | refine LStep_allocN (T := Try.tab) rfl rfl rfl rfl rfl rfl); rfl) | (((with_reducible refine gS ?_); apply Es_xn); rfl; rfl; (refine LStep_storeN (T := Try.tab) rfl rfl rfl rfl rfl rfl rfl ?_ rfl; (refine Nat.le_of_ble_eq_true ?_; rfl)); rfl) | (with_reducible refine Es_nil ?_) | (with_reducible refine then_n ?_) | (with_reducible refine then_r ?_) | ((with_reducible refine gRG ?_); first | refine retGa rfl ?_ | refine retGb rfl ?_ | refine retGc rfl ?_ | refine retG1 rfl rfl ?_ | refine endG1 rfl rfl ?_))
        all_goals simp only [cmps] at *
        all_goals first
          | (exfalso; omega)
          | exact fin hF
      | some b =>
        rw [fI_some ha] at c2
        have hat := aidx_at ha
        have hpa := acc_bal (hv.acc _ _ ha)
        have hB : balA s.A (to, h.cur) = b.bal := by unfold balA; rw [ha]; rfl
        have e1 : to = h.acct → takeH s h to m = 1 := fun e => by unfold takeH; rw [ha, if_neg (by simp), if_pos e]
        have e3 : to ≠ h.acct → m < 1 ∨ m > h.amt → takeH s h to m = 3 := fun e e2 => by unfold takeH; rw [ha, if_neg (by simp), if_neg e, if_pos e2]
        have e4 : to ≠ h.acct → 1 ≤ m → m ≤ h.amt → 1099511627776 < b.bal + m → takeH s h to m = 3 := fun e e2 e3 e4 => by unfold takeH; rw [ha, if_neg (by simp), if_neg e, if_neg (by omega), if_neg (by omega), hB, wrp_fit (by omega), if_pos e4]
        have e0 : to ≠ h.acct → 1 ≤ m → m ≤ h.amt → b.bal + m ≤ 1099511627776 → False := fun e e2 e3 e4 => he (by unfold takeH; rw [ha, if_neg (by simp), if_neg e, if_neg (by omega), if_neg (by omega), hB, wrp_fit (by omega), if_neg (by omega)])
        clear he hv
        by_cases g1 : to = h.acct
        · have hF := e1 g1
          refine AC_enterG Try.tab Try.func44 rfl Try.ntmps44 (rv := [.cell 8 45, .tmp 9]) rfl rfl (by simp) (fun w X G => ?_)
          repeat' (first | ((with_reducible refine gA ?_); (first | refine AW_seq ?_ | refine AW_region ?_ | refine AW_condT rfl ?_ | (refine AW_cond rfl (fun hc => ?_) (fun hc => ?_) <;> try (exfalso; simp only [cmpL] at hc; omega)) | refine AW_ret ?_ | refine AW_skip ?_)) | ((with_reducible refine gS ?_); refine Es_s (T := Try.tab) rfl rfl rfl rfl ?_) | (((with_reducible refine gS ?_); apply Es_q); rfl; (first | rfl | (refine w_ff ?_; assumption)); (first | refine LStep_call (c1) rfl rfl rfl rfl | refine LStep_call (c2) rfl rfl rfl rfl)) | (((with_reducible refine gS ?_); apply Es_q); rfl; (first | rfl | (refine w_ff ?_; assumption)); (first | refine LStep_simp (T := Try.tab) rfl rfl | (refine LStep_add rfl rfl rfl rfl ?_; (refine IntWalk.i64_in _ ?_; first | omega | (simp only [cmps] at *; omega))) | (refine LStep_pickT rfl rfl ?_ rfl rfl; assumption) | (refine LStep_pickF rfl rfl ?_ rfl rfl; assumption) | (refine LStep_indexM (T := Try.tab) (c := ?_) rfl rfl rfl rfl rfl rfl ?_; rotate_left; assumption))) | (refine Es_skip rfl ?_ rfl ?_; (first | rfl | (refine w_tf ?_; assumption) | (refine w_ft ?_; assumption))) | (((with_reducible refine gS ?_); apply Es_xs); rfl; rfl; (first | refine LStep_boxN rfl rfl rfl rfl rfl rfl | refine LStep_allocN (T := Try.tab) rfl rfl rfl rfl rfl rfl); rfl) | (((with_reducible refine gS ?_); apply Es_xn); rfl; rfl; (refine LStep_storeN (T := Try.tab) rfl rfl rfl rfl rfl rfl rfl ?_ rfl; (refine Nat.le_of_ble_eq_true ?_; rfl)); rfl) | (refine Es_split rfl ?_ (fun _ => ?_) (fun _ => ?_); ((fail_if_success (refine und_t ?_; assumption)); (fail_if_success (refine und_f ?_; assumption)); exact trivial)) | (with_reducible refine Es_nil ?_) | (with_reducible refine then_n ?_) | (with_reducible refine then_r ?_) | ((with_reducible refine gRG ?_); first | refine retGa rfl ?_ | refine retGb rfl ?_ | refine retGc rfl ?_ | refine retG1 rfl rfl ?_ | refine endG1 rfl rfl ?_))
          all_goals simp only [cmps] at *
          all_goals first
            | (exfalso; omega)
            | (exfalso; contradiction)
            | exact fin hF
        by_cases g2 : m < 1 ∨ m > h.amt
        · have hF := e3 g1 g2
          refine AC_enterG Try.tab Try.func44 rfl Try.ntmps44 (rv := [.cell 8 45, .tmp 9]) rfl rfl (by simp) (fun w X G => ?_)
          repeat' (first | ((with_reducible refine gA ?_); (first | refine AW_seq ?_ | refine AW_region ?_ | refine AW_condT rfl ?_ | (refine AW_cond rfl (fun hc => ?_) (fun hc => ?_) <;> try (exfalso; simp only [cmpL] at hc; omega)) | refine AW_ret ?_ | refine AW_skip ?_)) | ((with_reducible refine gS ?_); refine Es_s (T := Try.tab) rfl rfl rfl rfl ?_) | (((with_reducible refine gS ?_); apply Es_q); rfl; (first | rfl | (refine w_ff ?_; assumption)); (first | refine LStep_call (c1) rfl rfl rfl rfl | refine LStep_call (c2) rfl rfl rfl rfl)) | (((with_reducible refine gS ?_); apply Es_q); rfl; (first | rfl | (refine w_ff ?_; assumption)); (first | refine LStep_simp (T := Try.tab) rfl rfl | (refine LStep_add rfl rfl rfl rfl ?_; (refine IntWalk.i64_in _ ?_; first | omega | (simp only [cmps] at *; omega))) | (refine LStep_pickT rfl rfl ?_ rfl rfl; assumption) | (refine LStep_pickF rfl rfl ?_ rfl rfl; assumption) | (refine LStep_indexM (T := Try.tab) (c := ?_) rfl rfl rfl rfl rfl rfl ?_; rotate_left; assumption))) | (refine Es_skip rfl ?_ rfl ?_; (first | rfl | (refine w_tf ?_; assumption) | (refine w_ft ?_; assumption))) | (((with_reducible refine gS ?_); apply Es_xs); rfl; rfl; (first | refine LStep_boxN rfl rfl rfl rfl rfl rfl | refine LStep_allocN (T := Try.tab) rfl rfl rfl rfl rfl rfl); rfl) | (((with_reducible refine gS ?_); apply Es_xn); rfl; rfl; (refine LStep_storeN (T := Try.tab) rfl rfl rfl rfl rfl rfl rfl ?_ rfl; (refine Nat.le_of_ble_eq_true ?_; rfl)); rfl) | (refine Es_split rfl ?_ (fun _ => ?_) (fun _ => ?_); ((fail_if_success (refine und_t ?_; assumption)); (fail_if_success (refine und_f ?_; assumption)); exact trivial)) | (with_reducible refine Es_nil ?_) | (with_reducible refine then_n ?_) | (with_reducible refine then_r ?_) | ((with_reducible refine gRG ?_); first | refine retGa rfl ?_ | refine retGb rfl ?_ | refine retGc rfl ?_ | refine retG1 rfl rfl ?_ | refine endG1 rfl rfl ?_))
          all_goals simp only [cmps] at *
          all_goals first
            | (exfalso; omega)
            | (exfalso; contradiction)
            | exact fin hF
        have g3 : 1099511627776 < b.bal + m := Int.not_le.1 (fun hh => e0 g1 (by omega) (by omega) hh)
        have hF := e4 g1 (by omega) (by omega) g3
        refine AC_enterG Try.tab Try.func44 rfl Try.ntmps44 (rv := [.cell 8 45, .tmp 9]) rfl rfl (by simp) (fun w X G => ?_)
        repeat' (first | ((with_reducible refine gA ?_); (first | refine AW_seq ?_ | refine AW_region ?_ | refine AW_condT rfl ?_ | (refine AW_cond rfl (fun hc => ?_) (fun hc => ?_) <;> try (exfalso; simp only [cmpL] at hc; omega)) | refine AW_ret ?_ | refine AW_skip ?_)) | ((with_reducible refine gS ?_); refine Es_s (T := Try.tab) rfl rfl rfl rfl ?_) | (((with_reducible refine gS ?_); apply Es_q); rfl; (first | rfl | (refine w_ff ?_; assumption)); (first | refine LStep_call (c1) rfl rfl rfl rfl | refine LStep_call (c2) rfl rfl rfl rfl)) | (((with_reducible refine gS ?_); apply Es_q); rfl; (first | rfl | (refine w_ff ?_; assumption)); (first | refine LStep_simp (T := Try.tab) rfl rfl | (refine LStep_add rfl rfl rfl rfl ?_; (refine IntWalk.i64_in _ ?_; first | omega | (simp only [cmps] at *; omega))) | (refine LStep_pickT rfl rfl ?_ rfl rfl; assumption) | (refine LStep_pickF rfl rfl ?_ rfl rfl; assumption) | (refine LStep_indexM (T := Try.tab) (c := ?_) rfl rfl rfl rfl rfl rfl ?_; rotate_left; assumption))) | (refine Es_skip rfl ?_ rfl ?_; (first | rfl | (refine w_tf ?_; assumption) | (refine w_ft ?_; assumption))) | (((with_reducible refine gS ?_); apply Es_xs); rfl; rfl; (first | refine LStep_boxN rfl rfl rfl rfl rfl rfl | refine LStep_allocN (T := Try.tab) rfl rfl rfl rfl rfl rfl); rfl) | (((with_reducible refine gS ?_); apply Es_xn); rfl; rfl; (refine LStep_storeN (T := Try.tab) rfl rfl rfl rfl rfl rfl rfl ?_ rfl; (refine Nat.le_of_ble_eq_true ?_; rfl)); rfl) | (refine Es_split rfl ?_ (fun _ => ?_) (fun _ => ?_); ((fail_if_success (refine und_t ?_; assumption)); (fail_if_success (refine und_f ?_; assumption)); exact trivial)) | (with_reducible refine Es_nil ?_) | (with_reducible refine then_n ?_) | (with_reducible refine then_r ?_) | ((with_reducible refine gRG ?_); first | refine retGa rfl ?_ | refine retGb rfl ?_ | refine retGc rfl ?_ | refine retG1 rfl rfl ?_ | refine endG1 rfl rfl ?_))
        all_goals simp only [cmps] at *
        all_goals first
          | (exfalso; omega)
          | (exfalso; contradiction)
          | exact fin hF
          | trace_state
end Go.Proofs.Ytbekoielblcbmaa
