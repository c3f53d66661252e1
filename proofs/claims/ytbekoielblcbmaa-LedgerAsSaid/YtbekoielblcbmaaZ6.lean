import Derived.Test.YtbekoielblcbmaaZ5
namespace Go.Proofs.Ytbekoielblcbmaa
open Go.SL
/-! ### an act, by the document -/
theorem openS_doc (s : Led) (n c : ByteArray) (f : Int) : (openS s n c f).1.A = (openS ⟨s.A, s.P, []⟩ n c f).1.A ∧ (openS s n c f).2 = (openS ⟨s.A, s.P, []⟩ n c f).2 := by
  unfold openS
  dsimp only
  split
  · exact ⟨rfl, rfl⟩
  split
  · exact ⟨rfl, rfl⟩
  split
  · exact ⟨rfl, rfl⟩
  split
  · exact ⟨rfl, rfl⟩
  exact ⟨rfl, rfl⟩
theorem openS_H2 (s : Led) (n c : ByteArray) (f : Int) : (openS s n c f).1.H = s.H := by
  unfold openS
  split
  · rfl
  split
  · rfl
  split
  · rfl
  split
  · rfl
  rfl
theorem openS_nm {s : Led} {H : List Hld} (hd : DocH s H) (n c : ByteArray) (f : Int) : DocH (openS s n c f).1 H := by
  refine ⟨by rw [openS_H2]; exact hd.perm, ?_⟩
  unfold openS
  split
  · exact hd.nm
  split
  · exact hd.nm
  split
  · exact hd.nm
  split
  · exact hd.nm
  rename_i g1 g2 g3 g4
  have hn : aget (n, c) s.A = none := by
    cases hq : aget (n, c) s.A with
    | none => rfl
    | some a => rw [hq] at g3; simp at g3
  intro p hp
  have hp : p ∈ aput (n, c) ⟨f, 0, 0⟩ s.A := hp
  rw [aput_new hn, List.mem_append, List.mem_singleton] at hp
  rcases hp with hp | rfl
  · exact hd.nm p hp
  · show lnameOk n = true
    cases hq : lnameOk n with
    | true => rfl
    | false => exact absurd (by rw [hq]; rfl) g1
theorem postD_eq {s : Led} (hs : s.Ok) (hv : s.Inv) (hf : s.P.length < 4096) (t : ByteArray) (x : List Ent) : postD s.A t x = postE s t x := by
  unfold postD postE
  by_cases h : t.size > 4096 ∨ x.length = 0 ∨ x.length > 64
  · rw [if_pos h, if_pos h]
  · rw [if_neg h, if_neg h, if_neg (by omega), refD_eq hs hv (by omega)]
theorem want_fin {n e n' e' : Int} {d d' : AV} (h0 : d = d') (h1 : n = n') (h2 : e = e') : AV.tup [d, .d (.sc (.int .i64 n)), .d (.sc (.int .i64 e))] = .tup [d', .d (.sc (.int .i64 n')), .d (.sc (.int .i64 e'))] := by rw [h0, h1, h2]
set_option maxRecDepth 20000 in
set_option maxHeartbeats 8000000 in
theorem want_ac (s : Led) (H : List Hld) (x : Act) (hs : s.Ok) (hv : s.Inv) (hd : DocH s H) (hk : 0 ≤ x.kind) (hA : s.A.length ≤ 4000) (hP : s.P.length < 4096) (hH : s.H.length < 4096) (hx : x.a.size ≤ 1048576) (hl : x.l.length ≤ 1048576) :
    ∃ H', DocH (doS s x) H' ∧ AC Try.prog 22 [docA s.A s.P H, .agg x.cs] [] [] (fun r _ => r = .tup [docA (doS s x).A (doS s x).P H', .d (.sc (.int .i64 (doN s x))), .d (.sc (.int .i64 (doE s x)))]) := by
  have h5 : x.kind.tmod 5 = x.k := rfl
  rcases x.k_cases hk with h | h | h | h | h
  · have cc := ropen_ac s.A s.P H x.a x.c x.n hA
    obtain ⟨o1, o2⟩ := openS_doc s x.a x.c x.n
    rw [← o1, ← o2] at cc
    have hS : doS s x = (openS s x.a x.c x.n).1 := by rw [doS, if_pos h]
    have hPP : (openS s x.a x.c x.n).1.P = s.P := openS_P _ _ _ _
    have hE : (openS s x.a x.c x.n).2 = doE s x := by rw [doE, if_pos h]
    have hN : (0 : Int) = doN s x := by rw [doN, if_neg (by rw [h]; simp)]
    rw [hS, hPP, ← hN, ← hE]
    refine ⟨H, openS_nm hd _ _ _, ?_⟩
    rw [h] at h5
    refine AC_enterG Try.tab Try.func22 rfl Try.ntmps22 (rv := [.cell 4 45, .tmp 5, .tmp 6]) rfl rfl (by simp) (fun w X G => ?_)
    repeat' (first | ((with_reducible refine gA ?_); (first | refine AW_seq ?_ | refine AW_region ?_ | (refine AW_cond rfl (fun hc => ?_) (fun hc => ?_) <;> try (exfalso; simp only [cmpL] at hc; omega)) | refine AW_block ?_ | refine AW_ret ?_)) | ((with_reducible refine gS ?_); refine Es_s (T := Try.tab) rfl rfl rfl rfl ?_) | (((with_reducible refine gS ?_); apply Es_q); rfl; rfl; (first | refine lstep_rem rfl rfl rfl (by decide) h5 rfl | refine LStep_call (cc) rfl rfl rfl rfl)) | (refine Es_skip rfl ?_ rfl ?_; (first | rfl | (refine w_tf ?_; assumption) | (refine w_ft ?_; assumption))) | (((with_reducible refine gS ?_); apply Es_xs); rfl; rfl; (first | refine LStep_boxN rfl rfl rfl rfl rfl rfl | refine LStep_allocN (T := Try.tab) rfl rfl rfl rfl rfl rfl); rfl) | (((with_reducible refine gS ?_); apply Es_xn); rfl; rfl; (refine LStep_storeN (T := Try.tab) rfl rfl rfl rfl rfl rfl rfl ?_ rfl; (refine Nat.le_of_ble_eq_true ?_; rfl)); rfl) | (with_reducible refine Es_nil ?_) | (with_reducible refine then_n ?_) | (with_reducible refine then_r ?_) | (with_reducible refine block_r ?_) | ((with_reducible refine gRG ?_); first | refine retGa rfl ?_ | refine retGb rfl ?_ | refine retGc rfl ?_ | refine retG1 rfl rfl ?_ | refine endG1 rfl rfl ?_))
    all_goals first
      | (exfalso; revert hc; decide)
      | rfl
  · have cc := rpost_ac s H x.a x.l hs hv hd (by omega) (by omega)
    rw [postD_eq hs hv hP] at cc
    have hS : doS s x = if postE s x.a x.l = 0 then enterS s x.a x.l else s := by rw [doS, if_neg (by rw [h]; decide), if_pos h]
    have hE : postE s x.a x.l = doE s x := by rw [doE, if_neg (by rw [h]; decide), if_pos h]
    by_cases hq : postE s x.a x.l = 0
    · have hN : ((s.P.length : Int) + 1) = doN s x := by rw [doN, if_pos ⟨h, hq⟩]
      rw [hS, ← hE, ← hN]
      have hpe := hq
      unfold postE at hpe
      split at hpe
      · cases hpe
      split at hpe
      · cases hpe
      have hi := (refS_ok hpe).2
      have hbk : bkE s.A x.l = (enterS s x.a x.l).A := (enterA_bk hi (by omega) (fun p hp => acc_bal2 (hv.acc _ _ (aget_of_mem hs.nA (k := p.1) (c := p.2) hp)))).symm
      rw [if_pos hq, hbk, hq] at cc
      have hlen : (((s.P ++ [(⟨(s.P.length : Int) + 1, x.a, x.l⟩ : Post)]).length : Nat) : Int) = (s.P.length : Int) + 1 := by simp
      rw [if_pos hq, hq]
      refine ⟨H, ⟨hd.perm, nm_keys hd.nm (enterS_keys s x.a x.l)⟩, ?_⟩
      rw [h] at h5
      refine AC_enterG Try.tab Try.func22 rfl Try.ntmps22 (rv := [.cell 4 45, .tmp 5, .tmp 6]) rfl rfl (by simp) (fun w X G => ?_)
      repeat' (first | ((with_reducible refine gA ?_); (first | refine AW_seq ?_ | refine AW_region ?_ | refine AW_regionD Try.mixed ?_ | (refine AW_cond rfl (fun hc => ?_) (fun hc => ?_) <;> try (exfalso; simp only [cmpL] at hc; omega)) | refine AW_block ?_ | refine AW_ret ?_ | refine AW_skip ?_)) | (first | ((with_reducible refine gS ?_); refine Es_s (T := Try.tab) rfl rfl rfl rfl ?_) | ((with_reducible refine gD ?_); refine Ed_s (T := Try.tab) rfl rfl rfl rfl ?_)) | ((first | ((with_reducible refine gS ?_); apply Es_q) | ((with_reducible refine gD ?_); apply Ed_q)); rfl; rfl; (first | refine lstep_rem rfl rfl rfl (by decide) h5 rfl | refine LStep_call (cc) rfl rfl rfl rfl)) | ((first | ((with_reducible refine gS ?_); apply Es_q) | ((with_reducible refine gD ?_); apply Ed_q)); rfl; rfl; refine LStep_lenM (T := Try.tab) rfl rfl rfl rfl) | (refine Es_skip rfl ?_ rfl ?_; (first | rfl | (refine w_tf ?_; assumption) | (refine w_ft ?_; assumption))) | ((first | ((with_reducible refine gS ?_); apply Es_xs) | ((with_reducible refine gD ?_); apply Ed_xs)); rfl; rfl; (first | refine LStep_boxN rfl rfl rfl rfl rfl rfl | refine LStep_allocN (T := Try.tab) rfl rfl rfl rfl rfl rfl); rfl) | ((first | ((with_reducible refine gS ?_); apply Es_xn) | ((with_reducible refine gD ?_); apply Ed_xn)); rfl; rfl; (refine LStep_storeN (T := Try.tab) rfl rfl rfl rfl rfl rfl rfl ?_ rfl; (refine Nat.le_of_ble_eq_true ?_; rfl)); rfl) | (with_reducible refine Es_nil ?_) | ((with_reducible refine Ed_nil ?_ ?_); kernel_rfl) | (with_reducible refine then_n ?_) | (with_reducible refine then_r ?_) | (with_reducible refine block_r ?_) | ((with_reducible refine gRG ?_); first | refine retGa rfl ?_ | refine retGb rfl ?_ | refine retGc rfl ?_ | refine retG1 rfl rfl ?_ | refine endG1 rfl rfl ?_))
      all_goals first
        | (exfalso; revert hc; decide)
        | exact want_fin rfl hlen rfl
        | (exfalso; simp [eqb] at *; done)
        | trace_state
    · have hN : (0 : Int) = doN s x := by rw [doN, if_neg (by rintro ⟨_, e⟩; exact hq e)]
      rw [if_neg hq] at cc
      rw [hS, if_neg hq, ← hE, ← hN]
      refine ⟨H, hd, ?_⟩
      rw [h] at h5
      generalize postE s x.a x.l = e at cc hq ⊢
      refine AC_enterG Try.tab Try.func22 rfl Try.ntmps22 (rv := [.cell 4 45, .tmp 5, .tmp 6]) rfl rfl (by simp) (fun w X G => ?_)
      repeat' (first | ((with_reducible refine gA ?_); (first | refine AW_seq ?_ | refine AW_region ?_ | (refine AW_cond rfl (fun hc => ?_) (fun hc => ?_) <;> try (exfalso; simp only [cmpL] at hc; omega)) | refine AW_block ?_ | refine AW_ret ?_)) | ((with_reducible refine gS ?_); refine Es_s (T := Try.tab) rfl rfl rfl rfl ?_) | (((with_reducible refine gS ?_); apply Es_q); rfl; rfl; (first | refine lstep_rem rfl rfl rfl (by decide) h5 rfl | refine LStep_call (cc) rfl rfl rfl rfl)) | (refine Es_skip rfl ?_ rfl ?_; (first | rfl | (refine w_tf ?_; assumption) | (refine w_ft ?_; assumption))) | (((with_reducible refine gS ?_); apply Es_xs); rfl; rfl; (first | refine LStep_boxN rfl rfl rfl rfl rfl rfl | refine LStep_allocN (T := Try.tab) rfl rfl rfl rfl rfl rfl); rfl) | (((with_reducible refine gS ?_); apply Es_xn); rfl; rfl; (refine LStep_storeN (T := Try.tab) rfl rfl rfl rfl rfl rfl rfl ?_ rfl; (refine Nat.le_of_ble_eq_true ?_; rfl)); rfl) | (with_reducible refine Es_nil ?_) | (with_reducible refine then_n ?_) | (with_reducible refine then_r ?_) | (with_reducible refine block_r ?_) | ((with_reducible refine gRG ?_); first | refine retGa rfl ?_ | refine retGb rfl ?_ | refine retGc rfl ?_ | refine retG1 rfl rfl ?_ | refine endG1 rfl rfl ?_))
      all_goals first
        | (exfalso; revert hc; decide)
        | rfl
        | (exfalso; simp [eqb] at *; done)
        | (exfalso; simp only [cmps] at *; contradiction)
        | trace_state
  · obtain ⟨H', hd', cc⟩ := rhold2_ac s H x.a x.b x.c x.n hs hv hd hH
    have hS : doS s x = holdS s x.a x.b x.c x.n := by rw [doS, if_neg (by rw [h]; decide), if_neg (by rw [h]; decide), if_pos h]
    have hE : holdE s x.a x.b x.c x.n = doE s x := by rw [doE, if_neg (by rw [h]; decide), if_neg (by rw [h]; decide), if_pos h]
    have hN : (0 : Int) = doN s x := by rw [doN, if_neg (by rw [h]; simp)]
    rw [hS, ← hE, ← hN]
    refine ⟨H', hd', ?_⟩
    rw [h] at h5
    refine AC_enterG Try.tab Try.func22 rfl Try.ntmps22 (rv := [.cell 4 45, .tmp 5, .tmp 6]) rfl rfl (by simp) (fun w X G => ?_)
    repeat' (first | ((with_reducible refine gA ?_); (first | refine AW_seq ?_ | refine AW_region ?_ | (refine AW_cond rfl (fun hc => ?_) (fun hc => ?_) <;> try (exfalso; simp only [cmpL] at hc; omega)) | refine AW_block ?_ | refine AW_ret ?_)) | ((with_reducible refine gS ?_); refine Es_s (T := Try.tab) rfl rfl rfl rfl ?_) | (((with_reducible refine gS ?_); apply Es_q); rfl; rfl; (first | refine lstep_rem rfl rfl rfl (by decide) h5 rfl | refine LStep_call (cc) rfl rfl rfl rfl)) | (refine Es_skip rfl ?_ rfl ?_; (first | rfl | (refine w_tf ?_; assumption) | (refine w_ft ?_; assumption))) | (((with_reducible refine gS ?_); apply Es_xs); rfl; rfl; (first | refine LStep_boxN rfl rfl rfl rfl rfl rfl | refine LStep_allocN (T := Try.tab) rfl rfl rfl rfl rfl rfl); rfl) | (((with_reducible refine gS ?_); apply Es_xn); rfl; rfl; (refine LStep_storeN (T := Try.tab) rfl rfl rfl rfl rfl rfl rfl ?_ rfl; (refine Nat.le_of_ble_eq_true ?_; rfl)); rfl) | (with_reducible refine Es_nil ?_) | (with_reducible refine then_n ?_) | (with_reducible refine then_r ?_) | (with_reducible refine block_r ?_) | ((with_reducible refine gRG ?_); first | refine retGa rfl ?_ | refine retGb rfl ?_ | refine retGc rfl ?_ | refine retG1 rfl rfl ?_ | refine endG1 rfl rfl ?_))
    all_goals first
      | (exfalso; revert hc; decide)
      | rfl
  · obtain ⟨H', hd', cc⟩ := rtake_ac s H x.a x.b x.n hs hv hd hP hx
    have hS : doS s x = if takeE s x.a x.b x.n = 0 then takeS s x.a x.b x.n else s := by rw [doS, if_neg (by rw [h]; decide), if_neg (by rw [h]; decide), if_neg (by rw [h]; decide), if_pos h]
    have hE : takeE s x.a x.b x.n = doE s x := by rw [doE, if_neg (by rw [h]; decide), if_neg (by rw [h]; decide), if_neg (by rw [h]; decide), if_pos h]
    have hN : (0 : Int) = doN s x := by rw [doN, if_neg (by rw [h]; simp)]
    rw [hS, ← hE, ← hN]
    refine ⟨H', hd', ?_⟩
    rw [h] at h5
    refine AC_enterG Try.tab Try.func22 rfl Try.ntmps22 (rv := [.cell 4 45, .tmp 5, .tmp 6]) rfl rfl (by simp) (fun w X G => ?_)
    repeat' (first | ((with_reducible refine gA ?_); (first | refine AW_seq ?_ | refine AW_region ?_ | (refine AW_cond rfl (fun hc => ?_) (fun hc => ?_) <;> try (exfalso; simp only [cmpL] at hc; omega)) | refine AW_block ?_ | refine AW_ret ?_)) | ((with_reducible refine gS ?_); refine Es_s (T := Try.tab) rfl rfl rfl rfl ?_) | (((with_reducible refine gS ?_); apply Es_q); rfl; rfl; (first | refine lstep_rem rfl rfl rfl (by decide) h5 rfl | refine LStep_call (cc) rfl rfl rfl rfl)) | (refine Es_skip rfl ?_ rfl ?_; (first | rfl | (refine w_tf ?_; assumption) | (refine w_ft ?_; assumption))) | (((with_reducible refine gS ?_); apply Es_xs); rfl; rfl; (first | refine LStep_boxN rfl rfl rfl rfl rfl rfl | refine LStep_allocN (T := Try.tab) rfl rfl rfl rfl rfl rfl); rfl) | (((with_reducible refine gS ?_); apply Es_xn); rfl; rfl; (refine LStep_storeN (T := Try.tab) rfl rfl rfl rfl rfl rfl rfl ?_ rfl; (refine Nat.le_of_ble_eq_true ?_; rfl)); rfl) | (with_reducible refine Es_nil ?_) | (with_reducible refine then_n ?_) | (with_reducible refine then_r ?_) | (with_reducible refine block_r ?_) | ((with_reducible refine gRG ?_); first | refine retGa rfl ?_ | refine retGb rfl ?_ | refine retGc rfl ?_ | refine retG1 rfl rfl ?_ | refine endG1 rfl rfl ?_))
    all_goals first
      | (exfalso; revert hc; decide)
      | rfl
  · obtain ⟨H', hd', cc⟩ := rlet_ac s H x.a hs hd
    have hS : doS s x = letS s x.a := by rw [doS, if_neg (by rw [h]; decide), if_neg (by rw [h]; decide), if_neg (by rw [h]; decide), if_neg (by rw [h]; decide)]
    have hE : letE s x.a = doE s x := by rw [doE, if_neg (by rw [h]; decide), if_neg (by rw [h]; decide), if_neg (by rw [h]; decide), if_neg (by rw [h]; decide)]
    have hN : (0 : Int) = doN s x := by rw [doN, if_neg (by rw [h]; simp)]
    rw [hS, ← hE, ← hN]
    refine ⟨H', hd', ?_⟩
    rw [h] at h5
    refine AC_enterG Try.tab Try.func22 rfl Try.ntmps22 (rv := [.cell 4 45, .tmp 5, .tmp 6]) rfl rfl (by simp) (fun w X G => ?_)
    repeat' (first | ((with_reducible refine gA ?_); (first | refine AW_seq ?_ | refine AW_region ?_ | (refine AW_cond rfl (fun hc => ?_) (fun hc => ?_) <;> try (exfalso; simp only [cmpL] at hc; omega)) | refine AW_block ?_ | refine AW_ret ?_ | refine AW_skip ?_)) | ((with_reducible refine gS ?_); refine Es_s (T := Try.tab) rfl rfl rfl rfl ?_) | (((with_reducible refine gS ?_); apply Es_q); rfl; rfl; (first | refine lstep_rem rfl rfl rfl (by decide) h5 rfl | refine LStep_call (cc) rfl rfl rfl rfl)) | (refine Es_skip rfl ?_ rfl ?_; (first | rfl | (refine w_tf ?_; assumption) | (refine w_ft ?_; assumption))) | (((with_reducible refine gS ?_); apply Es_xs); rfl; rfl; (first | refine LStep_boxN rfl rfl rfl rfl rfl rfl | refine LStep_allocN (T := Try.tab) rfl rfl rfl rfl rfl rfl); rfl) | (((with_reducible refine gS ?_); apply Es_xn); rfl; rfl; (refine LStep_storeN (T := Try.tab) rfl rfl rfl rfl rfl rfl rfl ?_ rfl; (refine Nat.le_of_ble_eq_true ?_; rfl)); rfl) | (with_reducible refine Es_nil ?_) | (with_reducible refine then_n ?_) | (with_reducible refine block_n ?_) | ((with_reducible refine gRG ?_); first | refine retGa rfl ?_ | refine retGb rfl ?_ | refine retGc rfl ?_ | refine retG1 rfl rfl ?_ | refine endG1 rfl rfl ?_))
    all_goals first
      | (exfalso; revert hc; decide)
      | rfl
end Go.Proofs.Ytbekoielblcbmaa
