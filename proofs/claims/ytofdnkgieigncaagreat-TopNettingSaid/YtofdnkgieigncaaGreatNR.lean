import Derived.Test.YtofdnkgieigncaaGreatNN
import Derived.Test.YtofdnkgieigncaaGreatTq
namespace Go.Proofs.YtofdnkgieigncaaGreat
open Go.SL
/-! ### positions, Position, Same -/
theorem keyK2' : Tryz.tab.keyD 200 = some (.st [.string, .string]) := by kernel_rfl
theorem k2N_keyB (k : K2) : keyB (.st [.string, .string]) (k2V k) = true := rfl
theorem k2N_keys (l : List (K2 × Int)) : ∀ p ∈ emap k2V iV l, keyB (.st [.string, .string]) p.1 = true := emap_keys (q := fun v => keyB (.st [.string, .string]) v = true) k2N_keyB
theorem psM_bd {l : List Db} (hl : l.length ≤ 4096) (s : SK) : -4503599627370496 ≤ (aget s (psM (mF l))).getD 0 ∧ (aget s (psM (mF l))).getD 0 ≤ 4503599627370496 := by
  rw [(psM_spec (mF l)).2]
  exact psI_mF hl s
set_option maxRecDepth 10000 in
set_option maxHeartbeats 8000000 in
theorem positions_ac (l : List Db) (hl : l.length ≤ 4096) : AC Tryz.prog 49 [.d (.sl 4 (l.map dbE))] [] []
    (fun r h' => ∃ v : List (SK × Int), v.Perm (nzP (psM (mF l))) ∧ r = .own 2000 v.length ∧ SubH [(2000, some (.arr 34 3 (v.map enE)))] h') := by
  refine AC_enter Tryz.func49 rfl Tryz.ntmps49 (rv := [.tmp 2]) rfl rfl (by simp) (fun w X G => ?_)
  repeat' (first | ((with_reducible refine gA ?_); (first | refine AW_seq ?_ | refine AW_region ?_ | refine AW_block ?_)) | ((with_reducible refine gS ?_); refine Es_s (T := Tryz.tab) rfl rfl rfl rfl ?_) | (((with_reducible refine gS ?_); apply Es_xs); rfl; rfl; refine LStep_makeMapF (T := Tryz.tab) (kt := 200) rfl rfl rfl rfl rfl; rfl) | (((with_reducible refine gS ?_); apply Es_q); rfl; rfl; refine LStep_lenM (T := Tryz.tab) rfl rfl rfl rfl) | (with_reducible refine Es_nil ?_) | (with_reducible refine then_n ?_))
  refine AW_forE (S := Nat) (fun k => k ≤ l.length) (fun k => [(12, .d (.sc (.int .i64 (k : Nat))))]) (fun k => [(9, some (.mapF 200 2 (emap k2V iV (psM (mF (l.take k))))))]) (fun k => l.length - k) 0 (by omega) (by (repeat' (first | exact trivial | exact rfl | (refine ⟨Or.inl rfl, ?_⟩) | (refine ⟨Or.inr rfl, ?_⟩) | (refine ⟨Or.inr trivial, ?_⟩) | (refine ⟨rfl, ?_⟩) | (refine ⟨?_, ?_⟩)))) (by (repeat' (first | exact trivial | exact rfl | (refine ⟨Or.inl rfl, ?_⟩) | (refine ⟨Or.inr rfl, ?_⟩) | (refine ⟨Or.inr trivial, ?_⟩) | (refine ⟨rfl, ?_⟩) | (refine ⟨?_, ?_⟩)))) ?_
  intro k hk
  by_cases hlt : k < l.length
  · obtain ⟨x, hx, _⟩ := drop_at hlt
    have cm := may1_ac x
    have hm := mF_take hx
    have h3 := take_len_le l k
    have g0 : ltb (k : Nat) (l.length : Nat) = true := by rw [ltb_t]; omega
    cases hmay : mayD x with
    | false =>
      rw [hmay] at cm
      rw [hmay, if_neg (by decide), List.append_nil] at hm
      repeat' (first | ((with_reducible refine gA ?_); (first | refine AW_seq ?_ | refine AW_region ?_ | refine AW_condF rfl ?_ | (refine AW_condY rfl ?_ ?_; assumption) | refine AW_block ?_ | refine AW_skip ?_)) | ((with_reducible refine gS ?_); refine Es_s (T := Tryz.tab) rfl rfl rfl rfl ?_) | (((with_reducible refine gS ?_); apply Es_q); rfl; rfl; refine LStep_call (cm) rfl rfl rfl rfl) | (((with_reducible refine gS ?_); apply Es_q); rfl; rfl; (first | (refine LStep_add rfl rfl rfl rfl ?_; (refine IntWalk.i64_in _ ?_; first | omega | (simp only [cmps] at *; omega))) | (refine LStep_indexM (T := Tryz.tab) (c := ?_) rfl rfl rfl rfl rfl rfl ?_; rotate_left; assumption))) | (refine Es_skip rfl ?_ rfl ?_; (first | rfl | (refine w_tf ?_; assumption) | (refine w_ft ?_; assumption))) | (((with_reducible refine gS ?_); apply Es_xs); rfl; rfl; refine LStep_allocN (T := Tryz.tab) rfl rfl rfl rfl rfl rfl; rfl) | (((with_reducible refine gS ?_); apply Es_xn); rfl; rfl; (refine LStep_storeN (T := Tryz.tab) rfl rfl rfl rfl rfl rfl rfl ?_ rfl; (refine Nat.le_of_ble_eq_true ?_; rfl)); rfl) | (with_reducible refine Es_nil ?_) | (with_reducible refine then_n ?_) | (with_reducible refine block_n ?_))
      all_goals first
        | (refine ⟨k + 1, by omega, by omega, by (repeat' (first | exact trivial | exact rfl | (refine ⟨Or.inl rfl, ?_⟩) | (refine ⟨Or.inr rfl, ?_⟩) | (refine ⟨Or.inr trivial, ?_⟩) | (refine ⟨rfl, ?_⟩) | (refine ⟨?_, ?_⟩))), by (repeat' (first | exact trivial | exact rfl | (refine ⟨Or.inl rfl, ?_⟩) | (refine ⟨Or.inr rfl, ?_⟩) | (refine ⟨Or.inr trivial, ?_⟩) | (refine ⟨rfl, ?_⟩) | (refine ⟨?_, ?_⟩))), ?_, by (repeat' (first | exact trivial | exact rfl | (refine ⟨Or.inl rfl, ?_⟩) | (refine ⟨Or.inr rfl, ?_⟩) | (refine ⟨Or.inr trivial, ?_⟩) | (refine ⟨rfl, ?_⟩) | (refine ⟨?_, ?_⟩)))⟩; rw [hm]; (repeat' (first | exact trivial | exact rfl | (refine ⟨Or.inl rfl, ?_⟩) | (refine ⟨Or.inr rfl, ?_⟩) | (refine ⟨Or.inr trivial, ?_⟩) | (refine ⟨rfl, ?_⟩) | (refine ⟨?_, ?_⟩))); done)
        | trace_state
    | true =>
      rw [hmay] at cm
      rw [hmay, if_pos rfl] at hm
      have hd := mayD_t hmay
      have hb1 := psM_bd (l := l.take k) (by omega)
      have t1 := psM_snoc (mF (l.take k)) x
      rw [← hm] at t1
      obtain ⟨⟨xc, xf, xt⟩, n⟩ := x
      unfold psK at t1
      dsimp only at t1 hd
      unfold dbC at cm
      have b1 := hb1 (xf, xc)
      have b2 := hb1 (xt, xc)
      have hft : ¬ ((xf, xc) : K2) = (xt, xc) := fun e => hd.2.2.1 (Prod.mk.inj e).1
      have e2 : (aget (xt, xc) (aput (xf, xc) ((aget (xf, xc) (psM (mF (l.take k)))).getD 0 - n) (psM (mF (l.take k))))).getD 0 = (aget (xt, xc) (psM (mF (l.take k)))).getD 0 := by rw [aget_put, if_neg hft]
      rw [e2] at t1
      clear hb1 hm hmay
      generalize psM (mF (l.take k)) = m at *
      have f1 : (mfind (k2V (xf, xc)) (emap k2V iV m)).getD (iV 0) = iV ((aget (xf, xc) m).getD 0) := by rw [mfind_emap k2V_keq]; cases aget (xf, xc) m <;> rfl
      have f2 : (mfind (k2V (xf, xc)) (emap k2V iV (aput (xf, xc) ((aget (xf, xc) m).getD 0) m))).getD (iV 0) = iV ((aget (xf, xc) m).getD 0) := by rw [mfind_emap k2V_keq, aget_put, if_pos rfl]; rfl
      have f3 := mentry_emap (cv := iV) k2V_keq (xf, xc) 0 m
      have f4 : (emap k2V iV (aput (xf, xc) ((aget (xf, xc) m).getD 0) m))[aidx (xf, xc) m]? = some (k2V (xf, xc), iV ((aget (xf, xc) m).getD 0)) := by
        unfold emap; rw [List.getElem?_map, (aput_set (xf, xc) _ 0 m).2]; rfl
      have f5 : (emap k2V iV (aput (xf, xc) ((aget (xf, xc) m).getD 0) m)).set (aidx (xf, xc) m) (k2V (xf, xc), iV ((aget (xf, xc) m).getD 0 - n)) = emap k2V iV (aput (xf, xc) ((aget (xf, xc) m).getD 0 - n) m) := by
        rw [emap_set, (aput_set (xf, xc) _ _ m).1]
      generalize hv : (aget (xf, xc) m).getD 0 = v at *
      generalize hM1 : aput (xf, xc) (v - n) m = M1 at *
      generalize hv2 : (aget (xt, xc) m).getD 0 = v2 at *
      have hE1 : ∀ z : List (Value × AV), z = emap k2V iV M1 → ∀ p ∈ z, keyB (.st [.string, .string]) p.1 = true := fun z hz => by rw [hz]; exact k2N_keys _
      have hk1 := hE1 _ f5
      have j1 : (mfind (k2V (xt, xc)) ((emap k2V iV (aput (xf, xc) v m)).set (aidx (xf, xc) m) (k2V (xf, xc), iV (v - n)))).getD (iV 0) = iV v2 := by rw [f5, mfind_emap k2V_keq]; revert e2; cases aget (xt, xc) M1 <;> intro e2 <;> simp at e2 <;> subst e2 <;> rfl
      have j2 : (mfind (k2V (xt, xc)) (emap k2V iV (aput (xt, xc) v2 M1))).getD (iV 0) = iV v2 := by rw [mfind_emap k2V_keq, aget_put, if_pos rfl]; rfl
      have j3 : mentry (k2V (xt, xc)) (iV 0) ((emap k2V iV (aput (xf, xc) v m)).set (aidx (xf, xc) m) (k2V (xf, xc), iV (v - n))) = (iV v2, aidx (xt, xc) M1, emap k2V iV (aput (xt, xc) v2 M1)) := by rw [f5, mentry_emap k2V_keq, e2]
      have j4 : (emap k2V iV (aput (xt, xc) v2 M1))[aidx (xt, xc) M1]? = some (k2V (xt, xc), iV v2) := by
        unfold emap; rw [List.getElem?_map, (aput_set (xt, xc) _ 0 M1).2]; rfl
      have j5 : (emap k2V iV (aput (xt, xc) v2 M1)).set (aidx (xt, xc) M1) (k2V (xt, xc), iV (v2 + n)) = emap k2V iV (psM (mF (l.take (k + 1)))) := by
        rw [emap_set, (aput_set (xt, xc) _ _ M1).1, t1]
      repeat' (first | ((with_reducible refine gA ?_); refine AW_regionG' (id := 6) 6 10 9 (.mapF 200 2 (emap k2V iV (aput (xf, xc) v m))) Tryz.mixed ?_) | ((with_reducible refine gA ?_); refine AW_regionG' (id := 7) 6 10 9 (.mapF 200 2 (emap k2V iV (aput (xt, xc) v2 M1))) Tryz.mixed ?_) | ((with_reducible refine gG ?_); first | (refine Eg_q rfl rfl rfl (LStep_simp (T := Tryz.tab) rfl rfl) ?_) | (refine Eg_q rfl rfl rfl (LStep_buildN (T := Tryz.tab) rfl rfl rfl rfl rfl rfl rfl) ?_) | (refine Eg_q rfl rfl rfl (LStep_add rfl rfl rfl rfl ?_) ?_; (refine IntWalk.i64_in _ ?_; omega)) | (refine Eg_q rfl rfl rfl (LStep_sub rfl rfl rfl rfl ?_) ?_; (refine IntWalk.i64_in _ ?_; omega)) | (refine Eg_r rfl rfl rfl (LStep_lookupF (T := Tryz.tab) rfl rfl rfl keyK2' rfl rfl rfl rfl rfl rfl (k2N_keys _) f1) (LStep_lookupF (T := Tryz.tab) rfl rfl rfl keyK2' rfl rfl rfl rfl rfl rfl (k2N_keys _) f2) ?_) | (refine Eg_r rfl rfl rfl (LStep_lookupF (T := Tryz.tab) rfl rfl rfl keyK2' rfl rfl rfl rfl rfl rfl hk1 j1) (LStep_lookupF (T := Tryz.tab) rfl rfl rfl keyK2' rfl rfl rfl rfl rfl rfl (k2N_keys _) j2) ?_) | (refine Eg_x rfl rfl rfl (LStep_mapEntry (T := Tryz.tab) rfl rfl rfl keyK2' rfl rfl rfl rfl rfl rfl (k2N_keys _) f3) rfl ?_) | (refine Eg_x rfl rfl rfl (LStep_mapEntry (T := Tryz.tab) rfl rfl rfl keyK2' rfl rfl rfl rfl rfl rfl hk1 j3) rfl ?_) | (refine Eg_n rfl rfl rfl (LStep_entryStore rfl rfl rfl rfl rfl rfl rfl f4) rfl ?_) | (refine Eg_n rfl rfl rfl (LStep_entryStore rfl rfl rfl rfl rfl rfl rfl j4) rfl ?_)) | (refine Eg_nil (by kernel_rfl) (by kernel_rfl) ⟨_, rfl, rfl, List.mem_cons_self⟩ ?_) | ((with_reducible refine gA ?_); (first | refine AW_seq ?_ | refine AW_region ?_ | refine AW_condT rfl ?_ | (refine AW_condY rfl ?_ ?_; assumption) | refine AW_block ?_ | refine AW_skip ?_)) | ((with_reducible refine gS ?_); refine Es_s (T := Tryz.tab) rfl rfl rfl rfl ?_) | (((with_reducible refine gS ?_); apply Es_q); rfl; rfl; refine LStep_call (cm) rfl rfl rfl rfl) | (((with_reducible refine gS ?_); apply Es_q); rfl; rfl; (first | (refine LStep_add rfl rfl rfl rfl ?_; (refine IntWalk.i64_in _ ?_; first | omega | (simp only [cmps] at *; omega))) | (refine LStep_indexM (T := Tryz.tab) (c := ?_) rfl rfl rfl rfl rfl rfl ?_; rotate_left; assumption))) | (refine Es_skip rfl ?_ rfl ?_; (first | rfl | (refine w_tf ?_; assumption) | (refine w_ft ?_; assumption))) | (((with_reducible refine gS ?_); apply Es_xs); rfl; rfl; refine LStep_allocN (T := Tryz.tab) rfl rfl rfl rfl rfl rfl; rfl) | (((with_reducible refine gS ?_); apply Es_xn); rfl; rfl; (refine LStep_storeN (T := Tryz.tab) rfl rfl rfl rfl rfl rfl rfl ?_ rfl; (refine Nat.le_of_ble_eq_true ?_; rfl)); rfl) | (with_reducible refine Es_nil ?_) | (with_reducible refine then_n ?_) | (with_reducible refine block_n ?_))
      all_goals first
        | (refine ⟨k + 1, by omega, by omega, by (repeat' (first | exact trivial | exact rfl | (refine ⟨Or.inl rfl, ?_⟩) | (refine ⟨Or.inr rfl, ?_⟩) | (refine ⟨Or.inr trivial, ?_⟩) | (refine ⟨rfl, ?_⟩) | (refine ⟨?_, ?_⟩))), by (repeat' (first | exact trivial | exact rfl | (refine ⟨Or.inl rfl, ?_⟩) | (refine ⟨Or.inr rfl, ?_⟩) | (refine ⟨Or.inr trivial, ?_⟩) | (refine ⟨rfl, ?_⟩) | (refine ⟨?_, ?_⟩))), ?_, by (repeat' (first | exact trivial | exact rfl | (refine ⟨Or.inl rfl, ?_⟩) | (refine ⟨Or.inr rfl, ?_⟩) | (refine ⟨Or.inr trivial, ?_⟩) | (refine ⟨rfl, ?_⟩) | (refine ⟨?_, ?_⟩)))⟩
           rw [← j5]; (repeat' (first | exact trivial | exact rfl | (refine ⟨Or.inl rfl, ?_⟩) | (refine ⟨Or.inr rfl, ?_⟩) | (refine ⟨Or.inr trivial, ?_⟩) | (refine ⟨rfl, ?_⟩) | (refine ⟨?_, ?_⟩))))
        | trace_state
  · have : k = l.length := by omega
    subst this
    have g0 : ltb (l.length : Nat) (l.length : Nat) = false := by rw [ltb_f]; omega
    rw [List.take_length]
    have hnd := (psM_spec (mF l)).1
    have hlen := psM_len (mF l)
    have hml := mF_len l
    generalize psM (mF l) = M at *
    have hkA := emap_nodup (cv := iV) k2V_inj hnd
    repeat' (first | ((with_reducible refine gA ?_); refine AW_unF (m := 9) rfl ?_) | ((with_reducible refine gA ?_); (first | refine AW_seq ?_ | refine AW_region ?_ | (refine AW_condN rfl ?_ ?_; assumption) | refine AW_block ?_ | refine AW_exit ?_)) | ((with_reducible refine gS ?_); refine Es_s (T := Tryz.tab) rfl rfl rfl rfl ?_) | (((with_reducible refine gS ?_); apply Es_xg); rfl; rfl; refine LStep_range (T := Tryz.tab) rfl rfl rfl rfl rfl rfl rfl; rfl) | (with_reducible refine Es_nil ?_) | (with_reducible refine then_n ?_) | (with_reducible refine then_e ?_) | ((with_reducible refine block_e ?_ ?_); rfl))
    refine AW_openNil (t := 6) (id := 2000) (e := 34) (sz := 3) rfl rfl rfl rfl ?_
    refine AW_forE (S := List (SK × Int) × List (SK × Int) × Option Value) (fun t => (t.2.1 ++ t.1).Perm M) (fun t => [(6, .own 2000 (nzP t.2.1).length)])
      (fun t => [(9, some (.map 200 2 (emap k2V iV M) (some (44, (emap k2V iV t.1).map (·.1), t.2.2)))), (2000, some (.arr 34 3 ((nzP t.2.1).map enE)))]) (fun s => s.1.length) (M, [], none) (List.Perm.refl _) (by (repeat' (first | exact trivial | exact rfl | (refine ⟨Or.inl rfl, ?_⟩) | (refine ⟨Or.inr rfl, ?_⟩) | (refine ⟨Or.inr trivial, ?_⟩) | (refine ⟨rfl, ?_⟩) | (refine ⟨?_, ?_⟩)))) (by (repeat' (first | exact trivial | exact rfl | (refine ⟨Or.inl rfl, ?_⟩) | (refine ⟨Or.inr rfl, ?_⟩) | (refine ⟨Or.inr trivial, ?_⟩) | (refine ⟨rfl, ?_⟩) | (refine ⟨?_, ?_⟩)))) ?_
    intro ⟨mt, acc, cur⟩ hp
    dsimp only at hp ⊢
    have hla : acc.length ≤ 8192 := by have := hp.length_eq; simp only [List.length_append] at this; omega
    have hnz : (nzP acc).length ≤ acc.length := List.length_filter_le _ _
    have hn3 : ((emap k2V iV mt).map (·.1)).Nodup := by
      have h1 : (emap k2V iV (acc ++ mt)).Perm (emap k2V iV M) := hp.map _
      have h2 := (h1.map (·.1)).nodup_iff.2 hkA
      rw [etodo_join, List.nodup_append] at h2
      exact h2.2.1
    refine AW_seq ?_
    refine AW_region ?_
    refine Es_next 9 rfl rfl rfl rfl rfl rfl hkA hn3 (fun h0 => ?_) (fun pre k post h0 => ?_)
    rotate_left
    · obtain ⟨a, p, b, rfl, rfl, rfl, rfl⟩ := etodo_split h0
      have hpm : p ∈ M := hp.mem_iff.1 (by simp)
      have hmem : (k2V p.1, iV p.2) ∈ emap k2V iV M := List.mem_map.2 ⟨p, hpm, rfl⟩
      obtain ⟨⟨pp, pc⟩, n⟩ := p
      by_cases hz : n = 0
      · subst hz
        have hF : nzP (acc ++ [((pp, pc), 0)]) = nzP acc := by unfold nzP; rw [List.filter_append]; simp
        have e0 : eqb 0 0 = true := by rw [eqb_t]
        repeat' (first | ((with_reducible refine gA ?_); (first | refine AW_seq ?_ | refine AW_region ?_ | refine AW_condT rfl ?_ | (refine AW_cond rfl (fun hc => ?_) (fun hc => ?_) <;> try (exfalso; simp only [cmpL] at hc; omega)) | refine AW_block ?_ | refine AW_skip ?_)) | ((with_reducible refine gS ?_); refine Es_s (T := Tryz.tab) rfl rfl rfl rfl ?_) | (((with_reducible refine gS ?_); apply Es_q); rfl; rfl; refine LStep_entry (kav := .agg [.d (.sc (.string pp)), .d (.sc (.string pc))]) 9 hmem rfl rfl rfl rfl hkA (k2_rep (pp, pc))) | (refine Es_skip rfl ?_ rfl ?_; (first | rfl | (refine w_tf ?_; assumption) | (refine w_ft ?_; assumption))) | (((with_reducible refine gS ?_); apply Es_xs); rfl; rfl; refine LStep_allocN (T := Tryz.tab) rfl rfl rfl rfl rfl rfl; rfl) | (((with_reducible refine gS ?_); apply Es_xn); rfl; rfl; (refine LStep_storeN (T := Tryz.tab) rfl rfl rfl rfl rfl rfl rfl ?_ rfl; (refine Nat.le_of_ble_eq_true ?_; rfl)); rfl) | (with_reducible refine Es_nil ?_) | (with_reducible refine then_n ?_) | (with_reducible refine block_n ?_))
        all_goals try simp only [cmps] at *
        all_goals first
          | (exfalso; omega)
          | (exfalso; contradiction)
          | (refine ⟨(a ++ b, acc ++ [((pp, pc), 0)], some (k2V (pp, pc))), perm_midN hp, by simp, ?_, by (repeat' (first | exact trivial | exact rfl | (refine ⟨Or.inl rfl, ?_⟩) | (refine ⟨Or.inr rfl, ?_⟩) | (refine ⟨Or.inr trivial, ?_⟩) | (refine ⟨rfl, ?_⟩) | (refine ⟨?_, ?_⟩))), ?_, by (repeat' (first | exact trivial | exact rfl | (refine ⟨Or.inl rfl, ?_⟩) | (refine ⟨Or.inr rfl, ?_⟩) | (refine ⟨Or.inr trivial, ?_⟩) | (refine ⟨rfl, ?_⟩) | (refine ⟨?_, ?_⟩)))⟩ <;> dsimp only <;> rw [hF] <;> (try rw [etodo_join]) <;> (repeat' (first | exact trivial | exact rfl | (refine ⟨Or.inl rfl, ?_⟩) | (refine ⟨Or.inr rfl, ?_⟩) | (refine ⟨Or.inr trivial, ?_⟩) | (refine ⟨rfl, ?_⟩) | (refine ⟨?_, ?_⟩))); done)
          | trace_state
      · have hF : nzP (acc ++ [((pp, pc), n)]) = nzP acc ++ [((pp, pc), n)] := by unfold nzP; rw [List.filter_append]; simp [hz]
        have hE : (nzP (acc ++ [((pp, pc), n)])).map enE = (nzP acc).map enE ++ [[.sc (.string pp), .sc (.string pc), .sc (.int .i64 n)]] := by rw [hF, List.map_append]; rfl
        have hL : (nzP (acc ++ [((pp, pc), n)])).length = ((nzP acc).map enE ++ [[D.sc (.string pp), D.sc (.string pc), D.sc (.int .i64 n)]]).length := by rw [hF]; simp
        repeat' (first | ((with_reducible refine gA ?_); (first | refine AW_seq ?_ | refine AW_region ?_ | refine AW_condT rfl ?_ | (refine AW_cond rfl (fun hc => ?_) (fun hc => ?_) <;> try (exfalso; simp only [cmpL] at hc; omega)) | refine AW_block ?_ | refine AW_skip ?_)) | ((with_reducible refine gS ?_); refine Es_s (T := Tryz.tab) rfl rfl rfl rfl ?_) | (((with_reducible refine gS ?_); apply Es_q); rfl; rfl; refine LStep_entry (kav := .agg [.d (.sc (.string pp)), .d (.sc (.string pc))]) 9 hmem rfl rfl rfl rfl hkA (k2_rep (pp, pc))) | (((with_reducible refine gS ?_); apply Es_xs); rfl; rfl; (refine LStep_append (T := Tryz.tab) rfl rfl rfl rfl rfl rfl rfl rfl rfl rfl ?_ ?_ ?_; exact (List.length_map _).symm; (rw [List.length_map]; simp only [List.length_cons, List.length_nil]; omega); (unfold maxLen; rw [List.length_map]; simp only [List.length_cons, List.length_nil]; omega)); rfl) | (((with_reducible refine gS ?_); apply Es_q); rfl; rfl; (first | (refine LStep_lit (T := Tryz.tab) rfl rfl rfl rfl rfl rfl rfl rfl ?_; (refine Nat.le_of_ble_eq_true ?_; rfl)) | refine LStep_buildN (T := Tryz.tab) rfl rfl rfl rfl rfl rfl rfl)) | (refine Es_skip rfl ?_ rfl ?_; (first | rfl | (refine w_tf ?_; assumption) | (refine w_ft ?_; assumption))) | (((with_reducible refine gS ?_); apply Es_xs); rfl; rfl; refine LStep_allocN (T := Tryz.tab) rfl rfl rfl rfl rfl rfl; rfl) | (((with_reducible refine gS ?_); apply Es_xn); rfl; rfl; (refine LStep_storeN (T := Tryz.tab) rfl rfl rfl rfl rfl rfl rfl ?_ rfl; (refine Nat.le_of_ble_eq_true ?_; rfl)); rfl) | (with_reducible refine Es_nil ?_) | (with_reducible refine then_n ?_) | (with_reducible refine block_n ?_))
        all_goals try simp only [cmps] at *
        all_goals first
          | (exfalso; omega)
          | (exfalso; contradiction)
          | (refine ⟨(a ++ b, acc ++ [((pp, pc), n)], some (k2V (pp, pc))), perm_midN hp, by simp, ?_, by (repeat' (first | exact trivial | exact rfl | (refine ⟨Or.inl rfl, ?_⟩) | (refine ⟨Or.inr rfl, ?_⟩) | (refine ⟨Or.inr trivial, ?_⟩) | (refine ⟨rfl, ?_⟩) | (refine ⟨?_, ?_⟩))), ?_, by (repeat' (first | exact trivial | exact rfl | (refine ⟨Or.inl rfl, ?_⟩) | (refine ⟨Or.inr rfl, ?_⟩) | (refine ⟨Or.inr trivial, ?_⟩) | (refine ⟨rfl, ?_⟩) | (refine ⟨?_, ?_⟩)))⟩
             · dsimp only; rw [hL]; (repeat' (first | exact trivial | exact rfl | (refine ⟨Or.inl rfl, ?_⟩) | (refine ⟨Or.inr rfl, ?_⟩) | (refine ⟨Or.inr trivial, ?_⟩) | (refine ⟨rfl, ?_⟩) | (refine ⟨?_, ?_⟩)))
             · dsimp only; rw [etodo_join, hE]; (repeat' (first | exact trivial | exact rfl | (refine ⟨Or.inl rfl, ?_⟩) | (refine ⟨Or.inr rfl, ?_⟩) | (refine ⟨Or.inr trivial, ?_⟩) | (refine ⟨rfl, ?_⟩) | (refine ⟨?_, ?_⟩))))
          | trace_state
    have hm0 := etodo_nil h0
    subst hm0
    rw [List.append_nil] at hp
    repeat' (first | ((with_reducible refine gRc ?_); refine AW_noIt 9 rfl ?_) | ((with_reducible refine gA ?_); (first | refine AW_seq ?_ | refine AW_region ?_ | refine AW_condF rfl ?_ | refine AW_ret ?_ | refine AW_exit ?_)) | ((with_reducible refine gS ?_); refine Es_s (T := Tryz.tab) rfl rfl rfl rfl ?_) | (with_reducible refine Es_nil ?_) | (with_reducible refine then_n ?_) | (with_reducible refine then_e ?_) | ((with_reducible refine block_e ?_ ?_); rfl) | ((with_reducible refine gR ?_); first | refine ret1 rfl ?_ | refine ret2 rfl rfl ?_ | refine ret0 ?_ | refine end1 rfl ?_ | refine end0 ?_))
    all_goals first
      | exact ⟨nzP acc, hp.filter _, rfl, rfl, trivial⟩
      | trace_state
end Go.Proofs.YtofdnkgieigncaaGreat
namespace Go.Proofs.YtofdnkgieigncaaGreat
open Go.SL
theorem nz_uniq {l : List Db} {v : List (SK × Int)} (hv : v.Perm (nzP (psM l))) : ∀ x ∈ v, ∀ y ∈ v, x.1 = y.1 → x = y := fun x hx y hy e => by
  have h1 := (posN_mem l x).1 ((pos_perm hv).1.mem_iff.2 hx)
  have h2 := (posN_mem l y).1 ((pos_perm hv).1.mem_iff.2 hy)
  exact Prod.ext e (by rw [← h1.1, ← h2.1, e])
theorem sortN_ac (l : List Db) (v : List (SK × Int)) (hv : v.Perm (nzP (psM l))) (hn : v.length ≤ 1048576) : AC Tryz.prog 50 [.own 1000 v.length, .fn 111 []] (H0 34 3 (v.map enE)) [1000] (fun r h' => r = .tup [] ∧ SubH (H0 34 3 ((posN l).map enE)) h') :=
  sortFunc_ac Tryz.sortEntries 3 Tryz.isAgg34 Tryz.sizeOf34 (callable_of Tryz.func50 rfl rfl) (callable_of Tryz.func111 rfl rfl)
    34 v.length (v.map enE) ((posN l).map enE) cmpEn swoEn (List.length_map _).symm (by rw [List.length_map]; omega)
    (fun x hx y hy => by
      obtain ⟨p, _, rfl⟩ := List.mem_map.1 hx
      obtain ⟨q, _, rfl⟩ := List.mem_map.1 hy
      exact position1_ac p q)
    ((pos_perm hv).1.map _) (List.pairwise_map.2 ((posN_sorted l).imp (fun h => by rw [ltOf_en]; exact ltN_asymm h)))
    (fun x hx y hy h1 h2 => by
      obtain ⟨p, hp1, rfl⟩ := List.mem_map.1 hx
      obtain ⟨q, hq1, rfl⟩ := List.mem_map.1 hy
      rw [ltOf_en] at h1 h2
      rw [nz_uniq hv p hp1 q hq1 (ltN_tri h1 h2)])
theorem sw_inj {a b : SK} (h : swK a = swK b) : a = b := Prod.ext (congrArg (fun x : SK => x.2) h) (congrArg (fun x : SK => x.1) h)
theorem sortC_ac (l : List Db) (v : List (SK × Int)) (hv : v.Perm (nzP (psM l))) (hn : v.length ≤ 1048576) : AC Tryz.prog 50 [.own 1000 v.length, .fn 51 []] (H0 34 3 (v.map enE)) [1000] (fun r h' => r = .tup [] ∧ SubH (H0 34 3 ((posC l).map enE)) h') :=
  sortFunc_ac Tryz.sortEntries 3 Tryz.isAgg34 Tryz.sizeOf34 (callable_of Tryz.func50 rfl rfl) (callable_of Tryz.func51 rfl rfl)
    34 v.length (v.map enE) ((posC l).map enE) cmpEc swoEc (List.length_map _).symm (by rw [List.length_map]; omega)
    (fun x hx y hy => by
      obtain ⟨p, _, rfl⟩ := List.mem_map.1 hx
      obtain ⟨q, _, rfl⟩ := List.mem_map.1 hy
      exact net1_ac p q)
    ((pos_perm hv).2.map _) (List.pairwise_map.2 ((posC_sorted l).imp (fun h => by rw [ltOf_ec, ltC_sw]; exact ltN_asymm h)))
    (fun x hx y hy h1 h2 => by
      obtain ⟨p, hp1, rfl⟩ := List.mem_map.1 hx
      obtain ⟨q, hq1, rfl⟩ := List.mem_map.1 hy
      rw [ltOf_ec, ltC_sw] at h1 h2
      rw [nz_uniq hv p hp1 q hq1 (sw_inj (ltN_tri h1 h2))])
theorem nz_len {l : List Db} {v : List (SK × Int)} (hv : v.Perm (nzP (psM l))) : v.length ≤ 2 * l.length := by
  rw [hv.length_eq]
  exact Nat.le_trans (List.length_filter_le _ _) (psM_len l)
set_option maxRecDepth 10000 in
set_option maxHeartbeats 4000000 in
theorem position_ac (l : List Db) (hl : l.length ≤ 4096) : AC Tryz.prog 59 [.d (.sl 4 (l.map dbE))] [] [] (fun r _ => r = .d (.sl 3 ((posN (mF l)).map enE))) := by
  have hml := mF_len l
  refine AC_enter Tryz.func59 rfl Tryz.ntmps59 (rv := [.tmp 2]) rfl rfl (by simp) (fun w X G => ?_)
  repeat' (first | ((with_reducible refine gS ?_); refine Es_callExN (ι := List (SK × Int)) (I := fun v => v.Perm (nzP (psM (mF l)))) (hr := fun v => [(2000, some (.arr 34 3 (v.map enE)))]) (rv := fun v => .own 2000 v.length) (fun v => [(5, some (.arr 34 3 (v.map enE)))]) (fun v => .own 5 v.length) [] [] [(2000, 5)] (positions_ac l hl) rfl rfl rfl rfl trivial rfl (fun v _ => rfl) (fun v _ => trivial) rfl (fun v => rfl) (fun v => rfl) (fun v hv => ?_)) | ((with_reducible refine gA ?_); (first | refine AW_seq ?_ | refine AW_region ?_)) | ((with_reducible refine gS ?_); refine Es_s (T := Tryz.tab) rfl rfl rfl rfl ?_) | (refine Es_skip rfl ?_ rfl ?_; (first | rfl | (refine w_tf ?_; assumption) | (refine w_ft ?_; assumption))) | (with_reducible refine Es_nil ?_) | (with_reducible refine then_n ?_))
  have hnl := nz_len hv
  have cv := sortN_ac (mF l) v hv (by omega)
  have hl2 : ((posN (mF l)).map enE).length = v.length := by rw [List.length_map]; exact (pos_perm hv).1.length_eq
  have hll : (v.map enE).length = ((posN (mF l)).map enE).length := by rw [hl2, List.length_map]
  repeat' (first | ((with_reducible refine gRc ?_); refine AW_freeze [2] (id := 5) ⟨rfl, trivial⟩ rfl hl2 ?_) | ((with_reducible refine gA ?_); (first | refine AW_seq ?_ | refine AW_region ?_ | refine AW_ret ?_)) | ((with_reducible refine gS ?_); refine Es_s (T := Tryz.tab) rfl rfl rfl rfl ?_) | (((with_reducible refine gS ?_); apply Es_xg); rfl; rfl; refine LStep_callHN [(1000, 5)] [] cv rfl rfl ⟨rfl, trivial⟩ rfl ⟨hll, trivial⟩ rfl rfl; rfl) | (with_reducible refine Es_nil ?_) | (with_reducible refine then_n ?_) | ((with_reducible refine gR ?_); first | refine ret1 rfl ?_ | refine ret2 rfl rfl ?_ | refine ret0 ?_ | refine end1 rfl ?_ | refine end0 ?_))
  all_goals first
    | rfl
    | trace_state
set_option maxRecDepth 10000 in
theorem equalE_ac (a b : List (SK × Int)) (ha : a.length ≤ 140737488351232) : AC Tryz.prog 58 [.d (.sl 3 (a.map enE)), .d (.sl 3 (b.map enE))] [] [] (fun r _ => r = .d (.sc (.bool (entB a b)))) := by
  unfold entB
  refine AC_enter Tryz.func58 rfl Tryz.ntmps58 (rv := [.tmp 4]) rfl rfl (by simp) (fun w X G => ?_)
  repeat' (first | ((with_reducible refine gA ?_); (first | refine AW_seq ?_ | refine AW_region ?_ | (refine AW_cond rfl (fun hc => ?_) (fun hc => ?_) <;> try (exfalso; simp only [cmpL] at hc; omega)) | refine AW_block ?_ | refine AW_ret ?_ | refine AW_skip ?_)) | ((with_reducible refine gS ?_); refine Es_s (T := Tryz.tab) rfl rfl rfl rfl ?_) | (((with_reducible refine gS ?_); apply Es_q); rfl; rfl; refine LStep_lenM (T := Tryz.tab) rfl rfl rfl rfl) | (with_reducible refine Es_nil ?_) | (with_reducible refine then_n ?_) | (with_reducible refine then_r ?_) | ((with_reducible refine gR ?_); first | refine ret1 rfl ?_ | refine ret2 rfl rfl ?_ | refine ret0 ?_ | refine end1 rfl ?_ | refine end0 ?_))
  all_goals simp only [cmps] at *
  · refine congrArg (fun b => AV.d (D.sc (Value.bool b))) ?_; rw [leqL_len (by omega)]
  have hl : a.length = b.length := by omega
  refine AW_forE (S := Nat) (fun k => k ≤ a.length ∧ leqL enQ a b = leqL enQ (a.drop k) (b.drop k)) (fun k => [(13, .d (.sc (.int .i64 (k : Nat))))]) (fun _ => []) (fun k => a.length - k) 0 ⟨by omega, rfl⟩ (by (repeat' (first | exact trivial | exact rfl | (refine ⟨Or.inl rfl, ?_⟩) | (refine ⟨Or.inr rfl, ?_⟩) | (refine ⟨Or.inr trivial, ?_⟩) | (refine ⟨rfl, ?_⟩) | (refine ⟨?_, ?_⟩)))) (by (repeat' (first | exact trivial | exact rfl | (refine ⟨Or.inl rfl, ?_⟩) | (refine ⟨Or.inr rfl, ?_⟩) | (refine ⟨Or.inr trivial, ?_⟩) | (refine ⟨rfl, ?_⟩) | (refine ⟨?_, ?_⟩)))) ?_
  intro k ⟨hk, hf⟩
  by_cases hlt : k < a.length
  · obtain ⟨x, hx, hd⟩ := drop_at hlt
    obtain ⟨y, hy, hd'⟩ := drop_at (show k < b.length by omega)
    rw [hd, hd', leqL] at hf
    have hlb : k < b.length := by omega
    repeat' (first | ((with_reducible refine gA ?_); (first | refine AW_seq ?_ | refine AW_region ?_ | refine AW_regionD Tryz.mixed ?_ | (refine AW_cond rfl (fun hc => ?_) (fun hc => ?_) <;> try (exfalso; simp only [cmpL] at hc; omega)) | refine AW_block ?_ | refine AW_ret ?_ | refine AW_skip ?_)) | (first | ((with_reducible refine gS ?_); refine Es_s (T := Tryz.tab) rfl rfl rfl rfl ?_) | ((with_reducible refine gD ?_); refine Ed_s (T := Tryz.tab) rfl rfl rfl rfl ?_)) | ((first | ((with_reducible refine gS ?_); apply Es_q) | ((with_reducible refine gD ?_); apply Ed_q)); rfl; rfl; refine LStep_neqAgg (T := Tryz.tab) eqS_en eqG_en (by omega) rfl rfl rfl rfl rfl rfl) | ((first | ((with_reducible refine gS ?_); apply Es_q) | ((with_reducible refine gD ?_); apply Ed_q)); rfl; rfl; (first | (refine LStep_add rfl rfl rfl rfl ?_; (refine IntWalk.i64_in _ ?_; first | omega | (simp only [cmps] at *; omega))) | (refine LStep_indexM (T := Tryz.tab) (c := ?_) rfl rfl rfl rfl rfl rfl ?_; rotate_left; assumption))) | (with_reducible refine Es_nil ?_) | ((with_reducible refine Ed_nil ?_ ?_); kernel_rfl) | (with_reducible refine then_n ?_) | (with_reducible refine then_r ?_) | (with_reducible refine block_n ?_) | (with_reducible refine block_r ?_) | ((with_reducible refine gR ?_); first | refine ret1 rfl ?_ | refine ret2 rfl rfl ?_ | refine ret0 ?_ | refine end1 rfl ?_ | refine end0 ?_))
    all_goals simp only [not_t, not_f] at *
    · have h : enQ x y = false := by assumption
      refine congrArg (fun b => AV.d (D.sc (Value.bool b))) ?_; rw [hf, h]; rfl
    · have h : enQ x y = true := by assumption
      refine ⟨k + 1, ?_, by omega, by (repeat' (first | exact trivial | exact rfl | (refine ⟨Or.inl rfl, ?_⟩) | (refine ⟨Or.inr rfl, ?_⟩) | (refine ⟨Or.inr trivial, ?_⟩) | (refine ⟨rfl, ?_⟩) | (refine ⟨?_, ?_⟩))), by (repeat' (first | exact trivial | exact rfl | (refine ⟨Or.inl rfl, ?_⟩) | (refine ⟨Or.inr rfl, ?_⟩) | (refine ⟨Or.inr trivial, ?_⟩) | (refine ⟨rfl, ?_⟩) | (refine ⟨?_, ?_⟩))), by (repeat' (first | exact trivial | exact rfl | (refine ⟨Or.inl rfl, ?_⟩) | (refine ⟨Or.inr rfl, ?_⟩) | (refine ⟨Or.inr trivial, ?_⟩) | (refine ⟨rfl, ?_⟩) | (refine ⟨?_, ?_⟩))), by (repeat' (first | exact trivial | exact rfl | (refine ⟨Or.inl rfl, ?_⟩) | (refine ⟨Or.inr rfl, ?_⟩) | (refine ⟨Or.inr trivial, ?_⟩) | (refine ⟨rfl, ?_⟩) | (refine ⟨?_, ?_⟩)))⟩; exact ⟨by omega, by rw [hf, h, Bool.true_and]⟩
  · have : k = a.length := by omega
    subst this
    have e : b.drop a.length = [] := by rw [hl]; exact List.drop_length
    rw [drop_end, e, leqL] at hf
    repeat' (first | ((with_reducible refine gA ?_); (first | refine AW_seq ?_ | refine AW_region ?_ | (refine AW_cond rfl (fun hc => ?_) (fun hc => ?_) <;> try (exfalso; simp only [cmpL] at hc; omega)) | refine AW_ret ?_ | refine AW_exit ?_)) | ((with_reducible refine gS ?_); refine Es_s (T := Tryz.tab) rfl rfl rfl rfl ?_) | (with_reducible refine Es_nil ?_) | (with_reducible refine then_n ?_) | (with_reducible refine then_e ?_) | ((with_reducible refine block_e ?_ ?_); rfl) | ((with_reducible refine gR ?_); first | refine ret1 rfl ?_ | refine ret2 rfl rfl ?_ | refine ret0 ?_ | refine end1 rfl ?_ | refine end0 ?_))
    refine congrArg (fun b => AV.d (D.sc (Value.bool b))) ?_; rw [hf]
def sameP (a b : List Db) : Bool := entB (posN (mF a)) (posN (mF b))
set_option maxRecDepth 10000 in
theorem same_ac (a b : List Db) (ha : a.length ≤ 4096) (hb : b.length ≤ 4096) : AC Tryz.prog 17 [.d (.sl 4 (a.map dbE)), .d (.sl 4 (b.map dbE))] [] [] (fun r _ => r = .d (.sc (.bool (sameP a b)))) := by
  have c1 := position_ac a ha
  have c2 := position_ac b hb
  have hl := @posN_len (mF a)
  have hl2 := mF_len a
  have c3 := equalE_ac (posN (mF a)) (posN (mF b)) (by omega)
  refine AC_enter Tryz.func17 rfl Tryz.ntmps17 (rv := [.tmp 4]) rfl rfl (by simp) (fun w X G => ?_)
  repeat' (first | ((with_reducible refine gA ?_); (first | refine AW_seq ?_ | refine AW_region ?_ | refine AW_ret ?_)) | ((with_reducible refine gS ?_); refine Es_s (T := Tryz.tab) rfl rfl rfl rfl ?_) | (((with_reducible refine gS ?_); apply Es_q); rfl; rfl; (first | refine LStep_call (c1) rfl rfl rfl rfl | refine LStep_call (c2) rfl rfl rfl rfl | refine LStep_call (c3) rfl rfl rfl rfl)) | (with_reducible refine Es_nil ?_) | (with_reducible refine then_n ?_) | ((with_reducible refine gR ?_); first | refine ret1 rfl ?_ | refine ret2 rfl rfl ?_ | refine ret0 ?_ | refine end1 rfl ?_ | refine end0 ?_))
  all_goals first
    | rfl
    | trace_state
end Go.Proofs.YtofdnkgieigncaaGreat
namespace Go.Proofs.YtofdnkgieigncaaGreat
open Go.SL
/-! ### settle -/
def rwE (c : ByteArray) (A : List PA) : List (List D) := A.map fun a => enE ((a.1, c), a.2)
def whole (pre post : List (List D)) (c : ByteArray) (A : List PA) : List (List D) := pre ++ rwE c A ++ post
theorem whole_len (pre post : List (List D)) (c : ByteArray) (A : List PA) : (whole pre post c A).length = pre.length + A.length + post.length := by unfold whole rwE; simp; omega
theorem whole_get {pre post : List (List D)} {c : ByteArray} {A : List PA} {k : Nat} {a : PA} (h : A[k]? = some a) : (whole pre post c A)[pre.length + k]? = some (enE ((a.1, c), a.2)) := by
  have hk := (List.getElem?_eq_some_iff.1 h).1
  unfold whole rwE
  rw [List.append_assoc, List.getElem?_append_right (by omega), List.getElem?_append_left (by rw [List.length_map]; omega), show pre.length + k - pre.length = k by omega, List.getElem?_map, h]
  rfl
theorem whole_set {pre post : List (List D)} {c : ByteArray} {A : List PA} {k : Nat} (a : PA) (h : k < A.length) : (whole pre post c A).set (pre.length + k) (enE ((a.1, c), a.2)) = whole pre post c (A.set k a) := by
  unfold whole rwE
  rw [List.append_assoc, List.set_append_right _ _ (by omega), List.set_append_left _ _ (by rw [List.length_map]; omega), show pre.length + k - pre.length = k by omega, List.map_set, List.append_assoc]
theorem idxG_at {α : Type} (q : α → Bool) : ∀ (l : List α) (i : Nat), (idxG q l i = -1 ∧ ∀ x ∈ l, q x = false) ∨ (∃ k, idxG q l i = ((i + k : Nat) : Int) ∧ (∃ x, l[k]? = some x ∧ q x = true) ∧ ∀ x ∈ l.take k, q x = false)
  | [], i => .inl ⟨rfl, fun x hx => by cases hx⟩
  | x :: r, i => by
    unfold idxG
    cases h : q x with
    | true => exact .inr ⟨0, rfl, ⟨x, rfl, h⟩, fun y hy => by simp at hy⟩
    | false =>
      rw [if_neg (by simp)]
      rcases idxG_at q r (i + 1) with ⟨h1, h2⟩ | ⟨k, h1, h2, h3⟩
      · refine .inl ⟨h1, fun y hy => ?_⟩
        rcases List.mem_cons.1 hy with e | e
        · rw [e]; exact h
        · exact h2 y e
      · refine .inr ⟨k + 1, by rw [h1]; congr 1; omega, h2, fun y hy => ?_⟩
        rw [List.take_succ_cons] at hy
        rcases List.mem_cons.1 hy with e | e
        · rw [e]; exact h
        · exact h3 y e
section
variable (pre post : List (List D)) (c : ByteArray)
def hS (A : List PA) : Hp := [(1000, some (.arr 34 3 (whole pre post c A)))]
set_option maxRecDepth 10000 in
theorem settle11_ac (p : ByteArray) (n s : Int) (hn : -4503599627370496 ≤ n ∧ n ≤ 4503599627370496) (hs : s = 1 ∨ s = -1) : AC Tryz.prog 106 [.agg [.d (.sc (.string p)), .d (.sc (.string c)), .d (.sc (.int .i64 n))], .ptr 1001 0] [(1001, some (.cells [.d (.sc (.int .i64 s))]))] [1001]
    (fun r h' => r = .d (.sc (.bool (decide (0 < n * s)))) ∧ SubH [(1001, some (.cells [.d (.sc (.int .i64 s))]))] h') := by
  have hb : -4503599627370496 ≤ n * s ∧ n * s ≤ 4503599627370496 := by rcases hs with rfl | rfl <;> omega
  have e : ltb 0 (n * s) = decide (0 < n * s) := ltb_d _ _
  generalize hm : n * s = m at *
  refine AC_enter Tryz.func106 rfl Tryz.ntmps106 (rv := [.tmp 3]) rfl rfl (by simp) (fun w X G => ?_)
  repeat' (first | ((with_reducible refine gA ?_); (first | refine AW_seq ?_ | refine AW_region ?_ | refine AW_ret ?_)) | ((with_reducible refine gS ?_); refine Es_s (T := Tryz.tab) rfl rfl rfl rfl ?_) | (((with_reducible refine gS ?_); apply Es_q); rfl; rfl; (refine LStep_mul rfl rfl rfl rfl ?_; (rw [hm]; refine IntWalk.i64_in _ ?_; omega))) | (refine Es_skip rfl ?_ rfl ?_; (first | rfl | (refine w_tf ?_; assumption) | (refine w_ft ?_; assumption))) | (((with_reducible refine gS ?_); apply Es_xs); rfl; rfl; refine LStep_boxN rfl rfl rfl rfl rfl rfl; rfl) | (with_reducible refine Es_nil ?_) | (with_reducible refine then_n ?_) | ((with_reducible refine gR ?_); first | refine ret1 rfl ?_ | refine ret2 rfl rfl ?_ | refine ret0 ?_ | refine end1 rfl ?_ | refine end0 ?_))
  all_goals first
    | (refine ⟨?_, by (repeat' (first | exact trivial | exact rfl | (refine ⟨Or.inl rfl, ?_⟩) | (refine ⟨Or.inr rfl, ?_⟩) | (refine ⟨Or.inr trivial, ?_⟩) | (refine ⟨rfl, ?_⟩) | (refine ⟨?_, ?_⟩)))⟩; rw [hm, ← e]; done)
    | (refine ⟨?_, by (repeat' (first | exact trivial | exact rfl | (refine ⟨Or.inl rfl, ?_⟩) | (refine ⟨Or.inr rfl, ?_⟩) | (refine ⟨Or.inr trivial, ?_⟩) | (refine ⟨rfl, ?_⟩) | (refine ⟨?_, ?_⟩)))⟩; rw [← e]; done)
    | trace_state
set_option maxRecDepth 10000 in
set_option maxHeartbeats 4000000 in
theorem idxS_ac (A : List PA) (s : Int) (hA : ∀ a ∈ A, -4503599627370496 ≤ a.2 ∧ a.2 ≤ 4503599627370496) (hs : s = 1 ∨ s = -1) (hl : (whole pre post c A).length ≤ 140737488351232) :
    AC Tryz.prog 105 [.part 1000 (whole pre post c A).length 3 pre.length A.length, .fn 106 [.ptr 1001 0]] (hS pre post c A ++ [(1001, some (.cells [.d (.sc (.int .i64 s))]))]) [1000, 1001]
    (fun r h' => r = .d (.sc (.int .i64 (idxG (fun a : PA => decide (0 < a.2 * s)) A 0))) ∧ SubH (hS pre post c A ++ [(1001, some (.cells [.d (.sc (.int .i64 s))]))]) h') := by
  have hwl := whole_len pre post c A
  have hget := fun (k : Nat) (a : PA) (h : A[k]? = some a) => whole_get (pre := pre) (post := post) (c := c) h
  unfold hS
  generalize whole pre post c A = W at *
  refine AC_enter Tryz.func105 rfl Tryz.ntmps105 (rv := [.tmp 4]) rfl rfl (by simp) (fun w X G => ?_)
  repeat' (first | ((with_reducible refine gA ?_); (first | refine AW_seq ?_ | refine AW_region ?_ | refine AW_block ?_)) | ((with_reducible refine gS ?_); refine Es_s (T := Tryz.tab) rfl rfl rfl rfl ?_) | (((with_reducible refine gS ?_); apply Es_q); rfl; rfl; refine LStep_lenPart (T := Tryz.tab) rfl rfl rfl rfl rfl rfl) | (with_reducible refine Es_nil ?_) | (with_reducible refine then_n ?_))
  refine AW_forE (S := Nat) (fun k => k ≤ A.length ∧ idxG (fun a : PA => decide (0 < a.2 * s)) A 0 = idxG (fun a : PA => decide (0 < a.2 * s)) (A.drop k) k) (fun k => [(8, .d (.sc (.int .i64 (k : Nat))))]) (fun _ => []) (fun k => A.length - k) 0 ⟨by omega, rfl⟩ (by (repeat' (first | exact trivial | exact rfl | (refine ⟨Or.inl rfl, ?_⟩) | (refine ⟨Or.inr rfl, ?_⟩) | (refine ⟨Or.inr trivial, ?_⟩) | (refine ⟨rfl, ?_⟩) | (refine ⟨?_, ?_⟩)))) (by (repeat' (first | exact trivial | exact rfl | (refine ⟨Or.inl rfl, ?_⟩) | (refine ⟨Or.inr rfl, ?_⟩) | (refine ⟨Or.inr trivial, ?_⟩) | (refine ⟨rfl, ?_⟩) | (refine ⟨?_, ?_⟩)))) ?_
  intro k ⟨hk, hg⟩
  by_cases hlt : k < A.length
  · obtain ⟨x, hx, hd⟩ := drop_at hlt
    rw [hd, idxG] at hg
    obtain ⟨p, n⟩ := x
    have hn := hA _ (List.mem_of_getElem? hx)
    dsimp only at hn hg
    have cf := settle11_ac c p n s hn hs
    have hgk := hget k _ hx
    have g1 : ltb (k : Nat) (A.length : Nat) = true := by rw [ltb_t]; omega
    generalize decide (0 < n * s) = b at *
    cases b with
    | true =>
      rw [if_pos rfl] at hg
      rw [hg]
      repeat' (first | ((with_reducible refine gA ?_); (first | refine AW_seq ?_ | refine AW_region ?_ | refine AW_condT rfl ?_ | (refine AW_condY rfl ?_ ?_; assumption) | refine AW_block ?_ | refine AW_ret ?_ | refine AW_skip ?_)) | ((with_reducible refine gS ?_); refine Es_s (T := Tryz.tab) rfl rfl rfl rfl ?_) | (((with_reducible refine gS ?_); apply Es_q); rfl; rfl; (first | refine LStep_indexPartM (T := Tryz.tab) rfl rfl rfl rfl rfl rfl rfl rfl hlt | (refine LStep_loadEA (T := Tryz.tab) rfl rfl rfl rfl rfl rfl rfl hgk ?_; (refine Nat.le_of_ble_eq_true ?_; rfl)))) | (((with_reducible refine gS ?_); apply Es_xg); rfl; rfl; refine LStep_callHN [(1001, 1001)] [] cf rfl rfl ⟨rfl, trivial⟩ rfl ⟨trivial, trivial⟩ rfl rfl; rfl) | (with_reducible refine Es_nil ?_) | (with_reducible refine then_n ?_) | (with_reducible refine then_r ?_) | (with_reducible refine block_r ?_) | ((with_reducible refine gR ?_); first | refine ret1 rfl ?_ | refine ret2 rfl rfl ?_ | refine ret0 ?_ | refine end1 rfl ?_ | refine end0 ?_))
      all_goals first
        | exact ⟨rfl, by (repeat' (first | exact trivial | exact rfl | (refine ⟨Or.inl rfl, ?_⟩) | (refine ⟨Or.inr rfl, ?_⟩) | (refine ⟨Or.inr trivial, ?_⟩) | (refine ⟨rfl, ?_⟩) | (refine ⟨?_, ?_⟩)))⟩
        | trace_state
    | false =>
      rw [if_neg (by decide)] at hg
      repeat' (first | ((with_reducible refine gA ?_); (first | refine AW_seq ?_ | refine AW_region ?_ | refine AW_condF rfl ?_ | (refine AW_condY rfl ?_ ?_; assumption) | refine AW_block ?_ | refine AW_skip ?_)) | ((with_reducible refine gS ?_); refine Es_s (T := Tryz.tab) rfl rfl rfl rfl ?_) | (((with_reducible refine gS ?_); apply Es_q); rfl; rfl; (first | refine LStep_indexPartM (T := Tryz.tab) rfl rfl rfl rfl rfl rfl rfl rfl hlt | (refine LStep_loadEA (T := Tryz.tab) rfl rfl rfl rfl rfl rfl rfl hgk ?_; (refine Nat.le_of_ble_eq_true ?_; rfl)))) | (((with_reducible refine gS ?_); apply Es_xg); rfl; rfl; refine LStep_callHN [(1001, 1001)] [] cf rfl rfl ⟨rfl, trivial⟩ rfl ⟨trivial, trivial⟩ rfl rfl; rfl) | (((with_reducible refine gS ?_); apply Es_q); rfl; rfl; (refine LStep_add rfl rfl rfl rfl ?_; (refine IntWalk.i64_in _ ?_; first | omega | (simp only [cmps] at *; omega)))) | (with_reducible refine Es_nil ?_) | (with_reducible refine then_n ?_) | (with_reducible refine block_n ?_))
      all_goals first
        | (refine ⟨k + 1, ?_, by omega, by (repeat' (first | exact trivial | exact rfl | (refine ⟨Or.inl rfl, ?_⟩) | (refine ⟨Or.inr rfl, ?_⟩) | (refine ⟨Or.inr trivial, ?_⟩) | (refine ⟨rfl, ?_⟩) | (refine ⟨?_, ?_⟩))), by (repeat' (first | exact trivial | exact rfl | (refine ⟨Or.inl rfl, ?_⟩) | (refine ⟨Or.inr rfl, ?_⟩) | (refine ⟨Or.inr trivial, ?_⟩) | (refine ⟨rfl, ?_⟩) | (refine ⟨?_, ?_⟩))), by (repeat' (first | exact trivial | exact rfl | (refine ⟨Or.inl rfl, ?_⟩) | (refine ⟨Or.inr rfl, ?_⟩) | (refine ⟨Or.inr trivial, ?_⟩) | (refine ⟨rfl, ?_⟩) | (refine ⟨?_, ?_⟩))), by (repeat' (first | exact trivial | exact rfl | (refine ⟨Or.inl rfl, ?_⟩) | (refine ⟨Or.inr rfl, ?_⟩) | (refine ⟨Or.inr trivial, ?_⟩) | (refine ⟨rfl, ?_⟩) | (refine ⟨?_, ?_⟩)))⟩; exact ⟨by omega, hg⟩)
        | trace_state
  · have : k = A.length := by omega
    subst this
    have g1 : ltb (A.length : Nat) (A.length : Nat) = false := by rw [ltb_f]; omega
    rw [drop_end, idxG] at hg
    rw [hg]
    repeat' (first | ((with_reducible refine gA ?_); (first | refine AW_seq ?_ | refine AW_region ?_ | (refine AW_condN rfl ?_ ?_; assumption) | refine AW_ret ?_ | refine AW_exit ?_)) | ((with_reducible refine gS ?_); refine Es_s (T := Tryz.tab) rfl rfl rfl rfl ?_) | (with_reducible refine Es_nil ?_) | (with_reducible refine then_n ?_) | (with_reducible refine then_e ?_) | ((with_reducible refine block_e ?_ ?_); rfl) | ((with_reducible refine gR ?_); first | refine ret1 rfl ?_ | refine ret2 rfl rfl ?_ | refine ret0 ?_ | refine end1 rfl ?_ | refine end0 ?_))
    all_goals first
      | exact ⟨rfl, by (repeat' (first | exact trivial | exact rfl | (refine ⟨Or.inl rfl, ?_⟩) | (refine ⟨Or.inr rfl, ?_⟩) | (refine ⟨Or.inr trivial, ?_⟩) | (refine ⟨rfl, ?_⟩) | (refine ⟨?_, ?_⟩)))⟩
      | trace_state
set_option maxRecDepth 10000 in
set_option maxHeartbeats 4000000 in
theorem settle1_ac (A : List PA) (s : Int) (hA : ∀ a ∈ A, -4503599627370496 ≤ a.2 ∧ a.2 ≤ 4503599627370496) (hs : s = 1 ∨ s = -1) (hl : (whole pre post c A).length ≤ 140737488351232) :
    AC Tryz.prog 104 [.d (.sc (.int .i64 s)), .ptr 1001 0] (hS pre post c A ++ [(1001, some (.cells [.part 1000 (whole pre post c A).length 3 pre.length A.length]))]) [1000, 1001]
    (fun r h' => r = .d (.sc (.int .i64 (idxG (fun a : PA => decide (0 < a.2 * s)) A 0))) ∧ SubH (hS pre post c A ++ [(1001, some (.cells [.part 1000 (whole pre post c A).length 3 pre.length A.length]))]) h') := by
  have ci := idxS_ac pre post c A s hA hs hl
  unfold hS at *
  generalize whole pre post c A = W at *
  generalize idxG (fun a : PA => decide (0 < a.2 * s)) A 0 = ix at *
  refine AC_enter Tryz.func104 rfl Tryz.ntmps104 (rv := [.tmp 3]) rfl rfl (by simp) (fun w X G => ?_)
  repeat' (first | ((with_reducible refine gA ?_); (first | refine AW_seq ?_ | refine AW_region ?_ | refine AW_ret ?_)) | ((with_reducible refine gS ?_); refine Es_s (T := Tryz.tab) rfl rfl rfl rfl ?_) | (((with_reducible refine gS ?_); apply Es_xg); rfl; rfl; refine LStep_callHN [(1000, 1000), (1001, 2)] [] ci rfl rfl ⟨rfl, rfl, trivial⟩ rfl ⟨rfl, trivial, trivial⟩ rfl rfl; rfl) | (refine Es_skip rfl ?_ rfl ?_; (first | rfl | (refine w_tf ?_; assumption) | (refine w_ft ?_; assumption))) | (((with_reducible refine gS ?_); apply Es_xs); rfl; rfl; refine LStep_boxN rfl rfl rfl rfl rfl rfl; rfl) | (with_reducible refine Es_nil ?_) | (with_reducible refine then_n ?_) | ((with_reducible refine gR ?_); first | refine ret1 rfl ?_ | refine ret2 rfl rfl ?_ | refine ret0 ?_ | refine end1 rfl ?_ | refine end0 ?_))
  all_goals first
    | exact ⟨rfl, by (repeat' (first | exact trivial | exact rfl | (refine ⟨Or.inl rfl, ?_⟩) | (refine ⟨Or.inr rfl, ?_⟩) | (refine ⟨Or.inr trivial, ?_⟩) | (refine ⟨rfl, ?_⟩) | (refine ⟨?_, ?_⟩)))⟩
    | trace_state
theorem set2_le (D C : List PA) : (set2 D C).length ≤ D.length + C.length := by
  refine set2_ind (M := fun D C => (set2 D C).length ≤ D.length + C.length) (fun C => by rw [set2_nilL]; simp) (fun D => by rw [set2_nilR]; simp) (fun p q x y D C h ih => ?_) (fun p q x D C ih => ?_) (fun p q x y D C h ih => ?_) D C
  · rw [set2_cons, if_pos h]
    simp only [List.length_cons] at ih ⊢
    omega
  · rw [set2_cons, if_neg (by omega), if_pos rfl]
    simp only [List.length_cons] at ih ⊢
    omega
  · rw [set2_cons, if_neg (by omega), if_neg (by omega)]
    simp only [List.length_cons] at ih ⊢
    omega
theorem setA_le (A : List PA) : (setA A).length ≤ A.length := Nat.le_trans (set2_le _ _) (ngs_pss_len A)
theorem tagC_len (c : ByteArray) (r : List (ByteArray × ByteArray × Int)) : (tagC c r).length = r.length := List.length_map _
theorem tagC_cons (c : ByteArray) (t : ByteArray × ByteArray × Int) (r : List (ByteArray × ByteArray × Int)) : tagC c (t :: r) = ((c, t.1, t.2.1), t.2.2) :: tagC c r := rfl
structure SetLp (c : ByteArray) (R : List Db) (m : Nat) (A : List PA) (f t : Nat) (E : List Db) : Prop where
  len : A.length = m
  st : SetSt A f t
  bd : ∀ a ∈ A, -4503599627370496 ≤ a.2 ∧ a.2 ≤ 4503599627370496
  eq : E ++ tagC c (setA A) = R
theorem neg_idx {A : List PA} {k : Nat} (h : ∀ x ∈ A.take k, decide (0 < x.2 * -1) = false) : ∀ a ∈ A.take k, 0 ≤ a.2 := fun a ha => by
  have := of_decide_eq_false (h a ha)
  omega
theorem pos_idx {A : List PA} {k : Nat} (h : ∀ x ∈ A.take k, decide (0 < x.2 * 1) = false) : ∀ a ∈ A.take k, a.2 ≤ 0 := fun a ha => by
  have := of_decide_eq_false (h a ha)
  omega
set_option maxRecDepth 10000 in
set_option maxHeartbeats 8000000 in
theorem settle_ac (A0 : List PA) (hA : ∀ a ∈ A0, -4503599627370496 ≤ a.2 ∧ a.2 ≤ 4503599627370496) (hl : (whole pre post c A0).length ≤ 1048576) :
    AC Tryz.prog 54 [.part 1000 (whole pre post c A0).length 3 pre.length A0.length] (hS pre post c A0) [1000]
    (fun r h' => ∃ A : List PA, A.length = A0.length ∧ r = .d (.sl 4 ((tagC c (setA A0)).map dbE)) ∧ SubH (hS pre post c A) h') := by
  have c1 := settle1_ac pre post c A0 (-1) hA (.inr rfl) (by omega)
  have c2 := settle1_ac pre post c A0 1 hA (.inl rfl) (by omega)
  have hwl := whole_len pre post c A0
  have hml : A0.length ≤ 1048576 := by omega
  have hsl := setA_le A0
  rcases idxG_at (fun a : PA => decide (0 < a.2 * -1)) A0 0 with ⟨e1, e2⟩ | ⟨f0, e1, ⟨a1, e2, e2'⟩, e3⟩
  · have hz : setA A0 = [] := by
      unfold setA
      rw [ngs_none (fun a ha => by have := of_decide_eq_false (e2 a ha); omega), set2_nilL]
    rw [e1] at c1
    rw [hz]
    have g0 : leb 0 (-1) = false := by rw [leb_f]; omega
    unfold hS at *
    generalize idxG (fun a : PA => decide (0 < a.2 * 1)) A0 0 = ix at *
    have hw : whole pre post c A0 = whole pre post c A0 := rfl
    generalize hW : whole pre post c A0 = W at *
    refine AC_enter Tryz.func54 rfl Tryz.ntmps54 (rv := [.tmp 2]) rfl rfl (by simp) (fun w X G => ?_)
    repeat' (first | ((with_reducible refine gA ?_); (first | refine AW_seq ?_ | refine AW_region ?_ | refine AW_block ?_)) | ((with_reducible refine gS ?_); refine Es_s (T := Tryz.tab) rfl rfl rfl rfl ?_) | (((with_reducible refine gS ?_); apply Es_xg); rfl; rfl; (first | refine LStep_callHN [(1000, 1000), (1001, 1)] [] c1 rfl rfl ⟨rfl, rfl, trivial⟩ rfl ⟨rfl, trivial, trivial⟩ rfl rfl | refine LStep_callHN [(1000, 1000), (1001, 1)] [] c2 rfl rfl ⟨rfl, rfl, trivial⟩ rfl ⟨rfl, trivial, trivial⟩ rfl rfl); rfl) | (refine Es_skip rfl ?_ rfl ?_; (first | rfl | (refine w_tf ?_; assumption) | (refine w_ft ?_; assumption))) | (((with_reducible refine gS ?_); apply Es_xs); rfl; rfl; refine LStep_boxN rfl rfl rfl rfl rfl rfl; rfl) | (with_reducible refine Es_nil ?_) | (with_reducible refine then_n ?_))
    refine AW_rounds 1 ?_
    repeat' (first | ((with_reducible refine gRd ?_); refine rounds_stepD (n := 0) [] [] ?_) | ((with_reducible refine gRc ?_); refine AW_nilD 4 2 rfl ?_) | ((with_reducible refine gA ?_); (first | refine AW_seq ?_ | refine AW_region ?_ | refine AW_condF rfl ?_ | refine AW_ret ?_ | refine AW_exit ?_)) | ((with_reducible refine gS ?_); refine Es_s (T := Tryz.tab) rfl rfl rfl rfl ?_) | (((with_reducible refine gS ?_); apply Es_q); rfl; rfl; (refine LStep_pickF rfl rfl ?_ rfl rfl; assumption)) | (refine Es_skip rfl ?_ rfl ?_; (first | rfl | (refine w_tf ?_; assumption) | (refine w_ft ?_; assumption))) | (with_reducible refine Es_nil ?_) | (with_reducible refine then_n ?_) | (with_reducible refine then_e ?_) | ((with_reducible refine block_e ?_ ?_); rfl) | ((with_reducible refine gR ?_); first | refine ret1 rfl ?_ | refine ret2 rfl rfl ?_ | refine ret0 ?_ | refine end1 rfl ?_ | refine end0 ?_))
    all_goals first
      | exact ⟨A0, rfl, rfl, by rw [hW]; (repeat' (first | exact trivial | exact rfl | (refine ⟨Or.inl rfl, ?_⟩) | (refine ⟨Or.inr rfl, ?_⟩) | (refine ⟨Or.inr trivial, ?_⟩) | (refine ⟨rfl, ?_⟩) | (refine ⟨?_, ?_⟩)))⟩
      | trace_state
  · rw [e1] at c1
    have f0l := (List.getElem?_eq_some_iff.1 e2).1
    have gf : leb 0 (((0 + f0 : Nat) : Int)) = true := by rw [leb_t]; omega
    have gfl : ltb (((0 + f0 : Nat) : Int)) (A0.length : Nat) = true := by rw [ltb_t]; omega
    rcases idxG_at (fun a : PA => decide (0 < a.2 * 1)) A0 0 with ⟨t1, t2⟩ | ⟨t0, t1, ⟨a2, t2, t2'⟩, t3⟩
    · have hz : setA A0 = [] := by
        unfold setA
        rw [pss_none (fun a ha => by have := of_decide_eq_false (t2 a ha); omega), set2_nilR]
      rw [t1] at c2
      rw [hz]
      have g0 : leb 0 (-1) = false := by rw [leb_f]; omega
      unfold hS at *
      generalize hW : whole pre post c A0 = W at *
      refine AC_enter Tryz.func54 rfl Tryz.ntmps54 (rv := [.tmp 2]) rfl rfl (by simp) (fun w X G => ?_)
      repeat' (first | ((with_reducible refine gA ?_); (first | refine AW_seq ?_ | refine AW_region ?_ | refine AW_block ?_)) | ((with_reducible refine gS ?_); refine Es_s (T := Tryz.tab) rfl rfl rfl rfl ?_) | (((with_reducible refine gS ?_); apply Es_xg); rfl; rfl; (first | refine LStep_callHN [(1000, 1000), (1001, 1)] [] c1 rfl rfl ⟨rfl, rfl, trivial⟩ rfl ⟨rfl, trivial, trivial⟩ rfl rfl | refine LStep_callHN [(1000, 1000), (1001, 1)] [] c2 rfl rfl ⟨rfl, rfl, trivial⟩ rfl ⟨rfl, trivial, trivial⟩ rfl rfl); rfl) | (refine Es_skip rfl ?_ rfl ?_; (first | rfl | (refine w_tf ?_; assumption) | (refine w_ft ?_; assumption))) | (((with_reducible refine gS ?_); apply Es_xs); rfl; rfl; refine LStep_boxN rfl rfl rfl rfl rfl rfl; rfl) | (with_reducible refine Es_nil ?_) | (with_reducible refine then_n ?_))
      refine AW_rounds 1 ?_
      repeat' (first | ((with_reducible refine gRd ?_); refine rounds_stepD (n := 0) [] [] ?_) | ((with_reducible refine gRc ?_); refine AW_nilD 4 2 rfl ?_) | ((with_reducible refine gA ?_); (first | refine AW_seq ?_ | refine AW_region ?_ | refine AW_condF rfl ?_ | refine AW_ret ?_ | refine AW_exit ?_)) | ((with_reducible refine gS ?_); refine Es_s (T := Tryz.tab) rfl rfl rfl rfl ?_) | (((with_reducible refine gS ?_); apply Es_q); rfl; (first | rfl | (refine w_tt ?_; assumption)); refine LStep_lenPart (T := Tryz.tab) rfl rfl rfl rfl rfl rfl) | (((with_reducible refine gS ?_); apply Es_q); rfl; (first | rfl | (refine w_tt ?_; assumption)); (first | refine LStep_simp (T := Tryz.tab) rfl rfl | (refine LStep_pickT rfl rfl ?_ rfl rfl; assumption) | (refine LStep_pickF rfl rfl ?_ rfl rfl; assumption))) | (refine Es_skip rfl ?_ rfl ?_; (first | rfl | (refine w_tf ?_; assumption) | (refine w_ft ?_; assumption))) | (with_reducible refine Es_nil ?_) | (with_reducible refine then_n ?_) | (with_reducible refine then_e ?_) | ((with_reducible refine block_e ?_ ?_); rfl) | ((with_reducible refine gR ?_); first | refine ret1 rfl ?_ | refine ret2 rfl rfl ?_ | refine ret0 ?_ | refine end1 rfl ?_ | refine end0 ?_))
      all_goals first
        | exact ⟨A0, rfl, rfl, by rw [hW]; (repeat' (first | exact trivial | exact rfl | (refine ⟨Or.inl rfl, ?_⟩) | (refine ⟨Or.inr rfl, ?_⟩) | (refine ⟨Or.inr trivial, ?_⟩) | (refine ⟨rfl, ?_⟩) | (refine ⟨?_, ?_⟩)))⟩
        | trace_state
    · rw [t1] at c2
      have t0l := (List.getElem?_eq_some_iff.1 t2).1
      rw [Nat.zero_add] at c1 c2
      have hst0 : SetLp c (tagC c (setA A0)) A0.length A0 f0 t0 [] := ⟨rfl, ⟨neg_idx e3, pos_idx t3⟩, hA, rfl⟩
      have hf0 : ∀ a, A0[f0]? = some a → a.2 < 0 := fun a ha => by
        rw [e2] at ha; cases ha
        have := of_decide_eq_true e2'
        omega
      have ht0 : ∀ a, A0[t0]? = some a → 0 < a.2 := fun a ha => by
        rw [t2] at ha; cases ha
        have := of_decide_eq_true t2'
        omega
      generalize hR : tagC c (setA A0) = R at *
      have hRl : R.length ≤ A0.length := by rw [← hR, tagC_len]; exact hsl
      have hNl := fun (A : List PA) (h : A.length = A0.length) => (whole_len pre post c A).trans ((by omega : pre.length + A.length + post.length = pre.length + A0.length + post.length).trans hwl.symm)
      unfold hS at *
      generalize hN : (whole pre post c A0).length = N at *
      clear e1 e2 e2' e3 t1 t2 t2' t3 gf gfl hsl
      refine AC_enter Tryz.func54 rfl Tryz.ntmps54 (rv := [.tmp 2]) rfl rfl (by simp) (fun w X G => ?_)
      repeat' (first | ((with_reducible refine gA ?_); (first | refine AW_seq ?_ | refine AW_region ?_ | refine AW_block ?_)) | ((with_reducible refine gS ?_); refine Es_s (T := Tryz.tab) rfl rfl rfl rfl ?_) | (((with_reducible refine gS ?_); apply Es_xg); rfl; rfl; (first | refine LStep_callHN [(1000, 1000), (1001, 1)] [] c1 rfl rfl ⟨rfl, rfl, trivial⟩ rfl ⟨rfl, trivial, trivial⟩ rfl rfl | refine LStep_callHN [(1000, 1000), (1001, 1)] [] c2 rfl rfl ⟨rfl, rfl, trivial⟩ rfl ⟨rfl, trivial, trivial⟩ rfl rfl); rfl) | (refine Es_skip rfl ?_ rfl ?_; (first | rfl | (refine w_tf ?_; assumption) | (refine w_ft ?_; assumption))) | (((with_reducible refine gS ?_); apply Es_xs); rfl; rfl; refine LStep_boxN rfl rfl rfl rfl rfl rfl; rfl) | (with_reducible refine Es_nil ?_) | (with_reducible refine then_n ?_))
      refine AW_openNil (t := 3) (id := 2000) (e := 55) (sz := 4) rfl rfl rfl rfl ?_
      refine AW_forE (S := List PA × Nat × Nat × List Db) (fun z => SetLp c R A0.length z.1 z.2.1 z.2.2.1 z.2.2.2 ∧ (∀ a, z.1[z.2.1]? = some a → a.2 < 0) ∧ ∀ a, z.1[z.2.2.1]? = some a → 0 < a.2) (fun z => [(5, .d (.sc (.int .i64 (z.2.1 : Nat)))), (6, .d (.sc (.int .i64 (z.2.2.1 : Nat)))), (3, .own 2000 (z.2.2.2.map dbE).length)]) (fun z => [(1000, some (.arr 34 3 (whole pre post c z.1))), (2000, some (.arr 55 4 (z.2.2.2.map dbE)))]) (fun z => R.length - z.2.2.2.length) (A0, f0, t0, []) ⟨hst0, hf0, ht0⟩ (by (repeat' (first | exact trivial | exact rfl | (refine ⟨Or.inl rfl, ?_⟩) | (refine ⟨Or.inr rfl, ?_⟩) | (refine ⟨Or.inr trivial, ?_⟩) | (refine ⟨rfl, ?_⟩) | (refine ⟨?_, ?_⟩)))) (by (repeat' (first | exact trivial | exact rfl | (refine ⟨Or.inl rfl, ?_⟩) | (refine ⟨Or.inr rfl, ?_⟩) | (refine ⟨Or.inr trivial, ?_⟩) | (refine ⟨rfl, ?_⟩) | (refine ⟨?_, ?_⟩)))) ?_
      intro ⟨A, f, t, E⟩ ⟨hp, hf, ht⟩
      dsimp only at hp hf ht ⊢
      have hal := hp.len
      have hNA := hNl A hal
      have gf : leb 0 ((f : Nat) : Int) = true := by rw [leb_t]; omega
      have gt : leb 0 ((t : Nat) : Int) = true := by rw [leb_t]; omega
      by_cases hlf : f < A.length
      · have gfl : ltb ((f : Nat) : Int) ((A0.length : Nat) : Int) = true := by rw [ltb_t]; omega
        by_cases hlt : t < A.length
        · have gtl : ltb ((t : Nat) : Int) ((A0.length : Nat) : Int) = true := by rw [ltb_t]; omega
          obtain ⟨⟨p, x⟩, hx, _⟩ := drop_at hlf
          obtain ⟨⟨q, y⟩, hy, _⟩ := drop_at hlt
          have hx0 := hf _ hx
          have hy0 := ht _ hy
          have hxb := hp.bd _ (List.mem_of_getElem? hx)
          have hyb := hp.bd _ (List.mem_of_getElem? hy)
          dsimp only at hx0 hy0 hxb hyb
          obtain ⟨hst', hset⟩ := hp.st.pay hx hy hx0 hy0
          have heq := hp.eq
          have hsA : setA A = _ := hset
          rw [hsA, tagC_cons] at heq
          have hn0 : 1 ≤ payI (-x) y ∧ payI (-x) y ≤ -x ∧ payI (-x) y ≤ y := by unfold payI; split <;> omega
          have hmn : minI (wrp .i64 (0 - x)) y = payI (-x) y := by rw [wrp_fit (by omega)]; unfold minI payI; split <;> split <;> omega
          have hne : f ≠ t := fun e => by rw [e, hy] at hx; cases hx; omega
          generalize payI (-x) y = n at *
          have hA1 : (A.set f (p, x + n))[t]? = some (q, y) := by rw [List.getElem?_set_ne hne]; exact hy
          have r1 : (whole pre post c A)[pre.length + f]? = some [.sc (.string p), .sc (.string c), .sc (.int .i64 x)] := whole_get hx
          have r2 : (whole pre post c A)[pre.length + t]? = some [.sc (.string q), .sc (.string c), .sc (.int .i64 y)] := whole_get hy
          have w1 : (whole pre post c A).set (pre.length + f) (setsD [.sc (.string p), .sc (.string c), .sc (.int .i64 x)] 2 [.sc (.int .i64 (x + n))]) = whole pre post c (A.set f (p, x + n)) := whole_set (p, x + n) hlf
          have r3 : ((whole pre post c A).set (pre.length + f) (setsD [.sc (.string p), .sc (.string c), .sc (.int .i64 x)] 2 [.sc (.int .i64 (x + n))]))[pre.length + t]? = some [.sc (.string q), .sc (.string c), .sc (.int .i64 y)] := by rw [w1]; exact whole_get hA1
          have w2 : ((whole pre post c A).set (pre.length + f) (setsD [.sc (.string p), .sc (.string c), .sc (.int .i64 x)] 2 [.sc (.int .i64 (x + n))])).set (pre.length + t) (setsD [.sc (.string q), .sc (.string c), .sc (.int .i64 y)] 2 [.sc (.int .i64 (y - n))]) = whole pre post c ((A.set f (p, x + n)).set t (q, y - n)) := by
            rw [w1]; exact whole_set (q, y - n) (by rw [List.length_set]; exact hlt)
          have l1 : ((whole pre post c A).set (pre.length + f) (setsD [.sc (.string p), .sc (.string c), .sc (.int .i64 x)] 2 [.sc (.int .i64 (x + n))])).length = N := by rw [List.length_set]; exact hNA
          have hEl : E.length + 1 ≤ R.length := by
            have := congrArg List.length heq
            rw [List.length_append, List.length_cons] at this
            omega
          have hbd' : ∀ a ∈ (A.set f (p, x + n)).set t (q, y - n), -4503599627370496 ≤ a.2 ∧ a.2 ≤ 4503599627370496 := fun a ha => by
            rcases List.mem_or_eq_of_mem_set ha with h | h
            · rcases List.mem_or_eq_of_mem_set h with h | h
              · exact hp.bd a h
              · rw [h]; dsimp only; omega
            · rw [h]; dsimp only; omega
          have hal' : ((A.set f (p, x + n)).set t (q, y - n)).length = A0.length := by rw [List.length_set, List.length_set]; exact hal
          have hm : (E ++ [((c, p, q), n)]).map dbE = E.map dbE ++ [[.sc (.string p), .sc (.string q), .sc (.string c), .sc (.int .i64 n)]] := by rw [List.map_append]; rfl
          have heq' : (E ++ [((c, p, q), n)]) ++ tagC c (setA ((A.set f (p, x + n)).set t (q, y - n))) = R := by rw [List.append_assoc]; exact heq
          generalize (A.set f (p, x + n)).set t (q, y - n) = A' at *
          repeat' (first | ((with_reducible refine gA ?_); (first | refine AW_seq ?_ | refine AW_region ?_ | refine AW_regionD Tryz.mixed ?_ | (refine AW_condY rfl ?_ ?_; assumption) | refine AW_block ?_ | refine AW_skip ?_)) | (first | ((with_reducible refine gS ?_); refine Es_s (T := Tryz.tab) rfl rfl rfl rfl ?_) | ((with_reducible refine gD ?_); refine Ed_s (T := Tryz.tab) rfl rfl rfl rfl ?_)) | ((first | ((with_reducible refine gS ?_); apply Es_q) | ((with_reducible refine gD ?_); apply Ed_q)); rfl; (first | rfl | (refine w_tt ?_; assumption)); (first | (refine LStep_lenPart (T := Tryz.tab) rfl rfl rfl rfl rfl ?_; (first | exact hNA | exact l1)) | (refine LStep_indexPartM (T := Tryz.tab) rfl rfl rfl rfl rfl rfl rfl ?_ ?_; (first | exact hNA | exact l1); omega) | (refine LStep_fieldAddrE (T := Tryz.tab) rfl rfl rfl rfl _ _ rfl ?_; (first | exact hNA | exact l1)) | (refine LStep_loadE (T := Tryz.tab) rfl rfl rfl rfl rfl ?_ r1 rfl; exact hNA) | (refine LStep_loadE (T := Tryz.tab) rfl rfl rfl rfl rfl ?_ r2 rfl; exact hNA) | (refine LStep_loadE (T := Tryz.tab) rfl rfl rfl rfl rfl ?_ r3 rfl; exact l1) | refine LStep_min rfl rfl rfl rfl hmn)) | ((first | ((with_reducible refine gS ?_); apply Es_xs) | ((with_reducible refine gD ?_); apply Ed_xs)); rfl; (first | rfl | (refine w_tt ?_; assumption)); (refine LStep_append (T := Tryz.tab) rfl rfl rfl rfl rfl rfl rfl rfl rfl rfl ?_ ?_ ?_; rfl; (simp only [List.length_map, List.length_cons, List.length_nil]; omega); (unfold maxLen; simp only [List.length_map, List.length_cons, List.length_nil]; omega)); rfl) | ((first | ((with_reducible refine gS ?_); apply Es_xn) | ((with_reducible refine gD ?_); apply Ed_xn)); rfl; rfl; (first | (refine LStep_storeE (T := Tryz.tab) rfl rfl rfl rfl rfl rfl rfl rfl ?_ r1 ?_; exact hNA; (refine Nat.le_of_ble_eq_true ?_; rfl)) | (refine LStep_storeE (T := Tryz.tab) rfl rfl rfl rfl rfl rfl rfl rfl ?_ r3 ?_; exact l1; (refine Nat.le_of_ble_eq_true ?_; rfl))); rfl) | ((first | ((with_reducible refine gS ?_); apply Es_q) | ((with_reducible refine gD ?_); apply Ed_q)); rfl; (first | rfl | (refine w_tt ?_; assumption)); (first | refine LStep_simp (T := Tryz.tab) rfl rfl | (refine LStep_add rfl rfl rfl rfl ?_; (refine IntWalk.i64_in _ ?_; first | omega | (simp only [cmps] at *; omega))) | (refine LStep_sub rfl rfl rfl rfl ?_; (refine IntWalk.i64_in _ ?_; first | omega | (simp only [cmps] at *; omega))) | (refine LStep_pickT rfl rfl ?_ rfl rfl; assumption) | (refine LStep_lit (T := Tryz.tab) rfl rfl rfl rfl rfl rfl rfl rfl ?_; (refine Nat.le_of_ble_eq_true ?_; rfl)) | refine LStep_buildN (T := Tryz.tab) rfl rfl rfl rfl rfl rfl rfl)) | (with_reducible refine Es_nil ?_) | ((with_reducible refine Ed_nil ?_ ?_); kernel_rfl) | (with_reducible refine then_n ?_))
          have v2 : (((whole pre post c A).set (pre.length + f) (setsD [.sc (.string p), .sc (.string c), .sc (.int .i64 x)] 2 [.sc (.int .i64 (x + n))])).set (pre.length + t) (setsD [.sc (.string q), .sc (.string c), .sc (.int .i64 y)] 2 [.sc (.int .i64 (y - n))])).length = N := by rw [List.length_set]; exact l1
          have hget2 : ∀ (k : Nat) (a : PA), A'[k]? = some a → (((whole pre post c A).set (pre.length + f) (setsD [.sc (.string p), .sc (.string c), .sc (.int .i64 x)] 2 [.sc (.int .i64 (x + n))])).set (pre.length + t) (setsD [.sc (.string q), .sc (.string c), .sc (.int .i64 y)] 2 [.sc (.int .i64 (y - n))]))[pre.length + k]? = some [.sc (.string a.1), .sc (.string c), .sc (.int .i64 a.2)] := fun k a h => by rw [w2]; exact whole_get h
          have v3 : ([D.sc (.string p)] : List D)[0]? = some (D.sc (.string p)) := rfl
          generalize ((whole pre post c A).set (pre.length + f) (setsD [.sc (.string p), .sc (.string c), .sc (.int .i64 x)] 2 [.sc (.int .i64 (x + n))])).set (pre.length + t) (setsD [.sc (.string q), .sc (.string c), .sc (.int .i64 y)] 2 [.sc (.int .i64 (y - n))]) = W2 at *
          refine AW_forE (S := Nat) (fun f' => SetSt A' f' t) (fun f' => [(5, .d (.sc (.int .i64 (f' : Nat))))]) (fun _ => []) (fun f' => A'.length - f') f hst' (by (repeat' (first | exact trivial | exact rfl | (refine ⟨Or.inl rfl, ?_⟩) | (refine ⟨Or.inr rfl, ?_⟩) | (refine ⟨Or.inr trivial, ?_⟩) | (refine ⟨rfl, ?_⟩) | (refine ⟨?_, ?_⟩)))) (by (repeat' (first | exact trivial | exact rfl | (refine ⟨Or.inl rfl, ?_⟩) | (refine ⟨Or.inr rfl, ?_⟩) | (refine ⟨Or.inr trivial, ?_⟩) | (refine ⟨rfl, ?_⟩) | (refine ⟨?_, ?_⟩)))) ?_
          intro f' hst2
          by_cases hlf2 : f' < A'.length
          · have gf2 : ltb ((f' : Nat) : Int) ((A0.length : Nat) : Int) = true := by rw [ltb_t]; omega
            obtain ⟨⟨p2, x2⟩, hx2, _⟩ := drop_at hlf2
            have rr1 := hget2 _ _ hx2
            by_cases h01 : 0 ≤ x2
            · have gg1 : leb 0 x2 = true := by rw [leb_t]; exact h01
              repeat' (first | ((with_reducible refine gA ?_); (first | refine AW_seq ?_ | refine AW_region ?_ | (refine AW_condY rfl ?_ ?_; assumption) | refine AW_block ?_ | refine AW_skip ?_)) | ((with_reducible refine gS ?_); refine Es_s (T := Tryz.tab) rfl rfl rfl rfl ?_) | (((with_reducible refine gS ?_); apply Es_q); rfl; (first | rfl | (refine w_tt ?_; assumption)); (first | refine LStep_lenPart (T := Tryz.tab) rfl rfl rfl rfl rfl v2 | (refine LStep_indexPartM (T := Tryz.tab) rfl rfl rfl rfl rfl rfl rfl v2 ?_; omega) | refine LStep_fieldAddrE (T := Tryz.tab) rfl rfl rfl rfl _ _ rfl v2 | refine LStep_loadE (T := Tryz.tab) rfl rfl rfl rfl rfl v2 rr1 rfl)) | (((with_reducible refine gS ?_); apply Es_q); rfl; (first | rfl | (refine w_tt ?_; assumption)); (first | refine LStep_simp (T := Tryz.tab) rfl rfl | (refine LStep_add rfl rfl rfl rfl ?_; (refine IntWalk.i64_in _ ?_; first | omega | (simp only [cmps] at *; omega))) | (refine LStep_pickT rfl rfl ?_ rfl rfl; assumption))) | (with_reducible refine Es_nil ?_) | (with_reducible refine then_n ?_) | (with_reducible refine block_n ?_))
              all_goals first
                | (refine ⟨f' + 1, ?_, by omega, by (repeat' (first | exact trivial | exact rfl | (refine ⟨Or.inl rfl, ?_⟩) | (refine ⟨Or.inr rfl, ?_⟩) | (refine ⟨Or.inr trivial, ?_⟩) | (refine ⟨rfl, ?_⟩) | (refine ⟨?_, ?_⟩))), by (repeat' (first | exact trivial | exact rfl | (refine ⟨Or.inl rfl, ?_⟩) | (refine ⟨Or.inr rfl, ?_⟩) | (refine ⟨Or.inr trivial, ?_⟩) | (refine ⟨rfl, ?_⟩) | (refine ⟨?_, ?_⟩))), by (repeat' (first | exact trivial | exact rfl | (refine ⟨Or.inl rfl, ?_⟩) | (refine ⟨Or.inr rfl, ?_⟩) | (refine ⟨Or.inr trivial, ?_⟩) | (refine ⟨rfl, ?_⟩) | (refine ⟨?_, ?_⟩))), by (repeat' (first | exact trivial | exact rfl | (refine ⟨Or.inl rfl, ?_⟩) | (refine ⟨Or.inr rfl, ?_⟩) | (refine ⟨Or.inr trivial, ?_⟩) | (refine ⟨rfl, ?_⟩) | (refine ⟨?_, ?_⟩)))⟩; exact hst2.stepF hx2 h01)
                | trace_state
            · have gg1 : leb 0 x2 = false := by rw [leb_f]; omega
              have hfx : ∀ a, A'[f']? = some a → a.2 < 0 := fun a ha => by rw [hx2] at ha; cases ha; dsimp only; omega
              repeat' (first | ((with_reducible refine gA ?_); (first | refine AW_seq ?_ | refine AW_region ?_ | (refine AW_condN rfl ?_ ?_; assumption) | refine AW_block ?_ | refine AW_exit ?_)) | ((with_reducible refine gS ?_); refine Es_s (T := Tryz.tab) rfl rfl rfl rfl ?_) | (((with_reducible refine gS ?_); apply Es_q); rfl; (first | rfl | (refine w_tt ?_; assumption)); (first | refine LStep_lenPart (T := Tryz.tab) rfl rfl rfl rfl rfl v2 | (refine LStep_indexPartM (T := Tryz.tab) rfl rfl rfl rfl rfl rfl rfl v2 ?_; omega) | refine LStep_fieldAddrE (T := Tryz.tab) rfl rfl rfl rfl _ _ rfl v2 | refine LStep_loadE (T := Tryz.tab) rfl rfl rfl rfl rfl v2 rr1 rfl)) | (((with_reducible refine gS ?_); apply Es_q); rfl; (first | rfl | (refine w_tt ?_; assumption)); (first | refine LStep_simp (T := Tryz.tab) rfl rfl | (refine LStep_pickT rfl rfl ?_ rfl rfl; assumption))) | (with_reducible refine Es_nil ?_) | (with_reducible refine then_n ?_) | (with_reducible refine then_e ?_) | ((with_reducible refine block_e ?_ ?_); rfl))
              refine AW_forE (S := Nat) (fun t' => SetSt A' f' t') (fun t' => [(6, .d (.sc (.int .i64 (t' : Nat))))]) (fun _ => []) (fun t' => A'.length - t') t hst2 (by (repeat' (first | exact trivial | exact rfl | (refine ⟨Or.inl rfl, ?_⟩) | (refine ⟨Or.inr rfl, ?_⟩) | (refine ⟨Or.inr trivial, ?_⟩) | (refine ⟨rfl, ?_⟩) | (refine ⟨?_, ?_⟩)))) (by (repeat' (first | exact trivial | exact rfl | (refine ⟨Or.inl rfl, ?_⟩) | (refine ⟨Or.inr rfl, ?_⟩) | (refine ⟨Or.inr trivial, ?_⟩) | (refine ⟨rfl, ?_⟩) | (refine ⟨?_, ?_⟩)))) ?_
              intro t' hst3
              by_cases hlt2 : t' < A'.length
              · have gt2 : ltb ((t' : Nat) : Int) ((A0.length : Nat) : Int) = true := by rw [ltb_t]; omega
                obtain ⟨⟨q2, y2⟩, hy2, _⟩ := drop_at hlt2
                have rr2 := hget2 _ _ hy2
                by_cases h02 : y2 ≤ 0
                · have gg2 : leb y2 0 = true := by rw [leb_t]; exact h02
                  repeat' (first | ((with_reducible refine gA ?_); (first | refine AW_seq ?_ | refine AW_region ?_ | (refine AW_condY rfl ?_ ?_; assumption) | refine AW_block ?_ | refine AW_skip ?_)) | ((with_reducible refine gS ?_); refine Es_s (T := Tryz.tab) rfl rfl rfl rfl ?_) | (((with_reducible refine gS ?_); apply Es_q); rfl; (first | rfl | (refine w_tt ?_; assumption)); (first | refine LStep_lenPart (T := Tryz.tab) rfl rfl rfl rfl rfl v2 | (refine LStep_indexPartM (T := Tryz.tab) rfl rfl rfl rfl rfl rfl rfl v2 ?_; omega) | refine LStep_fieldAddrE (T := Tryz.tab) rfl rfl rfl rfl _ _ rfl v2 | refine LStep_loadE (T := Tryz.tab) rfl rfl rfl rfl rfl v2 rr2 rfl)) | (((with_reducible refine gS ?_); apply Es_q); rfl; (first | rfl | (refine w_tt ?_; assumption)); (first | refine LStep_simp (T := Tryz.tab) rfl rfl | (refine LStep_add rfl rfl rfl rfl ?_; (refine IntWalk.i64_in _ ?_; first | omega | (simp only [cmps] at *; omega))) | (refine LStep_pickT rfl rfl ?_ rfl rfl; assumption))) | (with_reducible refine Es_nil ?_) | (with_reducible refine then_n ?_) | (with_reducible refine block_n ?_))
                  all_goals first
                    | (refine ⟨t' + 1, ?_, by omega, by (repeat' (first | exact trivial | exact rfl | (refine ⟨Or.inl rfl, ?_⟩) | (refine ⟨Or.inr rfl, ?_⟩) | (refine ⟨Or.inr trivial, ?_⟩) | (refine ⟨rfl, ?_⟩) | (refine ⟨?_, ?_⟩))), by (repeat' (first | exact trivial | exact rfl | (refine ⟨Or.inl rfl, ?_⟩) | (refine ⟨Or.inr rfl, ?_⟩) | (refine ⟨Or.inr trivial, ?_⟩) | (refine ⟨rfl, ?_⟩) | (refine ⟨?_, ?_⟩))), by (repeat' (first | exact trivial | exact rfl | (refine ⟨Or.inl rfl, ?_⟩) | (refine ⟨Or.inr rfl, ?_⟩) | (refine ⟨Or.inr trivial, ?_⟩) | (refine ⟨rfl, ?_⟩) | (refine ⟨?_, ?_⟩))), by (repeat' (first | exact trivial | exact rfl | (refine ⟨Or.inl rfl, ?_⟩) | (refine ⟨Or.inr rfl, ?_⟩) | (refine ⟨Or.inr trivial, ?_⟩) | (refine ⟨rfl, ?_⟩) | (refine ⟨?_, ?_⟩)))⟩; exact hst3.stepT hy2 h02)
                    | trace_state
                · have gg2 : leb y2 0 = false := by rw [leb_f]; omega
                  have htx : ∀ a, A'[t']? = some a → 0 < a.2 := fun a ha => by rw [hy2] at ha; cases ha; dsimp only; omega
                  repeat' (first | ((with_reducible refine gA ?_); (first | refine AW_seq ?_ | refine AW_region ?_ | (refine AW_condN rfl ?_ ?_; assumption) | refine AW_exit ?_)) | ((with_reducible refine gS ?_); refine Es_s (T := Tryz.tab) rfl rfl rfl rfl ?_) | (((with_reducible refine gS ?_); apply Es_q); rfl; (first | rfl | (refine w_tt ?_; assumption)); (first | refine LStep_lenPart (T := Tryz.tab) rfl rfl rfl rfl rfl v2 | (refine LStep_indexPartM (T := Tryz.tab) rfl rfl rfl rfl rfl rfl rfl v2 ?_; omega) | refine LStep_fieldAddrE (T := Tryz.tab) rfl rfl rfl rfl _ _ rfl v2 | refine LStep_loadE (T := Tryz.tab) rfl rfl rfl rfl rfl v2 rr2 rfl)) | (((with_reducible refine gS ?_); apply Es_q); rfl; (first | rfl | (refine w_tt ?_; assumption)); (first | refine LStep_simp (T := Tryz.tab) rfl rfl | (refine LStep_pickT rfl rfl ?_ rfl rfl; assumption))) | (with_reducible refine Es_nil ?_) | (with_reducible refine then_n ?_) | (with_reducible refine then_e ?_) | (with_reducible refine block_n ?_) | ((with_reducible refine block_e ?_ ?_); rfl))
                  all_goals first
                    | (refine ⟨(A', f', t', E ++ [((c, p, q), n)]), ⟨⟨hal', hst3, hbd', heq'⟩, hfx, htx⟩, by (dsimp only; simp only [List.length_append, List.length_cons, List.length_nil]; omega), ?_, by (repeat' (first | exact trivial | exact rfl | (refine ⟨Or.inl rfl, ?_⟩) | (refine ⟨Or.inr rfl, ?_⟩) | (refine ⟨Or.inr trivial, ?_⟩) | (refine ⟨rfl, ?_⟩) | (refine ⟨?_, ?_⟩))), ?_, by (repeat' (first | exact trivial | exact rfl | (refine ⟨Or.inl rfl, ?_⟩) | (refine ⟨Or.inr rfl, ?_⟩) | (refine ⟨Or.inr trivial, ?_⟩) | (refine ⟨rfl, ?_⟩) | (refine ⟨?_, ?_⟩)))⟩
                       · dsimp only; rw [hm]; (repeat' (first | exact trivial | exact rfl | (refine ⟨Or.inl rfl, ?_⟩) | (refine ⟨Or.inr rfl, ?_⟩) | (refine ⟨Or.inr trivial, ?_⟩) | (refine ⟨rfl, ?_⟩) | (refine ⟨?_, ?_⟩)))
                       · dsimp only; rw [hm, ← w2]; (repeat' (first | exact trivial | exact rfl | (refine ⟨Or.inl rfl, ?_⟩) | (refine ⟨Or.inr rfl, ?_⟩) | (refine ⟨Or.inr trivial, ?_⟩) | (refine ⟨rfl, ?_⟩) | (refine ⟨?_, ?_⟩))))
                    | trace_state
              · have gt2 : ltb ((t' : Nat) : Int) ((A0.length : Nat) : Int) = false := by rw [ltb_f]; omega
                have htx : ∀ a, A'[t']? = some a → 0 < a.2 := fun a ha => by rw [List.getElem?_eq_none (by omega)] at ha; cases ha
                repeat' (first | ((with_reducible refine gA ?_); (first | refine AW_seq ?_ | refine AW_region ?_ | refine AW_condF rfl ?_ | refine AW_exit ?_)) | ((with_reducible refine gS ?_); refine Es_s (T := Tryz.tab) rfl rfl rfl rfl ?_) | (((with_reducible refine gS ?_); apply Es_q); rfl; rfl; refine LStep_lenPart (T := Tryz.tab) rfl rfl rfl rfl rfl v2) | (((with_reducible refine gS ?_); apply Es_q); rfl; rfl; (refine LStep_pickF rfl rfl ?_ rfl rfl; assumption)) | (refine Es_skip rfl ?_ rfl ?_; (first | rfl | (refine w_tf ?_; assumption) | (refine w_ft ?_; assumption))) | (with_reducible refine Es_nil ?_) | (with_reducible refine then_n ?_) | (with_reducible refine then_e ?_) | (with_reducible refine block_n ?_) | ((with_reducible refine block_e ?_ ?_); rfl))
                all_goals first
                  | (refine ⟨(A', f', t', E ++ [((c, p, q), n)]), ⟨⟨hal', hst3, hbd', heq'⟩, hfx, htx⟩, by (dsimp only; simp only [List.length_append, List.length_cons, List.length_nil]; omega), ?_, by (repeat' (first | exact trivial | exact rfl | (refine ⟨Or.inl rfl, ?_⟩) | (refine ⟨Or.inr rfl, ?_⟩) | (refine ⟨Or.inr trivial, ?_⟩) | (refine ⟨rfl, ?_⟩) | (refine ⟨?_, ?_⟩))), ?_, by (repeat' (first | exact trivial | exact rfl | (refine ⟨Or.inl rfl, ?_⟩) | (refine ⟨Or.inr rfl, ?_⟩) | (refine ⟨Or.inr trivial, ?_⟩) | (refine ⟨rfl, ?_⟩) | (refine ⟨?_, ?_⟩)))⟩
                     · dsimp only; rw [hm]; (repeat' (first | exact trivial | exact rfl | (refine ⟨Or.inl rfl, ?_⟩) | (refine ⟨Or.inr rfl, ?_⟩) | (refine ⟨Or.inr trivial, ?_⟩) | (refine ⟨rfl, ?_⟩) | (refine ⟨?_, ?_⟩)))
                     · dsimp only; rw [hm, ← w2]; (repeat' (first | exact trivial | exact rfl | (refine ⟨Or.inl rfl, ?_⟩) | (refine ⟨Or.inr rfl, ?_⟩) | (refine ⟨Or.inr trivial, ?_⟩) | (refine ⟨rfl, ?_⟩) | (refine ⟨?_, ?_⟩))))
                  | trace_state
          · have gf2 : ltb ((f' : Nat) : Int) ((A0.length : Nat) : Int) = false := by rw [ltb_f]; omega
            have hfx : ∀ a, A'[f']? = some a → a.2 < 0 := fun a ha => by rw [List.getElem?_eq_none (by omega)] at ha; cases ha
            repeat' (first | ((with_reducible refine gA ?_); (first | refine AW_seq ?_ | refine AW_region ?_ | refine AW_condF rfl ?_ | refine AW_block ?_ | refine AW_exit ?_)) | ((with_reducible refine gS ?_); refine Es_s (T := Tryz.tab) rfl rfl rfl rfl ?_) | (((with_reducible refine gS ?_); apply Es_q); rfl; rfl; refine LStep_lenPart (T := Tryz.tab) rfl rfl rfl rfl rfl v2) | (((with_reducible refine gS ?_); apply Es_q); rfl; rfl; (refine LStep_pickF rfl rfl ?_ rfl rfl; assumption)) | (refine Es_skip rfl ?_ rfl ?_; (first | rfl | (refine w_tf ?_; assumption) | (refine w_ft ?_; assumption))) | (with_reducible refine Es_nil ?_) | (with_reducible refine then_n ?_) | (with_reducible refine then_e ?_) | ((with_reducible refine block_e ?_ ?_); rfl))
            refine AW_forE (S := Nat) (fun t' => SetSt A' f' t') (fun t' => [(6, .d (.sc (.int .i64 (t' : Nat))))]) (fun _ => []) (fun t' => A'.length - t') t hst2 (by (repeat' (first | exact trivial | exact rfl | (refine ⟨Or.inl rfl, ?_⟩) | (refine ⟨Or.inr rfl, ?_⟩) | (refine ⟨Or.inr trivial, ?_⟩) | (refine ⟨rfl, ?_⟩) | (refine ⟨?_, ?_⟩)))) (by (repeat' (first | exact trivial | exact rfl | (refine ⟨Or.inl rfl, ?_⟩) | (refine ⟨Or.inr rfl, ?_⟩) | (refine ⟨Or.inr trivial, ?_⟩) | (refine ⟨rfl, ?_⟩) | (refine ⟨?_, ?_⟩)))) ?_
            intro t' hst3
            by_cases hlt2 : t' < A'.length
            · have gt2 : ltb ((t' : Nat) : Int) ((A0.length : Nat) : Int) = true := by rw [ltb_t]; omega
              obtain ⟨⟨q2, y2⟩, hy2, _⟩ := drop_at hlt2
              have rr2 := hget2 _ _ hy2
              by_cases h02 : y2 ≤ 0
              · have gg2 : leb y2 0 = true := by rw [leb_t]; exact h02
                repeat' (first | ((with_reducible refine gA ?_); (first | refine AW_seq ?_ | refine AW_region ?_ | (refine AW_condY rfl ?_ ?_; assumption) | refine AW_block ?_ | refine AW_skip ?_)) | ((with_reducible refine gS ?_); refine Es_s (T := Tryz.tab) rfl rfl rfl rfl ?_) | (((with_reducible refine gS ?_); apply Es_q); rfl; (first | rfl | (refine w_tt ?_; assumption)); (first | refine LStep_lenPart (T := Tryz.tab) rfl rfl rfl rfl rfl v2 | (refine LStep_indexPartM (T := Tryz.tab) rfl rfl rfl rfl rfl rfl rfl v2 ?_; omega) | refine LStep_fieldAddrE (T := Tryz.tab) rfl rfl rfl rfl _ _ rfl v2 | refine LStep_loadE (T := Tryz.tab) rfl rfl rfl rfl rfl v2 rr2 rfl)) | (((with_reducible refine gS ?_); apply Es_q); rfl; (first | rfl | (refine w_tt ?_; assumption)); (first | refine LStep_simp (T := Tryz.tab) rfl rfl | (refine LStep_add rfl rfl rfl rfl ?_; (refine IntWalk.i64_in _ ?_; first | omega | (simp only [cmps] at *; omega))) | (refine LStep_pickT rfl rfl ?_ rfl rfl; assumption))) | (with_reducible refine Es_nil ?_) | (with_reducible refine then_n ?_) | (with_reducible refine block_n ?_))
                all_goals first
                  | (refine ⟨t' + 1, ?_, by omega, by (repeat' (first | exact trivial | exact rfl | (refine ⟨Or.inl rfl, ?_⟩) | (refine ⟨Or.inr rfl, ?_⟩) | (refine ⟨Or.inr trivial, ?_⟩) | (refine ⟨rfl, ?_⟩) | (refine ⟨?_, ?_⟩))), by (repeat' (first | exact trivial | exact rfl | (refine ⟨Or.inl rfl, ?_⟩) | (refine ⟨Or.inr rfl, ?_⟩) | (refine ⟨Or.inr trivial, ?_⟩) | (refine ⟨rfl, ?_⟩) | (refine ⟨?_, ?_⟩))), by (repeat' (first | exact trivial | exact rfl | (refine ⟨Or.inl rfl, ?_⟩) | (refine ⟨Or.inr rfl, ?_⟩) | (refine ⟨Or.inr trivial, ?_⟩) | (refine ⟨rfl, ?_⟩) | (refine ⟨?_, ?_⟩))), by (repeat' (first | exact trivial | exact rfl | (refine ⟨Or.inl rfl, ?_⟩) | (refine ⟨Or.inr rfl, ?_⟩) | (refine ⟨Or.inr trivial, ?_⟩) | (refine ⟨rfl, ?_⟩) | (refine ⟨?_, ?_⟩)))⟩; exact hst3.stepT hy2 h02)
                  | trace_state
              · have gg2 : leb y2 0 = false := by rw [leb_f]; omega
                have htx : ∀ a, A'[t']? = some a → 0 < a.2 := fun a ha => by rw [hy2] at ha; cases ha; dsimp only; omega
                repeat' (first | ((with_reducible refine gA ?_); (first | refine AW_seq ?_ | refine AW_region ?_ | (refine AW_condN rfl ?_ ?_; assumption) | refine AW_exit ?_)) | ((with_reducible refine gS ?_); refine Es_s (T := Tryz.tab) rfl rfl rfl rfl ?_) | (((with_reducible refine gS ?_); apply Es_q); rfl; (first | rfl | (refine w_tt ?_; assumption)); (first | refine LStep_lenPart (T := Tryz.tab) rfl rfl rfl rfl rfl v2 | (refine LStep_indexPartM (T := Tryz.tab) rfl rfl rfl rfl rfl rfl rfl v2 ?_; omega) | refine LStep_fieldAddrE (T := Tryz.tab) rfl rfl rfl rfl _ _ rfl v2 | refine LStep_loadE (T := Tryz.tab) rfl rfl rfl rfl rfl v2 rr2 rfl)) | (((with_reducible refine gS ?_); apply Es_q); rfl; (first | rfl | (refine w_tt ?_; assumption)); (first | refine LStep_simp (T := Tryz.tab) rfl rfl | (refine LStep_pickT rfl rfl ?_ rfl rfl; assumption))) | (with_reducible refine Es_nil ?_) | (with_reducible refine then_n ?_) | (with_reducible refine then_e ?_) | (with_reducible refine block_n ?_) | ((with_reducible refine block_e ?_ ?_); rfl))
                all_goals first
                  | (refine ⟨(A', f', t', E ++ [((c, p, q), n)]), ⟨⟨hal', hst3, hbd', heq'⟩, hfx, htx⟩, by (dsimp only; simp only [List.length_append, List.length_cons, List.length_nil]; omega), ?_, by (repeat' (first | exact trivial | exact rfl | (refine ⟨Or.inl rfl, ?_⟩) | (refine ⟨Or.inr rfl, ?_⟩) | (refine ⟨Or.inr trivial, ?_⟩) | (refine ⟨rfl, ?_⟩) | (refine ⟨?_, ?_⟩))), ?_, by (repeat' (first | exact trivial | exact rfl | (refine ⟨Or.inl rfl, ?_⟩) | (refine ⟨Or.inr rfl, ?_⟩) | (refine ⟨Or.inr trivial, ?_⟩) | (refine ⟨rfl, ?_⟩) | (refine ⟨?_, ?_⟩)))⟩
                     · dsimp only; rw [hm]; (repeat' (first | exact trivial | exact rfl | (refine ⟨Or.inl rfl, ?_⟩) | (refine ⟨Or.inr rfl, ?_⟩) | (refine ⟨Or.inr trivial, ?_⟩) | (refine ⟨rfl, ?_⟩) | (refine ⟨?_, ?_⟩)))
                     · dsimp only; rw [hm, ← w2]; (repeat' (first | exact trivial | exact rfl | (refine ⟨Or.inl rfl, ?_⟩) | (refine ⟨Or.inr rfl, ?_⟩) | (refine ⟨Or.inr trivial, ?_⟩) | (refine ⟨rfl, ?_⟩) | (refine ⟨?_, ?_⟩))))
                  | trace_state
            · have gt2 : ltb ((t' : Nat) : Int) ((A0.length : Nat) : Int) = false := by rw [ltb_f]; omega
              have htx : ∀ a, A'[t']? = some a → 0 < a.2 := fun a ha => by rw [List.getElem?_eq_none (by omega)] at ha; cases ha
              repeat' (first | ((with_reducible refine gA ?_); (first | refine AW_seq ?_ | refine AW_region ?_ | refine AW_condF rfl ?_ | refine AW_exit ?_)) | ((with_reducible refine gS ?_); refine Es_s (T := Tryz.tab) rfl rfl rfl rfl ?_) | (((with_reducible refine gS ?_); apply Es_q); rfl; rfl; refine LStep_lenPart (T := Tryz.tab) rfl rfl rfl rfl rfl v2) | (((with_reducible refine gS ?_); apply Es_q); rfl; rfl; (refine LStep_pickF rfl rfl ?_ rfl rfl; assumption)) | (refine Es_skip rfl ?_ rfl ?_; (first | rfl | (refine w_tf ?_; assumption) | (refine w_ft ?_; assumption))) | (with_reducible refine Es_nil ?_) | (with_reducible refine then_n ?_) | (with_reducible refine then_e ?_) | (with_reducible refine block_n ?_) | ((with_reducible refine block_e ?_ ?_); rfl))
              all_goals first
                | (refine ⟨(A', f', t', E ++ [((c, p, q), n)]), ⟨⟨hal', hst3, hbd', heq'⟩, hfx, htx⟩, by (dsimp only; simp only [List.length_append, List.length_cons, List.length_nil]; omega), ?_, by (repeat' (first | exact trivial | exact rfl | (refine ⟨Or.inl rfl, ?_⟩) | (refine ⟨Or.inr rfl, ?_⟩) | (refine ⟨Or.inr trivial, ?_⟩) | (refine ⟨rfl, ?_⟩) | (refine ⟨?_, ?_⟩))), ?_, by (repeat' (first | exact trivial | exact rfl | (refine ⟨Or.inl rfl, ?_⟩) | (refine ⟨Or.inr rfl, ?_⟩) | (refine ⟨Or.inr trivial, ?_⟩) | (refine ⟨rfl, ?_⟩) | (refine ⟨?_, ?_⟩)))⟩
                   · dsimp only; rw [hm]; (repeat' (first | exact trivial | exact rfl | (refine ⟨Or.inl rfl, ?_⟩) | (refine ⟨Or.inr rfl, ?_⟩) | (refine ⟨Or.inr trivial, ?_⟩) | (refine ⟨rfl, ?_⟩) | (refine ⟨?_, ?_⟩)))
                   · dsimp only; rw [hm, ← w2]; (repeat' (first | exact trivial | exact rfl | (refine ⟨Or.inl rfl, ?_⟩) | (refine ⟨Or.inr rfl, ?_⟩) | (refine ⟨Or.inr trivial, ?_⟩) | (refine ⟨rfl, ?_⟩) | (refine ⟨?_, ?_⟩))))
                | trace_state
        · have hE : E = R := by
            have := hp.eq
            rw [show setA A = [] from by unfold setA; rw [hp.st.outT (by omega), set2_nilR]] at this
            simpa [tagC] using this
          have gtl : ltb ((t : Nat) : Int) ((A0.length : Nat) : Int) = false := by rw [ltb_f]; omega
          repeat' (first | ((with_reducible refine gRc ?_); refine AW_freeze [2] (id := 2000) ⟨rfl, trivial⟩ rfl rfl ?_) | ((with_reducible refine gA ?_); (first | refine AW_seq ?_ | refine AW_region ?_ | (refine AW_condN rfl ?_ ?_; assumption) | refine AW_ret ?_ | refine AW_exit ?_)) | ((with_reducible refine gS ?_); refine Es_s (T := Tryz.tab) rfl rfl rfl rfl ?_) | (((with_reducible refine gS ?_); apply Es_q); rfl; (first | rfl | (refine w_tt ?_; assumption)); refine LStep_lenPart (T := Tryz.tab) rfl rfl rfl rfl rfl hNA) | (((with_reducible refine gS ?_); apply Es_q); rfl; (first | rfl | (refine w_tt ?_; assumption)); (first | refine LStep_simp (T := Tryz.tab) rfl rfl | (refine LStep_pickT rfl rfl ?_ rfl rfl; assumption))) | (with_reducible refine Es_nil ?_) | (with_reducible refine then_n ?_) | (with_reducible refine then_e ?_) | ((with_reducible refine block_e ?_ ?_); rfl) | ((with_reducible refine gR ?_); first | refine ret1 rfl ?_ | refine ret2 rfl rfl ?_ | refine ret0 ?_ | refine end1 rfl ?_ | refine end0 ?_))
          all_goals first
            | exact ⟨A, hal, by rw [hE], by (repeat' (first | exact trivial | exact rfl | (refine ⟨Or.inl rfl, ?_⟩) | (refine ⟨Or.inr rfl, ?_⟩) | (refine ⟨Or.inr trivial, ?_⟩) | (refine ⟨rfl, ?_⟩) | (refine ⟨?_, ?_⟩)))⟩
            | trace_state
      · have hE : E = R := by
          have := hp.eq
          rw [show setA A = [] from by unfold setA; rw [hp.st.outF (by omega), set2_nilL]] at this
          simpa [tagC] using this
        have gfl : ltb ((f : Nat) : Int) ((A0.length : Nat) : Int) = false := by rw [ltb_f]; omega
        repeat' (first | ((with_reducible refine gRc ?_); refine AW_freeze [2] (id := 2000) ⟨rfl, trivial⟩ rfl rfl ?_) | ((with_reducible refine gA ?_); (first | refine AW_seq ?_ | refine AW_region ?_ | refine AW_condF rfl ?_ | refine AW_ret ?_ | refine AW_exit ?_)) | ((with_reducible refine gS ?_); refine Es_s (T := Tryz.tab) rfl rfl rfl rfl ?_) | (((with_reducible refine gS ?_); apply Es_q); rfl; (first | rfl | (refine w_tt ?_; assumption)); refine LStep_lenPart (T := Tryz.tab) rfl rfl rfl rfl rfl hNA) | (((with_reducible refine gS ?_); apply Es_q); rfl; (first | rfl | (refine w_tt ?_; assumption)); (first | refine LStep_simp (T := Tryz.tab) rfl rfl | (refine LStep_pickT rfl rfl ?_ rfl rfl; assumption) | (refine LStep_pickF rfl rfl ?_ rfl rfl; assumption))) | (refine Es_skip rfl ?_ rfl ?_; (first | rfl | (refine w_tf ?_; assumption) | (refine w_ft ?_; assumption))) | (with_reducible refine Es_nil ?_) | (with_reducible refine then_n ?_) | (with_reducible refine then_e ?_) | ((with_reducible refine block_e ?_ ?_); rfl) | ((with_reducible refine gR ?_); first | refine ret1 rfl ?_ | refine ret2 rfl rfl ?_ | refine ret0 ?_ | refine end1 rfl ?_ | refine end0 ?_))
        all_goals first
          | exact ⟨A, hal, by rw [hE], by (repeat' (first | exact trivial | exact rfl | (refine ⟨Or.inl rfl, ?_⟩) | (refine ⟨Or.inr rfl, ?_⟩) | (refine ⟨Or.inr trivial, ?_⟩) | (refine ⟨rfl, ?_⟩) | (refine ⟨?_, ?_⟩)))⟩
          | trace_state
end
end Go.Proofs.YtofdnkgieigncaaGreat
