import Derived.Test.YtgikjdkdakfnkaaDoorBA
namespace Go.Proofs.YtgikjdkdakfnkaaDoor
open Go.SL
/-! ### BayPlays -/
set_option maxRecDepth 10000 in
set_option maxHeartbeats 16000000 in
theorem plays_ac (S : Ship) (ops : List BOp) (s : Sl) (box : ByteArray) (port : Int) (hl : ops.length ≤ 140737488351232) (hs : ∀ o ∈ ops, o.bx.size ≤ 140737488351232 ∧ o.l.box.size ≤ 140737488351232) (hn : S.nm.size ≤ 140737488351232) : AC Tryd.prog 3 [.agg S.cs, .d (.sl 9 (ops.map BOp.enc)), slA s, .d (.sc (.string box)), .d (.sc (.int .i64 port))] [hG] [9000] (fun r h' => r = .d (.sc (.bool true)) ∧ SubH [hG] h') := by
  have ca := awake2_ac
  have c0 := long_ac ops hl hs
  have c1 := rmay_ac S (by omega)
  have c2 := may_ac S
  have f00 : eqb 0 0 = true := eqb_t.2 rfl
  have f11 : eqb 1 1 = true := eqb_t.2 rfl
  have f10 : eqb 1 0 = false := by rw [eqb_f]; omega
  cases e0 : longL ops with
  | true =>
    rw [e0] at c0
    refine AC_enter Tryd.func3 rfl Tryd.ntmps3 (rv := [.tmp 10]) rfl rfl (by simp) (fun w X G => ?_)
    repeat' (first | ((with_reducible refine gA ?_); (first | refine AW_seq ?_ | refine AW_region ?_ | refine AW_condT rfl ?_ | refine AW_ret ?_)) | ((with_reducible refine gS ?_); refine Es_s (T := Tryd.tab) rfl rfl rfl rfl ?_) | (((with_reducible refine gS ?_); apply Es_q); rfl; rfl; (first | refine LStep_call (c0) rfl rfl rfl rfl | refine LStep_callB ca rfl rfl ⟨rfl, trivial⟩ rfl rfl)) | (refine Es_skip rfl ?_ rfl ?_; (first | rfl | (refine w_tf ?_; assumption) | (refine w_ft ?_; assumption))) | (((with_reducible refine gS ?_); apply Es_xs); rfl; rfl; refine LStep_boxN rfl rfl rfl rfl rfl rfl; rfl) | (with_reducible refine Es_nil ?_) | (with_reducible refine then_n ?_) | (with_reducible refine then_r ?_) | ((with_reducible refine gR ?_); first | refine ret1 rfl ?_ | refine ret2 rfl rfl ?_ | refine ret0 ?_ | refine end1 rfl ?_ | refine end0 ?_))
    all_goals first
      | exact ⟨rfl, by (repeat' (first | exact trivial | exact rfl | (refine ⟨Or.inl rfl, ?_⟩) | (refine ⟨Or.inr rfl, ?_⟩) | (refine ⟨Or.inr trivial, ?_⟩) | (refine ⟨rfl, ?_⟩) | (refine ⟨?_, ?_⟩)))⟩
      | trace_state
  | false =>
  rw [e0] at c0
  cases e1 : shipOk S with
  | false =>
    have cn := newNo_ac S e1
    rw [e1] at c1 c2
    have g1 : (!(eqb 1 0 == false)) = false := by rw [f10]; rfl
    refine AC_enter Tryd.func3 rfl Tryd.ntmps3 (rv := [.tmp 10]) rfl rfl (by simp) (fun w X G => ?_)
    repeat' (first | ((with_reducible refine gA ?_); (first | refine AW_seq ?_ | refine AW_region ?_ | refine AW_regionD Tryd.mixed ?_ | refine AW_condT rfl ?_ | refine AW_condF rfl ?_ | (refine AW_cond rfl (fun hc => ?_) (fun hc => ?_) <;> try (exfalso; simp only [cmpL] at hc; omega)) | refine AW_ret ?_ | refine AW_skip ?_)) | (first | ((with_reducible refine gS ?_); refine Es_s (T := Tryd.tab) rfl rfl rfl rfl ?_) | ((with_reducible refine gD ?_); refine Ed_s (T := Tryd.tab) rfl rfl rfl rfl ?_)) | ((first | ((with_reducible refine gS ?_); apply Es_q) | ((with_reducible refine gD ?_); apply Ed_q)); rfl; (first | rfl | (refine w_tt ?_; assumption) | (refine w_ff ?_; assumption)); (first | refine LStep_call (c0) rfl rfl rfl rfl | refine LStep_call (c1) rfl rfl rfl rfl | refine LStep_call (c2) rfl rfl rfl rfl | refine LStep_call (cn) rfl rfl rfl rfl | refine LStep_neBool (T := Tryd.tab) rfl rfl rfl rfl rfl | refine LStep_eqBool (T := Tryd.tab) rfl rfl rfl rfl rfl | refine LStep_eqNilN (T := Tryd.tab) rfl rfl rfl rfl | refine LStep_callB ca rfl rfl ⟨rfl, trivial⟩ rfl rfl)) | ((first | ((with_reducible refine gS ?_); apply Es_q) | ((with_reducible refine gD ?_); apply Ed_q)); rfl; (first | rfl | (refine w_ff ?_; assumption)); (first | refine LStep_simp (T := Tryd.tab) rfl rfl | refine LStep_wrap (T := Tryd.tab) rfl rfl | (refine LStep_pickT rfl rfl ?_ rfl rfl; assumption) | (refine LStep_pickF rfl rfl ?_ rfl rfl; assumption))) | (refine Es_skip rfl ?_ rfl ?_; (first | rfl | (refine w_tf ?_; assumption) | (refine w_ft ?_; assumption))) | (((with_reducible refine gS ?_); apply Es_xs); rfl; rfl; refine LStep_boxN rfl rfl rfl rfl rfl rfl; rfl) | (refine Es_split rfl ?_ (fun _ => ?_) (fun _ => ?_); ((fail_if_success (refine und_t ?_; assumption)); (fail_if_success (refine und_f ?_; assumption)); exact trivial)) | (with_reducible refine Es_nil ?_) | ((with_reducible refine Ed_nil ?_ ?_); kernel_rfl) | (with_reducible refine then_n ?_) | (with_reducible refine then_r ?_) | ((with_reducible refine gR ?_); first | refine ret1 rfl ?_ | refine ret2 rfl rfl ?_ | refine ret0 ?_ | refine end1 rfl ?_ | refine end0 ?_))
    all_goals first
      | exact ⟨rfl, by (repeat' (first | exact trivial | exact rfl | (refine ⟨Or.inl rfl, ?_⟩) | (refine ⟨Or.inr rfl, ?_⟩) | (refine ⟨Or.inr trivial, ?_⟩) | (refine ⟨rfl, ?_⟩) | (refine ⟨?_, ?_⟩)))⟩
      | trace_state
  | true =>
  have cn := newOk_ac S e1
  rw [e1] at c1 c2
  have g1 : (!(eqb 0 0 == true)) = false := by rw [f00]; rfl
  obtain ⟨o1, o2⟩ := longL_f e0
  obtain ⟨hv, hlen⟩ := played e1 o2
  have cp := play_ac S ops e1 o2 o1
  generalize playS S [] ops = L at cp hv hlen
  have hd := lsort_doc hv.nS
  have hdl : (lsort L).length ≤ 60 := by rw [hd.perm.length_eq]; exact hlen
  have hn1 : ((lsort L).map (·.sl)).Nodup := (hd.perm.map _).nodup_iff.2 hv.nS
  have hn2 : ((lsort L).map (·.box)).Nodup := (hd.perm.map _).nodup_iff.2 hv.nB
  have d1 := at_ac S L s
  have d2 := rAt_ac (lsort L) s (by omega)
  have d3 := find_ac S L box
  have d4 := rFind_ac (lsort L) box (by omega)
  have d5 := over2_ac S L port hv.toInv e1
  have d6 := rOver_ac (lsort L) port (by omega)
  rw [overD_perm hd.perm] at d6
  have d7 := stack2_ac S L s.b s.r hv.toInv e1
  have d8 := rStack_ac (lsort L) s.b s.r (by omega) (fun y hy => load_in hv.toInv y (hd.perm.mem_iff.1 hy))
  rw [stW_perm hd.perm] at d8
  have g5 : eqb (overD L port) (overD L port) = true := eqb_t.2 rfl
  have g6 : eqb (stW L s.b s.r) (stW L s.b s.r) = true := eqb_t.2 rfl
  have gz : (!(zL.eqB zL)) = false := by rw [load_self]; rfl
  generalize overD L port = ov at *
  generalize stW L s.b s.r = sw at *
  have m1 : leb 0 (-1) = false := by rw [leb_f]; omega
  have m2 : (!(false == leb 0 (-1))) = false := by rw [m1]; rfl
  rcases at_place hn1 s with ⟨p1, p2⟩ | ⟨i, y, pi, p1, p2⟩ <;> rcases by_place hn2 box with ⟨q1, q2⟩ | ⟨j, z, qj, q1, q2⟩
  · rw [doc_at hd hv.toInv] at p1
    rw [p1] at d1
    rw [p2] at d2
    rw [doc_by hd hv.toInv] at q1
    rw [q1] at d3
    rw [q2] at d4
    generalize lsort L = D at *
    clear hd hn1 hn2 hv o1 hs e1 p1 p2 q1 q2
    refine AC_enter Tryd.func3 rfl Tryd.ntmps3 (rv := [.tmp 10]) rfl rfl (by simp) (fun w X G => ?_)
    repeat' (first | ((with_reducible refine gA ?_); (first | refine AW_seq ?_ | refine AW_region ?_ | refine AW_regionD Tryd.mixed ?_ | refine AW_condT rfl ?_ | refine AW_condF rfl ?_ | (refine AW_condN rfl ?_ ?_; assumption) | (refine AW_cond rfl (fun hc => ?_) (fun hc => ?_) <;> try (exfalso; simp only [cmpL] at hc; omega)) | refine AW_ret ?_ | refine AW_skip ?_)) | (first | ((with_reducible refine gS ?_); refine Es_s (T := Tryd.tab) rfl rfl rfl rfl ?_) | ((with_reducible refine gD ?_); refine Ed_s (T := Tryd.tab) rfl rfl rfl rfl ?_)) | ((first | ((with_reducible refine gS ?_); apply Es_q) | ((with_reducible refine gD ?_); apply Ed_q)); rfl; (first | rfl | (refine w_tt ?_; assumption) | (refine w_ff ?_; assumption)); (first | refine LStep_call (c0) rfl rfl rfl rfl | refine LStep_call (c1) rfl rfl rfl rfl | refine LStep_call (c2) rfl rfl rfl rfl | refine LStep_call (d2) rfl rfl rfl rfl | refine LStep_call (d4) rfl rfl rfl rfl | refine LStep_call (d6) rfl rfl rfl rfl | refine LStep_call (d8) rfl rfl rfl rfl | refine LStep_eqNilP (T := Tryd.tab) rfl rfl rfl rfl | refine LStep_neBool (T := Tryd.tab) rfl rfl rfl rfl rfl | refine LStep_eqBool (T := Tryd.tab) rfl rfl rfl rfl rfl | refine LStep_neqAgg (T := Tryd.tab) eqS_load eqG_load (by omega) rfl rfl rfl rfl rfl rfl | refine LStep_callB d5 rfl rfl ⟨rfl, rfl, rfl, trivial⟩ rfl rfl | refine LStep_callB d7 rfl rfl ⟨rfl, rfl, rfl, trivial⟩ rfl rfl | refine LStep_callB ca rfl rfl ⟨rfl, trivial⟩ rfl rfl)) | ((first | ((with_reducible refine gS ?_); apply Es_xg) | ((with_reducible refine gD ?_); apply Ed_xg)); rfl; (first | rfl | (refine w_tt ?_; assumption) | (refine w_ff ?_; assumption)); (first | refine LStep_callHN [] [(11, 36), (8, 3601), (9, 3602)] cn rfl rfl trivial rfl trivial rfl rfl | refine LStep_callHN [] [(19, 1000), (1901, 1001), (1902, 1002)] cp rfl rfl ⟨rfl, trivial⟩ rfl ⟨trivial, trivial⟩ rfl rfl | refine LStep_callHN [] [] d1 rfl rfl ⟨rfl, rfl, rfl, trivial⟩ rfl ⟨trivial, trivial, trivial, trivial⟩ rfl rfl | refine LStep_callHN [] [] d3 rfl rfl ⟨rfl, rfl, rfl, trivial⟩ rfl ⟨trivial, trivial, trivial, trivial⟩ rfl rfl); rfl) | ((first | ((with_reducible refine gS ?_); apply Es_q) | ((with_reducible refine gD ?_); apply Ed_q)); rfl; (first | rfl | (refine w_tt ?_; assumption) | (refine w_ff ?_; assumption)); (first | refine LStep_simp (T := Tryd.tab) rfl rfl | refine LStep_wrap (T := Tryd.tab) rfl rfl | (refine LStep_pickT rfl rfl ?_ rfl rfl; assumption) | (refine LStep_pickF rfl rfl ?_ rfl rfl; assumption) | refine LStep_buildN (T := Tryd.tab) rfl rfl rfl rfl rfl rfl rfl)) | ((first | refine Es_skip rfl ?_ rfl ?_ | refine Ed_skip rfl ?_ rfl ?_); (first | rfl | (refine w_tf ?_; assumption) | (refine w_ft ?_; assumption))) | (((with_reducible refine gS ?_); apply Es_xs); rfl; rfl; (first | refine LStep_boxN rfl rfl rfl rfl rfl rfl | refine LStep_allocN (T := Tryd.tab) rfl rfl rfl rfl rfl rfl); rfl) | (((with_reducible refine gS ?_); apply Es_xn); rfl; rfl; (refine LStep_storeN (T := Tryd.tab) rfl rfl rfl rfl rfl rfl rfl ?_ rfl; (refine Nat.le_of_ble_eq_true ?_; rfl)); rfl) | (refine Es_split rfl ?_ (fun _ => ?_) (fun _ => ?_); ((fail_if_success (refine und_t ?_; assumption)); (fail_if_success (refine und_f ?_; assumption)); exact trivial)) | (with_reducible refine Es_nil ?_) | ((with_reducible refine Ed_nil ?_ ?_); kernel_rfl) | (with_reducible refine then_n ?_) | (with_reducible refine then_r ?_) | ((with_reducible refine gR ?_); first | refine ret1 rfl ?_ | refine ret2 rfl rfl ?_ | refine ret0 ?_ | refine end1 rfl ?_ | refine end0 ?_))
    all_goals first
      | exact ⟨rfl, by (repeat' (first | exact trivial | exact rfl | (refine ⟨Or.inl rfl, ?_⟩) | (refine ⟨Or.inr rfl, ?_⟩) | (refine ⟨Or.inr trivial, ?_⟩) | (refine ⟨rfl, ?_⟩) | (refine ⟨?_, ?_⟩)))⟩
      | trace_state
  · rw [doc_at hd hv.toInv] at p1
    rw [p1] at d1
    rw [p2] at d2
    rw [doc_by hd hv.toInv] at q1
    rw [q1] at d3
    rw [q2] at d4
    have b1 : leb 0 (j : Nat) = true := by rw [leb_t]; omega
    have b2 : (!(true == leb 0 (j : Nat))) = false := by rw [b1]; rfl
    have b3 : (!(z.eqB z)) = false := by rw [load_self]; rfl
    generalize lsort L = D at *
    clear hd hn1 hn2 hv o1 hs e1 p1 p2 q1 q2
    refine AC_enter Tryd.func3 rfl Tryd.ntmps3 (rv := [.tmp 10]) rfl rfl (by simp) (fun w X G => ?_)
    repeat' (first | ((with_reducible refine gA ?_); (first | refine AW_seq ?_ | refine AW_region ?_ | refine AW_regionD Tryd.mixed ?_ | refine AW_condT rfl ?_ | refine AW_condF rfl ?_ | (refine AW_cond rfl (fun hc => ?_) (fun hc => ?_) <;> try (exfalso; simp only [cmpL] at hc; omega)) | refine AW_ret ?_ | refine AW_skip ?_)) | (first | ((with_reducible refine gS ?_); refine Es_s (T := Tryd.tab) rfl rfl rfl rfl ?_) | ((with_reducible refine gD ?_); refine Ed_s (T := Tryd.tab) rfl rfl rfl rfl ?_)) | ((first | ((with_reducible refine gS ?_); apply Es_q) | ((with_reducible refine gD ?_); apply Ed_q)); rfl; (first | rfl | (refine w_tt ?_; assumption) | (refine w_ff ?_; assumption)); (first | refine LStep_call (c0) rfl rfl rfl rfl | refine LStep_call (c1) rfl rfl rfl rfl | refine LStep_call (c2) rfl rfl rfl rfl | refine LStep_call (d2) rfl rfl rfl rfl | refine LStep_call (d4) rfl rfl rfl rfl | refine LStep_call (d6) rfl rfl rfl rfl | refine LStep_call (d8) rfl rfl rfl rfl | refine LStep_eqNilP (T := Tryd.tab) rfl rfl rfl rfl | refine LStep_neBool (T := Tryd.tab) rfl rfl rfl rfl rfl | refine LStep_eqBool (T := Tryd.tab) rfl rfl rfl rfl rfl | refine LStep_neqAgg (T := Tryd.tab) eqS_load eqG_load (by omega) rfl rfl rfl rfl rfl rfl | refine LStep_callB d5 rfl rfl ⟨rfl, rfl, rfl, trivial⟩ rfl rfl | refine LStep_callB d7 rfl rfl ⟨rfl, rfl, rfl, trivial⟩ rfl rfl | refine LStep_callB ca rfl rfl ⟨rfl, trivial⟩ rfl rfl)) | ((first | ((with_reducible refine gS ?_); apply Es_xg) | ((with_reducible refine gD ?_); apply Ed_xg)); rfl; (first | rfl | (refine w_tt ?_; assumption) | (refine w_ff ?_; assumption)); (first | refine LStep_callHN [] [(11, 36), (8, 3601), (9, 3602)] cn rfl rfl trivial rfl trivial rfl rfl | refine LStep_callHN [] [(19, 1000), (1901, 1001), (1902, 1002)] cp rfl rfl ⟨rfl, trivial⟩ rfl ⟨trivial, trivial⟩ rfl rfl | refine LStep_callHN [] [] d1 rfl rfl ⟨rfl, rfl, rfl, trivial⟩ rfl ⟨trivial, trivial, trivial, trivial⟩ rfl rfl | refine LStep_callHN [] [] d3 rfl rfl ⟨rfl, rfl, rfl, trivial⟩ rfl ⟨trivial, trivial, trivial, trivial⟩ rfl rfl); rfl) | ((first | ((with_reducible refine gS ?_); apply Es_q) | ((with_reducible refine gD ?_); apply Ed_q)); rfl; (first | rfl | (refine w_tt ?_; assumption) | (refine w_ff ?_; assumption)); (first | refine LStep_simp (T := Tryd.tab) rfl rfl | refine LStep_wrap (T := Tryd.tab) rfl rfl | (refine LStep_pickT rfl rfl ?_ rfl rfl; assumption) | (refine LStep_pickF rfl rfl ?_ rfl rfl; assumption) | (refine LStep_indexM (T := Tryd.tab) (c := ?_) rfl rfl rfl rfl rfl rfl ?_; rotate_left; assumption) | refine LStep_buildN (T := Tryd.tab) rfl rfl rfl rfl rfl rfl rfl)) | ((first | refine Es_skip rfl ?_ rfl ?_ | refine Ed_skip rfl ?_ rfl ?_); (first | rfl | (refine w_tf ?_; assumption) | (refine w_ft ?_; assumption))) | (((with_reducible refine gS ?_); apply Es_xs); rfl; rfl; (first | refine LStep_boxN rfl rfl rfl rfl rfl rfl | refine LStep_allocN (T := Tryd.tab) rfl rfl rfl rfl rfl rfl); rfl) | (((with_reducible refine gS ?_); apply Es_xn); rfl; rfl; (refine LStep_storeN (T := Tryd.tab) rfl rfl rfl rfl rfl rfl rfl ?_ rfl; (refine Nat.le_of_ble_eq_true ?_; rfl)); rfl) | (refine Es_split rfl ?_ (fun _ => ?_) (fun _ => ?_); ((fail_if_success (refine und_t ?_; assumption)); (fail_if_success (refine und_f ?_; assumption)); exact trivial)) | (with_reducible refine Es_nil ?_) | ((with_reducible refine Ed_nil ?_ ?_); kernel_rfl) | (with_reducible refine then_n ?_) | (with_reducible refine then_r ?_) | ((with_reducible refine gR ?_); first | refine ret1 rfl ?_ | refine ret2 rfl rfl ?_ | refine ret0 ?_ | refine end1 rfl ?_ | refine end0 ?_))
    all_goals first
      | exact ⟨rfl, by (repeat' (first | exact trivial | exact rfl | (refine ⟨Or.inl rfl, ?_⟩) | (refine ⟨Or.inr rfl, ?_⟩) | (refine ⟨Or.inr trivial, ?_⟩) | (refine ⟨rfl, ?_⟩) | (refine ⟨?_, ?_⟩)))⟩
      | trace_state
  · rw [doc_at hd hv.toInv] at p1
    rw [p1] at d1
    rw [p2] at d2
    have a1 : leb 0 (i : Nat) = true := by rw [leb_t]; omega
    have a2 : (!(true == leb 0 (i : Nat))) = false := by rw [a1]; rfl
    have a3 : (!(y.eqB y)) = false := by rw [load_self]; rfl
    rw [doc_by hd hv.toInv] at q1
    rw [q1] at d3
    rw [q2] at d4
    generalize lsort L = D at *
    clear hd hn1 hn2 hv o1 hs e1 p1 p2 q1 q2
    refine AC_enter Tryd.func3 rfl Tryd.ntmps3 (rv := [.tmp 10]) rfl rfl (by simp) (fun w X G => ?_)
    repeat' (first | ((with_reducible refine gA ?_); (first | refine AW_seq ?_ | refine AW_region ?_ | refine AW_regionD Tryd.mixed ?_ | refine AW_condT rfl ?_ | refine AW_condF rfl ?_ | (refine AW_condN rfl ?_ ?_; assumption) | (refine AW_cond rfl (fun hc => ?_) (fun hc => ?_) <;> try (exfalso; simp only [cmpL] at hc; omega)) | refine AW_ret ?_ | refine AW_skip ?_)) | (first | ((with_reducible refine gS ?_); refine Es_s (T := Tryd.tab) rfl rfl rfl rfl ?_) | ((with_reducible refine gD ?_); refine Ed_s (T := Tryd.tab) rfl rfl rfl rfl ?_)) | ((first | ((with_reducible refine gS ?_); apply Es_q) | ((with_reducible refine gD ?_); apply Ed_q)); rfl; (first | rfl | (refine w_tt ?_; assumption) | (refine w_ff ?_; assumption)); (first | refine LStep_call (c0) rfl rfl rfl rfl | refine LStep_call (c1) rfl rfl rfl rfl | refine LStep_call (c2) rfl rfl rfl rfl | refine LStep_call (d2) rfl rfl rfl rfl | refine LStep_call (d4) rfl rfl rfl rfl | refine LStep_call (d6) rfl rfl rfl rfl | refine LStep_call (d8) rfl rfl rfl rfl | refine LStep_eqNilP (T := Tryd.tab) rfl rfl rfl rfl | refine LStep_neBool (T := Tryd.tab) rfl rfl rfl rfl rfl | refine LStep_eqBool (T := Tryd.tab) rfl rfl rfl rfl rfl | refine LStep_neqAgg (T := Tryd.tab) eqS_load eqG_load (by omega) rfl rfl rfl rfl rfl rfl | refine LStep_callB d5 rfl rfl ⟨rfl, rfl, rfl, trivial⟩ rfl rfl | refine LStep_callB d7 rfl rfl ⟨rfl, rfl, rfl, trivial⟩ rfl rfl | refine LStep_callB ca rfl rfl ⟨rfl, trivial⟩ rfl rfl)) | ((first | ((with_reducible refine gS ?_); apply Es_xg) | ((with_reducible refine gD ?_); apply Ed_xg)); rfl; (first | rfl | (refine w_tt ?_; assumption) | (refine w_ff ?_; assumption)); (first | refine LStep_callHN [] [(11, 36), (8, 3601), (9, 3602)] cn rfl rfl trivial rfl trivial rfl rfl | refine LStep_callHN [] [(19, 1000), (1901, 1001), (1902, 1002)] cp rfl rfl ⟨rfl, trivial⟩ rfl ⟨trivial, trivial⟩ rfl rfl | refine LStep_callHN [] [] d1 rfl rfl ⟨rfl, rfl, rfl, trivial⟩ rfl ⟨trivial, trivial, trivial, trivial⟩ rfl rfl | refine LStep_callHN [] [] d3 rfl rfl ⟨rfl, rfl, rfl, trivial⟩ rfl ⟨trivial, trivial, trivial, trivial⟩ rfl rfl); rfl) | ((first | ((with_reducible refine gS ?_); apply Es_q) | ((with_reducible refine gD ?_); apply Ed_q)); rfl; (first | rfl | (refine w_tt ?_; assumption) | (refine w_ff ?_; assumption)); (first | refine LStep_simp (T := Tryd.tab) rfl rfl | refine LStep_wrap (T := Tryd.tab) rfl rfl | (refine LStep_pickT rfl rfl ?_ rfl rfl; assumption) | (refine LStep_pickF rfl rfl ?_ rfl rfl; assumption) | (refine LStep_indexM (T := Tryd.tab) (c := ?_) rfl rfl rfl rfl rfl rfl ?_; rotate_left; assumption) | refine LStep_buildN (T := Tryd.tab) rfl rfl rfl rfl rfl rfl rfl)) | ((first | refine Es_skip rfl ?_ rfl ?_ | refine Ed_skip rfl ?_ rfl ?_); (first | rfl | (refine w_tf ?_; assumption) | (refine w_ft ?_; assumption))) | (((with_reducible refine gS ?_); apply Es_xs); rfl; rfl; (first | refine LStep_boxN rfl rfl rfl rfl rfl rfl | refine LStep_allocN (T := Tryd.tab) rfl rfl rfl rfl rfl rfl); rfl) | (((with_reducible refine gS ?_); apply Es_xn); rfl; rfl; (refine LStep_storeN (T := Tryd.tab) rfl rfl rfl rfl rfl rfl rfl ?_ rfl; (refine Nat.le_of_ble_eq_true ?_; rfl)); rfl) | (refine Es_split rfl ?_ (fun _ => ?_) (fun _ => ?_); ((fail_if_success (refine und_t ?_; assumption)); (fail_if_success (refine und_f ?_; assumption)); exact trivial)) | (with_reducible refine Es_nil ?_) | ((with_reducible refine Ed_nil ?_ ?_); kernel_rfl) | (with_reducible refine then_n ?_) | (with_reducible refine then_r ?_) | ((with_reducible refine gR ?_); first | refine ret1 rfl ?_ | refine ret2 rfl rfl ?_ | refine ret0 ?_ | refine end1 rfl ?_ | refine end0 ?_))
    all_goals first
      | exact ⟨rfl, by (repeat' (first | exact trivial | exact rfl | (refine ⟨Or.inl rfl, ?_⟩) | (refine ⟨Or.inr rfl, ?_⟩) | (refine ⟨Or.inr trivial, ?_⟩) | (refine ⟨rfl, ?_⟩) | (refine ⟨?_, ?_⟩)))⟩
      | trace_state
  · rw [doc_at hd hv.toInv] at p1
    rw [p1] at d1
    rw [p2] at d2
    have a1 : leb 0 (i : Nat) = true := by rw [leb_t]; omega
    have a2 : (!(true == leb 0 (i : Nat))) = false := by rw [a1]; rfl
    have a3 : (!(y.eqB y)) = false := by rw [load_self]; rfl
    rw [doc_by hd hv.toInv] at q1
    rw [q1] at d3
    rw [q2] at d4
    have b1 : leb 0 (j : Nat) = true := by rw [leb_t]; omega
    have b2 : (!(true == leb 0 (j : Nat))) = false := by rw [b1]; rfl
    have b3 : (!(z.eqB z)) = false := by rw [load_self]; rfl
    generalize lsort L = D at *
    clear hd hn1 hn2 hv o1 hs e1 p1 p2 q1 q2
    refine AC_enter Tryd.func3 rfl Tryd.ntmps3 (rv := [.tmp 10]) rfl rfl (by simp) (fun w X G => ?_)
    repeat' (first | ((with_reducible refine gA ?_); (first | refine AW_seq ?_ | refine AW_region ?_ | refine AW_regionD Tryd.mixed ?_ | refine AW_condT rfl ?_ | refine AW_condF rfl ?_ | (refine AW_cond rfl (fun hc => ?_) (fun hc => ?_) <;> try (exfalso; simp only [cmpL] at hc; omega)) | refine AW_ret ?_ | refine AW_skip ?_)) | (first | ((with_reducible refine gS ?_); refine Es_s (T := Tryd.tab) rfl rfl rfl rfl ?_) | ((with_reducible refine gD ?_); refine Ed_s (T := Tryd.tab) rfl rfl rfl rfl ?_)) | ((first | ((with_reducible refine gS ?_); apply Es_q) | ((with_reducible refine gD ?_); apply Ed_q)); rfl; (first | rfl | (refine w_tt ?_; assumption) | (refine w_ff ?_; assumption)); (first | refine LStep_call (c0) rfl rfl rfl rfl | refine LStep_call (c1) rfl rfl rfl rfl | refine LStep_call (c2) rfl rfl rfl rfl | refine LStep_call (d2) rfl rfl rfl rfl | refine LStep_call (d4) rfl rfl rfl rfl | refine LStep_call (d6) rfl rfl rfl rfl | refine LStep_call (d8) rfl rfl rfl rfl | refine LStep_eqNilP (T := Tryd.tab) rfl rfl rfl rfl | refine LStep_neBool (T := Tryd.tab) rfl rfl rfl rfl rfl | refine LStep_eqBool (T := Tryd.tab) rfl rfl rfl rfl rfl | refine LStep_neqAgg (T := Tryd.tab) eqS_load eqG_load (by omega) rfl rfl rfl rfl rfl rfl | refine LStep_callB d5 rfl rfl ⟨rfl, rfl, rfl, trivial⟩ rfl rfl | refine LStep_callB d7 rfl rfl ⟨rfl, rfl, rfl, trivial⟩ rfl rfl | refine LStep_callB ca rfl rfl ⟨rfl, trivial⟩ rfl rfl)) | ((first | ((with_reducible refine gS ?_); apply Es_xg) | ((with_reducible refine gD ?_); apply Ed_xg)); rfl; (first | rfl | (refine w_tt ?_; assumption) | (refine w_ff ?_; assumption)); (first | refine LStep_callHN [] [(11, 36), (8, 3601), (9, 3602)] cn rfl rfl trivial rfl trivial rfl rfl | refine LStep_callHN [] [(19, 1000), (1901, 1001), (1902, 1002)] cp rfl rfl ⟨rfl, trivial⟩ rfl ⟨trivial, trivial⟩ rfl rfl | refine LStep_callHN [] [] d1 rfl rfl ⟨rfl, rfl, rfl, trivial⟩ rfl ⟨trivial, trivial, trivial, trivial⟩ rfl rfl | refine LStep_callHN [] [] d3 rfl rfl ⟨rfl, rfl, rfl, trivial⟩ rfl ⟨trivial, trivial, trivial, trivial⟩ rfl rfl); rfl) | ((first | ((with_reducible refine gS ?_); apply Es_q) | ((with_reducible refine gD ?_); apply Ed_q)); rfl; (first | rfl | (refine w_tt ?_; assumption) | (refine w_ff ?_; assumption)); (first | refine LStep_simp (T := Tryd.tab) rfl rfl | refine LStep_wrap (T := Tryd.tab) rfl rfl | (refine LStep_pickT rfl rfl ?_ rfl rfl; assumption) | (refine LStep_pickF rfl rfl ?_ rfl rfl; assumption) | (refine LStep_indexM (T := Tryd.tab) (c := ?_) rfl rfl rfl rfl rfl rfl ?_; rotate_left; assumption))) | ((first | refine Es_skip rfl ?_ rfl ?_ | refine Ed_skip rfl ?_ rfl ?_); (first | rfl | (refine w_tf ?_; assumption) | (refine w_ft ?_; assumption))) | (((with_reducible refine gS ?_); apply Es_xs); rfl; rfl; (first | refine LStep_boxN rfl rfl rfl rfl rfl rfl | refine LStep_allocN (T := Tryd.tab) rfl rfl rfl rfl rfl rfl); rfl) | (((with_reducible refine gS ?_); apply Es_xn); rfl; rfl; (refine LStep_storeN (T := Tryd.tab) rfl rfl rfl rfl rfl rfl rfl ?_ rfl; (refine Nat.le_of_ble_eq_true ?_; rfl)); rfl) | (refine Es_split rfl ?_ (fun _ => ?_) (fun _ => ?_); ((fail_if_success (refine und_t ?_; assumption)); (fail_if_success (refine und_f ?_; assumption)); exact trivial)) | (with_reducible refine Es_nil ?_) | ((with_reducible refine Ed_nil ?_ ?_); kernel_rfl) | (with_reducible refine then_n ?_) | (with_reducible refine then_r ?_) | ((with_reducible refine gR ?_); first | refine ret1 rfl ?_ | refine ret2 rfl rfl ?_ | refine ret0 ?_ | refine end1 rfl ?_ | refine end0 ?_))
    all_goals first
      | exact ⟨rfl, by (repeat' (first | exact trivial | exact rfl | (refine ⟨Or.inl rfl, ?_⟩) | (refine ⟨Or.inr rfl, ?_⟩) | (refine ⟨Or.inr trivial, ?_⟩) | (refine ⟨rfl, ?_⟩) | (refine ⟨?_, ?_⟩)))⟩
      | trace_state
end Go.Proofs.YtgikjdkdakfnkaaDoor
