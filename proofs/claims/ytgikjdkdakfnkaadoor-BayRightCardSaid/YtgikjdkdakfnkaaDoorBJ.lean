import Derived.Test.YtgikjdkdakfnkaaDoorBA
namespace Go.Proofs.YtgikjdkdakfnkaaDoor
open Go.SL
/-! ### BayRight -/
def othersL (D : List Load) (k : Nat) : List Load := D.take k ++ D.drop (k + 1)
theorem others_split {D : List Load} {k : Nat} {x : Load} (hx : D[k]? = some x) : D = D.take k ++ x :: D.drop (k + 1) := by
  obtain ⟨hlt, rfl⟩ := List.getElem?_eq_some_iff.1 hx
  rw [List.getElem_cons_drop, List.take_append_drop]
theorem others_mem {D : List Load} {k : Nat} {x y : Load} (hx : D[k]? = some x) (hn : D.Nodup) (hy : y ∈ othersL D k) : y ∈ D ∧ y ≠ x := by
  have h := others_split hx
  rw [h] at hn
  rw [List.nodup_append, List.nodup_cons] at hn
  obtain ⟨_, ⟨h2, _⟩, h4⟩ := hn
  rcases List.mem_append.1 hy with q | q
  · refine ⟨List.mem_of_mem_take q, ?_⟩
    rintro rfl
    exact h4 y q y (by simp) rfl
  · refine ⟨List.mem_of_mem_drop q, ?_⟩
    rintro rfl
    exact h2 q
set_option maxRecDepth 10000 in
set_option maxHeartbeats 8000000 in
theorem rights_ac (S : Ship) (ops : List BOp) (hl : ops.length ≤ 140737488351232) (hs : ∀ o ∈ ops, o.bx.size ≤ 140737488351232 ∧ o.l.box.size ≤ 140737488351232) (hn : S.nm.size ≤ 140737488351232) : AC Tryd.prog 4 [.agg S.cs, .d (.sl 9 (ops.map BOp.enc))] [hG] [9000] (fun r h' => r = .d (.sc (.bool true)) ∧ SubH [hG] h') := by
  have ca := awake2_ac
  have c0 := long_ac ops hl hs
  have c1 := rmay_ac S (by omega)
  cases e0 : longL ops with
  | true =>
    rw [e0] at c0
    refine AC_enter Tryd.func4 rfl Tryd.ntmps4 (rv := [.tmp 4]) rfl rfl (by simp) (fun w X G => ?_)
    repeat' (first | ((with_reducible refine gA ?_); (first | refine AW_seq ?_ | refine AW_region ?_ | refine AW_condT rfl ?_ | refine AW_ret ?_)) | ((with_reducible refine gS ?_); refine Es_s (T := Tryd.tab) rfl rfl rfl rfl ?_) | (((with_reducible refine gS ?_); apply Es_q); rfl; rfl; (first | refine LStep_call (c0) rfl rfl rfl rfl | refine LStep_callB ca rfl rfl ⟨rfl, trivial⟩ rfl rfl)) | (refine Es_skip rfl ?_ rfl ?_; (first | rfl | (refine w_tf ?_; assumption) | (refine w_ft ?_; assumption))) | (((with_reducible refine gS ?_); apply Es_xs); rfl; rfl; refine LStep_boxN rfl rfl rfl rfl rfl rfl; rfl) | (with_reducible refine Es_nil ?_) | (with_reducible refine then_n ?_) | (with_reducible refine then_r ?_) | ((with_reducible refine gR ?_); first | refine ret1 rfl ?_ | refine ret2 rfl rfl ?_ | refine ret0 ?_ | refine end1 rfl ?_ | refine end0 ?_))
    all_goals first
      | exact ⟨rfl, by (repeat' (first | exact trivial | exact rfl | (refine ⟨Or.inl rfl, ?_⟩) | (refine ⟨Or.inr rfl, ?_⟩) | (refine ⟨Or.inr trivial, ?_⟩) | (refine ⟨rfl, ?_⟩) | (refine ⟨?_, ?_⟩)))⟩
      | trace_state
  | false =>
  rw [e0] at c0
  cases e1 : shipOk S with
  | false =>
    rw [e1] at c1
    refine AC_enter Tryd.func4 rfl Tryd.ntmps4 (rv := [.tmp 4]) rfl rfl (by simp) (fun w X G => ?_)
    repeat' (first | ((with_reducible refine gA ?_); (first | refine AW_seq ?_ | refine AW_region ?_ | refine AW_condT rfl ?_ | refine AW_ret ?_)) | ((with_reducible refine gS ?_); refine Es_s (T := Tryd.tab) rfl rfl rfl rfl ?_) | (((with_reducible refine gS ?_); apply Es_q); rfl; rfl; (first | refine LStep_call (c0) rfl rfl rfl rfl | refine LStep_call (c1) rfl rfl rfl rfl | refine LStep_callB ca rfl rfl ⟨rfl, trivial⟩ rfl rfl)) | (((with_reducible refine gS ?_); apply Es_q); rfl; rfl; refine LStep_simp (T := Tryd.tab) rfl rfl) | (refine Es_skip rfl ?_ rfl ?_; (first | rfl | (refine w_tf ?_; assumption) | (refine w_ft ?_; assumption))) | (((with_reducible refine gS ?_); apply Es_xs); rfl; rfl; refine LStep_boxN rfl rfl rfl rfl rfl rfl; rfl) | (with_reducible refine Es_nil ?_) | (with_reducible refine then_n ?_) | (with_reducible refine then_r ?_) | ((with_reducible refine gR ?_); first | refine ret1 rfl ?_ | refine ret2 rfl rfl ?_ | refine ret0 ?_ | refine end1 rfl ?_ | refine end0 ?_))
    all_goals first
      | exact ⟨rfl, by (repeat' (first | exact trivial | exact rfl | (refine ⟨Or.inl rfl, ?_⟩) | (refine ⟨Or.inr rfl, ?_⟩) | (refine ⟨Or.inr trivial, ?_⟩) | (refine ⟨rfl, ?_⟩) | (refine ⟨?_, ?_⟩)))⟩
      | trace_state
  | true =>
  rw [e1] at c1
  obtain ⟨o1, o2⟩ := longL_f e0
  obtain ⟨hv, hlen⟩ := played e1 o2
  have cp := play_ac S ops e1 o2 o1
  generalize playS S [] ops = L at cp hv hlen
  have hd := lsort_doc hv.nS
  have hdl : (lsort L).length ≤ 60 := by rw [hd.perm.length_eq]; exact hlen
  have hi := ship_in e1
  have hnD : (lsort L).Nodup := hd.perm.nodup_iff.2 (nodup_of_map hv.nS)
  have c2 := loads_ac S L (lsort L) hd hv.nS (by omega)
  have hw := load_in hv.toInv
  have hwD : ∀ y ∈ lsort L, 0 ≤ y.w ∧ y.w ≤ 1048576 := fun y hy => hw y (hd.perm.mem_iff.1 hy)
  have hsum : wsum (lsort L) = wsum L := wsum_perm hd.perm
  have f9 : leb (wsum (lsort L)) S.most = true := by rw [leb_t, hsum]; exact hv.tot
  have z0 : wsum ((lsort L).take 0) = 0 := by simp [wsum]
  generalize lsort L = D at *
  have hsk : ∀ k : Nat, 0 ≤ wsum (D.take k) ∧ wsum (D.take k) ≤ 1048576 * (k : Int) := by
    intro k
    induction k with
    | zero => rw [z0]; omega
    | succ k ih =>
      by_cases hlt : k < D.length
      · obtain ⟨x, hx, _⟩ := drop_at hlt
        have h2 := hwD x (List.mem_of_getElem? hx)
        have h3 : wsum [x] = x.w := by simp [wsum]
        rw [take_at hx, wsum_app]
        omega
      · rw [List.take_of_length_le (by omega)] at ih ⊢
        omega
  refine AC_enter Tryd.func4 rfl Tryd.ntmps4 (rv := [.tmp 4]) rfl rfl (by simp) (fun w X G => ?_)
  repeat' (first | ((with_reducible refine gA ?_); (first | refine AW_seq ?_ | refine AW_region ?_ | refine AW_condF rfl ?_ | refine AW_block ?_ | refine AW_skip ?_)) | ((with_reducible refine gS ?_); refine Es_s (T := Tryd.tab) rfl rfl rfl rfl ?_) | (((with_reducible refine gS ?_); apply Es_q); rfl; rfl; (first | refine LStep_call (c0) rfl rfl rfl rfl | refine LStep_call (c1) rfl rfl rfl rfl | refine LStep_eqNilP (T := Tryd.tab) rfl rfl rfl rfl)) | (((with_reducible refine gS ?_); apply Es_xg); rfl; rfl; (first | refine LStep_callHN [] [(19, 1000), (1901, 1001), (1902, 1002)] cp rfl rfl ⟨rfl, trivial⟩ rfl ⟨trivial, trivial⟩ rfl rfl | refine LStep_callHN [] [] c2 rfl rfl ⟨rfl, rfl, rfl, trivial⟩ rfl ⟨trivial, trivial, trivial, trivial⟩ rfl rfl); rfl) | (((with_reducible refine gS ?_); apply Es_q); rfl; rfl; (first | refine LStep_simp (T := Tryd.tab) rfl rfl | refine LStep_lenM (T := Tryd.tab) rfl rfl rfl rfl)) | (refine Es_skip rfl ?_ rfl ?_; (first | rfl | (refine w_tf ?_; assumption) | (refine w_ft ?_; assumption))) | (((with_reducible refine gS ?_); apply Es_xs); rfl; rfl; refine LStep_boxN rfl rfl rfl rfl rfl rfl; rfl) | (with_reducible refine Es_nil ?_) | (with_reducible refine then_n ?_))
  refine AW_forE (S := Nat) (fun k => k ≤ D.length) (fun k => [(34, .d (.sc (.int .i64 (k : Nat)))), (8, .d (.sc (.int .i64 (wsum (D.take k)))))]) (fun _ => []) (fun k => D.length - k) 0 (by omega) (by rw [z0]; (repeat' (first | exact trivial | exact rfl | (refine ⟨Or.inl rfl, ?_⟩) | (refine ⟨Or.inr rfl, ?_⟩) | (refine ⟨Or.inr trivial, ?_⟩) | (refine ⟨rfl, ?_⟩) | (refine ⟨?_, ?_⟩)))) (by (repeat' (first | exact trivial | exact rfl | (refine ⟨Or.inl rfl, ?_⟩) | (refine ⟨Or.inr rfl, ?_⟩) | (refine ⟨Or.inr trivial, ?_⟩) | (refine ⟨rfl, ?_⟩) | (refine ⟨?_, ?_⟩)))) ?_
  intro k hk
  by_cases hlt : k < D.length
  · obtain ⟨x, hx, _⟩ := drop_at hlt
    have hxD := List.mem_of_getElem? hx
    have hxL : x ∈ L := hd.perm.mem_iff.1 hxD
    have hsp := others_split hx
    have hmem : ∀ y ∈ othersL D k, y ∈ L ∧ y ≠ x := fun y hy => by
      obtain ⟨h1, h2⟩ := others_mem hx hnD hy
      exact ⟨hd.perm.mem_iff.1 h1, h2⟩
    have hol : (othersL D k).length ≤ 60 := by unfold othersL; simp only [List.length_append, List.length_take, List.length_drop]; omega
    have hoE : (othersL D k).map Load.enc = [] ++ (List.drop (Int.toNat 0) (List.take ((k : Nat) : Int).toNat D)).map Load.enc ++ (List.drop (((k : Nat) : Int) + 1).toNat (List.take (((D.map Load.enc).length : Nat) : Int).toNat D)).map Load.enc := by
      have e1 : (((k : Nat) : Int) + 1).toNat = k + 1 := by omega
      unfold othersL
      rw [e1]
      simp
    have ho := hv.on x hxL
    have hox := hv.ok x hxL
    have d1 := on_ac S x.sl (by omega)
    have hon : onB S x.sl = true := by simp only [onB, Bool.and_eq_true, frB_t]; omega
    rw [hon] at d1
    have d2 := rAt_ac (othersL D k) x.sl (by omega)
    rw [fI_none (fun y hy => by
      rw [sl_eqB, decide_eq_false_iff_not]
      intro e
      obtain ⟨h1, h2⟩ := hmem y hy
      have e1 := (atS_some hv.nS).2 ⟨h1, e⟩
      have e2 := (atS_some hv.nS).2 ⟨hxL, rfl⟩
      rw [e1] at e2
      exact h2 (Option.some.inj e2))] at d2
    have d3 := rClash_ac (othersL D k) x (by omega) (fun y hy => by have := hv.on y (hmem y hy).1; omega) (by omega)
    have hcl : clashD (othersL D k) x = false := by
      unfold clashD
      rw [List.any_eq_false]
      intro y hy
      rw [Bool.and_eq_true]
      rintro ⟨h1, h2⟩
      rw [hv.apt y (hmem y hy).1 x hxL h1] at h2
      cases h2
    rw [hcl] at d3
    rw [hoE] at d2 d3
    have d4 := stack2_ac S L x.sl.b x.sl.r hv.toInv e1
    have g1 : leb 0 (-1) = false := by rw [leb_f]; omega
    have g2 : ltb S.stack (stW L x.sl.b x.sl.r) = false := by rw [ltb_f]; exact hv.stk _ _
    have g3 := hsk k
    have hst : wsum (D.take (k + 1)) = wsum (D.take k) + x.w := by rw [take_at hx, wsum_app]; simp [wsum]
    generalize stW L x.sl.b x.sl.r = v at d4 g2
    generalize wsum (D.take k) = u at *
    by_cases ht : x.sl.t = 0
    · have g4 : eqb x.sl.t 0 = true := by rw [eqb_t]; exact ht
      clear hsp hmem hoE hcl hw hwD hd hnD hsum hsk hv ho c2 z0 hi hon
      repeat' (first | ((with_reducible refine gA ?_); refine AW_freeze [11] (id := 39) ⟨rfl, trivial⟩ rfl rfl ?_) | ((with_reducible refine gA ?_); (first | refine AW_seq ?_ | refine AW_region ?_ | refine AW_regionD Tryd.mixed ?_ | (refine AW_condY rfl ?_ ?_; assumption) | (refine AW_condN rfl ?_ ?_; assumption) | (refine AW_cond rfl (fun hc => ?_) (fun hc => ?_) <;> try (exfalso; simp only [cmpL] at hc; omega)) | refine AW_block ?_ | refine AW_skip ?_ | refine AW_exit ?_)) | (first | ((with_reducible refine gS ?_); refine Es_s (T := Tryd.tab) rfl rfl rfl rfl ?_) | ((with_reducible refine gD ?_); refine Ed_s (T := Tryd.tab) rfl rfl rfl rfl ?_)) | ((first | ((with_reducible refine gS ?_); apply Es_q) | ((with_reducible refine gD ?_); apply Ed_q)); rfl; (first | rfl | (refine w_ff ?_; assumption)); (first | refine LStep_call (d1) rfl rfl rfl rfl | refine LStep_call (d2) rfl rfl rfl rfl | refine LStep_call (d3) rfl rfl rfl rfl | refine LStep_callB d4 rfl rfl ⟨rfl, rfl, rfl, trivial⟩ rfl rfl)) | ((first | ((with_reducible refine gS ?_); apply Es_xs) | ((with_reducible refine gD ?_); apply Ed_xs)); rfl; (first | rfl | (refine w_ff ?_; assumption)); (first | (refine LStep_litOwn (T := Tryd.tab) (len := 0) rfl rfl rfl rfl rfl rfl rfl rfl rfl rfl ?_ ?_; (refine Nat.le_of_ble_eq_true ?_; rfl); (unfold maxLen; omega)) | (refine LStep_append (T := Tryd.tab) rfl rfl rfl rfl rfl rfl rfl rfl rfl rfl ?_ ?_ ?_; rfl; (simp only [List.length_append, List.length_map, List.length_cons, List.length_nil, List.length_take, List.length_drop]; omega); (unfold maxLen; simp only [List.length_append, List.length_map, List.length_cons, List.length_nil, List.length_take, List.length_drop]; omega))); rfl) | ((first | ((with_reducible refine gS ?_); apply Es_q) | ((with_reducible refine gD ?_); apply Ed_q)); rfl; (first | rfl | (refine w_ff ?_; assumption)); (first | refine LStep_simp (T := Tryd.tab) rfl rfl | (refine LStep_add rfl rfl rfl rfl ?_; (refine IntWalk.i64_in _ ?_; first | omega | (simp only [cmps] at *; omega))) | (refine LStep_pickF rfl rfl ?_ rfl rfl; assumption) | (refine LStep_indexM (T := Tryd.tab) (c := ?_) rfl rfl rfl rfl rfl rfl ?_; rotate_left; assumption) | (refine LStep_partM (T := Tryd.tab) rfl rfl rfl rfl rfl rfl rfl ?_ ?_ ?_; omega; (first | omega | (simp only [List.length_map]; omega)); (first | omega | (simp only [List.length_map]; omega))))) | (refine Es_skip rfl ?_ rfl ?_; (first | rfl | (refine w_tf ?_; assumption) | (refine w_ft ?_; assumption))) | (((with_reducible refine gS ?_); apply Es_xs); rfl; rfl; refine LStep_allocN (T := Tryd.tab) rfl rfl rfl rfl rfl rfl; rfl) | (((with_reducible refine gS ?_); apply Es_xn); rfl; rfl; (refine LStep_storeN (T := Tryd.tab) rfl rfl rfl rfl rfl rfl rfl ?_ rfl; (refine Nat.le_of_ble_eq_true ?_; rfl)); rfl) | (with_reducible refine Es_nil ?_) | ((with_reducible refine Ed_nil ?_ ?_); kernel_rfl) | (with_reducible refine then_n ?_) | (with_reducible refine then_e ?_) | ((with_reducible refine block_e ?_ ?_); rfl))
      all_goals first
        | (refine ⟨k + 1, by omega, by omega, ?_, by (repeat' (first | exact trivial | exact rfl | (refine ⟨Or.inl rfl, ?_⟩) | (refine ⟨Or.inr rfl, ?_⟩) | (refine ⟨Or.inr trivial, ?_⟩) | (refine ⟨rfl, ?_⟩) | (refine ⟨?_, ?_⟩))), by (repeat' (first | exact trivial | exact rfl | (refine ⟨Or.inl rfl, ?_⟩) | (refine ⟨Or.inr rfl, ?_⟩) | (refine ⟨Or.inr trivial, ?_⟩) | (refine ⟨rfl, ?_⟩) | (refine ⟨?_, ?_⟩))), by (repeat' (first | exact trivial | exact rfl | (refine ⟨Or.inl rfl, ?_⟩) | (refine ⟨Or.inr rfl, ?_⟩) | (refine ⟨Or.inr trivial, ?_⟩) | (refine ⟨rfl, ?_⟩) | (refine ⟨?_, ?_⟩)))⟩
           rw [hst]; (repeat' (first | exact trivial | exact rfl | (refine ⟨Or.inl rfl, ?_⟩) | (refine ⟨Or.inr rfl, ?_⟩) | (refine ⟨Or.inr trivial, ?_⟩) | (refine ⟨rfl, ?_⟩) | (refine ⟨?_, ?_⟩))))
        | trace_state
    · have g4 : eqb x.sl.t 0 = false := by rw [eqb_f]; exact ht
      obtain ⟨y, hy, hys, hyw⟩ := hv.sup x hxL ht
      have d5 := at_ac S L ⟨x.sl.b, x.sl.r, x.sl.t - 1⟩
      have q1 := (atS_some hv.nS).2 ⟨hy, hys⟩
      rw [q1] at d5
      have g5 : ltb y.w x.w = false := by rw [ltb_f]; exact hyw
      have hti := hi.2.2.1
      clear hsp hmem hoE hcl hw hwD hd hnD hsum hsk hv c2 z0 hi hon q1 hys
      repeat' (first | ((with_reducible refine gA ?_); refine AW_freeze [11] (id := 39) ⟨rfl, trivial⟩ rfl rfl ?_) | ((with_reducible refine gA ?_); (first | refine AW_seq ?_ | refine AW_region ?_ | refine AW_regionD Tryd.mixed ?_ | (refine AW_condN rfl ?_ ?_; assumption) | (refine AW_cond rfl (fun hc => ?_) (fun hc => ?_) <;> try (exfalso; simp only [cmpL] at hc; omega)) | refine AW_block ?_ | refine AW_skip ?_)) | (first | ((with_reducible refine gS ?_); refine Es_s (T := Tryd.tab) rfl rfl rfl rfl ?_) | ((with_reducible refine gD ?_); refine Ed_s (T := Tryd.tab) rfl rfl rfl rfl ?_)) | ((first | ((with_reducible refine gS ?_); apply Es_q) | ((with_reducible refine gD ?_); apply Ed_q)); rfl; (first | rfl | (refine w_ff ?_; assumption)); (first | refine LStep_call (d1) rfl rfl rfl rfl | refine LStep_call (d2) rfl rfl rfl rfl | refine LStep_call (d3) rfl rfl rfl rfl | refine LStep_callB d4 rfl rfl ⟨rfl, rfl, rfl, trivial⟩ rfl rfl)) | ((first | ((with_reducible refine gS ?_); apply Es_xs) | ((with_reducible refine gD ?_); apply Ed_xs)); rfl; (first | rfl | (refine w_ff ?_; assumption)); (first | (refine LStep_litOwn (T := Tryd.tab) (len := 0) rfl rfl rfl rfl rfl rfl rfl rfl rfl rfl ?_ ?_; (refine Nat.le_of_ble_eq_true ?_; rfl); (unfold maxLen; omega)) | (refine LStep_append (T := Tryd.tab) rfl rfl rfl rfl rfl rfl rfl rfl rfl rfl ?_ ?_ ?_; rfl; (simp only [List.length_append, List.length_map, List.length_cons, List.length_nil, List.length_take, List.length_drop]; omega); (unfold maxLen; simp only [List.length_append, List.length_map, List.length_cons, List.length_nil, List.length_take, List.length_drop]; omega))); rfl) | ((first | ((with_reducible refine gS ?_); apply Es_xg) | ((with_reducible refine gD ?_); apply Ed_xg)); rfl; (first | rfl | (refine w_ff ?_; assumption)); refine LStep_callHN [] [] d5 rfl rfl ⟨rfl, rfl, rfl, trivial⟩ rfl ⟨trivial, trivial, trivial, trivial⟩ rfl rfl; rfl) | ((first | ((with_reducible refine gS ?_); apply Es_q) | ((with_reducible refine gD ?_); apply Ed_q)); rfl; (first | rfl | (refine w_ff ?_; assumption)); (first | refine LStep_simp (T := Tryd.tab) rfl rfl | (refine LStep_add rfl rfl rfl rfl ?_; (refine IntWalk.i64_in _ ?_; first | omega | (simp only [cmps] at *; omega))) | (refine LStep_sub rfl rfl rfl rfl ?_; (refine IntWalk.i64_in _ ?_; first | omega | (simp only [cmps] at *; omega))) | (refine LStep_pickF rfl rfl ?_ rfl rfl; assumption) | (refine LStep_indexM (T := Tryd.tab) (c := ?_) rfl rfl rfl rfl rfl rfl ?_; rotate_left; assumption) | (refine LStep_partM (T := Tryd.tab) rfl rfl rfl rfl rfl rfl rfl ?_ ?_ ?_; omega; (first | omega | (simp only [List.length_map]; omega)); (first | omega | (simp only [List.length_map]; omega))) | refine LStep_buildN (T := Tryd.tab) rfl rfl rfl rfl rfl rfl rfl)) | (refine Es_skip rfl ?_ rfl ?_; (first | rfl | (refine w_tf ?_; assumption) | (refine w_ft ?_; assumption))) | (((with_reducible refine gS ?_); apply Es_xs); rfl; rfl; refine LStep_allocN (T := Tryd.tab) rfl rfl rfl rfl rfl rfl; rfl) | (((with_reducible refine gS ?_); apply Es_xn); rfl; rfl; (refine LStep_storeN (T := Tryd.tab) rfl rfl rfl rfl rfl rfl rfl ?_ rfl; (refine Nat.le_of_ble_eq_true ?_; rfl)); rfl) | (with_reducible refine Es_nil ?_) | ((with_reducible refine Ed_nil ?_ ?_); kernel_rfl) | (with_reducible refine then_n ?_) | (with_reducible refine block_n ?_))
      all_goals first
        | (refine ⟨k + 1, by omega, by omega, ?_, by (repeat' (first | exact trivial | exact rfl | (refine ⟨Or.inl rfl, ?_⟩) | (refine ⟨Or.inr rfl, ?_⟩) | (refine ⟨Or.inr trivial, ?_⟩) | (refine ⟨rfl, ?_⟩) | (refine ⟨?_, ?_⟩))), by (repeat' (first | exact trivial | exact rfl | (refine ⟨Or.inl rfl, ?_⟩) | (refine ⟨Or.inr rfl, ?_⟩) | (refine ⟨Or.inr trivial, ?_⟩) | (refine ⟨rfl, ?_⟩) | (refine ⟨?_, ?_⟩))), by (repeat' (first | exact trivial | exact rfl | (refine ⟨Or.inl rfl, ?_⟩) | (refine ⟨Or.inr rfl, ?_⟩) | (refine ⟨Or.inr trivial, ?_⟩) | (refine ⟨rfl, ?_⟩) | (refine ⟨?_, ?_⟩)))⟩
           rw [hst]; (repeat' (first | exact trivial | exact rfl | (refine ⟨Or.inl rfl, ?_⟩) | (refine ⟨Or.inr rfl, ?_⟩) | (refine ⟨Or.inr trivial, ?_⟩) | (refine ⟨rfl, ?_⟩) | (refine ⟨?_, ?_⟩))))
        | trace_state
  · have : k = D.length := by omega
    subst this
    rw [List.take_length]
    clear hi hv hd c2 hsk hw hwD
    repeat' (first | ((with_reducible refine gA ?_); (first | refine AW_seq ?_ | refine AW_region ?_ | (refine AW_cond rfl (fun hc => ?_) (fun hc => ?_) <;> try (exfalso; simp only [cmpL] at hc; omega)) | refine AW_ret ?_ | refine AW_exit ?_)) | ((with_reducible refine gS ?_); refine Es_s (T := Tryd.tab) rfl rfl rfl rfl ?_) | (((with_reducible refine gS ?_); apply Es_q); rfl; (first | rfl | (refine w_tt ?_; assumption)); refine LStep_callB ca rfl rfl ⟨rfl, trivial⟩ rfl rfl) | (((with_reducible refine gS ?_); apply Es_q); rfl; rfl; (refine LStep_pickT rfl rfl ?_ rfl rfl; assumption)) | (with_reducible refine Es_nil ?_) | (with_reducible refine then_n ?_) | (with_reducible refine then_e ?_) | ((with_reducible refine block_e ?_ ?_); rfl) | ((with_reducible refine gR ?_); first | refine ret1 rfl ?_ | refine ret2 rfl rfl ?_ | refine ret0 ?_ | refine end1 rfl ?_ | refine end0 ?_))
    all_goals first
      | exact ⟨rfl, by (repeat' (first | exact trivial | exact rfl | (refine ⟨Or.inl rfl, ?_⟩) | (refine ⟨Or.inr rfl, ?_⟩) | (refine ⟨Or.inr trivial, ?_⟩) | (refine ⟨rfl, ?_⟩) | (refine ⟨?_, ?_⟩)))⟩
      | trace_state
end Go.Proofs.YtgikjdkdakfnkaaDoor
