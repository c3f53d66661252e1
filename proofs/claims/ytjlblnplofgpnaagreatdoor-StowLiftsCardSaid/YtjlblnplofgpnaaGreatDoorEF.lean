import Derived.Test.YtjlblnplofgpnaaGreatDoorEE
namespace Go.Proofs.YtjlblnplofgpnaaGreatDoor
open Go.SL
/-! ### StowLifts -/
theorem put_each {S : Ship} {Q : List Load} (hS : shipOk S = true) (hv : Inv2 S Q) (hs : Stands Q) {i : Nat} {x : Load} (hx : Q[i]? = some x) : putE S (Q.take i) x = 0 ∧ Inv2 S (Q.take i) := by
  have hlt := (List.getElem?_eq_some_iff.1 hx).1
  have h1 := putAll_of hv (List.Perm.refl Q) hs i (by omega)
  have h2 := putAll_of hv (List.Perm.refl Q) hs (i + 1) (by omega)
  rw [take_at hx, putAll_app, h1, if_pos rfl, putAll_cons] at h2
  have h3 := (putAll_ok (Q.take i) (inv00 hS)).1
  rw [h1] at h3
  refine ⟨?_, h3⟩
  apply Classical.byContradiction
  intro hn
  rw [if_neg hn] at h2
  exact hn (congrArg Prod.fst h2)
theorem overKK_ac (S : Ship) (L : List Load) (port : Int) (hv : Inv S L) (hS : shipOk S = true) : AC Tryz.prog 33 [.ptr 1000 0, .d (.sc (.int .i64 port))] (hB S L) [1000, 1001, 1002] (fun v h' => v = .d (.sc (.int .i64 (overD L port))) ∧ Kp (hB S L) h') := (overK_ac S L port hv hS).mono (fun _ _ h => ⟨h.1, Kp.sub h.2⟩)
set_option maxRecDepth 10000 in
set_option maxHeartbeats 16000000 in
theorem lifts_ac (S : Ship) (l : List Load) (port : Int) (hl : l.length ≤ 140737488351232) (hpt : -9223372036854775808 ≤ port) : AC Tryz.prog 10 [.agg S.cs, .d (.sl 7 (l.map Load.enc)), .d (.sc (.int .i64 port))] [hG] [9000] (fun r h' => r = .d (.sc (.bool true)) ∧ SubH [hG] h') := by
  have ca := wakeK_ac
  have c0 := rFew_ac S l hl
  cases e0 : (fewL l && fewS S) with
  | false =>
    rw [e0] at c0
    refine AC_enter Tryz.func10 rfl Tryz.ntmps10 (rv := [.tmp 6]) rfl rfl (by simp) (fun w X G => ?_)
    repeat' (first | ((with_reducible refine gA ?_); (first | refine AW_seq ?_ | refine AW_region ?_ | refine AW_condT rfl ?_ | refine AW_condF rfl ?_ | refine AW_ret ?_ | refine AW_skip ?_)) | ((with_reducible refine gS ?_); refine Es_s (T := Tryz.tab) rfl rfl rfl rfl ?_) | (((with_reducible refine gS ?_); apply Es_q); rfl; rfl; (first | refine LStep_call (c0) rfl rfl rfl rfl | refine LStep_callB ca rfl rfl ⟨rfl, trivial⟩ rfl rfl)) | (refine Es_skip rfl ?_ rfl ?_; (first | rfl | (refine w_tf ?_; assumption) | (refine w_ft ?_; assumption))) | (((with_reducible refine gS ?_); apply Es_xs); rfl; rfl; refine LStep_boxN rfl rfl rfl rfl rfl rfl; rfl) | (with_reducible refine Es_nil ?_) | (with_reducible refine then_n ?_) | (with_reducible refine then_r ?_) | ((with_reducible refine gR ?_); first | refine ret1 rfl ?_ | refine ret2 rfl rfl ?_ | refine ret0 ?_ | refine end1 rfl ?_ | refine end0 ?_))
    all_goals first
      | exact ⟨rfl, by (repeat' (first | exact trivial | exact rfl | (refine ⟨Or.inl rfl, ?_⟩) | (refine ⟨Or.inr rfl, ?_⟩) | (refine ⟨Or.inr trivial, ?_⟩) | (refine ⟨rfl, ?_⟩) | (refine ⟨?_, ?_⟩)))⟩
      | trace_state
  | true =>
  rw [e0] at c0
  obtain ⟨h1, h2, h3⟩ := few_in e0
  have c1 := plan_ac S l (by omega)
  by_cases hE : planE S l = 0
  · rw [planR_yes hE] at c1
    have hP := planned hE
    generalize lsort (planL S (bN S) (rN S) l) = D at *
    generalize sortS (planO S (bN S) (rN S) l) = W at *
    have hlen := hP.len
    have c2 := unload_ac S D port (by omega)
    rw [unloadR_yes hP.right, falls_over hP.falls] at c2
    have c3 := moves_ac S D 64 (by omega) (by omega)
    have hm : movesE S D 64 = 0 := by unfold movesE; rw [if_pos hP.right]; exact (falls_moves hP.hv hP.falls _).1
    rw [hm] at c3
    have hS := hP.hS
    have hQv := left_inv hP.hv port
    have hQs := dsort_stands (left_sort hP.hv.toInv port)
    have hQf := falls_left hP.hv.toInv hP.falls port
    have hQp : ∀ y ∈ leftL D port, port < y.p := fun y hy => by
      obtain ⟨x, _, hp, rfl⟩ := (mem_left hP.hv.toInv).1 hy
      exact hp
    have hQl : (leftL D port).length ≤ 13 := by have := leftL_len hP.hv.nS port; omega
    generalize leftL D port = Q at *
    have cn := newOk_ac S hS
    have f0 : (!(eqb 0 0)) = false := by rw [eqb_self]; rfl
    have z0 : Q.take 0 = [] := rfl
    clear hP hE hm e0
    refine AC_enter Tryz.func10 rfl Tryz.ntmps10 (rv := [.tmp 6]) rfl rfl (by simp) (fun w X G => ?_)
    repeat' (first | ((with_reducible refine gA ?_); (first | refine AW_seq ?_ | refine AW_region ?_ | refine AW_condF rfl ?_ | (refine AW_condN rfl ?_ ?_; assumption) | refine AW_block ?_ | refine AW_skip ?_)) | ((with_reducible refine gS ?_); refine Es_s (T := Tryz.tab) rfl rfl rfl rfl ?_) | (((with_reducible refine gS ?_); apply Es_q); rfl; (first | rfl | (refine w_ff ?_; assumption)); (first | refine LStep_call (c0) rfl rfl rfl rfl | refine LStep_callB ca rfl rfl ⟨rfl, trivial⟩ rfl rfl | refine LStep_eqNilP (T := Tryz.tab) rfl rfl rfl rfl)) | (((with_reducible refine gS ?_); apply Es_xg); rfl; (first | rfl | (refine w_ff ?_; assumption)); (first | refine LStep_callHN [] [] c1 rfl rfl ⟨rfl, trivial⟩ rfl ⟨trivial, trivial⟩ rfl rfl | refine LStep_callHN [] [] c2 rfl rfl ⟨rfl, trivial⟩ rfl ⟨trivial, trivial⟩ rfl rfl | refine LStep_callHN [] [] c3 rfl rfl ⟨rfl, trivial⟩ rfl ⟨trivial, trivial⟩ rfl rfl | refine LStep_callHN [] [(11, 1000), (8, 1001), (9, 1002)] cn rfl rfl trivial rfl trivial rfl rfl); rfl) | (((with_reducible refine gS ?_); apply Es_q); rfl; (first | rfl | (refine w_ff ?_; assumption)); (first | refine LStep_simp (T := Tryz.tab) rfl rfl | (refine LStep_pickF rfl rfl ?_ rfl rfl; assumption))) | (refine Es_skip rfl ?_ rfl ?_; (first | rfl | (refine w_tf ?_; assumption) | (refine w_ft ?_; assumption))) | (((with_reducible refine gS ?_); apply Es_xs); rfl; rfl; refine LStep_boxN rfl rfl rfl rfl rfl rfl; rfl) | (with_reducible refine Es_nil ?_) | (with_reducible refine then_n ?_))
    clear c0 c1 c2 c3 ca cn
    refine AW_forE (S := Nat) (fun i => i ≤ Q.length) (fun i => [(15, .d (.sc (.int .i64 (i : Nat))))]) (fun i => hB S (Q.take i)) (fun i => Q.length - i) 0 (by omega) (by (repeat' (first | exact trivial | exact rfl | (refine ⟨Or.inl rfl, ?_⟩) | (refine ⟨Or.inr rfl, ?_⟩) | (refine ⟨Or.inr trivial, ?_⟩) | (refine ⟨rfl, ?_⟩) | (refine ⟨?_, ?_⟩)))) (by rw [z0]; (repeat' (first | exact trivial | exact rfl | (refine ⟨Or.inl rfl, ?_⟩) | (refine ⟨Or.inr rfl, ?_⟩) | (refine ⟨Or.inr trivial, ?_⟩) | (refine ⟨rfl, ?_⟩) | (refine ⟨?_, ?_⟩)))) ?_
    intro i hi
    by_cases hlt : i < Q.length
    · obtain ⟨x, hx, _⟩ := drop_at hlt
      have g1 : ltb (i : Nat) (Q.length : Nat) = true := by rw [ltb_t]; omega
      have g2 : leb x.p port = false := by rw [leb_f]; have := hQp x (List.mem_of_getElem? hx); omega
      obtain ⟨p1, p2⟩ := put_each hS hQv hQs hx
      have cp := put_ac S (Q.take i) x p2 hS (tot_in2 p2 hS)
      have e2 : putL S (Q.take i) x = Q.take (i + 1) := by unfold putL; rw [if_pos p1, take_at hx]
      rw [p1, e2] at cp
      generalize hM : Q.take (i + 1) = M at *
      generalize Q.take i = L at *
      clear p2 hQv hQs hQf hQp z0
      repeat' (first | ((with_reducible refine gA ?_); (first | refine AW_seq ?_ | refine AW_region ?_ | (refine AW_condY rfl ?_ ?_; assumption) | (refine AW_condN rfl ?_ ?_; assumption) | refine AW_block ?_ | refine AW_skip ?_)) | ((with_reducible refine gS ?_); refine Es_s (T := Tryz.tab) rfl rfl rfl rfl ?_) | (((with_reducible refine gS ?_); apply Es_xg); rfl; (first | rfl | (refine w_ff ?_; assumption)); refine LStep_callHN [] [] cp rfl rfl ⟨rfl, rfl, rfl, rfl, trivial⟩ rfl ⟨trivial, trivial, trivial, trivial, trivial⟩ rfl rfl; rfl) | (((with_reducible refine gS ?_); apply Es_q); rfl; (first | rfl | (refine w_ff ?_; assumption)); (first | refine LStep_simp (T := Tryz.tab) rfl rfl | refine LStep_lenM (T := Tryz.tab) rfl rfl rfl rfl | (refine LStep_add rfl rfl rfl rfl ?_; (refine IntWalk.i64_in _ ?_; first | omega | (simp only [cmps] at *; omega))) | (refine LStep_pickF rfl rfl ?_ rfl rfl; assumption) | (refine LStep_indexM (T := Tryz.tab) (c := ?_) rfl rfl rfl rfl rfl rfl ?_; rotate_left; assumption))) | (with_reducible refine Es_nil ?_) | (with_reducible refine then_n ?_) | (with_reducible refine block_n ?_))
      all_goals first
        | (refine ⟨i + 1, by omega, by omega, by (repeat' (first | exact trivial | exact rfl | (refine ⟨Or.inl rfl, ?_⟩) | (refine ⟨Or.inr rfl, ?_⟩) | (refine ⟨Or.inr trivial, ?_⟩) | (refine ⟨rfl, ?_⟩) | (refine ⟨?_, ?_⟩))), by (repeat' (first | exact trivial | exact rfl | (refine ⟨Or.inl rfl, ?_⟩) | (refine ⟨Or.inr rfl, ?_⟩) | (refine ⟨Or.inr trivial, ?_⟩) | (refine ⟨rfl, ?_⟩) | (refine ⟨?_, ?_⟩))), ?_, by (repeat' (first | exact trivial | exact rfl | (refine ⟨Or.inl rfl, ?_⟩) | (refine ⟨Or.inr rfl, ?_⟩) | (refine ⟨Or.inr trivial, ?_⟩) | (refine ⟨rfl, ?_⟩) | (refine ⟨?_, ?_⟩)))⟩
           rw [hM]; (repeat' (first | exact trivial | exact rfl | (refine ⟨Or.inl rfl, ?_⟩) | (refine ⟨Or.inr rfl, ?_⟩) | (refine ⟨Or.inr trivial, ?_⟩) | (refine ⟨rfl, ?_⟩) | (refine ⟨?_, ?_⟩))))
        | trace_state
    · have : i = Q.length := by omega
      subst this
      have g1 : ltb (Q.length : Nat) (Q.length : Nat) = false := by rw [ltb_f]; omega
      rw [List.take_length]
      have co : ∀ p : Int, AC Tryz.prog 33 [.ptr 1000 0, .d (.sc (.int .i64 p))] (hB S Q) [1000, 1001, 1002] (fun v h' => v = .d (.sc (.int .i64 0)) ∧ Kp (hB S Q) h') := fun p => by
        have := overKK_ac S Q p hQv.toInv hS
        rwa [falls_over hQf] at this
      clear hQv hQs hQf hQp z0
      repeat' (first | ((with_reducible refine gA ?_); (first | refine AW_seq ?_ | refine AW_region ?_ | (refine AW_condN rfl ?_ ?_; assumption) | refine AW_block ?_ | refine AW_exit ?_)) | ((with_reducible refine gS ?_); refine Es_s (T := Tryz.tab) rfl rfl rfl rfl ?_) | (((with_reducible refine gS ?_); apply Es_q); rfl; rfl; refine LStep_lenM (T := Tryz.tab) rfl rfl rfl rfl) | (with_reducible refine Es_nil ?_) | (with_reducible refine then_n ?_) | (with_reducible refine then_e ?_) | ((with_reducible refine block_e ?_ ?_); rfl))
      refine AW_forE (S := Nat) (fun p => p ≤ 65) (fun p => [(16, .d (.sc (.int .i64 (p : Nat))))]) (fun _ => []) (fun p => 65 - p) 0 (by omega) (by (repeat' (first | exact trivial | exact rfl | (refine ⟨Or.inl rfl, ?_⟩) | (refine ⟨Or.inr rfl, ?_⟩) | (refine ⟨Or.inr trivial, ?_⟩) | (refine ⟨rfl, ?_⟩) | (refine ⟨?_, ?_⟩)))) (by (repeat' (first | exact trivial | exact rfl | (refine ⟨Or.inl rfl, ?_⟩) | (refine ⟨Or.inr rfl, ?_⟩) | (refine ⟨Or.inr trivial, ?_⟩) | (refine ⟨rfl, ?_⟩) | (refine ⟨?_, ?_⟩)))) ?_
      intro p hp
      by_cases hlp : p < 65
      · have g2 : leb (p : Nat) 64 = true := by rw [leb_t]; omega
        have cq := co (p : Nat)
        repeat' (first | ((with_reducible refine gA ?_); (first | refine AW_seq ?_ | refine AW_region ?_ | (refine AW_condY rfl ?_ ?_; assumption) | (refine AW_condN rfl ?_ ?_; assumption) | refine AW_block ?_ | refine AW_skip ?_)) | ((with_reducible refine gS ?_); refine Es_s (T := Tryz.tab) rfl rfl rfl rfl ?_) | (((with_reducible refine gS ?_); apply Es_q); rfl; rfl; refine LStep_callB cq rfl rfl ⟨rfl, rfl, rfl, trivial⟩ rfl rfl) | (((with_reducible refine gS ?_); apply Es_q); rfl; rfl; (refine LStep_add rfl rfl rfl rfl ?_; (refine IntWalk.i64_in _ ?_; first | omega | (simp only [cmps] at *; omega)))) | (with_reducible refine Es_nil ?_) | (with_reducible refine then_n ?_) | (with_reducible refine block_n ?_))
        all_goals first
          | (refine ⟨p + 1, by omega, by omega, by (repeat' (first | exact trivial | exact rfl | (refine ⟨Or.inl rfl, ?_⟩) | (refine ⟨Or.inr rfl, ?_⟩) | (refine ⟨Or.inr trivial, ?_⟩) | (refine ⟨rfl, ?_⟩) | (refine ⟨?_, ?_⟩))), by (repeat' (first | exact trivial | exact rfl | (refine ⟨Or.inl rfl, ?_⟩) | (refine ⟨Or.inr rfl, ?_⟩) | (refine ⟨Or.inr trivial, ?_⟩) | (refine ⟨rfl, ?_⟩) | (refine ⟨?_, ?_⟩))), by (repeat' (first | exact trivial | exact rfl | (refine ⟨Or.inl rfl, ?_⟩) | (refine ⟨Or.inr rfl, ?_⟩) | (refine ⟨Or.inr trivial, ?_⟩) | (refine ⟨rfl, ?_⟩) | (refine ⟨?_, ?_⟩))), by (repeat' (first | exact trivial | exact rfl | (refine ⟨Or.inl rfl, ?_⟩) | (refine ⟨Or.inr rfl, ?_⟩) | (refine ⟨Or.inr trivial, ?_⟩) | (refine ⟨rfl, ?_⟩) | (refine ⟨?_, ?_⟩)))⟩; done)
          | trace_state
      · have : p = 65 := by omega
        subst this
        have g2 : leb ((65 : Nat) : Int) 64 = false := by rw [leb_f]; omega
        repeat' (first | ((with_reducible refine gA ?_); (first | refine AW_seq ?_ | refine AW_region ?_ | (refine AW_condN rfl ?_ ?_; assumption) | refine AW_ret ?_ | refine AW_exit ?_)) | ((with_reducible refine gS ?_); refine Es_s (T := Tryz.tab) rfl rfl rfl rfl ?_) | (with_reducible refine Es_nil ?_) | (with_reducible refine then_n ?_) | (with_reducible refine then_e ?_) | ((with_reducible refine block_e ?_ ?_); rfl) | ((with_reducible refine gR ?_); first | refine ret1 rfl ?_ | refine ret2 rfl rfl ?_ | refine ret0 ?_ | refine end1 rfl ?_ | refine end0 ?_))
        all_goals first
          | exact ⟨rfl, by (repeat' (first | exact trivial | exact rfl | (refine ⟨Or.inl rfl, ?_⟩) | (refine ⟨Or.inr rfl, ?_⟩) | (refine ⟨Or.inr trivial, ?_⟩) | (refine ⟨rfl, ?_⟩) | (refine ⟨?_, ?_⟩)))⟩
          | trace_state
  · rw [planR_no hE] at c1
    have f2 : (!(eqb (planE S l) 0)) = true := by rw [eqb_f.2 hE]; rfl
    generalize planE S l = e at *
    clear hE e0
    refine AC_enter Tryz.func10 rfl Tryz.ntmps10 (rv := [.tmp 6]) rfl rfl (by simp) (fun w X G => ?_)
    repeat' (first | ((with_reducible refine gA ?_); (first | refine AW_seq ?_ | refine AW_region ?_ | refine AW_condF rfl ?_ | (refine AW_condY rfl ?_ ?_; assumption) | refine AW_ret ?_ | refine AW_skip ?_)) | ((with_reducible refine gS ?_); refine Es_s (T := Tryz.tab) rfl rfl rfl rfl ?_) | (((with_reducible refine gS ?_); apply Es_q); rfl; rfl; (first | refine LStep_call (c0) rfl rfl rfl rfl | refine LStep_callB ca rfl rfl ⟨rfl, trivial⟩ rfl rfl)) | (((with_reducible refine gS ?_); apply Es_xg); rfl; rfl; refine LStep_callHN [] [] c1 rfl rfl ⟨rfl, trivial⟩ rfl ⟨trivial, trivial⟩ rfl rfl; rfl) | (refine Es_skip rfl ?_ rfl ?_; (first | rfl | (refine w_tf ?_; assumption) | (refine w_ft ?_; assumption))) | (((with_reducible refine gS ?_); apply Es_xs); rfl; rfl; refine LStep_boxN rfl rfl rfl rfl rfl rfl; rfl) | (with_reducible refine Es_nil ?_) | (with_reducible refine then_n ?_) | (with_reducible refine then_r ?_) | ((with_reducible refine gR ?_); first | refine ret1 rfl ?_ | refine ret2 rfl rfl ?_ | refine ret0 ?_ | refine end1 rfl ?_ | refine end0 ?_))
    all_goals first
      | exact ⟨rfl, by (repeat' (first | exact trivial | exact rfl | (refine ⟨Or.inl rfl, ?_⟩) | (refine ⟨Or.inr rfl, ?_⟩) | (refine ⟨Or.inr trivial, ?_⟩) | (refine ⟨rfl, ?_⟩) | (refine ⟨?_, ?_⟩)))⟩
      | trace_state
end Go.Proofs.YtjlblnplofgpnaaGreatDoor
