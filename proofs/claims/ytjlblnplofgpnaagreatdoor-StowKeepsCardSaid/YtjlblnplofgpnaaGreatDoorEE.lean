import Derived.Test.YtjlblnplofgpnaaGreatDoorEC
namespace Go.Proofs.YtjlblnplofgpnaaGreatDoor
open Go.SL
/-! ### StowKeeps -/
structure Planned (S : Ship) (l : List Load) (D : List Load) (W : List ByteArray) : Prop where
  hS : shipOk S = true
  hv : Inv2 S D
  sort : DSort D
  safe : safeE S D = 0
  falls : Falls D
  all : (D.map (·.box) ++ W).Perm (l.map (·.box))
  nd : (l.map (·.box)).Nodup
  mem : ∀ y ∈ D, ∃ x ∈ l, ∃ s, y = atL x s
theorem planned {S : Ship} {l : List Load} (hE : planE S l = 0) : Planned S l (lsort (planL S (bN S) (rN S) l)) (sortS (planO S (bN S) (rN S) l)) := by
  have hm : mayAllB S l = true := by
    cases h : mayAllB S l with
    | true => rfl
    | false => unfold planE at hE; rw [h] at hE; cases hE
  have ht : twiceB l = false := by
    cases h : twiceB l with
    | false => rfl
    | true => unfold planE at hE; rw [hm, h] at hE; cases hE
  unfold mayAllB at hm
  rw [Bool.and_eq_true] at hm
  have hS := hm.1
  have hv := planL_inv (B := bN S) (R := rN S) hS l
  have hp := lsort_perm hv.nS
  refine ⟨hS, hv.perm hp.symm, (lsort_doc hv.nS).sort, ?_, falls_perm (plan_falls hS l) hp.symm, ?_, ?_, fun y hy => plan_mem (hp.mem_iff.1 hy)⟩
  · rw [safeE_perm hp]
    exact plan_safe hS l
  · exact ((hp.map _).append (sortS_perm _)).trans (plan_all l)
  · unfold twiceB at ht
    simpa using ht
theorem Planned.right {S : Ship} {l D : List Load} {W : List ByteArray} (h : Planned S l D W) : rightE S D = 0 := rightE_iff.2 ⟨⟨h.hS, h.hv⟩, h.safe⟩
theorem Planned.len {S : Ship} {l D : List Load} {W : List ByteArray} (h : Planned S l D W) : D.length + W.length = l.length := by
  have := h.all.length_eq
  rw [List.length_append, List.length_map, List.length_map] at this
  exact this
theorem Planned.one {S : Ship} {l D : List Load} {W : List ByteArray} (h : Planned S l D W) {x : Load} (hx : x ∈ l) : (∃ (j : Nat) (s : Sl), D[j]? = some (atL x s) ∧ fI (fun y => eqs y.box x.box) D 0 = (j : Nat) ∧ x.box ∉ W) ∨ (fI (fun y => eqs y.box x.box) D 0 = -1 ∧ x.box ∈ W) := by
  have hnd := h.all.nodup_iff.2 h.nd
  rw [List.nodup_append] at hnd
  have hm : x.box ∈ D.map (·.box) ++ W := h.all.mem_iff.2 (List.mem_map.2 ⟨x, hx, rfl⟩)
  rcases by_place h.hv.nB x.box with ⟨g1, g2⟩ | ⟨j, y, g0, g1, g2⟩
  · refine .inr ⟨g2, ?_⟩
    rcases List.mem_append.1 hm with q | q
    · obtain ⟨z, hz, e⟩ := List.mem_map.1 q
      exact absurd e (byB_none.1 g1 z hz)
    · exact q
  · obtain ⟨h1, h2⟩ := (byB_some h.hv.nB).1 g1
    obtain ⟨z, hz, s, rfl⟩ := h.mem y h1
    have : z = x := inj_of_nodup h.nd z hz x hx h2
    subst this
    exact .inl ⟨j, s, g0, g2, fun hw => hnd.2.2 _ (List.mem_map.2 ⟨_, h1, rfl⟩) _ hw rfl⟩
theorem any_yes {W : List ByteArray} {b : ByteArray} (h : b ∈ W) : (W.any fun w => eqs w b) = true := List.any_eq_true.2 ⟨b, h, eqs_t.2 rfl⟩
theorem any_no {W : List ByteArray} {b : ByteArray} (h : b ∉ W) : (W.any fun w => eqs w b) = false := by
  rw [List.any_eq_false]
  intro w hw e
  rw [eqs_t] at e
  exact h (e ▸ hw)
theorem any_stepB {W : List ByteArray} {j : Nat} {w b : ByteArray} (hw : W[j]? = some w) : ((W.take (j + 1)).any fun w => eqs w b) = (((W.take j).any fun w => eqs w b) || eqs w b) := by
  rw [take_at hw, List.any_append]
  simp
theorem load_selfB (x : Load) : x.eqB x = true := by rw [load_eqB, decide_eq_true_eq]
set_option maxRecDepth 10000 in
set_option maxHeartbeats 16000000 in
theorem keeps_ac (S : Ship) (l : List Load) (hl : l.length ≤ 140737488351232) : AC Tryz.prog 5 [.agg S.cs, .d (.sl 7 (l.map Load.enc))] [hG] [9000] (fun r h' => r = .d (.sc (.bool true)) ∧ SubH [hG] h') := by
  have ca := wakeK_ac
  have c0 := rFew_ac S l hl
  cases e0 : (fewL l && fewS S) with
  | false =>
    rw [e0] at c0
    refine AC_enter Tryz.func5 rfl Tryz.ntmps5 (rv := [.tmp 4]) rfl rfl (by simp) (fun w X G => ?_)
    repeat' (first | ((with_reducible refine gA ?_); (first | refine AW_seq ?_ | refine AW_region ?_ | refine AW_condT rfl ?_ | refine AW_condF rfl ?_ | refine AW_ret ?_ | refine AW_skip ?_)) | ((with_reducible refine gS ?_); refine Es_s (T := Tryz.tab) rfl rfl rfl rfl ?_) | (((with_reducible refine gS ?_); apply Es_q); rfl; rfl; (first | refine LStep_call (c0) rfl rfl rfl rfl | refine LStep_callB ca rfl rfl ⟨rfl, trivial⟩ rfl rfl)) | (refine Es_skip rfl ?_ rfl ?_; (first | rfl | (refine w_tf ?_; assumption) | (refine w_ft ?_; assumption))) | (((with_reducible refine gS ?_); apply Es_xs); rfl; rfl; refine LStep_boxN rfl rfl rfl rfl rfl rfl; rfl) | (with_reducible refine Es_nil ?_) | (with_reducible refine then_n ?_) | (with_reducible refine then_r ?_) | ((with_reducible refine gR ?_); first | refine ret1 rfl ?_ | refine ret2 rfl rfl ?_ | refine ret0 ?_ | refine end1 rfl ?_ | refine end0 ?_))
    all_goals first
      | exact ⟨rfl, by (repeat' (first | exact trivial | exact rfl | (refine ⟨Or.inl rfl, ?_⟩) | (refine ⟨Or.inr rfl, ?_⟩) | (refine ⟨Or.inr trivial, ?_⟩) | (refine ⟨rfl, ?_⟩) | (refine ⟨?_, ?_⟩)))⟩
      | trace_state
  | true =>
  rw [e0] at c0
  obtain ⟨h1, h2, h3⟩ := few_in e0
  have c1 := plan_ac S l (by omega)
  by_cases hE : planE S l = 0
  · rw [planR_yes hE] at c1
    have hP := planned hE
    generalize lsort (planL S (bN S) (rN S) l) = D at *
    generalize sortS (planO S (bN S) (rN S) l) = W at *
    have hlen := hP.len
    have c2 := sright2_ac S D (by omega)
    rw [hP.right] at c2
    have f0 : (!(eqb 0 0)) = false := by rw [eqb_self]; rfl
    have f1 : (!(eqb ((D.length : Nat) + (W.length : Nat)) (l.length : Nat))) = false := by rw [eqb_t.2 (by omega)]; rfl
    refine AC_enter Tryz.func5 rfl Tryz.ntmps5 (rv := [.tmp 4]) rfl rfl (by simp) (fun w X G => ?_)
    repeat' (first | ((with_reducible refine gA ?_); (first | refine AW_seq ?_ | refine AW_region ?_ | refine AW_condF rfl ?_ | (refine AW_condN rfl ?_ ?_; assumption) | refine AW_block ?_ | refine AW_skip ?_)) | ((with_reducible refine gS ?_); refine Es_s (T := Tryz.tab) rfl rfl rfl rfl ?_) | (((with_reducible refine gS ?_); apply Es_q); rfl; (first | rfl | (refine w_ff ?_; assumption)); (first | refine LStep_call (c0) rfl rfl rfl rfl | refine LStep_callB ca rfl rfl ⟨rfl, trivial⟩ rfl rfl | refine LStep_callB c2 rfl rfl ⟨rfl, trivial⟩ rfl rfl)) | (((with_reducible refine gS ?_); apply Es_xg); rfl; (first | rfl | (refine w_ff ?_; assumption)); refine LStep_callHN [] [] c1 rfl rfl ⟨rfl, trivial⟩ rfl ⟨trivial, trivial⟩ rfl rfl; rfl) | (((with_reducible refine gS ?_); apply Es_q); rfl; (first | rfl | (refine w_ff ?_; assumption)); (first | refine LStep_simp (T := Tryz.tab) rfl rfl | refine LStep_lenM (T := Tryz.tab) rfl rfl rfl rfl | (refine LStep_add rfl rfl rfl rfl ?_; (refine IntWalk.i64_in _ ?_; first | omega | (simp only [cmps] at *; omega))) | (refine LStep_pickF rfl rfl ?_ rfl rfl; assumption))) | (refine Es_skip rfl ?_ rfl ?_; (first | rfl | (refine w_tf ?_; assumption) | (refine w_ft ?_; assumption))) | (((with_reducible refine gS ?_); apply Es_xs); rfl; rfl; refine LStep_boxN rfl rfl rfl rfl rfl rfl; rfl) | (with_reducible refine Es_nil ?_) | (with_reducible refine then_n ?_))
    refine AW_forE (S := Nat) (fun i => i ≤ l.length) (fun i => [(8, .d (.sc (.int .i64 (i : Nat))))]) (fun _ => []) (fun i => l.length - i) 0 (by omega) (by (repeat' (first | exact trivial | exact rfl | (refine ⟨Or.inl rfl, ?_⟩) | (refine ⟨Or.inr rfl, ?_⟩) | (refine ⟨Or.inr trivial, ?_⟩) | (refine ⟨rfl, ?_⟩) | (refine ⟨?_, ?_⟩)))) (by (repeat' (first | exact trivial | exact rfl | (refine ⟨Or.inl rfl, ?_⟩) | (refine ⟨Or.inr rfl, ?_⟩) | (refine ⟨Or.inr trivial, ?_⟩) | (refine ⟨rfl, ?_⟩) | (refine ⟨?_, ?_⟩)))) ?_
    intro i hi
    by_cases hlt : i < l.length
    · obtain ⟨x, hx, _⟩ := drop_at hlt
      have hxl := List.mem_of_getElem? hx
      have g1 : ltb (i : Nat) (l.length : Nat) = true := by rw [ltb_t]; omega
      have cf := rFind_ac D x.box (by omega)
      have hone := hP.one hxl
      generalize fI (fun y => eqs y.box x.box) D 0 = k at *
      clear c1 c2 ca c0
      repeat' (first | ((with_reducible refine gA ?_); (first | refine AW_seq ?_ | refine AW_region ?_ | (refine AW_condY rfl ?_ ?_; assumption) | refine AW_block ?_ | refine AW_skip ?_)) | ((with_reducible refine gS ?_); refine Es_s (T := Tryz.tab) rfl rfl rfl rfl ?_) | (((with_reducible refine gS ?_); apply Es_q); rfl; rfl; refine LStep_call (cf) rfl rfl rfl rfl) | (((with_reducible refine gS ?_); apply Es_q); rfl; rfl; (first | refine LStep_lenM (T := Tryz.tab) rfl rfl rfl rfl | (refine LStep_indexM (T := Tryz.tab) (c := ?_) rfl rfl rfl rfl rfl rfl ?_; rotate_left; assumption))) | (with_reducible refine Es_nil ?_) | (with_reducible refine then_n ?_))
      refine AW_forE (S := Nat) (fun j => j ≤ W.length) (fun j => [(11, .d (.sc (.int .i64 (j : Nat)))), (10, .d (.sc (.bool ((W.take j).any fun w => eqs w x.box))))]) (fun _ => []) (fun j => W.length - j) 0 (by omega) (by (repeat' (first | exact trivial | exact rfl | (refine ⟨Or.inl rfl, ?_⟩) | (refine ⟨Or.inr rfl, ?_⟩) | (refine ⟨Or.inr trivial, ?_⟩) | (refine ⟨rfl, ?_⟩) | (refine ⟨?_, ?_⟩)))) (by (repeat' (first | exact trivial | exact rfl | (refine ⟨Or.inl rfl, ?_⟩) | (refine ⟨Or.inr rfl, ?_⟩) | (refine ⟨Or.inr trivial, ?_⟩) | (refine ⟨rfl, ?_⟩) | (refine ⟨?_, ?_⟩)))) ?_
      intro j hj
      by_cases hlj : j < W.length
      · obtain ⟨w', hw, _⟩ := drop_at hlj
        have g2 : ltb (j : Nat) (W.length : Nat) = true := by rw [ltb_t]; omega
        have hst := any_stepB (b := x.box) hw
        generalize hq : ((W.take j).any fun w => eqs w x.box) = q at *
        cases q with
        | true =>
          rw [Bool.true_or] at hst
          repeat' (first | ((with_reducible refine gA ?_); (first | refine AW_seq ?_ | refine AW_region ?_ | refine AW_regionD Tryz.mixed ?_ | (refine AW_condY rfl ?_ ?_; assumption) | refine AW_block ?_ | refine AW_skip ?_)) | (first | ((with_reducible refine gS ?_); refine Es_s (T := Tryz.tab) rfl rfl rfl rfl ?_) | ((with_reducible refine gD ?_); refine Ed_s (T := Tryz.tab) rfl rfl rfl rfl ?_)) | ((first | ((with_reducible refine gS ?_); apply Es_q) | ((with_reducible refine gD ?_); apply Ed_q)); rfl; rfl; (first | refine LStep_lenM (T := Tryz.tab) rfl rfl rfl rfl | (refine LStep_add rfl rfl rfl rfl ?_; (refine IntWalk.i64_in _ ?_; first | omega | (simp only [cmps] at *; omega))))) | (refine Ed_skip rfl ?_ rfl ?_; (first | rfl | (refine w_tf ?_; assumption) | (refine w_ft ?_; assumption))) | (with_reducible refine Es_nil ?_) | ((with_reducible refine Ed_nil ?_ ?_); kernel_rfl) | (with_reducible refine then_n ?_) | (with_reducible refine block_n ?_))
          all_goals first
            | (refine ⟨j + 1, by omega, by omega, ?_, by (repeat' (first | exact trivial | exact rfl | (refine ⟨Or.inl rfl, ?_⟩) | (refine ⟨Or.inr rfl, ?_⟩) | (refine ⟨Or.inr trivial, ?_⟩) | (refine ⟨rfl, ?_⟩) | (refine ⟨?_, ?_⟩))), by (repeat' (first | exact trivial | exact rfl | (refine ⟨Or.inl rfl, ?_⟩) | (refine ⟨Or.inr rfl, ?_⟩) | (refine ⟨Or.inr trivial, ?_⟩) | (refine ⟨rfl, ?_⟩) | (refine ⟨?_, ?_⟩))), by (repeat' (first | exact trivial | exact rfl | (refine ⟨Or.inl rfl, ?_⟩) | (refine ⟨Or.inr rfl, ?_⟩) | (refine ⟨Or.inr trivial, ?_⟩) | (refine ⟨rfl, ?_⟩) | (refine ⟨?_, ?_⟩)))⟩
               rw [hst]; (repeat' (first | exact trivial | exact rfl | (refine ⟨Or.inl rfl, ?_⟩) | (refine ⟨Or.inr rfl, ?_⟩) | (refine ⟨Or.inr trivial, ?_⟩) | (refine ⟨rfl, ?_⟩) | (refine ⟨?_, ?_⟩))))
            | trace_state
        | false =>
          rw [Bool.false_or] at hst
          repeat' (first | ((with_reducible refine gA ?_); (first | refine AW_seq ?_ | refine AW_region ?_ | refine AW_regionD Tryz.mixed ?_ | (refine AW_condY rfl ?_ ?_; assumption) | refine AW_block ?_ | refine AW_skip ?_)) | (first | ((with_reducible refine gS ?_); refine Es_s (T := Tryz.tab) rfl rfl rfl rfl ?_) | ((with_reducible refine gD ?_); refine Ed_s (T := Tryz.tab) rfl rfl rfl rfl ?_)) | ((first | ((with_reducible refine gS ?_); apply Es_q) | ((with_reducible refine gD ?_); apply Ed_q)); rfl; rfl; (first | refine LStep_simp (T := Tryz.tab) rfl rfl | refine LStep_lenM (T := Tryz.tab) rfl rfl rfl rfl | (refine LStep_add rfl rfl rfl rfl ?_; (refine IntWalk.i64_in _ ?_; first | omega | (simp only [cmps] at *; omega))) | (refine LStep_indexM (T := Tryz.tab) (c := ?_) rfl rfl rfl rfl rfl rfl ?_; rotate_left; assumption))) | (with_reducible refine Es_nil ?_) | ((with_reducible refine Ed_nil ?_ ?_); kernel_rfl) | (with_reducible refine then_n ?_) | (with_reducible refine block_n ?_))
          all_goals first
            | (refine ⟨j + 1, by omega, by omega, ?_, by (repeat' (first | exact trivial | exact rfl | (refine ⟨Or.inl rfl, ?_⟩) | (refine ⟨Or.inr rfl, ?_⟩) | (refine ⟨Or.inr trivial, ?_⟩) | (refine ⟨rfl, ?_⟩) | (refine ⟨?_, ?_⟩))), by (repeat' (first | exact trivial | exact rfl | (refine ⟨Or.inl rfl, ?_⟩) | (refine ⟨Or.inr rfl, ?_⟩) | (refine ⟨Or.inr trivial, ?_⟩) | (refine ⟨rfl, ?_⟩) | (refine ⟨?_, ?_⟩))), by (repeat' (first | exact trivial | exact rfl | (refine ⟨Or.inl rfl, ?_⟩) | (refine ⟨Or.inr rfl, ?_⟩) | (refine ⟨Or.inr trivial, ?_⟩) | (refine ⟨rfl, ?_⟩) | (refine ⟨?_, ?_⟩)))⟩
               rw [hst]; (repeat' (first | exact trivial | exact rfl | (refine ⟨Or.inl rfl, ?_⟩) | (refine ⟨Or.inr rfl, ?_⟩) | (refine ⟨Or.inr trivial, ?_⟩) | (refine ⟨rfl, ?_⟩) | (refine ⟨?_, ?_⟩))))
            | trace_state
      · have : j = W.length := by omega
        subst this
        have g2 : ltb (W.length : Nat) (W.length : Nat) = false := by rw [ltb_f]; omega
        rw [List.take_length]
        rcases hone with ⟨j, s, q1, q2, q3⟩ | ⟨q2, q3⟩
        · subst q2
          rw [any_no q3]
          have g3 : leb 0 (j : Nat) = true := by rw [leb_t]; omega
          have g4 : (false == leb 0 ((j : Nat) : Int)) = false := by rw [g3]; rfl
          have g5 : (!(x.eqB x)) = false := by rw [load_selfB]; rfl

          repeat' (first | ((with_reducible refine gA ?_); (first | refine AW_seq ?_ | refine AW_region ?_ | refine AW_regionD Tryz.mixed ?_ | (refine AW_condY rfl ?_ ?_; assumption) | (refine AW_condN rfl ?_ ?_; assumption) | refine AW_skip ?_ | refine AW_exit ?_)) | (first | ((with_reducible refine gS ?_); refine Es_s (T := Tryz.tab) rfl rfl rfl rfl ?_) | ((with_reducible refine gD ?_); refine Ed_s (T := Tryz.tab) rfl rfl rfl rfl ?_)) | ((first | ((with_reducible refine gS ?_); apply Es_q) | ((with_reducible refine gD ?_); apply Ed_q)); rfl; rfl; (first | refine LStep_eqBool (T := Tryz.tab) rfl rfl rfl rfl rfl | refine LStep_neqAgg (T := Tryz.tab) eqS_load eqG_load (by omega) rfl rfl rfl rfl rfl rfl)) | ((first | ((with_reducible refine gS ?_); apply Es_q) | ((with_reducible refine gD ?_); apply Ed_q)); rfl; rfl; (first | refine LStep_lenM (T := Tryz.tab) rfl rfl rfl rfl | (refine LStep_add rfl rfl rfl rfl ?_; (refine IntWalk.i64_in _ ?_; first | omega | (simp only [cmps] at *; omega))) | (refine LStep_indexM (T := Tryz.tab) (c := ?_) rfl rfl rfl rfl rfl rfl ?_; rotate_left; assumption))) | (refine Es_skip rfl ?_ rfl ?_; (first | rfl | (refine w_tf ?_; assumption) | (refine w_ft ?_; assumption))) | (((with_reducible refine gS ?_); apply Es_xs); rfl; rfl; refine LStep_allocN (T := Tryz.tab) rfl rfl rfl rfl rfl rfl; rfl) | (((with_reducible refine gS ?_); apply Es_xn); rfl; rfl; (refine LStep_storeN (T := Tryz.tab) rfl rfl rfl rfl rfl rfl rfl ?_ rfl; (refine Nat.le_of_ble_eq_true ?_; rfl)); rfl) | (with_reducible refine Es_nil ?_) | ((with_reducible refine Ed_nil ?_ ?_); kernel_rfl) | (with_reducible refine then_n ?_) | (with_reducible refine then_e ?_) | (with_reducible refine block_n ?_) | ((with_reducible refine block_e ?_ ?_); rfl))
          all_goals first
            | (refine ⟨i + 1, by omega, by omega, by (repeat' (first | exact trivial | exact rfl | (refine ⟨Or.inl rfl, ?_⟩) | (refine ⟨Or.inr rfl, ?_⟩) | (refine ⟨Or.inr trivial, ?_⟩) | (refine ⟨rfl, ?_⟩) | (refine ⟨?_, ?_⟩))), by (repeat' (first | exact trivial | exact rfl | (refine ⟨Or.inl rfl, ?_⟩) | (refine ⟨Or.inr rfl, ?_⟩) | (refine ⟨Or.inr trivial, ?_⟩) | (refine ⟨rfl, ?_⟩) | (refine ⟨?_, ?_⟩))), by (repeat' (first | exact trivial | exact rfl | (refine ⟨Or.inl rfl, ?_⟩) | (refine ⟨Or.inr rfl, ?_⟩) | (refine ⟨Or.inr trivial, ?_⟩) | (refine ⟨rfl, ?_⟩) | (refine ⟨?_, ?_⟩))), by (repeat' (first | exact trivial | exact rfl | (refine ⟨Or.inl rfl, ?_⟩) | (refine ⟨Or.inr rfl, ?_⟩) | (refine ⟨Or.inr trivial, ?_⟩) | (refine ⟨rfl, ?_⟩) | (refine ⟨?_, ?_⟩)))⟩; done)
            | trace_state
        · subst q2
          rw [any_yes q3]
          have g3 : leb 0 (-1) = false := by rw [leb_f]; omega
          have g4 : (true == leb 0 (-1)) = false := by rw [g3]; rfl

          repeat' (first | ((with_reducible refine gA ?_); (first | refine AW_seq ?_ | refine AW_region ?_ | (refine AW_condN rfl ?_ ?_; assumption) | refine AW_skip ?_ | refine AW_exit ?_)) | ((with_reducible refine gS ?_); refine Es_s (T := Tryz.tab) rfl rfl rfl rfl ?_) | (((with_reducible refine gS ?_); apply Es_q); rfl; rfl; refine LStep_eqBool (T := Tryz.tab) rfl rfl rfl rfl rfl) | (((with_reducible refine gS ?_); apply Es_q); rfl; rfl; (first | refine LStep_lenM (T := Tryz.tab) rfl rfl rfl rfl | (refine LStep_add rfl rfl rfl rfl ?_; (refine IntWalk.i64_in _ ?_; first | omega | (simp only [cmps] at *; omega))))) | (with_reducible refine Es_nil ?_) | (with_reducible refine then_n ?_) | (with_reducible refine then_e ?_) | (with_reducible refine block_n ?_) | ((with_reducible refine block_e ?_ ?_); rfl))
          all_goals first
            | (refine ⟨i + 1, by omega, by omega, by (repeat' (first | exact trivial | exact rfl | (refine ⟨Or.inl rfl, ?_⟩) | (refine ⟨Or.inr rfl, ?_⟩) | (refine ⟨Or.inr trivial, ?_⟩) | (refine ⟨rfl, ?_⟩) | (refine ⟨?_, ?_⟩))), by (repeat' (first | exact trivial | exact rfl | (refine ⟨Or.inl rfl, ?_⟩) | (refine ⟨Or.inr rfl, ?_⟩) | (refine ⟨Or.inr trivial, ?_⟩) | (refine ⟨rfl, ?_⟩) | (refine ⟨?_, ?_⟩))), by (repeat' (first | exact trivial | exact rfl | (refine ⟨Or.inl rfl, ?_⟩) | (refine ⟨Or.inr rfl, ?_⟩) | (refine ⟨Or.inr trivial, ?_⟩) | (refine ⟨rfl, ?_⟩) | (refine ⟨?_, ?_⟩))), by (repeat' (first | exact trivial | exact rfl | (refine ⟨Or.inl rfl, ?_⟩) | (refine ⟨Or.inr rfl, ?_⟩) | (refine ⟨Or.inr trivial, ?_⟩) | (refine ⟨rfl, ?_⟩) | (refine ⟨?_, ?_⟩)))⟩; done)
            | trace_state
    · have : i = l.length := by omega
      subst this
      have g1 : ltb (l.length : Nat) (l.length : Nat) = false := by rw [ltb_f]; omega
      repeat' (first | ((with_reducible refine gA ?_); (first | refine AW_seq ?_ | refine AW_region ?_ | (refine AW_condN rfl ?_ ?_; assumption) | refine AW_ret ?_ | refine AW_exit ?_)) | ((with_reducible refine gS ?_); refine Es_s (T := Tryz.tab) rfl rfl rfl rfl ?_) | (((with_reducible refine gS ?_); apply Es_q); rfl; rfl; refine LStep_lenM (T := Tryz.tab) rfl rfl rfl rfl) | (with_reducible refine Es_nil ?_) | (with_reducible refine then_n ?_) | (with_reducible refine then_e ?_) | ((with_reducible refine block_e ?_ ?_); rfl) | ((with_reducible refine gR ?_); first | refine ret1 rfl ?_ | refine ret2 rfl rfl ?_ | refine ret0 ?_ | refine end1 rfl ?_ | refine end0 ?_))
      all_goals first
        | exact ⟨rfl, by (repeat' (first | exact trivial | exact rfl | (refine ⟨Or.inl rfl, ?_⟩) | (refine ⟨Or.inr rfl, ?_⟩) | (refine ⟨Or.inr trivial, ?_⟩) | (refine ⟨rfl, ?_⟩) | (refine ⟨?_, ?_⟩)))⟩
        | trace_state
  · rw [planR_no hE] at c1
    have f2 : (!(eqb (planE S l) 0)) = true := by rw [eqb_f.2 hE]; rfl
    generalize planE S l = e at *
    clear hE e0
    refine AC_enter Tryz.func5 rfl Tryz.ntmps5 (rv := [.tmp 4]) rfl rfl (by simp) (fun w X G => ?_)
    repeat' (first | ((with_reducible refine gA ?_); (first | refine AW_seq ?_ | refine AW_region ?_ | refine AW_condF rfl ?_ | (refine AW_condY rfl ?_ ?_; assumption) | refine AW_ret ?_ | refine AW_skip ?_)) | ((with_reducible refine gS ?_); refine Es_s (T := Tryz.tab) rfl rfl rfl rfl ?_) | (((with_reducible refine gS ?_); apply Es_q); rfl; (first | rfl | (refine w_tt ?_; assumption)); (first | refine LStep_call (c0) rfl rfl rfl rfl | refine LStep_callB ca rfl rfl ⟨rfl, trivial⟩ rfl rfl)) | (((with_reducible refine gS ?_); apply Es_xg); rfl; (first | rfl | (refine w_tt ?_; assumption)); refine LStep_callHN [] [] c1 rfl rfl ⟨rfl, trivial⟩ rfl ⟨trivial, trivial⟩ rfl rfl; rfl) | (((with_reducible refine gS ?_); apply Es_q); rfl; (first | rfl | (refine w_tt ?_; assumption)); (first | refine LStep_simp (T := Tryz.tab) rfl rfl | refine LStep_wrap (T := Tryz.tab) rfl rfl | (refine LStep_pickT rfl rfl ?_ rfl rfl; assumption) | (refine LStep_pickF rfl rfl ?_ rfl rfl; assumption))) | (refine Es_skip rfl ?_ rfl ?_; (first | rfl | (refine w_tf ?_; assumption) | (refine w_ft ?_; assumption))) | (((with_reducible refine gS ?_); apply Es_xs); rfl; rfl; refine LStep_boxN rfl rfl rfl rfl rfl rfl; rfl) | (refine Es_split rfl ?_ (fun _ => ?_) (fun _ => ?_); ((fail_if_success (refine und_t ?_; assumption)); (fail_if_success (refine und_f ?_; assumption)); exact trivial)) | (with_reducible refine Es_nil ?_) | (with_reducible refine then_n ?_) | (with_reducible refine then_r ?_) | ((with_reducible refine gR ?_); first | refine ret1 rfl ?_ | refine ret2 rfl rfl ?_ | refine ret0 ?_ | refine end1 rfl ?_ | refine end0 ?_))
    all_goals first
      | exact ⟨rfl, by (repeat' (first | exact trivial | exact rfl | (refine ⟨Or.inl rfl, ?_⟩) | (refine ⟨Or.inr rfl, ?_⟩) | (refine ⟨Or.inr trivial, ?_⟩) | (refine ⟨rfl, ?_⟩) | (refine ⟨?_, ?_⟩)))⟩
      | (refine ⟨?_, by (repeat' (first | exact trivial | exact rfl | (refine ⟨Or.inl rfl, ?_⟩) | (refine ⟨Or.inr rfl, ?_⟩) | (refine ⟨Or.inr trivial, ?_⟩) | (refine ⟨rfl, ?_⟩) | (refine ⟨?_, ?_⟩)))⟩; refine congrArg (fun b => AV.d (D.sc (Value.bool b))) ?_; simp [eqb]; done)
      | (exfalso; simp [eqb] at *; done)
      | trace_state
end Go.Proofs.YtjlblnplofgpnaaGreatDoor
