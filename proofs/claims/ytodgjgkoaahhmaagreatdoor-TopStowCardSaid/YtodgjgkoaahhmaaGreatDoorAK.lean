import Derived.Test.YtodgjgkoaahhmaaGreatDoorAD
namespace Go.Proofs.YtodgjgkoaahhmaaGreatDoor
open Go.SL
theorem at_last {α : Type} (l : List α) (a : α) : (l ++ [a])[l.length]? = some a := by simp
theorem st_put {es : List (Value × AV)} {st : List Nat} {ck : Nat} {a b : Value × AV} (h : StOk es st ck) : StOk ((es ++ [a]).set es.length b) (st ++ [ck]) (ck + 1) := by
  refine ⟨by simp [h.len], fun i j s h1 h2 => ?_, fun s hs => ?_⟩
  · have at_ : ∀ i : Nat, (st ++ [ck])[i]? = some s → (i < st.length ∧ st[i]? = some s ∧ s < ck) ∨ (i = st.length ∧ s = ck) := by
      intro i hi
      rcases Nat.lt_trichotomy i st.length with hlt | he | hgt
      · rw [List.getElem?_append_left hlt] at hi
        exact .inl ⟨hlt, hi, h.lt s (List.mem_of_getElem? hi)⟩
      · subst he
        rw [List.getElem?_append_right (Nat.le_refl _)] at hi
        simp only [Nat.sub_self, List.getElem?_cons_zero, Option.some.injEq] at hi
        exact .inr ⟨rfl, hi.symm⟩
      · rw [List.getElem?_eq_none (by simp; omega)] at hi; cases hi
    rcases at_ i h1 with ⟨a1, a2, a3⟩ | ⟨a1, a2⟩ <;> rcases at_ j h2 with ⟨b1, b2, b3⟩ | ⟨b1, b2⟩
    · exact h.nd i j s a2 b2
    · omega
    · omega
    · omega
  · rcases List.mem_append.1 hs with q | q
    · have := h.lt s q; omega
    · rw [List.mem_singleton.1 q]; omega
section
variable (S : Ship) (L : List Load) (x : Load)
def putFns : List (List AV) := [[.d (.sc (.int .i64 1)), .fn 60 [.ptr 3 0]], [.d (.sc (.int .i64 5)), .fn 62 [.ptr 2 0, .ptr 3 0]], [.d (.sc (.int .i64 3)), .fn 63 [.ptr 2 0, .ptr 3 0]], [.d (.sc (.int .i64 8)), .fn 65 [.ptr 2 0, .ptr 3 0]], [.d (.sc (.int .i64 6)), .fn 66 [.ptr 2 0, .ptr 3 0]], [.d (.sc (.int .i64 7)), .fn 68 [.ptr 2 0, .ptr 3 0]], [.d (.sc (.int .i64 12)), .fn 70 [.ptr 2 0, .ptr 3 0]]]
set_option maxRecDepth 10000 in
set_option maxHeartbeats 4000000 in
theorem putYes_ac (hv : Inv2 S L) (hS : shipOk S = true) (hT : 0 ≤ wsum L ∧ wsum L ≤ 1048576) (E : putE S L x = 0) : AC Tryz.prog 32 [.ptr 1000 0, .agg x.cs2] (hB S L ++ [hG]) [1000, 1001, 1002, 9000] (fun r h' => r = .d (.sc (.int .i64 (putE S L x))) ∧ SubH (hB S (putL S L x) ++ [hG]) h') := by
  have hS' : (0 ≤ S.bays ∧ S.bays ≤ 32) ∧ (0 ≤ S.rows ∧ S.rows ≤ 32) ∧ (0 ≤ S.tiers ∧ S.tiers ≤ 32) ∧ S.stack ≤ 1048576 := by
    simp only [shipOk, Bool.and_eq_true, frB_t] at hS
    omega
  obtain ⟨e1, e2, e3, e4, e5, e6, e6b, e7⟩ := putE_ok E
  have ho := e3
  simp only [onB, Bool.and_eq_true, frB_t] at ho
  have hx := e1
  simp only [mayL, Bool.and_eq_true, frB_t] at hx
  have hsw := stack_w hv.toInv (show S.tiers ≤ 32 by omega) x.sl.b x.sl.r
  have hw : ∀ y ∈ L, 0 ≤ y.w ∧ y.w ≤ 1048576 := fun y hy => by have := hv.ok y hy; omega
  have hst : 0 ≤ stW L x.sl.b x.sl.r ∧ stW L x.sl.b x.sl.r ≤ 1048576 := ⟨stW_nn hv.toInv _ _, by have := hv.stk x.sl.b x.sl.r; omega⟩
  have c1 := put1_ac S L x
  have c2 := put2_ac S L x
  have c3 := put3_ac S L x (by omega)
  have c4 := put4_ac S L x
  have c5 := put5_ac S L x (by omega) (by omega)
  have c6 := put6_ac S L x (fun y hy => hw y (stack_sub hv.nS hy)) hT (by omega) (by rw [hsw]; omega)
  have c7 := put7_ac S L x (by omega) (by omega)
  rw [clash_eq hv.toInv (by omega) x, e7] at c7
  rw [hsw, decide_eq_false (by omega)] at c6
  rw [e5] at c5
  rw [e4] at c4
  rw [e3] at c3
  rw [e2] at c2
  rw [e1] at c1
  have F : putL S L x = L ++ [x] := by unfold putL; rw [E]; rfl
  have m1 := mat_none (cv := loV) slV_keq e4
  have m2 := mat_none (cv := loV) sV_keq e2
  have e6c : wsum L + x.w = wsum (L ++ [x]) := by rw [wsum_app]; simp [wsum]
  have f1 : ∀ a, (emap slV loV (slM L) ++ [a]).set (emap slV loV (slM L)).length (slV x.sl, loV x) = emap slV loV (slM (L ++ [x])) := fun a => by rw [set_last, slM_app]; simp [emap, slM]
  have f2 : ∀ a, (emap sV loV (nmM L) ++ [a]).set (emap sV loV (nmM L)).length (sV x.box, loV x) = emap sV loV (nmM (L ++ [x])) := fun a => by rw [set_last, nmM_app]; simp [emap, nmM]
  have b1 : -9223372036854775808 ≤ wsum L + x.w ∧ wsum L + x.w ≤ 9223372036854775807 := by omega
  clear hS hst hw hsw e7 e6b e6 e5 e3 e1 hS' ho hx hv
  refine AC_enter Tryz.func32 rfl Tryz.ntmps32 (rv := [.tmp 4]) rfl rfl (by simp) (fun w X G => ?_)
  repeat' (first | ((with_reducible refine gA ?_); (first | refine AW_seq ?_ | refine AW_region ?_ | refine AW_block ?_)) | ((with_reducible refine gS ?_); refine Es_s (T := Tryz.tab) rfl rfl rfl rfl ?_) | (((with_reducible refine gS ?_); apply Es_q); rfl; rfl; (first | refine LStep_wrap (T := Tryz.tab) rfl rfl | (refine LStep_litA (T := Tryz.tab) rfl rfl rfl rfl rfl rfl rfl ?_; (refine Nat.le_of_ble_eq_true ?_; rfl)) | refine LStep_buildN (T := Tryz.tab) rfl rfl rfl rfl rfl rfl rfl)) | (refine Es_skip rfl ?_ rfl ?_; (first | rfl | (refine w_tf ?_; assumption) | (refine w_ft ?_; assumption))) | (((with_reducible refine gS ?_); apply Es_xs); rfl; rfl; refine LStep_boxN rfl rfl rfl rfl rfl rfl; rfl) | (with_reducible refine Es_nil ?_) | (with_reducible refine then_n ?_))
  refine AW_rounds 8 ?_
  repeat' (first | ((with_reducible refine gRd ?_); refine rounds_stepD (n := _ + 1) [6, 24, 25, 26, 27, 28, 29, 30, 31, 32] [6] ?_) | ((with_reducible refine gA ?_); (first | refine AW_seq ?_ | refine AW_region ?_ | refine AW_condF rfl ?_ | (refine AW_cond rfl (fun hc => ?_) (fun hc => ?_) <;> try (exfalso; simp only [cmpL] at hc; omega)) | refine AW_block ?_ | refine AW_skip ?_)) | ((with_reducible refine gS ?_); refine Es_s (T := Tryz.tab) rfl rfl rfl rfl ?_) | (((with_reducible refine gS ?_); apply Es_xg); rfl; rfl; (first | refine LStep_callHN [(1003, 2), (1004, 3)] [] c1 rfl rfl ⟨rfl, rfl, rfl, rfl, rfl, rfl, trivial⟩ rfl ⟨trivial, trivial, trivial, trivial, trivial, trivial, trivial⟩ rfl rfl | refine LStep_callHN [(1003, 2), (1004, 3)] [] c2 rfl rfl ⟨rfl, rfl, rfl, rfl, rfl, rfl, trivial⟩ rfl ⟨trivial, trivial, trivial, trivial, trivial, trivial, trivial⟩ rfl rfl | refine LStep_callHN [(1003, 2), (1004, 3)] [] c3 rfl rfl ⟨rfl, rfl, rfl, rfl, rfl, rfl, trivial⟩ rfl ⟨trivial, trivial, trivial, trivial, trivial, trivial, trivial⟩ rfl rfl | refine LStep_callHN [(1003, 2), (1004, 3)] [] c4 rfl rfl ⟨rfl, rfl, rfl, rfl, rfl, rfl, trivial⟩ rfl ⟨trivial, trivial, trivial, trivial, trivial, trivial, trivial⟩ rfl rfl | refine LStep_callHN [(1003, 2), (1004, 3)] [] c5 rfl rfl ⟨rfl, rfl, rfl, rfl, rfl, rfl, trivial⟩ rfl ⟨trivial, trivial, trivial, trivial, trivial, trivial, trivial⟩ rfl rfl | refine LStep_callHN [(1003, 2), (1004, 3)] [] c6 rfl rfl ⟨rfl, rfl, rfl, rfl, rfl, rfl, trivial⟩ rfl ⟨trivial, trivial, trivial, trivial, trivial, trivial, trivial⟩ rfl rfl | refine LStep_callHN [(1003, 2), (1004, 3)] [] c7 rfl rfl ⟨rfl, rfl, rfl, rfl, rfl, rfl, trivial⟩ rfl ⟨trivial, trivial, trivial, trivial, trivial, trivial, trivial⟩ rfl rfl); rfl) | (((with_reducible refine gS ?_); apply Es_q); rfl; rfl; (first | (refine LStep_add rfl rfl rfl rfl ?_; (refine IntWalk.i64_in _ ?_; first | omega | (simp only [cmps] at *; omega))) | (refine LStep_indexA (T := Tryz.tab) (c := ?_) rfl rfl rfl rfl rfl rfl ?_ ?_; rotate_left; omega; (first | assumption | rfl)))) | (refine Es_skip rfl ?_ rfl ?_; (first | rfl | (refine w_tf ?_; assumption) | (refine w_ft ?_; assumption))) | (((with_reducible refine gS ?_); apply Es_xs); rfl; rfl; refine LStep_allocN (T := Tryz.tab) rfl rfl rfl rfl rfl rfl; rfl) | (((with_reducible refine gS ?_); apply Es_xn); rfl; rfl; (refine LStep_storeN (T := Tryz.tab) rfl rfl rfl rfl rfl rfl rfl ?_ rfl; (refine Nat.le_of_ble_eq_true ?_; rfl)); rfl) | (with_reducible refine Es_nil ?_) | (with_reducible refine then_n ?_) | (with_reducible refine block_n ?_))
  refine rounds_stepD (n := 0) [6, 24, 25, 26, 27, 28, 29, 30, 31, 32] [6] ?_
  refine AW_weaken (E := [(2, .ptr 2 0), (3, .ptr 3 0), (4, .d (.sc (.int .i64 0))), (21, .sla 2 putFns), (22, .d (.sc (.int .i64 7))), (23, .d (.sc (.int .i64 7)))]) (H := hB S L ++ [(2, some (.cells [.ptr 1000 0])), (3, some (.cells x.cs2)), hG]) ?_ (by unfold putFns; (repeat' (first | exact trivial | exact rfl | (refine ⟨Or.inl rfl, ?_⟩) | (refine ⟨Or.inr rfl, ?_⟩) | (refine ⟨Or.inr trivial, ?_⟩) | (refine ⟨rfl, ?_⟩) | (refine ⟨?_, ?_⟩)))) (by unfold hB; (repeat' (first | exact trivial | exact rfl | (refine ⟨Or.inl rfl, ?_⟩) | (refine ⟨Or.inr rfl, ?_⟩) | (refine ⟨Or.inr trivial, ?_⟩) | (refine ⟨rfl, ?_⟩) | (refine ⟨?_, ?_⟩))))
  refine AW_toS 1001 rfl (fun st1 ck1 hst1 => ?_)
  refine AW_toS 1002 rfl (fun st2 ck2 hst2 => ?_)
  clear c1 c2 c3 c4 c5 c6 c7
  have n1 := hst1.len
  have n2 := hst2.len
  obtain ⟨p1, p2⟩ := st_new hst1
  obtain ⟨q1, q2⟩ := st_new hst2
  repeat' (first | ((with_reducible refine gA ?_); refine AW_unS 1001 (st_put hst1) rfl ?_) | ((with_reducible refine gA ?_); refine AW_unS 1002 (st_put hst2) rfl ?_) | ((with_reducible refine gA ?_); (first | refine AW_seq ?_ | refine AW_region ?_ | refine AW_regionD Tryz.mixed ?_ | (refine AW_cond rfl (fun hc => ?_) (fun hc => ?_) <;> try (exfalso; simp only [cmpL] at hc; omega)) | refine AW_ret ?_ | refine AW_exit ?_)) | (first | ((with_reducible refine gS ?_); refine Es_s (T := Tryz.tab) rfl rfl rfl rfl ?_) | ((with_reducible refine gD ?_); refine Ed_s (T := Tryz.tab) rfl rfl rfl rfl ?_)) | (((with_reducible refine gD ?_); apply Ed_xs); rfl; rfl; (first | refine LStep_mapEntryS (T := Tryz.tab) rfl rfl rfl keySl rfl rfl rfl rfl n1 rfl rfl rfl (sl_keys _) m1 | refine LStep_mapEntryS (T := Tryz.tab) rfl rfl rfl rfl rfl rfl rfl rfl n2 rfl rfl rfl (s_keys _) m2); rfl) | (((with_reducible refine gD ?_); apply Ed_xn); rfl; rfl; (first | refine LStep_entryStoreS (j := (emap slV loV (slM L)).length) rfl rfl rfl rfl rfl rfl rfl (at_last _ _) p1 p2 | refine LStep_entryStoreS (j := (emap sV loV (nmM L)).length) rfl rfl rfl rfl rfl rfl rfl (at_last _ _) q1 q2); rfl) | (((with_reducible refine gD ?_); apply Ed_q); rfl; rfl; (refine LStep_add rfl rfl rfl rfl ?_; (refine IntWalk.i64_in _ ?_; first | omega | (simp only [cmps] at *; omega)))) | (((with_reducible refine gD ?_); apply Ed_xn); rfl; rfl; (refine LStep_storeN (T := Tryz.tab) rfl rfl rfl rfl rfl rfl rfl ?_ rfl; (refine Nat.le_of_ble_eq_true ?_; rfl)); rfl) | (with_reducible refine Es_nil ?_) | ((with_reducible refine Ed_nil ?_ ?_); kernel_rfl) | (with_reducible refine then_n ?_) | (with_reducible refine then_e ?_) | ((with_reducible refine block_e ?_ ?_); rfl) | ((with_reducible refine gR ?_); first | refine ret1 rfl ?_ | refine ret2 rfl rfl ?_ | refine ret0 ?_ | refine end1 rfl ?_ | refine end0 ?_))
  all_goals first
    | (refine pt_fin E F ?_
       unfold hB
       rw [← e6c]
       refine ⟨rfl, Eq.trans rfl (congrArg (fun z => some (AObj.map 38 40 z none)) (f1 _)), Eq.trans rfl (congrArg (fun z => some (AObj.map 9 40 z none)) (f2 _)), rfl, trivial⟩)
    | trace_state
theorem put_ac (hv : Inv2 S L) (hS : shipOk S = true) (hT : 0 ≤ wsum L ∧ wsum L ≤ 1048576) : AC Tryz.prog 32 [.ptr 1000 0, .agg x.cs2] (hB S L ++ [hG]) [1000, 1001, 1002, 9000] (fun r h' => r = .d (.sc (.int .i64 (putE S L x))) ∧ SubH (hB S (putL S L x) ++ [hG]) h') :=
  if E : putE S L x = 0 then putYes_ac S L x hv hS hT E else putNo_ac S L x hv hS hT E
end
end Go.Proofs.YtodgjgkoaahhmaaGreatDoor
