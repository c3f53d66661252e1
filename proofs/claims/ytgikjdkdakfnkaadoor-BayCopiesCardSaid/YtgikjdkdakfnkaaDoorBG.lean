import Derived.Test.YtgikjdkdakfnkaaDoorBA
namespace Go.Proofs.YtgikjdkdakfnkaaDoor
open Go.SL
/-! ### BayCopies -/
def moreS (S : Ship) (L : List Load) (o : BOp) : List Load := if o.k = 1 then putL S L o.l else takeL L o.bx
theorem moreS_inv {S : Ship} : ∀ (ops : List BOp) {L : List Load}, Inv2 S L → Inv2 S (ops.foldl (moreS S) L)
  | [], L, h => h
  | o :: ops, L, h => by
    refine moreS_inv ops (L := moreS S L o) ?_
    unfold moreS
    split
    · exact putL_inv h _
    · exact takeL_inv h _
set_option maxRecDepth 10000 in
set_option maxHeartbeats 8000000 in
theorem copies_ac (S : Ship) (ops : List BOp) (more : List BOp) (hl : ops.length ≤ 140737488351232) (hs : ∀ o ∈ ops, o.bx.size ≤ 140737488351232 ∧ o.l.box.size ≤ 140737488351232) (hl2 : more.length ≤ 140737488351232) (hs2 : ∀ o ∈ more, o.bx.size ≤ 140737488351232 ∧ o.l.box.size ≤ 140737488351232) (hn : S.nm.size ≤ 140737488351232) : AC Tryd.prog 6 [.agg S.cs, .d (.sl 9 (ops.map BOp.enc)), .d (.sl 9 (more.map BOp.enc))] [hG] [9000] (fun r h' => r = .d (.sc (.bool true)) ∧ SubH [hG] h') := by
  have ca := awake2_ac
  have c0 := long_ac ops hl hs
  have c1 := rmay_ac S (by omega)
  cases e0 : longL ops with
  | true =>
    rw [e0] at c0
    refine AC_enter Tryd.func6 rfl Tryd.ntmps6 (rv := [.tmp 6]) rfl rfl (by simp) (fun w X G => ?_)
    repeat' (first | ((with_reducible refine gA ?_); (first | refine AW_seq ?_ | refine AW_region ?_ | refine AW_condT rfl ?_ | refine AW_ret ?_)) | ((with_reducible refine gS ?_); refine Es_s (T := Tryd.tab) rfl rfl rfl rfl ?_) | (((with_reducible refine gS ?_); apply Es_q); rfl; rfl; (first | refine LStep_call (c0) rfl rfl rfl rfl | refine LStep_callB ca rfl rfl ⟨rfl, trivial⟩ rfl rfl)) | (refine Es_skip rfl ?_ rfl ?_; (first | rfl | (refine w_tf ?_; assumption) | (refine w_ft ?_; assumption))) | (((with_reducible refine gS ?_); apply Es_xs); rfl; rfl; refine LStep_boxN rfl rfl rfl rfl rfl rfl; rfl) | (with_reducible refine Es_nil ?_) | (with_reducible refine then_n ?_) | (with_reducible refine then_r ?_) | ((with_reducible refine gR ?_); first | refine ret1 rfl ?_ | refine ret2 rfl rfl ?_ | refine ret0 ?_ | refine end1 rfl ?_ | refine end0 ?_))
    all_goals first
      | exact ⟨rfl, by (repeat' (first | exact trivial | exact rfl | (refine ⟨Or.inl rfl, ?_⟩) | (refine ⟨Or.inr rfl, ?_⟩) | (refine ⟨Or.inr trivial, ?_⟩) | (refine ⟨rfl, ?_⟩) | (refine ⟨?_, ?_⟩)))⟩
      | trace_state
  | false =>
  rw [e0] at c0
  have c9 := long_ac more hl2 hs2
  cases e9 : longL more with
  | true =>
    rw [e9] at c9
    refine AC_enter Tryd.func6 rfl Tryd.ntmps6 (rv := [.tmp 6]) rfl rfl (by simp) (fun w X G => ?_)
    repeat' (first | ((with_reducible refine gA ?_); (first | refine AW_seq ?_ | refine AW_region ?_ | refine AW_condT rfl ?_ | refine AW_ret ?_)) | ((with_reducible refine gS ?_); refine Es_s (T := Tryd.tab) rfl rfl rfl rfl ?_) | (((with_reducible refine gS ?_); apply Es_q); rfl; rfl; (first | refine LStep_call (c0) rfl rfl rfl rfl | refine LStep_call (c9) rfl rfl rfl rfl | refine LStep_callB ca rfl rfl ⟨rfl, trivial⟩ rfl rfl)) | (((with_reducible refine gS ?_); apply Es_q); rfl; rfl; refine LStep_simp (T := Tryd.tab) rfl rfl) | (refine Es_skip rfl ?_ rfl ?_; (first | rfl | (refine w_tf ?_; assumption) | (refine w_ft ?_; assumption))) | (((with_reducible refine gS ?_); apply Es_xs); rfl; rfl; refine LStep_boxN rfl rfl rfl rfl rfl rfl; rfl) | (with_reducible refine Es_nil ?_) | (with_reducible refine then_n ?_) | (with_reducible refine then_r ?_) | ((with_reducible refine gR ?_); first | refine ret1 rfl ?_ | refine ret2 rfl rfl ?_ | refine ret0 ?_ | refine end1 rfl ?_ | refine end0 ?_))
    all_goals first
      | exact ⟨rfl, by (repeat' (first | exact trivial | exact rfl | (refine ⟨Or.inl rfl, ?_⟩) | (refine ⟨Or.inr rfl, ?_⟩) | (refine ⟨Or.inr trivial, ?_⟩) | (refine ⟨rfl, ?_⟩) | (refine ⟨?_, ?_⟩)))⟩
      | trace_state
  | false =>
  rw [e9] at c9
  cases e1 : shipOk S with
  | false =>
    rw [e1] at c1
    refine AC_enter Tryd.func6 rfl Tryd.ntmps6 (rv := [.tmp 6]) rfl rfl (by simp) (fun w X G => ?_)
    repeat' (first | ((with_reducible refine gA ?_); (first | refine AW_seq ?_ | refine AW_region ?_ | refine AW_condT rfl ?_ | refine AW_ret ?_)) | ((with_reducible refine gS ?_); refine Es_s (T := Tryd.tab) rfl rfl rfl rfl ?_) | (((with_reducible refine gS ?_); apply Es_q); rfl; rfl; (first | refine LStep_call (c0) rfl rfl rfl rfl | refine LStep_call (c9) rfl rfl rfl rfl | refine LStep_call (c1) rfl rfl rfl rfl | refine LStep_callB ca rfl rfl ⟨rfl, trivial⟩ rfl rfl)) | (((with_reducible refine gS ?_); apply Es_q); rfl; rfl; refine LStep_simp (T := Tryd.tab) rfl rfl) | (refine Es_skip rfl ?_ rfl ?_; (first | rfl | (refine w_tf ?_; assumption) | (refine w_ft ?_; assumption))) | (((with_reducible refine gS ?_); apply Es_xs); rfl; rfl; refine LStep_boxN rfl rfl rfl rfl rfl rfl; rfl) | (with_reducible refine Es_nil ?_) | (with_reducible refine then_n ?_) | (with_reducible refine then_r ?_) | ((with_reducible refine gR ?_); first | refine ret1 rfl ?_ | refine ret2 rfl rfl ?_ | refine ret0 ?_ | refine end1 rfl ?_ | refine end0 ?_))
    all_goals first
      | exact ⟨rfl, by (repeat' (first | exact trivial | exact rfl | (refine ⟨Or.inl rfl, ?_⟩) | (refine ⟨Or.inr rfl, ?_⟩) | (refine ⟨Or.inr trivial, ?_⟩) | (refine ⟨rfl, ?_⟩) | (refine ⟨?_, ?_⟩)))⟩
      | trace_state
  | true =>
  rw [e1] at c1
  obtain ⟨o1, o2⟩ := longL_f e0
  obtain ⟨hv, hlen⟩ := played e1 o2
  have cp := play_ac S ops e1 o2 o1
  generalize playS S [] ops = L at cp hv hlen
  have hd := lsort_doc hv.nS
  have hdl : (lsort L).length ≤ 60 := by rw [hd.perm.length_eq]; exact hlen
  have hi := ship_in e1
  have cl := like_ac S L (lsort L) hd hv e1 (by omega)
  have cc := copy_ac S L
  generalize lsort L = D at *
  refine AC_enter Tryd.func6 rfl Tryd.ntmps6 (rv := [.tmp 6]) rfl rfl (by simp) (fun w X G => ?_)
  repeat' (first | ((with_reducible refine gA ?_); (first | refine AW_seq ?_ | refine AW_region ?_ | refine AW_condF rfl ?_ | refine AW_block ?_ | refine AW_skip ?_)) | ((with_reducible refine gS ?_); refine Es_s (T := Tryd.tab) rfl rfl rfl rfl ?_) | (((with_reducible refine gS ?_); apply Es_q); rfl; rfl; (first | refine LStep_call (c0) rfl rfl rfl rfl | refine LStep_call (c9) rfl rfl rfl rfl | refine LStep_call (c1) rfl rfl rfl rfl | refine LStep_eqNilP (T := Tryd.tab) rfl rfl rfl rfl)) | (((with_reducible refine gS ?_); apply Es_xg); rfl; rfl; (first | refine LStep_callHN [] [(19, 1000), (1901, 1001), (1902, 1002)] cp rfl rfl ⟨rfl, trivial⟩ rfl ⟨trivial, trivial⟩ rfl rfl | refine LStep_callHN [] [(3, 33), (11, 3301), (16, 3302)] cc rfl rfl ⟨rfl, rfl, rfl, trivial⟩ rfl ⟨trivial, trivial, trivial, trivial⟩ rfl rfl); rfl) | (((with_reducible refine gS ?_); apply Es_q); rfl; rfl; (first | refine LStep_simp (T := Tryd.tab) rfl rfl | refine LStep_lenM (T := Tryd.tab) rfl rfl rfl rfl)) | (refine Es_skip rfl ?_ rfl ?_; (first | rfl | (refine w_tf ?_; assumption) | (refine w_ft ?_; assumption))) | (((with_reducible refine gS ?_); apply Es_xs); rfl; rfl; refine LStep_boxN rfl rfl rfl rfl rfl rfl; rfl) | (with_reducible refine Es_nil ?_) | (with_reducible refine then_n ?_))
  refine AW_forE (S := Nat) (fun k => k ≤ more.length) (fun k => [(38, .d (.sc (.int .i64 (k : Nat))))]) (fun k => hB S ((more.take k).foldl (moreS S) L)) (fun k => more.length - k) 0 (by omega) (by (repeat' (first | exact trivial | exact rfl | (refine ⟨Or.inl rfl, ?_⟩) | (refine ⟨Or.inr rfl, ?_⟩) | (refine ⟨Or.inr trivial, ?_⟩) | (refine ⟨rfl, ?_⟩) | (refine ⟨?_, ?_⟩)))) (by (repeat' (first | exact trivial | exact rfl | (refine ⟨Or.inl rfl, ?_⟩) | (refine ⟨Or.inr rfl, ?_⟩) | (refine ⟨Or.inr trivial, ?_⟩) | (refine ⟨rfl, ?_⟩) | (refine ⟨?_, ?_⟩)))) ?_
  intro k hk
  by_cases hlt : k < more.length
  · obtain ⟨o, ho, _⟩ := drop_at hlt
    have hst : (more.take (k + 1)).foldl (moreS S) L = moreS S ((more.take k).foldl (moreS S) L) o := by rw [take_at ho, List.foldl_append]; rfl
    have hv2 := moreS_inv (more.take k) hv
    generalize (more.take k).foldl (moreS S) L = M at hst hv2 ⊢
    by_cases k1 : o.k = 1
    · have e2 : moreS S M o = putL S M o.l := by unfold moreS; rw [if_pos k1]
      have cq := put_ac S M o.l hv2 e1 (tot_in hv2 e1)
      rw [e2] at hst
      have f1 : eqb o.k 1 = true := by rw [eqb_t]; exact k1
      generalize putL S M o.l = M' at *
      generalize putE S M o.l = e at *
      clear hi hv hd hv2
      repeat' (first | ((with_reducible refine gA ?_); (first | refine AW_seq ?_ | refine AW_region ?_ | (refine AW_condY rfl ?_ ?_; assumption) | (refine AW_cond rfl (fun hc => ?_) (fun hc => ?_) <;> try (exfalso; simp only [cmpL] at hc; omega)) | refine AW_block ?_ | refine AW_skip ?_)) | ((with_reducible refine gS ?_); refine Es_s (T := Tryd.tab) rfl rfl rfl rfl ?_) | (((with_reducible refine gS ?_); apply Es_xg); rfl; rfl; refine LStep_callHN [] [] cq rfl rfl ⟨rfl, rfl, rfl, rfl, trivial⟩ rfl ⟨trivial, trivial, trivial, trivial, trivial⟩ rfl rfl; rfl) | (((with_reducible refine gS ?_); apply Es_q); rfl; rfl; (first | (refine LStep_add rfl rfl rfl rfl ?_; (refine IntWalk.i64_in _ ?_; first | omega | (simp only [cmps] at *; omega))) | (refine LStep_indexM (T := Tryd.tab) (c := ?_) rfl rfl rfl rfl rfl rfl ?_; rotate_left; assumption))) | (refine Es_skip rfl ?_ rfl ?_; (first | rfl | (refine w_tf ?_; assumption) | (refine w_ft ?_; assumption))) | (((with_reducible refine gS ?_); apply Es_xs); rfl; rfl; refine LStep_allocN (T := Tryd.tab) rfl rfl rfl rfl rfl rfl; rfl) | (((with_reducible refine gS ?_); apply Es_xn); rfl; rfl; (refine LStep_storeN (T := Tryd.tab) rfl rfl rfl rfl rfl rfl rfl ?_ rfl; (refine Nat.le_of_ble_eq_true ?_; rfl)); rfl) | (with_reducible refine Es_nil ?_) | (with_reducible refine then_n ?_) | (with_reducible refine block_n ?_))
      all_goals first
        | (refine ⟨k + 1, by omega, by omega, by (repeat' (first | exact trivial | exact rfl | (refine ⟨Or.inl rfl, ?_⟩) | (refine ⟨Or.inr rfl, ?_⟩) | (refine ⟨Or.inr trivial, ?_⟩) | (refine ⟨rfl, ?_⟩) | (refine ⟨?_, ?_⟩))), by (repeat' (first | exact trivial | exact rfl | (refine ⟨Or.inl rfl, ?_⟩) | (refine ⟨Or.inr rfl, ?_⟩) | (refine ⟨Or.inr trivial, ?_⟩) | (refine ⟨rfl, ?_⟩) | (refine ⟨?_, ?_⟩))), ?_, by (repeat' (first | exact trivial | exact rfl | (refine ⟨Or.inl rfl, ?_⟩) | (refine ⟨Or.inr rfl, ?_⟩) | (refine ⟨Or.inr trivial, ?_⟩) | (refine ⟨rfl, ?_⟩) | (refine ⟨?_, ?_⟩)))⟩
           rw [hst]; (repeat' (first | exact trivial | exact rfl | (refine ⟨Or.inl rfl, ?_⟩) | (refine ⟨Or.inr rfl, ?_⟩) | (refine ⟨Or.inr trivial, ?_⟩) | (refine ⟨rfl, ?_⟩) | (refine ⟨?_, ?_⟩))))
        | trace_state
    · have e2 : moreS S M o = takeL M o.bx := by unfold moreS; rw [if_neg k1]
      have cq := take_ac S M o.bx hv2.toInv (tot_in hv2 e1) (by omega)
      rw [e2] at hst
      have f1 : eqb o.k 1 = false := by rw [eqb_f]; exact k1
      generalize takeL M o.bx = M' at *
      generalize takeE M o.bx = e at *
      generalize takeX M o.bx = y at *
      clear hi hv hd hv2
      repeat' (first | ((with_reducible refine gA ?_); (first | refine AW_seq ?_ | refine AW_region ?_ | (refine AW_condN rfl ?_ ?_; assumption) | (refine AW_cond rfl (fun hc => ?_) (fun hc => ?_) <;> try (exfalso; simp only [cmpL] at hc; omega)) | refine AW_block ?_ | refine AW_skip ?_)) | ((with_reducible refine gS ?_); refine Es_s (T := Tryd.tab) rfl rfl rfl rfl ?_) | (((with_reducible refine gS ?_); apply Es_xg); rfl; rfl; refine LStep_callHN [] [] cq rfl rfl ⟨rfl, rfl, rfl, trivial⟩ rfl ⟨trivial, trivial, trivial, trivial⟩ rfl rfl; rfl) | (((with_reducible refine gS ?_); apply Es_q); rfl; rfl; (first | (refine LStep_add rfl rfl rfl rfl ?_; (refine IntWalk.i64_in _ ?_; first | omega | (simp only [cmps] at *; omega))) | (refine LStep_indexM (T := Tryd.tab) (c := ?_) rfl rfl rfl rfl rfl rfl ?_; rotate_left; assumption))) | (refine Es_skip rfl ?_ rfl ?_; (first | rfl | (refine w_tf ?_; assumption) | (refine w_ft ?_; assumption))) | (((with_reducible refine gS ?_); apply Es_xs); rfl; rfl; refine LStep_allocN (T := Tryd.tab) rfl rfl rfl rfl rfl rfl; rfl) | (((with_reducible refine gS ?_); apply Es_xn); rfl; rfl; (refine LStep_storeN (T := Tryd.tab) rfl rfl rfl rfl rfl rfl rfl ?_ rfl; (refine Nat.le_of_ble_eq_true ?_; rfl)); rfl) | (with_reducible refine Es_nil ?_) | (with_reducible refine then_n ?_) | (with_reducible refine block_n ?_))
      all_goals first
        | (refine ⟨k + 1, by omega, by omega, by (repeat' (first | exact trivial | exact rfl | (refine ⟨Or.inl rfl, ?_⟩) | (refine ⟨Or.inr rfl, ?_⟩) | (refine ⟨Or.inr trivial, ?_⟩) | (refine ⟨rfl, ?_⟩) | (refine ⟨?_, ?_⟩))), by (repeat' (first | exact trivial | exact rfl | (refine ⟨Or.inl rfl, ?_⟩) | (refine ⟨Or.inr rfl, ?_⟩) | (refine ⟨Or.inr trivial, ?_⟩) | (refine ⟨rfl, ?_⟩) | (refine ⟨?_, ?_⟩))), ?_, by (repeat' (first | exact trivial | exact rfl | (refine ⟨Or.inl rfl, ?_⟩) | (refine ⟨Or.inr rfl, ?_⟩) | (refine ⟨Or.inr trivial, ?_⟩) | (refine ⟨rfl, ?_⟩) | (refine ⟨?_, ?_⟩)))⟩
           rw [hst]; (repeat' (first | exact trivial | exact rfl | (refine ⟨Or.inl rfl, ?_⟩) | (refine ⟨Or.inr rfl, ?_⟩) | (refine ⟨Or.inr trivial, ?_⟩) | (refine ⟨rfl, ?_⟩) | (refine ⟨?_, ?_⟩))))
        | trace_state
  · have : k = more.length := by omega
    subst this
    rw [List.take_length]
    generalize more.foldl (moreS S) L = M
    clear hi hv hd
    repeat' (first | ((with_reducible refine gA ?_); (first | refine AW_seq ?_ | refine AW_region ?_ | (refine AW_cond rfl (fun hc => ?_) (fun hc => ?_) <;> try (exfalso; simp only [cmpL] at hc; omega)) | refine AW_ret ?_ | refine AW_exit ?_)) | ((with_reducible refine gS ?_); refine Es_s (T := Tryd.tab) rfl rfl rfl rfl ?_) | (((with_reducible refine gS ?_); apply Es_q); rfl; rfl; refine LStep_callB ca rfl rfl ⟨rfl, trivial⟩ rfl rfl) | (((with_reducible refine gS ?_); apply Es_xg); rfl; rfl; refine LStep_callHN [(1000, 33), (1001, 3301), (1002, 3302)] [] cl rfl rfl ⟨rfl, rfl, rfl, trivial⟩ rfl ⟨trivial, trivial, trivial, trivial⟩ rfl rfl; rfl) | (with_reducible refine Es_nil ?_) | (with_reducible refine then_n ?_) | (with_reducible refine then_e ?_) | ((with_reducible refine block_e ?_ ?_); rfl) | ((with_reducible refine gR ?_); first | refine ret1 rfl ?_ | refine ret2 rfl rfl ?_ | refine ret0 ?_ | refine end1 rfl ?_ | refine end0 ?_))
    all_goals first
      | exact ⟨rfl, by (repeat' (first | exact trivial | exact rfl | (refine ⟨Or.inl rfl, ?_⟩) | (refine ⟨Or.inr rfl, ?_⟩) | (refine ⟨Or.inr trivial, ?_⟩) | (refine ⟨rfl, ?_⟩) | (refine ⟨?_, ?_⟩)))⟩
      | trace_state
end Go.Proofs.YtgikjdkdakfnkaaDoor
