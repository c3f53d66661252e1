import Derived.Test.YtgikjdkdakfnkaaDoorBA
namespace Go.Proofs.YtgikjdkdakfnkaaDoor
open Go.SL
/-! ### BayEmpties -/
def remL (L D : List Load) (j : Nat) : List Load := L.filter fun y => decide (y ∈ D.take j)
theorem remL_all {L D : List Load} (hd : DocB L D) : remL L D D.length = L := by
  unfold remL
  rw [List.take_length]
  exact List.filter_eq_self.2 (fun y hy => by rw [decide_eq_true_eq]; exact hd.perm.mem_iff.2 hy)
theorem remL_del {L D : List Load} (hn : D.Nodup) {j : Nat} {x : Load} (hx : D[j]? = some x) : delL (remL L D (j + 1)) x = remL L D j := by
  unfold delL remL
  rw [List.filter_filter]
  refine List.filter_congr (fun y _ => ?_)
  rw [take_at hx, Bool.eq_iff_iff, Bool.and_eq_true, decide_eq_true_eq, decide_eq_true_eq, decide_eq_true_eq, List.mem_append, List.mem_singleton]
  have hxn : x ∉ D.take j := by
    have h1 : (D.take (j + 1)).Nodup := hn.sublist (List.take_sublist _ _)
    rw [take_at hx, List.nodup_append] at h1
    exact fun h => h1.2.2 x h x (by simp) rfl
  constructor
  · rintro ⟨h1, h2 | h2⟩
    · exact h2
    · exact absurd h2 h1
  · intro h
    exact ⟨fun e => hxn (e ▸ h), .inl h⟩
theorem remL_doc {L D : List Load} (hd : DocB L D) (hn : L.Nodup) (j : Nat) : DocB (remL L D j) (D.take j) := by
  have hD : D.Nodup := hd.perm.nodup_iff.2 hn
  refine ⟨perm_mem (hD.sublist (List.take_sublist _ _)) (hn.filter _) (fun x => ?_), dsort_sub hd.sort (List.take_sublist _ _)⟩
  unfold remL
  rw [List.mem_filter, decide_eq_true_eq]
  exact ⟨fun h => ⟨hd.perm.mem_iff.1 (List.mem_of_mem_take h), h⟩, fun h => h.2⟩
set_option maxRecDepth 10000 in
set_option maxHeartbeats 8000000 in
theorem empties_ac (S : Ship) (ops : List BOp) (hl : ops.length ≤ 140737488351232) (hs : ∀ o ∈ ops, o.bx.size ≤ 140737488351232 ∧ o.l.box.size ≤ 140737488351232) (hn : S.nm.size ≤ 140737488351232) : AC Tryd.prog 7 [.agg S.cs, .d (.sl 9 (ops.map BOp.enc))] [hG] [9000] (fun r h' => r = .d (.sc (.bool true)) ∧ SubH [hG] h') := by
  have ca := awake2_ac
  have c0 := long_ac ops hl hs
  have c1 := rmay_ac S (by omega)
  cases e0 : longL ops with
  | true =>
    rw [e0] at c0
    refine AC_enter Tryd.func7 rfl Tryd.ntmps7 (rv := [.tmp 4]) rfl rfl (by simp) (fun w X G => ?_)
    repeat' (first | ((with_reducible refine gA ?_); (first | refine AW_seq ?_ | refine AW_region ?_ | refine AW_condT rfl ?_ | refine AW_ret ?_)) | ((with_reducible refine gS ?_); refine Es_s (T := Tryd.tab) rfl rfl rfl rfl ?_) | (((with_reducible refine gS ?_); apply Es_q); rfl; rfl; (first | refine LStep_call (c0) rfl rfl rfl rfl | refine LStep_callB ca rfl rfl ⟨rfl, trivial⟩ rfl rfl)) | (refine Es_skip rfl ?_ rfl ?_; (first | rfl | (refine w_tf ?_; assumption) | (refine w_ft ?_; assumption))) | (((with_reducible refine gS ?_); apply Es_xs); rfl; rfl; refine LStep_boxN rfl rfl rfl rfl rfl rfl; rfl) | (with_reducible refine Es_nil ?_) | (with_reducible refine then_n ?_) | (with_reducible refine then_r ?_) | ((with_reducible refine gR ?_); first | refine ret1 rfl ?_ | refine ret2 rfl rfl ?_ | refine ret0 ?_ | refine end1 rfl ?_ | refine end0 ?_))
    all_goals first
      | exact ⟨rfl, by (repeat' (first | exact trivial | exact rfl | (refine ⟨Or.inl rfl, ?_⟩) | (refine ⟨Or.inr rfl, ?_⟩) | (refine ⟨Or.inr trivial, ?_⟩) | (refine ⟨rfl, ?_⟩) | (refine ⟨?_, ?_⟩)))⟩
      | trace_state
  | false =>
  rw [e0] at c0
  cases e1 : shipOk S with
  | false =>
    rw [e1] at c1
    refine AC_enter Tryd.func7 rfl Tryd.ntmps7 (rv := [.tmp 4]) rfl rfl (by simp) (fun w X G => ?_)
    repeat' (first | ((with_reducible refine gA ?_); (first | refine AW_seq ?_ | refine AW_region ?_ | refine AW_condT rfl ?_ | refine AW_ret ?_)) | ((with_reducible refine gS ?_); refine Es_s (T := Tryd.tab) rfl rfl rfl rfl ?_) | (((with_reducible refine gS ?_); apply Es_q); rfl; rfl; (first | refine LStep_call (c0) rfl rfl rfl rfl | refine LStep_call (c1) rfl rfl rfl rfl | refine LStep_callB ca rfl rfl ⟨rfl, trivial⟩ rfl rfl)) | (((with_reducible refine gS ?_); apply Es_q); rfl; rfl; refine LStep_simp (T := Tryd.tab) rfl rfl) | (refine Es_skip rfl ?_ rfl ?_; (first | rfl | (refine w_tf ?_; assumption) | (refine w_ft ?_; assumption))) | (((with_reducible refine gS ?_); apply Es_xs); rfl; rfl; refine LStep_boxN rfl rfl rfl rfl rfl rfl; rfl) | (with_reducible refine Es_nil ?_) | (with_reducible refine then_n ?_) | (with_reducible refine then_r ?_) | ((with_reducible refine gR ?_); first | refine ret1 rfl ?_ | refine ret2 rfl rfl ?_ | refine ret0 ?_ | refine end1 rfl ?_ | refine end0 ?_))
    all_goals first
      | exact ⟨rfl, by (repeat' (first | exact trivial | exact rfl | (refine ⟨Or.inl rfl, ?_⟩) | (refine ⟨Or.inr rfl, ?_⟩) | (refine ⟨Or.inr trivial, ?_⟩) | (refine ⟨rfl, ?_⟩) | (refine ⟨?_, ?_⟩)))⟩
      | trace_state
  | true =>
  rw [e1] at c1
  obtain ⟨o1, o2⟩ := longL_f e0
  obtain ⟨hv, hlen⟩ := played e1 o2
  have cp := play_ac S ops e1 o2 o1
  generalize playS S [] ops = L at cp hv hlen
  have hd := lsort_doc hv.nS
  have hdl : (lsort L).length ≤ 60 := by rw [hd.perm.length_eq]; exact hlen
  have hi := ship_in e1
  have hnL : L.Nodup := nodup_of_map hv.nS
  have hnD : (lsort L).Nodup := hd.perm.nodup_iff.2 hnL
  have c2 := loads_ac S L (lsort L) hd hv.nS (by omega)
  have hz := remL_all hd
  have hz0 : remL L (lsort L) 0 = [] := by unfold remL; simp
  have c3 := loads2_ac S [] [] ⟨List.Perm.refl _, List.Pairwise.nil⟩ List.nodup_nil (by simp)
  have hv0 : Inv2 S [] := inv0 (by omega)
  have c4 := over2_ac S [] 0 hv0.toInv e1
  rw [show overD [] 0 = 0 from rfl] at c4
  have f1 : eqb 0 0 = true := eqb_t.2 rfl
  have f2 : (!(eqb 0 0)) = false := by rw [f1]; rfl
  have f3 : leb 0 (-1) = false := by rw [leb_f]; omega
  generalize lsort L = D at *
  refine AC_enter Tryd.func7 rfl Tryd.ntmps7 (rv := [.tmp 4]) rfl rfl (by simp) (fun w X G => ?_)
  repeat' (first | ((with_reducible refine gA ?_); (first | refine AW_seq ?_ | refine AW_region ?_ | refine AW_condF rfl ?_ | refine AW_block ?_ | refine AW_skip ?_)) | ((with_reducible refine gS ?_); refine Es_s (T := Tryd.tab) rfl rfl rfl rfl ?_) | (((with_reducible refine gS ?_); apply Es_q); rfl; rfl; (first | refine LStep_call (c0) rfl rfl rfl rfl | refine LStep_call (c1) rfl rfl rfl rfl | refine LStep_eqNilP (T := Tryd.tab) rfl rfl rfl rfl)) | (((with_reducible refine gS ?_); apply Es_xg); rfl; rfl; (first | refine LStep_callHN [] [(19, 1000), (1901, 1001), (1902, 1002)] cp rfl rfl ⟨rfl, trivial⟩ rfl ⟨trivial, trivial⟩ rfl rfl | refine LStep_callHN [] [] c2 rfl rfl ⟨rfl, rfl, rfl, trivial⟩ rfl ⟨trivial, trivial, trivial, trivial⟩ rfl rfl); rfl) | (((with_reducible refine gS ?_); apply Es_q); rfl; rfl; (first | refine LStep_simp (T := Tryd.tab) rfl rfl | refine LStep_lenM (T := Tryd.tab) rfl rfl rfl rfl | (refine LStep_sub rfl rfl rfl rfl ?_; (refine IntWalk.i64_in _ ?_; first | omega | (simp only [cmps] at *; omega))))) | (refine Es_skip rfl ?_ rfl ?_; (first | rfl | (refine w_tf ?_; assumption) | (refine w_ft ?_; assumption))) | (((with_reducible refine gS ?_); apply Es_xs); rfl; rfl; refine LStep_boxN rfl rfl rfl rfl rfl rfl; rfl) | (with_reducible refine Es_nil ?_) | (with_reducible refine then_n ?_))
  refine AW_forE (S := Nat) (fun j => j ≤ D.length ∧ Inv2 S (remL L D j)) (fun j => [(8, .d (.sc (.int .i64 ((j : Int) - 1))))]) (fun j => hB S (remL L D j)) (fun j => j) D.length ⟨by omega, by rw [hz]; exact hv⟩ (by (repeat' (first | exact trivial | exact rfl | (refine ⟨Or.inl rfl, ?_⟩) | (refine ⟨Or.inr rfl, ?_⟩) | (refine ⟨Or.inr trivial, ?_⟩) | (refine ⟨rfl, ?_⟩) | (refine ⟨?_, ?_⟩)))) (by rw [hz]; (repeat' (first | exact trivial | exact rfl | (refine ⟨Or.inl rfl, ?_⟩) | (refine ⟨Or.inr rfl, ?_⟩) | (refine ⟨Or.inr trivial, ?_⟩) | (refine ⟨rfl, ?_⟩) | (refine ⟨?_, ?_⟩)))) ?_
  intro j ⟨hj, hvj⟩
  rcases j with _ | m
  · rw [hz0]
    try dsimp only
    rw [show ((0 : Nat) : Int) - 1 = -1 from rfl]
    clear c2 hz hz0 hvj hv hd hi
    repeat' (first | ((with_reducible refine gA ?_); (first | refine AW_seq ?_ | refine AW_region ?_ | (refine AW_condN rfl ?_ ?_; assumption) | refine AW_ret ?_ | refine AW_exit ?_)) | ((with_reducible refine gS ?_); refine Es_s (T := Tryd.tab) rfl rfl rfl rfl ?_) | (((with_reducible refine gS ?_); apply Es_q); rfl; (first | rfl | (refine w_tt ?_; assumption)); (first | refine LStep_callB c3 rfl rfl ⟨rfl, rfl, rfl, trivial⟩ rfl rfl | refine LStep_callB c4 rfl rfl ⟨rfl, rfl, rfl, trivial⟩ rfl rfl | refine LStep_callB ca rfl rfl ⟨rfl, trivial⟩ rfl rfl)) | (((with_reducible refine gS ?_); apply Es_q); rfl; (first | rfl | (refine w_tt ?_; assumption)); (first | refine LStep_simp (T := Tryd.tab) rfl rfl | refine LStep_lenM (T := Tryd.tab) rfl rfl rfl rfl | (refine LStep_pickT rfl rfl ?_ rfl rfl; assumption))) | (with_reducible refine Es_nil ?_) | (with_reducible refine then_n ?_) | (with_reducible refine then_e ?_) | ((with_reducible refine block_e ?_ ?_); rfl) | ((with_reducible refine gR ?_); first | refine ret1 rfl ?_ | refine ret2 rfl rfl ?_ | refine ret0 ?_ | refine end1 rfl ?_ | refine end0 ?_))
    all_goals first
      | exact ⟨rfl, by (repeat' (first | exact trivial | exact rfl | (refine ⟨Or.inl rfl, ?_⟩) | (refine ⟨Or.inr rfl, ?_⟩) | (refine ⟨Or.inr trivial, ?_⟩) | (refine ⟨rfl, ?_⟩) | (refine ⟨?_, ?_⟩)))⟩
      | trace_state
  · obtain ⟨x, hx⟩ : ∃ x, D[m]? = some x := ⟨_, List.getElem?_eq_getElem (by omega)⟩
    have hdj := remL_doc hd hnL (m + 1)
    have hxm : x ∈ remL L D (m + 1) := hdj.perm.mem_iff.1 (by rw [take_at hx]; simp)
    have u0 := (byB_some hvj.nB).2 ⟨hxm, rfl⟩
    have u1 := last_free hvj.toInv (x := x) (D := D.take m) (by rw [← take_at hx]; exact hdj)
    have u2 : takeE (remL L D (m + 1)) x.box = 0 := by unfold takeE; rw [u0]; simp only [u1, Option.isSome_none, Bool.false_eq_true, if_false]
    have u3 : takeX (remL L D (m + 1)) x.box = x := by unfold takeX; rw [u2, u0]; rfl
    have u4 : takeL (remL L D (m + 1)) x.box = remL L D m := by unfold takeL; rw [u2, u0]; exact remL_del hnD hx
    have ct := take_ac S (remL L D (m + 1)) x.box hvj.toInv (tot_in hvj e1) (by omega)
    have hvm := takeL_inv hvj x.box
    rw [u4] at hvm
    rw [u2, u3, u4] at ct
    have g1 : (!(x.eqB x)) = false := by rw [load_self]; rfl
    have g2 : leb 0 (m : Nat) = true := by rw [leb_t]; omega
    try dsimp only
    rw [show ((m + 1 : Nat) : Int) - 1 = (m : Nat) by omega]
    generalize remL L D (m + 1) = M at *
    clear c2 c3 c4 hz hz0 hv0 hd hdj hi u0 u1 u2 u3 u4 hvj
    repeat' (first | ((with_reducible refine gA ?_); (first | refine AW_seq ?_ | refine AW_region ?_ | refine AW_regionD Tryd.mixed ?_ | (refine AW_condY rfl ?_ ?_; assumption) | (refine AW_condN rfl ?_ ?_; assumption) | refine AW_block ?_ | refine AW_skip ?_)) | (first | ((with_reducible refine gS ?_); refine Es_s (T := Tryd.tab) rfl rfl rfl rfl ?_) | ((with_reducible refine gD ?_); refine Ed_s (T := Tryd.tab) rfl rfl rfl rfl ?_)) | ((first | ((with_reducible refine gS ?_); apply Es_q) | ((with_reducible refine gD ?_); apply Ed_q)); rfl; (first | rfl | (refine w_ff ?_; assumption)); refine LStep_neqAgg (T := Tryd.tab) eqS_load eqG_load (by omega) rfl rfl rfl rfl rfl rfl) | ((first | ((with_reducible refine gS ?_); apply Es_xg) | ((with_reducible refine gD ?_); apply Ed_xg)); rfl; (first | rfl | (refine w_ff ?_; assumption)); refine LStep_callHN [] [] ct rfl rfl ⟨rfl, rfl, rfl, trivial⟩ rfl ⟨trivial, trivial, trivial, trivial⟩ rfl rfl; rfl) | ((first | ((with_reducible refine gS ?_); apply Es_q) | ((with_reducible refine gD ?_); apply Ed_q)); rfl; (first | rfl | (refine w_ff ?_; assumption)); (first | refine LStep_simp (T := Tryd.tab) rfl rfl | (refine LStep_sub rfl rfl rfl rfl ?_; (refine IntWalk.i64_in _ ?_; first | omega | (simp only [cmps] at *; omega))) | (refine LStep_pickF rfl rfl ?_ rfl rfl; assumption) | (refine LStep_indexM (T := Tryd.tab) (c := ?_) rfl rfl rfl rfl rfl rfl ?_; rotate_left; assumption))) | (refine Es_skip rfl ?_ rfl ?_; (first | rfl | (refine w_tf ?_; assumption) | (refine w_ft ?_; assumption))) | (((with_reducible refine gS ?_); apply Es_xs); rfl; rfl; refine LStep_allocN (T := Tryd.tab) rfl rfl rfl rfl rfl rfl; rfl) | (((with_reducible refine gS ?_); apply Es_xn); rfl; rfl; (refine LStep_storeN (T := Tryd.tab) rfl rfl rfl rfl rfl rfl rfl ?_ rfl; (refine Nat.le_of_ble_eq_true ?_; rfl)); rfl) | (with_reducible refine Es_nil ?_) | ((with_reducible refine Ed_nil ?_ ?_); kernel_rfl) | (with_reducible refine then_n ?_) | (with_reducible refine block_n ?_))
    all_goals first
      | (refine ⟨m, ⟨by omega, hvm⟩, by omega, by (repeat' (first | exact trivial | exact rfl | (refine ⟨Or.inl rfl, ?_⟩) | (refine ⟨Or.inr rfl, ?_⟩) | (refine ⟨Or.inr trivial, ?_⟩) | (refine ⟨rfl, ?_⟩) | (refine ⟨?_, ?_⟩))), by (repeat' (first | exact trivial | exact rfl | (refine ⟨Or.inl rfl, ?_⟩) | (refine ⟨Or.inr rfl, ?_⟩) | (refine ⟨Or.inr trivial, ?_⟩) | (refine ⟨rfl, ?_⟩) | (refine ⟨?_, ?_⟩))), by (repeat' (first | exact trivial | exact rfl | (refine ⟨Or.inl rfl, ?_⟩) | (refine ⟨Or.inr rfl, ?_⟩) | (refine ⟨Or.inr trivial, ?_⟩) | (refine ⟨rfl, ?_⟩) | (refine ⟨?_, ?_⟩))), by (repeat' (first | exact trivial | exact rfl | (refine ⟨Or.inl rfl, ?_⟩) | (refine ⟨Or.inr rfl, ?_⟩) | (refine ⟨Or.inr trivial, ?_⟩) | (refine ⟨rfl, ?_⟩) | (refine ⟨?_, ?_⟩)))⟩; done)
      | trace_state
end Go.Proofs.YtgikjdkdakfnkaaDoor
