import Derived.Test.YtodgjgkoaahhmaaGreatDoorDV
import Derived.Test.YtodgjgkoaahhmaaGreatDoorAE
import Derived.Test.YtodgjgkoaahhmaaGreatDoorDC
import Derived.Test.YtodgjgkoaahhmaaGreatDoorTl
import Derived.Test.YtodgjgkoaahhmaaGreatDoorDU
import Derived.Test.YtodgjgkoaahhmaaGreatDoorA7
namespace Go.Proofs.YtodgjgkoaahhmaaGreatDoor
open Go.SL
/-! ### the document's next, Right, Left, Moves, Few, Texts -/
/-! #### the checker -/





end Go.Proofs.YtodgjgkoaahhmaaGreatDoor
namespace Go.Proofs.YtodgjgkoaahhmaaGreatDoor
open Go.SL
/-! ### what stays -/
def leftK (L : List Load) (port : Int) (k : Nat) : List Load := (((lsort L).take k).filter (keepB port)).map (sink L port)
theorem leftK_all (L : List Load) (port : Int) : leftK L port (lsort L).length = leftL L port := by unfold leftK leftL; rw [List.take_length]
theorem leftK_yes {L : List Load} {port : Int} {k : Nat} {x : Load} (hx : (lsort L)[k]? = some x) (h : port < x.p) : leftK L port (k + 1) = leftK L port k ++ [sink L port x] := by
  unfold leftK
  rw [take_at hx, List.filter_append, List.map_append]
  have : keepB port x = true := by simp [keepB, h]
  simp [this]
theorem leftK_no {L : List Load} {port : Int} {k : Nat} {x : Load} (hx : (lsort L)[k]? = some x) (h : ¬ port < x.p) : leftK L port (k + 1) = leftK L port k := by
  unfold leftK
  rw [take_at hx, List.filter_append]
  have : keepB port x = false := by simp [keepB]; omega
  simp [this]
theorem leftK_len (L : List Load) (port : Int) (k : Nat) : (leftK L port k).length ≤ L.length := by
  unfold leftK
  rw [List.length_map]
  have h1 := List.length_filter_le (keepB port) ((lsort L).take k)
  rw [List.length_take, lsort_len] at h1
  omega
theorem hgt_left {S : Ship} {L : List Load} (hv : Inv S L) (port : Int) {k : Nat} {x : Load} (hx : (lsort L)[k]? = some x) : hgt (leftK L port k) x.sl.b x.sl.r = newT L port x := by
  have hd := lsort_doc hv.nS
  have hn : newT L port x = newT (lsort L) port x := newT_perm hd.perm.symm port x
  rw [hn]
  obtain ⟨hlt, e⟩ := List.getElem?_eq_some_iff.1 hx
  have hs : lsort L = (lsort L).take k ++ x :: (lsort L).drop (k + 1) := by rw [← e, List.getElem_cons_drop, List.take_append_drop]
  have hso := hd.sort
  unfold DSort at hso
  rw [hs, List.pairwise_append, List.pairwise_cons] at hso
  obtain ⟨_, ⟨h2, _⟩, h3⟩ := hso
  unfold hgt newT leftK
  have e1 : ((lsort L).filter (lowB port x)) = ((lsort L).take k).filter (lowB port x) := by
    conv => lhs; rw [hs]
    rw [List.filter_append]
    have : (x :: (lsort L).drop (k + 1)).filter (lowB port x) = [] := by
      rw [List.filter_eq_nil_iff]
      intro y hy hc
      obtain ⟨⟨q1, q2⟩, q3, _⟩ := lowB_t.1 hc
      rcases List.mem_cons.1 hy with r | r
      · rw [r] at q3; omega
      · have := h2 y r
        rw [dless_t] at this
        omega
    rw [this, List.append_nil]
  rw [e1, List.filter_map, List.length_map, List.filter_filter]
  have e2 : ∀ y ∈ (lsort L).take k, ((inSt x.sl.b x.sl.r ∘ sink L port) y && keepB port y) = lowB port x y := by
    intro y hy
    have hdl := h3 y hy x List.mem_cons_self
    rw [dless_t] at hdl
    show (inSt x.sl.b x.sl.r y && keepB port y) = _
    rw [Bool.eq_iff_iff, Bool.and_eq_true, inSt_iff, lowB_t]
    unfold keepB
    rw [decide_eq_true_eq]
    constructor
    · rintro ⟨⟨q1, q2⟩, q3⟩
      exact ⟨⟨q1, q2⟩, by omega, q3⟩
    · rintro ⟨⟨q1, q2⟩, _, q3⟩
      exact ⟨⟨q1, q2⟩, q3⟩
  rw [List.filter_congr e2]
set_option maxRecDepth 10000 in
set_option maxHeartbeats 8000000 in
theorem stay_ac (S : Ship) (L : List Load) (port : Int) (hv : Inv S L) (ht : S.tiers ≤ 32) (hl : L.length ≤ 1048576) : AC Tryz.prog 24 [.ptr 1000 0, .d (.sc (.int .i64 port))] (hB S L) [1000, 1001, 1002] (fun r h' => r = .d (.sl 7 ((leftL L port).map Load.enc)) ∧ SubH (hB S L) h') := by
  have cl := loadsK_ac S L hv.nS hl
  have z0 : leftK L port 0 = [] := rfl
  have z1 : tiersOf [] = [] := rfl
  have hll := lsort_len L
  rw [← leftK_all]
  refine AC_enter Tryz.func24 rfl Tryz.ntmps24 (rv := [.tmp 4]) rfl rfl (by simp) (fun w X G => ?_)
  repeat' (first | ((with_reducible refine gA ?_); (first | refine AW_seq ?_ | refine AW_region ?_ | refine AW_block ?_)) | ((with_reducible refine gS ?_); refine Es_s (T := Tryz.tab) rfl rfl rfl rfl ?_) | (((with_reducible refine gS ?_); apply Es_q); rfl; rfl; refine LStep_callB cl rfl rfl ⟨rfl, rfl, rfl, trivial⟩ rfl rfl) | (((with_reducible refine gS ?_); apply Es_xs); rfl; rfl; refine LStep_makeMapF (T := Tryz.tab) (kt := 38) (et := 3) rfl rfl rfl rfl rfl; rfl) | (((with_reducible refine gS ?_); apply Es_q); rfl; rfl; refine LStep_lenM (T := Tryz.tab) rfl rfl rfl rfl) | (with_reducible refine Es_nil ?_) | (with_reducible refine then_n ?_))
  refine AW_openNil (t := 5) (id := 2000) (e := 40) (sz := 7) rfl rfl rfl rfl ?_
  refine AW_forE (S := Nat) (fun k => k ≤ (lsort L).length) (fun k => [(14, .d (.sc (.int .i64 (k : Nat)))), (5, .own 2000 ((leftK L port k).map Load.enc).length)]) (fun k => [(10, some (.mapF 38 3 (emap slV iV (tiersOf (leftK L port k))))), (2000, some (.arr 40 7 ((leftK L port k).map Load.enc)))]) (fun k => (lsort L).length - k) 0 (by omega) (by rw [z0]; (repeat' (first | exact trivial | exact rfl | (refine ⟨Or.inl rfl, ?_⟩) | (refine ⟨Or.inr rfl, ?_⟩) | (refine ⟨Or.inr trivial, ?_⟩) | (refine ⟨rfl, ?_⟩) | (refine ⟨?_, ?_⟩)))) (by rw [z0, z1]; (repeat' (first | exact trivial | exact rfl | (refine ⟨Or.inl rfl, ?_⟩) | (refine ⟨Or.inr rfl, ?_⟩) | (refine ⟨Or.inr trivial, ?_⟩) | (refine ⟨rfl, ?_⟩) | (refine ⟨?_, ?_⟩)))) ?_
  intro k hk
  have hlk := leftK_len L port k
  by_cases hlt : k < (lsort L).length
  · obtain ⟨x, hx, _⟩ := drop_at hlt
    have g1 : ltb (k : Nat) ((lsort L).length : Nat) = true := by rw [ltb_t]; omega
    have hxL : x ∈ L := (lsort_perm hv.nS).mem_iff.1 (List.mem_of_getElem? hx)
    by_cases hp : port < x.p
    · have g2 : leb x.p port = false := by rw [leb_f]; omega
      have hst := leftK_yes hx hp
      have hti : tierOf (tiersOf (leftK L port k)) x.sl.b x.sl.r = newT L port x := by rw [tierOf_eq]; exact hgt_left hv port hx
      have hts : tiersOf (leftK L port (k + 1)) = aput ⟨x.sl.b, x.sl.r, 0⟩ (tierOf (tiersOf (leftK L port k)) x.sl.b x.sl.r + 1) (tiersOf (leftK L port k)) := by rw [hst, tiersOf_snoc]; rfl
      have hM2 : (leftK L port (k + 1)).map Load.enc = (leftK L port k).map Load.enc ++ [[.sc (.int .i64 x.sl.b), .sc (.int .i64 x.sl.r), .sc (.int .i64 (newT L port x)), .sc (.string x.box), .sc (.int .i64 x.w), .sc (.int .i64 x.c), .sc (.int .i64 x.p)]] := by rw [hst, List.map_append]; rfl
      rw [hti] at hts
      have hti0 := newT_nn L port x
      have hti1 : newT L port x ≤ 32 := by
        have h1 := newT_le hv port hxL
        have h2 := (hv.on x hxL).2.2
        omega
      generalize newT L port x = ti at *
      generalize hM' : leftK L port (k + 1) = M' at *
      generalize leftK L port k = M at *
      generalize tiersOf M = T at *
      generalize lsort L = D at *
      have hv0 : (aget (⟨x.sl.b, x.sl.r, 0⟩ : Sl) T).getD 0 = ti := hti
      have f1 : (mfind (slV ⟨x.sl.b, x.sl.r, 0⟩) (emap slV iV T)).getD (iV 0) = iV ti := by
        rw [mfind_emap slV_keq, ← hv0]
        cases aget (⟨x.sl.b, x.sl.r, 0⟩ : Sl) T <;> rfl
      have f2 : (mfind (slV ⟨x.sl.b, x.sl.r, 0⟩) (emap slV iV (aput ⟨x.sl.b, x.sl.r, 0⟩ ti T))).getD (iV 0) = iV ti := by rw [mfind_emap slV_keq, aget_put, if_pos rfl]; rfl
      have f3 := mentry_emap (cv := iV) slV_keq (⟨x.sl.b, x.sl.r, 0⟩ : Sl) 0 T
      rw [hv0] at f3
      have f4 : (emap slV iV (aput (⟨x.sl.b, x.sl.r, 0⟩ : Sl) ti T))[aidx (⟨x.sl.b, x.sl.r, 0⟩ : Sl) T]? = some (slV ⟨x.sl.b, x.sl.r, 0⟩, iV ti) := by
        unfold emap; rw [List.getElem?_map, (aput_set _ ti 0 T).2]; rfl
      have f5 : (emap slV iV (aput (⟨x.sl.b, x.sl.r, 0⟩ : Sl) ti T)).set (aidx (⟨x.sl.b, x.sl.r, 0⟩ : Sl) T) (slV ⟨x.sl.b, x.sl.r, 0⟩, iV (ti + 1)) = emap slV iV (tiersOf M') := by
        rw [emap_set, (aput_set _ ti (ti + 1) T).1, hts]
      clear hv hti hts hst hv0 cl z0 z1
      repeat' (first | ((with_reducible refine gA ?_); refine AW_regionG' (id := 9) 2 4 10 (.mapF 38 3 (emap slV iV (aput ⟨x.sl.b, x.sl.r, 0⟩ ti T))) Tryz.mixed ?_) | ((with_reducible refine gG ?_); first | (refine Eg_q rfl rfl rfl (LStep_simp (T := Tryz.tab) rfl rfl) ?_) | (refine Eg_q rfl rfl rfl (LStep_add rfl rfl rfl rfl ?_) ?_; (refine IntWalk.i64_in _ ?_; omega)) | (refine Eg_r rfl rfl rfl (LStep_lookupF (T := Tryz.tab) rfl rfl rfl keySl rfl rfl rfl rfl rfl rfl (sl_keys _) f1) (LStep_lookupF (T := Tryz.tab) rfl rfl rfl keySl rfl rfl rfl rfl rfl rfl (sl_keys _) f2) ?_) | (refine Eg_x rfl rfl rfl (LStep_mapEntry (T := Tryz.tab) rfl rfl rfl keySl rfl rfl rfl rfl rfl rfl (sl_keys _) f3) rfl ?_) | (refine Eg_n rfl rfl rfl (LStep_entryStore rfl rfl rfl rfl rfl rfl rfl f4) rfl ?_)) | (refine Eg_nil (by kernel_rfl) (by kernel_rfl) ⟨_, rfl, rfl, List.mem_cons_self⟩ ?_) | ((with_reducible refine gA ?_); (first | refine AW_seq ?_ | refine AW_region ?_ | (refine AW_condY rfl ?_ ?_; assumption) | (refine AW_condN rfl ?_ ?_; assumption) | refine AW_block ?_ | refine AW_skip ?_)) | ((with_reducible refine gS ?_); refine Es_s (T := Tryz.tab) rfl rfl rfl rfl ?_) | (((with_reducible refine gS ?_); apply Es_q); rfl; rfl; refine LStep_lookupF (T := Tryz.tab) rfl rfl rfl keySl rfl rfl rfl rfl rfl rfl (sl_keys _) f1) | (((with_reducible refine gS ?_); apply Es_xs); rfl; rfl; (refine LStep_append (T := Tryz.tab) rfl rfl rfl rfl rfl rfl rfl rfl rfl rfl ?_ ?_ ?_; rfl; (rw [List.length_map]; simp only [List.length_cons, List.length_nil]; omega); (unfold maxLen; rw [List.length_map]; simp only [List.length_cons, List.length_nil]; omega)); rfl) | (((with_reducible refine gS ?_); apply Es_q); rfl; rfl; (first | (refine LStep_add rfl rfl rfl rfl ?_; (refine IntWalk.i64_in _ ?_; first | omega | (simp only [cmps] at *; omega))) | (refine LStep_indexM (T := Tryz.tab) (c := ?_) rfl rfl rfl rfl rfl rfl ?_; rotate_left; assumption) | (refine LStep_lit (T := Tryz.tab) rfl rfl rfl rfl rfl rfl rfl rfl ?_; (refine Nat.le_of_ble_eq_true ?_; rfl)) | refine LStep_buildN (T := Tryz.tab) rfl rfl rfl rfl rfl rfl rfl)) | (refine Es_skip rfl ?_ rfl ?_; (first | rfl | (refine w_tf ?_; assumption) | (refine w_ft ?_; assumption))) | (((with_reducible refine gS ?_); apply Es_xs); rfl; rfl; refine LStep_allocN (T := Tryz.tab) rfl rfl rfl rfl rfl rfl; rfl) | (((with_reducible refine gS ?_); apply Es_xn); rfl; rfl; (refine LStep_storeN (T := Tryz.tab) rfl rfl rfl rfl rfl rfl rfl ?_ rfl; (refine Nat.le_of_ble_eq_true ?_; rfl)); rfl) | (with_reducible refine Es_nil ?_) | (with_reducible refine then_n ?_) | (with_reducible refine block_n ?_))
      all_goals first
        | (refine ⟨k + 1, by omega, by omega, ?_, by (repeat' (first | exact trivial | exact rfl | (refine ⟨Or.inl rfl, ?_⟩) | (refine ⟨Or.inr rfl, ?_⟩) | (refine ⟨Or.inr trivial, ?_⟩) | (refine ⟨rfl, ?_⟩) | (refine ⟨?_, ?_⟩))), ?_, by (repeat' (first | exact trivial | exact rfl | (refine ⟨Or.inl rfl, ?_⟩) | (refine ⟨Or.inr rfl, ?_⟩) | (refine ⟨Or.inr trivial, ?_⟩) | (refine ⟨rfl, ?_⟩) | (refine ⟨?_, ?_⟩)))⟩
           · rw [hM', hM2]; (repeat' (first | exact trivial | exact rfl | (refine ⟨Or.inl rfl, ?_⟩) | (refine ⟨Or.inr rfl, ?_⟩) | (refine ⟨Or.inr trivial, ?_⟩) | (refine ⟨rfl, ?_⟩) | (refine ⟨?_, ?_⟩)))
           · rw [hM', hM2, ← f5]; (repeat' (first | exact trivial | exact rfl | (refine ⟨Or.inl rfl, ?_⟩) | (refine ⟨Or.inr rfl, ?_⟩) | (refine ⟨Or.inr trivial, ?_⟩) | (refine ⟨rfl, ?_⟩) | (refine ⟨?_, ?_⟩))))
        | trace_state
    · have g2 : leb x.p port = true := by rw [leb_t]; omega
      have hst := leftK_no hx hp
      generalize leftK L port k = M at *
      generalize hM' : leftK L port (k + 1) = M' at *
      subst hst
      generalize lsort L = D at *
      repeat' (first | ((with_reducible refine gA ?_); (first | refine AW_seq ?_ | refine AW_region ?_ | (refine AW_condY rfl ?_ ?_; assumption) | refine AW_block ?_ | refine AW_skip ?_ | refine AW_exit ?_)) | ((with_reducible refine gS ?_); refine Es_s (T := Tryz.tab) rfl rfl rfl rfl ?_) | (((with_reducible refine gS ?_); apply Es_q); rfl; rfl; (first | (refine LStep_add rfl rfl rfl rfl ?_; (refine IntWalk.i64_in _ ?_; first | omega | (simp only [cmps] at *; omega))) | (refine LStep_indexM (T := Tryz.tab) (c := ?_) rfl rfl rfl rfl rfl rfl ?_; rotate_left; assumption))) | (refine Es_skip rfl ?_ rfl ?_; (first | rfl | (refine w_tf ?_; assumption) | (refine w_ft ?_; assumption))) | (((with_reducible refine gS ?_); apply Es_xs); rfl; rfl; refine LStep_allocN (T := Tryz.tab) rfl rfl rfl rfl rfl rfl; rfl) | (((with_reducible refine gS ?_); apply Es_xn); rfl; rfl; (refine LStep_storeN (T := Tryz.tab) rfl rfl rfl rfl rfl rfl rfl ?_ rfl; (refine Nat.le_of_ble_eq_true ?_; rfl)); rfl) | (with_reducible refine Es_nil ?_) | (with_reducible refine then_n ?_) | (with_reducible refine then_e ?_) | ((with_reducible refine block_e ?_ ?_); rfl))
      all_goals first
        | (refine ⟨k + 1, by omega, by omega, ?_, by (repeat' (first | exact trivial | exact rfl | (refine ⟨Or.inl rfl, ?_⟩) | (refine ⟨Or.inr rfl, ?_⟩) | (refine ⟨Or.inr trivial, ?_⟩) | (refine ⟨rfl, ?_⟩) | (refine ⟨?_, ?_⟩))), ?_, by (repeat' (first | exact trivial | exact rfl | (refine ⟨Or.inl rfl, ?_⟩) | (refine ⟨Or.inr rfl, ?_⟩) | (refine ⟨Or.inr trivial, ?_⟩) | (refine ⟨rfl, ?_⟩) | (refine ⟨?_, ?_⟩)))⟩
           · rw [hM']; (repeat' (first | exact trivial | exact rfl | (refine ⟨Or.inl rfl, ?_⟩) | (refine ⟨Or.inr rfl, ?_⟩) | (refine ⟨Or.inr trivial, ?_⟩) | (refine ⟨rfl, ?_⟩) | (refine ⟨?_, ?_⟩)))
           · rw [hM']; (repeat' (first | exact trivial | exact rfl | (refine ⟨Or.inl rfl, ?_⟩) | (refine ⟨Or.inr rfl, ?_⟩) | (refine ⟨Or.inr trivial, ?_⟩) | (refine ⟨rfl, ?_⟩) | (refine ⟨?_, ?_⟩))))
        | trace_state
  · have : k = (lsort L).length := by omega
    subst this
    have g1 : ltb ((lsort L).length : Nat) ((lsort L).length : Nat) = false := by rw [ltb_f]; omega
    repeat' (first | ((with_reducible refine gRc ?_); refine AW_freeze [4] (id := 2000) ⟨rfl, trivial⟩ rfl rfl ?_) | ((with_reducible refine gA ?_); (first | refine AW_seq ?_ | refine AW_region ?_ | (refine AW_condN rfl ?_ ?_; assumption) | refine AW_ret ?_ | refine AW_exit ?_)) | ((with_reducible refine gS ?_); refine Es_s (T := Tryz.tab) rfl rfl rfl rfl ?_) | (with_reducible refine Es_nil ?_) | (with_reducible refine then_n ?_) | (with_reducible refine then_e ?_) | ((with_reducible refine block_e ?_ ?_); rfl) | ((with_reducible refine gR ?_); first | refine ret1 rfl ?_ | refine ret2 rfl rfl ?_ | refine ret0 ?_ | refine end1 rfl ?_ | refine end0 ?_))
    all_goals first
      | exact ⟨rfl, by (repeat' (first | exact trivial | exact rfl | (refine ⟨Or.inl rfl, ?_⟩) | (refine ⟨Or.inr rfl, ?_⟩) | (refine ⟨Or.inr trivial, ?_⟩) | (refine ⟨rfl, ?_⟩) | (refine ⟨?_, ?_⟩)))⟩
      | trace_state
/-! #### the document's Left -/






end Go.Proofs.YtodgjgkoaahhmaaGreatDoor
namespace Go.Proofs.YtodgjgkoaahhmaaGreatDoor
open Go.SL
/-! ### Unload, Moves -/
theorem overK_ac (S : Ship) (L : List Load) (port : Int) (hv : Inv S L) (hS : shipOk S = true) : AC Tryz.prog 23 [.ptr 1000 0, .d (.sc (.int .i64 port))] (hB S L) [1000, 1001, 1002] (fun v h' => v = .d (.sc (.int .i64 (overD L port))) ∧ SubH (hB S L) h') := by
  have hi : (1 ≤ S.bays ∧ S.bays ≤ 32) ∧ (1 ≤ S.rows ∧ S.rows ≤ 32) ∧ (1 ≤ S.tiers ∧ S.tiers ≤ 32) := by
    have h := hS
    simp only [shipOk, Bool.and_eq_true, frB_t] at h
    omega
  obtain ⟨B, hB'⟩ := Int.eq_ofNat_of_zero_le (show 0 ≤ S.bays by omega)
  obtain ⟨R, hR⟩ := Int.eq_ofNat_of_zero_le (show 0 ≤ S.rows by omega)
  have := over_ac S L port B R hB' hR (by omega) (by omega)
  rw [over_eq hv (by omega) B R hB' hR] at this
  exact this
theorem isP_perm (l : List Load) : (isL ltP l).Perm l := isL_perm l
def rndN (ports : Int) : Nat := (minI ports 64 + 1).toNat
theorem rndN_le (ports : Int) : rndN ports ≤ 65 := by unfold rndN minI; split <;> omega
theorem movesB {S : Ship} {L : List Load} (hv : Inv2 S L) (hl : L.length ≤ 20) {n : Nat} (hn : n ≤ 65) : 0 ≤ movesS L n ∧ movesS L n ≤ 1300 := by
  obtain ⟨h1, h2⟩ := movesS_in hv n
  have : (L.length : Int) * (n : Nat) ≤ 20 * 65 := Int.mul_le_mul (by omega) (by omega) (by omega) (by omega)
  omega
def movesE (S : Ship) (l : List Load) (ports : Int) : Int := if rightE S l = 0 then movesS l (rndN ports) else -1
set_option maxRecDepth 10000 in
set_option maxHeartbeats 8000000 in
theorem moves_ac (S : Ship) (l : List Load) (ports : Int) (hl : l.length ≤ 20) (hpt : -9223372036854775808 ≤ ports) : AC Tryz.prog 10 [.agg S.cs, .d (.sc (.int .i64 ports)), .d (.sl 7 (l.map Load.enc))] [hG] [9000] (fun r h' => r = .d (.sc (.int .i64 (movesE S l ports))) ∧ SubH [hG] h') := by
  have cr := sright_ac S l hl
  have f00 : (!(eqb 0 0)) = false := by simp [eqb]
  by_cases hE : rightE S l = 0
  · have hm : movesE S l ports = movesS l (rndN ports) := by unfold movesE; rw [if_pos hE]
    rw [hm]
    obtain ⟨⟨hS, hv⟩, _⟩ := rightE_iff.1 hE
    have hi : (1 ≤ S.bays ∧ S.bays ≤ 32) ∧ (1 ≤ S.rows ∧ S.rows ≤ 32) ∧ (1 ≤ S.tiers ∧ S.tiers ≤ 32) := by
      have h := hS
      simp only [shipOk, Bool.and_eq_true, frB_t] at h
      omega
    rw [hE] at cr
    have hN : (minI ports 64 + 1 ≤ 0 ∧ rndN ports = 0) ∨ minI ports 64 + 1 = (rndN ports : Nat) := by unfold rndN; omega
    have hmi : -9223372036854775808 ≤ minI ports 64 ∧ minI ports 64 ≤ 64 := by unfold minI; split <;> omega
    have hNl := rndN_le ports
    have z0 : movesS l 0 = 0 := rfl
    have z1 : leftN l 0 = l := rfl
    generalize rndN ports = N at *
    generalize hmn : minI ports 64 = mn at *
    refine AC_enter Tryz.func10 rfl Tryz.ntmps10 (rv := [.tmp 6]) rfl rfl (by simp) (fun w X G => ?_)
    repeat' (first | ((with_reducible refine gA ?_); (first | refine AW_seq ?_ | refine AW_region ?_ | (refine AW_condN rfl ?_ ?_; assumption) | refine AW_block ?_ | refine AW_skip ?_)) | ((with_reducible refine gS ?_); refine Es_s (T := Tryz.tab) rfl rfl rfl rfl ?_) | (((with_reducible refine gS ?_); apply Es_q); rfl; rfl; refine LStep_min rfl rfl rfl rfl hmn) | (((with_reducible refine gS ?_); apply Es_xg); rfl; rfl; refine LStep_callHN [] [] cr rfl rfl ⟨rfl, trivial⟩ rfl ⟨trivial, trivial⟩ rfl rfl; rfl) | (((with_reducible refine gS ?_); apply Es_q); rfl; rfl; (refine LStep_add rfl rfl rfl rfl ?_; (refine IntWalk.i64_in _ ?_; first | omega | (simp only [cmps] at *; omega)))) | (refine Es_skip rfl ?_ rfl ?_; (first | rfl | (refine w_tf ?_; assumption) | (refine w_ft ?_; assumption))) | (((with_reducible refine gS ?_); apply Es_xs); rfl; rfl; refine LStep_boxN rfl rfl rfl rfl rfl rfl; rfl) | (with_reducible refine Es_nil ?_) | (with_reducible refine then_n ?_))
    refine AW_forE (S := Nat) (fun k => k ≤ N) (fun k => [(20, .d (.sc (.int .i64 (k : Nat)))), (7, .d (.sc (.int .i64 (movesS l k)))), (8, .d (.sl 7 ((leftN l k).map Load.enc)))]) (fun _ => []) (fun k => N - k) 0 (by omega) (by rw [z0, z1]; (repeat' (first | exact trivial | exact rfl | (refine ⟨Or.inl rfl, ?_⟩) | (refine ⟨Or.inr rfl, ?_⟩) | (refine ⟨Or.inr trivial, ?_⟩) | (refine ⟨rfl, ?_⟩) | (refine ⟨?_, ?_⟩)))) (by (repeat' (first | exact trivial | exact rfl | (refine ⟨Or.inl rfl, ?_⟩) | (refine ⟨Or.inr rfl, ?_⟩) | (refine ⟨Or.inr trivial, ?_⟩) | (refine ⟨rfl, ?_⟩) | (refine ⟨?_, ?_⟩)))) ?_
    intro k hk
    by_cases hlt : k < N
    · have g1 : ltb (k : Nat) (mn + 1) = true := by rw [ltb_t]; omega
      have hvk := leftN_inv hv k
      have hlk := leftN_len hv k
      have hp := isP_perm (leftN l k)
      have hv2 := hvk.perm hp.symm
      have c1 := standOk_ac S (leftN l k) (by omega) (standE_iff.2 ⟨hS, hvk⟩)
      have c2 := stay_ac S (isL ltP (leftN l k)) (k : Nat) hv2.toInv (by omega) (by rw [hp.length_eq]; omega)
      have c3 := overK_ac S (isL ltP (leftN l k)) (k : Nat) hv2.toInv hS
      rw [leftL_perm hp hv2.nS _] at c2
      rw [overD_perm hp] at c3
      have h2 : leftN l (k + 1) = leftL (leftN l k) (k : Nat) := rfl
      have h3 : movesS l (k + 1) = movesS l k + overD (leftN l k) (k : Nat) := rfl
      have b1 := movesB hv hl (n := k) (by omega)
      have b2 := movesB hv hl (n := k + 1) (by omega)
      rw [h3] at b2
      generalize isL ltP (leftN l k) = P at *
      generalize leftL (leftN l k) (k : Nat) = Q at *
      generalize overD (leftN l k) (k : Nat) = n at *
      generalize movesS l k = m at *
      generalize leftN l k = L at *
      clear hv hv2 hvk hp z0 z1 cr hmn
      repeat' (first | ((with_reducible refine gA ?_); (first | refine AW_seq ?_ | refine AW_region ?_ | (refine AW_condY rfl ?_ ?_; assumption) | (refine AW_condN rfl ?_ ?_; assumption) | refine AW_block ?_ | refine AW_skip ?_)) | ((with_reducible refine gS ?_); refine Es_s (T := Tryz.tab) rfl rfl rfl rfl ?_) | (((with_reducible refine gS ?_); apply Es_xg); rfl; rfl; (first | refine LStep_callHN [] [(1000, 1000), (1001, 1001), (1002, 1002)] c1 rfl rfl ⟨rfl, trivial⟩ rfl ⟨trivial, trivial⟩ rfl rfl | refine LStep_callHN [] [] c2 rfl rfl ⟨rfl, rfl, rfl, trivial⟩ rfl ⟨trivial, trivial, trivial, trivial⟩ rfl rfl | refine LStep_callHN [] [] c3 rfl rfl ⟨rfl, rfl, rfl, trivial⟩ rfl ⟨trivial, trivial, trivial, trivial⟩ rfl rfl); rfl) | (((with_reducible refine gS ?_); apply Es_q); rfl; rfl; (refine LStep_add rfl rfl rfl rfl ?_; (refine IntWalk.i64_in _ ?_; first | omega | (simp only [cmps] at *; omega)))) | (with_reducible refine Es_nil ?_) | (with_reducible refine then_n ?_) | (with_reducible refine block_n ?_))
      all_goals first
        | (refine ⟨k + 1, by omega, by omega, ?_, by (repeat' (first | exact trivial | exact rfl | (refine ⟨Or.inl rfl, ?_⟩) | (refine ⟨Or.inr rfl, ?_⟩) | (refine ⟨Or.inr trivial, ?_⟩) | (refine ⟨rfl, ?_⟩) | (refine ⟨?_, ?_⟩))), by (repeat' (first | exact trivial | exact rfl | (refine ⟨Or.inl rfl, ?_⟩) | (refine ⟨Or.inr rfl, ?_⟩) | (refine ⟨Or.inr trivial, ?_⟩) | (refine ⟨rfl, ?_⟩) | (refine ⟨?_, ?_⟩))), by (repeat' (first | exact trivial | exact rfl | (refine ⟨Or.inl rfl, ?_⟩) | (refine ⟨Or.inr rfl, ?_⟩) | (refine ⟨Or.inr trivial, ?_⟩) | (refine ⟨rfl, ?_⟩) | (refine ⟨?_, ?_⟩)))⟩
           rw [h3, h2]; (repeat' (first | exact trivial | exact rfl | (refine ⟨Or.inl rfl, ?_⟩) | (refine ⟨Or.inr rfl, ?_⟩) | (refine ⟨Or.inr trivial, ?_⟩) | (refine ⟨rfl, ?_⟩) | (refine ⟨?_, ?_⟩))))
        | trace_state
    · have : k = N := by omega
      subst this
      have g1 : ltb (k : Nat) (mn + 1) = false := by rw [ltb_f]; omega
      repeat' (first | ((with_reducible refine gA ?_); (first | refine AW_seq ?_ | refine AW_region ?_ | (refine AW_condN rfl ?_ ?_; assumption) | refine AW_ret ?_ | refine AW_exit ?_)) | ((with_reducible refine gS ?_); refine Es_s (T := Tryz.tab) rfl rfl rfl rfl ?_) | (with_reducible refine Es_nil ?_) | (with_reducible refine then_n ?_) | (with_reducible refine then_e ?_) | ((with_reducible refine block_e ?_ ?_); rfl) | ((with_reducible refine gR ?_); first | refine ret1 rfl ?_ | refine ret2 rfl rfl ?_ | refine ret0 ?_ | refine end1 rfl ?_ | refine end0 ?_))
      all_goals first
        | exact ⟨rfl, by (repeat' (first | exact trivial | exact rfl | (refine ⟨Or.inl rfl, ?_⟩) | (refine ⟨Or.inr rfl, ?_⟩) | (refine ⟨Or.inr trivial, ?_⟩) | (refine ⟨rfl, ?_⟩) | (refine ⟨?_, ?_⟩)))⟩
        | trace_state
  · have hm : movesE S l ports = -1 := by unfold movesE; rw [if_neg hE]
    rw [hm]
    have g1 : (!(eqb (rightE S l) 0)) = true := by rw [eqb_f.2 hE]; rfl
    generalize rightE S l = e at *
    refine AC_enter Tryz.func10 rfl Tryz.ntmps10 (rv := [.tmp 6]) rfl rfl (by simp) (fun w X G => ?_)
    repeat' (first | ((with_reducible refine gA ?_); (first | refine AW_seq ?_ | refine AW_region ?_ | (refine AW_condY rfl ?_ ?_; assumption) | refine AW_ret ?_)) | ((with_reducible refine gS ?_); refine Es_s (T := Tryz.tab) rfl rfl rfl rfl ?_) | (((with_reducible refine gS ?_); apply Es_xg); rfl; rfl; refine LStep_callHN [] [] cr rfl rfl ⟨rfl, trivial⟩ rfl ⟨trivial, trivial⟩ rfl rfl; rfl) | (refine Es_skip rfl ?_ rfl ?_; (first | rfl | (refine w_tf ?_; assumption) | (refine w_ft ?_; assumption))) | (((with_reducible refine gS ?_); apply Es_xs); rfl; rfl; refine LStep_boxN rfl rfl rfl rfl rfl rfl; rfl) | (with_reducible refine Es_nil ?_) | (with_reducible refine then_n ?_) | (with_reducible refine then_r ?_) | ((with_reducible refine gR ?_); first | refine ret1 rfl ?_ | refine ret2 rfl rfl ?_ | refine ret0 ?_ | refine end1 rfl ?_ | refine end0 ?_))
    all_goals first
      | exact ⟨rfl, by (repeat' (first | exact trivial | exact rfl | (refine ⟨Or.inl rfl, ?_⟩) | (refine ⟨Or.inr rfl, ?_⟩) | (refine ⟨Or.inr trivial, ?_⟩) | (refine ⟨rfl, ?_⟩) | (refine ⟨?_, ?_⟩)))⟩
      | trace_state
/-! #### the document's Moves, Few, Texts -/




end Go.Proofs.YtodgjgkoaahhmaaGreatDoor
