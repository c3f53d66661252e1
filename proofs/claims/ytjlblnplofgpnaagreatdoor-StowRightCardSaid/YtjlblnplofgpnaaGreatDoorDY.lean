import Derived.Test.YtjlblnplofgpnaaGreatDoorDV
import Derived.Test.YtjlblnplofgpnaaGreatDoorDP
import Derived.Test.YtjlblnplofgpnaaGreatDoorAE
import Derived.Test.YtjlblnplofgpnaaGreatDoorDC
import Derived.Test.YtjlblnplofgpnaaGreatDoorTl
import Derived.Test.YtjlblnplofgpnaaGreatDoorDU
import Derived.Test.YtjlblnplofgpnaaGreatDoorA7
namespace Go.Proofs.YtjlblnplofgpnaaGreatDoor
open Go.SL
/-! ### the document's next, Right, Left, Moves, Few, Texts -/
theorem ltP_ahead {x y : Load} : ltP x y = (aheadS x.sl y.sl || (decide (x.sl = y.sl) && lts x.box y.box)) := by
  rw [Bool.eq_iff_iff, ltP_t, Bool.or_eq_true, Bool.and_eq_true, decide_eq_true_eq]
  unfold aheadS
  rw [decide_eq_true_eq, Sl_eq]
  constructor
  · rintro (h | ⟨h1, h | ⟨h2, h | ⟨h3, h⟩⟩⟩)
    · exact .inl (.inl h)
    · exact .inl (.inr ⟨h1, .inl h⟩)
    · exact .inl (.inr ⟨h1, .inr ⟨h2, h⟩⟩)
    · exact .inr ⟨⟨h2, h3, h1⟩, h⟩
  · rintro ((h | ⟨h1, h | ⟨h2, h⟩⟩) | ⟨⟨h1, h2, h3⟩, h⟩)
    · exact .inl h
    · exact .inr ⟨h1, .inl h⟩
    · exact .inr ⟨h1, .inr ⟨h2, .inl h⟩⟩
    · exact .inr ⟨h3, .inr ⟨h1, .inr ⟨h2, h⟩⟩⟩
set_option maxRecDepth 10000 in
set_option maxHeartbeats 8000000 in
theorem rnext_ac (l : List Load) (h0 : 0 < l.length) (hl : l.length ≤ 1048576) : AC Tryz.prog 54 [.d (.sl 7 (l.map Load.enc))] [] [] (fun r _ => r = .d (.sc (.int .i64 (nextK l (l.length - 1) : Nat)))) := by
  refine AC_enter Tryz.func54 rfl Tryz.ntmps54 (rv := [.tmp 2]) rfl rfl (by simp) (fun w X G => ?_)
  repeat' (first | ((with_reducible refine gA ?_); (first | refine AW_seq ?_ | refine AW_region ?_ | refine AW_block ?_)) | ((with_reducible refine gS ?_); refine Es_s (T := Tryz.tab) rfl rfl rfl rfl ?_) | (with_reducible refine Es_nil ?_) | (with_reducible refine then_n ?_))
  refine AW_forE (S := Nat) (fun m => 1 ≤ m ∧ m ≤ l.length) (fun m => [(4, .d (.sc (.int .i64 (m : Nat)))), (3, .d (.sc (.int .i64 (nextK l (m - 1) : Nat))))]) (fun _ => []) (fun m => l.length - m) 1 ⟨by omega, by omega⟩ (by (repeat' (first | exact trivial | exact rfl | (refine ⟨Or.inl rfl, ?_⟩) | (refine ⟨Or.inr rfl, ?_⟩) | (refine ⟨Or.inr trivial, ?_⟩) | (refine ⟨rfl, ?_⟩) | (refine ⟨?_, ?_⟩)))) (by (repeat' (first | exact trivial | exact rfl | (refine ⟨Or.inl rfl, ?_⟩) | (refine ⟨Or.inr rfl, ?_⟩) | (refine ⟨Or.inr trivial, ?_⟩) | (refine ⟨rfl, ?_⟩) | (refine ⟨?_, ?_⟩)))) ?_
  intro m ⟨hm, hn⟩
  obtain ⟨n, rfl⟩ : ∃ n, m = n + 1 := ⟨m - 1, by omega⟩
  have en : n + 1 - 1 = n := by omega
  rw [en]
  by_cases hlt : n + 1 < l.length
  · obtain ⟨x, hx, _⟩ := drop_at hlt
    obtain ⟨y, hy, _⟩ := drop_at (l := l) (k := nextK l n) (by have := nextK_le l n; omega)
    have hst := nextK_step hx hy
    have e2 : n + 1 + 1 - 1 = n + 1 := by omega
    have ca := rahead_ac x.sl y.sl
    have hlp : ltP x y = (aheadS x.sl y.sl || (decide (x.sl = y.sl) && lts x.box y.box)) := ltP_ahead
    have hse : x.sl.eqB y.sl = decide (x.sl = y.sl) := sl_eqB
    have g1 : ltb ((n + 1 : Nat) : Int) (l.length : Nat) = true := by rw [ltb_t]; omega
    rw [hlp] at hst
    rw [← hse] at hst
    clear hlp
    generalize nextK l n = k at *
    cases e1 : aheadS x.sl y.sl with
    | true =>
      rw [e1] at ca hst
      rw [Bool.true_or, if_pos rfl] at hst
      repeat' (first | ((with_reducible refine gA ?_); (first | refine AW_seq ?_ | refine AW_region ?_ | refine AW_regionD Tryz.mixed ?_ | refine AW_condT rfl ?_ | (refine AW_condY rfl ?_ ?_; assumption) | refine AW_block ?_ | refine AW_skip ?_)) | (first | ((with_reducible refine gS ?_); refine Es_s (T := Tryz.tab) rfl rfl rfl rfl ?_) | ((with_reducible refine gD ?_); refine Ed_s (T := Tryz.tab) rfl rfl rfl rfl ?_)) | ((first | ((with_reducible refine gS ?_); apply Es_q) | ((with_reducible refine gD ?_); apply Ed_q)); rfl; rfl; refine LStep_call (ca) rfl rfl rfl rfl) | ((first | ((with_reducible refine gS ?_); apply Es_q) | ((with_reducible refine gD ?_); apply Ed_q)); rfl; rfl; (first | refine LStep_lenM (T := Tryz.tab) rfl rfl rfl rfl | (refine LStep_add rfl rfl rfl rfl ?_; (refine IntWalk.i64_in _ ?_; first | omega | (simp only [cmps] at *; omega))) | (refine LStep_indexM (T := Tryz.tab) (c := ?_) rfl rfl rfl rfl rfl rfl ?_; rotate_left; assumption))) | (refine Ed_skip rfl ?_ rfl ?_; (first | rfl | (refine w_tf ?_; assumption) | (refine w_ft ?_; assumption))) | (with_reducible refine Es_nil ?_) | ((with_reducible refine Ed_nil ?_ ?_); kernel_rfl) | (with_reducible refine then_n ?_) | (with_reducible refine block_n ?_))
      all_goals first
        | (refine ⟨n + 1 + 1, ⟨by omega, by omega⟩, by omega, ?_, by (repeat' (first | exact trivial | exact rfl | (refine ⟨Or.inl rfl, ?_⟩) | (refine ⟨Or.inr rfl, ?_⟩) | (refine ⟨Or.inr trivial, ?_⟩) | (refine ⟨rfl, ?_⟩) | (refine ⟨?_, ?_⟩))), by (repeat' (first | exact trivial | exact rfl | (refine ⟨Or.inl rfl, ?_⟩) | (refine ⟨Or.inr rfl, ?_⟩) | (refine ⟨Or.inr trivial, ?_⟩) | (refine ⟨rfl, ?_⟩) | (refine ⟨?_, ?_⟩))), by (repeat' (first | exact trivial | exact rfl | (refine ⟨Or.inl rfl, ?_⟩) | (refine ⟨Or.inr rfl, ?_⟩) | (refine ⟨Or.inr trivial, ?_⟩) | (refine ⟨rfl, ?_⟩) | (refine ⟨?_, ?_⟩)))⟩
           rw [e2, hst]; (repeat' (first | exact trivial | exact rfl | (refine ⟨Or.inl rfl, ?_⟩) | (refine ⟨Or.inr rfl, ?_⟩) | (refine ⟨Or.inr trivial, ?_⟩) | (refine ⟨rfl, ?_⟩) | (refine ⟨?_, ?_⟩))))
        | trace_state
    | false =>
      rw [e1] at ca hst
      rw [Bool.false_or] at hst
      repeat' (first | ((with_reducible refine gA ?_); (first | refine AW_seq ?_ | refine AW_region ?_ | refine AW_regionD Tryz.mixed ?_ | refine AW_condF rfl ?_ | (refine AW_condY rfl ?_ ?_; assumption) | (refine AW_cond rfl (fun hc => ?_) (fun hc => ?_) <;> try (exfalso; simp only [cmpL] at hc; omega)) | refine AW_block ?_ | refine AW_skip ?_)) | (first | ((with_reducible refine gS ?_); refine Es_s (T := Tryz.tab) rfl rfl rfl rfl ?_) | ((with_reducible refine gD ?_); refine Ed_s (T := Tryz.tab) rfl rfl rfl rfl ?_)) | ((first | ((with_reducible refine gS ?_); apply Es_q) | ((with_reducible refine gD ?_); apply Ed_q)); rfl; (first | rfl | (refine w_tt ?_; assumption)); (first | refine LStep_call (ca) rfl rfl rfl rfl | refine LStep_eqAgg (T := Tryz.tab) eqS_slot eqG_slot (Nat.le_of_ble_eq_true rfl) rfl rfl rfl rfl rfl rfl)) | ((first | ((with_reducible refine gS ?_); apply Es_q) | ((with_reducible refine gD ?_); apply Ed_q)); rfl; (first | rfl | (refine w_tt ?_; assumption)); (first | refine LStep_simp (T := Tryz.tab) rfl rfl | refine LStep_lenM (T := Tryz.tab) rfl rfl rfl rfl | (refine LStep_add rfl rfl rfl rfl ?_; (refine IntWalk.i64_in _ ?_; first | omega | (simp only [cmps] at *; omega))) | (refine LStep_pickT rfl rfl ?_ rfl rfl; assumption) | (refine LStep_pickF rfl rfl ?_ rfl rfl; assumption) | (refine LStep_indexM (T := Tryz.tab) (c := ?_) rfl rfl rfl rfl rfl rfl ?_; rotate_left; assumption))) | (refine Ed_skip rfl ?_ rfl ?_; (first | rfl | (refine w_tf ?_; assumption) | (refine w_ft ?_; assumption))) | (refine Ed_split rfl ?_ (fun _ => ?_) (fun _ => ?_); ((fail_if_success (refine und_t ?_; assumption)); (fail_if_success (refine und_f ?_; assumption)); exact trivial)) | (with_reducible refine Es_nil ?_) | ((with_reducible refine Ed_nil ?_ ?_); kernel_rfl) | (with_reducible refine then_n ?_) | (with_reducible refine block_n ?_))
      all_goals first
        | (refine ⟨n + 1 + 1, ⟨by omega, by omega⟩, by omega, ?_, by (repeat' (first | exact trivial | exact rfl | (refine ⟨Or.inl rfl, ?_⟩) | (refine ⟨Or.inr rfl, ?_⟩) | (refine ⟨Or.inr trivial, ?_⟩) | (refine ⟨rfl, ?_⟩) | (refine ⟨?_, ?_⟩))), by (repeat' (first | exact trivial | exact rfl | (refine ⟨Or.inl rfl, ?_⟩) | (refine ⟨Or.inr rfl, ?_⟩) | (refine ⟨Or.inr trivial, ?_⟩) | (refine ⟨rfl, ?_⟩) | (refine ⟨?_, ?_⟩))), by (repeat' (first | exact trivial | exact rfl | (refine ⟨Or.inl rfl, ?_⟩) | (refine ⟨Or.inr rfl, ?_⟩) | (refine ⟨Or.inr trivial, ?_⟩) | (refine ⟨rfl, ?_⟩) | (refine ⟨?_, ?_⟩)))⟩
           have h1 : x.sl.eqB y.sl = false := by assumption
           rw [e2, hst, h1, Bool.false_and, if_neg (by decide)]; (repeat' (first | exact trivial | exact rfl | (refine ⟨Or.inl rfl, ?_⟩) | (refine ⟨Or.inr rfl, ?_⟩) | (refine ⟨Or.inr trivial, ?_⟩) | (refine ⟨rfl, ?_⟩) | (refine ⟨?_, ?_⟩))))
        | (refine ⟨n + 1 + 1, ⟨by omega, by omega⟩, by omega, ?_, by (repeat' (first | exact trivial | exact rfl | (refine ⟨Or.inl rfl, ?_⟩) | (refine ⟨Or.inr rfl, ?_⟩) | (refine ⟨Or.inr trivial, ?_⟩) | (refine ⟨rfl, ?_⟩) | (refine ⟨?_, ?_⟩))), by (repeat' (first | exact trivial | exact rfl | (refine ⟨Or.inl rfl, ?_⟩) | (refine ⟨Or.inr rfl, ?_⟩) | (refine ⟨Or.inr trivial, ?_⟩) | (refine ⟨rfl, ?_⟩) | (refine ⟨?_, ?_⟩))), by (repeat' (first | exact trivial | exact rfl | (refine ⟨Or.inl rfl, ?_⟩) | (refine ⟨Or.inr rfl, ?_⟩) | (refine ⟨Or.inr trivial, ?_⟩) | (refine ⟨rfl, ?_⟩) | (refine ⟨?_, ?_⟩)))⟩
           have h1 : x.sl.eqB y.sl = true := by assumption
           have h2 : lts x.box y.box = true := by assumption
           rw [e2, hst, h1, h2, Bool.true_and, if_pos rfl]; (repeat' (first | exact trivial | exact rfl | (refine ⟨Or.inl rfl, ?_⟩) | (refine ⟨Or.inr rfl, ?_⟩) | (refine ⟨Or.inr trivial, ?_⟩) | (refine ⟨rfl, ?_⟩) | (refine ⟨?_, ?_⟩))))
        | (refine ⟨n + 1 + 1, ⟨by omega, by omega⟩, by omega, ?_, by (repeat' (first | exact trivial | exact rfl | (refine ⟨Or.inl rfl, ?_⟩) | (refine ⟨Or.inr rfl, ?_⟩) | (refine ⟨Or.inr trivial, ?_⟩) | (refine ⟨rfl, ?_⟩) | (refine ⟨?_, ?_⟩))), by (repeat' (first | exact trivial | exact rfl | (refine ⟨Or.inl rfl, ?_⟩) | (refine ⟨Or.inr rfl, ?_⟩) | (refine ⟨Or.inr trivial, ?_⟩) | (refine ⟨rfl, ?_⟩) | (refine ⟨?_, ?_⟩))), by (repeat' (first | exact trivial | exact rfl | (refine ⟨Or.inl rfl, ?_⟩) | (refine ⟨Or.inr rfl, ?_⟩) | (refine ⟨Or.inr trivial, ?_⟩) | (refine ⟨rfl, ?_⟩) | (refine ⟨?_, ?_⟩)))⟩
           have h1 : x.sl.eqB y.sl = true := by assumption
           have h2 : lts x.box y.box = false := by assumption
           rw [e2, hst, h1, h2, Bool.true_and, if_neg (by decide)]; (repeat' (first | exact trivial | exact rfl | (refine ⟨Or.inl rfl, ?_⟩) | (refine ⟨Or.inr rfl, ?_⟩) | (refine ⟨Or.inr trivial, ?_⟩) | (refine ⟨rfl, ?_⟩) | (refine ⟨?_, ?_⟩))))
        | trace_state
  · have g1 : ltb ((n + 1 : Nat) : Int) (l.length : Nat) = false := by rw [ltb_f]; omega
    have : n = l.length - 1 := by omega
    subst this
    repeat' (first | ((with_reducible refine gA ?_); (first | refine AW_seq ?_ | refine AW_region ?_ | (refine AW_condN rfl ?_ ?_; assumption) | refine AW_ret ?_ | refine AW_exit ?_)) | ((with_reducible refine gS ?_); refine Es_s (T := Tryz.tab) rfl rfl rfl rfl ?_) | (((with_reducible refine gS ?_); apply Es_q); rfl; rfl; refine LStep_lenM (T := Tryz.tab) rfl rfl rfl rfl) | (with_reducible refine Es_nil ?_) | (with_reducible refine then_n ?_) | (with_reducible refine then_e ?_) | ((with_reducible refine block_e ?_ ?_); rfl) | ((with_reducible refine gR ?_); first | refine ret1 rfl ?_ | refine ret2 rfl rfl ?_ | refine ret0 ?_ | refine end1 rfl ?_ | refine end0 ?_))
    all_goals first
      | rfl
      | trace_state
/-! #### the checker -/
set_option maxRecDepth 10000 in
set_option maxHeartbeats 8000000 in
theorem rRight15_ac (S : Ship) (l : List Load) (hl : l.length ≤ 20) (hs : S.nm.size ≤ 9007199254740992) (hb : ∀ x ∈ l, x.box.size ≤ 9007199254740992) : AC Tryz.prog 21 [.agg S.cs, .d (.sl 7 (l.map Load.enc))] [] [] (fun r _ => r = .d (.sc (.int .i64 (rightE S l)))) := by
  have c1 := rmay_ac S hs
  cases e1 : shipOk S with
  | false =>
    rw [e1] at c1
    have hE : rightE S l = 1 := by unfold rightE standE; rw [e1]; rfl
    rw [hE]
    refine AC_enter Tryz.func21 rfl Tryz.ntmps21 (rv := [.tmp 4]) rfl rfl (by simp) (fun w X G => ?_)
    repeat' (first | ((with_reducible refine gA ?_); (first | refine AW_seq ?_ | refine AW_region ?_ | refine AW_condT rfl ?_ | refine AW_ret ?_)) | ((with_reducible refine gS ?_); refine Es_s (T := Tryz.tab) rfl rfl rfl rfl ?_) | (((with_reducible refine gS ?_); apply Es_q); rfl; rfl; refine LStep_call (c1) rfl rfl rfl rfl) | (refine Es_skip rfl ?_ rfl ?_; (first | rfl | (refine w_tf ?_; assumption) | (refine w_ft ?_; assumption))) | (((with_reducible refine gS ?_); apply Es_xs); rfl; rfl; refine LStep_boxN rfl rfl rfl rfl rfl rfl; rfl) | (with_reducible refine Es_nil ?_) | (with_reducible refine then_n ?_) | (with_reducible refine then_r ?_) | ((with_reducible refine gR ?_); first | refine ret1 rfl ?_ | refine ret2 rfl rfl ?_ | refine ret0 ?_ | refine end1 rfl ?_ | refine end0 ?_))
    all_goals first
      | rfl
      | trace_state
  | true =>
  rw [e1] at c1
  have hstd : standE S l = (putAll S [] (isL ltP l)).1 := by unfold standE; rw [e1]; rfl
  have hi : (1 ≤ S.bays ∧ S.bays ≤ 32) ∧ (1 ≤ S.rows ∧ S.rows ≤ 32) ∧ (1 ≤ S.tiers ∧ S.tiers ≤ 32) := by
    have h := e1
    simp only [shipOk, Bool.and_eq_true, frB_t] at h
    omega
  refine AC_enter Tryz.func21 rfl Tryz.ntmps21 (rv := [.tmp 4]) rfl rfl (by simp) (fun w X G => ?_)
  repeat' (first | ((with_reducible refine gA ?_); (first | refine AW_seq ?_ | refine AW_region ?_ | refine AW_condF rfl ?_ | refine AW_block ?_ | refine AW_skip ?_)) | ((with_reducible refine gS ?_); refine Es_s (T := Tryz.tab) rfl rfl rfl rfl ?_) | (((with_reducible refine gS ?_); apply Es_q); rfl; rfl; refine LStep_call (c1) rfl rfl rfl rfl) | (((with_reducible refine gS ?_); apply Es_xs); rfl; rfl; (refine LStep_litOwn (T := Tryz.tab) (len := 0) rfl rfl rfl rfl rfl rfl rfl rfl rfl rfl ?_ ?_; (refine Nat.le_of_ble_eq_true ?_; rfl); (unfold maxLen; omega)); rfl) | (refine Es_skip rfl ?_ rfl ?_; (first | rfl | (refine w_tf ?_; assumption) | (refine w_ft ?_; assumption))) | (((with_reducible refine gS ?_); apply Es_xs); rfl; rfl; refine LStep_boxN rfl rfl rfl rfl rfl rfl; rfl) | (with_reducible refine Es_nil ?_) | (with_reducible refine then_n ?_))
  refine AW_forE (S := List Load × List Load) (fun s => putAll S [] s.1 = (0, s.1) ∧ isL ltP l = s.1 ++ isL ltP s.2 ∧ (s.1 ++ s.2).Perm l) (fun s => [(1, .d (.sl 7 (s.2.map Load.enc))), (5, .own 11 (s.1.map Load.enc).length)]) (fun s => [(11, some (.arr 43 7 (s.1.map Load.enc)))]) (fun s => s.2.length) ([], l) ⟨rfl, rfl, List.Perm.refl _⟩ (by (repeat' (first | exact trivial | exact rfl | (refine ⟨Or.inl rfl, ?_⟩) | (refine ⟨Or.inr rfl, ?_⟩) | (refine ⟨Or.inr trivial, ?_⟩) | (refine ⟨rfl, ?_⟩) | (refine ⟨?_, ?_⟩)))) (by (repeat' (first | exact trivial | exact rfl | (refine ⟨Or.inl rfl, ?_⟩) | (refine ⟨Or.inr rfl, ?_⟩) | (refine ⟨Or.inr trivial, ?_⟩) | (refine ⟨rfl, ?_⟩) | (refine ⟨?_, ?_⟩)))) ?_
  intro ⟨M, R⟩ ⟨h1, h2, h3⟩
  dsimp only at h1 h2 h3 ⊢
  have hlen := h3.length_eq
  rw [List.length_append] at hlen
  have hv : Inv2 S M := by
    have := (putAll_ok M (inv00 e1)).1
    rwa [h1] at this
  by_cases h0 : 0 < R.length
  · have g1 : ltb 0 (R.length : Nat) = true := by rw [ltb_t]; omega
    have cn := rnext_ac R h0 (by omega)
    have hk := nextK_le R (R.length - 1)
    obtain ⟨x, hx, _⟩ := drop_at (l := R) (k := nextK R (R.length - 1)) (by omega)
    have hnx := isP_next h0 rfl hx
    have hxl : x ∈ l := h3.mem_iff.1 (List.mem_append_right _ (List.mem_of_getElem? hx))
    generalize nextK R (R.length - 1) = k at *
    have cw := rWrong_ac S M x e1 (by omega) hv.nS hv.nB (fun y hy => by have := hv.ok y hy; omega) (fun y hy => by have := hv.on y hy; omega) (hb x hxl)
    have co := rWithout_ac R k (by omega)
    have hkl : k < R.length := (List.getElem?_eq_some_iff.1 hx).1
    by_cases hE : putE S M x = 0
    · rw [hE] at cw
      have hn1 : putAll S [] (M ++ [x]) = (0, M ++ [x]) := by
        rw [putAll_app, h1, if_pos rfl, putAll_cons, if_pos hE, putAll_nil]
      have hn2 : isL ltP l = (M ++ [x]) ++ isL ltP (R.eraseIdx k) := by rw [h2, hnx, List.append_assoc]; rfl
      have hn3 : ((M ++ [x]) ++ R.eraseIdx k).Perm l := by
        refine List.Perm.trans ?_ h3
        rw [List.append_assoc]
        exact List.Perm.append_left M (eraseIdx_permG hx)
      have hM2 : (M ++ [x]).map Load.enc = M.map Load.enc ++ [x.enc] := by rw [List.map_append]; rfl
      have hle : (R.eraseIdx k).length < R.length := by rw [List.length_eraseIdx, if_pos hkl]; omega
      generalize R.eraseIdx k = R' at *
      clear hv h1 h2 h3 hnx
      repeat' (first | ((with_reducible refine gA ?_); (first | refine AW_seq ?_ | refine AW_region ?_ | refine AW_regionD Tryz.mixed ?_ | (refine AW_condY rfl ?_ ?_; assumption) | (refine AW_cond rfl (fun hc => ?_) (fun hc => ?_) <;> try (exfalso; simp only [cmpL] at hc; omega)) | refine AW_block ?_ | refine AW_skip ?_)) | (first | ((with_reducible refine gS ?_); refine Es_s (T := Tryz.tab) rfl rfl rfl rfl ?_) | ((with_reducible refine gD ?_); refine Ed_s (T := Tryz.tab) rfl rfl rfl rfl ?_)) | ((first | ((with_reducible refine gS ?_); apply Es_q) | ((with_reducible refine gD ?_); apply Ed_q)); rfl; rfl; (first | refine LStep_call (cn) rfl rfl rfl rfl | refine LStep_callR 11 cw rfl rfl rfl rfl ⟨.inl rfl, .inr ⟨rfl, rfl⟩, .inl rfl, trivial⟩ rfl | refine LStep_call (co) rfl rfl rfl rfl)) | ((first | ((with_reducible refine gS ?_); apply Es_xs) | ((with_reducible refine gD ?_); apply Ed_xs)); rfl; rfl; (refine LStep_append (T := Tryz.tab) rfl rfl rfl rfl rfl rfl rfl rfl rfl rfl ?_ ?_ ?_; rfl; (rw [List.length_map]; simp only [List.length_cons, List.length_nil]; omega); (unfold maxLen; rw [List.length_map]; simp only [List.length_cons, List.length_nil]; omega)); rfl) | ((first | ((with_reducible refine gS ?_); apply Es_q) | ((with_reducible refine gD ?_); apply Ed_q)); rfl; rfl; (first | refine LStep_lenM (T := Tryz.tab) rfl rfl rfl rfl | (refine LStep_indexM (T := Tryz.tab) (c := ?_) rfl rfl rfl rfl rfl rfl ?_; rotate_left; assumption) | (refine LStep_lit (T := Tryz.tab) rfl rfl rfl rfl rfl rfl rfl rfl ?_; (refine Nat.le_of_ble_eq_true ?_; rfl)))) | (with_reducible refine Es_nil ?_) | ((with_reducible refine Ed_nil ?_ ?_); kernel_rfl) | (with_reducible refine then_n ?_) | (with_reducible refine block_n ?_))
      all_goals first
        | (refine ⟨(M ++ [x], R'), ⟨hn1, hn2, hn3⟩, by dsimp only; omega, ?_, by (repeat' (first | exact trivial | exact rfl | (refine ⟨Or.inl rfl, ?_⟩) | (refine ⟨Or.inr rfl, ?_⟩) | (refine ⟨Or.inr trivial, ?_⟩) | (refine ⟨rfl, ?_⟩) | (refine ⟨?_, ?_⟩))), ?_, by (repeat' (first | exact trivial | exact rfl | (refine ⟨Or.inl rfl, ?_⟩) | (refine ⟨Or.inr rfl, ?_⟩) | (refine ⟨Or.inr trivial, ?_⟩) | (refine ⟨rfl, ?_⟩) | (refine ⟨?_, ?_⟩)))⟩
           · dsimp only; rw [hM2]; (repeat' (first | exact trivial | exact rfl | (refine ⟨Or.inl rfl, ?_⟩) | (refine ⟨Or.inr rfl, ?_⟩) | (refine ⟨Or.inr trivial, ?_⟩) | (refine ⟨rfl, ?_⟩) | (refine ⟨?_, ?_⟩)))
           · dsimp only; rw [hM2]; (repeat' (first | exact trivial | exact rfl | (refine ⟨Or.inl rfl, ?_⟩) | (refine ⟨Or.inr rfl, ?_⟩) | (refine ⟨Or.inr trivial, ?_⟩) | (refine ⟨rfl, ?_⟩) | (refine ⟨?_, ?_⟩))))
        | trace_state
    · have hr : rightE S l = putE S M x := by
        have : standE S l = putE S M x := by
          rw [hstd, h2, hnx, putAll_app, h1, if_pos rfl, putAll_cons, if_neg hE]
        unfold rightE
        rw [this, if_neg hE]
      rw [hr]
      have g2 : (!(eqb (putE S M x) 0)) = true := by rw [eqb_f.2 hE]; rfl
      generalize putE S M x = e at *
      clear hv h1 h2 h3 hnx
      repeat' (first | ((with_reducible refine gA ?_); (first | refine AW_seq ?_ | refine AW_region ?_ | refine AW_regionD Tryz.mixed ?_ | (refine AW_condY rfl ?_ ?_; assumption) | refine AW_block ?_ | refine AW_ret ?_ | refine AW_skip ?_)) | (first | ((with_reducible refine gS ?_); refine Es_s (T := Tryz.tab) rfl rfl rfl rfl ?_) | ((with_reducible refine gD ?_); refine Ed_s (T := Tryz.tab) rfl rfl rfl rfl ?_)) | ((first | ((with_reducible refine gS ?_); apply Es_q) | ((with_reducible refine gD ?_); apply Ed_q)); rfl; rfl; (first | refine LStep_call (cn) rfl rfl rfl rfl | refine LStep_callR 11 cw rfl rfl rfl rfl ⟨.inl rfl, .inr ⟨rfl, rfl⟩, .inl rfl, trivial⟩ rfl)) | ((first | ((with_reducible refine gS ?_); apply Es_q) | ((with_reducible refine gD ?_); apply Ed_q)); rfl; rfl; (first | refine LStep_lenM (T := Tryz.tab) rfl rfl rfl rfl | (refine LStep_indexM (T := Tryz.tab) (c := ?_) rfl rfl rfl rfl rfl rfl ?_; rotate_left; assumption))) | (with_reducible refine Es_nil ?_) | ((with_reducible refine Ed_nil ?_ ?_); kernel_rfl) | (with_reducible refine then_n ?_) | (with_reducible refine then_r ?_) | (with_reducible refine block_r ?_) | ((with_reducible refine gR ?_); first | refine ret1 rfl ?_ | refine ret2 rfl rfl ?_ | refine ret0 ?_ | refine end1 rfl ?_ | refine end0 ?_))
      all_goals first
        | rfl
        | trace_state
  · have hR : R = [] := List.eq_nil_of_length_eq_zero (by omega)
    subst hR
    have g1 : ltb 0 (([] : List Load).length : Nat) = false := by rw [ltb_f]; simp
    have h2 : isL ltP l = M := by rw [h2]; show M ++ [] = M; rw [List.append_nil]
    have hst : standE S l = 0 := by rw [hstd, h2, h1]
    rw [List.append_nil] at h3
    have hr : rightE S l = safeE S M := by
      unfold rightE
      rw [if_pos hst, safeE_perm h3]
    have cs := rSafe_ac S M hs (by omega)
    rw [hr]
    generalize safeE S M = v at *
    repeat' (first | ((with_reducible refine gA ?_); (first | refine AW_seq ?_ | refine AW_region ?_ | (refine AW_condN rfl ?_ ?_; assumption) | refine AW_ret ?_ | refine AW_exit ?_)) | ((with_reducible refine gS ?_); refine Es_s (T := Tryz.tab) rfl rfl rfl rfl ?_) | (((with_reducible refine gS ?_); apply Es_q); rfl; rfl; refine LStep_callR 11 cs rfl rfl rfl rfl ⟨.inl rfl, .inr ⟨rfl, rfl⟩, trivial⟩ rfl) | (((with_reducible refine gS ?_); apply Es_q); rfl; rfl; refine LStep_lenM (T := Tryz.tab) rfl rfl rfl rfl) | (with_reducible refine Es_nil ?_) | (with_reducible refine then_n ?_) | (with_reducible refine then_e ?_) | ((with_reducible refine block_e ?_ ?_); rfl) | ((with_reducible refine gR ?_); first | refine ret1 rfl ?_ | refine ret2 rfl rfl ?_ | refine ret0 ?_ | refine end1 rfl ?_ | refine end0 ?_))
    all_goals first
      | rfl
      | trace_state
end Go.Proofs.YtjlblnplofgpnaaGreatDoor
namespace Go.Proofs.YtjlblnplofgpnaaGreatDoor
open Go.SL
/-! ### what stays -/
/-! #### the document's Left -/
end Go.Proofs.YtjlblnplofgpnaaGreatDoor
namespace Go.Proofs.YtjlblnplofgpnaaGreatDoor
open Go.SL
/-! ### Unload, Moves -/
/-! #### the document's Moves, Few, Texts -/
def fewOne (x : Load) : Bool := decide (x.box.size ≤ 60)
def fewL (l : List Load) : Bool := decide (l.length ≤ 13) && l.all fewOne
def fewS (S : Ship) : Bool := decide (S.nm.size ≤ 60) && (decide (32 < S.bays) || decide (32 < S.rows) || decide (32 < S.tiers) || decide (S.bays < 1) || decide (S.rows < 1) || decide (S.tiers < 1) || decide (S.bays * S.rows * S.tiers ≤ 64))
theorem few_step {l : List Load} {k : Nat} {x : Load} (hx : l[k]? = some x) (ha : (l.take k).all fewOne = true) : (fewOne x = false → l.all fewOne = false) ∧ (fewOne x = true → (l.take (k + 1)).all fewOne = true) := by
  refine ⟨fun h => ?_, fun h => ?_⟩
  · rw [List.all_eq_false]
    exact ⟨x, List.mem_of_getElem? hx, by rw [h]; decide⟩
  · rw [take_at hx, List.all_append, ha]
    simp [h]
theorem prod_in {a b : Int} (ha : 1 ≤ a ∧ a ≤ 32) (hb : 1 ≤ b ∧ b ≤ 1024) : 1 ≤ a * b ∧ a * b ≤ 32768 := by
  have h1 : 1 * 1 ≤ a * b := Int.mul_le_mul (by omega) (by omega) (by omega) (by omega)
  have h2 : a * b ≤ 32 * 1024 := Int.mul_le_mul (by omega) (by omega) (by omega) (by omega)
  omega
theorem prod_in2 {a b : Int} (ha : 1 ≤ a ∧ a ≤ 32) (hb : 1 ≤ b ∧ b ≤ 32) : 1 ≤ a * b ∧ a * b ≤ 1024 := by
  have h1 : 1 * 1 ≤ a * b := Int.mul_le_mul (by omega) (by omega) (by omega) (by omega)
  have h2 : a * b ≤ 32 * 32 := Int.mul_le_mul (by omega) (by omega) (by omega) (by omega)
  omega
set_option maxRecDepth 10000 in
set_option maxHeartbeats 8000000 in
theorem rFew_ac (S : Ship) (l : List Load) (hl : l.length ≤ 140737488351232) : AC Tryz.prog 12 [.agg S.cs, .d (.sl 7 (l.map Load.enc))] [] [] (fun r _ => r = .d (.sc (.bool (fewL l && fewS S)))) := by
  refine AC_enter Tryz.func12 rfl Tryz.ntmps12 (rv := [.tmp 4]) rfl rfl (by simp) (fun w X G => ?_)
  repeat' (first | ((with_reducible refine gA ?_); (first | refine AW_seq ?_ | refine AW_region ?_ | refine AW_block ?_)) | ((with_reducible refine gS ?_); refine Es_s (T := Tryz.tab) rfl rfl rfl rfl ?_) | (refine Es_skip rfl ?_ rfl ?_; (first | rfl | (refine w_tf ?_; assumption) | (refine w_ft ?_; assumption))) | (((with_reducible refine gS ?_); apply Es_xs); rfl; rfl; refine LStep_boxN rfl rfl rfl rfl rfl rfl; rfl) | (with_reducible refine Es_nil ?_) | (with_reducible refine then_n ?_))
  refine AW_forE (S := Nat) (fun k => k ≤ l.length ∧ k ≤ 13 ∧ (l.take k).all fewOne = true) (fun k => [(5, .d (.sc (.int .i64 (k : Nat))))]) (fun _ => []) (fun k => l.length - k) 0 ⟨by omega, by omega, rfl⟩ (by (repeat' (first | exact trivial | exact rfl | (refine ⟨Or.inl rfl, ?_⟩) | (refine ⟨Or.inr rfl, ?_⟩) | (refine ⟨Or.inr trivial, ?_⟩) | (refine ⟨rfl, ?_⟩) | (refine ⟨?_, ?_⟩)))) (by (repeat' (first | exact trivial | exact rfl | (refine ⟨Or.inl rfl, ?_⟩) | (refine ⟨Or.inr rfl, ?_⟩) | (refine ⟨Or.inr trivial, ?_⟩) | (refine ⟨rfl, ?_⟩) | (refine ⟨?_, ?_⟩)))) ?_
  intro k ⟨hk, hk13, ha⟩
  by_cases hlt : k < l.length
  · obtain ⟨x, hx, _⟩ := drop_at hlt
    obtain ⟨m1, m2⟩ := few_step hx ha
    have g1 : ltb (k : Nat) (l.length : Nat) = true := by rw [ltb_t]; omega
    by_cases h13 : k = 13
    · have hf : fewL l = false := by unfold fewL; rw [decide_eq_false (by omega)]; rfl
      have g2 : ltb 12 (k : Nat) = true := by rw [ltb_t]; omega
      rw [hf, Bool.false_and]
      repeat' (first | ((with_reducible refine gA ?_); (first | refine AW_seq ?_ | refine AW_region ?_ | refine AW_condT rfl ?_ | (refine AW_condY rfl ?_ ?_; assumption) | refine AW_block ?_ | refine AW_ret ?_ | refine AW_skip ?_)) | ((with_reducible refine gS ?_); refine Es_s (T := Tryz.tab) rfl rfl rfl rfl ?_) | (((with_reducible refine gS ?_); apply Es_q); rfl; rfl; (first | refine LStep_lenM (T := Tryz.tab) rfl rfl rfl rfl | (refine LStep_pickT rfl rfl ?_ rfl rfl; assumption))) | (refine Es_skip rfl ?_ rfl ?_; (first | rfl | (refine w_tf ?_; assumption) | (refine w_ft ?_; assumption))) | (with_reducible refine Es_nil ?_) | (with_reducible refine then_n ?_) | (with_reducible refine then_r ?_) | (with_reducible refine block_r ?_) | ((with_reducible refine gR ?_); first | refine ret1 rfl ?_ | refine ret2 rfl rfl ?_ | refine ret0 ?_ | refine end1 rfl ?_ | refine end0 ?_))
      all_goals first
        | rfl
        | trace_state
    · have g2 : ltb 12 (k : Nat) = false := by rw [ltb_f]; omega
      by_cases hb : x.box.size ≤ 60
      · have g3 : ltb 60 (x.box.size : Nat) = false := by rw [ltb_f]; omega
        repeat' (first | ((with_reducible refine gA ?_); (first | refine AW_seq ?_ | refine AW_region ?_ | (refine AW_condY rfl ?_ ?_; assumption) | (refine AW_condN rfl ?_ ?_; assumption) | refine AW_block ?_ | refine AW_skip ?_)) | ((with_reducible refine gS ?_); refine Es_s (T := Tryz.tab) rfl rfl rfl rfl ?_) | (((with_reducible refine gS ?_); apply Es_q); rfl; (first | rfl | (refine w_ff ?_; assumption)); (first | refine LStep_simp (T := Tryz.tab) rfl rfl | refine LStep_lenM (T := Tryz.tab) rfl rfl rfl rfl | (refine LStep_add rfl rfl rfl rfl ?_; (refine IntWalk.i64_in _ ?_; first | omega | (simp only [cmps] at *; omega))) | refine LStep_wrap (T := Tryz.tab) rfl rfl | (refine LStep_pickF rfl rfl ?_ rfl rfl; assumption) | (refine LStep_indexM (T := Tryz.tab) (c := ?_) rfl rfl rfl rfl rfl rfl ?_; rotate_left; assumption))) | (with_reducible refine Es_nil ?_) | (with_reducible refine then_n ?_) | (with_reducible refine block_n ?_))
        all_goals first
          | (refine ⟨k + 1, ⟨by omega, by omega, m2 (by unfold fewOne; rw [decide_eq_true hb])⟩, by omega, by (repeat' (first | exact trivial | exact rfl | (refine ⟨Or.inl rfl, ?_⟩) | (refine ⟨Or.inr rfl, ?_⟩) | (refine ⟨Or.inr trivial, ?_⟩) | (refine ⟨rfl, ?_⟩) | (refine ⟨?_, ?_⟩))), by (repeat' (first | exact trivial | exact rfl | (refine ⟨Or.inl rfl, ?_⟩) | (refine ⟨Or.inr rfl, ?_⟩) | (refine ⟨Or.inr trivial, ?_⟩) | (refine ⟨rfl, ?_⟩) | (refine ⟨?_, ?_⟩))), by (repeat' (first | exact trivial | exact rfl | (refine ⟨Or.inl rfl, ?_⟩) | (refine ⟨Or.inr rfl, ?_⟩) | (refine ⟨Or.inr trivial, ?_⟩) | (refine ⟨rfl, ?_⟩) | (refine ⟨?_, ?_⟩))), by (repeat' (first | exact trivial | exact rfl | (refine ⟨Or.inl rfl, ?_⟩) | (refine ⟨Or.inr rfl, ?_⟩) | (refine ⟨Or.inr trivial, ?_⟩) | (refine ⟨rfl, ?_⟩) | (refine ⟨?_, ?_⟩)))⟩; done)
          | trace_state
      · have g3 : ltb 60 (x.box.size : Nat) = true := by rw [ltb_t]; omega
        have hf : fewL l = false := by unfold fewL; rw [m1 (by unfold fewOne; rw [decide_eq_false hb]), Bool.and_false]
        rw [hf, Bool.false_and]
        repeat' (first | ((with_reducible refine gA ?_); (first | refine AW_seq ?_ | refine AW_region ?_ | (refine AW_condY rfl ?_ ?_; assumption) | refine AW_block ?_ | refine AW_ret ?_ | refine AW_skip ?_)) | ((with_reducible refine gS ?_); refine Es_s (T := Tryz.tab) rfl rfl rfl rfl ?_) | (((with_reducible refine gS ?_); apply Es_q); rfl; (first | rfl | (refine w_ff ?_; assumption)); (first | refine LStep_simp (T := Tryz.tab) rfl rfl | refine LStep_lenM (T := Tryz.tab) rfl rfl rfl rfl | refine LStep_wrap (T := Tryz.tab) rfl rfl | (refine LStep_pickF rfl rfl ?_ rfl rfl; assumption) | (refine LStep_indexM (T := Tryz.tab) (c := ?_) rfl rfl rfl rfl rfl rfl ?_; rotate_left; assumption))) | (with_reducible refine Es_nil ?_) | (with_reducible refine then_n ?_) | (with_reducible refine then_r ?_) | (with_reducible refine block_r ?_) | ((with_reducible refine gR ?_); first | refine ret1 rfl ?_ | refine ret2 rfl rfl ?_ | refine ret0 ?_ | refine end1 rfl ?_ | refine end0 ?_))
        all_goals first
          | rfl
          | trace_state
  · have : k = l.length := by omega
    subst this
    have g1 : ltb (l.length : Nat) (l.length : Nat) = false := by rw [ltb_f]; omega
    rw [List.take_length] at ha
    have hf : fewL l = true := by unfold fewL; rw [ha, decide_eq_true hk13]; rfl
    rw [hf, Bool.true_and]
    by_cases hi : (1 ≤ S.bays ∧ S.bays ≤ 32) ∧ (1 ≤ S.rows ∧ S.rows ≤ 32) ∧ (1 ≤ S.tiers ∧ S.tiers ≤ 32)
    · have p1 := prod_in2 hi.1 hi.2.1
      have p2 := prod_in hi.2.2 p1
      rw [Int.mul_comm] at p2
      unfold fewS
      rw [decide_eq_false (by omega : ¬ 32 < S.bays), decide_eq_false (by omega : ¬ 32 < S.rows), decide_eq_false (by omega : ¬ 32 < S.tiers), decide_eq_false (by omega : ¬ S.bays < 1), decide_eq_false (by omega : ¬ S.rows < 1), decide_eq_false (by omega : ¬ S.tiers < 1)]
      have q1 : ltb 32 S.bays = false := by rw [ltb_f]; omega
      have q2 : ltb 32 S.rows = false := by rw [ltb_f]; omega
      have q3 : ltb 32 S.tiers = false := by rw [ltb_f]; omega
      have q4 : ltb S.bays 1 = false := by rw [ltb_f]; omega
      have q5 : ltb S.rows 1 = false := by rw [ltb_f]; omega
      have q6 : ltb S.tiers 1 = false := by rw [ltb_f]; omega
      by_cases hn : S.nm.size ≤ 60
      · have q0 : leb (S.nm.size : Nat) 60 = true := by rw [leb_t]; omega
        rw [decide_eq_true hn]
        repeat' (first | ((with_reducible refine gA ?_); (first | refine AW_seq ?_ | refine AW_region ?_ | (refine AW_condN rfl ?_ ?_; assumption) | refine AW_ret ?_ | refine AW_exit ?_)) | ((with_reducible refine gS ?_); refine Es_s (T := Tryz.tab) rfl rfl rfl rfl ?_) | (((with_reducible refine gS ?_); apply Es_q); rfl; (first | rfl | (refine w_tt ?_; assumption) | (refine w_ff ?_; assumption)); (first | refine LStep_simp (T := Tryz.tab) rfl rfl | refine LStep_lenM (T := Tryz.tab) rfl rfl rfl rfl | (refine LStep_mul rfl rfl rfl rfl ?_; (refine IntWalk.i64_in _ ?_; first | omega | (simp only [cmps] at *; omega))) | refine LStep_wrap (T := Tryz.tab) rfl rfl | (refine LStep_pickT rfl rfl ?_ rfl rfl; assumption) | (refine LStep_pickF rfl rfl ?_ rfl rfl; assumption))) | (with_reducible refine Es_nil ?_) | (with_reducible refine then_n ?_) | (with_reducible refine then_e ?_) | ((with_reducible refine block_e ?_ ?_); rfl) | ((with_reducible refine gR ?_); first | refine ret1 rfl ?_ | refine ret2 rfl rfl ?_ | refine ret0 ?_ | refine end1 rfl ?_ | refine end0 ?_))
        all_goals first
          | (refine congrArg (fun b => AV.d (D.sc (Value.bool b))) ?_; rw [leb_d]; rfl)
          | trace_state
      · have q0 : leb (S.nm.size : Nat) 60 = false := by rw [leb_f]; omega
        rw [decide_eq_false hn]
        repeat' (first | ((with_reducible refine gA ?_); (first | refine AW_seq ?_ | refine AW_region ?_ | (refine AW_condN rfl ?_ ?_; assumption) | refine AW_ret ?_ | refine AW_exit ?_)) | ((with_reducible refine gS ?_); refine Es_s (T := Tryz.tab) rfl rfl rfl rfl ?_) | (((with_reducible refine gS ?_); apply Es_q); rfl; rfl; (first | refine LStep_lenM (T := Tryz.tab) rfl rfl rfl rfl | refine LStep_wrap (T := Tryz.tab) rfl rfl | (refine LStep_pickF rfl rfl ?_ rfl rfl; assumption))) | (refine Es_skip rfl ?_ rfl ?_; (first | rfl | (refine w_tf ?_; assumption) | (refine w_ft ?_; assumption))) | (with_reducible refine Es_nil ?_) | (with_reducible refine then_n ?_) | (with_reducible refine then_e ?_) | ((with_reducible refine block_e ?_ ?_); rfl) | ((with_reducible refine gR ?_); first | refine ret1 rfl ?_ | refine ret2 rfl rfl ?_ | refine ret0 ?_ | refine end1 rfl ?_ | refine end0 ?_))
        all_goals first
          | rfl
          | trace_state
    · have hfs : fewS S = decide (S.nm.size ≤ 60) := by
        unfold fewS
        have : (decide (32 < S.bays) || decide (32 < S.rows) || decide (32 < S.tiers) || decide (S.bays < 1) || decide (S.rows < 1) || decide (S.tiers < 1)) = true := by
          simp only [Bool.or_eq_true, decide_eq_true_eq]
          omega
        rw [this, Bool.true_or, Bool.and_true]
      rw [hfs]
      by_cases hn : S.nm.size ≤ 60
      · have q0 : leb (S.nm.size : Nat) 60 = true := by rw [leb_t]; omega
        rw [decide_eq_true hn]
        repeat' (first | ((with_reducible refine gA ?_); (first | refine AW_seq ?_ | refine AW_region ?_ | (refine AW_condN rfl ?_ ?_; assumption) | refine AW_ret ?_ | refine AW_exit ?_)) | ((with_reducible refine gS ?_); refine Es_s (T := Tryz.tab) rfl rfl rfl rfl ?_) | (((with_reducible refine gS ?_); apply Es_q); rfl; (first | rfl | (refine w_tt ?_; assumption) | (refine w_ff ?_; assumption)); (first | refine LStep_simp (T := Tryz.tab) rfl rfl | refine LStep_lenM (T := Tryz.tab) rfl rfl rfl rfl | (refine LStep_mul rfl rfl rfl rfl ?_; (refine IntWalk.i64_in _ ?_; first | omega | (simp only [cmps] at *; omega))) | refine LStep_wrap (T := Tryz.tab) rfl rfl | (refine LStep_pickT rfl rfl ?_ rfl rfl; assumption) | (refine LStep_pickF rfl rfl ?_ rfl rfl; assumption))) | (refine Es_skip rfl ?_ rfl ?_; (first | rfl | (refine w_tf ?_; assumption) | (refine w_ft ?_; assumption))) | (refine Es_split rfl ?_ (fun _ => ?_) (fun _ => ?_); ((fail_if_success (refine und_t ?_; assumption)); (fail_if_success (refine und_f ?_; assumption)); exact trivial)) | (with_reducible refine Es_nil ?_) | (with_reducible refine then_n ?_) | (with_reducible refine then_e ?_) | ((with_reducible refine block_e ?_ ?_); rfl) | ((with_reducible refine gR ?_); first | refine ret1 rfl ?_ | refine ret2 rfl rfl ?_ | refine ret0 ?_ | refine end1 rfl ?_ | refine end0 ?_))
        all_goals simp only [cmps] at *
        all_goals first
          | rfl
          | (exfalso; omega)
          | trace_state
      · have q0 : leb (S.nm.size : Nat) 60 = false := by rw [leb_f]; omega
        rw [decide_eq_false hn]
        repeat' (first | ((with_reducible refine gA ?_); (first | refine AW_seq ?_ | refine AW_region ?_ | (refine AW_condN rfl ?_ ?_; assumption) | refine AW_ret ?_ | refine AW_exit ?_)) | ((with_reducible refine gS ?_); refine Es_s (T := Tryz.tab) rfl rfl rfl rfl ?_) | (((with_reducible refine gS ?_); apply Es_q); rfl; rfl; (first | refine LStep_lenM (T := Tryz.tab) rfl rfl rfl rfl | refine LStep_wrap (T := Tryz.tab) rfl rfl | (refine LStep_pickF rfl rfl ?_ rfl rfl; assumption))) | (refine Es_skip rfl ?_ rfl ?_; (first | rfl | (refine w_tf ?_; assumption) | (refine w_ft ?_; assumption))) | (with_reducible refine Es_nil ?_) | (with_reducible refine then_n ?_) | (with_reducible refine then_e ?_) | ((with_reducible refine block_e ?_ ?_); rfl) | ((with_reducible refine gR ?_); first | refine ret1 rfl ?_ | refine ret2 rfl rfl ?_ | refine ret0 ?_ | refine end1 rfl ?_ | refine end0 ?_))
        all_goals first
          | rfl
          | trace_state
end Go.Proofs.YtjlblnplofgpnaaGreatDoor
