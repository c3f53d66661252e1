import Derived.Test.YtgikjdkdakfnkaaDoorAK
import Derived.Test.YtgikjdkdakfnkaaDoorAL
import Derived.Test.YtgikjdkdakfnkaaDoorAM
import Derived.Test.YtgikjdkdakfnkaaDoorAJ
import Derived.Test.YtgikjdkdakfnkaaDoorTf
import Derived.Test.YtgikjdkdakfnkaaDoorAC
namespace Go.Proofs.YtgikjdkdakfnkaaDoor
open Go.SL
/-! ### calls -/
structure BOp where
  k : Int
  l : Load
  bx : ByteArray
def BOp.enc (o : BOp) : List D := [.sc (.int .i64 o.k), .sc (.int .i64 o.l.sl.b), .sc (.int .i64 o.l.sl.r), .sc (.int .i64 o.l.sl.t), .sc (.string o.l.box), .sc (.int .i64 o.l.w), .sc (.int .i64 o.l.c), .sc (.int .i64 o.l.p), .sc (.string o.bx)]
def fatO (o : BOp) : Bool := decide (120 < o.bx.size + o.l.box.size)
def longL (l : List BOp) : Bool := l.any fatO || decide (60 < l.length)
theorem longL_f {l : List BOp} (h : longL l = false) : (∀ o ∈ l, o.bx.size + o.l.box.size ≤ 120) ∧ l.length ≤ 60 := by
  unfold longL at h
  rw [Bool.or_eq_false_iff, List.any_eq_false, decide_eq_false_iff_not] at h
  refine ⟨fun o ho => ?_, by omega⟩
  have := h.1 o ho
  unfold fatO at this
  rw [decide_eq_true_eq] at this
  omega
set_option maxRecDepth 10000 in
set_option maxHeartbeats 2000000 in
theorem long_ac (l : List BOp) (hl : l.length ≤ 140737488351232) (hs : ∀ o ∈ l, o.bx.size ≤ 140737488351232 ∧ o.l.box.size ≤ 140737488351232) : AC Tryd.prog 9 [.d (.sl 9 (l.map BOp.enc))] [] [] (fun r _ => r = .d (.sc (.bool (longL l)))) := by
  refine AC_enter Tryd.func9 rfl Tryd.ntmps9 (rv := [.tmp 2]) rfl rfl (by simp) (fun w X G => ?_)
  repeat' (first | ((with_reducible refine gA ?_); (first | refine AW_seq ?_ | refine AW_region ?_ | refine AW_block ?_)) | ((with_reducible refine gS ?_); refine Es_s (T := Tryd.tab) rfl rfl rfl rfl ?_) | (((with_reducible refine gS ?_); apply Es_q); rfl; rfl; refine LStep_lenM (T := Tryd.tab) rfl rfl rfl rfl) | (with_reducible refine Es_nil ?_) | (with_reducible refine then_n ?_))
  refine AW_forE (S := Nat) (fun k => k ≤ l.length ∧ (l.take k).any fatO = false) (fun k => [(7, .d (.sc (.int .i64 (k : Nat))))]) (fun _ => []) (fun k => l.length - k) 0 ⟨by omega, rfl⟩ (by (repeat' (first | exact trivial | exact rfl | (refine ⟨Or.inl rfl, ?_⟩) | (refine ⟨Or.inr rfl, ?_⟩) | (refine ⟨Or.inr trivial, ?_⟩) | (refine ⟨rfl, ?_⟩) | (refine ⟨?_, ?_⟩)))) (by (repeat' (first | exact trivial | exact rfl | (refine ⟨Or.inl rfl, ?_⟩) | (refine ⟨Or.inr rfl, ?_⟩) | (refine ⟨Or.inr trivial, ?_⟩) | (refine ⟨rfl, ?_⟩) | (refine ⟨?_, ?_⟩)))) ?_
  intro k ⟨hk, hf⟩
  by_cases hlt : k < l.length
  · obtain ⟨o, ho, _⟩ := drop_at hlt
    have hq := hs o (List.mem_of_getElem? ho)
    obtain ⟨hy, hn⟩ := any_takeB (f := fatO) ho hf
    repeat' (first | ((with_reducible refine gA ?_); (first | refine AW_seq ?_ | refine AW_region ?_ | (refine AW_cond rfl (fun hc => ?_) (fun hc => ?_) <;> try (exfalso; simp only [cmpL] at hc; omega)) | refine AW_block ?_ | refine AW_ret ?_ | refine AW_skip ?_)) | ((with_reducible refine gS ?_); refine Es_s (T := Tryd.tab) rfl rfl rfl rfl ?_) | (((with_reducible refine gS ?_); apply Es_q); rfl; rfl; (first | (refine LStep_add rfl rfl rfl rfl ?_; (refine IntWalk.i64_in _ ?_; first | omega | (simp only [cmps] at *; omega))) | refine LStep_wrap (T := Tryd.tab) rfl rfl | (refine LStep_indexM (T := Tryd.tab) (c := ?_) rfl rfl rfl rfl rfl rfl ?_; rotate_left; assumption))) | (refine Es_skip rfl ?_ rfl ?_; (first | rfl | (refine w_tf ?_; assumption) | (refine w_ft ?_; assumption))) | (((with_reducible refine gS ?_); apply Es_xs); rfl; rfl; refine LStep_allocN (T := Tryd.tab) rfl rfl rfl rfl rfl rfl; rfl) | (((with_reducible refine gS ?_); apply Es_xn); rfl; rfl; (refine LStep_storeN (T := Tryd.tab) rfl rfl rfl rfl rfl rfl rfl ?_ rfl; (refine Nat.le_of_ble_eq_true ?_; rfl)); rfl) | (with_reducible refine Es_nil ?_) | (with_reducible refine then_n ?_) | (with_reducible refine then_r ?_) | (with_reducible refine block_n ?_) | (with_reducible refine block_r ?_) | ((with_reducible refine gR ?_); first | refine ret1 rfl ?_ | refine ret2 rfl rfl ?_ | refine ret0 ?_ | refine end1 rfl ?_ | refine end0 ?_))
    all_goals simp only [cmps] at *
    all_goals first
      | (exfalso; omega)
      | (have hq : fatO o = true := by unfold fatO; rw [decide_eq_true_eq]; omega
         have h9 : l.any fatO = true := hn hq
         refine congrArg (fun b => AV.d (D.sc (Value.bool b))) ?_; unfold longL; rw [h9]; rfl)
      | (have hq : fatO o = false := by unfold fatO; rw [decide_eq_false_iff_not]; omega
         refine ⟨k + 1, ?_, by omega, by (repeat' (first | exact trivial | exact rfl | (refine ⟨Or.inl rfl, ?_⟩) | (refine ⟨Or.inr rfl, ?_⟩) | (refine ⟨Or.inr trivial, ?_⟩) | (refine ⟨rfl, ?_⟩) | (refine ⟨?_, ?_⟩))), by (repeat' (first | exact trivial | exact rfl | (refine ⟨Or.inl rfl, ?_⟩) | (refine ⟨Or.inr rfl, ?_⟩) | (refine ⟨Or.inr trivial, ?_⟩) | (refine ⟨rfl, ?_⟩) | (refine ⟨?_, ?_⟩))), by (repeat' (first | exact trivial | exact rfl | (refine ⟨Or.inl rfl, ?_⟩) | (refine ⟨Or.inr rfl, ?_⟩) | (refine ⟨Or.inr trivial, ?_⟩) | (refine ⟨rfl, ?_⟩) | (refine ⟨?_, ?_⟩))), by (repeat' (first | exact trivial | exact rfl | (refine ⟨Or.inl rfl, ?_⟩) | (refine ⟨Or.inr rfl, ?_⟩) | (refine ⟨Or.inr trivial, ?_⟩) | (refine ⟨rfl, ?_⟩) | (refine ⟨?_, ?_⟩)))⟩; exact ⟨by omega, hy hq⟩)
      | trace_state
  · have : k = l.length := by omega
    subst this
    rw [List.take_length] at hf
    repeat' (first | ((with_reducible refine gA ?_); (first | refine AW_seq ?_ | refine AW_region ?_ | (refine AW_cond rfl (fun hc => ?_) (fun hc => ?_) <;> try (exfalso; simp only [cmpL] at hc; omega)) | refine AW_ret ?_ | refine AW_exit ?_)) | ((with_reducible refine gS ?_); refine Es_s (T := Tryd.tab) rfl rfl rfl rfl ?_) | (((with_reducible refine gS ?_); apply Es_q); rfl; rfl; refine LStep_lenM (T := Tryd.tab) rfl rfl rfl rfl) | (with_reducible refine Es_nil ?_) | (with_reducible refine then_n ?_) | (with_reducible refine then_e ?_) | ((with_reducible refine block_e ?_ ?_); rfl) | ((with_reducible refine gR ?_); first | refine ret1 rfl ?_ | refine ret2 rfl rfl ?_ | refine ret0 ?_ | refine end1 rfl ?_ | refine end0 ?_))
    all_goals first
      | (refine congrArg (fun b => AV.d (D.sc (Value.bool b))) ?_; unfold longL; rw [hf, Bool.false_or, ltb_d]; simp; done)
      | (refine congrArg (fun b => AV.d (D.sc (Value.bool b))) ?_; unfold longL; rw [hf, Bool.false_or, ltb_d, decide_eq_decide]; omega)
      | trace_state
theorem inv0 {S : Ship} (h : 0 ≤ S.stack ∧ 0 ≤ S.most) : Inv2 S [] := by
  refine ⟨⟨List.nodup_nil, List.nodup_nil, ?_, ?_, ?_⟩, ?_, ?_, ?_, ?_⟩
  · intro x hx; cases hx
  · intro x hx; cases hx
  · intro x hx; cases hx
  · intro b r; exact h.1
  · exact h.2
  · intro x hx; cases hx
  · intro x hx; cases hx
def aS : Ship := ⟨⟨#[115]⟩, 1, 1, 3, 100, 0, 0, 0, 100⟩
def aA : Load := ⟨⟨0, 0, 0⟩, ⟨#[97]⟩, 4, 0, 1⟩
def aB : Load := ⟨⟨0, 0, 1⟩, ⟨#[98]⟩, 5, 0, 0⟩
def aC : Load := ⟨⟨0, 0, 1⟩, ⟨#[99]⟩, 4, 0, 2⟩
theorem a_ship : shipOk aS = true := by kernel_rfl
theorem a_1 : putE aS [] aA = 0 := by kernel_rfl
theorem a_2 : putE aS [aA] aB = 6 := by kernel_rfl
theorem a_3 : putE aS [aA] aC = 0 := by kernel_rfl
theorem a_4 : rowsSum (fun b => rowsSum (fun r => cntF 1 false (stackL [aA, aC] b r)) 1) 1 = 1 := by kernel_rfl
set_option maxRecDepth 10000 in
set_option maxHeartbeats 4000000 in
theorem awake_ac : AC Tryd.prog 10 [] [hG] [9000] (fun r h' => r = .d (.sc (.bool true)) ∧ SubH [hG] h') := by
  have i0 : Inv2 aS [] := inv0 (by decide)
  have i1 : Inv2 aS [aA] := put_inv i0 a_1
  have cn := newOk_ac aS a_ship
  have c1 := put_ac aS [] aA i0 a_ship (by decide)
  have c2 := put_ac aS [aA] aB i1 a_ship (by decide)
  have c3 := put_ac aS [aA] aC i1 a_ship (by decide)
  have c4 := over_ac aS [aA, aC] 1 1 1 rfl rfl (by omega) (by omega)
  have e1 : putL aS [] aA = [aA] := by unfold putL; rw [a_1]; rfl
  have e2 : putL aS [aA] aB = [aA] := by unfold putL; rw [a_2]; rfl
  have e3 : putL aS [aA] aC = [aA, aC] := by unfold putL; rw [a_3]; rfl
  rw [a_1, e1] at c1
  rw [a_2, e2] at c2
  rw [a_3, e3] at c3
  rw [a_4] at c4
  generalize hL2 : [aA, aC] = L2 at *
  generalize hL1 : [aA] = L1 at *
  refine AC_enter Tryd.func10 rfl Tryd.ntmps10 (rv := [.tmp 0]) rfl rfl (by simp) (fun w X G => ?_)
  repeat' (first | ((with_reducible refine gA ?_); (first | refine AW_seq ?_ | refine AW_region ?_ | refine AW_condT rfl ?_ | refine AW_condF rfl ?_ | refine AW_ret ?_ | refine AW_skip ?_)) | ((with_reducible refine gS ?_); refine Es_s (T := Tryd.tab) rfl rfl rfl rfl ?_) | (((with_reducible refine gS ?_); apply Es_q); rfl; (first | rfl | (refine w_tt ?_; assumption) | (refine w_ff ?_; assumption)); refine LStep_eqNilP (T := Tryd.tab) rfl rfl rfl rfl) | (((with_reducible refine gS ?_); apply Es_xg); rfl; (first | rfl | (refine w_tt ?_; assumption) | (refine w_ff ?_; assumption)); (first | refine LStep_callHN [] [(11, 8), (8, 801), (9, 802)] cn rfl rfl trivial rfl trivial rfl rfl | refine LStep_callHN [(1000, 8), (1001, 801), (1002, 802)] [] c1 rfl rfl ⟨rfl, rfl, rfl, rfl, trivial⟩ rfl ⟨trivial, trivial, trivial, trivial, trivial⟩ rfl rfl | refine LStep_callHN [(1000, 8), (1001, 801), (1002, 802)] [] c2 rfl rfl ⟨rfl, rfl, rfl, rfl, trivial⟩ rfl ⟨trivial, trivial, trivial, trivial, trivial⟩ rfl rfl | refine LStep_callHN [(1000, 8), (1001, 801), (1002, 802)] [] c3 rfl rfl ⟨rfl, rfl, rfl, rfl, trivial⟩ rfl ⟨trivial, trivial, trivial, trivial, trivial⟩ rfl rfl | refine LStep_callHN [(1000, 8), (1001, 801), (1002, 802)] [] c4 rfl rfl ⟨rfl, rfl, rfl, trivial⟩ rfl ⟨trivial, trivial, trivial, trivial⟩ rfl rfl); rfl) | (((with_reducible refine gS ?_); apply Es_q); rfl; (first | rfl | (refine w_tt ?_; assumption) | (refine w_ff ?_; assumption)); (first | refine LStep_simp (T := Tryd.tab) rfl rfl | (refine LStep_pickT rfl rfl ?_ rfl rfl; assumption) | (refine LStep_pickF rfl rfl ?_ rfl rfl; assumption) | refine LStep_buildN (T := Tryd.tab) rfl rfl rfl rfl rfl rfl rfl)) | (refine Es_skip rfl ?_ rfl ?_; (first | rfl | (refine w_tf ?_; assumption) | (refine w_ft ?_; assumption))) | (refine Es_split rfl ?_ (fun _ => ?_) (fun _ => ?_); ((fail_if_success (refine und_t ?_; assumption)); (fail_if_success (refine und_f ?_; assumption)); exact trivial)) | (with_reducible refine Es_nil ?_) | (with_reducible refine then_n ?_) | (with_reducible refine then_r ?_) | ((with_reducible refine gR ?_); first | refine ret1 rfl ?_ | refine ret2 rfl rfl ?_ | refine ret0 ?_ | refine end1 rfl ?_ | refine end0 ?_))
  all_goals first
    | exact ⟨rfl, by (repeat' (first | exact trivial | exact rfl | (refine ⟨Or.inl rfl, ?_⟩) | (refine ⟨Or.inr rfl, ?_⟩) | (refine ⟨Or.inr trivial, ?_⟩) | (refine ⟨rfl, ?_⟩) | (refine ⟨?_, ?_⟩)))⟩
    | (exfalso; simp [eqb] at *; done)
    | (refine ⟨?_, by (repeat' (first | exact trivial | exact rfl | (refine ⟨Or.inl rfl, ?_⟩) | (refine ⟨Or.inr rfl, ?_⟩) | (refine ⟨Or.inr trivial, ?_⟩) | (refine ⟨rfl, ?_⟩) | (refine ⟨?_, ?_⟩)))⟩; refine congrArg (fun b => AV.d (D.sc (Value.bool b))) ?_; simp [eqb]; done)
    | trace_state
end Go.Proofs.YtgikjdkdakfnkaaDoor
namespace Go.Proofs.YtgikjdkdakfnkaaDoor
open Go.SL
/-! ### a hold and the document's row -/
theorem load_self (x : Load) : x.eqB x = true := by rw [load_eqB, decide_eq_true_eq]
theorem ship_in {S : Ship} (hS : shipOk S = true) : (1 ≤ S.bays ∧ S.bays ≤ 32) ∧ (1 ≤ S.rows ∧ S.rows ≤ 32) ∧ (1 ≤ S.tiers ∧ S.tiers ≤ 32) ∧ (0 ≤ S.stack ∧ S.stack ≤ 1048576) ∧ (0 ≤ S.most ∧ S.most ≤ 1048576) := by
  simp only [shipOk, Bool.and_eq_true, frB_t] at hS
  omega
theorem load_in {S : Ship} {L : List Load} (hv : Inv S L) : ∀ y ∈ L, 0 ≤ y.w ∧ y.w ≤ 1048576 := fun y hy => by have := hv.ok y hy; omega
set_option maxRecDepth 10000 in
set_option maxHeartbeats 4000000 in
theorem like_ac (S : Ship) (L D : List Load) (hD : DocB L D) (hv : Inv2 S L) (hS : shipOk S = true) (hl : L.length ≤ 1048576) : AC Tryd.prog 30 [.ptr 1000 0, .agg S.cs, .d (.sl 7 (D.map Load.enc))] (hB S L) [1000, 1001, 1002] (fun r h' => r = .d (.sc (.bool true)) ∧ SubH (hB S L) h') := by
  have hi := ship_in hS
  have hlen : D.length ≤ 1048576 := by rw [hD.perm.length_eq]; exact hl
  have c1 := loads_ac S L D hD hv.nS hl
  have c2 := rSame_ac D D (by omega)
  have hdd : llE D D = true := by rw [llE_eq, decide_eq_true_eq]
  rw [hdd] at c2
  refine AC_enter Tryd.func30 rfl Tryd.ntmps30 (rv := [.tmp 6]) rfl rfl (by simp) (fun w X G => ?_)
  repeat' (first | ((with_reducible refine gA ?_); (first | refine AW_seq ?_ | refine AW_region ?_ | refine AW_condF rfl ?_ | refine AW_block ?_ | refine AW_skip ?_)) | ((with_reducible refine gS ?_); refine Es_s (T := Tryd.tab) rfl rfl rfl rfl ?_) | (((with_reducible refine gS ?_); apply Es_q); rfl; rfl; refine LStep_call (c2) rfl rfl rfl rfl) | (((with_reducible refine gS ?_); apply Es_xg); rfl; rfl; refine LStep_callHN [] [] c1 rfl rfl ⟨rfl, rfl, rfl, trivial⟩ rfl ⟨trivial, trivial, trivial, trivial⟩ rfl rfl; rfl) | (((with_reducible refine gS ?_); apply Es_q); rfl; rfl; refine LStep_lenM (T := Tryd.tab) rfl rfl rfl rfl) | (refine Es_skip rfl ?_ rfl ?_; (first | rfl | (refine w_tf ?_; assumption) | (refine w_ft ?_; assumption))) | (((with_reducible refine gS ?_); apply Es_xs); rfl; rfl; refine LStep_boxN rfl rfl rfl rfl rfl rfl; rfl) | (with_reducible refine Es_nil ?_) | (with_reducible refine then_n ?_))
  clear c1 c2
  refine AW_forE (S := Nat) (fun k => k ≤ D.length) (fun k => [(20, .d (.sc (.int .i64 (k : Nat))))]) (fun _ => []) (fun k => D.length - k) 0 (by omega) (by (repeat' (first | exact trivial | exact rfl | (refine ⟨Or.inl rfl, ?_⟩) | (refine ⟨Or.inr rfl, ?_⟩) | (refine ⟨Or.inr trivial, ?_⟩) | (refine ⟨rfl, ?_⟩) | (refine ⟨?_, ?_⟩)))) (by (repeat' (first | exact trivial | exact rfl | (refine ⟨Or.inl rfl, ?_⟩) | (refine ⟨Or.inr rfl, ?_⟩) | (refine ⟨Or.inr trivial, ?_⟩) | (refine ⟨rfl, ?_⟩) | (refine ⟨?_, ?_⟩)))) ?_
  intro k hk
  by_cases hlt : k < D.length
  · obtain ⟨x, hx, _⟩ := drop_at hlt
    have hxL : x ∈ L := hD.perm.mem_iff.1 (List.mem_of_getElem? hx)
    have q1 := (atS_some hv.nS).2 ⟨hxL, rfl⟩
    have q2 := (byB_some hv.nB).2 ⟨hxL, rfl⟩
    have c3 := at_ac S L x.sl
    have c4 := find_ac S L x.box
    rw [q1] at c3
    rw [q2] at c4
    have hw := load_in hv.toInv
    have c5 : AC Tryd.prog 21 [.ptr 1000 0, .d (.sc (.int .i64 x.sl.b)), .d (.sc (.int .i64 x.sl.r))] (hB S L) [1000, 1001, 1002] (fun v h' => v = .d (.sc (.int .i64 (wsum (stackL L x.sl.b x.sl.r)))) ∧ Kp (hB S L) h') := (Stack_ac S L x.sl.b x.sl.r (fun y hy => hw y (stack_sub hv.nS hy))).mono (fun _ _ h => ⟨h.1, Kp.sub h.2⟩)
    rw [stack_w hv.toInv (by omega)] at c5
    have c6 := rStack_ac D x.sl.b x.sl.r hlen (fun y hy => hw y (hD.perm.mem_iff.1 hy))
    rw [stW_perm hD.perm] at c6
    generalize stW L x.sl.b x.sl.r = v at c5 c6
    have hxx : (!(x.eqB x)) = false := by rw [load_self]; rfl
    have hvv : (!(eqb v v)) = false := by rw [eqb_t.2 rfl]; rfl
    clear q1 q2 hw hi hS hdd
    repeat' (first | ((with_reducible refine gA ?_); (first | refine AW_seq ?_ | refine AW_region ?_ | refine AW_regionD Tryd.mixed ?_ | (refine AW_condN rfl ?_ ?_; assumption) | (refine AW_cond rfl (fun hc => ?_) (fun hc => ?_) <;> try (exfalso; simp only [cmpL] at hc; omega)) | refine AW_block ?_ | refine AW_skip ?_)) | (first | ((with_reducible refine gS ?_); refine Es_s (T := Tryd.tab) rfl rfl rfl rfl ?_) | ((with_reducible refine gD ?_); refine Ed_s (T := Tryd.tab) rfl rfl rfl rfl ?_)) | ((first | ((with_reducible refine gS ?_); apply Es_q) | ((with_reducible refine gD ?_); apply Ed_q)); rfl; (first | rfl | (refine w_ff ?_; assumption)); (first | refine LStep_neqAgg (T := Tryd.tab) eqS_load eqG_load (by omega) rfl rfl rfl rfl rfl rfl | refine LStep_callB c5 rfl rfl ⟨rfl, rfl, rfl, trivial⟩ rfl rfl | refine LStep_call (c6) rfl rfl rfl rfl)) | ((first | ((with_reducible refine gS ?_); apply Es_xg) | ((with_reducible refine gD ?_); apply Ed_xg)); rfl; (first | rfl | (refine w_ff ?_; assumption)); (first | refine LStep_callHN [] [] c3 rfl rfl ⟨rfl, rfl, rfl, trivial⟩ rfl ⟨trivial, trivial, trivial, trivial⟩ rfl rfl | refine LStep_callHN [] [] c4 rfl rfl ⟨rfl, rfl, rfl, trivial⟩ rfl ⟨trivial, trivial, trivial, trivial⟩ rfl rfl); rfl) | ((first | ((with_reducible refine gS ?_); apply Es_q) | ((with_reducible refine gD ?_); apply Ed_q)); rfl; (first | rfl | (refine w_ff ?_; assumption)); (first | refine LStep_simp (T := Tryd.tab) rfl rfl | (refine LStep_add rfl rfl rfl rfl ?_; (refine IntWalk.i64_in _ ?_; first | omega | (simp only [cmps] at *; omega))) | (refine LStep_pickF rfl rfl ?_ rfl rfl; assumption) | (refine LStep_indexM (T := Tryd.tab) (c := ?_) rfl rfl rfl rfl rfl rfl ?_; rotate_left; assumption))) | (refine Es_skip rfl ?_ rfl ?_; (first | rfl | (refine w_tf ?_; assumption) | (refine w_ft ?_; assumption))) | (((with_reducible refine gS ?_); apply Es_xs); rfl; rfl; refine LStep_allocN (T := Tryd.tab) rfl rfl rfl rfl rfl rfl; rfl) | (((with_reducible refine gS ?_); apply Es_xn); rfl; rfl; (refine LStep_storeN (T := Tryd.tab) rfl rfl rfl rfl rfl rfl rfl ?_ rfl; (refine Nat.le_of_ble_eq_true ?_; rfl)); rfl) | (with_reducible refine Es_nil ?_) | ((with_reducible refine Ed_nil ?_ ?_); kernel_rfl) | (with_reducible refine then_n ?_) | (with_reducible refine block_n ?_))
    all_goals first
      | (refine ⟨k + 1, by omega, by omega, by (repeat' (first | exact trivial | exact rfl | (refine ⟨Or.inl rfl, ?_⟩) | (refine ⟨Or.inr rfl, ?_⟩) | (refine ⟨Or.inr trivial, ?_⟩) | (refine ⟨rfl, ?_⟩) | (refine ⟨?_, ?_⟩))), by (repeat' (first | exact trivial | exact rfl | (refine ⟨Or.inl rfl, ?_⟩) | (refine ⟨Or.inr rfl, ?_⟩) | (refine ⟨Or.inr trivial, ?_⟩) | (refine ⟨rfl, ?_⟩) | (refine ⟨?_, ?_⟩))), by (repeat' (first | exact trivial | exact rfl | (refine ⟨Or.inl rfl, ?_⟩) | (refine ⟨Or.inr rfl, ?_⟩) | (refine ⟨Or.inr trivial, ?_⟩) | (refine ⟨rfl, ?_⟩) | (refine ⟨?_, ?_⟩))), by (repeat' (first | exact trivial | exact rfl | (refine ⟨Or.inl rfl, ?_⟩) | (refine ⟨Or.inr rfl, ?_⟩) | (refine ⟨Or.inr trivial, ?_⟩) | (refine ⟨rfl, ?_⟩) | (refine ⟨?_, ?_⟩)))⟩; done)
      | trace_state
  · have : k = D.length := by omega
    subst this
    repeat' (first | ((with_reducible refine gA ?_); (first | refine AW_seq ?_ | refine AW_region ?_ | (refine AW_cond rfl (fun hc => ?_) (fun hc => ?_) <;> try (exfalso; simp only [cmpL] at hc; omega)) | refine AW_ret ?_ | refine AW_exit ?_)) | ((with_reducible refine gS ?_); refine Es_s (T := Tryd.tab) rfl rfl rfl rfl ?_) | (with_reducible refine Es_nil ?_) | (with_reducible refine then_n ?_) | (with_reducible refine then_e ?_) | ((with_reducible refine block_e ?_ ?_); rfl) | ((with_reducible refine gR ?_); first | refine ret1 rfl ?_ | refine ret2 rfl rfl ?_ | refine ret0 ?_ | refine end1 rfl ?_ | refine end0 ?_))
    all_goals first
      | exact ⟨rfl, by (repeat' (first | exact trivial | exact rfl | (refine ⟨Or.inl rfl, ?_⟩) | (refine ⟨Or.inr rfl, ?_⟩) | (refine ⟨Or.inr trivial, ?_⟩) | (refine ⟨rfl, ?_⟩) | (refine ⟨?_, ?_⟩)))⟩
      | trace_state
end Go.Proofs.YtgikjdkdakfnkaaDoor
namespace Go.Proofs.YtgikjdkdakfnkaaDoor
open Go.SL
/-! ### calls, one behind the other: plain -/
def stepS (S : Ship) (L : List Load) (o : BOp) : List Load := if o.k = 1 then putL S L o.l else if o.k = 2 then takeL L o.bx else L
def playS (S : Ship) (L : List Load) (ops : List BOp) : List Load := ops.foldl (stepS S) L
theorem playS_snoc (S : Ship) (L : List Load) (ops : List BOp) (o : BOp) : playS S L (ops ++ [o]) = stepS S (playS S L ops) o := by simp [playS]
theorem takeE_ok {L : List Load} {n : ByteArray} (h : takeE L n = 0) : ∃ x, byB L n = some x ∧ atS L ⟨x.sl.b, x.sl.r, x.sl.t + 1⟩ = none := by
  unfold takeE at h
  cases hq : byB L n with
  | none => rw [hq] at h; cases h
  | some x =>
    rw [hq] at h
    dsimp only at h
    split at h
    · cases h
    · rename_i h2
      exact ⟨x, rfl, by simpa using h2⟩
theorem putL_inv {S : Ship} {L : List Load} (hv : Inv2 S L) (x : Load) : Inv2 S (putL S L x) := by
  unfold putL
  split
  · rename_i h; exact put_inv hv h
  · exact hv
theorem takeL_inv {S : Ship} {L : List Load} (hv : Inv2 S L) (n : ByteArray) : Inv2 S (takeL L n) := by
  unfold takeL
  split
  · rename_i h
    obtain ⟨x, h1, h2⟩ := takeE_ok h
    rw [h1]
    exact take_inv hv ((byB_some hv.nB).1 h1).1 h2
  · exact hv
theorem putL_len (S : Ship) (L : List Load) (x : Load) : (putL S L x).length ≤ L.length + 1 := by
  unfold putL; split <;> simp
theorem takeL_len (L : List Load) (n : ByteArray) : (takeL L n).length ≤ L.length := by
  unfold takeL
  split
  · exact List.length_filter_le _ _
  · exact Nat.le_refl _
theorem stepS_inv {S : Ship} {L : List Load} (hv : Inv2 S L) (o : BOp) : Inv2 S (stepS S L o) := by
  unfold stepS
  split
  · exact putL_inv hv _
  split
  · exact takeL_inv hv _
  · exact hv
theorem stepS_len (S : Ship) (L : List Load) (o : BOp) : (stepS S L o).length ≤ L.length + 1 := by
  unfold stepS
  split
  · exact putL_len _ _ _
  split
  · have := takeL_len L o.bx; omega
  · omega
theorem playS_inv {S : Ship} : ∀ (ops : List BOp) {L : List Load}, Inv2 S L → Inv2 S (playS S L ops) ∧ (playS S L ops).length ≤ L.length + ops.length
  | [], L, h => ⟨h, Nat.le_refl _⟩
  | o :: ops, L, h => by
    obtain ⟨h1, h2⟩ := playS_inv ops (stepS_inv h o)
    have h3 := stepS_len S L o
    exact ⟨h1, by rw [List.length_cons]; show (playS S (stepS S L o) ops).length ≤ _; omega⟩
theorem tot_in {S : Ship} {L : List Load} (hv : Inv2 S L) (hS : shipOk S = true) : 0 ≤ wsum L ∧ wsum L ≤ 1048576 := by
  have hi := ship_in hS
  have h1 := hv.tot
  refine ⟨?_, by omega⟩
  have hw := load_in hv.toInv
  clear hv h1
  induction L with
  | nil => exact Int.le_refl _
  | cons x L ih =>
    rw [wsum_cons]
    have h1 := ih (fun y hy => hw y (List.mem_cons_of_mem _ hy))
    have h2 := hw x List.mem_cons_self
    omega
/-- what is wrong with a put says the document of its own row -/
theorem doc_putE {S : Ship} {L D : List Load} (hd : DocB L D) (hv : Inv S L) (x : Load) : putE S D x = putE S L x := by
  unfold putE unb
  rw [doc_by hd hv, doc_at hd hv, doc_at hd hv, stW_perm hd.perm, wsum_perm hd.perm, doc_clash hd]
theorem lsort_put {S : Ship} {L : List Load} (hv : Inv2 S L) {x : Load} (h : putE S L x = 0) : lsort (L ++ [x]) = insD x (lsort L) := doc_uniq (lsort_doc (put_inv hv h).nS) (doc_put (lsort_doc hv.nS) (putE_ok h).2.2.2.1)
theorem lsort_take {S : Ship} {L : List Load} (hv : Inv2 S L) {i : Nat} {x : Load} (h : (lsort L)[i]? = some x) (hf : atS L ⟨x.sl.b, x.sl.r, x.sl.t + 1⟩ = none) : lsort (delL L x) = (lsort L).eraseIdx i := by
  have hd := lsort_doc hv.nS
  have hx : x ∈ L := hd.perm.mem_iff.1 (List.mem_of_getElem? h)
  exact doc_uniq (lsort_doc (take_inv hv hx hf).nS) (doc_del hd hv.toInv h)
end Go.Proofs.YtgikjdkdakfnkaaDoor
namespace Go.Proofs.YtgikjdkdakfnkaaDoor
open Go.SL
/-! ### play -/
def plH (S : Ship) (L : List Load) : Hp := hB' 19 1901 1902 S L
set_option maxRecDepth 10000 in
set_option maxHeartbeats 8000000 in
theorem play_ac (S : Ship) (ops : List BOp) (hS : shipOk S = true) (hl : ops.length ≤ 60) (hs : ∀ o ∈ ops, o.bx.size + o.l.box.size ≤ 120) : AC Tryd.prog 14 [.agg S.cs, .d (.sl 9 (ops.map BOp.enc))] [hG] [9000]
    (fun r h' => r = .tup [.ptr 19 0, .d (.sl 7 ((lsort (playS S [] ops)).map Load.enc))] ∧ SubH (plH S (playS S [] ops) ++ [hG]) h') := by
  have hi := ship_in hS
  have cn := newOk_ac S hS
  have h00 : (!(eqb 0 0)) = false := by simp [eqb]
  refine AC_enter Tryd.func14 rfl Tryd.ntmps14 (rv := [.tmp 4, .tmp 5]) rfl rfl (by simp) (fun w X G => ?_)
  repeat' (first | ((with_reducible refine gA ?_); (first | refine AW_seq ?_ | refine AW_region ?_ | refine AW_condF rfl ?_ | refine AW_block ?_ | refine AW_skip ?_)) | ((with_reducible refine gS ?_); refine Es_s (T := Tryd.tab) rfl rfl rfl rfl ?_) | (((with_reducible refine gS ?_); apply Es_q); rfl; (first | rfl | (refine w_ff ?_; assumption)); refine LStep_eqNilP (T := Tryd.tab) rfl rfl rfl rfl) | (((with_reducible refine gS ?_); apply Es_xg); rfl; (first | rfl | (refine w_ff ?_; assumption)); refine LStep_callHN [] [(11, 19), (8, 1901), (9, 1902)] cn rfl rfl trivial rfl trivial rfl rfl; rfl) | (((with_reducible refine gS ?_); apply Es_q); rfl; (first | rfl | (refine w_ff ?_; assumption)); (first | refine LStep_simp (T := Tryd.tab) rfl rfl | refine LStep_lenM (T := Tryd.tab) rfl rfl rfl rfl | (refine LStep_pickF rfl rfl ?_ rfl rfl; assumption))) | (refine Es_skip rfl ?_ rfl ?_; (first | rfl | (refine w_tf ?_; assumption) | (refine w_ft ?_; assumption))) | (((with_reducible refine gS ?_); apply Es_xs); rfl; rfl; refine LStep_boxN rfl rfl rfl rfl rfl rfl; rfl) | (with_reducible refine Es_nil ?_) | (with_reducible refine then_n ?_))
  refine AW_nilD 7 8 rfl ?_
  refine AW_weaken (E := [(2, .ptr 2 0), (6, .ptr 19 0), (8, .d (.sl 7 [])), (29, .d (.sl 9 (ops.map BOp.enc))), (30, .d (.sc (.int .i64 (ops.length : Nat)))), (31, .d (.sc (.int .i64 0)))]) (H := plH S [] ++ [(2, some (.cells S.cs)), hG]) ?_ (by (repeat' (first | exact trivial | exact rfl | (refine ⟨Or.inl rfl, ?_⟩) | (refine ⟨Or.inr rfl, ?_⟩) | (refine ⟨Or.inr trivial, ?_⟩) | (refine ⟨rfl, ?_⟩) | (refine ⟨?_, ?_⟩)))) (by unfold plH hB'; (repeat' (first | exact trivial | exact rfl | (refine ⟨Or.inl rfl, ?_⟩) | (refine ⟨Or.inr rfl, ?_⟩) | (refine ⟨Or.inr trivial, ?_⟩) | (refine ⟨rfl, ?_⟩) | (refine ⟨?_, ?_⟩))))
  refine AW_forE (S := Nat) (fun k => k ≤ ops.length) (fun k => [(6, .ptr 19 0), (8, .d (.sl 7 ((lsort (playS S [] (ops.take k))).map Load.enc))), (31, .d (.sc (.int .i64 (k : Nat))))]) (fun k => plH S (playS S [] (ops.take k))) (fun k => ops.length - k) 0 (by omega) (by (repeat' (first | exact trivial | exact rfl | (refine ⟨Or.inl rfl, ?_⟩) | (refine ⟨Or.inr rfl, ?_⟩) | (refine ⟨Or.inr trivial, ?_⟩) | (refine ⟨rfl, ?_⟩) | (refine ⟨?_, ?_⟩)))) (by (repeat' (first | exact trivial | exact rfl | (refine ⟨Or.inl rfl, ?_⟩) | (refine ⟨Or.inr rfl, ?_⟩) | (refine ⟨Or.inr trivial, ?_⟩) | (refine ⟨rfl, ?_⟩) | (refine ⟨?_, ?_⟩)))) ?_
  intro k hk
  by_cases hlt : k < ops.length
  · obtain ⟨o, ho, _⟩ := drop_at hlt
    have hom := List.mem_of_getElem? ho
    have ho2 := hs o hom
    have hst : playS S [] (ops.take (k + 1)) = stepS S (playS S [] (ops.take k)) o := by rw [take_at ho, playS_snoc]
    obtain ⟨hv, hlen⟩ := playS_inv (ops.take k) (inv0 (S := S) (by omega))
    rw [List.length_take, List.length_nil] at hlen
    generalize playS S [] (ops.take k) = L at hst hv hlen ⊢
    have hd := lsort_doc hv.nS
    have hdl : (lsort L).length ≤ 1048576 := by rw [hd.perm.length_eq]; omega
    have hd' := lsort_doc (stepS_inv hv o).nS
    have cl := like_ac S (stepS S L o) (lsort (stepS S L o)) hd' (stepS_inv hv o) hS (by have := stepS_len S L o; omega)
    have hT := tot_in hv hS
    have hn1 : ((lsort L).map (·.sl)).Nodup := (hd.perm.map _).nodup_iff.2 hv.nS
    have hn2 : ((lsort L).map (·.box)).Nodup := (hd.perm.map _).nodup_iff.2 hv.nB
    by_cases k1 : o.k = 1
    · have f1 : eqb o.k 1 = true := by rw [eqb_t]; exact k1
      have f2 : eqb o.k 2 = false := by rw [eqb_f]; omega
      have f3 : eqb o.k 3 = false := by rw [eqb_f]; omega
      have e1 : stepS S L o = putL S L o.l := by unfold stepS; rw [if_pos k1]
      rw [e1] at cl hst
      have cp := put_ac S L o.l hv hS hT
      have cw := rWrong_ac S (lsort L) o.l hS hdl hn1 hn2 (fun y hy => load_in hv.toInv y (hd.perm.mem_iff.1 hy)) (fun y hy => by have := hv.on y (hd.perm.mem_iff.1 hy); omega) (by omega)
      rw [doc_putE hd hv.toInv] at cw
      by_cases E : putE S L o.l = 0
      · have e2 : putL S L o.l = L ++ [o.l] := by unfold putL; rw [if_pos E]
        have hDe := lsort_put hv E
        have cq := rPut_ac (lsort L) o.l hdl
        rw [e2] at cl hst cp
        rw [E] at cp cw
        rw [← hDe] at cq
        have h01 : eqb 0 0 = true := eqb_t.2 rfl
        generalize lsort (L ++ [o.l]) = D' at cl hDe cq
        replace hDe : lsort (L ++ [o.l]) = D' := by rw [lsort_put hv E, ← hDe]
        generalize L ++ [o.l] = L' at *
        generalize lsort L = D at *
        clear hd hd' hT hdl hn1 hn2 E e1 e2 hi
        repeat' (first | ((with_reducible refine gA ?_); (first | refine AW_seq ?_ | refine AW_region ?_ | refine AW_condF rfl ?_ | (refine AW_condY rfl ?_ ?_; assumption) | (refine AW_condN rfl ?_ ?_; assumption) | (refine AW_cond rfl (fun hc => ?_) (fun hc => ?_) <;> try (exfalso; simp only [cmpL] at hc; omega)) | refine AW_block ?_ | refine AW_skip ?_)) | ((with_reducible refine gS ?_); refine Es_s (T := Tryd.tab) rfl rfl rfl rfl ?_) | (((with_reducible refine gS ?_); apply Es_q); rfl; rfl; (first | refine LStep_call (cw) rfl rfl rfl rfl | refine LStep_call (cq) rfl rfl rfl rfl)) | (((with_reducible refine gS ?_); apply Es_xg); rfl; rfl; (first | refine LStep_callHN [(1000, 19), (1001, 1901), (1002, 1902)] [] cp rfl rfl ⟨rfl, rfl, rfl, rfl, trivial⟩ rfl ⟨trivial, trivial, trivial, trivial, trivial⟩ rfl rfl | refine LStep_callHN [(1000, 19), (1001, 1901), (1002, 1902)] [] cl rfl rfl ⟨rfl, rfl, rfl, trivial⟩ rfl ⟨trivial, trivial, trivial, trivial⟩ rfl rfl); rfl) | (((with_reducible refine gS ?_); apply Es_q); rfl; rfl; (first | (refine LStep_add rfl rfl rfl rfl ?_; (refine IntWalk.i64_in _ ?_; first | omega | (simp only [cmps] at *; omega))) | (refine LStep_indexM (T := Tryd.tab) (c := ?_) rfl rfl rfl rfl rfl rfl ?_; rotate_left; assumption))) | (refine Es_skip rfl ?_ rfl ?_; (first | rfl | (refine w_tf ?_; assumption) | (refine w_ft ?_; assumption))) | (((with_reducible refine gS ?_); apply Es_xs); rfl; rfl; refine LStep_allocN (T := Tryd.tab) rfl rfl rfl rfl rfl rfl; rfl) | (((with_reducible refine gS ?_); apply Es_xn); rfl; rfl; (refine LStep_storeN (T := Tryd.tab) rfl rfl rfl rfl rfl rfl rfl ?_ rfl; (refine Nat.le_of_ble_eq_true ?_; rfl)); rfl) | (with_reducible refine Es_nil ?_) | (with_reducible refine then_n ?_) | (with_reducible refine block_n ?_))
        all_goals first
          | (refine ⟨k + 1, by omega, by omega, ?_, by (repeat' (first | exact trivial | exact rfl | (refine ⟨Or.inl rfl, ?_⟩) | (refine ⟨Or.inr rfl, ?_⟩) | (refine ⟨Or.inr trivial, ?_⟩) | (refine ⟨rfl, ?_⟩) | (refine ⟨?_, ?_⟩))), ?_, by (repeat' (first | exact trivial | exact rfl | (refine ⟨Or.inl rfl, ?_⟩) | (refine ⟨Or.inr rfl, ?_⟩) | (refine ⟨Or.inr trivial, ?_⟩) | (refine ⟨rfl, ?_⟩) | (refine ⟨?_, ?_⟩)))⟩
             · rw [hst, hDe]; (repeat' (first | exact trivial | exact rfl | (refine ⟨Or.inl rfl, ?_⟩) | (refine ⟨Or.inr rfl, ?_⟩) | (refine ⟨Or.inr trivial, ?_⟩) | (refine ⟨rfl, ?_⟩) | (refine ⟨?_, ?_⟩)))
             · rw [hst]; (repeat' (first | exact trivial | exact rfl | (refine ⟨Or.inl rfl, ?_⟩) | (refine ⟨Or.inr rfl, ?_⟩) | (refine ⟨Or.inr trivial, ?_⟩) | (refine ⟨rfl, ?_⟩) | (refine ⟨?_, ?_⟩))))
          | trace_state
      · have e2 : putL S L o.l = L := by unfold putL; rw [if_neg E]
        rw [e2] at cl hst cp
        have g1 : (!(eqb (putE S L o.l) (putE S L o.l))) = false := by rw [eqb_t.2 rfl]; rfl
        have g2 : eqb (putE S L o.l) 0 = false := by rw [eqb_f]; exact E
        generalize putE S L o.l = e at *
        generalize hDe : lsort L = D at *
        clear hd hd' hT hdl hn1 hn2 E e1 e2 hi
        repeat' (first | ((with_reducible refine gA ?_); (first | refine AW_seq ?_ | refine AW_region ?_ | refine AW_condF rfl ?_ | (refine AW_condY rfl ?_ ?_; assumption) | (refine AW_condN rfl ?_ ?_; assumption) | (refine AW_cond rfl (fun hc => ?_) (fun hc => ?_) <;> try (exfalso; simp only [cmpL] at hc; omega)) | refine AW_block ?_ | refine AW_skip ?_)) | ((with_reducible refine gS ?_); refine Es_s (T := Tryd.tab) rfl rfl rfl rfl ?_) | (((with_reducible refine gS ?_); apply Es_q); rfl; rfl; refine LStep_call (cw) rfl rfl rfl rfl) | (((with_reducible refine gS ?_); apply Es_xg); rfl; rfl; (first | refine LStep_callHN [(1000, 19), (1001, 1901), (1002, 1902)] [] cp rfl rfl ⟨rfl, rfl, rfl, rfl, trivial⟩ rfl ⟨trivial, trivial, trivial, trivial, trivial⟩ rfl rfl | refine LStep_callHN [(1000, 19), (1001, 1901), (1002, 1902)] [] cl rfl rfl ⟨rfl, rfl, rfl, trivial⟩ rfl ⟨trivial, trivial, trivial, trivial⟩ rfl rfl); rfl) | (((with_reducible refine gS ?_); apply Es_q); rfl; rfl; (first | (refine LStep_add rfl rfl rfl rfl ?_; (refine IntWalk.i64_in _ ?_; first | omega | (simp only [cmps] at *; omega))) | (refine LStep_indexM (T := Tryd.tab) (c := ?_) rfl rfl rfl rfl rfl rfl ?_; rotate_left; assumption))) | (refine Es_skip rfl ?_ rfl ?_; (first | rfl | (refine w_tf ?_; assumption) | (refine w_ft ?_; assumption))) | (((with_reducible refine gS ?_); apply Es_xs); rfl; rfl; refine LStep_allocN (T := Tryd.tab) rfl rfl rfl rfl rfl rfl; rfl) | (((with_reducible refine gS ?_); apply Es_xn); rfl; rfl; (refine LStep_storeN (T := Tryd.tab) rfl rfl rfl rfl rfl rfl rfl ?_ rfl; (refine Nat.le_of_ble_eq_true ?_; rfl)); rfl) | (with_reducible refine Es_nil ?_) | (with_reducible refine then_n ?_) | (with_reducible refine block_n ?_))
        all_goals first
          | (refine ⟨k + 1, by omega, by omega, ?_, by (repeat' (first | exact trivial | exact rfl | (refine ⟨Or.inl rfl, ?_⟩) | (refine ⟨Or.inr rfl, ?_⟩) | (refine ⟨Or.inr trivial, ?_⟩) | (refine ⟨rfl, ?_⟩) | (refine ⟨?_, ?_⟩))), ?_, by (repeat' (first | exact trivial | exact rfl | (refine ⟨Or.inl rfl, ?_⟩) | (refine ⟨Or.inr rfl, ?_⟩) | (refine ⟨Or.inr trivial, ?_⟩) | (refine ⟨rfl, ?_⟩) | (refine ⟨?_, ?_⟩)))⟩
             · rw [hst, hDe]; (repeat' (first | exact trivial | exact rfl | (refine ⟨Or.inl rfl, ?_⟩) | (refine ⟨Or.inr rfl, ?_⟩) | (refine ⟨Or.inr trivial, ?_⟩) | (refine ⟨rfl, ?_⟩) | (refine ⟨?_, ?_⟩)))
             · rw [hst]; (repeat' (first | exact trivial | exact rfl | (refine ⟨Or.inl rfl, ?_⟩) | (refine ⟨Or.inr rfl, ?_⟩) | (refine ⟨Or.inr trivial, ?_⟩) | (refine ⟨rfl, ?_⟩) | (refine ⟨?_, ?_⟩))))
          | trace_state
    by_cases k2 : o.k = 2
    · have f1 : eqb o.k 1 = false := by rw [eqb_f]; omega
      have f2 : eqb o.k 2 = true := by rw [eqb_t]; exact k2
      have f3 : eqb o.k 3 = false := by rw [eqb_f]; omega
      have e1 : stepS S L o = takeL L o.bx := by unfold stepS; rw [if_neg k1, if_pos k2]
      rw [e1] at cl hst
      have ct := take_ac S L o.bx hv.toInv hT (by omega)
      have cf := rFind_ac (lsort L) o.bx hdl
      have g0 : (!(zL.eqB zL)) = false := by rw [load_self]; rfl
      have g4 : (!(eqb 4 4)) = false := by rw [eqb_t.2 rfl]; rfl
      have g6 : (!(eqb 6 6)) = false := by rw [eqb_t.2 rfl]; rfl
      rcases by_place hn2 o.bx with ⟨p1, p2⟩ | ⟨j, y, pj, p1, p2⟩
      · rw [doc_by hd hv.toInv] at p1
        rw [p2] at cf
        have u1 : takeE L o.bx = 4 := by unfold takeE; rw [p1]
        have u2 : takeX L o.bx = zL := by unfold takeX; rw [u1]; rfl
        have u3 : takeL L o.bx = L := by unfold takeL; rw [u1]; rfl
        rw [u3] at cl hst
        rw [u1, u2, u3] at ct
        have g1 : leb 0 (-1) = false := by rw [leb_f]; omega
        generalize hDe : lsort L = D at *
        clear hd hd' hT hdl hn1 hn2 e1 hi p1 p2 u1 u2 u3
        repeat' (first | ((with_reducible refine gA ?_); (first | refine AW_seq ?_ | refine AW_region ?_ | refine AW_condF rfl ?_ | (refine AW_condY rfl ?_ ?_; assumption) | (refine AW_condN rfl ?_ ?_; assumption) | (refine AW_cond rfl (fun hc => ?_) (fun hc => ?_) <;> try (exfalso; simp only [cmpL] at hc; omega)) | refine AW_block ?_ | refine AW_skip ?_)) | ((with_reducible refine gS ?_); refine Es_s (T := Tryd.tab) rfl rfl rfl rfl ?_) | (((with_reducible refine gS ?_); apply Es_q); rfl; (first | rfl | (refine w_ff ?_; assumption)); (first | refine LStep_call (cf) rfl rfl rfl rfl | refine LStep_neqAgg (T := Tryd.tab) eqS_load eqG_load (by omega) rfl rfl rfl rfl rfl rfl)) | (((with_reducible refine gS ?_); apply Es_xg); rfl; (first | rfl | (refine w_ff ?_; assumption)); (first | refine LStep_callHN [(1000, 19), (1001, 1901), (1002, 1902)] [] ct rfl rfl ⟨rfl, rfl, rfl, trivial⟩ rfl ⟨trivial, trivial, trivial, trivial⟩ rfl rfl | refine LStep_callHN [(1000, 19), (1001, 1901), (1002, 1902)] [] cl rfl rfl ⟨rfl, rfl, rfl, trivial⟩ rfl ⟨trivial, trivial, trivial, trivial⟩ rfl rfl); rfl) | (((with_reducible refine gS ?_); apply Es_q); rfl; (first | rfl | (refine w_ff ?_; assumption)); (first | refine LStep_simp (T := Tryd.tab) rfl rfl | (refine LStep_add rfl rfl rfl rfl ?_; (refine IntWalk.i64_in _ ?_; first | omega | (simp only [cmps] at *; omega))) | (refine LStep_pickF rfl rfl ?_ rfl rfl; assumption) | (refine LStep_indexM (T := Tryd.tab) (c := ?_) rfl rfl rfl rfl rfl rfl ?_; rotate_left; assumption) | refine LStep_buildN (T := Tryd.tab) rfl rfl rfl rfl rfl rfl rfl)) | (refine Es_skip rfl ?_ rfl ?_; (first | rfl | (refine w_tf ?_; assumption) | (refine w_ft ?_; assumption))) | (((with_reducible refine gS ?_); apply Es_xs); rfl; rfl; refine LStep_allocN (T := Tryd.tab) rfl rfl rfl rfl rfl rfl; rfl) | (((with_reducible refine gS ?_); apply Es_xn); rfl; rfl; (refine LStep_storeN (T := Tryd.tab) rfl rfl rfl rfl rfl rfl rfl ?_ rfl; (refine Nat.le_of_ble_eq_true ?_; rfl)); rfl) | (with_reducible refine Es_nil ?_) | (with_reducible refine then_n ?_) | (with_reducible refine block_n ?_))
        all_goals first
          | (refine ⟨k + 1, by omega, by omega, ?_, by (repeat' (first | exact trivial | exact rfl | (refine ⟨Or.inl rfl, ?_⟩) | (refine ⟨Or.inr rfl, ?_⟩) | (refine ⟨Or.inr trivial, ?_⟩) | (refine ⟨rfl, ?_⟩) | (refine ⟨?_, ?_⟩))), ?_, by (repeat' (first | exact trivial | exact rfl | (refine ⟨Or.inl rfl, ?_⟩) | (refine ⟨Or.inr rfl, ?_⟩) | (refine ⟨Or.inr trivial, ?_⟩) | (refine ⟨rfl, ?_⟩) | (refine ⟨?_, ?_⟩)))⟩
             · rw [hst, hDe]; (repeat' (first | exact trivial | exact rfl | (refine ⟨Or.inl rfl, ?_⟩) | (refine ⟨Or.inr rfl, ?_⟩) | (refine ⟨Or.inr trivial, ?_⟩) | (refine ⟨rfl, ?_⟩) | (refine ⟨?_, ?_⟩)))
             · rw [hst]; (repeat' (first | exact trivial | exact rfl | (refine ⟨Or.inl rfl, ?_⟩) | (refine ⟨Or.inr rfl, ?_⟩) | (refine ⟨Or.inr trivial, ?_⟩) | (refine ⟨rfl, ?_⟩) | (refine ⟨?_, ?_⟩))))
          | trace_state
      · rw [doc_by hd hv.toInv] at p1
        rw [p2] at cf
        have hyL : y ∈ L := hd.perm.mem_iff.1 (List.mem_of_getElem? pj)
        have ho := hv.on y hyL
        have ca := rAbove_ac (lsort L) j y hdl pj (by omega)
        have g1 : leb 0 (j : Nat) = true := by rw [leb_t]; omega
        have gy : (!(y.eqB y)) = false := by rw [load_self]; rfl
        rcases at_place hn1 ⟨y.sl.b, y.sl.r, y.sl.t + 1⟩ with ⟨q1, q2⟩ | ⟨i, z, _, q1, q2⟩
        · rw [doc_at hd hv.toInv] at q1
          rw [q2, decide_eq_false (by omega)] at ca
          have u1 : takeE L o.bx = 0 := by unfold takeE; rw [p1]; simp only [q1, Option.isSome_none, Bool.false_eq_true, if_false]
          have u2 : takeX L o.bx = y := by unfold takeX; rw [u1, p1]; rfl
          have u3 : takeL L o.bx = delL L y := by unfold takeL; rw [u1, p1]; rfl
          have hDe := lsort_take hv pj q1
          have cx := rWithout_ac (lsort L) j hdl
          rw [← hDe] at cx
          rw [u3] at cl hst
          rw [u1, u2, u3] at ct
          generalize hDD : lsort (delL L y) = D' at cl hDe cx
          replace hDe := hDD
          generalize delL L y = L' at *
          generalize lsort L = D at *
          clear hd hd' hT hdl hn1 hn2 e1 hi p1 p2 u1 u2 u3 q1 q2 ho hDD
          repeat' (first | ((with_reducible refine gA ?_); (first | refine AW_seq ?_ | refine AW_region ?_ | refine AW_condT rfl ?_ | refine AW_condF rfl ?_ | (refine AW_condY rfl ?_ ?_; assumption) | (refine AW_condN rfl ?_ ?_; assumption) | (refine AW_cond rfl (fun hc => ?_) (fun hc => ?_) <;> try (exfalso; simp only [cmpL] at hc; omega)) | refine AW_block ?_ | refine AW_skip ?_)) | ((with_reducible refine gS ?_); refine Es_s (T := Tryd.tab) rfl rfl rfl rfl ?_) | (((with_reducible refine gS ?_); apply Es_q); rfl; (first | rfl | (refine w_ff ?_; assumption)); (first | refine LStep_call (cf) rfl rfl rfl rfl | refine LStep_call (ca) rfl rfl rfl rfl | refine LStep_call (cx) rfl rfl rfl rfl | refine LStep_neqAgg (T := Tryd.tab) eqS_load eqG_load (by omega) rfl rfl rfl rfl rfl rfl)) | (((with_reducible refine gS ?_); apply Es_xg); rfl; (first | rfl | (refine w_ff ?_; assumption)); (first | refine LStep_callHN [(1000, 19), (1001, 1901), (1002, 1902)] [] ct rfl rfl ⟨rfl, rfl, rfl, trivial⟩ rfl ⟨trivial, trivial, trivial, trivial⟩ rfl rfl | refine LStep_callHN [(1000, 19), (1001, 1901), (1002, 1902)] [] cl rfl rfl ⟨rfl, rfl, rfl, trivial⟩ rfl ⟨trivial, trivial, trivial, trivial⟩ rfl rfl); rfl) | (((with_reducible refine gS ?_); apply Es_q); rfl; (first | rfl | (refine w_ff ?_; assumption)); (first | refine LStep_simp (T := Tryd.tab) rfl rfl | (refine LStep_add rfl rfl rfl rfl ?_; (refine IntWalk.i64_in _ ?_; first | omega | (simp only [cmps] at *; omega))) | (refine LStep_pickF rfl rfl ?_ rfl rfl; assumption) | (refine LStep_indexM (T := Tryd.tab) (c := ?_) rfl rfl rfl rfl rfl rfl ?_; rotate_left; assumption) | refine LStep_buildN (T := Tryd.tab) rfl rfl rfl rfl rfl rfl rfl)) | (refine Es_skip rfl ?_ rfl ?_; (first | rfl | (refine w_tf ?_; assumption) | (refine w_ft ?_; assumption))) | (((with_reducible refine gS ?_); apply Es_xs); rfl; rfl; refine LStep_allocN (T := Tryd.tab) rfl rfl rfl rfl rfl rfl; rfl) | (((with_reducible refine gS ?_); apply Es_xn); rfl; rfl; (refine LStep_storeN (T := Tryd.tab) rfl rfl rfl rfl rfl rfl rfl ?_ rfl; (refine Nat.le_of_ble_eq_true ?_; rfl)); rfl) | (with_reducible refine Es_nil ?_) | (with_reducible refine then_n ?_) | (with_reducible refine block_n ?_))
          all_goals first
            | (refine ⟨k + 1, by omega, by omega, ?_, by (repeat' (first | exact trivial | exact rfl | (refine ⟨Or.inl rfl, ?_⟩) | (refine ⟨Or.inr rfl, ?_⟩) | (refine ⟨Or.inr trivial, ?_⟩) | (refine ⟨rfl, ?_⟩) | (refine ⟨?_, ?_⟩))), ?_, by (repeat' (first | exact trivial | exact rfl | (refine ⟨Or.inl rfl, ?_⟩) | (refine ⟨Or.inr rfl, ?_⟩) | (refine ⟨Or.inr trivial, ?_⟩) | (refine ⟨rfl, ?_⟩) | (refine ⟨?_, ?_⟩)))⟩
               · rw [hst, hDe]; (repeat' (first | exact trivial | exact rfl | (refine ⟨Or.inl rfl, ?_⟩) | (refine ⟨Or.inr rfl, ?_⟩) | (refine ⟨Or.inr trivial, ?_⟩) | (refine ⟨rfl, ?_⟩) | (refine ⟨?_, ?_⟩)))
               · rw [hst]; (repeat' (first | exact trivial | exact rfl | (refine ⟨Or.inl rfl, ?_⟩) | (refine ⟨Or.inr rfl, ?_⟩) | (refine ⟨Or.inr trivial, ?_⟩) | (refine ⟨rfl, ?_⟩) | (refine ⟨?_, ?_⟩))))
            | trace_state
        · rw [doc_at hd hv.toInv] at q1
          rw [q2, decide_eq_true (by omega)] at ca
          have u1 : takeE L o.bx = 6 := by unfold takeE; rw [p1]; simp only [q1, Option.isSome_some, if_true]
          have u2 : takeX L o.bx = zL := by unfold takeX; rw [u1]; rfl
          have u3 : takeL L o.bx = L := by unfold takeL; rw [u1]; rfl
          rw [u3] at cl hst
          rw [u1, u2, u3] at ct
          generalize hDe : lsort L = D at *
          clear hd hd' hT hdl hn1 hn2 e1 hi p1 p2 u1 u2 u3 q1 q2 ho
          repeat' (first | ((with_reducible refine gA ?_); (first | refine AW_seq ?_ | refine AW_region ?_ | refine AW_condF rfl ?_ | (refine AW_condY rfl ?_ ?_; assumption) | (refine AW_condN rfl ?_ ?_; assumption) | (refine AW_cond rfl (fun hc => ?_) (fun hc => ?_) <;> try (exfalso; simp only [cmpL] at hc; omega)) | refine AW_block ?_ | refine AW_skip ?_)) | ((with_reducible refine gS ?_); refine Es_s (T := Tryd.tab) rfl rfl rfl rfl ?_) | (((with_reducible refine gS ?_); apply Es_q); rfl; (first | rfl | (refine w_ff ?_; assumption)); (first | refine LStep_call (cf) rfl rfl rfl rfl | refine LStep_call (ca) rfl rfl rfl rfl | refine LStep_neqAgg (T := Tryd.tab) eqS_load eqG_load (by omega) rfl rfl rfl rfl rfl rfl)) | (((with_reducible refine gS ?_); apply Es_xg); rfl; (first | rfl | (refine w_ff ?_; assumption)); (first | refine LStep_callHN [(1000, 19), (1001, 1901), (1002, 1902)] [] ct rfl rfl ⟨rfl, rfl, rfl, trivial⟩ rfl ⟨trivial, trivial, trivial, trivial⟩ rfl rfl | refine LStep_callHN [(1000, 19), (1001, 1901), (1002, 1902)] [] cl rfl rfl ⟨rfl, rfl, rfl, trivial⟩ rfl ⟨trivial, trivial, trivial, trivial⟩ rfl rfl); rfl) | (((with_reducible refine gS ?_); apply Es_q); rfl; (first | rfl | (refine w_ff ?_; assumption)); (first | refine LStep_simp (T := Tryd.tab) rfl rfl | (refine LStep_add rfl rfl rfl rfl ?_; (refine IntWalk.i64_in _ ?_; first | omega | (simp only [cmps] at *; omega))) | (refine LStep_pickF rfl rfl ?_ rfl rfl; assumption) | (refine LStep_indexM (T := Tryd.tab) (c := ?_) rfl rfl rfl rfl rfl rfl ?_; rotate_left; assumption) | refine LStep_buildN (T := Tryd.tab) rfl rfl rfl rfl rfl rfl rfl)) | (refine Es_skip rfl ?_ rfl ?_; (first | rfl | (refine w_tf ?_; assumption) | (refine w_ft ?_; assumption))) | (((with_reducible refine gS ?_); apply Es_xs); rfl; rfl; refine LStep_allocN (T := Tryd.tab) rfl rfl rfl rfl rfl rfl; rfl) | (((with_reducible refine gS ?_); apply Es_xn); rfl; rfl; (refine LStep_storeN (T := Tryd.tab) rfl rfl rfl rfl rfl rfl rfl ?_ rfl; (refine Nat.le_of_ble_eq_true ?_; rfl)); rfl) | (with_reducible refine Es_nil ?_) | (with_reducible refine then_n ?_) | (with_reducible refine block_n ?_))
          all_goals first
            | (refine ⟨k + 1, by omega, by omega, ?_, by (repeat' (first | exact trivial | exact rfl | (refine ⟨Or.inl rfl, ?_⟩) | (refine ⟨Or.inr rfl, ?_⟩) | (refine ⟨Or.inr trivial, ?_⟩) | (refine ⟨rfl, ?_⟩) | (refine ⟨?_, ?_⟩))), ?_, by (repeat' (first | exact trivial | exact rfl | (refine ⟨Or.inl rfl, ?_⟩) | (refine ⟨Or.inr rfl, ?_⟩) | (refine ⟨Or.inr trivial, ?_⟩) | (refine ⟨rfl, ?_⟩) | (refine ⟨?_, ?_⟩)))⟩
               · rw [hst, hDe]; (repeat' (first | exact trivial | exact rfl | (refine ⟨Or.inl rfl, ?_⟩) | (refine ⟨Or.inr rfl, ?_⟩) | (refine ⟨Or.inr trivial, ?_⟩) | (refine ⟨rfl, ?_⟩) | (refine ⟨?_, ?_⟩)))
               · rw [hst]; (repeat' (first | exact trivial | exact rfl | (refine ⟨Or.inl rfl, ?_⟩) | (refine ⟨Or.inr rfl, ?_⟩) | (refine ⟨Or.inr trivial, ?_⟩) | (refine ⟨rfl, ?_⟩) | (refine ⟨?_, ?_⟩))))
            | trace_state
    have f1 : eqb o.k 1 = false := by rw [eqb_f]; exact k1
    have f2 : eqb o.k 2 = false := by rw [eqb_f]; exact k2
    have e1 : stepS S L o = L := by unfold stepS; rw [if_neg k1, if_neg k2]
    rw [e1] at cl hst
    by_cases k3 : o.k = 3
    · have f3 : eqb o.k 3 = true := by rw [eqb_t]; exact k3
      have cc := copy_ac S L
      generalize hDe : lsort L = D at *
      clear hd hd' hT hdl hn1 hn2 e1 hi
      repeat' (first | ((with_reducible refine gA ?_); refine AW_renH [(96, 19), (9611, 1901), (9616, 1902)] (hB' 96 9611 9616 S L ++ [(2, some (.cells S.cs)), hG]) [(2, .ptr 2 0), (6, .ptr 96 0), (8, .d (.sl 7 (D.map Load.enc))), (29, .d (.sl 9 (ops.map BOp.enc))), (30, .d (.sc (.int .i64 (ops.length : Nat)))), (31, .d (.sc (.int .i64 (k : Nat))))] ⟨rfl, rfl, rfl, rfl, rfl, rfl, trivial⟩ ⟨rfl, rfl, rfl, rfl, rfl, trivial⟩ rfl rfl rfl ?_) | ((with_reducible refine gA ?_); (first | refine AW_seq ?_ | refine AW_region ?_ | refine AW_condF rfl ?_ | (refine AW_condY rfl ?_ ?_; assumption) | (refine AW_condN rfl ?_ ?_; assumption) | (refine AW_cond rfl (fun hc => ?_) (fun hc => ?_) <;> try (exfalso; simp only [cmpL] at hc; omega)) | refine AW_block ?_ | refine AW_skip ?_)) | ((with_reducible refine gS ?_); refine Es_s (T := Tryd.tab) rfl rfl rfl rfl ?_) | (((with_reducible refine gS ?_); apply Es_q); rfl; rfl; refine LStep_eqNilP (T := Tryd.tab) rfl rfl rfl rfl) | (((with_reducible refine gS ?_); apply Es_xg); rfl; rfl; (first | refine LStep_callHN [(1000, 19), (1001, 1901), (1002, 1902)] [(3, 96), (11, 9611), (16, 9616)] cc rfl rfl ⟨rfl, rfl, rfl, trivial⟩ rfl ⟨trivial, trivial, trivial, trivial⟩ rfl rfl | refine LStep_callHN [(1000, 19), (1001, 1901), (1002, 1902)] [] cl rfl rfl ⟨rfl, rfl, rfl, trivial⟩ rfl ⟨trivial, trivial, trivial, trivial⟩ rfl rfl); rfl) | (((with_reducible refine gS ?_); apply Es_q); rfl; rfl; (first | (refine LStep_add rfl rfl rfl rfl ?_; (refine IntWalk.i64_in _ ?_; first | omega | (simp only [cmps] at *; omega))) | (refine LStep_indexM (T := Tryd.tab) (c := ?_) rfl rfl rfl rfl rfl rfl ?_; rotate_left; assumption))) | (refine Es_skip rfl ?_ rfl ?_; (first | rfl | (refine w_tf ?_; assumption) | (refine w_ft ?_; assumption))) | (((with_reducible refine gS ?_); apply Es_xs); rfl; rfl; refine LStep_allocN (T := Tryd.tab) rfl rfl rfl rfl rfl rfl; rfl) | (((with_reducible refine gS ?_); apply Es_xn); rfl; rfl; (refine LStep_storeN (T := Tryd.tab) rfl rfl rfl rfl rfl rfl rfl ?_ rfl; (refine Nat.le_of_ble_eq_true ?_; rfl)); rfl) | (with_reducible refine Es_nil ?_) | (with_reducible refine then_n ?_) | (with_reducible refine block_n ?_))
      all_goals first
        | (refine ⟨k + 1, by omega, by omega, ?_, by (repeat' (first | exact trivial | exact rfl | (refine ⟨Or.inl rfl, ?_⟩) | (refine ⟨Or.inr rfl, ?_⟩) | (refine ⟨Or.inr trivial, ?_⟩) | (refine ⟨rfl, ?_⟩) | (refine ⟨?_, ?_⟩))), ?_, by (repeat' (first | exact trivial | exact rfl | (refine ⟨Or.inl rfl, ?_⟩) | (refine ⟨Or.inr rfl, ?_⟩) | (refine ⟨Or.inr trivial, ?_⟩) | (refine ⟨rfl, ?_⟩) | (refine ⟨?_, ?_⟩)))⟩
           · rw [hst, hDe]; (repeat' (first | exact trivial | exact rfl | (refine ⟨Or.inl rfl, ?_⟩) | (refine ⟨Or.inr rfl, ?_⟩) | (refine ⟨Or.inr trivial, ?_⟩) | (refine ⟨rfl, ?_⟩) | (refine ⟨?_, ?_⟩)))
           · rw [hst]; (repeat' (first | exact trivial | exact rfl | (refine ⟨Or.inl rfl, ?_⟩) | (refine ⟨Or.inr rfl, ?_⟩) | (refine ⟨Or.inr trivial, ?_⟩) | (refine ⟨rfl, ?_⟩) | (refine ⟨?_, ?_⟩))))
        | trace_state
    · have f3 : eqb o.k 3 = false := by rw [eqb_f]; exact k3
      generalize hDe : lsort L = D at *
      clear hd hd' hT hdl hn1 hn2 e1 hi
      repeat' (first | ((with_reducible refine gA ?_); (first | refine AW_seq ?_ | refine AW_region ?_ | refine AW_condF rfl ?_ | (refine AW_condN rfl ?_ ?_; assumption) | (refine AW_cond rfl (fun hc => ?_) (fun hc => ?_) <;> try (exfalso; simp only [cmpL] at hc; omega)) | refine AW_block ?_ | refine AW_skip ?_)) | ((with_reducible refine gS ?_); refine Es_s (T := Tryd.tab) rfl rfl rfl rfl ?_) | (((with_reducible refine gS ?_); apply Es_xg); rfl; rfl; refine LStep_callHN [(1000, 19), (1001, 1901), (1002, 1902)] [] cl rfl rfl ⟨rfl, rfl, rfl, trivial⟩ rfl ⟨trivial, trivial, trivial, trivial⟩ rfl rfl; rfl) | (((with_reducible refine gS ?_); apply Es_q); rfl; rfl; (first | (refine LStep_add rfl rfl rfl rfl ?_; (refine IntWalk.i64_in _ ?_; first | omega | (simp only [cmps] at *; omega))) | (refine LStep_indexM (T := Tryd.tab) (c := ?_) rfl rfl rfl rfl rfl rfl ?_; rotate_left; assumption))) | (refine Es_skip rfl ?_ rfl ?_; (first | rfl | (refine w_tf ?_; assumption) | (refine w_ft ?_; assumption))) | (((with_reducible refine gS ?_); apply Es_xs); rfl; rfl; refine LStep_allocN (T := Tryd.tab) rfl rfl rfl rfl rfl rfl; rfl) | (((with_reducible refine gS ?_); apply Es_xn); rfl; rfl; (refine LStep_storeN (T := Tryd.tab) rfl rfl rfl rfl rfl rfl rfl ?_ rfl; (refine Nat.le_of_ble_eq_true ?_; rfl)); rfl) | (with_reducible refine Es_nil ?_) | (with_reducible refine then_n ?_) | (with_reducible refine block_n ?_))
      all_goals first
        | (refine ⟨k + 1, by omega, by omega, ?_, by (repeat' (first | exact trivial | exact rfl | (refine ⟨Or.inl rfl, ?_⟩) | (refine ⟨Or.inr rfl, ?_⟩) | (refine ⟨Or.inr trivial, ?_⟩) | (refine ⟨rfl, ?_⟩) | (refine ⟨?_, ?_⟩))), ?_, by (repeat' (first | exact trivial | exact rfl | (refine ⟨Or.inl rfl, ?_⟩) | (refine ⟨Or.inr rfl, ?_⟩) | (refine ⟨Or.inr trivial, ?_⟩) | (refine ⟨rfl, ?_⟩) | (refine ⟨?_, ?_⟩)))⟩
           · rw [hst, hDe]; (repeat' (first | exact trivial | exact rfl | (refine ⟨Or.inl rfl, ?_⟩) | (refine ⟨Or.inr rfl, ?_⟩) | (refine ⟨Or.inr trivial, ?_⟩) | (refine ⟨rfl, ?_⟩) | (refine ⟨?_, ?_⟩)))
           · rw [hst]; (repeat' (first | exact trivial | exact rfl | (refine ⟨Or.inl rfl, ?_⟩) | (refine ⟨Or.inr rfl, ?_⟩) | (refine ⟨Or.inr trivial, ?_⟩) | (refine ⟨rfl, ?_⟩) | (refine ⟨?_, ?_⟩))))
        | trace_state
  · have : k = ops.length := by omega
    subst this
    rw [List.take_length]
    repeat' (first | ((with_reducible refine gA ?_); (first | refine AW_seq ?_ | refine AW_region ?_ | (refine AW_cond rfl (fun hc => ?_) (fun hc => ?_) <;> try (exfalso; simp only [cmpL] at hc; omega)) | refine AW_ret ?_ | refine AW_exit ?_)) | ((with_reducible refine gS ?_); refine Es_s (T := Tryd.tab) rfl rfl rfl rfl ?_) | (with_reducible refine Es_nil ?_) | (with_reducible refine then_n ?_) | (with_reducible refine then_e ?_) | ((with_reducible refine block_e ?_ ?_); rfl) | ((with_reducible refine gR ?_); first | refine ret1 rfl ?_ | refine ret2 rfl rfl ?_ | refine ret0 ?_ | refine end1 rfl ?_ | refine end0 ?_))
    all_goals first
      | exact ⟨rfl, by (repeat' (first | exact trivial | exact rfl | (refine ⟨Or.inl rfl, ?_⟩) | (refine ⟨Or.inr rfl, ?_⟩) | (refine ⟨Or.inr trivial, ?_⟩) | (refine ⟨rfl, ?_⟩) | (refine ⟨?_, ?_⟩)))⟩
      | trace_state
end Go.Proofs.YtgikjdkdakfnkaaDoor
namespace Go.Proofs.YtgikjdkdakfnkaaDoor
open Go.SL
/-! ### what the laws of holds share -/
theorem over2_ac (S : Ship) (L : List Load) (port : Int) (hv : Inv S L) (hS : shipOk S = true) : AC Tryd.prog 19 [.ptr 1000 0, .d (.sc (.int .i64 port))] (hB S L) [1000, 1001, 1002] (fun v h' => v = .d (.sc (.int .i64 (overD L port))) ∧ Kp (hB S L) h') := by
  have hi := ship_in hS
  obtain ⟨B, hB'⟩ := Int.eq_ofNat_of_zero_le (show 0 ≤ S.bays by omega)
  obtain ⟨R, hR⟩ := Int.eq_ofNat_of_zero_le (show 0 ≤ S.rows by omega)
  have := over_ac S L port B R hB' hR (by omega) (by omega)
  rw [over_eq hv (by omega) B R hB' hR] at this
  exact this.mono (fun _ _ h => ⟨h.1, Kp.sub h.2⟩)
theorem stack2_ac (S : Ship) (L : List Load) (b r : Int) (hv : Inv S L) (hS : shipOk S = true) : AC Tryd.prog 21 [.ptr 1000 0, .d (.sc (.int .i64 b)), .d (.sc (.int .i64 r))] (hB S L) [1000, 1001, 1002] (fun v h' => v = .d (.sc (.int .i64 (stW L b r))) ∧ Kp (hB S L) h') := by
  have hi := ship_in hS
  have := Stack_ac S L b r (fun y hy => load_in hv y (stack_sub hv.nS hy))
  rw [stack_w hv (by omega)] at this
  exact this.mono (fun _ _ h => ⟨h.1, Kp.sub h.2⟩)
theorem loads2_ac (S : Ship) (L D : List Load) (hD : DocB L D) (hn : (L.map (·.sl)).Nodup) (hl : L.length ≤ 1048576) : AC Tryd.prog 23 [.ptr 1000 0] (hB S L) [1000, 1001, 1002]
    (fun r h' => r = .d (.sl 7 (D.map Load.enc)) ∧ Kp (hB S L) h') := (loads_ac S L D hD hn hl).mono (fun _ _ h => ⟨h.1, Kp.sub h.2⟩)
theorem awake2_ac : AC Tryd.prog 10 [] [hG] [9000] (fun r h' => r = .d (.sc (.bool true)) ∧ Kp [hG] h') := awake_ac.mono (fun _ _ h => ⟨h.1, Kp.sub h.2⟩)
/-- what the calls leave -/
theorem played {S : Ship} {ops : List BOp} (hS : shipOk S = true) (hl : ops.length ≤ 60) : Inv2 S (playS S [] ops) ∧ (playS S [] ops).length ≤ 60 := by
  obtain ⟨h1, h2⟩ := playS_inv ops (inv0 (S := S) (by have := ship_in hS; omega))
  exact ⟨h1, by simp only [List.length_nil] at h2; omega⟩
theorem over_in {S : Ship} {L : List Load} (_hv : Inv S L) (hl : L.length ≤ 60) (port : Int) : 0 ≤ overD L port ∧ overD L port ≤ 60 := by
  have key : ∀ (M : List Load) (f : Load → Int), (∀ x ∈ M, 0 ≤ f x ∧ f x ≤ 1) → 0 ≤ (M.map f).sum ∧ (M.map f).sum ≤ M.length := by
    intro M f
    induction M with
    | nil => intro _; simp
    | cons x M ih =>
      intro h
      have h1 := ih (fun y hy => h y (List.mem_cons_of_mem _ hy))
      have h2 := h x List.mem_cons_self
      rw [List.map_cons, List.sum_cons, List.length_cons]
      omega
  have := key L (fun x => if liftD L port x = true ∧ x.p > port then (1 : Int) else 0) (fun x _ => by split <;> omega)
  unfold overD
  omega
end Go.Proofs.YtgikjdkdakfnkaaDoor
