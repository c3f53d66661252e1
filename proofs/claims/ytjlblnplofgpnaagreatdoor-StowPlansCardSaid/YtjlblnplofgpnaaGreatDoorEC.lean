import Derived.Test.YtjlblnplofgpnaaGreatDoorDY
import Derived.Test.YtjlblnplofgpnaaGreatDoorDX
import Derived.Test.YtjlblnplofgpnaaGreatDoorDP
import Derived.Test.YtjlblnplofgpnaaGreatDoorAE
import Derived.Test.YtjlblnplofgpnaaGreatDoorTf
import Derived.Test.YtjlblnplofgpnaaGreatDoorTie
import Derived.Test.YtjlblnplofgpnaaGreatDoorCards
import Derived.WalkKit
import Derived.ProofKit
import Derived.OpenShut
import Derived.SizedLaws
import Derived.SevenTiedAt
namespace Go.Proofs.YtjlblnplofgpnaaGreatDoor
open Go.SL
/-! ### awake -/
def wS : Ship := ⟨⟨#[115]⟩, 2, 1, 1, 9, 9, 9, 9, 99⟩
def wA : Load := ⟨⟨0, 0, 0⟩, ⟨#[97]⟩, 4, 0, 0⟩
def wB : Load := ⟨⟨0, 0, 0⟩, ⟨#[98]⟩, 5, 0, 0⟩
def wA1 : Load := ⟨⟨1, 0, 0⟩, ⟨#[97]⟩, 4, 0, 0⟩
theorem w_e : planE wS [wA, wB] = 0 := by kernel_rfl
theorem w_l : lsort (planL wS 2 1 [wA, wB]) = [wB, wA1] := by kernel_rfl
theorem w_o : planO wS 2 1 [wA, wB] = [] := by kernel_rfl
theorem w_r : rightE wS [wB, wA1] = 0 := by kernel_rfl
theorem w_s : llE [wB, wA1] [wB, wA1] = true := by rw [llE_eq, decide_eq_true rfl]
set_option maxRecDepth 10000 in
set_option maxHeartbeats 8000000 in
theorem wake_ac : AC Tryz.prog 11 [] [hG] [9000] (fun r h' => r = .d (.sc (.bool true)) ∧ SubH [hG] h') := by
  have c1 := plan_ac wS [wA, wB] (by simp)
  have e1 : planR wS [wA, wB] = .tup [.d (.sl 7 ([wB, wA1].map Load.enc)), .d (.sl 1 []), .d (.sc (.int .i64 0))] := by
    rw [planR_yes w_e, show bN wS = 2 from rfl, show rN wS = 1 from rfl, w_l, w_o]
    unfold sortS
    rw [List.mergeSort_nil]
    rfl
  rw [e1] at c1
  have c2 := sright_ac wS [wB, wA1] (by simp)
  rw [w_r] at c2
  have c3 := rSame_ac [wB, wA1] [wB, wA1] (by simp)
  rw [w_s] at c3
  clear e1
  refine AC_enter Tryz.func11 rfl Tryz.ntmps11 (rv := [.tmp 0]) rfl rfl (by simp) (fun w X G => ?_)
  repeat' (first | ((with_reducible refine gA ?_); (first | refine AW_seq ?_ | refine AW_region ?_ | refine AW_ret ?_)) | ((with_reducible refine gS ?_); refine Es_s (T := Tryz.tab) rfl rfl rfl rfl ?_) | (((with_reducible refine gS ?_); apply Es_q); rfl; (first | rfl | (refine w_tt ?_; assumption)); refine LStep_call (c3) rfl rfl rfl rfl) | (((with_reducible refine gS ?_); apply Es_xg); rfl; (first | rfl | (refine w_tt ?_; assumption)); (first | refine LStep_callHN [] [] c1 rfl rfl ⟨rfl, trivial⟩ rfl ⟨trivial, trivial⟩ rfl rfl | refine LStep_callHN [] [] c2 rfl rfl ⟨rfl, trivial⟩ rfl ⟨trivial, trivial⟩ rfl rfl); rfl) | (((with_reducible refine gS ?_); apply Es_q); rfl; (first | rfl | (refine w_tt ?_; assumption)); (first | refine LStep_simp (T := Tryz.tab) rfl rfl | refine LStep_wrap (T := Tryz.tab) rfl rfl | (refine LStep_pickT rfl rfl ?_ rfl rfl; assumption) | (refine LStep_pickF rfl rfl ?_ rfl rfl; assumption) | (refine LStep_lit (T := Tryz.tab) rfl rfl rfl rfl rfl rfl rfl rfl ?_; (refine Nat.le_of_ble_eq_true ?_; rfl)) | refine LStep_buildN (T := Tryz.tab) rfl rfl rfl rfl rfl rfl rfl)) | (refine Es_skip rfl ?_ rfl ?_; (first | rfl | (refine w_tf ?_; assumption) | (refine w_ft ?_; assumption))) | (((with_reducible refine gS ?_); apply Es_xs); rfl; rfl; refine LStep_allocN (T := Tryz.tab) rfl rfl rfl rfl rfl rfl; rfl) | (((with_reducible refine gS ?_); apply Es_xn); rfl; rfl; (refine LStep_storeN (T := Tryz.tab) rfl rfl rfl rfl rfl rfl rfl ?_ rfl; (refine Nat.le_of_ble_eq_true ?_; rfl)); rfl) | (refine Es_split rfl ?_ (fun _ => ?_) (fun _ => ?_); ((fail_if_success (refine und_t ?_; assumption)); (fail_if_success (refine und_f ?_; assumption)); exact trivial)) | (with_reducible refine Es_nil ?_) | (with_reducible refine then_n ?_) | ((with_reducible refine gR ?_); first | refine ret1 rfl ?_ | refine ret2 rfl rfl ?_ | refine ret0 ?_ | refine end1 rfl ?_ | refine end0 ?_))
  all_goals first
    | exact ⟨rfl, by (repeat' (first | exact trivial | exact rfl | (refine ⟨Or.inl rfl, ?_⟩) | (refine ⟨Or.inr rfl, ?_⟩) | (refine ⟨Or.inr trivial, ?_⟩) | (refine ⟨rfl, ?_⟩) | (refine ⟨?_, ?_⟩)))⟩
    | (exfalso; simp [eqb] at *; done)
    | (refine ⟨?_, by (repeat' (first | exact trivial | exact rfl | (refine ⟨Or.inl rfl, ?_⟩) | (refine ⟨Or.inr rfl, ?_⟩) | (refine ⟨Or.inr trivial, ?_⟩) | (refine ⟨rfl, ?_⟩) | (refine ⟨?_, ?_⟩)))⟩; refine congrArg (fun b => AV.d (D.sc (Value.bool b))) ?_; simp [eqb]; done)
    | trace_state
theorem wakeK_ac : AC Tryz.prog 11 [] [hG] [9000] (fun r h' => r = .d (.sc (.bool true)) ∧ Kp [hG] h') := wake_ac.mono (fun _ _ h => ⟨h.1, Kp.sub h.2⟩)
theorem few_in {S : Ship} {l : List Load} (h : (fewL l && fewS S) = true) : l.length ≤ 13 ∧ (∀ x ∈ l, x.box.size ≤ 60) ∧ S.nm.size ≤ 60 := by
  unfold fewL fewS at h
  simp only [Bool.and_eq_true, decide_eq_true_eq, List.all_eq_true] at h
  refine ⟨h.1.1, fun x hx => ?_, h.2.1⟩
  have := h.1.2 x hx
  unfold fewOne at this
  simpa using this
theorem eqb_self (a : Int) : eqb a a = true := eqb_t.2 rfl
/-! ### StowRight -/
/-! ### StowPlans -/
set_option maxRecDepth 10000 in
set_option maxHeartbeats 8000000 in
theorem plans_ac (S : Ship) (l : List Load) (hl : l.length ≤ 140737488351232) : AC Tryz.prog 3 [.agg S.cs, .d (.sl 7 (l.map Load.enc))] [hG] [9000] (fun r h' => r = .d (.sc (.bool true)) ∧ SubH [hG] h') := by
  have ca := wakeK_ac
  have c0 := rFew_ac S l hl
  cases e0 : (fewL l && fewS S) with
  | false =>
    rw [e0] at c0
    refine AC_enter Tryz.func3 rfl Tryz.ntmps3 (rv := [.tmp 4]) rfl rfl (by simp) (fun w X G => ?_)
    repeat' (first | ((with_reducible refine gA ?_); (first | refine AW_seq ?_ | refine AW_region ?_ | refine AW_condT rfl ?_ | refine AW_condF rfl ?_ | refine AW_ret ?_ | refine AW_skip ?_)) | ((with_reducible refine gS ?_); refine Es_s (T := Tryz.tab) rfl rfl rfl rfl ?_) | (((with_reducible refine gS ?_); apply Es_q); rfl; rfl; (first | refine LStep_call (c0) rfl rfl rfl rfl | refine LStep_callB ca rfl rfl ⟨rfl, trivial⟩ rfl rfl)) | (refine Es_skip rfl ?_ rfl ?_; (first | rfl | (refine w_tf ?_; assumption) | (refine w_ft ?_; assumption))) | (((with_reducible refine gS ?_); apply Es_xs); rfl; rfl; refine LStep_boxN rfl rfl rfl rfl rfl rfl; rfl) | (with_reducible refine Es_nil ?_) | (with_reducible refine then_n ?_) | (with_reducible refine then_r ?_) | ((with_reducible refine gR ?_); first | refine ret1 rfl ?_ | refine ret2 rfl rfl ?_ | refine ret0 ?_ | refine end1 rfl ?_ | refine end0 ?_))
    all_goals first
      | exact ⟨rfl, by (repeat' (first | exact trivial | exact rfl | (refine ⟨Or.inl rfl, ?_⟩) | (refine ⟨Or.inr rfl, ?_⟩) | (refine ⟨Or.inr trivial, ?_⟩) | (refine ⟨rfl, ?_⟩) | (refine ⟨?_, ?_⟩)))⟩
      | trace_state
  | true =>
  rw [e0] at c0
  obtain ⟨h1, h2, h3⟩ := few_in e0
  have c1 := plan_ac S l (by omega)
  have c2 := order_ac l (by omega)
  have c3 := rOrder_ac l (by omega)
  have c4 := rSame_ac (isL ltO l) (isL ltO l) (by rw [(isL_perm l).length_eq]; omega)
  rw [llE_eq, decide_eq_true rfl] at c4
  have c5 := rWrong15_ac S l (by omega) (by omega) (fun x hx => by have := h2 x hx; omega)
  by_cases hE : planE S l = 0
  · have c6 := rPlan_ac S l (by omega) hE (by omega) (fun x hx => by have := h2 x hx; omega)
    rw [planR_yes hE] at c1
    have hS : shipOk S = true := by
      cases h : shipOk S with
      | true => rfl
      | false => unfold planE mayAllB at hE; rw [h] at hE; cases hE
    have hall := plan_all (S := S) (B := bN S) (R := rN S) l
    have hlen := hall.length_eq
    rw [List.length_append, List.length_map, List.length_map] at hlen
    have c7 := rSame_ac (lsort (planL S (bN S) (rN S) l)) (lsort (planL S (bN S) (rN S) l)) (by rw [lsort_len]; omega)
    rw [llE_eq, decide_eq_true rfl] at c7
    have hsl : (sortS (planO S (bN S) (rN S) l)).length ≤ 1048576 := by rw [(sortS_perm _).length_eq]; omega
    have c8 := rTexts_ac (sortS (planO S (bN S) (rN S) l)) (sortS (planO S (bN S) (rN S) l)) hsl hsl
    rw [decide_eq_true rfl] at c8
    rw [hE] at c5
    have f1 : eqb 0 0 = true := eqb_self 0
    have f2 : (!(eqb 0 0)) = false := by rw [f1]; rfl
    generalize lsort (planL S (bN S) (rN S) l) = D at *
    generalize sortS (planO S (bN S) (rN S) l) = o at *
    generalize isL ltO l = O at *
    clear hall hlen hE e0
    refine AC_enter Tryz.func3 rfl Tryz.ntmps3 (rv := [.tmp 4]) rfl rfl (by simp) (fun w X G => ?_)
    repeat' (first | ((with_reducible refine gA ?_); (first | refine AW_seq ?_ | refine AW_region ?_ | refine AW_condF rfl ?_ | (refine AW_condN rfl ?_ ?_; assumption) | refine AW_ret ?_ | refine AW_skip ?_)) | ((with_reducible refine gS ?_); refine Es_s (T := Tryz.tab) rfl rfl rfl rfl ?_) | (((with_reducible refine gS ?_); apply Es_q); rfl; (first | rfl | (refine w_tt ?_; assumption)); (first | refine LStep_call (c0) rfl rfl rfl rfl | refine LStep_callB ca rfl rfl ⟨rfl, trivial⟩ rfl rfl | refine LStep_call (c2) rfl rfl rfl rfl | refine LStep_call (c3) rfl rfl rfl rfl | refine LStep_call (c4) rfl rfl rfl rfl | refine LStep_call (c5) rfl rfl rfl rfl | refine LStep_call (c6) rfl rfl rfl rfl | refine LStep_call (c7) rfl rfl rfl rfl | refine LStep_call (c8) rfl rfl rfl rfl)) | (((with_reducible refine gS ?_); apply Es_xg); rfl; (first | rfl | (refine w_tt ?_; assumption)); refine LStep_callHN [] [] c1 rfl rfl ⟨rfl, trivial⟩ rfl ⟨trivial, trivial⟩ rfl rfl; rfl) | (((with_reducible refine gS ?_); apply Es_q); rfl; (first | rfl | (refine w_tt ?_; assumption)); (first | refine LStep_simp (T := Tryz.tab) rfl rfl | (refine LStep_pickT rfl rfl ?_ rfl rfl; assumption))) | (refine Es_skip rfl ?_ rfl ?_; (first | rfl | (refine w_tf ?_; assumption) | (refine w_ft ?_; assumption))) | (((with_reducible refine gS ?_); apply Es_xs); rfl; rfl; refine LStep_boxN rfl rfl rfl rfl rfl rfl; rfl) | (with_reducible refine Es_nil ?_) | (with_reducible refine then_n ?_) | ((with_reducible refine gR ?_); first | refine ret1 rfl ?_ | refine ret2 rfl rfl ?_ | refine ret0 ?_ | refine end1 rfl ?_ | refine end0 ?_))
    all_goals first
      | exact ⟨rfl, by (repeat' (first | exact trivial | exact rfl | (refine ⟨Or.inl rfl, ?_⟩) | (refine ⟨Or.inr rfl, ?_⟩) | (refine ⟨Or.inr trivial, ?_⟩) | (refine ⟨rfl, ?_⟩) | (refine ⟨?_, ?_⟩)))⟩
      | trace_state
  · rw [planR_no hE] at c1
    have f1 := eqb_self (planE S l)
    have f2 : (!(eqb (planE S l) 0)) = true := by rw [eqb_f.2 hE]; rfl
    generalize planE S l = e at *
    generalize isL ltO l = O at *
    clear hE e0
    refine AC_enter Tryz.func3 rfl Tryz.ntmps3 (rv := [.tmp 4]) rfl rfl (by simp) (fun w X G => ?_)
    repeat' (first | ((with_reducible refine gA ?_); (first | refine AW_seq ?_ | refine AW_region ?_ | refine AW_condF rfl ?_ | (refine AW_condY rfl ?_ ?_; assumption) | refine AW_ret ?_ | refine AW_skip ?_)) | ((with_reducible refine gS ?_); refine Es_s (T := Tryz.tab) rfl rfl rfl rfl ?_) | (((with_reducible refine gS ?_); apply Es_q); rfl; (first | rfl | (refine w_tt ?_; assumption)); (first | refine LStep_call (c0) rfl rfl rfl rfl | refine LStep_callB ca rfl rfl ⟨rfl, trivial⟩ rfl rfl | refine LStep_call (c2) rfl rfl rfl rfl | refine LStep_call (c3) rfl rfl rfl rfl | refine LStep_call (c4) rfl rfl rfl rfl | refine LStep_call (c5) rfl rfl rfl rfl)) | (((with_reducible refine gS ?_); apply Es_xg); rfl; (first | rfl | (refine w_tt ?_; assumption)); refine LStep_callHN [] [] c1 rfl rfl ⟨rfl, trivial⟩ rfl ⟨trivial, trivial⟩ rfl rfl; rfl) | (((with_reducible refine gS ?_); apply Es_q); rfl; (first | rfl | (refine w_tt ?_; assumption)); (first | refine LStep_simp (T := Tryz.tab) rfl rfl | refine LStep_wrap (T := Tryz.tab) rfl rfl | (refine LStep_pickT rfl rfl ?_ rfl rfl; assumption) | (refine LStep_pickF rfl rfl ?_ rfl rfl; assumption))) | (refine Es_skip rfl ?_ rfl ?_; (first | rfl | (refine w_tf ?_; assumption) | (refine w_ft ?_; assumption))) | (((with_reducible refine gS ?_); apply Es_xs); rfl; rfl; refine LStep_boxN rfl rfl rfl rfl rfl rfl; rfl) | (refine Es_split rfl ?_ (fun _ => ?_) (fun _ => ?_); ((fail_if_success (refine und_t ?_; assumption)); (fail_if_success (refine und_f ?_; assumption)); exact trivial)) | (with_reducible refine Es_nil ?_) | (with_reducible refine then_n ?_) | (with_reducible refine then_r ?_) | ((with_reducible refine gR ?_); first | refine ret1 rfl ?_ | refine ret2 rfl rfl ?_ | refine ret0 ?_ | refine end1 rfl ?_ | refine end0 ?_))
    all_goals first
      | exact ⟨rfl, by (repeat' (first | exact trivial | exact rfl | (refine ⟨Or.inl rfl, ?_⟩) | (refine ⟨Or.inr rfl, ?_⟩) | (refine ⟨Or.inr trivial, ?_⟩) | (refine ⟨rfl, ?_⟩) | (refine ⟨?_, ?_⟩)))⟩
      | (refine ⟨?_, by (repeat' (first | exact trivial | exact rfl | (refine ⟨Or.inl rfl, ?_⟩) | (refine ⟨Or.inr rfl, ?_⟩) | (refine ⟨Or.inr trivial, ?_⟩) | (refine ⟨rfl, ?_⟩) | (refine ⟨?_, ?_⟩)))⟩; refine congrArg (fun b => AV.d (D.sc (Value.bool b))) ?_; exact f1)
      | (exfalso; simp [eqb] at *; done)
      | trace_state
/-! ### StowUnloads -/
end Go.Proofs.YtjlblnplofgpnaaGreatDoor
/- What the rows of this seat ask of the program, once; the variable that they lay. -/
namespace Go.Proofs.YtjlblnplofgpnaaGreatDoor
open Go.SL Go.ChangeShapes Go.WideShapes Go.ChangeAt Go.RowKit

theorem own : ownKnob Tryz.prog.godebug = none := by kernel_rfl
theorem kids : Kids Tryz.prog (· < Tryz.prog.types.size) := kids_rows (by kernel_rfl) (by kernel_rfl)
theorem full : ∀ t e, t < Tryz.prog.types.size → Tryz.prog.underlying t = some (.slice e) → 0 < Tryz.prog.cellsOf e := slices_full_of _ (by kernel_rfl)
theorem small {t : Nat} (h : Nat.blt t Tryz.prog.types.size = true) : t < Tryz.prog.types.size := by rwa [Nat.blt_eq] at h
def shipS : List CS := [.str, .int .i64, .int .i64, .int .i64, .int .i64, .int .i64, .int .i64, .int .i64, .int .i64]
theorem argK_ship : argK Tryz.tab 23 = some (true, shipS) := by kernel_rfl
theorem ship_of {x : AV} (h : OkArg (true, shipS) x) : ∃ S : Ship, x = .agg S.cs ∧ S.nm.size ≤ 140737488351232 := by
  obtain ⟨ds, rfl, h⟩ := h
  unfold shipS at h
  obtain ⟨_, _, rfl, h1, h⟩ := h.cons_inv
  obtain ⟨_, _, rfl, h2, h⟩ := h.cons_inv
  obtain ⟨_, _, rfl, h3, h⟩ := h.cons_inv
  obtain ⟨_, _, rfl, h4, h⟩ := h.cons_inv
  obtain ⟨_, _, rfl, h5, h⟩ := h.cons_inv
  obtain ⟨_, _, rfl, h6, h⟩ := h.cons_inv
  obtain ⟨_, _, rfl, h7, h⟩ := h.cons_inv
  obtain ⟨_, _, rfl, h8, h⟩ := h.cons_inv
  obtain ⟨_, _, rfl, h9, h⟩ := h.cons_inv
  obtain rfl := h.nil_inv
  obtain ⟨s, rfl, hs⟩ := h1.str_inv
  obtain ⟨n2, rfl, _⟩ := h2.i64_inv
  obtain ⟨n3, rfl, _⟩ := h3.i64_inv
  obtain ⟨n4, rfl, _⟩ := h4.i64_inv
  obtain ⟨n5, rfl, _⟩ := h5.i64_inv
  obtain ⟨n6, rfl, _⟩ := h6.i64_inv
  obtain ⟨n7, rfl, _⟩ := h7.i64_inv
  obtain ⟨n8, rfl, _⟩ := h8.i64_inv
  obtain ⟨n9, rfl, _⟩ := h9.i64_inv
  exact ⟨⟨s, n2, n3, n4, n5, n6, n7, n8, n9⟩, rfl, hs⟩
def loadS : List CS := [.int .i64, .int .i64, .int .i64, .str, .int .i64, .int .i64, .int .i64]
theorem ldD_of (e : List D) (h : OkCs loadS e) : ∃ y : Load, e = y.enc ∧ y.box.size ≤ 140737488351232 := by
  unfold loadS at h
  obtain ⟨_, _, rfl, h1, h⟩ := h.cons_inv
  obtain ⟨_, _, rfl, h2, h⟩ := h.cons_inv
  obtain ⟨_, _, rfl, h3, h⟩ := h.cons_inv
  obtain ⟨_, _, rfl, h4, h⟩ := h.cons_inv
  obtain ⟨_, _, rfl, h5, h⟩ := h.cons_inv
  obtain ⟨_, _, rfl, h6, h⟩ := h.cons_inv
  obtain ⟨_, _, rfl, h7, h⟩ := h.cons_inv
  obtain rfl := h.nil_inv
  obtain ⟨n1, rfl, _⟩ := h1.i64_inv
  obtain ⟨n2, rfl, _⟩ := h2.i64_inv
  obtain ⟨n3, rfl, _⟩ := h3.i64_inv
  obtain ⟨s4, rfl, hs⟩ := h4.str_inv
  obtain ⟨n5, rfl, _⟩ := h5.i64_inv
  obtain ⟨n6, rfl, _⟩ := h6.i64_inv
  obtain ⟨n7, rfl, _⟩ := h7.i64_inv
  exact ⟨⟨⟨n1, n2, n3⟩, s4, n5, n6, n7⟩, rfl, hs⟩
def loadsS : List CS := [.sl 7 64 loadS]
theorem argK_loads : argK Tryz.tab 24 = some (false, loadsS) := by kernel_rfl
theorem loads_of {x : AV} (h : OkArg (false, loadsS) x) : ∃ l : List Load, x = .d (.sl 7 (l.map Load.enc)) ∧ l.length ≤ 140737488351232 := by
  obtain ⟨d, rfl, h⟩ := h
  obtain ⟨l, rfl, h1, h2⟩ := h.list ldD_of
  exact ⟨l, rfl, by omega⟩
/-! ### the variable -/
def laidL : List (String × DataW Unit) := [("supercargo/goods.apart", Rows.laid_supercargo_goods_apart)]
def laidTy : Nat := 155
def laidArr : Array Value := #[.int .i64 0, .int .i64 1020, .int .i64 40, .int .i64 288, .int .i64 288, .int .i64 320, .int .i64 0, .int .i64 512, .int .i64 0, .int .i64 0]
theorem var_laid {W : World} (h : laidMetH Tryz.prog laidL W) (hs : W.ShapedOpen Tryz.prog) : W.heap[0]? = some (.cells laidArr 155 (0, 0)) := by
  rw [MakeChecks.laidMetH_plain _ _ _ (by kernel_rfl)] at h
  obtain ⟨ps, ⟨g, t, cs, fuel, p, q, hg, ht, hv, hd, _, _⟩, _, _⟩ := h
  obtain rfl := Option.some.inj ((show Tryz.prog.globalNamed "supercargo/goods.apart" = some 0 by kernel_rfl).symm.trans hg)
  obtain rfl := Option.some.inj ((show (Tryz.prog.globals[0]?).map (·.type) = some 155 by kernel_rfl).symm.trans ht)
  obtain ⟨zs, hzs⟩ : ∃ zs, ((begin Tryz.prog (fun _ _ => 0) default).world.heap[0]?).bind Obj.row? = some (zs, 155) := ⟨(Array.replicate 10 (.int .i64 0)), by kernel_rfl⟩
  obtain ⟨cs2, h2, _, _⟩ := hs.1 0 zs 155 (by rw [← Nat.blt_eq]; kernel_rfl) hzs
  have hcs : cs = cs2 := by
    unfold World.var? at hv
    rw [hg] at hv
    simp only [Option.bind_some, h2, Option.some.injEq] at hv
    exact hv.symm
  subst hcs
  obtain ⟨xs, m, _, ex, hlen, hl, hel⟩ := DataW.trod_array Tryz.underlying155 hd
  have c3 : Tryz.prog.cellsOf 3 = 1 := by kernel_rfl
  have cT : Tryz.prog.cellsOf 155 = 10 := by kernel_rfl
  rw [cT] at hlen
  have e3 : (xs.map (·.1)) = apTbl.map fun n => .lit (.int .i64 n) := (DataW.agg.inj (Prod.mk.inj ex).1).symm
  have key : cs.toList = laidArr.toList := by
    refine List.ext_getElem? (fun r => ?_)
    by_cases hr : r < 10
    · have hE := hel r hr
      rw [c3, Nat.mul_one, List.getElem?_eq_getElem (by omega)] at hE
      obtain ⟨z, e1, e2, _⟩ := DataW.trod_int Tryz.underlying3 hE
      have e4 : (xs.map (·.1))[r]? = (apTbl.map fun n => (DataW.lit (.int .i64 n) : DataW Unit))[r]? := by rw [e3]
      have hlenA : apTbl.length = 10 := rfl
      rw [List.getElem?_map, List.getElem?_map, List.getElem?_eq_getElem (by omega : r < xs.length), List.getElem?_eq_getElem (by omega : r < apTbl.length), e2] at e4
      simp only [Option.map_some, Option.some.injEq, DataW.lit.injEq, Lit.int.injEq, true_and] at e4
      have h0 : ((cs.toList.drop r).take 1)[0]? = some (.int .i64 z) := by rw [e1]; rfl
      have h1 : cs.toList[r]? = some (.int .i64 z) := by simpa using h0
      rw [h1, e4]
      have h9 : laidArr.toList = apTbl.map (Value.int .i64) := rfl
      rw [h9, List.getElem?_map, List.getElem?_eq_getElem (by omega : r < apTbl.length)]
      rfl
    · rw [List.getElem?_eq_none (by omega), List.getElem?_eq_none (by show 10 ≤ r; omega)]
  have : cs = laidArr := Array.toList_inj.1 key
  rw [h2, this]
theorem laidInts : ∀ v ∈ laidArr.toList, ∃ k n, v = .int k n := by
  intro v hv
  have : v ∈ apTbl.map (Value.int .i64) := hv
  obtain ⟨n, _, rfl⟩ := List.mem_map.1 this
  exact ⟨_, _, rfl⟩
end Go.Proofs.YtjlblnplofgpnaaGreatDoor
