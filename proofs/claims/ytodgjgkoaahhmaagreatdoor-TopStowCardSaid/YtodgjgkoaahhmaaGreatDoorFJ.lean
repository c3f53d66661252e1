import Derived.Test.YtodgjgkoaahhmaaGreatDoorSq
import Derived.Test.YtodgjgkoaahhmaaGreatDoorTk
import Derived.Test.YtodgjgkoaahhmaaGreatDoorPl
import Derived.Test.YtodgjgkoaahhmaaGreatDoorV0
import Derived.Test.YtodgjgkoaahhmaaGreatDoorH1
import Derived.Test.YtodgjgkoaahhmaaGreatDoorTl
import Derived.Test.YtodgjgkoaahhmaaGreatDoorTa
import Derived.Test.YtodgjgkoaahhmaaGreatDoorGD
namespace Go.Proofs.YtodgjgkoaahhmaaGreatDoor
open Go.SL
/-! ### claimants: plain -/
structure Cl where
  nm : ByteArray
  th : ByteArray
  rt : Int
  dy : Int
  am : Int
  deriving DecidableEq
def Cl.enc (x : Cl) : List D := [.sc (.string x.nm), .sc (.string x.th), .sc (.int .i64 x.rt), .sc (.int .i64 x.dy), .sc (.int .i64 x.am)]
def Cl.cs (x : Cl) : List AV := [.d (.sc (.string x.nm)), .d (.sc (.string x.th)), .d (.sc (.int .i64 x.rt)), .d (.sc (.int .i64 x.dy)), .d (.sc (.int .i64 x.am))]
def cI (a b : Int) : Int := if a < b then -1 else if b < a then 1 else 0
/-! #### the best claim of a thing -/
end Go.Proofs.YtodgjgkoaahhmaaGreatDoor
namespace Go.Proofs.YtodgjgkoaahhmaaGreatDoor
open Go.SL
/-! ### awards: plain -/
abbrev Aw := ByteArray × ByteArray
/-! #### the document's award -/
end Go.Proofs.YtodgjgkoaahhmaaGreatDoor
namespace Go.SL
/-! ### a stable merge: plain -/
section
variable {α : Type} {lt : α → α → Bool}
end
end Go.SL
namespace Go.SL
/-! ### slices' symMerge: plain -/
section
variable {α : Type} {lt : α → α → Bool}
end
end Go.SL
namespace Go.Proofs.YtodgjgkoaahhmaaGreatDoor
open Go.SL
/-! ### cmp -/
/-! ### judge -/
theorem KpNil {f : FuncId} {args : List AV} {v : AV} (h : AC Tryz.prog f args [] [] (fun r _ => r = v)) : AC Tryz.prog f args [] [] (fun r h' => r = v ∧ Kp [] h') := h.mono (fun _ _ h => ⟨h, fun id o hg => by cases hg⟩)





/-! ### the document's Better -/


end Go.Proofs.YtodgjgkoaahhmaaGreatDoor
namespace Go.Proofs.YtodgjgkoaahhmaaGreatDoor
open Go.SL
/-! ### Rank -/
section
open Go.RowKit Go.Proofs Go.Shelf
end


/-! ### the document's Rank, Same, Few -/
end Go.Proofs.YtodgjgkoaahhmaaGreatDoor
namespace Go.Proofs.YtodgjgkoaahhmaaGreatDoor
open Go.SL
/-! ### share.wrong -/
def nN (n : Nat) : List D := [.sc (.int .i64 ((n : Nat) : Int))]
def nU (n : Nat) : List D := [.sc (.int .u64 ((n : Nat) : Int))]
theorem sw1_ac (x : Nat) : AC Tryz.prog 54 [.d (.sc (.int .i64 ((x : Nat) : Int)))] [] [] (fun r _ => r = .d (.sc (.bool false))) := by
  have g : ltb ((x : Nat) : Int) 0 = false := by rw [ltb_f]; omega
  refine AC_enter Tryz.func54 rfl Tryz.ntmps54 (rv := [.tmp 2]) rfl rfl (by simp) (fun w X G => ?_)
  repeat' (first | ((with_reducible refine gA ?_); (first | refine AW_seq ?_ | refine AW_region ?_ | refine AW_ret ?_)) | ((with_reducible refine gS ?_); refine Es_s (T := Tryz.tab) rfl rfl rfl rfl ?_) | (with_reducible refine Es_nil ?_) | (with_reducible refine then_n ?_) | ((with_reducible refine gR ?_); first | refine ret1 rfl ?_ | refine ret2 rfl rfl ?_ | refine ret0 ?_ | refine end1 rfl ?_ | refine end0 ?_))
  rw [g]
theorem sw2_ac (x : Nat) (hx : x ≤ 1099511627776) : AC Tryz.prog 55 [.d (.sc (.int .i64 ((x : Nat) : Int)))] [] [] (fun r _ => r = .d (.sc (.bool false))) := by
  have g : ltb 1099511627776 ((x : Nat) : Int) = false := by rw [ltb_f]; omega
  refine AC_enter Tryz.func55 rfl Tryz.ntmps55 (rv := [.tmp 2]) rfl rfl (by simp) (fun w X G => ?_)
  repeat' (first | ((with_reducible refine gA ?_); (first | refine AW_seq ?_ | refine AW_region ?_ | refine AW_ret ?_)) | ((with_reducible refine gS ?_); refine Es_s (T := Tryz.tab) rfl rfl rfl rfl ?_) | (with_reducible refine Es_nil ?_) | (with_reducible refine then_n ?_) | ((with_reducible refine gR ?_); first | refine ret1 rfl ?_ | refine ret2 rfl rfl ?_ | refine ret0 ?_ | refine end1 rfl ?_ | refine end0 ?_))
  rw [g]
theorem sw3_ac (x : Nat) : AC Tryz.prog 56 [.d (.sc (.int .i64 ((x : Nat) : Int)))] [] [] (fun r _ => r = .d (.sc (.bool (decide (0 < x))))) := by
  have g : ltb 0 ((x : Nat) : Int) = decide (0 < x) := by
    rw [Bool.eq_iff_iff, ltb_t, decide_eq_true_eq]; omega
  refine AC_enter Tryz.func56 rfl Tryz.ntmps56 (rv := [.tmp 2]) rfl rfl (by simp) (fun w X G => ?_)
  repeat' (first | ((with_reducible refine gA ?_); (first | refine AW_seq ?_ | refine AW_region ?_ | refine AW_ret ?_)) | ((with_reducible refine gS ?_); refine Es_s (T := Tryz.tab) rfl rfl rfl rfl ?_) | (with_reducible refine Es_nil ?_) | (with_reducible refine then_n ?_) | ((with_reducible refine gR ?_); first | refine ret1 rfl ?_ | refine ret2 rfl rfl ?_ | refine ret0 ?_ | refine end1 rfl ?_ | refine end0 ?_))
  rw [g]
def idxG {α : Type} (q : α → Bool) : List α → Nat → Int
  | [], _ => -1
  | x :: r, i => if q x then i else idxG q r (i + 1)
theorem idxG_any {α : Type} (q : α → Bool) : ∀ (l : List α) (i : Nat), leb 0 (idxG q l i) = l.any q
  | [], i => by rw [idxG, List.any_nil, leb_f]; omega
  | x :: r, i => by
    rw [idxG, List.any_cons]
    cases hq : q x
    · simpa using idxG_any q r (i + 1)
    · rw [if_pos rfl, Bool.true_or, leb_t]; omega
set_option maxRecDepth 10000 in
theorem idxI_ac (l : List Nat) (f : FuncId) (q : Nat → Bool) (hl : l.length ≤ 140737488351232) (hf : ∀ x ∈ l, AC Tryz.prog f [.d (.sc (.int .i64 ((x : Nat) : Int)))] [] [] (fun r _ => r = .d (.sc (.bool (q x))))) :
    AC Tryz.prog 95 [.d (.sl 1 (l.map nN)), .fn f []] [] [] (fun r _ => r = .d (.sc (.int .i64 (idxG q l 0)))) := by
  refine AC_enter Tryz.func95 rfl Tryz.ntmps95 (rv := [.tmp 4]) rfl rfl (by simp) (fun w X G => ?_)
  repeat' (first | ((with_reducible refine gA ?_); (first | refine AW_seq ?_ | refine AW_region ?_ | refine AW_block ?_)) | ((with_reducible refine gS ?_); refine Es_s (T := Tryz.tab) rfl rfl rfl rfl ?_) | (((with_reducible refine gS ?_); apply Es_q); rfl; rfl; refine LStep_lenM (T := Tryz.tab) rfl rfl rfl rfl) | (with_reducible refine Es_nil ?_) | (with_reducible refine then_n ?_))
  refine AW_forE (S := Nat) (fun k => k ≤ l.length ∧ idxG q l 0 = idxG q (l.drop k) k) (fun k => [(8, .d (.sc (.int .i64 (k : Nat))))]) (fun _ => []) (fun k => l.length - k) 0 ⟨by omega, rfl⟩ (by (repeat' (first | exact trivial | exact rfl | (refine ⟨Or.inl rfl, ?_⟩) | (refine ⟨Or.inr rfl, ?_⟩) | (refine ⟨Or.inr trivial, ?_⟩) | (refine ⟨rfl, ?_⟩) | (refine ⟨?_, ?_⟩)))) (by (repeat' (first | exact trivial | exact rfl | (refine ⟨Or.inl rfl, ?_⟩) | (refine ⟨Or.inr rfl, ?_⟩) | (refine ⟨Or.inr trivial, ?_⟩) | (refine ⟨rfl, ?_⟩) | (refine ⟨?_, ?_⟩)))) ?_
  intro k ⟨hk, hg⟩
  by_cases hlt : k < l.length
  · obtain ⟨x, hx, hd⟩ := drop_at hlt
    rw [hd, idxG] at hg
    have hfx := KpNil (hf x (List.mem_of_getElem? hx))
    repeat' (first | ((with_reducible refine gA ?_); (first | refine AW_seq ?_ | refine AW_region ?_ | (refine AW_cond rfl (fun hc => ?_) (fun hc => ?_) <;> try (exfalso; simp only [cmpL] at hc; omega)) | refine AW_block ?_ | refine AW_ret ?_ | refine AW_skip ?_)) | ((with_reducible refine gS ?_); refine Es_s (T := Tryz.tab) rfl rfl rfl rfl ?_) | (((with_reducible refine gS ?_); apply Es_q); rfl; rfl; refine LStep_callB hfx rfl rfl trivial rfl rfl) | (((with_reducible refine gS ?_); apply Es_q); rfl; rfl; (first | (refine LStep_add rfl rfl rfl rfl ?_; (refine IntWalk.i64_in _ ?_; first | omega | (simp only [cmps] at *; omega))) | (refine LStep_indexM (T := Tryz.tab) (c := ?_) rfl rfl rfl rfl rfl rfl ?_; rotate_left; assumption))) | (with_reducible refine Es_nil ?_) | (with_reducible refine then_n ?_) | (with_reducible refine then_r ?_) | (with_reducible refine block_n ?_) | (with_reducible refine block_r ?_) | ((with_reducible refine gR ?_); first | refine ret1 rfl ?_ | refine ret2 rfl rfl ?_ | refine ret0 ?_ | refine end1 rfl ?_ | refine end0 ?_))
    · have h : q x = true := by assumption
      rw [hg, if_pos h]
    · have h : q x = false := by assumption
      refine ⟨k + 1, ?_, by omega, by (repeat' (first | exact trivial | exact rfl | (refine ⟨Or.inl rfl, ?_⟩) | (refine ⟨Or.inr rfl, ?_⟩) | (refine ⟨Or.inr trivial, ?_⟩) | (refine ⟨rfl, ?_⟩) | (refine ⟨?_, ?_⟩))), by (repeat' (first | exact trivial | exact rfl | (refine ⟨Or.inl rfl, ?_⟩) | (refine ⟨Or.inr rfl, ?_⟩) | (refine ⟨Or.inr trivial, ?_⟩) | (refine ⟨rfl, ?_⟩) | (refine ⟨?_, ?_⟩))), by (repeat' (first | exact trivial | exact rfl | (refine ⟨Or.inl rfl, ?_⟩) | (refine ⟨Or.inr rfl, ?_⟩) | (refine ⟨Or.inr trivial, ?_⟩) | (refine ⟨rfl, ?_⟩) | (refine ⟨?_, ?_⟩))), by (repeat' (first | exact trivial | exact rfl | (refine ⟨Or.inl rfl, ?_⟩) | (refine ⟨Or.inr rfl, ?_⟩) | (refine ⟨Or.inr trivial, ?_⟩) | (refine ⟨rfl, ?_⟩) | (refine ⟨?_, ?_⟩)))⟩; exact ⟨by omega, by rw [hg, if_neg (by simp [h])]⟩
  · have : k = l.length := by omega
    subst this
    repeat' (first | ((with_reducible refine gA ?_); (first | refine AW_seq ?_ | refine AW_region ?_ | (refine AW_cond rfl (fun hc => ?_) (fun hc => ?_) <;> try (exfalso; simp only [cmpL] at hc; omega)) | refine AW_ret ?_ | refine AW_exit ?_)) | ((with_reducible refine gS ?_); refine Es_s (T := Tryz.tab) rfl rfl rfl rfl ?_) | (with_reducible refine Es_nil ?_) | (with_reducible refine then_n ?_) | (with_reducible refine then_e ?_) | ((with_reducible refine block_e ?_ ?_); rfl) | ((with_reducible refine gR ?_); first | refine ret1 rfl ?_ | refine ret2 rfl rfl ?_ | refine ret0 ?_ | refine end1 rfl ?_ | refine end0 ?_))
    rw [hg, drop_end, idxG]
set_option maxRecDepth 10000 in
theorem conI_ac (l : List Nat) (f : FuncId) (q : Nat → Bool) (hl : l.length ≤ 140737488351232) (hf : ∀ x ∈ l, AC Tryz.prog f [.d (.sc (.int .i64 ((x : Nat) : Int)))] [] [] (fun r _ => r = .d (.sc (.bool (q x))))) :
    AC Tryz.prog 53 [.d (.sl 1 (l.map nN)), .fn f []] [] [] (fun r _ => r = .d (.sc (.bool (l.any q)))) := by
  refine AC_enter Tryz.func53 rfl Tryz.ntmps53 (rv := [.tmp 4]) rfl rfl (by simp) (fun w X G => ?_)
  repeat' (first | ((with_reducible refine gA ?_); (first | refine AW_seq ?_ | refine AW_region ?_ | refine AW_ret ?_)) | ((with_reducible refine gS ?_); refine Es_s (T := Tryz.tab) rfl rfl rfl rfl ?_) | (((with_reducible refine gS ?_); apply Es_q); rfl; rfl; refine LStep_call (idxI_ac l f q hl hf) rfl rfl rfl rfl) | (with_reducible refine Es_nil ?_) | (with_reducible refine then_n ?_) | ((with_reducible refine gR ?_); first | refine ret1 rfl ?_ | refine ret2 rfl rfl ?_ | refine ret0 ?_ | refine end1 rfl ?_ | refine end0 ?_))
  rw [idxG_any]
set_option maxRecDepth 10000 in
/-- a total and weights that may be -/
theorem shareWrong_ac (t : Nat) (l : List Nat) (ht : t ≤ 1099511627776) (h0 : l ≠ []) (hl : l.length ≤ 4096) (hw : ∀ x ∈ l, x ≤ 1099511627776) (hp : 0 < t → ∃ x ∈ l, 0 < x) :
    AC Tryz.prog 25 [.d (.sc (.int .i64 ((t : Nat) : Int))), .d (.sl 1 (l.map nN))] [] [] (fun r _ => r = .d (.sc (.int .i64 0))) := by
  have hlp := List.length_pos_iff.2 h0
  have c1 := conI_ac l 54 (fun _ => false) (by omega) (fun x _ => sw1_ac x)
  have c2 := KpNil (sw2_ac t ht)
  have c3 := conI_ac l 55 (fun _ => false) (by omega) (fun x hx => sw2_ac x (hw x hx))
  have c4 := conI_ac l 56 (fun x => decide (0 < x)) (by omega) (fun x _ => sw3_ac x)
  have e1 : l.any (fun _ => false) = false := by simp
  have g1 : ltb ((t : Nat) : Int) 0 = false := by rw [ltb_f]; omega
  have g2 : eqb (((l.map nN).length : Nat) : Int) 0 = false := by rw [eqb_f, List.length_map]; omega
  have g3 : ltb 4096 (((l.map nN).length : Nat) : Int) = false := by rw [ltb_f, List.length_map]; omega
  have g2' : eqb ((l.length : Nat) : Int) 0 = false := by rw [eqb_f]; omega
  have g3' : ltb 4096 ((l.length : Nat) : Int) = false := by rw [ltb_f]; omega
  rw [e1] at c1 c3
  by_cases h : t = 0
  · have g4 : ltb 0 ((t : Nat) : Int) = false := by rw [ltb_f]; omega
    refine AC_enter Tryz.func25 rfl Tryz.ntmps25 (rv := [.tmp 4]) rfl rfl (by simp) (fun w X G => ?_)
    repeat' (first | ((with_reducible refine gA ?_); (first | refine AW_seq ?_ | refine AW_region ?_ | refine AW_condF rfl ?_ | refine AW_ret ?_ | refine AW_skip ?_)) | ((with_reducible refine gS ?_); refine Es_s (T := Tryz.tab) rfl rfl rfl rfl ?_) | (((with_reducible refine gS ?_); apply Es_q); rfl; (first | rfl | (refine w_ff ?_; assumption)); (first | refine LStep_call (c1) rfl rfl rfl rfl | refine LStep_callB c2 rfl rfl trivial rfl rfl | refine LStep_call (c3) rfl rfl rfl rfl)) | (((with_reducible refine gS ?_); apply Es_q); rfl; (first | rfl | (refine w_ff ?_; assumption)); (first | refine LStep_simp (T := Tryz.tab) rfl rfl | refine LStep_lenM (T := Tryz.tab) rfl rfl rfl rfl | (refine LStep_pickF rfl rfl ?_ rfl rfl; assumption))) | (refine Es_skip rfl ?_ rfl ?_; (first | rfl | (refine w_tf ?_; assumption) | (refine w_ft ?_; assumption))) | (with_reducible refine Es_nil ?_) | (with_reducible refine then_n ?_) | ((with_reducible refine gR ?_); first | refine ret1 rfl ?_ | refine ret2 rfl rfl ?_ | refine ret0 ?_ | refine end1 rfl ?_ | refine end0 ?_))
    all_goals first
      | rfl
      | trace_state
  · have g4 : ltb 0 ((t : Nat) : Int) = true := by rw [ltb_t]; omega
    have e2 : l.any (fun x => decide (0 < x)) = true := by
      obtain ⟨x, hx, hx0⟩ := hp (by omega)
      exact List.any_eq_true.2 ⟨x, hx, by rw [decide_eq_true_eq]; exact hx0⟩
    rw [e2] at c4
    refine AC_enter Tryz.func25 rfl Tryz.ntmps25 (rv := [.tmp 4]) rfl rfl (by simp) (fun w X G => ?_)
    repeat' (first | ((with_reducible refine gA ?_); (first | refine AW_seq ?_ | refine AW_region ?_ | refine AW_condF rfl ?_ | refine AW_ret ?_ | refine AW_skip ?_)) | ((with_reducible refine gS ?_); refine Es_s (T := Tryz.tab) rfl rfl rfl rfl ?_) | (((with_reducible refine gS ?_); apply Es_q); rfl; (first | rfl | (refine w_tt ?_; assumption) | (refine w_ff ?_; assumption)); (first | refine LStep_call (c1) rfl rfl rfl rfl | refine LStep_callB c2 rfl rfl trivial rfl rfl | refine LStep_call (c3) rfl rfl rfl rfl | refine LStep_call (c4) rfl rfl rfl rfl)) | (((with_reducible refine gS ?_); apply Es_q); rfl; (first | rfl | (refine w_tt ?_; assumption) | (refine w_ff ?_; assumption)); (first | refine LStep_simp (T := Tryz.tab) rfl rfl | refine LStep_lenM (T := Tryz.tab) rfl rfl rfl rfl | (refine LStep_pickT rfl rfl ?_ rfl rfl; assumption) | (refine LStep_pickF rfl rfl ?_ rfl rfl; assumption))) | (with_reducible refine Es_nil ?_) | (with_reducible refine then_n ?_) | ((with_reducible refine gR ?_); first | refine ret1 rfl ?_ | refine ret2 rfl rfl ?_ | refine ret0 ?_ | refine end1 rfl ?_ | refine end0 ?_))
    all_goals first
      | rfl
      | trace_state
end Go.Proofs.YtodgjgkoaahhmaaGreatDoor
namespace Go.Proofs.YtodgjgkoaahhmaaGreatDoor
open Go.SL
/-! ### slices.SortStableFunc at ints, 20 at most: 'less' reads objects that keep -/
section
variable {g : FuncId} {cmp : Nat → Nat → Int} {ro : List AV} {re : Nat} {rd : List (List D)}
/-- what the callback reads -/
def HR (ro : List AV) (re : Nat) (rd : List (List D)) : Hp := [(1100, some (.cells ro)), (1101, some (.arr re 1 rd))]
def H3 (ro : List AV) (re : Nat) (rd : List (List D)) (l : List Nat) : Hp := (1000, some (.arr 3 1 (l.map nN))) :: HR ro re rd
def cbN (g : FuncId) (cmp : Nat → Nat → Int) (n : Nat) (re : Nat) (rd : List (List D)) (x y : Nat) : Prop :=
  AC Tryz.prog g [.d (.sc (.int .i64 ((x : Nat) : Int))), .d (.sc (.int .i64 ((y : Nat) : Int))), .ptr 1100 0] (HR [.own 1101 n] re rd) [1100, 1101] (fun r h' => r = .d (.sc (.int .i64 (cmp x y))) ∧ Kp (HR [.own 1101 n] re rd) h')
/-- x on its way down: behind A the sorted P, x at j of it, then what is still to come -/
def arrG (A P : List Nat) (x : Nat) (R : List Nat) (j : Nat) : List Nat := A ++ (P.take j ++ x :: (P.drop j ++ R))
theorem arrG_len (A P : List Nat) (x : Nat) (R : List Nat) (j : Nat) (hj : j ≤ P.length) : (arrG A P x R j).length = A.length + P.length + (R.length + 1) := by
  unfold arrG
  simp only [List.length_append, List.length_cons, List.length_take, List.length_drop]
  omega
theorem arrG_at (A P : List Nat) (x : Nat) (R : List Nat) (j : Nat) (hj : j ≤ P.length) : (arrG A P x R j)[A.length + j]? = some x := by
  unfold arrG
  have hl : (P.take j).length = j := by rw [List.length_take]; omega
  rw [List.getElem?_append_right (by omega), show A.length + j - A.length = j by omega, List.getElem?_append_right (by omega), hl, Nat.sub_self]
  rfl
theorem arrG_pre (A P : List Nat) (x : Nat) (R : List Nat) (m y : Nat) (hy : P[m]? = some y) : (arrG A P x R (m + 1))[A.length + m]? = some y := by
  unfold arrG
  have hlt : m < P.length := (List.getElem?_eq_some_iff.1 hy).1
  have hl : (P.take (m + 1)).length = m + 1 := by rw [List.length_take]; omega
  rw [List.getElem?_append_right (by omega), show A.length + m - A.length = m by omega, List.getElem?_append_left (by omega), List.getElem?_take, if_pos (by omega), hy]
theorem set2_mid {α : Type} (A B : List α) (x y : α) : ((A ++ y :: x :: B).set (A.length + 1) y).set A.length x = A ++ x :: y :: B := by
  rw [List.set_append_right _ _ (by omega), show A.length + 1 - A.length = 1 by omega, List.set_append_right _ _ (by omega), Nat.sub_self]
  rfl
theorem arrG_swap (A P : List Nat) (x : Nat) (R : List Nat) (m y : Nat) (hy : P[m]? = some y) : ((arrG A P x R (m + 1)).set (A.length + (m + 1)) y).set (A.length + m) x = arrG A P x R m := by
  have hlt : m < P.length := (List.getElem?_eq_some_iff.1 hy).1
  have e1 : P.take (m + 1) = P.take m ++ [y] := take_at hy
  have e2 : P.drop m = y :: P.drop (m + 1) := by
    obtain ⟨y', h1, h2⟩ := drop_at hlt
    rw [hy] at h1
    cases h1
    exact h2
  have hl : (A ++ P.take m).length = A.length + m := by rw [List.length_append, List.length_take]; omega
  have h := set2_mid (A ++ P.take m) (P.drop (m + 1) ++ R) x y
  rw [hl] at h
  unfold arrG
  rw [e1, e2]
  simpa only [List.append_assoc, List.cons_append, List.nil_append, Nat.add_assoc] using h
set_option maxRecDepth 10000 in
set_option maxHeartbeats 4000000 in
theorem insN_ac (n : Nat) (A S B : List Nat) (hn : (A ++ (S ++ B)).length = n) (hle : n ≤ 4096) (m0 : Nat) (hC : ∀ x ∈ S, ∀ y ∈ S, cbN g cmp m0 re rd x y) (hO : Sort.SWO (ltOf cmp)) :
    AC Tryz.prog 96 [.own 1000 n, .d (.sc (.int .i64 ((A.length : Nat) : Int))), .d (.sc (.int .i64 ((A.length + S.length : Nat) : Int))), .fn g [.ptr 1100 0]] (H3 [.own 1101 m0] re rd (A ++ (S ++ B))) [1000, 1100, 1101]
      (fun r h' => r = .tup [] ∧ SubH (H3 [.own 1101 m0] re rd (A ++ (isL (ltOf cmp) S ++ B))) h') := by
  have hlen : A.length + S.length + B.length = n := by rw [← hn]; simp; omega
  unfold H3
  by_cases h0 : S.length = 0
  · have : S = [] := List.eq_nil_of_length_eq_zero h0
    subst this
    have f1 : ltb ((A.length : Nat) + 1) ((A.length : Nat) : Int) = false := by rw [ltb_f]; omega
    refine AC_enter Tryz.func96 rfl Tryz.ntmps96 (rv := []) rfl rfl (by simp) (fun w X G => ?_)
    repeat' (first | ((with_reducible refine gA ?_); (first | refine AW_seq ?_ | refine AW_region ?_ | refine AW_block ?_)) | ((with_reducible refine gS ?_); refine Es_s (T := Tryz.tab) rfl rfl rfl rfl ?_) | (((with_reducible refine gS ?_); apply Es_q); rfl; rfl; (refine LStep_add rfl rfl rfl rfl ?_; (refine IntWalk.i64_in _ ?_; first | omega | (simp only [cmps] at *; omega)))) | (with_reducible refine Es_nil ?_) | (with_reducible refine then_n ?_))
    refine AW_forE (S := Nat) (fun _ => True) (fun _ => []) (fun _ => []) (fun k => k) 0 trivial (by (repeat' (first | exact trivial | exact rfl | (refine ⟨Or.inl rfl, ?_⟩) | (refine ⟨Or.inr rfl, ?_⟩) | (refine ⟨Or.inr trivial, ?_⟩) | (refine ⟨rfl, ?_⟩) | (refine ⟨?_, ?_⟩)))) (by (repeat' (first | exact trivial | exact rfl | (refine ⟨Or.inl rfl, ?_⟩) | (refine ⟨Or.inr rfl, ?_⟩) | (refine ⟨Or.inr trivial, ?_⟩) | (refine ⟨rfl, ?_⟩) | (refine ⟨?_, ?_⟩)))) ?_
    intro k _
    repeat' (first | ((with_reducible refine gA ?_); (first | refine AW_seq ?_ | refine AW_region ?_ | (refine AW_condN rfl ?_ ?_; assumption) | refine AW_exit ?_)) | ((with_reducible refine gS ?_); refine Es_s (T := Tryz.tab) rfl rfl rfl rfl ?_) | (with_reducible refine Es_nil ?_) | (with_reducible refine then_n ?_) | (with_reducible refine then_e ?_) | ((with_reducible refine block_e ?_ ?_); rfl) | ((with_reducible refine gR ?_); first | refine ret1 rfl ?_ | refine ret2 rfl rfl ?_ | refine ret0 ?_ | refine end1 rfl ?_ | refine end0 ?_))
    exact ⟨rfl, by (repeat' (first | exact trivial | exact rfl | (refine ⟨Or.inl rfl, ?_⟩) | (refine ⟨Or.inr rfl, ?_⟩) | (refine ⟨Or.inr trivial, ?_⟩) | (refine ⟨rfl, ?_⟩) | (refine ⟨?_, ?_⟩)))⟩
  have i1 : isL (ltOf cmp) (S.take 1) ++ S.drop 1 = S := by
    cases S with
    | nil => rfl
    | cons x r => rfl
  refine AC_enter Tryz.func96 rfl Tryz.ntmps96 (rv := []) rfl rfl (by simp) (fun w X G => ?_)
  repeat' (first | ((with_reducible refine gA ?_); (first | refine AW_seq ?_ | refine AW_region ?_ | refine AW_block ?_)) | ((with_reducible refine gS ?_); refine Es_s (T := Tryz.tab) rfl rfl rfl rfl ?_) | (((with_reducible refine gS ?_); apply Es_q); rfl; rfl; (refine LStep_add rfl rfl rfl rfl ?_; (refine IntWalk.i64_in _ ?_; first | omega | (simp only [cmps] at *; omega)))) | (with_reducible refine Es_nil ?_) | (with_reducible refine then_n ?_))
  refine AW_forE (S := Nat) (fun k => 1 ≤ k ∧ k ≤ S.length) (fun k => [(8, .d (.sc (.int .i64 ((A.length + k : Nat) : Int))))]) (fun k => [(1000, some (.arr 3 1 ((A ++ (isL (ltOf cmp) (S.take k) ++ (S.drop k ++ B))).map nN)))]) (fun k => S.length - k) 1 ⟨by omega, by omega⟩ (by (repeat' (first | exact trivial | exact rfl | (refine ⟨Or.inl rfl, ?_⟩) | (refine ⟨Or.inr rfl, ?_⟩) | (refine ⟨Or.inr trivial, ?_⟩) | (refine ⟨rfl, ?_⟩) | (refine ⟨?_, ?_⟩)))) (by rw [← List.append_assoc _ _ B, i1]; (repeat' (first | exact trivial | exact rfl | (refine ⟨Or.inl rfl, ?_⟩) | (refine ⟨Or.inr rfl, ?_⟩) | (refine ⟨Or.inr trivial, ?_⟩) | (refine ⟨rfl, ?_⟩) | (refine ⟨?_, ?_⟩)))) ?_
  intro k ⟨hk1, hk⟩
  by_cases hlt : k < S.length
  · obtain ⟨x, hx, hd⟩ := drop_at hlt
    have hst : isL (ltOf cmp) (S.take (k + 1)) = insL (ltOf cmp) x (isL (ltOf cmp) (S.take k)) := by rw [take_at hx, isL_snoc]
    have hP := isL_perm (lt := ltOf cmp) (S.take k)
    have hPl : (isL (ltOf cmp) (S.take k)).length = k := by rw [hP.length_eq, List.length_take]; omega
    have hPs := isL_sorted hO (S.take k)
    have hPm : ∀ y ∈ isL (ltOf cmp) (S.take k), y ∈ S := fun y hy => List.mem_of_mem_take (hP.mem_iff.1 hy)
    have hxl := List.mem_of_getElem? hx
    have hrl : (S.drop (k + 1) ++ B).length + k + 1 + A.length = n := by rw [List.length_append, List.length_drop]; omega
    have g0 : ltb ((A.length + k : Nat) : Int) ((A.length + S.length : Nat) : Int) = true := by rw [ltb_t]; omega
    generalize isL (ltOf cmp) (S.take k) = P at hst hPl hPs hPm ⊢
    have e0 : A ++ (P ++ (S.drop k ++ B)) = arrG A P x (S.drop (k + 1) ++ B) k := by
      unfold arrG
      rw [hd, List.take_of_length_le (show P.length ≤ k by omega), List.drop_eq_nil_of_le (show P.length ≤ k by omega)]
      simp
    generalize hr : S.drop (k + 1) ++ B = R at *
    rw [e0]
    clear hd hP e0
    repeat' (first | ((with_reducible refine gA ?_); (first | refine AW_seq ?_ | refine AW_region ?_ | (refine AW_condY rfl ?_ ?_; assumption) | refine AW_block ?_ | refine AW_skip ?_)) | ((with_reducible refine gS ?_); refine Es_s (T := Tryz.tab) rfl rfl rfl rfl ?_) | (with_reducible refine Es_nil ?_) | (with_reducible refine then_n ?_))
    refine AW_forE (S := Nat) (fun j => j ≤ k ∧ ∀ y ∈ P.drop j, ltOf cmp x y = true) (fun j => [(9, .d (.sc (.int .i64 ((A.length + j : Nat) : Int))))]) (fun j => [(1000, some (.arr 3 1 ((arrG A P x R j).map nN)))]) (fun j => j) k ⟨by omega, by rw [List.drop_eq_nil_of_le (by omega)]; intro y hy; cases hy⟩ (by (repeat' (first | exact trivial | exact rfl | (refine ⟨Or.inl rfl, ?_⟩) | (refine ⟨Or.inr rfl, ?_⟩) | (refine ⟨Or.inr trivial, ?_⟩) | (refine ⟨rfl, ?_⟩) | (refine ⟨?_, ?_⟩)))) (by (repeat' (first | exact trivial | exact rfl | (refine ⟨Or.inl rfl, ?_⟩) | (refine ⟨Or.inr rfl, ?_⟩) | (refine ⟨Or.inr trivial, ?_⟩) | (refine ⟨rfl, ?_⟩) | (refine ⟨?_, ?_⟩)))) ?_
    intro j ⟨hj, hgt⟩
    rcases j with _ | m
    · have f1 : ltb ((A.length : Nat) : Int) ((A.length + 0 : Nat) : Int) = false := by rw [ltb_f]; omega
      have e9 : arrG A P x R 0 = A ++ (insL (ltOf cmp) x P ++ R) := by
        have := insL_at (lt := ltOf cmp) (x := x) (A := []) (B := P) (by simp) (by rw [List.drop_zero] at hgt; exact hgt)
        rw [List.nil_append, List.nil_append] at this
        rw [this]
        unfold arrG
        simp
      repeat' (first | ((with_reducible refine gA ?_); (first | refine AW_seq ?_ | refine AW_region ?_ | refine AW_regionD Tryz.mixed ?_ | refine AW_condF rfl ?_ | refine AW_exit ?_)) | (first | ((with_reducible refine gS ?_); refine Es_s (T := Tryz.tab) rfl rfl rfl rfl ?_) | ((with_reducible refine gD ?_); refine Ed_s (T := Tryz.tab) rfl rfl rfl rfl ?_)) | ((first | ((with_reducible refine gS ?_); apply Es_q) | ((with_reducible refine gD ?_); apply Ed_q)); rfl; rfl; (first | (refine LStep_add rfl rfl rfl rfl ?_; (refine IntWalk.i64_in _ ?_; first | omega | (simp only [cmps] at *; omega))) | (refine LStep_pickF rfl rfl ?_ rfl rfl; assumption))) | (refine Ed_skip rfl ?_ rfl ?_; (first | rfl | (refine w_tf ?_; assumption) | (refine w_ft ?_; assumption))) | (with_reducible refine Es_nil ?_) | ((with_reducible refine Ed_nil ?_ ?_); kernel_rfl) | (with_reducible refine then_n ?_) | (with_reducible refine then_e ?_) | (with_reducible refine block_n ?_) | ((with_reducible refine block_e ?_ ?_); rfl))
      all_goals first
        | (refine ⟨k + 1, ⟨by omega, by omega⟩, by omega, by (repeat' (first | exact trivial | exact rfl | (refine ⟨Or.inl rfl, ?_⟩) | (refine ⟨Or.inr rfl, ?_⟩) | (refine ⟨Or.inr trivial, ?_⟩) | (refine ⟨rfl, ?_⟩) | (refine ⟨?_, ?_⟩))), by (repeat' (first | exact trivial | exact rfl | (refine ⟨Or.inl rfl, ?_⟩) | (refine ⟨Or.inr rfl, ?_⟩) | (refine ⟨Or.inr trivial, ?_⟩) | (refine ⟨rfl, ?_⟩) | (refine ⟨?_, ?_⟩))), ?_, by (repeat' (first | exact trivial | exact rfl | (refine ⟨Or.inl rfl, ?_⟩) | (refine ⟨Or.inr rfl, ?_⟩) | (refine ⟨Or.inr trivial, ?_⟩) | (refine ⟨rfl, ?_⟩) | (refine ⟨?_, ?_⟩)))⟩
           rw [hst, hr, ← e9]; (repeat' (first | exact trivial | exact rfl | (refine ⟨Or.inl rfl, ?_⟩) | (refine ⟨Or.inr rfl, ?_⟩) | (refine ⟨Or.inr trivial, ?_⟩) | (refine ⟨rfl, ?_⟩) | (refine ⟨?_, ?_⟩))))
        | trace_state
    · obtain ⟨y, hy⟩ : ∃ y, P[m]? = some y := ⟨_, List.getElem?_eq_getElem (by omega)⟩
      have hyl := hPm y (List.mem_of_getElem? hy)
      have c := hC x hxl y hyl
      unfold cbN at c
      have a1 := arrG_at A P x R (m + 1) (by omega)
      have a2 := arrG_pre A P x R m y hy
      have a3 := arrG_len A P x R (m + 1) (by omega)
      have a4 := arrG_swap A P x R m y hy
      have f1 : ltb ((A.length : Nat) : Int) ((A.length + (m + 1) : Nat) : Int) = true := by rw [ltb_t]; omega
      have hsub : AV.d (.sc (.int .i64 (wrp .i64 (((A.length + (m + 1) : Nat) : Int) - 1)))) = AV.d (.sc (.int .i64 ((A.length + m : Nat) : Int))) := by
        rw [wrp_fit (by omega)]
        congr 3
        omega
      by_cases hc : ltOf cmp x y = true
      · have f2 : ltb (cmp x y) 0 = true := by rw [ltb_t]; unfold ltOf at hc; rwa [decide_eq_true_eq] at hc
        have hgm : ∀ z ∈ P.drop m, ltOf cmp x z = true := fun z hz' => by
          obtain ⟨y', h1, h2⟩ := drop_at (show m < P.length by omega)
          rw [hy] at h1
          cases h1
          rw [h2] at hz'
          rcases List.mem_cons.1 hz' with q | q
          · rw [q]; exact hc
          · exact hgt z q
        have hLn : (arrG A P x R (m + 1)).length = n := by omega
        generalize arrG A P x R (m + 1) = L at *
        have b1 : (L.map nN)[A.length + (m + 1)]? = some (nN x) := by rw [List.getElem?_map, a1]; rfl
        have b2 : ((L.map nN).set (A.length + (m + 1)) (nN y))[A.length + m]? = some (nN y) := by rw [List.getElem?_set_ne (by omega), List.getElem?_map, a2]; rfl
        have b4 : (((L.map nN).set (A.length + (m + 1)) (nN y)).set (A.length + m) (nN x)) = (arrG A P x R m).map nN := by rw [← a4, List.map_set, List.map_set]
        generalize cmp x y = v at *
        repeat' (first | ((with_reducible refine gA ?_); (first | refine AW_seq ?_ | refine AW_region ?_ | refine AW_regionD Tryz.mixed ?_ | (refine AW_condY rfl ?_ ?_; assumption) | refine AW_block ?_ | refine AW_skip ?_)) | ((first | ((with_reducible refine gS ?_); apply Es_q) | ((with_reducible refine gD ?_); apply Ed_q)); rfl; (first | rfl | (refine w_tt ?_; assumption)); refine LStep_fitQ (T := Tryz.tab) rfl rfl hsub) | (first | ((with_reducible refine gS ?_); refine Es_s (T := Tryz.tab) rfl rfl rfl rfl ?_) | ((with_reducible refine gD ?_); refine Ed_s (T := Tryz.tab) rfl rfl rfl rfl ?_)) | (((with_reducible refine gD ?_); apply Ed_q); rfl; (first | rfl | (refine w_tt ?_; assumption)); (first | (refine LStep_indexOwnM (T := Tryz.tab) rfl rfl rfl rfl rfl rfl rfl ?_ ?_; (simp only [List.length_set, List.length_map]; omega); (simp only [List.length_set, List.length_map]; omega)) | (refine LStep_loadEM (T := Tryz.tab) rfl rfl rfl rfl rfl ?_ a1 rfl; (rw [List.length_map]; omega)) | (refine LStep_loadEM (T := Tryz.tab) rfl rfl rfl rfl rfl ?_ a2 rfl; (rw [List.length_map]; omega)) | refine LStep_callB c rfl rfl ⟨rfl, rfl, trivial⟩ rfl rfl)) | (((with_reducible refine gD ?_); apply Ed_xn); rfl; rfl; (first | (refine LStep_storeE (T := Tryz.tab) rfl rfl rfl rfl rfl rfl rfl rfl ?_ b1 ?_; (simp only [List.length_set, List.length_map]; omega); (refine Nat.le_of_ble_eq_true ?_; rfl)) | (refine LStep_storeE (T := Tryz.tab) rfl rfl rfl rfl rfl rfl rfl rfl ?_ b2 ?_; (simp only [List.length_set, List.length_map]; omega); (refine Nat.le_of_ble_eq_true ?_; rfl))); rfl) | (((with_reducible refine gD ?_); apply Ed_q); rfl; (first | rfl | (refine w_tt ?_; assumption)); (first | refine LStep_simp (T := Tryz.tab) rfl rfl | (refine LStep_pickT rfl rfl ?_ rfl rfl; assumption))) | (with_reducible refine Es_nil ?_) | ((with_reducible refine Ed_nil ?_ ?_); kernel_rfl) | (with_reducible refine then_n ?_) | (with_reducible refine block_n ?_))
        all_goals first
          | (refine ⟨m, ⟨by omega, hgm⟩, by omega, by (repeat' (first | exact trivial | exact rfl | (refine ⟨Or.inl rfl, ?_⟩) | (refine ⟨Or.inr rfl, ?_⟩) | (refine ⟨Or.inr trivial, ?_⟩) | (refine ⟨rfl, ?_⟩) | (refine ⟨?_, ?_⟩))), by (repeat' (first | exact trivial | exact rfl | (refine ⟨Or.inl rfl, ?_⟩) | (refine ⟨Or.inr rfl, ?_⟩) | (refine ⟨Or.inr trivial, ?_⟩) | (refine ⟨rfl, ?_⟩) | (refine ⟨?_, ?_⟩))), ?_, by (repeat' (first | exact trivial | exact rfl | (refine ⟨Or.inl rfl, ?_⟩) | (refine ⟨Or.inr rfl, ?_⟩) | (refine ⟨Or.inr trivial, ?_⟩) | (refine ⟨rfl, ?_⟩) | (refine ⟨?_, ?_⟩)))⟩
             rw [← b4]; (repeat' (first | exact trivial | exact rfl | (refine ⟨Or.inl rfl, ?_⟩) | (refine ⟨Or.inr rfl, ?_⟩) | (refine ⟨Or.inr trivial, ?_⟩) | (refine ⟨rfl, ?_⟩) | (refine ⟨?_, ?_⟩))))
          | trace_state
      · have f2 : ltb (cmp x y) 0 = false := by rw [ltb_f]; unfold ltOf at hc; rw [decide_eq_true_eq] at hc; omega
        have e9 : arrG A P x R (m + 1) = A ++ (insL (ltOf cmp) x P ++ R) := by
          have hA : ∀ z ∈ P.take (m + 1), ltOf cmp x z = false := fun z hz' => by
            rw [take_at hy] at hz'
            have hxy : ltOf cmp x y = false := by simpa using hc
            rcases List.mem_append.1 hz' with q | q
            · obtain ⟨i, hi, rfl⟩ := List.getElem_of_mem q
              rw [List.length_take] at hi
              have hlt2 : m < P.length := by omega
              have h1 := List.pairwise_iff_getElem.1 hPs i m (by omega) hlt2 (by omega)
              have h2 : P[m] = y := by rw [List.getElem?_eq_getElem hlt2] at hy; exact Option.some.inj hy
              rw [List.getElem_take]
              rw [h2] at h1
              exact hO.ntrans _ _ _ hxy h1
            · rw [List.mem_singleton.1 q]; exact hxy
          have h1 := insL_at (lt := ltOf cmp) hA hgt
          rw [List.take_append_drop] at h1
          rw [h1]
          unfold arrG
          simp
        have hLn : (arrG A P x R (m + 1)).length = n := by omega
        clear a4
        generalize arrG A P x R (m + 1) = L at *
        generalize cmp x y = v at *
        repeat' (first | ((with_reducible refine gA ?_); (first | refine AW_seq ?_ | refine AW_region ?_ | refine AW_regionD Tryz.mixed ?_ | (refine AW_condN rfl ?_ ?_; assumption) | refine AW_exit ?_)) | ((first | ((with_reducible refine gS ?_); apply Es_q) | ((with_reducible refine gD ?_); apply Ed_q)); rfl; (first | rfl | (refine w_tt ?_; assumption)); refine LStep_fitQ (T := Tryz.tab) rfl rfl hsub) | (first | ((with_reducible refine gS ?_); refine Es_s (T := Tryz.tab) rfl rfl rfl rfl ?_) | ((with_reducible refine gD ?_); refine Ed_s (T := Tryz.tab) rfl rfl rfl rfl ?_)) | ((first | ((with_reducible refine gS ?_); apply Es_q) | ((with_reducible refine gD ?_); apply Ed_q)); rfl; (first | rfl | (refine w_tt ?_; assumption)); (first | (refine LStep_indexOwnM (T := Tryz.tab) rfl rfl rfl rfl rfl rfl rfl ?_ ?_; (simp only [List.length_set, List.length_map]; omega); (simp only [List.length_set, List.length_map]; omega)) | (refine LStep_loadEM (T := Tryz.tab) rfl rfl rfl rfl rfl ?_ a1 rfl; (rw [List.length_map]; omega)) | (refine LStep_loadEM (T := Tryz.tab) rfl rfl rfl rfl rfl ?_ a2 rfl; (rw [List.length_map]; omega)) | refine LStep_callB c rfl rfl ⟨rfl, rfl, trivial⟩ rfl rfl)) | ((first | ((with_reducible refine gS ?_); apply Es_q) | ((with_reducible refine gD ?_); apply Ed_q)); rfl; (first | rfl | (refine w_tt ?_; assumption)); (first | refine LStep_simp (T := Tryz.tab) rfl rfl | (refine LStep_add rfl rfl rfl rfl ?_; (refine IntWalk.i64_in _ ?_; first | omega | (simp only [cmps] at *; omega))) | (refine LStep_pickT rfl rfl ?_ rfl rfl; assumption))) | (with_reducible refine Es_nil ?_) | ((with_reducible refine Ed_nil ?_ ?_); kernel_rfl) | (with_reducible refine then_n ?_) | (with_reducible refine then_e ?_) | (with_reducible refine block_n ?_) | ((with_reducible refine block_e ?_ ?_); rfl))
        all_goals first
          | (refine ⟨k + 1, ⟨by omega, by omega⟩, by omega, by (repeat' (first | exact trivial | exact rfl | (refine ⟨Or.inl rfl, ?_⟩) | (refine ⟨Or.inr rfl, ?_⟩) | (refine ⟨Or.inr trivial, ?_⟩) | (refine ⟨rfl, ?_⟩) | (refine ⟨?_, ?_⟩))), by (repeat' (first | exact trivial | exact rfl | (refine ⟨Or.inl rfl, ?_⟩) | (refine ⟨Or.inr rfl, ?_⟩) | (refine ⟨Or.inr trivial, ?_⟩) | (refine ⟨rfl, ?_⟩) | (refine ⟨?_, ?_⟩))), ?_, by (repeat' (first | exact trivial | exact rfl | (refine ⟨Or.inl rfl, ?_⟩) | (refine ⟨Or.inr rfl, ?_⟩) | (refine ⟨Or.inr trivial, ?_⟩) | (refine ⟨rfl, ?_⟩) | (refine ⟨?_, ?_⟩)))⟩
             rw [hst, hr, ← e9]; (repeat' (first | exact trivial | exact rfl | (refine ⟨Or.inl rfl, ?_⟩) | (refine ⟨Or.inr rfl, ?_⟩) | (refine ⟨Or.inr trivial, ?_⟩) | (refine ⟨rfl, ?_⟩) | (refine ⟨?_, ?_⟩))))
          | trace_state
  · have : k = S.length := by omega
    subst this
    have f1 : ltb ((A.length + S.length : Nat) : Int) ((A.length + S.length : Nat) : Int) = false := by rw [ltb_f]; omega
    rw [List.take_length, List.drop_eq_nil_of_le (Nat.le_refl _), List.nil_append]
    repeat' (first | ((with_reducible refine gA ?_); (first | refine AW_seq ?_ | refine AW_region ?_ | (refine AW_condN rfl ?_ ?_; assumption) | refine AW_exit ?_)) | ((with_reducible refine gS ?_); refine Es_s (T := Tryz.tab) rfl rfl rfl rfl ?_) | (with_reducible refine Es_nil ?_) | (with_reducible refine then_n ?_) | (with_reducible refine then_e ?_) | ((with_reducible refine block_e ?_ ?_); rfl) | ((with_reducible refine gR ?_); first | refine ret1 rfl ?_ | refine ret2 rfl rfl ?_ | refine ret0 ?_ | refine end1 rfl ?_ | refine end0 ?_))
    all_goals first
      | exact ⟨rfl, by (repeat' (first | exact trivial | exact rfl | (refine ⟨Or.inl rfl, ?_⟩) | (refine ⟨Or.inr rfl, ?_⟩) | (refine ⟨Or.inr trivial, ?_⟩) | (refine ⟨rfl, ?_⟩) | (refine ⟨?_, ?_⟩)))⟩
      | trace_state
set_option maxRecDepth 10000 in
set_option maxHeartbeats 4000000 in
theorem stabN_ac (n : Nat) (l : List Nat) (hnl : l.length = n) (h20 : n ≤ 20) (m0 : Nat) (hC : ∀ x ∈ l, ∀ y ∈ l, cbN g cmp m0 re rd x y) (hO : Sort.SWO (ltOf cmp)) :
    AC Tryz.prog 58 [.own 1000 n, .d (.sc (.int .i64 (n : Nat))), .fn g [.ptr 1100 0]] (H3 [.own 1101 m0] re rd l) [1000, 1100, 1101] (fun r h' => r = .tup [] ∧ SubH (H3 [.own 1101 m0] re rd (isL (ltOf cmp) l)) h') := by
  have hp := isL_perm (lt := ltOf cmp) l
  have hl2 : (isL (ltOf cmp) l).length = l.length := hp.length_eq
  have c1 := insN_ac n [] l [] (by simpa using hnl) (by omega) m0 hC hO
  have c2 := insN_ac (g := g) (re := re) (rd := rd) n (isL (ltOf cmp) l) [] [] (by simpa [hl2] using hnl) (by omega) m0 (fun x hx => by cases hx) hO
  rw [List.append_nil, List.append_nil, List.nil_append, List.nil_append, List.length_nil, Nat.zero_add, hnl] at c1
  rw [show isL (ltOf cmp) ([] : List Nat) = [] from rfl, List.append_nil, List.append_nil, List.length_nil, Nat.add_zero, hl2, hnl] at c2
  have f9 : ltb 20 ((n : Nat) : Int) = false := by rw [ltb_f]; omega
  have hl1 : (l.map nN).length = ((isL (ltOf cmp) l).map nN).length := by rw [List.length_map, List.length_map, hl2]
  unfold H3 at *
  by_cases h : n = 20
  · subst h
    have f1 : leb 20 ((20 : Nat) : Int) = true := by rw [leb_t]; omega
    have f2 : leb (20 + 20) ((20 : Nat) : Int) = false := by rw [leb_f]; omega
    generalize isL (ltOf cmp) l = l2 at *
    refine AC_enter Tryz.func58 rfl Tryz.ntmps58 (rv := []) rfl rfl (by simp) (fun w X G => ?_)
    repeat' (first | ((with_reducible refine gA ?_); (first | refine AW_seq ?_ | refine AW_region ?_ | refine AW_block ?_)) | ((with_reducible refine gS ?_); refine Es_s (T := Tryz.tab) rfl rfl rfl rfl ?_) | (with_reducible refine Es_nil ?_) | (with_reducible refine then_n ?_))
    refine AW_rounds 3 ?_
    repeat' (first | ((with_reducible refine gRd ?_); refine rounds_stepD [11, 12, 13, 14, 15, 16, 17, 18, 19, 20, 21, 22] [] ?_) | ((with_reducible refine gA ?_); (first | refine AW_seq ?_ | refine AW_region ?_ | (refine AW_condY rfl ?_ ?_; assumption) | (refine AW_condN rfl ?_ ?_; assumption) | refine AW_block ?_ | refine AW_skip ?_ | refine AW_exit ?_)) | ((with_reducible refine gS ?_); refine Es_s (T := Tryz.tab) rfl rfl rfl rfl ?_) | (((with_reducible refine gS ?_); apply Es_xg); rfl; rfl; (first | refine LStep_callHN [] [] c1 rfl rfl ⟨rfl, rfl, rfl, trivial⟩ rfl ⟨hl1, trivial, rfl, trivial⟩ rfl rfl | refine LStep_callHN [] [] c2 rfl rfl ⟨rfl, rfl, rfl, trivial⟩ rfl ⟨rfl, trivial, rfl, trivial⟩ rfl rfl); rfl) | (((with_reducible refine gS ?_); apply Es_q); rfl; rfl; (refine LStep_add rfl rfl rfl rfl ?_; (refine IntWalk.i64_in _ ?_; first | omega | (simp only [cmps] at *; omega)))) | (with_reducible refine Es_nil ?_) | (with_reducible refine then_n ?_) | (with_reducible refine then_e ?_) | (with_reducible refine block_n ?_) | ((with_reducible refine block_e ?_ ?_); rfl))
    refine AW_rounds 1 ?_
    repeat' (first | ((with_reducible refine gRd ?_); refine rounds_stepD [] [] ?_) | ((with_reducible refine gA ?_); (first | refine AW_seq ?_ | refine AW_region ?_ | (refine AW_condN rfl ?_ ?_; assumption) | refine AW_exit ?_)) | ((with_reducible refine gS ?_); refine Es_s (T := Tryz.tab) rfl rfl rfl rfl ?_) | (with_reducible refine Es_nil ?_) | (with_reducible refine then_n ?_) | (with_reducible refine then_e ?_) | ((with_reducible refine block_e ?_ ?_); rfl) | ((with_reducible refine gR ?_); first | refine ret1 rfl ?_ | refine ret2 rfl rfl ?_ | refine ret0 ?_ | refine end1 rfl ?_ | refine end0 ?_))
    all_goals first
      | exact ⟨rfl, by (repeat' (first | exact trivial | exact rfl | (refine ⟨Or.inl rfl, ?_⟩) | (refine ⟨Or.inr rfl, ?_⟩) | (refine ⟨Or.inr trivial, ?_⟩) | (refine ⟨rfl, ?_⟩) | (refine ⟨?_, ?_⟩)))⟩
      | trace_state
  · have f1 : leb 20 ((n : Nat) : Int) = false := by rw [leb_f]; omega
    generalize isL (ltOf cmp) l = l2 at *
    refine AC_enter Tryz.func58 rfl Tryz.ntmps58 (rv := []) rfl rfl (by simp) (fun w X G => ?_)
    repeat' (first | ((with_reducible refine gA ?_); (first | refine AW_seq ?_ | refine AW_region ?_ | refine AW_block ?_)) | ((with_reducible refine gS ?_); refine Es_s (T := Tryz.tab) rfl rfl rfl rfl ?_) | (with_reducible refine Es_nil ?_) | (with_reducible refine then_n ?_))
    refine AW_rounds 1 ?_
    repeat' (first | ((with_reducible refine gRd ?_); refine rounds_stepD [11, 12, 13, 14, 15, 16, 17, 18, 19, 20, 21, 22] [] ?_) | ((with_reducible refine gA ?_); (first | refine AW_seq ?_ | refine AW_region ?_ | (refine AW_condN rfl ?_ ?_; assumption) | refine AW_block ?_ | refine AW_exit ?_)) | ((with_reducible refine gS ?_); refine Es_s (T := Tryz.tab) rfl rfl rfl rfl ?_) | (((with_reducible refine gS ?_); apply Es_xg); rfl; rfl; refine LStep_callHN [] [] c1 rfl rfl ⟨rfl, rfl, rfl, trivial⟩ rfl ⟨hl1, trivial, rfl, trivial⟩ rfl rfl; rfl) | (with_reducible refine Es_nil ?_) | (with_reducible refine then_n ?_) | (with_reducible refine then_e ?_) | ((with_reducible refine block_e ?_ ?_); rfl))
    refine AW_rounds 1 ?_
    repeat' (first | ((with_reducible refine gRd ?_); refine rounds_stepD [] [] ?_) | ((with_reducible refine gA ?_); (first | refine AW_seq ?_ | refine AW_region ?_ | (refine AW_condN rfl ?_ ?_; assumption) | refine AW_exit ?_)) | ((with_reducible refine gS ?_); refine Es_s (T := Tryz.tab) rfl rfl rfl rfl ?_) | (with_reducible refine Es_nil ?_) | (with_reducible refine then_n ?_) | (with_reducible refine then_e ?_) | ((with_reducible refine block_e ?_ ?_); rfl) | ((with_reducible refine gR ?_); first | refine ret1 rfl ?_ | refine ret2 rfl rfl ?_ | refine ret0 ?_ | refine end1 rfl ?_ | refine end0 ?_))
    all_goals first
      | exact ⟨rfl, by (repeat' (first | exact trivial | exact rfl | (refine ⟨Or.inl rfl, ?_⟩) | (refine ⟨Or.inr rfl, ?_⟩) | (refine ⟨Or.inr trivial, ?_⟩) | (refine ⟨rfl, ?_⟩) | (refine ⟨?_, ?_⟩)))⟩
      | trace_state
set_option maxRecDepth 10000 in
theorem sortN_ac (n : Nat) (l : List Nat) (hnl : l.length = n) (h20 : n ≤ 20) (m0 : Nat) (hC : ∀ x ∈ l, ∀ y ∈ l, cbN g cmp m0 re rd x y) (hO : Sort.SWO (ltOf cmp)) :
    AC Tryz.prog 28 [.own 1000 n, .fn g [.ptr 1100 0]] (H3 [.own 1101 m0] re rd l) [1000, 1100, 1101] (fun r h' => r = .tup [] ∧ SubH (H3 [.own 1101 m0] re rd (isL (ltOf cmp) l)) h') := by
  have c1 := stabN_ac n l hnl h20 m0 hC hO
  have hl1 : (l.map nN).length = ((isL (ltOf cmp) l).map nN).length := by rw [List.length_map, List.length_map, (isL_perm (lt := ltOf cmp) l).length_eq]
  have hz : (l.map nN).length = n := by rw [List.length_map, hnl]
  unfold H3 at *
  generalize isL (ltOf cmp) l = l2 at *
  refine AC_enter Tryz.func28 rfl Tryz.ntmps28 (rv := []) rfl rfl (by simp) (fun w X G => ?_)
  repeat' (first | ((with_reducible refine gA ?_); refine AW_region ?_) | ((with_reducible refine gS ?_); refine Es_s (T := Tryz.tab) rfl rfl rfl rfl ?_) | (((with_reducible refine gS ?_); apply Es_q); rfl; rfl; refine LStep_lenOwn (T := Tryz.tab) rfl rfl rfl rfl rfl hz) | (((with_reducible refine gS ?_); apply Es_xg); rfl; rfl; refine LStep_callHN [] [] c1 rfl rfl ⟨rfl, rfl, rfl, trivial⟩ rfl ⟨hl1, trivial, rfl, trivial⟩ rfl rfl; rfl) | (with_reducible refine Es_nil ?_) | ((with_reducible refine gR ?_); first | refine ret1 rfl ?_ | refine ret2 rfl rfl ?_ | refine ret0 ?_ | refine end1 rfl ?_ | refine end0 ?_))
  all_goals first
    | exact ⟨rfl, by (repeat' (first | exact trivial | exact rfl | (refine ⟨Or.inl rfl, ?_⟩) | (refine ⟨Or.inr rfl, ?_⟩) | (refine ⟨Or.inr trivial, ?_⟩) | (refine ⟨rfl, ?_⟩) | (refine ⟨?_, ?_⟩)))⟩
    | trace_state
end
end Go.Proofs.YtodgjgkoaahhmaaGreatDoor
namespace Go.Proofs.YtodgjgkoaahhmaaGreatDoor
open Go.SL
/-! ### share.Split: plain -/
def fillV (l : List Nat) (i : Nat) : List Nat := l.take i ++ List.replicate (l.length - i) 0
theorem fillV_len {l : List Nat} {i : Nat} (h : i ≤ l.length) : (fillV l i).length = l.length := by
  unfold fillV
  rw [List.length_append, List.length_take, List.length_replicate]
  omega
theorem fillV_at {l : List Nat} {i : Nat} (h : i < l.length) : (fillV l i)[i]? = some 0 := by
  unfold fillV
  rw [List.getElem?_append_right (by rw [List.length_take]; omega), List.getElem?_replicate, List.length_take, if_pos (by omega)]
theorem fillV_set {l : List Nat} {i v : Nat} (h : l[i]? = some v) : (fillV l i).set i v = fillV l (i + 1) := by
  have hlt := (List.getElem?_eq_some_iff.1 h).1
  unfold fillV
  rw [List.set_append_right _ _ (by rw [List.length_take]; omega), show i - (l.take i).length = 0 by rw [List.length_take]; omega, take_at h, show l.length - i = (l.length - (i + 1)) + 1 by omega, List.replicate_succ, List.set_cons_zero, List.append_assoc]
  rfl
theorem fillV_zero (l : List Nat) : fillV l 0 = List.replicate l.length 0 := by unfold fillV; simp
theorem fillV_all (l : List Nat) : fillV l l.length = l := by unfold fillV; simp
def shQ (t s : Nat) (ws : List Nat) : List Nat := ws.map fun w => t * w / s
def shR (t s : Nat) (ws : List Nat) : List Nat := ws.map fun w => t * w % s
def cmpR (rs : List Nat) (i j : Nat) : Int := cI ((rs.getD j 0 : Nat) : Int) ((rs.getD i 0 : Nat) : Int)
theorem ltR (rs : List Nat) (i j : Nat) : ltOf (cmpR rs) i j = decide (rs.getD j 0 < rs.getD i 0) := by
  rw [Bool.eq_iff_iff]
  unfold ltOf cmpR cI
  rw [decide_eq_true_eq, decide_eq_true_eq]
  split
  · constructor <;> intro _ <;> omega
  · split
    · constructor <;> intro _ <;> omega
    · constructor <;> intro _ <;> omega
theorem swoR (rs : List Nat) : Sort.SWO (ltOf (cmpR rs)) := by
  refine ⟨fun x => ?_, fun x y z => ?_, fun x y z => ?_⟩
  · rw [ltR, decide_eq_false_iff_not]; omega
  · rw [ltR, ltR, ltR, decide_eq_true_eq, decide_eq_true_eq, decide_eq_true_eq]; omega
  · rw [ltR, ltR, ltR, decide_eq_false_iff_not, decide_eq_false_iff_not, decide_eq_false_iff_not]; omega
def ordR (rs : List Nat) : List Nat := isL (ltOf (cmpR rs)) (List.range rs.length)
def bump (ps : List Nat) (l : List Nat) : List Nat := l.foldl (fun ps i => ps.set i (ps.getD i 0 + 1)) ps
def splitN (t : Nat) (ws : List Nat) : List Nat :=
  if t = 0 then List.replicate ws.length 0
  else bump (shQ t ws.sum ws) ((ordR (shR t ws.sum ws)).take (t - (shQ t ws.sum ws).sum))
theorem bump_len (l : List Nat) : ∀ ps : List Nat, (bump ps l).length = ps.length := by
  induction l with
  | nil => intro ps; rfl
  | cons i l ih =>
    intro ps
    show (bump _ l).length = _
    rw [ih, List.length_set]
theorem shQ_sum {t s : Nat} (hs : 0 < s) : ∀ ws : List Nat, (shQ t s ws).sum * s + (shR t s ws).sum = t * ws.sum
  | [] => by simp [shQ, shR]
  | w :: ws => by
    have ih := shQ_sum (t := t) hs ws
    unfold shQ shR at *
    simp only [List.map_cons, List.sum_cons]
    have h := Nat.div_add_mod (t * w) s
    rw [Nat.add_mul, Nat.mul_add, Nat.mul_comm (t * w / s) s]
    omega
theorem shR_le {t s : Nat} (hs : 0 < s) : ∀ ws : List Nat, (shR t s ws).sum + ws.length ≤ ws.length * s
  | [] => by simp [shR]
  | w :: ws => by
    have ih := shR_le (t := t) hs ws
    unfold shR at *
    simp only [List.map_cons, List.sum_cons, List.length_cons]
    have h := Nat.mod_lt (t * w) hs
    rw [Nat.add_mul]
    omega
theorem shQ_le {t s : Nat} {ws : List Nat} (hs : 0 < s) (h : ws.sum = s) : (shQ t s ws).sum ≤ t := by
  have h1 := shQ_sum (t := t) hs ws
  rw [h] at h1
  have : (shQ t s ws).sum * s ≤ t * s := by omega
  exact Nat.le_of_mul_le_mul_right this hs
theorem left_le {t s : Nat} {ws : List Nat} (hs : 0 < s) (h : ws.sum = s) : t - (shQ t s ws).sum ≤ ws.length := by
  have h1 := shQ_sum (t := t) hs ws
  have h2 := shR_le (t := t) hs ws
  rw [h] at h1
  have h3 : t * s ≤ ((shQ t s ws).sum + ws.length) * s := by rw [Nat.add_mul]; omega
  have := Nat.le_of_mul_le_mul_right h3 hs
  omega
theorem sum_take_le (l : List Nat) (i : Nat) : (l.take i).sum ≤ l.sum := by
  have h := List.sum_append_nat (l₁ := l.take i) (l₂ := l.drop i)
  rw [List.take_append_drop] at h
  omega
theorem sum_take_at {l : List Nat} {i v : Nat} (h : l[i]? = some v) : (l.take (i + 1)).sum = (l.take i).sum + v := by
  rw [take_at h, List.sum_append_nat]
  simp
theorem mem_le_sum {l : List Nat} {v : Nat} (h : v ∈ l) : v ≤ l.sum := by
  induction l with
  | nil => cases h
  | cons x l ih =>
    rw [List.sum_cons]
    rcases List.mem_cons.1 h with q | q
    · omega
    · have := ih q; omega
theorem sum_leF (l : List Nat) (B : Nat) (h : ∀ x ∈ l, x ≤ B) : l.sum ≤ l.length * B := by
  induction l with
  | nil => simp
  | cons x l ih =>
    have h1 := h x List.mem_cons_self
    have h2 := ih (fun y hy => h y (List.mem_cons_of_mem _ hy))
    rw [List.sum_cons, List.length_cons, Nat.add_mul]
    omega
/-! ### the callback -/
set_option maxRecDepth 10000 in
theorem isNaNU_ac (a : Int) : AC Tryz.prog 59 [.d (.sc (.int .u64 a))] [] [] (fun r _ => r = .d (.sc (.bool false))) := by
  refine AC_enter Tryz.func59 rfl Tryz.ntmps59 (rv := [.tmp 2]) rfl rfl (by simp) (fun w X G => ?_)
  have h : (!eqb a a) = false := by rw [not_f]; exact eqb_t.2 rfl
  repeat' (first | ((with_reducible refine gA ?_); (first | refine AW_seq ?_ | refine AW_region ?_ | refine AW_ret ?_)) | ((with_reducible refine gS ?_); refine Es_s (T := Tryz.tab) rfl rfl rfl rfl ?_) | (with_reducible refine Es_nil ?_) | (with_reducible refine then_n ?_) | ((with_reducible refine gR ?_); first | refine ret1 rfl ?_ | refine ret2 rfl rfl ?_ | refine ret0 ?_ | refine end1 rfl ?_ | refine end0 ?_))
  rw [h]
set_option maxRecDepth 10000 in
theorem cmpU_ac (a b : Int) : AC Tryz.prog 30 [.d (.sc (.int .u64 a)), .d (.sc (.int .u64 b))] [] [] (fun r _ => r = .d (.sc (.int .i64 (cI a b)))) := by
  refine AC_enter Tryz.func30 rfl Tryz.ntmps30 (rv := [.tmp 4]) rfl rfl (by simp) (fun w X G => ?_)
  repeat' (first | ((with_reducible refine gA ?_); (first | refine AW_seq ?_ | refine AW_region ?_ | refine AW_condF rfl ?_ | (refine AW_cond rfl (fun hc => ?_) (fun hc => ?_) <;> try (exfalso; simp only [cmpL] at hc; omega)) | refine AW_ret ?_ | refine AW_skip ?_)) | ((with_reducible refine gS ?_); refine Es_s (T := Tryz.tab) rfl rfl rfl rfl ?_) | (((with_reducible refine gS ?_); apply Es_q); rfl; rfl; refine LStep_call (isNaNU_ac _) rfl rfl rfl rfl) | (with_reducible refine Es_nil ?_) | (with_reducible refine then_n ?_) | (with_reducible refine then_r ?_) | ((with_reducible refine gR ?_); first | refine ret1 rfl ?_ | refine ret2 rfl rfl ?_ | refine ret0 ?_ | refine end1 rfl ?_ | refine end0 ?_))
  all_goals simp only [cmps] at *
  all_goals first
    | (unfold cI; rw [if_pos (by omega)]; done)
    | (unfold cI; rw [if_neg (by omega), if_pos (by omega)]; done)
    | (unfold cI; rw [if_neg (by omega), if_neg (by omega)]; done)
    | trace_state
theorem getD_at {l : List Nat} {i v : Nat} (h : l[i]? = some v) : l.getD i 0 = v := by rw [List.getD_eq_getElem?_getD, h]; rfl
set_option maxRecDepth 10000 in
theorem cbR_ac (rs : List Nat) (n : Nat) (hn : rs.length = n) {i j : Nat} (hi : i < n) (hj : j < n) : cbN 29 (cmpR rs) n 79 (rs.map nU) i j := by
  obtain ⟨a, ha⟩ : ∃ a, rs[i]? = some a := ⟨_, List.getElem?_eq_getElem (by omega)⟩
  obtain ⟨b, hb⟩ : ∃ b, rs[j]? = some b := ⟨_, List.getElem?_eq_getElem (by omega)⟩
  unfold cbN cmpR HR
  rw [getD_at ha, getD_at hb]
  have cc := cmpU_ac ((b : Nat) : Int) ((a : Nat) : Int)
  generalize cI ((b : Nat) : Int) ((a : Nat) : Int) = v at *
  refine AC_enter Tryz.func29 rfl Tryz.ntmps29 (rv := [.tmp 5]) rfl rfl (by simp) (fun w X G => ?_)
  repeat' (first | ((with_reducible refine gA ?_); (first | refine AW_seq ?_ | refine AW_region ?_ | refine AW_regionD Tryz.mixed ?_ | refine AW_ret ?_)) | (first | ((with_reducible refine gS ?_); refine Es_s (T := Tryz.tab) rfl rfl rfl rfl ?_) | ((with_reducible refine gD ?_); refine Ed_s (T := Tryz.tab) rfl rfl rfl rfl ?_)) | (((with_reducible refine gD ?_); apply Ed_q); rfl; rfl; (first | refine LStep_call (cc) rfl rfl rfl rfl | (refine LStep_indexOwnM (T := Tryz.tab) rfl rfl rfl rfl rfl rfl rfl ?_ ?_; (rw [List.length_map]; omega); (rw [List.length_map]; omega)) | (refine LStep_loadEM (T := Tryz.tab) rfl rfl rfl rfl rfl ?_ ha rfl; (rw [List.length_map]; omega)) | (refine LStep_loadEM (T := Tryz.tab) rfl rfl rfl rfl rfl ?_ hb rfl; (rw [List.length_map]; omega)))) | (with_reducible refine Es_nil ?_) | ((with_reducible refine Ed_nil ?_ ?_); kernel_rfl) | (with_reducible refine then_n ?_) | ((with_reducible refine gR ?_); first | refine ret1 rfl ?_ | refine ret2 rfl rfl ?_ | refine ret0 ?_ | refine end1 rfl ?_ | refine end0 ?_))
  all_goals first
    | exact ⟨rfl, Kp.sub ⟨rfl, rfl, trivial⟩⟩
    | trace_state
/-- the sort that share.Split asks for -/
def srtR (rs : List Nat) (n : Nat) : Prop :=
  AC Tryz.prog 28 [.own 1000 n, .fn 29 [.ptr 1100 0]] (H3 [.own 1101 n] 79 (rs.map nU) (List.range n)) [1000, 1100, 1101] (fun r h' => r = .tup [] ∧ SubH (H3 [.own 1101 n] 79 (rs.map nU) (isL (ltOf (cmpR rs)) (List.range n))) h')
theorem srtR20 (rs : List Nat) (n : Nat) (hn : rs.length = n) (h : n ≤ 20) : srtR rs n :=
  sortN_ac n (List.range n) List.length_range h n (fun _ hx _ hy => cbR_ac rs n hn (List.mem_range.1 hx) (List.mem_range.1 hy)) (swoR rs)
end Go.Proofs.YtodgjgkoaahhmaaGreatDoor
namespace Go.Proofs.YtodgjgkoaahhmaaGreatDoor
open Go.SL
/-! ### share.Split -/
theorem map_fill {e : Nat → List D} {l : List Nat} {i v : Nat} (h : l[i]? = some v) : ((fillV l i).map e).set i (e v) = (fillV l (i + 1)).map e := by rw [← List.map_set, fillV_set h]
theorem bump_snoc (ps l : List Nat) (j : Nat) : bump ps (l ++ [j]) = (bump ps l).set j ((bump ps l).getD j 0 + 1) := by unfold bump; rw [List.foldl_append]; rfl
theorem bump_le (B : Nat) : ∀ (l ps : List Nat), (∀ v ∈ ps, v ≤ B) → ∀ v ∈ bump ps l, v ≤ B + l.length
  | [], ps, h, v, hv => by simpa using h v hv
  | j :: l, ps, h, v, hv => by
    have hv' : v ∈ bump (ps.set j (ps.getD j 0 + 1)) l := hv
    have := bump_le (B + 1) l (ps.set j (ps.getD j 0 + 1)) (fun u hu => by
      rcases List.mem_or_eq_of_mem_set hu with q | q
      · have := h u q; omega
      · by_cases hj : j < ps.length
        · have h2 := h _ (List.getElem_mem hj)
          rw [List.getD_eq_getElem?_getD, List.getElem?_eq_getElem hj, Option.getD_some] at q
          omega
        · rw [List.getD_eq_getElem?_getD, List.getElem?_eq_none (by omega), Option.getD_none] at q
          omega) v hv'
    rw [List.length_cons]
    omega
def P3 (t s : Nat) (ws : List Nat) (i : Nat) : Hp :=
  [(30, some (.arr 2 1 ((fillV (shQ t s ws) i).map nN))), (47, some (.arr 79 1 ((fillV (shR t s ws) i).map nU))), (50, some (.arr 3 1 ((fillV (List.range ws.length) i).map nN)))]
set_option maxRecDepth 10000 in
set_option maxHeartbeats 8000000 in
theorem split_ac (t : Nat) (ws : List Nat) (ht : t ≤ 1099511627776) (h0 : ws ≠ []) (hl : ws.length ≤ 4096) (hw : ∀ x ∈ ws, x ≤ 1099511627776) (hp : 0 < t → 0 < ws.sum)
    (hD : ∀ w ∈ ws, AC Tryz.prog 27 [uN (t * w / 18446744073709551616), uN (t * w % 18446744073709551616), uN ws.sum] [] [] (fun r _ => r = .tup [uN (t * w / ws.sum), uN (t * w % ws.sum)]))
    (hS : srtR (shR t ws.sum ws) ws.length) :
    AC Tryz.prog 11 [.d (.sc (.int .i64 ((t : Nat) : Int))), .d (.sl 1 (ws.map nN))] [] [] (fun r _ => r = .tup [.d (.sl 1 ((splitN t ws).map nN)), .d (.sc (.int .i64 0))]) := by
  have cw := shareWrong_ac t ws ht h0 hl hw (fun h => by
    have hs := hp h
    refine Classical.byContradiction fun hc => ?_
    have : ws.sum ≤ ws.length * 0 := sum_leF ws 0 (fun x hx => by
      refine Classical.byContradiction fun hx0 => hc ⟨x, hx, by omega⟩)
    omega)
  by_cases h00 : t = 0
  · subst h00
    have e : splitN 0 ws = List.replicate ws.length 0 := by unfold splitN; rw [if_pos rfl]
    have e2 : List.replicate ((ws.length : Nat) : Int).toNat [D.sc (.int .i64 0)] = (List.replicate ws.length 0).map nN := by rw [List.map_replicate, Int.toNat_natCast]; rfl
    rw [e]
    have g1 : eqb ((0 : Nat) : Int) 0 = true := by rw [eqb_t]; omega
    refine AC_enter Tryz.func11 rfl Tryz.ntmps11 (rv := [.tmp 4, .tmp 5]) rfl rfl (by simp) (fun w X G => ?_)
    repeat' (first | ((with_reducible refine gRc ?_); refine AW_freeze [4] (id := 30) ⟨rfl, trivial⟩ rfl List.length_replicate ?_) | ((with_reducible refine gA ?_); (first | refine AW_seq ?_ | refine AW_region ?_ | (refine AW_condY rfl ?_ ?_; assumption) | (refine AW_cond rfl (fun hc => ?_) (fun hc => ?_) <;> try (exfalso; simp only [cmpL] at hc; omega)) | refine AW_ret ?_ | refine AW_skip ?_)) | ((with_reducible refine gS ?_); refine Es_s (T := Tryz.tab) rfl rfl rfl rfl ?_) | (((with_reducible refine gS ?_); apply Es_q); rfl; rfl; refine LStep_call (cw) rfl rfl rfl rfl) | (((with_reducible refine gS ?_); apply Es_xs); rfl; rfl; (refine LStep_makeOwn (T := Tryz.tab) rfl rfl rfl rfl rfl rfl rfl rfl rfl rfl ?_ ?_ ?_ ?_; omega; omega; omega; omega); rfl) | (((with_reducible refine gS ?_); apply Es_q); rfl; rfl; refine LStep_lenM (T := Tryz.tab) rfl rfl rfl rfl) | (with_reducible refine Es_nil ?_) | (with_reducible refine then_n ?_) | (with_reducible refine then_r ?_) | ((with_reducible refine gR ?_); first | refine ret1 rfl ?_ | refine ret2 rfl rfl ?_ | refine ret0 ?_ | refine end1 rfl ?_ | refine end0 ?_))
    all_goals first
      | (show _ = AV.tup [_, _]; rw [← e2]; rfl)
      | trace_state
  have hs0 := hp (by omega)
  have hs1 : ws.sum ≤ 4503599627370496 := by
    have := sum_leF ws _ hw
    have : ws.length * 1099511627776 ≤ 4096 * 1099511627776 := Nat.mul_le_mul_right _ hl
    omega
  have g1 : eqb ((t : Nat) : Int) 0 = false := by rw [eqb_f]; omega
  have eS : splitN t ws = bump (shQ t ws.sum ws) ((ordR (shR t ws.sum ws)).take (t - (shQ t ws.sum ws).sum)) := by unfold splitN; rw [if_neg h00]
  have hq0 := shQ_le (t := t) hs0 rfl
  have hlf := left_le (t := t) hs0 rfl
  have lq : (shQ t ws.sum ws).length = ws.length := by unfold shQ; rw [List.length_map]
  have lr : (shR t ws.sum ws).length = ws.length := by unfold shR; rw [List.length_map]
  have ln : (List.range ws.length).length = ws.length := List.length_range
  have eo : ordR (shR t ws.sum ws) = isL (ltOf (cmpR (shR t ws.sum ws))) (List.range ws.length) := by unfold ordR; rw [lr]
  refine AC_enter Tryz.func11 rfl Tryz.ntmps11 (rv := [.tmp 4, .tmp 5]) rfl rfl (by simp) (fun w X G => ?_)
  repeat' (first | ((with_reducible refine gA ?_); (first | refine AW_seq ?_ | refine AW_region ?_ | (refine AW_condN rfl ?_ ?_; assumption) | (refine AW_cond rfl (fun hc => ?_) (fun hc => ?_) <;> try (exfalso; simp only [cmpL] at hc; omega)) | refine AW_block ?_ | refine AW_skip ?_)) | ((with_reducible refine gS ?_); refine Es_s (T := Tryz.tab) rfl rfl rfl rfl ?_) | (((with_reducible refine gS ?_); apply Es_q); rfl; rfl; refine LStep_call (cw) rfl rfl rfl rfl) | (((with_reducible refine gS ?_); apply Es_xs); rfl; rfl; (refine LStep_makeOwn (T := Tryz.tab) rfl rfl rfl rfl rfl rfl rfl rfl rfl rfl ?_ ?_ ?_ ?_; omega; omega; omega; omega); rfl) | (((with_reducible refine gS ?_); apply Es_q); rfl; rfl; refine LStep_lenM (T := Tryz.tab) rfl rfl rfl rfl) | (with_reducible refine Es_nil ?_) | (with_reducible refine then_n ?_))
  refine AW_forE (S := Nat) (fun k => k ≤ ws.length) (fun k => [(36, .d (.sc (.int .i64 (k : Nat)))), (8, .d (.sc (.int .u64 (((ws.take k).sum : Nat) : Int))))]) (fun _ => []) (fun k => ws.length - k) 0 (by omega) (by (repeat' (first | exact trivial | exact rfl | (refine ⟨Or.inl rfl, ?_⟩) | (refine ⟨Or.inr rfl, ?_⟩) | (refine ⟨Or.inr trivial, ?_⟩) | (refine ⟨rfl, ?_⟩) | (refine ⟨?_, ?_⟩)))) (by (repeat' (first | exact trivial | exact rfl | (refine ⟨Or.inl rfl, ?_⟩) | (refine ⟨Or.inr rfl, ?_⟩) | (refine ⟨Or.inr trivial, ?_⟩) | (refine ⟨rfl, ?_⟩) | (refine ⟨?_, ?_⟩)))) ?_
  intro k hk
  by_cases hlt : k < ws.length
  · obtain ⟨x, hx, _⟩ := drop_at hlt
    have hxw := hw x (List.mem_of_getElem? hx)
    have g2 : ltb (k : Nat) (ws.length : Nat) = true := by rw [ltb_t]; omega
    have hst := sum_take_at hx
    have hle := sum_take_le ws (k + 1)
    generalize (ws.take k).sum = u at *
    repeat' (first | ((with_reducible refine gA ?_); (first | refine AW_seq ?_ | refine AW_region ?_ | (refine AW_condY rfl ?_ ?_; assumption) | refine AW_block ?_ | refine AW_skip ?_)) | (((with_reducible refine gS ?_); apply Es_q); rfl; rfl; (first | (refine LStep_conv (T := Tryz.tab) rfl rfl rfl rfl rfl ?_; (refine u64_fit ?_; omega)) | (refine LStep_add rfl rfl rfl rfl ?_; (first | (refine IntWalk.i64_in _ ?_; omega) | (refine u64_fit ?_; omega))))) | ((with_reducible refine gS ?_); refine Es_s (T := Tryz.tab) rfl rfl rfl rfl ?_) | (((with_reducible refine gS ?_); apply Es_q); rfl; rfl; (refine LStep_indexM (T := Tryz.tab) (c := ?_) rfl rfl rfl rfl rfl rfl ?_; rotate_left; assumption)) | (with_reducible refine Es_nil ?_) | (with_reducible refine then_n ?_) | (with_reducible refine block_n ?_))
    all_goals first
      | (refine ⟨k + 1, by omega, by omega, ?_, by (repeat' (first | exact trivial | exact rfl | (refine ⟨Or.inl rfl, ?_⟩) | (refine ⟨Or.inr rfl, ?_⟩) | (refine ⟨Or.inr trivial, ?_⟩) | (refine ⟨rfl, ?_⟩) | (refine ⟨?_, ?_⟩))), by (repeat' (first | exact trivial | exact rfl | (refine ⟨Or.inl rfl, ?_⟩) | (refine ⟨Or.inr rfl, ?_⟩) | (refine ⟨Or.inr trivial, ?_⟩) | (refine ⟨rfl, ?_⟩) | (refine ⟨?_, ?_⟩))), by (repeat' (first | exact trivial | exact rfl | (refine ⟨Or.inl rfl, ?_⟩) | (refine ⟨Or.inr rfl, ?_⟩) | (refine ⟨Or.inr trivial, ?_⟩) | (refine ⟨rfl, ?_⟩) | (refine ⟨?_, ?_⟩)))⟩
         rw [hst]; (repeat' (first | exact trivial | exact rfl | (refine ⟨Or.inl rfl, ?_⟩) | (refine ⟨Or.inr rfl, ?_⟩) | (refine ⟨Or.inr trivial, ?_⟩) | (refine ⟨rfl, ?_⟩) | (refine ⟨?_, ?_⟩))))
      | trace_state
  have : k = ws.length := by omega
  subst this
  have g2 : ltb (ws.length : Nat) (ws.length : Nat) = false := by rw [ltb_f]; omega
  rw [List.take_length]
  repeat' (first | ((with_reducible refine gA ?_); (first | refine AW_seq ?_ | refine AW_region ?_ | (refine AW_condN rfl ?_ ?_; assumption) | refine AW_block ?_ | refine AW_exit ?_)) | ((with_reducible refine gS ?_); refine Es_s (T := Tryz.tab) rfl rfl rfl rfl ?_) | (((with_reducible refine gS ?_); apply Es_xs); rfl; rfl; (refine LStep_makeOwn (T := Tryz.tab) rfl rfl rfl rfl rfl rfl rfl rfl rfl rfl ?_ ?_ ?_ ?_; omega; omega; omega; omega); rfl) | (((with_reducible refine gS ?_); apply Es_q); rfl; rfl; refine LStep_lenM (T := Tryz.tab) rfl rfl rfl rfl) | (refine Es_skip rfl ?_ rfl ?_; (first | rfl | (refine w_tf ?_; assumption) | (refine w_ft ?_; assumption))) | (((with_reducible refine gS ?_); apply Es_xs); rfl; rfl; refine LStep_allocN (T := Tryz.tab) rfl rfl rfl rfl rfl rfl; rfl) | (((with_reducible refine gS ?_); apply Es_xn); rfl; rfl; (refine LStep_storeN (T := Tryz.tab) rfl rfl rfl rfl rfl rfl rfl ?_ rfl; (refine Nat.le_of_ble_eq_true ?_; rfl)); rfl) | (with_reducible refine Es_nil ?_) | (with_reducible refine then_n ?_) | (with_reducible refine then_e ?_) | ((with_reducible refine block_e ?_ ?_); rfl))
  simp only [Int.toNat_natCast]
  have z1 : (fillV (shQ t ws.sum ws) 0).map nN = List.replicate ws.length [D.sc (.int .i64 0)] := by rw [fillV_zero, List.map_replicate, lq]; rfl
  have z2 : (fillV (shR t ws.sum ws) 0).map nU = List.replicate ws.length [D.sc (.int .u64 0)] := by rw [fillV_zero, List.map_replicate, lr]; rfl
  have z3 : (fillV (List.range ws.length) 0).map nN = List.replicate ws.length [D.sc (.int .i64 0)] := by rw [fillV_zero, List.map_replicate, ln]; rfl
  refine AW_forE (S := Nat) (fun i => i ≤ ws.length) (fun i => [(54, .d (.sc (.int .i64 (i : Nat)))), (13, .d (.sc (.int .i64 ((t - ((shQ t ws.sum ws).take i).sum : Nat) : Int))))]) (fun i => P3 t ws.sum ws i) (fun i => ws.length - i) 0 (by omega) (by (repeat' (first | exact trivial | exact rfl | (refine ⟨Or.inl rfl, ?_⟩) | (refine ⟨Or.inr rfl, ?_⟩) | (refine ⟨Or.inr trivial, ?_⟩) | (refine ⟨rfl, ?_⟩) | (refine ⟨?_, ?_⟩)))) (by unfold P3; rw [z1, z2, z3]; (repeat' (first | exact trivial | exact rfl | (refine ⟨Or.inl rfl, ?_⟩) | (refine ⟨Or.inr rfl, ?_⟩) | (refine ⟨Or.inr trivial, ?_⟩) | (refine ⟨rfl, ?_⟩) | (refine ⟨?_, ?_⟩)))) ?_
  clear z1 z2 z3
  intro i hi
  by_cases hlt : i < ws.length
  · obtain ⟨x, hx, _⟩ := drop_at hlt
    have hxw := hw x (List.mem_of_getElem? hx)
    have hdx := hD x (List.mem_of_getElem? hx)
    have hxs := mem_le_sum (List.mem_of_getElem? hx)
    have g2 : ltb (i : Nat) (ws.length : Nat) = true := by rw [ltb_t]; omega
    have hx1 : (shQ t ws.sum ws)[i]? = some (t * x / ws.sum) := by unfold shQ; rw [List.getElem?_map, hx]; rfl
    have hx2 : (shR t ws.sum ws)[i]? = some (t * x % ws.sum) := by unfold shR; rw [List.getElem?_map, hx]; rfl
    have hx3 : (List.range ws.length)[i]? = some i := by rw [List.getElem?_range hlt]
    have hmu := mul64_ac t x (by omega) (by omega)
    have hqt : t * x / ws.sum ≤ t := by
      rw [Nat.div_le_iff_le_mul_add_pred hs0]
      have := Nat.mul_le_mul_left t hxs
      rw [Nat.mul_comm t ws.sum] at this
      omega
    have hst := sum_take_at hx1
    have hle := sum_take_le (shQ t ws.sum ws) (i + 1)
    have e1 := map_fill (e := nN) hx1
    have e2 := map_fill (e := nU) hx2
    have e3 := map_fill (e := nN) hx3
    have k1 := fillV_at (l := shQ t ws.sum ws) (i := i) (by omega)
    have k2 := fillV_at (l := shR t ws.sum ws) (i := i) (by omega)
    have k3 := fillV_at (l := List.range ws.length) (i := i) (by omega)
    have n1 := fillV_len (l := shQ t ws.sum ws) (i := i) (by omega)
    have n2 := fillV_len (l := shR t ws.sum ws) (i := i) (by omega)
    have n3 := fillV_len (l := List.range ws.length) (i := i) (by omega)
    unfold P3
    unfold uN at hdx hmu
    generalize hE1 : (fillV (shQ t ws.sum ws) (i + 1)).map nN = E1 at *
    generalize hE2 : (fillV (shR t ws.sum ws) (i + 1)).map nU = E2 at *
    generalize hE3 : (fillV (List.range ws.length) (i + 1)).map nN = E3 at *
    generalize fillV (shQ t ws.sum ws) i = L1 at *
    generalize fillV (shR t ws.sum ws) i = L2 at *
    generalize fillV (List.range ws.length) i = L3 at *
    generalize hu' : ((shQ t ws.sum ws).take (i + 1)).sum = u' at *
    generalize ((shQ t ws.sum ws).take i).sum = u at *
    generalize t * x / ws.sum = q at *
    generalize t * x % ws.sum = r at *
    generalize t * x / 18446744073709551616 = hi at *
    generalize t * x % 18446744073709551616 = lo at *
    have b5 : ((L1.map nN).set i (nN q))[i]? = some (nN q) := by rw [List.getElem?_set_self (by rw [List.length_map]; omega)]
    have hsub : AV.d (.sc (.int .i64 (wrp .i64 (((t - u : Nat) : Int) - ((q : Nat) : Int))))) = AV.d (.sc (.int .i64 ((t - u' : Nat) : Int))) := by
      rw [wrp_fit (by omega)]
      congr 3
      omega
    repeat' (first | ((with_reducible refine gA ?_); (first | refine AW_seq ?_ | refine AW_region ?_ | refine AW_regionD Tryz.mixed ?_ | (refine AW_condY rfl ?_ ?_; assumption) | refine AW_block ?_ | refine AW_skip ?_)) | ((first | ((with_reducible refine gS ?_); apply Es_q) | ((with_reducible refine gD ?_); apply Ed_q)); rfl; rfl; (first | (refine LStep_conv (T := Tryz.tab) rfl rfl rfl rfl rfl ?_; (first | (refine u64_fit ?_; omega) | (refine IntWalk.i64_in _ ?_; omega))) | refine LStep_fitQ (T := Tryz.tab) rfl rfl hsub)) | (first | ((with_reducible refine gS ?_); refine Es_s (T := Tryz.tab) rfl rfl rfl rfl ?_) | ((with_reducible refine gD ?_); refine Ed_s (T := Tryz.tab) rfl rfl rfl rfl ?_)) | ((first | ((with_reducible refine gS ?_); apply Es_q) | ((with_reducible refine gD ?_); apply Ed_q)); rfl; rfl; (first | refine LStep_call (hmu) rfl rfl rfl rfl | refine LStep_call (hdx) rfl rfl rfl rfl | (refine LStep_indexOwnM (T := Tryz.tab) rfl rfl rfl rfl rfl rfl rfl ?_ ?_; (simp only [List.length_set, List.length_map]; omega); (simp only [List.length_set, List.length_map]; omega)) | (refine LStep_loadE (T := Tryz.tab) rfl rfl rfl rfl rfl ?_ b5 rfl; (simp only [List.length_set, List.length_map]; omega)))) | ((first | ((with_reducible refine gS ?_); apply Es_xn) | ((with_reducible refine gD ?_); apply Ed_xn)); rfl; rfl; (first | (refine LStep_storeEM (T := Tryz.tab) rfl rfl rfl rfl rfl rfl rfl rfl ?_ k1 rfl; (rw [List.length_map]; omega)) | (refine LStep_storeEM (T := Tryz.tab) rfl rfl rfl rfl rfl rfl rfl rfl ?_ k2 rfl; (rw [List.length_map]; omega)) | (refine LStep_storeEM (T := Tryz.tab) rfl rfl rfl rfl rfl rfl rfl rfl ?_ k3 rfl; (rw [List.length_map]; omega))); rfl) | (((with_reducible refine gS ?_); apply Es_q); rfl; rfl; (first | (refine LStep_add rfl rfl rfl rfl ?_; (refine IntWalk.i64_in _ ?_; first | omega | (simp only [cmps] at *; omega))) | (refine LStep_indexM (T := Tryz.tab) (c := ?_) rfl rfl rfl rfl rfl rfl ?_; rotate_left; assumption))) | (with_reducible refine Es_nil ?_) | ((with_reducible refine Ed_nil ?_ ?_); kernel_rfl) | (with_reducible refine then_n ?_) | (with_reducible refine block_n ?_))
    all_goals first
      | (refine ⟨i + 1, by omega, by omega, ?_, by (repeat' (first | exact trivial | exact rfl | (refine ⟨Or.inl rfl, ?_⟩) | (refine ⟨Or.inr rfl, ?_⟩) | (refine ⟨Or.inr trivial, ?_⟩) | (refine ⟨rfl, ?_⟩) | (refine ⟨?_, ?_⟩))), ?_, by (repeat' (first | exact trivial | exact rfl | (refine ⟨Or.inl rfl, ?_⟩) | (refine ⟨Or.inr rfl, ?_⟩) | (refine ⟨Or.inr trivial, ?_⟩) | (refine ⟨rfl, ?_⟩) | (refine ⟨?_, ?_⟩)))⟩
         · rw [hu']; (repeat' (first | exact trivial | exact rfl | (refine ⟨Or.inl rfl, ?_⟩) | (refine ⟨Or.inr rfl, ?_⟩) | (refine ⟨Or.inr trivial, ?_⟩) | (refine ⟨rfl, ?_⟩) | (refine ⟨?_, ?_⟩)))
         · rw [hE1, hE2, hE3, ← e1, ← e2, ← e3]; (repeat' (first | exact trivial | exact rfl | (refine ⟨Or.inl rfl, ?_⟩) | (refine ⟨Or.inr rfl, ?_⟩) | (refine ⟨Or.inr trivial, ?_⟩) | (refine ⟨rfl, ?_⟩) | (refine ⟨?_, ?_⟩))))
      | trace_state
  have : i = ws.length := by omega
  subst this
  have g3 : ltb (ws.length : Nat) (ws.length : Nat) = false := by rw [ltb_f]; omega
  unfold P3
  have o1 : fillV (shQ t ws.sum ws) ws.length = shQ t ws.sum ws := by rw [← lq, fillV_all]
  have o2 : fillV (shR t ws.sum ws) ws.length = shR t ws.sum ws := by rw [← lr, fillV_all]
  have o3 : fillV (List.range ws.length) ws.length = List.range ws.length := by
    have := fillV_all (List.range ws.length)
    rwa [ln] at this
  have o4 : (shQ t ws.sum ws).take ws.length = shQ t ws.sum ws := by rw [← lq, List.take_length]
  rw [o1, o2, o3, o4, eS, eo]
  have hperm := isL_perm (lt := ltOf (cmpR (shR t ws.sum ws))) (List.range ws.length)
  have hol : (isL (ltOf (cmpR (shR t ws.sum ws))) (List.range ws.length)).length = ws.length := by rw [hperm.length_eq, ln]
  have hom : ∀ j ∈ isL (ltOf (cmpR (shR t ws.sum ws))) (List.range ws.length), j < ws.length := fun j hj => List.mem_range.1 (hperm.mem_iff.1 hj)
  have hqb : ∀ v ∈ shQ t ws.sum ws, v ≤ t := fun v hv => Nat.le_trans (mem_le_sum hv) hq0
  unfold srtR H3 HR at hS
  clear hD o1 o2 o3 o4 eS eo hperm
  generalize isL (ltOf (cmpR (shR t ws.sum ws))) (List.range ws.length) = ord at *
  generalize shQ t ws.sum ws = qs at *
  generalize shR t ws.sum ws = rs at *
  have hll : ((List.range ws.length).map nN).length = (ord.map nN).length := by rw [List.length_map, List.length_map, ln, hol]
  repeat' (first | ((with_reducible refine gA ?_); (first | refine AW_seq ?_ | refine AW_region ?_ | (refine AW_condN rfl ?_ ?_; assumption) | refine AW_block ?_ | refine AW_exit ?_)) | ((with_reducible refine gS ?_); refine Es_s (T := Tryz.tab) rfl rfl rfl rfl ?_) | (((with_reducible refine gS ?_); apply Es_q); rfl; rfl; (first | (refine LStep_partOwnTo (T := Tryz.tab) rfl rfl rfl rfl rfl rfl rfl ?_ ?_; (rw [List.length_map]; omega); (rw [List.length_map]; omega)) | (refine LStep_lenPart (T := Tryz.tab) rfl rfl rfl rfl rfl ?_; (rw [List.length_map]; omega)))) | (((with_reducible refine gS ?_); apply Es_xg); rfl; rfl; refine LStep_callHN [(1000, 50), (1100, 11), (1101, 47)] [] hS rfl rfl ⟨rfl, rfl, rfl, trivial⟩ rfl ⟨hll, trivial, rfl, trivial⟩ rfl rfl; rfl) | (with_reducible refine Es_nil ?_) | (with_reducible refine then_n ?_) | (with_reducible refine then_e ?_) | ((with_reducible refine block_e ?_ ?_); rfl))
  clear hll hS
  generalize hlv : t - qs.sum = lv at *
  refine AW_forE (S := Nat) (fun k => k ≤ lv) (fun k => [(101, .d (.sc (.int .i64 (k : Nat))))]) (fun k => [(30, some (.arr 2 1 ((bump qs (ord.take k)).map nN)))]) (fun k => lv - k) 0 (by omega) (by (repeat' (first | exact trivial | exact rfl | (refine ⟨Or.inl rfl, ?_⟩) | (refine ⟨Or.inr rfl, ?_⟩) | (refine ⟨Or.inr trivial, ?_⟩) | (refine ⟨rfl, ?_⟩) | (refine ⟨?_, ?_⟩)))) (by (repeat' (first | exact trivial | exact rfl | (refine ⟨Or.inl rfl, ?_⟩) | (refine ⟨Or.inr rfl, ?_⟩) | (refine ⟨Or.inr trivial, ?_⟩) | (refine ⟨rfl, ?_⟩) | (refine ⟨?_, ?_⟩)))) ?_
  intro k hk
  have hbl := bump_len (ord.take k) qs
  by_cases hlt : k < lv
  · have hko : k < ord.length := by omega
    obtain ⟨j, hj, _⟩ := drop_at hko
    have hjn := hom j (List.mem_of_getElem? hj)
    have g4 : ltb (k : Nat) (lv : Nat) = true := by rw [ltb_t]; omega
    have hst := bump_snoc qs (ord.take k) j
    rw [← take_at hj] at hst
    have hbb := bump_le t (ord.take k) qs hqb
    have htl : (ord.take k).length ≤ 4096 := by rw [List.length_take]; omega
    generalize (ord.take k).length = tl at *
    generalize hL' : bump qs (ord.take (k + 1)) = L' at *
    generalize bump qs (ord.take k) = L at *
    obtain ⟨v, hv⟩ : ∃ v, L[j]? = some v := ⟨_, List.getElem?_eq_getElem (by omega)⟩
    have hvb := hbb v (List.mem_of_getElem? hv)
    rw [getD_at hv] at hst
    have e1 : (L.map nN).set j (nN (v + 1)) = L'.map nN := by rw [← List.map_set, ← hst]
    repeat' (first | ((with_reducible refine gA ?_); (first | refine AW_seq ?_ | refine AW_region ?_ | (refine AW_condY rfl ?_ ?_; assumption) | refine AW_block ?_ | refine AW_skip ?_)) | ((with_reducible refine gS ?_); refine Es_s (T := Tryz.tab) rfl rfl rfl rfl ?_) | (((with_reducible refine gS ?_); apply Es_q); rfl; rfl; (first | (refine LStep_indexPart0 (T := Tryz.tab) rfl rfl rfl rfl rfl rfl rfl ?_ hlt; (rw [List.length_map]; omega)) | (refine LStep_indexOwnM (T := Tryz.tab) rfl rfl rfl rfl rfl rfl rfl ?_ ?_; (rw [List.length_map]; omega); (rw [List.length_map]; omega)) | (refine LStep_loadEM (T := Tryz.tab) rfl rfl rfl rfl rfl ?_ hj rfl; (rw [List.length_map]; omega)) | (refine LStep_loadEM (T := Tryz.tab) rfl rfl rfl rfl rfl ?_ hv rfl; (rw [List.length_map]; omega)))) | (((with_reducible refine gS ?_); apply Es_xn); rfl; rfl; (refine LStep_storeEM (T := Tryz.tab) rfl rfl rfl rfl rfl rfl rfl rfl ?_ hv rfl; (rw [List.length_map]; omega)); rfl) | (((with_reducible refine gS ?_); apply Es_q); rfl; rfl; (refine LStep_add rfl rfl rfl rfl ?_; (refine IntWalk.i64_in _ ?_; first | omega | (simp only [cmps] at *; omega)))) | (with_reducible refine Es_nil ?_) | (with_reducible refine then_n ?_) | (with_reducible refine block_n ?_))
    all_goals first
      | (refine ⟨k + 1, by omega, by omega, by (repeat' (first | exact trivial | exact rfl | (refine ⟨Or.inl rfl, ?_⟩) | (refine ⟨Or.inr rfl, ?_⟩) | (refine ⟨Or.inr trivial, ?_⟩) | (refine ⟨rfl, ?_⟩) | (refine ⟨?_, ?_⟩))), by (repeat' (first | exact trivial | exact rfl | (refine ⟨Or.inl rfl, ?_⟩) | (refine ⟨Or.inr rfl, ?_⟩) | (refine ⟨Or.inr trivial, ?_⟩) | (refine ⟨rfl, ?_⟩) | (refine ⟨?_, ?_⟩))), ?_, by (repeat' (first | exact trivial | exact rfl | (refine ⟨Or.inl rfl, ?_⟩) | (refine ⟨Or.inr rfl, ?_⟩) | (refine ⟨Or.inr trivial, ?_⟩) | (refine ⟨rfl, ?_⟩) | (refine ⟨?_, ?_⟩)))⟩
         rw [hL', ← e1]; (repeat' (first | exact trivial | exact rfl | (refine ⟨Or.inl rfl, ?_⟩) | (refine ⟨Or.inr rfl, ?_⟩) | (refine ⟨Or.inr trivial, ?_⟩) | (refine ⟨rfl, ?_⟩) | (refine ⟨?_, ?_⟩))))
      | trace_state
  have : k = lv := by omega
  subst this
  have g4 : ltb (k : Nat) (k : Nat) = false := by rw [ltb_f]; omega
  repeat' (first | ((with_reducible refine gRc ?_); refine AW_freeze [4] (id := 30) ⟨rfl, trivial⟩ rfl (show (List.map nN (bump qs (ord.take k))).length = ws.length by rw [List.length_map]; omega) ?_) | ((with_reducible refine gA ?_); (first | refine AW_seq ?_ | refine AW_region ?_ | (refine AW_condN rfl ?_ ?_; assumption) | refine AW_ret ?_ | refine AW_exit ?_)) | ((with_reducible refine gS ?_); refine Es_s (T := Tryz.tab) rfl rfl rfl rfl ?_) | (with_reducible refine Es_nil ?_) | (with_reducible refine then_n ?_) | (with_reducible refine then_e ?_) | ((with_reducible refine block_e ?_ ?_); rfl) | ((with_reducible refine gR ?_); first | refine ret1 rfl ?_ | refine ret2 rfl rfl ?_ | refine ret0 ?_ | refine end1 rfl ?_ | refine end0 ?_))
  all_goals first
    | rfl
    | trace_state
end Go.Proofs.YtodgjgkoaahhmaaGreatDoor
