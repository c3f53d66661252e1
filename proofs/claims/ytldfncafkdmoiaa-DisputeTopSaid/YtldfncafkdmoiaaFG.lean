import Derived.Test.YtldfncafkdmoiaaFF
import Derived.Test.YtldfncafkdmoiaaGD
namespace Go.Proofs.Ytldfncafkdmoiaa
open Go.SL
/-! ### share.wrong -/
def nI (n : Int) : List D := [.sc (.int .i64 n)]
def nN (n : Nat) : List D := [.sc (.int .i64 ((n : Nat) : Int))]
def nU (n : Nat) : List D := [.sc (.int .u64 ((n : Nat) : Int))]
theorem sw1_ac (x : Nat) : AC Try.prog 75 [.d (.sc (.int .i64 ((x : Nat) : Int)))] [] [] (fun r _ => r = .d (.sc (.bool false))) := by
  have g : ltb ((x : Nat) : Int) 0 = false := by rw [ltb_f]; omega
  refine AC_enter Try.func75 rfl Try.ntmps75 (rv := [.tmp 2]) rfl rfl (by simp) (fun w X G => ?_)
  repeat' (first | ((with_reducible refine gA ?_); (first | refine AW_seq ?_ | refine AW_region ?_ | refine AW_ret ?_)) | ((with_reducible refine gS ?_); refine Es_s (T := Try.tab) rfl rfl rfl rfl ?_) | (with_reducible refine Es_nil ?_) | (with_reducible refine then_n ?_) | ((with_reducible refine gR ?_); first | refine ret1 rfl ?_ | refine ret2 rfl rfl ?_ | refine ret0 ?_ | refine end1 rfl ?_ | refine end0 ?_))
  rw [g]
theorem sw2_ac (x : Nat) (hx : x ≤ 1099511627776) : AC Try.prog 76 [.d (.sc (.int .i64 ((x : Nat) : Int)))] [] [] (fun r _ => r = .d (.sc (.bool false))) := by
  have g : ltb 1099511627776 ((x : Nat) : Int) = false := by rw [ltb_f]; omega
  refine AC_enter Try.func76 rfl Try.ntmps76 (rv := [.tmp 2]) rfl rfl (by simp) (fun w X G => ?_)
  repeat' (first | ((with_reducible refine gA ?_); (first | refine AW_seq ?_ | refine AW_region ?_ | refine AW_ret ?_)) | ((with_reducible refine gS ?_); refine Es_s (T := Try.tab) rfl rfl rfl rfl ?_) | (with_reducible refine Es_nil ?_) | (with_reducible refine then_n ?_) | ((with_reducible refine gR ?_); first | refine ret1 rfl ?_ | refine ret2 rfl rfl ?_ | refine ret0 ?_ | refine end1 rfl ?_ | refine end0 ?_))
  rw [g]
theorem sw3_ac (x : Nat) : AC Try.prog 77 [.d (.sc (.int .i64 ((x : Nat) : Int)))] [] [] (fun r _ => r = .d (.sc (.bool (decide (0 < x))))) := by
  have g : ltb 0 ((x : Nat) : Int) = decide (0 < x) := by
    rw [Bool.eq_iff_iff, ltb_t, decide_eq_true_eq]; omega
  refine AC_enter Try.func77 rfl Try.ntmps77 (rv := [.tmp 2]) rfl rfl (by simp) (fun w X G => ?_)
  repeat' (first | ((with_reducible refine gA ?_); (first | refine AW_seq ?_ | refine AW_region ?_ | refine AW_ret ?_)) | ((with_reducible refine gS ?_); refine Es_s (T := Try.tab) rfl rfl rfl rfl ?_) | (with_reducible refine Es_nil ?_) | (with_reducible refine then_n ?_) | ((with_reducible refine gR ?_); first | refine ret1 rfl ?_ | refine ret2 rfl rfl ?_ | refine ret0 ?_ | refine end1 rfl ?_ | refine end0 ?_))
  rw [g]
def idxG {α : Type} (q : α → Bool) : List α → Nat → Int
  | [], _ => -1
  | x :: r, i => if q x then i else idxG q r (i + 1)
theorem idxG_any {α : Type} (q : α → Bool) : ∀ (l : List α) (i : Nat), leb 0 (idxG q l i) = l.any q
  | [], i => by rw [idxG, List.any_nil, leb_f]; omega
  | x :: r, i => by
    rw [idxG, List.any_cons]
    cases hq : q x
    · simpa using idxG_any q r (i + 1)
    · rw [if_pos rfl, Bool.true_or, leb_t]; omega
set_option maxRecDepth 10000 in
theorem idxI_ac (l : List Nat) (f : FuncId) (q : Nat → Bool) (hl : l.length ≤ 140737488351232) (hf : ∀ x ∈ l, AC Try.prog f [.d (.sc (.int .i64 ((x : Nat) : Int)))] [] [] (fun r _ => r = .d (.sc (.bool (q x))))) :
    AC Try.prog 92 [.d (.sl 1 (l.map nN)), .fn f []] [] [] (fun r _ => r = .d (.sc (.int .i64 (idxG q l 0)))) := by
  refine AC_enter Try.func92 rfl Try.ntmps92 (rv := [.tmp 4]) rfl rfl (by simp) (fun w X G => ?_)
  repeat' (first | ((with_reducible refine gA ?_); (first | refine AW_seq ?_ | refine AW_region ?_ | refine AW_block ?_)) | ((with_reducible refine gS ?_); refine Es_s (T := Try.tab) rfl rfl rfl rfl ?_) | (((with_reducible refine gS ?_); apply Es_q); rfl; rfl; refine LStep_lenM (T := Try.tab) rfl rfl rfl rfl) | (with_reducible refine Es_nil ?_) | (with_reducible refine then_n ?_))
  refine AW_forE (S := Nat) (fun k => k ≤ l.length ∧ idxG q l 0 = idxG q (l.drop k) k) (fun k => [(8, .d (.sc (.int .i64 (k : Nat))))]) (fun _ => []) (fun k => l.length - k) 0 ⟨by omega, rfl⟩ (by (repeat' (first | exact trivial | exact rfl | (refine ⟨Or.inl rfl, ?_⟩) | (refine ⟨Or.inr rfl, ?_⟩) | (refine ⟨Or.inr trivial, ?_⟩) | (refine ⟨rfl, ?_⟩) | (refine ⟨?_, ?_⟩)))) (by (repeat' (first | exact trivial | exact rfl | (refine ⟨Or.inl rfl, ?_⟩) | (refine ⟨Or.inr rfl, ?_⟩) | (refine ⟨Or.inr trivial, ?_⟩) | (refine ⟨rfl, ?_⟩) | (refine ⟨?_, ?_⟩)))) ?_
  intro k ⟨hk, hg⟩
  by_cases hlt : k < l.length
  · obtain ⟨x, hx, hd⟩ := drop_at hlt
    rw [hd, idxG] at hg
    have hfx := KpNil (hf x (List.mem_of_getElem? hx))
    repeat' (first | ((with_reducible refine gA ?_); (first | refine AW_seq ?_ | refine AW_region ?_ | (refine AW_cond rfl (fun hc => ?_) (fun hc => ?_) <;> try (exfalso; simp only [cmpL] at hc; omega)) | refine AW_block ?_ | refine AW_ret ?_ | refine AW_skip ?_)) | ((with_reducible refine gS ?_); refine Es_s (T := Try.tab) rfl rfl rfl rfl ?_) | (((with_reducible refine gS ?_); apply Es_q); rfl; rfl; refine LStep_callB hfx rfl rfl trivial rfl rfl) | (((with_reducible refine gS ?_); apply Es_q); rfl; rfl; (first | (refine LStep_add rfl rfl rfl rfl ?_; (refine IntWalk.i64_in _ ?_; first | omega | (simp only [cmps] at *; omega))) | (refine LStep_indexM (T := Try.tab) (c := ?_) rfl rfl rfl rfl rfl rfl ?_; rotate_left; assumption))) | (with_reducible refine Es_nil ?_) | (with_reducible refine then_n ?_) | (with_reducible refine then_r ?_) | (with_reducible refine block_n ?_) | (with_reducible refine block_r ?_) | ((with_reducible refine gR ?_); first | refine ret1 rfl ?_ | refine ret2 rfl rfl ?_ | refine ret0 ?_ | refine end1 rfl ?_ | refine end0 ?_))
    · have h : q x = true := by assumption
      rw [hg, if_pos h]
    · have h : q x = false := by assumption
      refine ⟨k + 1, ?_, by omega, by (repeat' (first | exact trivial | exact rfl | (refine ⟨Or.inl rfl, ?_⟩) | (refine ⟨Or.inr rfl, ?_⟩) | (refine ⟨Or.inr trivial, ?_⟩) | (refine ⟨rfl, ?_⟩) | (refine ⟨?_, ?_⟩))), by (repeat' (first | exact trivial | exact rfl | (refine ⟨Or.inl rfl, ?_⟩) | (refine ⟨Or.inr rfl, ?_⟩) | (refine ⟨Or.inr trivial, ?_⟩) | (refine ⟨rfl, ?_⟩) | (refine ⟨?_, ?_⟩))), by (repeat' (first | exact trivial | exact rfl | (refine ⟨Or.inl rfl, ?_⟩) | (refine ⟨Or.inr rfl, ?_⟩) | (refine ⟨Or.inr trivial, ?_⟩) | (refine ⟨rfl, ?_⟩) | (refine ⟨?_, ?_⟩))), by (repeat' (first | exact trivial | exact rfl | (refine ⟨Or.inl rfl, ?_⟩) | (refine ⟨Or.inr rfl, ?_⟩) | (refine ⟨Or.inr trivial, ?_⟩) | (refine ⟨rfl, ?_⟩) | (refine ⟨?_, ?_⟩)))⟩; exact ⟨by omega, by rw [hg, if_neg (by simp [h])]⟩
  · have : k = l.length := by omega
    subst this
    repeat' (first | ((with_reducible refine gA ?_); (first | refine AW_seq ?_ | refine AW_region ?_ | (refine AW_cond rfl (fun hc => ?_) (fun hc => ?_) <;> try (exfalso; simp only [cmpL] at hc; omega)) | refine AW_ret ?_ | refine AW_exit ?_)) | ((with_reducible refine gS ?_); refine Es_s (T := Try.tab) rfl rfl rfl rfl ?_) | (with_reducible refine Es_nil ?_) | (with_reducible refine then_n ?_) | (with_reducible refine then_e ?_) | ((with_reducible refine block_e ?_ ?_); rfl) | ((with_reducible refine gR ?_); first | refine ret1 rfl ?_ | refine ret2 rfl rfl ?_ | refine ret0 ?_ | refine end1 rfl ?_ | refine end0 ?_))
    rw [hg, drop_end, idxG]
set_option maxRecDepth 10000 in
theorem conI_ac (l : List Nat) (f : FuncId) (q : Nat → Bool) (hl : l.length ≤ 140737488351232) (hf : ∀ x ∈ l, AC Try.prog f [.d (.sc (.int .i64 ((x : Nat) : Int)))] [] [] (fun r _ => r = .d (.sc (.bool (q x))))) :
    AC Try.prog 74 [.d (.sl 1 (l.map nN)), .fn f []] [] [] (fun r _ => r = .d (.sc (.bool (l.any q)))) := by
  refine AC_enter Try.func74 rfl Try.ntmps74 (rv := [.tmp 4]) rfl rfl (by simp) (fun w X G => ?_)
  repeat' (first | ((with_reducible refine gA ?_); (first | refine AW_seq ?_ | refine AW_region ?_ | refine AW_ret ?_)) | ((with_reducible refine gS ?_); refine Es_s (T := Try.tab) rfl rfl rfl rfl ?_) | (((with_reducible refine gS ?_); apply Es_q); rfl; rfl; refine LStep_call (idxI_ac l f q hl hf) rfl rfl rfl rfl) | (with_reducible refine Es_nil ?_) | (with_reducible refine then_n ?_) | ((with_reducible refine gR ?_); first | refine ret1 rfl ?_ | refine ret2 rfl rfl ?_ | refine ret0 ?_ | refine end1 rfl ?_ | refine end0 ?_))
  rw [idxG_any]
set_option maxRecDepth 10000 in
/-- a total and weights that may be -/
theorem shareWrong_ac (t : Nat) (l : List Nat) (ht : t ≤ 1099511627776) (h0 : l ≠ []) (hl : l.length ≤ 4096) (hw : ∀ x ∈ l, x ≤ 1099511627776) (hp : 0 < t → ∃ x ∈ l, 0 < x) :
    AC Try.prog 48 [.d (.sc (.int .i64 ((t : Nat) : Int))), .d (.sl 1 (l.map nN))] [] [] (fun r _ => r = .d (.sc (.int .i64 0))) := by
  have hlp := List.length_pos_iff.2 h0
  have c1 := conI_ac l 75 (fun _ => false) (by omega) (fun x _ => sw1_ac x)
  have c2 := KpNil (sw2_ac t ht)
  have c3 := conI_ac l 76 (fun _ => false) (by omega) (fun x hx => sw2_ac x (hw x hx))
  have c4 := conI_ac l 77 (fun x => decide (0 < x)) (by omega) (fun x _ => sw3_ac x)
  have e1 : l.any (fun _ => false) = false := by simp
  have g1 : ltb ((t : Nat) : Int) 0 = false := by rw [ltb_f]; omega
  have g2 : eqb (((l.map nN).length : Nat) : Int) 0 = false := by rw [eqb_f, List.length_map]; omega
  have g3 : ltb 4096 (((l.map nN).length : Nat) : Int) = false := by rw [ltb_f, List.length_map]; omega
  have g2' : eqb ((l.length : Nat) : Int) 0 = false := by rw [eqb_f]; omega
  have g3' : ltb 4096 ((l.length : Nat) : Int) = false := by rw [ltb_f]; omega
  rw [e1] at c1 c3
  by_cases h : t = 0
  · have g4 : ltb 0 ((t : Nat) : Int) = false := by rw [ltb_f]; omega
    refine AC_enter Try.func48 rfl Try.ntmps48 (rv := [.tmp 4]) rfl rfl (by simp) (fun w X G => ?_)
    repeat' (first | ((with_reducible refine gA ?_); (first | refine AW_seq ?_ | refine AW_region ?_ | refine AW_condF rfl ?_ | refine AW_ret ?_ | refine AW_skip ?_)) | ((with_reducible refine gS ?_); refine Es_s (T := Try.tab) rfl rfl rfl rfl ?_) | (((with_reducible refine gS ?_); apply Es_q); rfl; (first | rfl | (refine w_ff ?_; assumption)); (first | refine LStep_call (c1) rfl rfl rfl rfl | refine LStep_callB c2 rfl rfl trivial rfl rfl | refine LStep_call (c3) rfl rfl rfl rfl)) | (((with_reducible refine gS ?_); apply Es_q); rfl; (first | rfl | (refine w_ff ?_; assumption)); (first | refine LStep_simp (T := Try.tab) rfl rfl | refine LStep_lenM (T := Try.tab) rfl rfl rfl rfl | (refine LStep_pickF rfl rfl ?_ rfl rfl; assumption))) | (refine Es_skip rfl ?_ rfl ?_; (first | rfl | (refine w_tf ?_; assumption) | (refine w_ft ?_; assumption))) | (with_reducible refine Es_nil ?_) | (with_reducible refine then_n ?_) | ((with_reducible refine gR ?_); first | refine ret1 rfl ?_ | refine ret2 rfl rfl ?_ | refine ret0 ?_ | refine end1 rfl ?_ | refine end0 ?_))
    all_goals first
      | rfl
      | trace_state
  · have g4 : ltb 0 ((t : Nat) : Int) = true := by rw [ltb_t]; omega
    have e2 : l.any (fun x => decide (0 < x)) = true := by
      obtain ⟨x, hx, hx0⟩ := hp (by omega)
      exact List.any_eq_true.2 ⟨x, hx, by rw [decide_eq_true_eq]; exact hx0⟩
    rw [e2] at c4
    refine AC_enter Try.func48 rfl Try.ntmps48 (rv := [.tmp 4]) rfl rfl (by simp) (fun w X G => ?_)
    repeat' (first | ((with_reducible refine gA ?_); (first | refine AW_seq ?_ | refine AW_region ?_ | refine AW_condF rfl ?_ | refine AW_ret ?_ | refine AW_skip ?_)) | ((with_reducible refine gS ?_); refine Es_s (T := Try.tab) rfl rfl rfl rfl ?_) | (((with_reducible refine gS ?_); apply Es_q); rfl; (first | rfl | (refine w_tt ?_; assumption) | (refine w_ff ?_; assumption)); (first | refine LStep_call (c1) rfl rfl rfl rfl | refine LStep_callB c2 rfl rfl trivial rfl rfl | refine LStep_call (c3) rfl rfl rfl rfl | refine LStep_call (c4) rfl rfl rfl rfl)) | (((with_reducible refine gS ?_); apply Es_q); rfl; (first | rfl | (refine w_tt ?_; assumption) | (refine w_ff ?_; assumption)); (first | refine LStep_simp (T := Try.tab) rfl rfl | refine LStep_lenM (T := Try.tab) rfl rfl rfl rfl | (refine LStep_pickT rfl rfl ?_ rfl rfl; assumption) | (refine LStep_pickF rfl rfl ?_ rfl rfl; assumption))) | (with_reducible refine Es_nil ?_) | (with_reducible refine then_n ?_) | ((with_reducible refine gR ?_); first | refine ret1 rfl ?_ | refine ret2 rfl rfl ?_ | refine ret0 ?_ | refine end1 rfl ?_ | refine end0 ?_))
    all_goals first
      | rfl
      | trace_state
end Go.Proofs.Ytldfncafkdmoiaa
