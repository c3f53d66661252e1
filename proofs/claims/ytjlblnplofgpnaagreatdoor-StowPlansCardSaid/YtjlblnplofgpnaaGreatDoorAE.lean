import Derived.Test.YtjlblnplofgpnaaGreatDoorA6
namespace Go.Proofs.YtjlblnplofgpnaaGreatDoor
open Go.SL
/-! ### the document's rows of loads -/
theorem eqS_slot : eqS Tryz.tab 8 41 = some [1, 1, 1] := by kernel_rfl
theorem eqG_slot : Tryz.prog.eqGuardType Tryz.prog.depth 41 = false := by kernel_rfl
theorem eqS_load : eqS Tryz.tab 8 43 = some [1, 1, 1, 2, 1, 1, 1] := by kernel_rfl
theorem eqG_load : Tryz.prog.eqGuardType Tryz.prog.depth 43 = false := by kernel_rfl
def Sl.eqB (a b : Sl) : Bool := eqb a.b b.b && (eqb a.r b.r && (eqb a.t b.t && true))
theorem sl_eqB {a b : Sl} : a.eqB b = decide (a = b) := by
  rw [Bool.eq_iff_iff, decide_eq_true_eq, Sl_eq]
  simp [Sl.eqB, eqb_t]
def Load.eqB (a b : Load) : Bool := eqb a.sl.b b.sl.b && (eqb a.sl.r b.sl.r && (eqb a.sl.t b.sl.t && (eqs a.box b.box && (eqb a.w b.w && (eqb a.c b.c && (eqb a.p b.p && true))))))
theorem load_eqB {a b : Load} : a.eqB b = decide (a = b) := by
  rw [Bool.eq_iff_iff, decide_eq_true_eq]
  simp only [Load.eqB, Bool.and_eq_true, Bool.and_true, eqb_t, eqs_t]
  constructor
  · rintro ⟨h1, h2, h3, h4, h5, h6, h7⟩
    cases a; cases b
    simp only [Load.mk.injEq]
    exact ⟨Sl_eq.2 ⟨h1, h2, h3⟩, h4, h5, h6, h7⟩
  · rintro rfl
    exact ⟨rfl, rfl, rfl, rfl, rfl, rfl, rfl⟩
/-- the place of the first that is so, from one on -/
def fI (p : Load → Bool) : List Load → Int → Int
  | [], _ => -1
  | x :: l, i => if p x = true then i else fI p l (i + 1)
set_option maxRecDepth 10000 in
set_option maxHeartbeats 2000000 in
theorem rAt_ac (M : List Load) (s : Sl) (hM : M.length ≤ 1048576) : AC Tryz.prog 96 [.d (.sl 7 (M.map Load.enc)), slA s] [] [] (fun r _ => r = .d (.sc (.int .i64 (fI (fun y => y.sl.eqB s) M 0)))) := by
  refine AC_enter Tryz.func96 rfl Tryz.ntmps96 (rv := [.tmp 4]) rfl rfl (by simp) (fun w X G => ?_)
  repeat' (first | ((with_reducible refine gA ?_); (first | refine AW_seq ?_ | refine AW_region ?_ | refine AW_block ?_)) | ((with_reducible refine gS ?_); refine Es_s (T := Tryz.tab) rfl rfl rfl rfl ?_) | (refine Es_skip rfl ?_ rfl ?_; (first | rfl | (refine w_tf ?_; assumption) | (refine w_ft ?_; assumption))) | (((with_reducible refine gS ?_); apply Es_xs); rfl; rfl; refine LStep_boxN rfl rfl rfl rfl rfl rfl; rfl) | (with_reducible refine Es_nil ?_) | (with_reducible refine then_n ?_))
  refine AW_forE (S := Nat) (fun k => k ≤ M.length ∧ fI (fun y => y.sl.eqB s) M 0 = fI (fun y => y.sl.eqB s) (M.drop k) (k : Nat)) (fun k => [(5, .d (.sc (.int .i64 (k : Nat))))]) (fun _ => []) (fun k => M.length - k) 0 ⟨by omega, rfl⟩ (by (repeat' (first | exact trivial | exact rfl | (refine ⟨Or.inl rfl, ?_⟩) | (refine ⟨Or.inr rfl, ?_⟩) | (refine ⟨Or.inr trivial, ?_⟩) | (refine ⟨rfl, ?_⟩) | (refine ⟨?_, ?_⟩)))) (by (repeat' (first | exact trivial | exact rfl | (refine ⟨Or.inl rfl, ?_⟩) | (refine ⟨Or.inr rfl, ?_⟩) | (refine ⟨Or.inr trivial, ?_⟩) | (refine ⟨rfl, ?_⟩) | (refine ⟨?_, ?_⟩)))) ?_
  intro k ⟨hk, hf⟩
  by_cases hlt : k < M.length
  · obtain ⟨x, hx, hd⟩ := drop_at hlt
    rw [hd, fI] at hf
    repeat' (first | ((with_reducible refine gA ?_); (first | refine AW_seq ?_ | refine AW_region ?_ | refine AW_regionD Tryz.mixed ?_ | (refine AW_cond rfl (fun hc => ?_) (fun hc => ?_) <;> try (exfalso; simp only [cmpL] at hc; omega)) | refine AW_block ?_ | refine AW_ret ?_ | refine AW_skip ?_)) | (first | ((with_reducible refine gS ?_); refine Es_s (T := Tryz.tab) rfl rfl rfl rfl ?_) | ((with_reducible refine gD ?_); refine Ed_s (T := Tryz.tab) rfl rfl rfl rfl ?_)) | ((first | ((with_reducible refine gS ?_); apply Es_q) | ((with_reducible refine gD ?_); apply Ed_q)); rfl; rfl; refine LStep_eqAgg (T := Tryz.tab) eqS_slot eqG_slot (by omega) rfl rfl rfl rfl rfl rfl) | ((first | ((with_reducible refine gS ?_); apply Es_q) | ((with_reducible refine gD ?_); apply Ed_q)); rfl; rfl; (first | refine LStep_lenM (T := Tryz.tab) rfl rfl rfl rfl | (refine LStep_add rfl rfl rfl rfl ?_; (refine IntWalk.i64_in _ ?_; first | omega | (simp only [cmps] at *; omega))) | (refine LStep_indexM (T := Tryz.tab) (c := ?_) rfl rfl rfl rfl rfl rfl ?_; rotate_left; assumption))) | (with_reducible refine Es_nil ?_) | ((with_reducible refine Ed_nil ?_ ?_); kernel_rfl) | (with_reducible refine then_n ?_) | (with_reducible refine then_r ?_) | (with_reducible refine block_n ?_) | (with_reducible refine block_r ?_) | ((with_reducible refine gR ?_); first | refine ret1 rfl ?_ | refine ret2 rfl rfl ?_ | refine ret0 ?_ | refine end1 rfl ?_ | refine end0 ?_))
    all_goals first
      | (have h : x.sl.eqB s = true := by assumption
         rw [if_pos h] at hf
         rw [hf])
      | (have h : x.sl.eqB s = false := by assumption
         rw [if_neg (by rw [h]; decide)] at hf
         refine ⟨k + 1, ?_, by omega, by (repeat' (first | exact trivial | exact rfl | (refine ⟨Or.inl rfl, ?_⟩) | (refine ⟨Or.inr rfl, ?_⟩) | (refine ⟨Or.inr trivial, ?_⟩) | (refine ⟨rfl, ?_⟩) | (refine ⟨?_, ?_⟩))), by (repeat' (first | exact trivial | exact rfl | (refine ⟨Or.inl rfl, ?_⟩) | (refine ⟨Or.inr rfl, ?_⟩) | (refine ⟨Or.inr trivial, ?_⟩) | (refine ⟨rfl, ?_⟩) | (refine ⟨?_, ?_⟩))), by (repeat' (first | exact trivial | exact rfl | (refine ⟨Or.inl rfl, ?_⟩) | (refine ⟨Or.inr rfl, ?_⟩) | (refine ⟨Or.inr trivial, ?_⟩) | (refine ⟨rfl, ?_⟩) | (refine ⟨?_, ?_⟩))), by (repeat' (first | exact trivial | exact rfl | (refine ⟨Or.inl rfl, ?_⟩) | (refine ⟨Or.inr rfl, ?_⟩) | (refine ⟨Or.inr trivial, ?_⟩) | (refine ⟨rfl, ?_⟩) | (refine ⟨?_, ?_⟩)))⟩; exact ⟨by omega, hf⟩)
      | trace_state
  · have : k = M.length := by omega
    subst this
    rw [drop_end] at hf
    repeat' (first | ((with_reducible refine gA ?_); (first | refine AW_seq ?_ | refine AW_region ?_ | (refine AW_cond rfl (fun hc => ?_) (fun hc => ?_) <;> try (exfalso; simp only [cmpL] at hc; omega)) | refine AW_ret ?_ | refine AW_exit ?_)) | ((with_reducible refine gS ?_); refine Es_s (T := Tryz.tab) rfl rfl rfl rfl ?_) | (((with_reducible refine gS ?_); apply Es_q); rfl; rfl; refine LStep_lenM (T := Tryz.tab) rfl rfl rfl rfl) | (with_reducible refine Es_nil ?_) | (with_reducible refine then_n ?_) | (with_reducible refine then_e ?_) | ((with_reducible refine block_e ?_ ?_); rfl) | ((with_reducible refine gR ?_); first | refine ret1 rfl ?_ | refine ret2 rfl rfl ?_ | refine ret0 ?_ | refine end1 rfl ?_ | refine end0 ?_))
    rw [hf]; rfl
set_option maxRecDepth 10000 in
set_option maxHeartbeats 2000000 in
theorem rFind_ac (M : List Load) (s : ByteArray) (hM : M.length ≤ 1048576) : AC Tryz.prog 22 [.d (.sl 7 (M.map Load.enc)), .d (.sc (.string s))] [] [] (fun r _ => r = .d (.sc (.int .i64 (fI (fun y => eqs y.box s) M 0)))) := by
  refine AC_enter Tryz.func22 rfl Tryz.ntmps22 (rv := [.tmp 4]) rfl rfl (by simp) (fun w X G => ?_)
  repeat' (first | ((with_reducible refine gA ?_); (first | refine AW_seq ?_ | refine AW_region ?_ | refine AW_block ?_)) | ((with_reducible refine gS ?_); refine Es_s (T := Tryz.tab) rfl rfl rfl rfl ?_) | (with_reducible refine Es_nil ?_) | (with_reducible refine then_n ?_))
  refine AW_forE (S := Nat) (fun k => k ≤ M.length ∧ fI (fun y => eqs y.box s) M 0 = fI (fun y => eqs y.box s) (M.drop k) (k : Nat)) (fun k => [(5, .d (.sc (.int .i64 (k : Nat))))]) (fun _ => []) (fun k => M.length - k) 0 ⟨by omega, rfl⟩ (by (repeat' (first | exact trivial | exact rfl | (refine ⟨Or.inl rfl, ?_⟩) | (refine ⟨Or.inr rfl, ?_⟩) | (refine ⟨Or.inr trivial, ?_⟩) | (refine ⟨rfl, ?_⟩) | (refine ⟨?_, ?_⟩)))) (by (repeat' (first | exact trivial | exact rfl | (refine ⟨Or.inl rfl, ?_⟩) | (refine ⟨Or.inr rfl, ?_⟩) | (refine ⟨Or.inr trivial, ?_⟩) | (refine ⟨rfl, ?_⟩) | (refine ⟨?_, ?_⟩)))) ?_
  intro k ⟨hk, hf⟩
  by_cases hlt : k < M.length
  · obtain ⟨x, hx, hd⟩ := drop_at hlt
    rw [hd, fI] at hf
    repeat' (first | ((with_reducible refine gA ?_); (first | refine AW_seq ?_ | refine AW_region ?_ | (refine AW_cond rfl (fun hc => ?_) (fun hc => ?_) <;> try (exfalso; simp only [cmpL] at hc; omega)) | refine AW_block ?_ | refine AW_ret ?_ | refine AW_skip ?_)) | ((with_reducible refine gS ?_); refine Es_s (T := Tryz.tab) rfl rfl rfl rfl ?_) | (((with_reducible refine gS ?_); apply Es_q); rfl; rfl; (first | refine LStep_lenM (T := Tryz.tab) rfl rfl rfl rfl | (refine LStep_add rfl rfl rfl rfl ?_; (refine IntWalk.i64_in _ ?_; first | omega | (simp only [cmps] at *; omega))) | (refine LStep_indexM (T := Tryz.tab) (c := ?_) rfl rfl rfl rfl rfl rfl ?_; rotate_left; assumption))) | (with_reducible refine Es_nil ?_) | (with_reducible refine then_n ?_) | (with_reducible refine then_r ?_) | (with_reducible refine block_n ?_) | (with_reducible refine block_r ?_) | ((with_reducible refine gR ?_); first | refine ret1 rfl ?_ | refine ret2 rfl rfl ?_ | refine ret0 ?_ | refine end1 rfl ?_ | refine end0 ?_))
    all_goals first
      | (have h : eqs x.box s = true := by assumption
         rw [if_pos h] at hf
         rw [hf])
      | (have h : eqs x.box s = false := by assumption
         rw [if_neg (by rw [h]; decide)] at hf
         refine ⟨k + 1, ?_, by omega, by (repeat' (first | exact trivial | exact rfl | (refine ⟨Or.inl rfl, ?_⟩) | (refine ⟨Or.inr rfl, ?_⟩) | (refine ⟨Or.inr trivial, ?_⟩) | (refine ⟨rfl, ?_⟩) | (refine ⟨?_, ?_⟩))), by (repeat' (first | exact trivial | exact rfl | (refine ⟨Or.inl rfl, ?_⟩) | (refine ⟨Or.inr rfl, ?_⟩) | (refine ⟨Or.inr trivial, ?_⟩) | (refine ⟨rfl, ?_⟩) | (refine ⟨?_, ?_⟩))), by (repeat' (first | exact trivial | exact rfl | (refine ⟨Or.inl rfl, ?_⟩) | (refine ⟨Or.inr rfl, ?_⟩) | (refine ⟨Or.inr trivial, ?_⟩) | (refine ⟨rfl, ?_⟩) | (refine ⟨?_, ?_⟩))), by (repeat' (first | exact trivial | exact rfl | (refine ⟨Or.inl rfl, ?_⟩) | (refine ⟨Or.inr rfl, ?_⟩) | (refine ⟨Or.inr trivial, ?_⟩) | (refine ⟨rfl, ?_⟩) | (refine ⟨?_, ?_⟩)))⟩; exact ⟨by omega, hf⟩)
      | trace_state
  · have : k = M.length := by omega
    subst this
    rw [drop_end] at hf
    repeat' (first | ((with_reducible refine gA ?_); (first | refine AW_seq ?_ | refine AW_region ?_ | (refine AW_cond rfl (fun hc => ?_) (fun hc => ?_) <;> try (exfalso; simp only [cmpL] at hc; omega)) | refine AW_ret ?_ | refine AW_exit ?_)) | ((with_reducible refine gS ?_); refine Es_s (T := Tryz.tab) rfl rfl rfl rfl ?_) | (((with_reducible refine gS ?_); apply Es_q); rfl; rfl; refine LStep_lenM (T := Tryz.tab) rfl rfl rfl rfl) | (with_reducible refine Es_nil ?_) | (with_reducible refine then_n ?_) | (with_reducible refine then_e ?_) | ((with_reducible refine block_e ?_ ?_); rfl) | ((with_reducible refine gR ?_); first | refine ret1 rfl ?_ | refine ret2 rfl rfl ?_ | refine ret0 ?_ | refine end1 rfl ?_ | refine end0 ?_))
    rw [hf]; rfl
set_option maxRecDepth 10000 in
theorem rLess_ac (a b : Sl) : AC Tryz.prog 127 [slA a, slA b] [] [] (fun r _ => r = .d (.sc (.bool (dless a b)))) := by
  refine AC_enter Tryz.func127 rfl Tryz.ntmps127 (rv := [.tmp 4]) rfl rfl (by simp) (fun w X G => ?_)
  repeat' (first | ((with_reducible refine gA ?_); (first | refine AW_seq ?_ | refine AW_region ?_ | (refine AW_cond rfl (fun hc => ?_) (fun hc => ?_) <;> try (exfalso; simp only [cmpL] at hc; omega)) | refine AW_ret ?_ | refine AW_skip ?_)) | ((with_reducible refine gS ?_); refine Es_s (T := Tryz.tab) rfl rfl rfl rfl ?_) | (refine Es_skip rfl ?_ rfl ?_; (first | rfl | (refine w_tf ?_; assumption) | (refine w_ft ?_; assumption))) | (((with_reducible refine gS ?_); apply Es_xs); rfl; rfl; refine LStep_boxN rfl rfl rfl rfl rfl rfl; rfl) | (with_reducible refine Es_nil ?_) | (with_reducible refine then_n ?_) | (with_reducible refine then_r ?_) | ((with_reducible refine gR ?_); first | refine ret1 rfl ?_ | refine ret2 rfl rfl ?_ | refine ret0 ?_ | refine end1 rfl ?_ | refine end0 ?_))
  all_goals simp only [cmps] at *
  all_goals first
    | (refine congrArg (fun b => AV.d (D.sc (Value.bool b))) ?_; rw [Bool.eq_iff_iff, dless_t]; simp only [ltb_t]; omega)
    | trace_state
set_option maxRecDepth 10000 in
theorem rNear_ac (a b : Sl) (ha : (-1048576 ≤ a.b ∧ a.b ≤ 1048576) ∧ (-1048576 ≤ a.r ∧ a.r ≤ 1048576)) (hb : (-1048576 ≤ b.b ∧ b.b ≤ 1048576) ∧ (-1048576 ≤ b.r ∧ b.r ≤ 1048576)) : AC Tryz.prog 129 [slA a, slA b] [] [] (fun r _ => r = .d (.sc (.bool (nearB a b)))) := by
  have hm : ∀ x : Int, -2097152 ≤ x → x ≤ 2097152 → 0 ≤ x * x ∧ x * x ≤ 4398046511104 := by
    intro x h1 h2
    refine ⟨sq_nn x, ?_⟩
    by_cases h : 0 ≤ x
    · exact Int.mul_le_mul h2 h2 h (by omega)
    · have h3 : -x * -x ≤ 2097152 * 2097152 := Int.mul_le_mul (by omega) (by omega) (by omega) (by omega)
      rw [Int.neg_mul_neg] at h3
      exact h3
  have m1 := hm (a.b - b.b) (by omega) (by omega)
  have m2 := hm (a.r - b.r) (by omega) (by omega)
  refine AC_enter Tryz.func129 rfl Tryz.ntmps129 (rv := [.tmp 4]) rfl rfl (by simp) (fun w X G => ?_)
  repeat' (first | ((with_reducible refine gA ?_); (first | refine AW_seq ?_ | refine AW_region ?_ | refine AW_regionD Tryz.mixed ?_ | refine AW_ret ?_)) | (first | ((with_reducible refine gS ?_); refine Es_s (T := Tryz.tab) rfl rfl rfl rfl ?_) | ((with_reducible refine gD ?_); refine Ed_s (T := Tryz.tab) rfl rfl rfl rfl ?_)) | ((first | ((with_reducible refine gS ?_); apply Es_q) | ((with_reducible refine gD ?_); apply Ed_q)); rfl; rfl; (first | (refine LStep_add rfl rfl rfl rfl ?_; (refine IntWalk.i64_in _ ?_; first | omega | (simp only [cmps] at *; omega))) | (refine LStep_sub rfl rfl rfl rfl ?_; (refine IntWalk.i64_in _ ?_; first | omega | (simp only [cmps] at *; omega))) | (refine LStep_mul rfl rfl rfl rfl ?_; (refine IntWalk.i64_in _ ?_; first | omega | (simp only [cmps] at *; omega))))) | (refine Es_skip rfl ?_ rfl ?_; (first | rfl | (refine w_tf ?_; assumption) | (refine w_ft ?_; assumption))) | (((with_reducible refine gS ?_); apply Es_xs); rfl; rfl; refine LStep_boxN rfl rfl rfl rfl rfl rfl; rfl) | (with_reducible refine Es_nil ?_) | ((with_reducible refine Ed_nil ?_ ?_); kernel_rfl) | (with_reducible refine then_n ?_) | ((with_reducible refine gR ?_); first | refine ret1 rfl ?_ | refine ret2 rfl rfl ?_ | refine ret0 ?_ | refine end1 rfl ?_ | refine end0 ?_))
  all_goals first
    | rfl
    | (refine congrArg (fun b => AV.d (D.sc (Value.bool b))) ?_; unfold nearB leb; rfl)
    | trace_state
end Go.Proofs.YtjlblnplofgpnaaGreatDoor
namespace Go.Proofs.YtjlblnplofgpnaaGreatDoor
open Go.SL
/-! ### the document's sums, clashes, rows alike -/
theorem sum_in {f : Load → Int} {c : Int} (hc : 0 ≤ c) : ∀ {l : List Load}, (∀ x ∈ l, 0 ≤ f x ∧ f x ≤ c) → 0 ≤ (l.map f).sum ∧ (l.map f).sum ≤ c * l.length
  | [], _ => by simp
  | x :: l, h => by
    have h1 := sum_in hc (l := l) (fun y hy => h y (List.mem_cons_of_mem _ hy))
    have h2 := h x List.mem_cons_self
    rw [List.map_cons, List.sum_cons, List.length_cons, Int.natCast_succ, Int.mul_add]
    omega
theorem take_in {f : Load → Int} {M : List Load} (hM : M.length ≤ 1048576) (h : ∀ x ∈ M, 0 ≤ f x ∧ f x ≤ 1048576) (k : Nat) : 0 ≤ ((M.take k).map f).sum ∧ ((M.take k).map f).sum ≤ 1099511627776 := by
  have h1 := sum_in (c := 1048576) (by omega) (l := M.take k) (fun x hx => h x (List.mem_of_mem_take hx))
  have h2 : (M.take k).length ≤ 1048576 := by rw [List.length_take]; omega
  omega
set_option maxRecDepth 10000 in
set_option maxHeartbeats 2000000 in
theorem rWeight_ac (M : List Load) (hM : M.length ≤ 1048576) (hw : ∀ x ∈ M, 0 ≤ x.w ∧ x.w ≤ 1048576) : AC Tryz.prog 98 [.d (.sl 7 (M.map Load.enc))] [] [] (fun r _ => r = .d (.sc (.int .i64 (wsum M)))) := by
  refine AC_enter Tryz.func98 rfl Tryz.ntmps98 (rv := [.tmp 2]) rfl rfl (by simp) (fun w X G => ?_)
  repeat' (first | ((with_reducible refine gA ?_); (first | refine AW_seq ?_ | refine AW_region ?_ | refine AW_block ?_)) | ((with_reducible refine gS ?_); refine Es_s (T := Tryz.tab) rfl rfl rfl rfl ?_) | (with_reducible refine Es_nil ?_) | (with_reducible refine then_n ?_))
  refine AW_forE (S := Nat) (fun k => k ≤ M.length) (fun k => [(4, .d (.sc (.int .i64 (k : Nat)))), (3, .d (.sc (.int .i64 (wsum (M.take k)))))]) (fun _ => []) (fun k => M.length - k) 0 (by omega) (by (repeat' (first | exact trivial | exact rfl | (refine ⟨Or.inl rfl, ?_⟩) | (refine ⟨Or.inr rfl, ?_⟩) | (refine ⟨Or.inr trivial, ?_⟩) | (refine ⟨rfl, ?_⟩) | (refine ⟨?_, ?_⟩)))) (by (repeat' (first | exact trivial | exact rfl | (refine ⟨Or.inl rfl, ?_⟩) | (refine ⟨Or.inr rfl, ?_⟩) | (refine ⟨Or.inr trivial, ?_⟩) | (refine ⟨rfl, ?_⟩) | (refine ⟨?_, ?_⟩)))) ?_
  intro k hk
  by_cases hlt : k < M.length
  · obtain ⟨x, hx, _⟩ := drop_at hlt
    have ht : wsum (M.take (k + 1)) = wsum (M.take k) + x.w := by rw [take_at hx, wsum_app]; simp [wsum]
    have h1 : 0 ≤ wsum (M.take k) ∧ wsum (M.take k) ≤ 1099511627776 := take_in hM hw k
    have h2 := hw x (List.mem_of_getElem? hx)
    repeat' (first | ((with_reducible refine gA ?_); (first | refine AW_seq ?_ | refine AW_region ?_ | (refine AW_cond rfl (fun hc => ?_) (fun hc => ?_) <;> try (exfalso; simp only [cmpL] at hc; omega)) | refine AW_block ?_ | refine AW_skip ?_)) | ((with_reducible refine gS ?_); refine Es_s (T := Tryz.tab) rfl rfl rfl rfl ?_) | (((with_reducible refine gS ?_); apply Es_q); rfl; rfl; (first | refine LStep_lenM (T := Tryz.tab) rfl rfl rfl rfl | (refine LStep_add rfl rfl rfl rfl ?_; (refine IntWalk.i64_in _ ?_; first | omega | (simp only [cmps] at *; omega))) | (refine LStep_indexM (T := Tryz.tab) (c := ?_) rfl rfl rfl rfl rfl rfl ?_; rotate_left; assumption))) | (with_reducible refine Es_nil ?_) | (with_reducible refine then_n ?_) | (with_reducible refine block_n ?_))
    all_goals first
      | (refine ⟨k + 1, by omega, by omega, ?_, by (repeat' (first | exact trivial | exact rfl | (refine ⟨Or.inl rfl, ?_⟩) | (refine ⟨Or.inr rfl, ?_⟩) | (refine ⟨Or.inr trivial, ?_⟩) | (refine ⟨rfl, ?_⟩) | (refine ⟨?_, ?_⟩))), by (repeat' (first | exact trivial | exact rfl | (refine ⟨Or.inl rfl, ?_⟩) | (refine ⟨Or.inr rfl, ?_⟩) | (refine ⟨Or.inr trivial, ?_⟩) | (refine ⟨rfl, ?_⟩) | (refine ⟨?_, ?_⟩))), by (repeat' (first | exact trivial | exact rfl | (refine ⟨Or.inl rfl, ?_⟩) | (refine ⟨Or.inr rfl, ?_⟩) | (refine ⟨Or.inr trivial, ?_⟩) | (refine ⟨rfl, ?_⟩) | (refine ⟨?_, ?_⟩)))⟩; rw [ht]; (repeat' (first | exact trivial | exact rfl | (refine ⟨Or.inl rfl, ?_⟩) | (refine ⟨Or.inr rfl, ?_⟩) | (refine ⟨Or.inr trivial, ?_⟩) | (refine ⟨rfl, ?_⟩) | (refine ⟨?_, ?_⟩))))
      | trace_state
  · have : k = M.length := by omega
    subst this
    rw [List.take_length]
    repeat' (first | ((with_reducible refine gA ?_); (first | refine AW_seq ?_ | refine AW_region ?_ | (refine AW_cond rfl (fun hc => ?_) (fun hc => ?_) <;> try (exfalso; simp only [cmpL] at hc; omega)) | refine AW_ret ?_ | refine AW_exit ?_)) | ((with_reducible refine gS ?_); refine Es_s (T := Tryz.tab) rfl rfl rfl rfl ?_) | (((with_reducible refine gS ?_); apply Es_q); rfl; rfl; refine LStep_lenM (T := Tryz.tab) rfl rfl rfl rfl) | (with_reducible refine Es_nil ?_) | (with_reducible refine then_n ?_) | (with_reducible refine then_e ?_) | ((with_reducible refine block_e ?_ ?_); rfl) | ((with_reducible refine gR ?_); first | refine ret1 rfl ?_ | refine ret2 rfl rfl ?_ | refine ret0 ?_ | refine end1 rfl ?_ | refine end0 ?_))
    all_goals first
      | rfl
      | trace_state
set_option maxRecDepth 10000 in
set_option maxHeartbeats 2000000 in
theorem rStack_ac (M : List Load) (b r : Int) (hM : M.length ≤ 1048576) (hw : ∀ x ∈ M, 0 ≤ x.w ∧ x.w ≤ 1048576) : AC Tryz.prog 97 [.d (.sl 7 (M.map Load.enc)), .d (.sc (.int .i64 b)), .d (.sc (.int .i64 r))] [] [] (fun v _ => v = .d (.sc (.int .i64 (stW M b r)))) := by
  refine AC_enter Tryz.func97 rfl Tryz.ntmps97 (rv := [.tmp 6]) rfl rfl (by simp) (fun w X G => ?_)
  repeat' (first | ((with_reducible refine gA ?_); (first | refine AW_seq ?_ | refine AW_region ?_ | refine AW_block ?_)) | ((with_reducible refine gS ?_); refine Es_s (T := Tryz.tab) rfl rfl rfl rfl ?_) | (with_reducible refine Es_nil ?_) | (with_reducible refine then_n ?_))
  refine AW_forE (S := Nat) (fun k => k ≤ M.length) (fun k => [(8, .d (.sc (.int .i64 (k : Nat)))), (7, .d (.sc (.int .i64 (stW (M.take k) b r))))]) (fun _ => []) (fun k => M.length - k) 0 (by omega) (by (repeat' (first | exact trivial | exact rfl | (refine ⟨Or.inl rfl, ?_⟩) | (refine ⟨Or.inr rfl, ?_⟩) | (refine ⟨Or.inr trivial, ?_⟩) | (refine ⟨rfl, ?_⟩) | (refine ⟨?_, ?_⟩)))) (by (repeat' (first | exact trivial | exact rfl | (refine ⟨Or.inl rfl, ?_⟩) | (refine ⟨Or.inr rfl, ?_⟩) | (refine ⟨Or.inr trivial, ?_⟩) | (refine ⟨rfl, ?_⟩) | (refine ⟨?_, ?_⟩)))) ?_
  intro k hk
  by_cases hlt : k < M.length
  · obtain ⟨x, hx, _⟩ := drop_at hlt
    have ht : stW (M.take (k + 1)) b r = stW (M.take k) b r + (if inSt b r x = true then x.w else 0) := by rw [take_at hx, stW_app]; simp [stW]
    have h2 := hw x (List.mem_of_getElem? hx)
    have h1 : 0 ≤ stW (M.take k) b r ∧ stW (M.take k) b r ≤ 1099511627776 := take_in hM (fun x hx => by have := hw x hx; split <;> omega) k
    generalize stW (M.take k) b r = v at ht h1
    repeat' (first | ((with_reducible refine gA ?_); (first | refine AW_seq ?_ | refine AW_region ?_ | refine AW_condF rfl ?_ | (refine AW_cond rfl (fun hc => ?_) (fun hc => ?_) <;> try (exfalso; simp only [cmpL] at hc; omega)) | refine AW_block ?_ | refine AW_skip ?_)) | ((with_reducible refine gS ?_); refine Es_s (T := Tryz.tab) rfl rfl rfl rfl ?_) | (((with_reducible refine gS ?_); apply Es_q); rfl; (first | rfl | (refine w_tt ?_; assumption)); (first | refine LStep_simp (T := Tryz.tab) rfl rfl | refine LStep_lenM (T := Tryz.tab) rfl rfl rfl rfl | (refine LStep_add rfl rfl rfl rfl ?_; (refine IntWalk.i64_in _ ?_; first | omega | (simp only [cmps] at *; omega))) | (refine LStep_pickT rfl rfl ?_ rfl rfl; assumption) | (refine LStep_pickF rfl rfl ?_ rfl rfl; assumption) | (refine LStep_indexM (T := Tryz.tab) (c := ?_) rfl rfl rfl rfl rfl rfl ?_; rotate_left; assumption))) | (refine Es_skip rfl ?_ rfl ?_; (first | rfl | (refine w_tf ?_; assumption) | (refine w_ft ?_; assumption))) | (refine Es_split rfl ?_ (fun _ => ?_) (fun _ => ?_); ((fail_if_success (refine und_t ?_; assumption)); (fail_if_success (refine und_f ?_; assumption)); exact trivial)) | (with_reducible refine Es_nil ?_) | (with_reducible refine then_n ?_) | (with_reducible refine block_n ?_))
    all_goals simp only [cmps] at *
    all_goals first
      | (refine ⟨k + 1, by omega, by omega, ?_, by (repeat' (first | exact trivial | exact rfl | (refine ⟨Or.inl rfl, ?_⟩) | (refine ⟨Or.inr rfl, ?_⟩) | (refine ⟨Or.inr trivial, ?_⟩) | (refine ⟨rfl, ?_⟩) | (refine ⟨?_, ?_⟩))), by (repeat' (first | exact trivial | exact rfl | (refine ⟨Or.inl rfl, ?_⟩) | (refine ⟨Or.inr rfl, ?_⟩) | (refine ⟨Or.inr trivial, ?_⟩) | (refine ⟨rfl, ?_⟩) | (refine ⟨?_, ?_⟩))), by (repeat' (first | exact trivial | exact rfl | (refine ⟨Or.inl rfl, ?_⟩) | (refine ⟨Or.inr rfl, ?_⟩) | (refine ⟨Or.inr trivial, ?_⟩) | (refine ⟨rfl, ?_⟩) | (refine ⟨?_, ?_⟩)))⟩
         rw [ht]
         first
           | (rw [if_pos (inSt_iff.2 ⟨by omega, by omega⟩)]; (repeat' (first | exact trivial | exact rfl | (refine ⟨Or.inl rfl, ?_⟩) | (refine ⟨Or.inr rfl, ?_⟩) | (refine ⟨Or.inr trivial, ?_⟩) | (refine ⟨rfl, ?_⟩) | (refine ⟨?_, ?_⟩))))
           | (rw [if_neg (fun h => by have := inSt_iff.1 h; omega), Int.add_zero]; (repeat' (first | exact trivial | exact rfl | (refine ⟨Or.inl rfl, ?_⟩) | (refine ⟨Or.inr rfl, ?_⟩) | (refine ⟨Or.inr trivial, ?_⟩) | (refine ⟨rfl, ?_⟩) | (refine ⟨?_, ?_⟩)))))
      | trace_state
  · have : k = M.length := by omega
    subst this
    rw [List.take_length]
    repeat' (first | ((with_reducible refine gA ?_); (first | refine AW_seq ?_ | refine AW_region ?_ | (refine AW_cond rfl (fun hc => ?_) (fun hc => ?_) <;> try (exfalso; simp only [cmpL] at hc; omega)) | refine AW_ret ?_ | refine AW_exit ?_)) | ((with_reducible refine gS ?_); refine Es_s (T := Tryz.tab) rfl rfl rfl rfl ?_) | (((with_reducible refine gS ?_); apply Es_q); rfl; rfl; refine LStep_lenM (T := Tryz.tab) rfl rfl rfl rfl) | (with_reducible refine Es_nil ?_) | (with_reducible refine then_n ?_) | (with_reducible refine then_e ?_) | ((with_reducible refine block_e ?_ ?_); rfl) | ((with_reducible refine gR ?_); first | refine ret1 rfl ?_ | refine ret2 rfl rfl ?_ | refine ret0 ?_ | refine end1 rfl ?_ | refine end0 ?_))
    all_goals first
      | rfl
      | trace_state
def llE : List Load → List Load → Bool
  | [], [] => true
  | x :: xs, y :: ys => x.eqB y && llE xs ys
  | _, _ => false
theorem llE_eq : ∀ {a b : List Load}, llE a b = decide (a = b)
  | [], [] => by simp [llE]
  | [], y :: b => by simp [llE]
  | x :: a, [] => by simp [llE]
  | x :: a, y :: b => by
    rw [llE, llE_eq, load_eqB, Bool.eq_iff_iff]
    simp
theorem llE_len {a b : List Load} (h : a.length ≠ b.length) : llE a b = false := by
  rw [llE_eq, decide_eq_false_iff_not]
  rintro rfl
  exact h rfl
set_option maxRecDepth 10000 in
set_option maxHeartbeats 2000000 in
theorem rSame_ac (a b : List Load) (ha : a.length ≤ 140737488351232) : AC Tryz.prog 14 [.d (.sl 7 (a.map Load.enc)), .d (.sl 7 (b.map Load.enc))] [] [] (fun r _ => r = .d (.sc (.bool (llE a b)))) := by
  refine AC_enter Tryz.func14 rfl Tryz.ntmps14 (rv := [.tmp 4]) rfl rfl (by simp) (fun w X G => ?_)
  repeat' (first | ((with_reducible refine gA ?_); (first | refine AW_seq ?_ | refine AW_region ?_ | (refine AW_cond rfl (fun hc => ?_) (fun hc => ?_) <;> try (exfalso; simp only [cmpL] at hc; omega)) | refine AW_block ?_ | refine AW_ret ?_ | refine AW_skip ?_)) | ((with_reducible refine gS ?_); refine Es_s (T := Tryz.tab) rfl rfl rfl rfl ?_) | (((with_reducible refine gS ?_); apply Es_q); rfl; rfl; refine LStep_lenM (T := Tryz.tab) rfl rfl rfl rfl) | (with_reducible refine Es_nil ?_) | (with_reducible refine then_n ?_) | (with_reducible refine then_r ?_) | ((with_reducible refine gR ?_); first | refine ret1 rfl ?_ | refine ret2 rfl rfl ?_ | refine ret0 ?_ | refine end1 rfl ?_ | refine end0 ?_))
  all_goals simp only [cmps] at *
  · refine congrArg (fun b => AV.d (D.sc (Value.bool b))) ?_; rw [llE_len (by omega)]
  have hl : a.length = b.length := by omega
  refine AW_forE (S := Nat) (fun k => k ≤ a.length ∧ llE a b = llE (a.drop k) (b.drop k)) (fun k => [(5, .d (.sc (.int .i64 (k : Nat))))]) (fun _ => []) (fun k => a.length - k) 0 ⟨by omega, rfl⟩ (by (repeat' (first | exact trivial | exact rfl | (refine ⟨Or.inl rfl, ?_⟩) | (refine ⟨Or.inr rfl, ?_⟩) | (refine ⟨Or.inr trivial, ?_⟩) | (refine ⟨rfl, ?_⟩) | (refine ⟨?_, ?_⟩)))) (by (repeat' (first | exact trivial | exact rfl | (refine ⟨Or.inl rfl, ?_⟩) | (refine ⟨Or.inr rfl, ?_⟩) | (refine ⟨Or.inr trivial, ?_⟩) | (refine ⟨rfl, ?_⟩) | (refine ⟨?_, ?_⟩)))) ?_
  intro k ⟨hk, hf⟩
  by_cases hlt : k < a.length
  · obtain ⟨x, hx, hd⟩ := drop_at hlt
    obtain ⟨y, hy, hd'⟩ := drop_at (show k < b.length by omega)
    rw [hd, hd', llE] at hf
    repeat' (first | ((with_reducible refine gA ?_); (first | refine AW_seq ?_ | refine AW_region ?_ | refine AW_regionD Tryz.mixed ?_ | (refine AW_cond rfl (fun hc => ?_) (fun hc => ?_) <;> try (exfalso; simp only [cmpL] at hc; omega)) | refine AW_block ?_ | refine AW_ret ?_ | refine AW_skip ?_)) | (first | ((with_reducible refine gS ?_); refine Es_s (T := Tryz.tab) rfl rfl rfl rfl ?_) | ((with_reducible refine gD ?_); refine Ed_s (T := Tryz.tab) rfl rfl rfl rfl ?_)) | ((first | ((with_reducible refine gS ?_); apply Es_q) | ((with_reducible refine gD ?_); apply Ed_q)); rfl; rfl; refine LStep_neqAgg (T := Tryz.tab) eqS_load eqG_load (by omega) rfl rfl rfl rfl rfl rfl) | ((first | ((with_reducible refine gS ?_); apply Es_q) | ((with_reducible refine gD ?_); apply Ed_q)); rfl; rfl; (first | refine LStep_lenM (T := Tryz.tab) rfl rfl rfl rfl | (refine LStep_add rfl rfl rfl rfl ?_; (refine IntWalk.i64_in _ ?_; first | omega | (simp only [cmps] at *; omega))) | (refine LStep_indexM (T := Tryz.tab) (c := ?_) rfl rfl rfl rfl rfl rfl ?_; rotate_left; assumption))) | (with_reducible refine Es_nil ?_) | ((with_reducible refine Ed_nil ?_ ?_); kernel_rfl) | (with_reducible refine then_n ?_) | (with_reducible refine then_r ?_) | (with_reducible refine block_n ?_) | (with_reducible refine block_r ?_) | ((with_reducible refine gR ?_); first | refine ret1 rfl ?_ | refine ret2 rfl rfl ?_ | refine ret0 ?_ | refine end1 rfl ?_ | refine end0 ?_))
    all_goals simp only [not_t, not_f] at *
    · have h : x.eqB y = false := by assumption
      refine congrArg (fun b => AV.d (D.sc (Value.bool b))) ?_; rw [hf, h]; rfl
    · have h : x.eqB y = true := by assumption
      refine ⟨k + 1, ?_, by omega, by (repeat' (first | exact trivial | exact rfl | (refine ⟨Or.inl rfl, ?_⟩) | (refine ⟨Or.inr rfl, ?_⟩) | (refine ⟨Or.inr trivial, ?_⟩) | (refine ⟨rfl, ?_⟩) | (refine ⟨?_, ?_⟩))), by (repeat' (first | exact trivial | exact rfl | (refine ⟨Or.inl rfl, ?_⟩) | (refine ⟨Or.inr rfl, ?_⟩) | (refine ⟨Or.inr trivial, ?_⟩) | (refine ⟨rfl, ?_⟩) | (refine ⟨?_, ?_⟩))), by (repeat' (first | exact trivial | exact rfl | (refine ⟨Or.inl rfl, ?_⟩) | (refine ⟨Or.inr rfl, ?_⟩) | (refine ⟨Or.inr trivial, ?_⟩) | (refine ⟨rfl, ?_⟩) | (refine ⟨?_, ?_⟩))), by (repeat' (first | exact trivial | exact rfl | (refine ⟨Or.inl rfl, ?_⟩) | (refine ⟨Or.inr rfl, ?_⟩) | (refine ⟨Or.inr trivial, ?_⟩) | (refine ⟨rfl, ?_⟩) | (refine ⟨?_, ?_⟩)))⟩; exact ⟨by omega, by rw [hf, h, Bool.true_and]⟩
  · have : k = a.length := by omega
    subst this
    have h2 : b.drop a.length = [] := by rw [hl]; exact drop_end
    rw [drop_end, h2, llE] at hf
    repeat' (first | ((with_reducible refine gA ?_); (first | refine AW_seq ?_ | refine AW_region ?_ | (refine AW_cond rfl (fun hc => ?_) (fun hc => ?_) <;> try (exfalso; simp only [cmpL] at hc; omega)) | refine AW_ret ?_ | refine AW_exit ?_)) | ((with_reducible refine gS ?_); refine Es_s (T := Tryz.tab) rfl rfl rfl rfl ?_) | (((with_reducible refine gS ?_); apply Es_q); rfl; rfl; refine LStep_lenM (T := Tryz.tab) rfl rfl rfl rfl) | (with_reducible refine Es_nil ?_) | (with_reducible refine then_n ?_) | (with_reducible refine then_e ?_) | ((with_reducible refine block_e ?_ ?_); rfl) | ((with_reducible refine gR ?_); first | refine ret1 rfl ?_ | refine ret2 rfl rfl ?_ | refine ret0 ?_ | refine end1 rfl ?_ | refine end0 ?_))
    refine congrArg (fun b => AV.d (D.sc (Value.bool b))) ?_; rw [hf]
set_option maxRecDepth 10000 in
set_option maxHeartbeats 2000000 in
theorem rClash_ac (M : List Load) (x : Load) (hM : M.length ≤ 1048576) (hs : ∀ y ∈ M, (-1048576 ≤ y.sl.b ∧ y.sl.b ≤ 1048576) ∧ (-1048576 ≤ y.sl.r ∧ y.sl.r ≤ 1048576)) (hx : (-1048576 ≤ x.sl.b ∧ x.sl.b ≤ 1048576) ∧ (-1048576 ≤ x.sl.r ∧ x.sl.r ≤ 1048576)) : AC Tryz.prog 99 [.d (.sl 7 (M.map Load.enc)), .agg x.cs2] [] [] (fun r _ => r = .d (.sc (.bool (clashD M x)))) := by
  refine AC_enter Tryz.func99 rfl Tryz.ntmps99 (rv := [.tmp 4]) rfl rfl (by simp) (fun w X G => ?_)
  repeat' (first | ((with_reducible refine gA ?_); (first | refine AW_seq ?_ | refine AW_region ?_ | refine AW_block ?_)) | ((with_reducible refine gS ?_); refine Es_s (T := Tryz.tab) rfl rfl rfl rfl ?_) | (refine Es_skip rfl ?_ rfl ?_; (first | rfl | (refine w_tf ?_; assumption) | (refine w_ft ?_; assumption))) | (((with_reducible refine gS ?_); apply Es_xs); rfl; rfl; refine LStep_boxN rfl rfl rfl rfl rfl rfl; rfl) | (with_reducible refine Es_nil ?_) | (with_reducible refine then_n ?_))
  refine AW_forE (S := Nat) (fun k => k ≤ M.length ∧ (M.take k).any (fun y => nearB y.sl x.sl && apB y.c x.c) = false) (fun k => [(5, .d (.sc (.int .i64 (k : Nat))))]) (fun _ => []) (fun k => M.length - k) 0 ⟨by omega, rfl⟩ (by (repeat' (first | exact trivial | exact rfl | (refine ⟨Or.inl rfl, ?_⟩) | (refine ⟨Or.inr rfl, ?_⟩) | (refine ⟨Or.inr trivial, ?_⟩) | (refine ⟨rfl, ?_⟩) | (refine ⟨?_, ?_⟩)))) (by (repeat' (first | exact trivial | exact rfl | (refine ⟨Or.inl rfl, ?_⟩) | (refine ⟨Or.inr rfl, ?_⟩) | (refine ⟨Or.inr trivial, ?_⟩) | (refine ⟨rfl, ?_⟩) | (refine ⟨?_, ?_⟩)))) ?_
  intro k ⟨hk, hf⟩
  by_cases hlt : k < M.length
  · obtain ⟨y, hy, _⟩ := drop_at hlt
    obtain ⟨g1, g2⟩ := any_takeB (f := fun y : Load => nearB y.sl x.sl && apB y.c x.c) hy hf
    have c1 := rNear_ac y.sl x.sl (hs y (List.mem_of_getElem? hy)) hx
    have c2 := rapart_ac y.c x.c
    repeat' (first | ((with_reducible refine gA ?_); (first | refine AW_seq ?_ | refine AW_region ?_ | refine AW_regionD Tryz.mixed ?_ | refine AW_condF rfl ?_ | (refine AW_cond rfl (fun hc => ?_) (fun hc => ?_) <;> try (exfalso; simp only [cmpL] at hc; omega)) | refine AW_block ?_ | refine AW_ret ?_ | refine AW_skip ?_)) | (first | ((with_reducible refine gS ?_); refine Es_s (T := Tryz.tab) rfl rfl rfl rfl ?_) | ((with_reducible refine gD ?_); refine Ed_s (T := Tryz.tab) rfl rfl rfl rfl ?_)) | ((first | ((with_reducible refine gS ?_); apply Es_q) | ((with_reducible refine gD ?_); apply Ed_q)); rfl; (first | rfl | (refine w_tt ?_; assumption)); (first | refine LStep_call (c1) rfl rfl rfl rfl | refine LStep_call (c2) rfl rfl rfl rfl)) | ((first | ((with_reducible refine gS ?_); apply Es_q) | ((with_reducible refine gD ?_); apply Ed_q)); rfl; (first | rfl | (refine w_tt ?_; assumption)); (first | refine LStep_simp (T := Tryz.tab) rfl rfl | refine LStep_lenM (T := Tryz.tab) rfl rfl rfl rfl | (refine LStep_add rfl rfl rfl rfl ?_; (refine IntWalk.i64_in _ ?_; first | omega | (simp only [cmps] at *; omega))) | (refine LStep_pickT rfl rfl ?_ rfl rfl; assumption) | (refine LStep_pickF rfl rfl ?_ rfl rfl; assumption) | (refine LStep_indexM (T := Tryz.tab) (c := ?_) rfl rfl rfl rfl rfl rfl ?_; rotate_left; assumption))) | (refine Ed_skip rfl ?_ rfl ?_; (first | rfl | (refine w_tf ?_; assumption) | (refine w_ft ?_; assumption))) | (refine Ed_split rfl ?_ (fun _ => ?_) (fun _ => ?_); ((fail_if_success (refine und_t ?_; assumption)); (fail_if_success (refine und_f ?_; assumption)); exact trivial)) | (with_reducible refine Es_nil ?_) | ((with_reducible refine Ed_nil ?_ ?_); kernel_rfl) | (with_reducible refine then_n ?_) | (with_reducible refine then_r ?_) | (with_reducible refine block_n ?_) | (with_reducible refine block_r ?_) | ((with_reducible refine gR ?_); first | refine ret1 rfl ?_ | refine ret2 rfl rfl ?_ | refine ret0 ?_ | refine end1 rfl ?_ | refine end0 ?_))
    all_goals first
      | (have e1 : nearB y.sl x.sl = true := by assumption
         have e2 : apB y.c x.c = true := by assumption
         have h9 : clashD M x = true := g2 (by rw [e1, e2]; rfl)
         rw [h9])
      | (have e1 : nearB y.sl x.sl = false := by assumption
         refine ⟨k + 1, ?_, by omega, by (repeat' (first | exact trivial | exact rfl | (refine ⟨Or.inl rfl, ?_⟩) | (refine ⟨Or.inr rfl, ?_⟩) | (refine ⟨Or.inr trivial, ?_⟩) | (refine ⟨rfl, ?_⟩) | (refine ⟨?_, ?_⟩))), by (repeat' (first | exact trivial | exact rfl | (refine ⟨Or.inl rfl, ?_⟩) | (refine ⟨Or.inr rfl, ?_⟩) | (refine ⟨Or.inr trivial, ?_⟩) | (refine ⟨rfl, ?_⟩) | (refine ⟨?_, ?_⟩))), by (repeat' (first | exact trivial | exact rfl | (refine ⟨Or.inl rfl, ?_⟩) | (refine ⟨Or.inr rfl, ?_⟩) | (refine ⟨Or.inr trivial, ?_⟩) | (refine ⟨rfl, ?_⟩) | (refine ⟨?_, ?_⟩))), by (repeat' (first | exact trivial | exact rfl | (refine ⟨Or.inl rfl, ?_⟩) | (refine ⟨Or.inr rfl, ?_⟩) | (refine ⟨Or.inr trivial, ?_⟩) | (refine ⟨rfl, ?_⟩) | (refine ⟨?_, ?_⟩)))⟩; exact ⟨by omega, g1 (by rw [e1]; rfl)⟩)
      | (have e2 : apB y.c x.c = false := by assumption
         refine ⟨k + 1, ?_, by omega, by (repeat' (first | exact trivial | exact rfl | (refine ⟨Or.inl rfl, ?_⟩) | (refine ⟨Or.inr rfl, ?_⟩) | (refine ⟨Or.inr trivial, ?_⟩) | (refine ⟨rfl, ?_⟩) | (refine ⟨?_, ?_⟩))), by (repeat' (first | exact trivial | exact rfl | (refine ⟨Or.inl rfl, ?_⟩) | (refine ⟨Or.inr rfl, ?_⟩) | (refine ⟨Or.inr trivial, ?_⟩) | (refine ⟨rfl, ?_⟩) | (refine ⟨?_, ?_⟩))), by (repeat' (first | exact trivial | exact rfl | (refine ⟨Or.inl rfl, ?_⟩) | (refine ⟨Or.inr rfl, ?_⟩) | (refine ⟨Or.inr trivial, ?_⟩) | (refine ⟨rfl, ?_⟩) | (refine ⟨?_, ?_⟩))), by (repeat' (first | exact trivial | exact rfl | (refine ⟨Or.inl rfl, ?_⟩) | (refine ⟨Or.inr rfl, ?_⟩) | (refine ⟨Or.inr trivial, ?_⟩) | (refine ⟨rfl, ?_⟩) | (refine ⟨?_, ?_⟩)))⟩; exact ⟨by omega, g1 (by rw [e2, Bool.and_false])⟩)
      | trace_state
  · have : k = M.length := by omega
    subst this
    rw [List.take_length] at hf
    have h9 : clashD M x = false := hf
    rw [h9]
    repeat' (first | ((with_reducible refine gA ?_); (first | refine AW_seq ?_ | refine AW_region ?_ | (refine AW_cond rfl (fun hc => ?_) (fun hc => ?_) <;> try (exfalso; simp only [cmpL] at hc; omega)) | refine AW_ret ?_ | refine AW_exit ?_)) | ((with_reducible refine gS ?_); refine Es_s (T := Tryz.tab) rfl rfl rfl rfl ?_) | (((with_reducible refine gS ?_); apply Es_q); rfl; rfl; refine LStep_lenM (T := Tryz.tab) rfl rfl rfl rfl) | (with_reducible refine Es_nil ?_) | (with_reducible refine then_n ?_) | (with_reducible refine then_e ?_) | ((with_reducible refine block_e ?_ ?_); rfl) | ((with_reducible refine gR ?_); first | refine ret1 rfl ?_ | refine ret2 rfl rfl ?_ | refine ret0 ?_ | refine end1 rfl ?_ | refine end0 ?_))
    all_goals first
      | rfl
      | trace_state
end Go.Proofs.YtjlblnplofgpnaaGreatDoor
namespace Go.Proofs.YtjlblnplofgpnaaGreatDoor
open Go.SL
/-! ### the document's Without, Put -/
def outP (x : Load) (l : List Load) : List Load := if (l.any fun y => dless x.sl y.sl) = true then insD x l else l
theorem outP_len (x : Load) (l : List Load) : (outP x l).length ≤ l.length + 1 := by
  unfold outP
  split
  · rw [(insD_perm x l).length_eq]; simp
  · omega
set_option maxRecDepth 10000 in
set_option maxHeartbeats 4000000 in
theorem rPut_ac (M : List Load) (x : Load) (hM : M.length ≤ 1048576) : AC Tryz.prog 93 [.d (.sl 7 (M.map Load.enc)), .agg x.cs2] [] [] (fun r _ => r = .d (.sl 7 ((insD x M).map Load.enc))) := by
  refine AC_enter Tryz.func93 rfl Tryz.ntmps93 (rv := [.tmp 4]) rfl rfl (by simp) (fun w X G => ?_)
  repeat' (first | ((with_reducible refine gA ?_); (first | refine AW_seq ?_ | refine AW_region ?_ | refine AW_block ?_)) | ((with_reducible refine gS ?_); refine Es_s (T := Tryz.tab) rfl rfl rfl rfl ?_) | (((with_reducible refine gS ?_); apply Es_xs); rfl; rfl; (refine LStep_litOwn (T := Tryz.tab) (len := 0) rfl rfl rfl rfl rfl rfl rfl rfl rfl rfl ?_ ?_; (refine Nat.le_of_ble_eq_true ?_; rfl); (unfold maxLen; omega)); rfl) | (refine Es_skip rfl ?_ rfl ?_; (first | rfl | (refine w_tf ?_; assumption) | (refine w_ft ?_; assumption))) | (((with_reducible refine gS ?_); apply Es_xs); rfl; rfl; refine LStep_boxN rfl rfl rfl rfl rfl rfl; rfl) | (with_reducible refine Es_nil ?_) | (with_reducible refine then_n ?_))
  refine AW_forE (S := Nat) (fun k => k ≤ M.length) (fun k => [(7, .d (.sc (.int .i64 (k : Nat)))), (6, .d (.sc (.bool ((M.take k).any fun y => dless x.sl y.sl)))), (5, .own 8 ((outP x (M.take k)).map Load.enc).length)]) (fun k => [(8, some (.arr 43 7 ((outP x (M.take k)).map Load.enc)))]) (fun k => M.length - k) 0 (by omega) (by rw [List.take_zero]; (repeat' (first | exact trivial | exact rfl | (refine ⟨Or.inl rfl, ?_⟩) | (refine ⟨Or.inr rfl, ?_⟩) | (refine ⟨Or.inr trivial, ?_⟩) | (refine ⟨rfl, ?_⟩) | (refine ⟨?_, ?_⟩)))) (by rw [List.take_zero]; exact ⟨rfl, trivial⟩) ?_
  intro k hk
  by_cases hlt : k < M.length
  · obtain ⟨y, hy, _⟩ := drop_at hlt
    have hl : (M.take k).length = k := by rw [List.length_take]; omega
    have h1 := outP_len x (M.take k)
    rw [hl] at h1
    have t2 : ((M.take (k + 1)).any fun y => dless x.sl y.sl) = (((M.take k).any fun y => dless x.sl y.sl) || dless x.sl y.sl) := by rw [take_at hy, List.any_append]; simp
    have ta : ((M.take k).any fun y => dless x.sl y.sl) = true → outP x (M.take (k + 1)) = outP x (M.take k) ++ [y] := by
      intro h
      obtain ⟨z, hz, hz2⟩ := List.any_eq_true.1 h
      unfold outP
      rw [t2, h, if_pos rfl, if_pos (Bool.true_or _), take_at hy, insD_more ⟨z, hz, hz2⟩]
    have tb : ((M.take k).any fun y => dless x.sl y.sl) = false → dless x.sl y.sl = true → outP x (M.take (k + 1)) = outP x (M.take k) ++ [x] ++ [y] := by
      intro h h2
      unfold outP
      rw [t2, h, h2]
      simp only [Bool.false_or, if_true, Bool.false_eq_true, if_false]
      rw [take_at hy, insD_snoc (fun z hz => by have := List.any_eq_false.1 h z hz; simpa using this), if_pos h2, List.append_assoc]
      rfl
    have tc : ((M.take k).any fun y => dless x.sl y.sl) = false → dless x.sl y.sl = false → outP x (M.take (k + 1)) = outP x (M.take k) ++ [y] := by
      intro h h2
      unfold outP
      rw [t2, h, h2, if_neg (by decide), if_neg (by decide), take_at hy]
    have cl := rLess_ac x.sl y.sl
    generalize outP x (M.take k) = o at ta tb tc h1
    generalize ((M.take k).any fun y => dless x.sl y.sl) = lv at t2 ta tb tc
    repeat' (first | ((with_reducible refine gA ?_); (first | refine AW_seq ?_ | refine AW_region ?_ | refine AW_regionD Tryz.mixed ?_ | refine AW_condF rfl ?_ | (refine AW_cond rfl (fun hc => ?_) (fun hc => ?_) <;> try (exfalso; simp only [cmpL] at hc; omega)) | refine AW_block ?_ | refine AW_skip ?_)) | (first | ((with_reducible refine gS ?_); refine Es_s (T := Tryz.tab) rfl rfl rfl rfl ?_) | ((with_reducible refine gD ?_); refine Ed_s (T := Tryz.tab) rfl rfl rfl rfl ?_)) | ((first | ((with_reducible refine gS ?_); apply Es_q) | ((with_reducible refine gD ?_); apply Ed_q)); rfl; (first | rfl | (refine w_tt ?_; assumption)); refine LStep_call (cl) rfl rfl rfl rfl) | ((first | ((with_reducible refine gS ?_); apply Es_xs) | ((with_reducible refine gD ?_); apply Ed_xs)); rfl; (first | rfl | (refine w_tt ?_; assumption)); (refine LStep_append (T := Tryz.tab) rfl rfl rfl rfl rfl rfl rfl rfl rfl rfl ?_ ?_ ?_; rfl; (simp only [List.length_map, List.length_append, List.length_cons, List.length_nil]; omega); (unfold maxLen; simp only [List.length_map, List.length_append, List.length_cons, List.length_nil]; omega)); rfl) | ((first | ((with_reducible refine gS ?_); apply Es_q) | ((with_reducible refine gD ?_); apply Ed_q)); rfl; (first | rfl | (refine w_tt ?_; assumption)); (first | refine LStep_simp (T := Tryz.tab) rfl rfl | refine LStep_lenM (T := Tryz.tab) rfl rfl rfl rfl | (refine LStep_add rfl rfl rfl rfl ?_; (refine IntWalk.i64_in _ ?_; first | omega | (simp only [cmps] at *; omega))) | (refine LStep_pickT rfl rfl ?_ rfl rfl; assumption) | (refine LStep_pickF rfl rfl ?_ rfl rfl; assumption) | (refine LStep_indexM (T := Tryz.tab) (c := ?_) rfl rfl rfl rfl rfl rfl ?_; rotate_left; assumption) | (refine LStep_lit (T := Tryz.tab) rfl rfl rfl rfl rfl rfl rfl rfl ?_; (refine Nat.le_of_ble_eq_true ?_; rfl)))) | (refine Ed_skip rfl ?_ rfl ?_; (first | rfl | (refine w_tf ?_; assumption) | (refine w_ft ?_; assumption))) | (refine Ed_split rfl ?_ (fun _ => ?_) (fun _ => ?_); ((fail_if_success (refine und_t ?_; assumption)); (fail_if_success (refine und_f ?_; assumption)); exact trivial)) | (with_reducible refine Es_nil ?_) | ((with_reducible refine Ed_nil ?_ ?_); kernel_rfl) | (with_reducible refine then_n ?_) | (with_reducible refine block_n ?_))
    all_goals simp only [not_t, not_f] at *
    all_goals first
      | (have e1 : lv = true := by assumption
         refine ⟨k + 1, by omega, by omega, ?_, by (repeat' (first | exact trivial | exact rfl | (refine ⟨Or.inl rfl, ?_⟩) | (refine ⟨Or.inr rfl, ?_⟩) | (refine ⟨Or.inr trivial, ?_⟩) | (refine ⟨rfl, ?_⟩) | (refine ⟨?_, ?_⟩))), ?_, by (repeat' (first | exact trivial | exact rfl | (refine ⟨Or.inl rfl, ?_⟩) | (refine ⟨Or.inr rfl, ?_⟩) | (refine ⟨Or.inr trivial, ?_⟩) | (refine ⟨rfl, ?_⟩) | (refine ⟨?_, ?_⟩)))⟩
         · rw [t2, ta e1, e1, Bool.true_or, List.map_append]; (repeat' (first | exact trivial | exact rfl | (refine ⟨Or.inl rfl, ?_⟩) | (refine ⟨Or.inr rfl, ?_⟩) | (refine ⟨Or.inr trivial, ?_⟩) | (refine ⟨rfl, ?_⟩) | (refine ⟨?_, ?_⟩)))
         · rw [ta e1, List.map_append]; exact ⟨rfl, trivial⟩)
      | (have e1 : lv = false := by assumption
         have e2 : dless x.sl y.sl = true := by assumption
         refine ⟨k + 1, by omega, by omega, ?_, by (repeat' (first | exact trivial | exact rfl | (refine ⟨Or.inl rfl, ?_⟩) | (refine ⟨Or.inr rfl, ?_⟩) | (refine ⟨Or.inr trivial, ?_⟩) | (refine ⟨rfl, ?_⟩) | (refine ⟨?_, ?_⟩))), ?_, by (repeat' (first | exact trivial | exact rfl | (refine ⟨Or.inl rfl, ?_⟩) | (refine ⟨Or.inr rfl, ?_⟩) | (refine ⟨Or.inr trivial, ?_⟩) | (refine ⟨rfl, ?_⟩) | (refine ⟨?_, ?_⟩)))⟩
         · rw [t2, tb e1 e2, e2, Bool.or_true, List.map_append, List.map_append]; (repeat' (first | exact trivial | exact rfl | (refine ⟨Or.inl rfl, ?_⟩) | (refine ⟨Or.inr rfl, ?_⟩) | (refine ⟨Or.inr trivial, ?_⟩) | (refine ⟨rfl, ?_⟩) | (refine ⟨?_, ?_⟩)))
         · rw [tb e1 e2, List.map_append, List.map_append]; exact ⟨rfl, trivial⟩)
      | (have e1 : lv = false := by assumption
         have e2 : dless x.sl y.sl = false := by assumption
         refine ⟨k + 1, by omega, by omega, ?_, by (repeat' (first | exact trivial | exact rfl | (refine ⟨Or.inl rfl, ?_⟩) | (refine ⟨Or.inr rfl, ?_⟩) | (refine ⟨Or.inr trivial, ?_⟩) | (refine ⟨rfl, ?_⟩) | (refine ⟨?_, ?_⟩))), ?_, by (repeat' (first | exact trivial | exact rfl | (refine ⟨Or.inl rfl, ?_⟩) | (refine ⟨Or.inr rfl, ?_⟩) | (refine ⟨Or.inr trivial, ?_⟩) | (refine ⟨rfl, ?_⟩) | (refine ⟨?_, ?_⟩)))⟩
         · rw [t2, tc e1 e2, e1, e2, Bool.or_false, List.map_append]; (repeat' (first | exact trivial | exact rfl | (refine ⟨Or.inl rfl, ?_⟩) | (refine ⟨Or.inr rfl, ?_⟩) | (refine ⟨Or.inr trivial, ?_⟩) | (refine ⟨rfl, ?_⟩) | (refine ⟨?_, ?_⟩)))
         · rw [tc e1 e2, List.map_append]; exact ⟨rfl, trivial⟩)
      | trace_state
  · have : k = M.length := by omega
    subst this
    rw [List.take_length]
    have h1 := outP_len x M
    have ta : (M.any fun y => dless x.sl y.sl) = true → insD x M = outP x M := fun h => by unfold outP; rw [if_pos h]
    have tb : (M.any fun y => dless x.sl y.sl) = false → insD x M = outP x M ++ [x] := fun h => by
      unfold outP
      rw [h, if_neg (by decide), insD_none (fun z hz => by have := List.any_eq_false.1 h z hz; simpa using this)]
    generalize outP x M = o at ta tb h1
    generalize (M.any fun y => dless x.sl y.sl) = lv at ta tb
    cases lv with
    | true =>
      rw [ta rfl]
      refine AW_freeze [5] (id := 8) ⟨rfl, trivial⟩ rfl rfl ?_
      repeat' (first | ((with_reducible refine gA ?_); (first | refine AW_seq ?_ | refine AW_region ?_ | refine AW_condF rfl ?_ | (refine AW_cond rfl (fun hc => ?_) (fun hc => ?_) <;> try (exfalso; simp only [cmpL] at hc; omega)) | refine AW_ret ?_ | refine AW_skip ?_ | refine AW_exit ?_)) | ((with_reducible refine gS ?_); refine Es_s (T := Tryz.tab) rfl rfl rfl rfl ?_) | (((with_reducible refine gS ?_); apply Es_q); rfl; rfl; refine LStep_lenM (T := Tryz.tab) rfl rfl rfl rfl) | (with_reducible refine Es_nil ?_) | (with_reducible refine then_n ?_) | (with_reducible refine then_e ?_) | ((with_reducible refine block_e ?_ ?_); rfl) | ((with_reducible refine gR ?_); first | refine ret1 rfl ?_ | refine ret2 rfl rfl ?_ | refine ret0 ?_ | refine end1 rfl ?_ | refine end0 ?_))
      all_goals first
        | rfl
        | trace_state
    | false =>
      rw [tb rfl]
      repeat' (first | ((with_reducible refine gA ?_); refine AW_freeze [5] (id := 8) ⟨rfl, trivial⟩ (show hget _ 8 = some (AObj.arr _ _ (o.map Load.enc ++ _)) from rfl) rfl ?_) | ((with_reducible refine gA ?_); (first | refine AW_seq ?_ | refine AW_region ?_ | refine AW_condT rfl ?_ | (refine AW_cond rfl (fun hc => ?_) (fun hc => ?_) <;> try (exfalso; simp only [cmpL] at hc; omega)) | refine AW_ret ?_ | refine AW_exit ?_)) | ((with_reducible refine gS ?_); refine Es_s (T := Tryz.tab) rfl rfl rfl rfl ?_) | (((with_reducible refine gS ?_); apply Es_xs); rfl; rfl; (refine LStep_append (T := Tryz.tab) rfl rfl rfl rfl rfl rfl rfl rfl rfl rfl ?_ ?_ ?_; rfl; (simp only [List.length_map, List.length_cons, List.length_nil]; omega); (unfold maxLen; simp only [List.length_map, List.length_cons, List.length_nil]; omega)); rfl) | (((with_reducible refine gS ?_); apply Es_q); rfl; rfl; (first | refine LStep_lenM (T := Tryz.tab) rfl rfl rfl rfl | (refine LStep_lit (T := Tryz.tab) rfl rfl rfl rfl rfl rfl rfl rfl ?_; (refine Nat.le_of_ble_eq_true ?_; rfl)))) | (with_reducible refine Es_nil ?_) | (with_reducible refine then_n ?_) | (with_reducible refine then_e ?_) | ((with_reducible refine block_e ?_ ?_); rfl) | ((with_reducible refine gR ?_); first | refine ret1 rfl ?_ | refine ret2 rfl rfl ?_ | refine ret0 ?_ | refine end1 rfl ?_ | refine end0 ?_))
      all_goals first
        | (rw [List.map_append]; rfl)
        | trace_state
end Go.Proofs.YtjlblnplofgpnaaGreatDoor
namespace Go.Proofs.YtjlblnplofgpnaaGreatDoor
open Go.SL
/-! ### the document's Above, Over -/

end Go.Proofs.YtjlblnplofgpnaaGreatDoor
namespace Go.Proofs.YtjlblnplofgpnaaGreatDoor
open Go.SL
/-! ### places: plain -/
theorem fI_none {p : Load → Bool} : ∀ {l : List Load} {i : Int}, (∀ x ∈ l, p x = false) → fI p l i = -1
  | [], _, _ => rfl
  | x :: l, i, h => by
    rw [fI, if_neg (by rw [h x List.mem_cons_self]; decide), fI_none (fun y hy => h y (List.mem_cons_of_mem _ hy))]
theorem fI_some {p : Load → Bool} : ∀ {l : List Load} {i : Int}, (∃ x ∈ l, p x = true) → ∃ (j : Nat) (x : Load), l[j]? = some x ∧ p x = true ∧ fI p l i = i + j
  | [], _, ⟨x, hx, _⟩ => by cases hx
  | y :: l, i, ⟨x, hx, hp⟩ => by
    by_cases h : p y = true
    · exact ⟨0, y, rfl, h, by rw [fI, if_pos h]; simp⟩
    · have hx' : x ∈ l := (List.mem_cons.1 hx).resolve_left (fun e => h (e ▸ hp))
      obtain ⟨j, z, h1, h2, h3⟩ := fI_some (i := i + 1) ⟨x, hx', hp⟩
      refine ⟨j + 1, z, by simpa using h1, h2, ?_⟩
      rw [fI, if_neg h, h3, Int.natCast_succ]
      omega
theorem at_place {M : List Load} (hn : (M.map (·.sl)).Nodup) (s : Sl) : (atS M s = none ∧ fI (fun y => y.sl.eqB s) M 0 = -1) ∨ ∃ (j : Nat) (y : Load), M[j]? = some y ∧ atS M s = some y ∧ fI (fun y => y.sl.eqB s) M 0 = (j : Nat) := by
  cases hq : atS M s with
  | none =>
    refine .inl ⟨rfl, fI_none (fun x hx => ?_)⟩
    rw [sl_eqB, decide_eq_false_iff_not]
    exact atS_none.1 hq x hx
  | some y =>
    obtain ⟨h1, h2⟩ := (atS_some hn).1 hq
    obtain ⟨j, z, g1, g2, g3⟩ := fI_some (p := fun y => y.sl.eqB s) (i := 0) ⟨y, h1, by rw [sl_eqB, decide_eq_true_eq]; exact h2⟩
    rw [sl_eqB, decide_eq_true_eq] at g2
    have := (atS_some hn).2 ⟨List.mem_of_getElem? g1, g2⟩
    rw [hq] at this
    injection this with this
    subst this
    exact .inr ⟨j, y, g1, rfl, by rw [g3]; simp⟩
theorem by_place {M : List Load} (hn : (M.map (·.box)).Nodup) (s : ByteArray) : (byB M s = none ∧ fI (fun y => eqs y.box s) M 0 = -1) ∨ ∃ (j : Nat) (y : Load), M[j]? = some y ∧ byB M s = some y ∧ fI (fun y => eqs y.box s) M 0 = (j : Nat) := by
  cases hq : byB M s with
  | none =>
    refine .inl ⟨rfl, fI_none (fun x hx => ?_)⟩
    cases h : eqs x.box s with
    | false => rfl
    | true => exact absurd (eqs_t.1 h) (byB_none.1 hq x hx)
  | some y =>
    obtain ⟨h1, h2⟩ := (byB_some hn).1 hq
    obtain ⟨j, z, g1, g2, g3⟩ := fI_some (p := fun y => eqs y.box s) (i := 0) ⟨y, h1, eqs_t.2 h2⟩
    have := (byB_some hn).2 ⟨List.mem_of_getElem? g1, eqs_t.1 g2⟩
    rw [hq] at this
    injection this with this
    subst this
    exact .inr ⟨j, y, g1, rfl, by rw [g3]; simp⟩
end Go.Proofs.YtjlblnplofgpnaaGreatDoor
namespace Go.Proofs.YtjlblnplofgpnaaGreatDoor
open Go.SL
/-! ### the document's Wrong -/
set_option maxRecDepth 10000 in
set_option maxHeartbeats 4000000 in
theorem rWrong_ac (S : Ship) (M : List Load) (x : Load) (hS : shipOk S = true) (hM : M.length ≤ 1048576) (n1 : (M.map (·.sl)).Nodup) (n2 : (M.map (·.box)).Nodup) (hw : ∀ y ∈ M, 0 ≤ y.w ∧ y.w ≤ 1048576) (hs : ∀ y ∈ M, (-1048576 ≤ y.sl.b ∧ y.sl.b ≤ 1048576) ∧ (-1048576 ≤ y.sl.r ∧ y.sl.r ≤ 1048576)) (hb : x.box.size ≤ 9007199254740992) :
    AC Tryz.prog 55 [.agg S.cs, .d (.sl 7 (M.map Load.enc)), .agg x.cs2] [] [] (fun r _ => r = .d (.sc (.int .i64 (putE S M x)))) := by
  have fin : ∀ {k : Int}, putE S M x = k → AV.d (.sc (.int .i64 k)) = .d (.sc (.int .i64 (putE S M x))) := fun h => by rw [h]
  have hS' : (0 ≤ S.bays ∧ S.bays ≤ 32) ∧ (0 ≤ S.rows ∧ S.rows ≤ 32) ∧ (0 ≤ S.tiers ∧ S.tiers ≤ 32) := by
    simp only [shipOk, Bool.and_eq_true, frB_t] at hS
    omega
  have c1 := right_ac x hb
  have c2 := rFind_ac M x.box hM
  have c3 := on_ac S x.sl (by omega)
  have c4 := rAt_ac M x.sl hM
  cases e1 : mayL x with
  | false =>
    rw [e1] at c1
    refine AC_enter Tryz.func55 rfl Tryz.ntmps55 (rv := [.tmp 6]) rfl rfl (by simp) (fun w X G => ?_)
    repeat' (first | ((with_reducible refine gA ?_); (first | refine AW_seq ?_ | refine AW_region ?_ | refine AW_condT rfl ?_ | refine AW_ret ?_)) | ((with_reducible refine gS ?_); refine Es_s (T := Tryz.tab) rfl rfl rfl rfl ?_) | (((with_reducible refine gS ?_); apply Es_q); rfl; rfl; refine LStep_call (c1) rfl rfl rfl rfl) | (refine Es_skip rfl ?_ rfl ?_; (first | rfl | (refine w_tf ?_; assumption) | (refine w_ft ?_; assumption))) | (((with_reducible refine gS ?_); apply Es_xs); rfl; rfl; refine LStep_boxN rfl rfl rfl rfl rfl rfl; rfl) | (with_reducible refine Es_nil ?_) | (with_reducible refine then_n ?_) | (with_reducible refine then_r ?_) | ((with_reducible refine gR ?_); first | refine ret1 rfl ?_ | refine ret2 rfl rfl ?_ | refine ret0 ?_ | refine end1 rfl ?_ | refine end0 ?_))
    all_goals first
      | (refine fin ?_; unfold putE; simp [e1]; done)
      | trace_state
  | true =>
  rw [e1] at c1
  rcases by_place n2 x.box with ⟨g1, g2⟩ | ⟨j, y, _, g1, g2⟩
  · rw [g2] at c2
    cases e3 : onB S x.sl with
    | false =>
      rw [e3] at c3
      refine AC_enter Tryz.func55 rfl Tryz.ntmps55 (rv := [.tmp 6]) rfl rfl (by simp) (fun w X G => ?_)
      repeat' (first | ((with_reducible refine gA ?_); (first | refine AW_seq ?_ | refine AW_region ?_ | refine AW_condT rfl ?_ | refine AW_condF rfl ?_ | (refine AW_cond rfl (fun hc => ?_) (fun hc => ?_) <;> try (exfalso; simp only [cmpL] at hc; omega)) | refine AW_ret ?_ | refine AW_skip ?_)) | ((with_reducible refine gS ?_); refine Es_s (T := Tryz.tab) rfl rfl rfl rfl ?_) | (((with_reducible refine gS ?_); apply Es_q); rfl; rfl; (first | refine LStep_call (c1) rfl rfl rfl rfl | refine LStep_call (c2) rfl rfl rfl rfl | refine LStep_call (c3) rfl rfl rfl rfl)) | (refine Es_skip rfl ?_ rfl ?_; (first | rfl | (refine w_tf ?_; assumption) | (refine w_ft ?_; assumption))) | (((with_reducible refine gS ?_); apply Es_xs); rfl; rfl; refine LStep_boxN rfl rfl rfl rfl rfl rfl; rfl) | (with_reducible refine Es_nil ?_) | (with_reducible refine then_n ?_) | (with_reducible refine then_r ?_) | ((with_reducible refine gR ?_); first | refine ret1 rfl ?_ | refine ret2 rfl rfl ?_ | refine ret0 ?_ | refine end1 rfl ?_ | refine end0 ?_))
      all_goals first
        | (refine fin ?_; unfold putE; simp [e1, g1, e3]; done)
        | trace_state
    | true =>
    rw [e3] at c3
    have ho := e3
    simp only [onB, Bool.and_eq_true, frB_t] at ho
    rcases at_place n1 x.sl with ⟨k1, k2⟩ | ⟨j, y, _, k1, k2⟩
    · rw [k2] at c4
      have c6 := rStack_ac M x.sl.b x.sl.r hM hw
      have c7 := rWeight_ac M hM hw
      have c8 := rClash_ac M x hM hs (by omega)
      have hx := e1
      simp only [mayL, Bool.and_eq_true, frB_t] at hx
      have b6 : 0 ≤ stW M x.sl.b x.sl.r ∧ stW M x.sl.b x.sl.r ≤ 1099511627776 := by
        have := take_in (f := fun y => if inSt x.sl.b x.sl.r y = true then y.w else 0) hM (fun y hy => by have := hw y hy; split <;> omega) M.length
        rw [List.take_length] at this
        exact this
      have b7 : 0 ≤ wsum M ∧ wsum M ≤ 1099511627776 := by
        have := take_in (f := fun y => y.w) hM hw M.length
        rw [List.take_length] at this
        exact this
      have c5 := rAt_ac M ⟨x.sl.b, x.sl.r, x.sl.t - 1⟩ hM
      have hp : putE S M x = if unb M x = true then 6 else if S.stack < stW M x.sl.b x.sl.r + x.w ∨ S.most < wsum M + x.w then 7 else if clashD M x = true then 12 else 0 := by
        unfold putE
        simp only [e1, g1, e3, k1, Bool.true_eq_false, Option.isSome_none, Bool.false_eq_true, if_false]
      rcases at_place n1 ⟨x.sl.b, x.sl.r, x.sl.t - 1⟩ with ⟨m1, m2⟩ | ⟨j, y, m0, m1, m2⟩
      · rw [m2] at c5
        have hu : unb M x = decide (x.sl.t ≠ 0) := by unfold unb; rw [m1]; by_cases h : x.sl.t = 0 <;> simp [h]
        rw [hu] at hp
        clear hs hw m1 k1 g1 hu
        generalize stW M x.sl.b x.sl.r = v at *
        generalize wsum M = u at *
        generalize clashD M x = cl at *
        refine AC_enter Tryz.func55 rfl Tryz.ntmps55 (rv := [.tmp 6]) rfl rfl (by simp) (fun w X G => ?_)
        repeat' (first | ((with_reducible refine gA ?_); (first | refine AW_seq ?_ | refine AW_region ?_ | refine AW_regionD Tryz.mixed ?_ | refine AW_condT rfl ?_ | refine AW_condF rfl ?_ | (refine AW_condN rfl ?_ ?_; assumption) | (refine AW_cond rfl (fun hc => ?_) (fun hc => ?_) <;> try (exfalso; simp only [cmpL] at hc; omega)) | refine AW_ret ?_ | refine AW_skip ?_)) | (first | ((with_reducible refine gS ?_); refine Es_s (T := Tryz.tab) rfl rfl rfl rfl ?_) | ((with_reducible refine gD ?_); refine Ed_s (T := Tryz.tab) rfl rfl rfl rfl ?_)) | ((first | ((with_reducible refine gS ?_); apply Es_q) | ((with_reducible refine gD ?_); apply Ed_q)); rfl; (first | rfl | (refine w_ff ?_; assumption)); (first | refine LStep_call (c1) rfl rfl rfl rfl | refine LStep_call (c2) rfl rfl rfl rfl | refine LStep_call (c3) rfl rfl rfl rfl | refine LStep_call (c4) rfl rfl rfl rfl | refine LStep_call (c5) rfl rfl rfl rfl | refine LStep_call (c6) rfl rfl rfl rfl | refine LStep_call (c7) rfl rfl rfl rfl | refine LStep_call (c8) rfl rfl rfl rfl)) | ((first | ((with_reducible refine gS ?_); apply Es_q) | ((with_reducible refine gD ?_); apply Ed_q)); rfl; (first | rfl | (refine w_ff ?_; assumption)); (first | refine LStep_simp (T := Tryz.tab) rfl rfl | (refine LStep_add rfl rfl rfl rfl ?_; (refine IntWalk.i64_in _ ?_; first | omega | (simp only [cmps] at *; omega))) | (refine LStep_sub rfl rfl rfl rfl ?_; (refine IntWalk.i64_in _ ?_; first | omega | (simp only [cmps] at *; omega))) | (refine LStep_pickT rfl rfl ?_ rfl rfl; assumption) | (refine LStep_pickF rfl rfl ?_ rfl rfl; assumption) | refine LStep_buildN (T := Tryz.tab) rfl rfl rfl rfl rfl rfl rfl)) | ((first | refine Es_skip rfl ?_ rfl ?_ | refine Ed_skip rfl ?_ rfl ?_); (first | rfl | (refine w_tf ?_; assumption) | (refine w_ft ?_; assumption))) | ((first | ((with_reducible refine gS ?_); apply Es_xs) | ((with_reducible refine gD ?_); apply Ed_xs)); rfl; (first | rfl | (refine w_ff ?_; assumption)); refine LStep_boxN rfl rfl rfl rfl rfl rfl; rfl) | (refine Ed_split rfl ?_ (fun _ => ?_) (fun _ => ?_); ((fail_if_success (refine und_t ?_; assumption)); (fail_if_success (refine und_f ?_; assumption)); exact trivial)) | (with_reducible refine Es_nil ?_) | ((with_reducible refine Ed_nil ?_ ?_); kernel_rfl) | (with_reducible refine then_n ?_) | (with_reducible refine then_r ?_) | ((with_reducible refine gR ?_); first | refine ret1 rfl ?_ | refine ret2 rfl rfl ?_ | refine ret0 ?_ | refine end1 rfl ?_ | refine end0 ?_))
        all_goals simp only [cmps] at *
        all_goals first
          | (exfalso; omega)
          | (refine fin ?_; rw [hp]; simp [*]; done)
          | (refine fin ?_; rw [hp]; simp [*]; omega)
          | trace_state
      · rw [m2] at c5
        have hj : j < M.length := (List.getElem?_eq_some_iff.1 m0).1
        have hu : unb M x = (decide (x.sl.t ≠ 0) && decide (y.w < x.w)) := by unfold unb; rw [m1]; by_cases h : x.sl.t = 0 <;> simp [h]
        rw [hu] at hp
        clear hs hw m1 k1 g1 hu
        generalize stW M x.sl.b x.sl.r = v at *
        generalize wsum M = u at *
        generalize clashD M x = cl at *
        refine AC_enter Tryz.func55 rfl Tryz.ntmps55 (rv := [.tmp 6]) rfl rfl (by simp) (fun w X G => ?_)
        repeat' (first | ((with_reducible refine gA ?_); (first | refine AW_seq ?_ | refine AW_region ?_ | refine AW_regionD Tryz.mixed ?_ | refine AW_condT rfl ?_ | refine AW_condF rfl ?_ | (refine AW_condN rfl ?_ ?_; assumption) | (refine AW_cond rfl (fun hc => ?_) (fun hc => ?_) <;> try (exfalso; simp only [cmpL] at hc; omega)) | refine AW_ret ?_ | refine AW_skip ?_)) | (first | ((with_reducible refine gS ?_); refine Es_s (T := Tryz.tab) rfl rfl rfl rfl ?_) | ((with_reducible refine gD ?_); refine Ed_s (T := Tryz.tab) rfl rfl rfl rfl ?_)) | ((first | ((with_reducible refine gS ?_); apply Es_q) | ((with_reducible refine gD ?_); apply Ed_q)); rfl; (first | rfl | (refine w_ff ?_; assumption)); (first | refine LStep_call (c1) rfl rfl rfl rfl | refine LStep_call (c2) rfl rfl rfl rfl | refine LStep_call (c3) rfl rfl rfl rfl | refine LStep_call (c4) rfl rfl rfl rfl | refine LStep_call (c5) rfl rfl rfl rfl | refine LStep_call (c6) rfl rfl rfl rfl | refine LStep_call (c7) rfl rfl rfl rfl | refine LStep_call (c8) rfl rfl rfl rfl)) | ((first | ((with_reducible refine gS ?_); apply Es_q) | ((with_reducible refine gD ?_); apply Ed_q)); rfl; (first | rfl | (refine w_ff ?_; assumption)); (first | refine LStep_simp (T := Tryz.tab) rfl rfl | (refine LStep_add rfl rfl rfl rfl ?_; (refine IntWalk.i64_in _ ?_; first | omega | (simp only [cmps] at *; omega))) | (refine LStep_sub rfl rfl rfl rfl ?_; (refine IntWalk.i64_in _ ?_; first | omega | (simp only [cmps] at *; omega))) | (refine LStep_pickT rfl rfl ?_ rfl rfl; assumption) | (refine LStep_pickF rfl rfl ?_ rfl rfl; assumption) | (refine LStep_indexM (T := Tryz.tab) (c := ?_) rfl rfl rfl rfl rfl rfl ?_; rotate_left; assumption) | refine LStep_buildN (T := Tryz.tab) rfl rfl rfl rfl rfl rfl rfl)) | ((first | refine Es_skip rfl ?_ rfl ?_ | refine Ed_skip rfl ?_ rfl ?_); (first | rfl | (refine w_tf ?_; assumption) | (refine w_ft ?_; assumption))) | ((first | ((with_reducible refine gS ?_); apply Es_xs) | ((with_reducible refine gD ?_); apply Ed_xs)); rfl; rfl; refine LStep_boxN rfl rfl rfl rfl rfl rfl; rfl) | (refine Ed_split rfl ?_ (fun _ => ?_) (fun _ => ?_); ((fail_if_success (refine und_t ?_; assumption)); (fail_if_success (refine und_f ?_; assumption)); exact trivial)) | (with_reducible refine Es_nil ?_) | ((with_reducible refine Ed_nil ?_ ?_); kernel_rfl) | (with_reducible refine then_n ?_) | (with_reducible refine then_r ?_) | ((with_reducible refine gR ?_); first | refine ret1 rfl ?_ | refine ret2 rfl rfl ?_ | refine ret0 ?_ | refine end1 rfl ?_ | refine end0 ?_))
        all_goals simp only [cmps] at *
        all_goals first
          | (exfalso; omega)
          | (refine fin ?_; rw [hp]; simp [*]; done)
          | (refine fin ?_; rw [hp]; simp [*]; omega)
          | trace_state
    · rw [k2] at c4
      refine AC_enter Tryz.func55 rfl Tryz.ntmps55 (rv := [.tmp 6]) rfl rfl (by simp) (fun w X G => ?_)
      repeat' (first | ((with_reducible refine gA ?_); (first | refine AW_seq ?_ | refine AW_region ?_ | refine AW_condF rfl ?_ | (refine AW_cond rfl (fun hc => ?_) (fun hc => ?_) <;> try (exfalso; simp only [cmpL] at hc; omega)) | refine AW_ret ?_ | refine AW_skip ?_)) | ((with_reducible refine gS ?_); refine Es_s (T := Tryz.tab) rfl rfl rfl rfl ?_) | (((with_reducible refine gS ?_); apply Es_q); rfl; rfl; (first | refine LStep_call (c1) rfl rfl rfl rfl | refine LStep_call (c2) rfl rfl rfl rfl | refine LStep_call (c3) rfl rfl rfl rfl | refine LStep_call (c4) rfl rfl rfl rfl)) | (refine Es_skip rfl ?_ rfl ?_; (first | rfl | (refine w_tf ?_; assumption) | (refine w_ft ?_; assumption))) | (((with_reducible refine gS ?_); apply Es_xs); rfl; rfl; refine LStep_boxN rfl rfl rfl rfl rfl rfl; rfl) | (with_reducible refine Es_nil ?_) | (with_reducible refine then_n ?_) | (with_reducible refine then_r ?_) | ((with_reducible refine gR ?_); first | refine ret1 rfl ?_ | refine ret2 rfl rfl ?_ | refine ret0 ?_ | refine end1 rfl ?_ | refine end0 ?_))
      all_goals simp only [cmps] at *
      all_goals first
        | (refine fin ?_; unfold putE; simp [e1, g1, e3, k1]; done)
        | (exfalso; omega)
        | trace_state
  · rw [g2] at c2
    refine AC_enter Tryz.func55 rfl Tryz.ntmps55 (rv := [.tmp 6]) rfl rfl (by simp) (fun w X G => ?_)
    repeat' (first | ((with_reducible refine gA ?_); (first | refine AW_seq ?_ | refine AW_region ?_ | refine AW_condF rfl ?_ | (refine AW_cond rfl (fun hc => ?_) (fun hc => ?_) <;> try (exfalso; simp only [cmpL] at hc; omega)) | refine AW_ret ?_ | refine AW_skip ?_)) | ((with_reducible refine gS ?_); refine Es_s (T := Tryz.tab) rfl rfl rfl rfl ?_) | (((with_reducible refine gS ?_); apply Es_q); rfl; rfl; (first | refine LStep_call (c1) rfl rfl rfl rfl | refine LStep_call (c2) rfl rfl rfl rfl)) | (refine Es_skip rfl ?_ rfl ?_; (first | rfl | (refine w_tf ?_; assumption) | (refine w_ft ?_; assumption))) | (((with_reducible refine gS ?_); apply Es_xs); rfl; rfl; refine LStep_boxN rfl rfl rfl rfl rfl rfl; rfl) | (with_reducible refine Es_nil ?_) | (with_reducible refine then_n ?_) | (with_reducible refine then_r ?_) | ((with_reducible refine gR ?_); first | refine ret1 rfl ?_ | refine ret2 rfl rfl ?_ | refine ret0 ?_ | refine end1 rfl ?_ | refine end0 ?_))
    all_goals simp only [cmps] at *
    all_goals first
      | (refine fin ?_; unfold putE; simp [e1, g1]; done)
      | (exfalso; omega)
      | trace_state
end Go.Proofs.YtjlblnplofgpnaaGreatDoor
