import Derived.Test.YtodgjgkoaahhmaaGreatDoorA7
import Derived.Test.YtodgjgkoaahhmaaGreatDoorTk
namespace Go.Proofs.YtodgjgkoaahhmaaGreatDoor
open Go.SL
/-! ### moments -/
def mLong (S : Ship) (x : Load) : Int := x.w * (2 * x.sl.b - S.bays + 1)
def mCross (S : Ship) (x : Load) : Int := x.w * (2 * x.sl.r - S.rows + 1)
def mUp (x : Load) : Int := x.w * x.sl.t
def sLong (S : Ship) (L : List Load) : Int := (L.map (mLong S)).sum
def sCross (S : Ship) (L : List Load) : Int := (L.map (mCross S)).sum
def sUp (L : List Load) : Int := (L.map mUp).sum
def momA (a b c d : Int) : AV := .agg [.d (.sc (.int .i64 a)), .d (.sc (.int .i64 b)), .d (.sc (.int .i64 c)), .d (.sc (.int .i64 d))]
def fitOne (S : Ship) (x : Load) : Bool := onB S x.sl && (decide (1 ≤ x.w) && decide (x.w ≤ 1048576))
def fitL (S : Ship) (L : List Load) : Bool := shipOk S && (decide (L.length ≤ 4096) && (L.all (fitOne S) && decide ((L.map (·.sl)).Nodup)))
theorem onB_t {S : Ship} {s : Sl} : onB S s = true ↔ (0 ≤ s.b ∧ s.b < S.bays) ∧ (0 ≤ s.r ∧ s.r < S.rows) ∧ (0 ≤ s.t ∧ s.t < S.tiers) := by
  simp only [onB, Bool.and_eq_true, frB_t]
  omega
theorem fitOne_t {S : Ship} {x : Load} : fitOne S x = true ↔ ((0 ≤ x.sl.b ∧ x.sl.b < S.bays) ∧ (0 ≤ x.sl.r ∧ x.sl.r < S.rows) ∧ (0 ≤ x.sl.t ∧ x.sl.t < S.tiers)) ∧ 1 ≤ x.w ∧ x.w ≤ 1048576 := by
  unfold fitOne
  rw [Bool.and_eq_true, Bool.and_eq_true, decide_eq_true_eq, decide_eq_true_eq, onB_t]
set_option maxRecDepth 10000 in
set_option maxHeartbeats 2000000 in
theorem isOn_ac (S : Ship) (s : Sl) : AC Tryz.prog 50 [.agg S.cs, slA s] [] [] (fun r _ => r = .d (.sc (.bool (onB S s)))) := by
  refine AC_enter Tryz.func50 rfl Tryz.ntmps50 (rv := [.tmp 4]) rfl rfl (by simp) (fun w X G => ?_)
  repeat' (first | ((with_reducible refine gA ?_); (first | refine AW_seq ?_ | refine AW_region ?_ | refine AW_ret ?_)) | ((with_reducible refine gS ?_); refine Es_s (T := Tryz.tab) rfl rfl rfl rfl ?_) | (((with_reducible refine gS ?_); apply Es_q); rfl; (first | rfl | (refine w_tt ?_; assumption)); (first | refine LStep_simp (T := Tryz.tab) rfl rfl | (refine LStep_pickT rfl rfl ?_ rfl rfl; assumption) | (refine LStep_pickF rfl rfl ?_ rfl rfl; assumption))) | (refine Es_skip rfl ?_ rfl ?_; (first | rfl | (refine w_tf ?_; assumption) | (refine w_ft ?_; assumption))) | (((with_reducible refine gS ?_); apply Es_xs); rfl; rfl; refine LStep_boxN rfl rfl rfl rfl rfl rfl; rfl) | (refine Es_split rfl ?_ (fun _ => ?_) (fun _ => ?_); ((fail_if_success (refine und_t ?_; assumption)); (fail_if_success (refine und_f ?_; assumption)); exact trivial)) | (with_reducible refine Es_nil ?_) | (with_reducible refine then_n ?_) | ((with_reducible refine gR ?_); first | refine ret1 rfl ?_ | refine ret2 rfl rfl ?_ | refine ret0 ?_ | refine end1 rfl ?_ | refine end0 ?_))
  all_goals simp only [cmps] at *
  all_goals first
    | (refine congrArg (fun b => AV.d (D.sc (Value.bool b))) ?_; rw [Bool.eq_iff_iff, onB_t]; simp [leb_d, ltb_d] at *; omega)
    | trace_state
set_option maxRecDepth 10000 in
theorem tsize_ac (n : Int) (hn : -4611686018427387904 ≤ n ∧ n ≤ 4611686018427387904) : AC Tryz.prog 51 [.d (.sc (.int .i64 n))] [] [] (fun r _ => r = .d (.sc (.int .i64 (maxI n (-n))))) := by
  have e : AV.d (.sc (.int .i64 (wrp .i64 (0 - n)))) = AV.d (.sc (.int .i64 (-n))) := by rw [wrp_fit (by omega)]; congr 3; omega
  refine AC_enter Tryz.func51 rfl Tryz.ntmps51 (rv := [.tmp 2]) rfl rfl (by simp) (fun w X G => ?_)
  repeat' (first | ((with_reducible refine gA ?_); (first | refine AW_seq ?_ | refine AW_region ?_ | refine AW_ret ?_)) | (((with_reducible refine gS ?_); apply Es_q); rfl; rfl; refine LStep_fitQ (T := Tryz.tab) rfl rfl e) | ((with_reducible refine gS ?_); refine Es_s (T := Tryz.tab) rfl rfl rfl rfl ?_) | (((with_reducible refine gS ?_); apply Es_q); rfl; rfl; refine LStep_max rfl rfl rfl rfl rfl) | (with_reducible refine Es_nil ?_) | (with_reducible refine then_n ?_) | ((with_reducible refine gR ?_); first | refine ret1 rfl ?_ | refine ret2 rfl rfl ?_ | refine ret0 ?_ | refine end1 rfl ?_ | refine end0 ?_))
  all_goals first
    | rfl
    | trace_state
def tV (_ : Load) : AV := .d (.sc (.bool true))
theorem mul_in {w q : Int} (h1 : 0 ≤ w ∧ w ≤ 1048576) (h2 : -32 ≤ q ∧ q ≤ 32) : -33554432 ≤ w * q ∧ w * q ≤ 33554432 := by
  have a1 : w * q ≤ w * 32 := Int.mul_le_mul_of_nonneg_left h2.2 h1.1
  have a2 : w * (-32) ≤ w * q := Int.mul_le_mul_of_nonneg_left h2.1 h1.1
  omega
theorem sums_in {f : Load → Int} {c : Int} (hc : 0 ≤ c) : ∀ {L : List Load}, (∀ x ∈ L, -c ≤ f x ∧ f x ≤ c) → L.length ≤ 4096 → -c * 4096 ≤ (L.map f).sum ∧ (L.map f).sum ≤ c * 4096 := by
  have key : ∀ L : List Load, (∀ x ∈ L, -c ≤ f x ∧ f x ≤ c) → -c * (L.length : Int) ≤ (L.map f).sum ∧ (L.map f).sum ≤ c * (L.length : Int) := by
    intro L
    induction L with
    | nil => intro _; simp
    | cons x L ih =>
      intro h
      have h1 := ih (fun y hy => h y (List.mem_cons_of_mem _ hy))
      have h2 := h x List.mem_cons_self
      rw [List.map_cons, List.sum_cons, List.length_cons, Int.natCast_succ, Int.mul_add, Int.mul_add]
      omega
  intro L h hl
  have h1 := key L h
  have h2 : c * (L.length : Int) ≤ c * 4096 := Int.mul_le_mul_of_nonneg_left (by omega) hc
  have h3 : -c * (L.length : Int) = -(c * (L.length : Int)) := by rw [Int.neg_mul]
  have h4 : -c * 4096 = -(c * 4096) := by rw [Int.neg_mul]
  omega
theorem moms_in {S : Ship} {L : List Load} (hS : shipOk S = true) (hf : ∀ x ∈ L, fitOne S x = true) (hl : L.length ≤ 4096) : (-137438953472 ≤ sLong S L ∧ sLong S L ≤ 137438953472) ∧ (-137438953472 ≤ sCross S L ∧ sCross S L ≤ 137438953472) ∧ (-137438953472 ≤ sUp L ∧ sUp L ≤ 137438953472) ∧ (-137438953472 ≤ wsum L ∧ wsum L ≤ 137438953472) := by
  have hi : (1 ≤ S.bays ∧ S.bays ≤ 32) ∧ (1 ≤ S.rows ∧ S.rows ≤ 32) ∧ (1 ≤ S.tiers ∧ S.tiers ≤ 32) := by
    simp only [shipOk, Bool.and_eq_true, frB_t] at hS
    omega
  have one : ∀ x ∈ L, (0 ≤ x.w ∧ x.w ≤ 1048576) ∧ (-32 ≤ 2 * x.sl.b - S.bays + 1 ∧ 2 * x.sl.b - S.bays + 1 ≤ 32) ∧ (-32 ≤ 2 * x.sl.r - S.rows + 1 ∧ 2 * x.sl.r - S.rows + 1 ≤ 32) ∧ (-32 ≤ x.sl.t ∧ x.sl.t ≤ 32) := fun x hx => by
    have := fitOne_t.1 (hf x hx)
    omega
  have a1 := sums_in (f := mLong S) (c := 33554432) (by omega) (fun x hx => mul_in (one x hx).1 (one x hx).2.1) hl
  have a2 := sums_in (f := mCross S) (c := 33554432) (by omega) (fun x hx => mul_in (one x hx).1 (one x hx).2.2.1) hl
  have a3 := sums_in (f := mUp) (c := 33554432) (by omega) (fun x hx => mul_in (one x hx).1 (one x hx).2.2.2) hl
  have a4 := sums_in (f := fun x => x.w) (c := 33554432) (by omega) (fun x hx => by have := (one x hx).1; omega) hl
  unfold sLong sCross sUp wsum
  omega
set_option maxRecDepth 10000 in
set_option maxHeartbeats 8000000 in
theorem tsum_ac (S : Ship) (L : List Load) (hL : L.length ≤ 140737488351232) : AC Tryz.prog 21 [.agg S.cs, .d (.sl 7 (L.map Load.enc))] [] [] (fun r _ => r = .tup [if fitL S L = true then momA (sLong S L) (sCross S L) (sUp L) (wsum L) else momA 0 0 0 0, .d (.sc (.bool (fitL S L)))]) := by
  have c1 := may_ac S
  cases e1 : shipOk S with
  | false =>
    have hf : fitL S L = false := by unfold fitL; rw [e1]; rfl
    rw [e1] at c1
    rw [hf]
    refine AC_enterG Tryz.tab Tryz.func21 rfl Tryz.ntmps21 (rv := [.cell 4 69, .tmp 5]) rfl rfl (by simp) (fun w X G => ?_)
    repeat' (first | ((with_reducible refine gA ?_); (first | refine AW_seq ?_ | refine AW_region ?_ | refine AW_condT rfl ?_ | refine AW_ret ?_)) | ((with_reducible refine gS ?_); refine Es_s (T := Tryz.tab) rfl rfl rfl rfl ?_) | (((with_reducible refine gS ?_); apply Es_q); rfl; rfl; refine LStep_call (c1) rfl rfl rfl rfl) | (((with_reducible refine gS ?_); apply Es_q); rfl; rfl; refine LStep_buildN (T := Tryz.tab) rfl rfl rfl rfl rfl rfl rfl) | (refine Es_skip rfl ?_ rfl ?_; (first | rfl | (refine w_tf ?_; assumption) | (refine w_ft ?_; assumption))) | (((with_reducible refine gS ?_); apply Es_xs); rfl; rfl; (first | refine LStep_boxN rfl rfl rfl rfl rfl rfl | refine LStep_allocN (T := Tryz.tab) rfl rfl rfl rfl rfl rfl); rfl) | (((with_reducible refine gS ?_); apply Es_xn); rfl; rfl; (refine LStep_storeN (T := Tryz.tab) rfl rfl rfl rfl rfl rfl rfl ?_ rfl; (refine Nat.le_of_ble_eq_true ?_; rfl)); rfl) | (with_reducible refine Es_nil ?_) | (with_reducible refine then_n ?_) | (with_reducible refine then_r ?_) | ((with_reducible refine gRG ?_); first | refine retGa rfl ?_ | refine retGb rfl ?_ | refine retGc rfl ?_ | refine retG1 rfl rfl ?_ | refine endG1 rfl rfl ?_))
    all_goals first
      | rfl
      | trace_state
  | true =>
  rw [e1] at c1
  by_cases h4 : 4096 < L.length
  · have hf : fitL S L = false := by unfold fitL; rw [e1, decide_eq_false (by omega : ¬ L.length ≤ 4096)]; rfl
    have f1 : ltb 4096 (L.length : Nat) = true := by rw [ltb_t]; omega
    rw [hf]
    refine AC_enterG Tryz.tab Tryz.func21 rfl Tryz.ntmps21 (rv := [.cell 4 69, .tmp 5]) rfl rfl (by simp) (fun w X G => ?_)
    repeat' (first | ((with_reducible refine gA ?_); (first | refine AW_seq ?_ | refine AW_region ?_ | (refine AW_condY rfl ?_ ?_; assumption) | refine AW_ret ?_)) | ((with_reducible refine gS ?_); refine Es_s (T := Tryz.tab) rfl rfl rfl rfl ?_) | (((with_reducible refine gS ?_); apply Es_q); rfl; rfl; refine LStep_call (c1) rfl rfl rfl rfl) | (((with_reducible refine gS ?_); apply Es_q); rfl; rfl; (first | refine LStep_simp (T := Tryz.tab) rfl rfl | refine LStep_lenM (T := Tryz.tab) rfl rfl rfl rfl | refine LStep_buildN (T := Tryz.tab) rfl rfl rfl rfl rfl rfl rfl)) | (refine Es_skip rfl ?_ rfl ?_; (first | rfl | (refine w_tf ?_; assumption) | (refine w_ft ?_; assumption))) | (((with_reducible refine gS ?_); apply Es_xs); rfl; rfl; (first | refine LStep_boxN rfl rfl rfl rfl rfl rfl | refine LStep_allocN (T := Tryz.tab) rfl rfl rfl rfl rfl rfl); rfl) | (((with_reducible refine gS ?_); apply Es_xn); rfl; rfl; (refine LStep_storeN (T := Tryz.tab) rfl rfl rfl rfl rfl rfl rfl ?_ rfl; (refine Nat.le_of_ble_eq_true ?_; rfl)); rfl) | (with_reducible refine Es_nil ?_) | (with_reducible refine then_n ?_) | (with_reducible refine then_r ?_) | ((with_reducible refine gRG ?_); first | refine retGa rfl ?_ | refine retGb rfl ?_ | refine retGc rfl ?_ | refine retG1 rfl rfl ?_ | refine endG1 rfl rfl ?_))
    all_goals first
      | rfl
      | trace_state
  have f1 : ltb 4096 (L.length : Nat) = false := by rw [ltb_f]; omega
  have hi : (1 ≤ S.bays ∧ S.bays ≤ 32) ∧ (1 ≤ S.rows ∧ S.rows ≤ 32) ∧ (1 ≤ S.tiers ∧ S.tiers ≤ 32) := by
    have h := e1
    simp only [shipOk, Bool.and_eq_true, frB_t] at h
    omega
  have z1 : sLong S (L.take 0) = 0 := rfl
  have z2 : sCross S (L.take 0) = 0 := rfl
  have z3 : sUp (L.take 0) = 0 := rfl
  have z4 : wsum (L.take 0) = 0 := rfl
  refine AC_enterG Tryz.tab Tryz.func21 rfl Tryz.ntmps21 (rv := [.cell 4 69, .tmp 5]) rfl rfl (by simp) (fun w X G => ?_)
  repeat' (first | ((with_reducible refine gA ?_); (first | refine AW_seq ?_ | refine AW_region ?_ | (refine AW_condN rfl ?_ ?_; assumption) | refine AW_block ?_ | refine AW_skip ?_)) | ((with_reducible refine gS ?_); refine Es_s (T := Tryz.tab) rfl rfl rfl rfl ?_) | (((with_reducible refine gS ?_); apply Es_q); rfl; rfl; refine LStep_call (c1) rfl rfl rfl rfl) | (((with_reducible refine gS ?_); apply Es_xs); rfl; rfl; refine lstep_makeMapT (T := Tryz.tab) rfl rfl rfl rfl rfl; rfl) | (((with_reducible refine gS ?_); apply Es_q); rfl; rfl; (first | refine LStep_simp (T := Tryz.tab) rfl rfl | refine LStep_lenM (T := Tryz.tab) rfl rfl rfl rfl)) | (refine Es_skip rfl ?_ rfl ?_; (first | rfl | (refine w_tf ?_; assumption) | (refine w_ft ?_; assumption))) | (((with_reducible refine gS ?_); apply Es_xs); rfl; rfl; (first | refine LStep_boxN rfl rfl rfl rfl rfl rfl | refine LStep_allocN (T := Tryz.tab) rfl rfl rfl rfl rfl rfl); rfl) | (with_reducible refine Es_nil ?_) | (with_reducible refine then_n ?_))
  refine AW_forE (S := Nat) (fun k => k ≤ L.length ∧ (∀ x ∈ L.take k, fitOne S x = true) ∧ ((L.take k).map (·.sl)).Nodup) (fun k => [(23, .d (.sc (.int .i64 (k : Nat))))]) (fun k => [(6, some (.cells [.d (.sc (.int .i64 (sLong S (L.take k)))), .d (.sc (.int .i64 (sCross S (L.take k)))), .d (.sc (.int .i64 (sUp (L.take k)))), .d (.sc (.int .i64 (wsum (L.take k))))])), (20, some (.map 38 4 (emap slV tV (slM (L.take k))) none))]) (fun k => L.length - k) 0 ⟨by omega, by simp, by simp⟩ (by (repeat' (first | exact trivial | exact rfl | (refine ⟨Or.inl rfl, ?_⟩) | (refine ⟨Or.inr rfl, ?_⟩) | (refine ⟨Or.inr trivial, ?_⟩) | (refine ⟨rfl, ?_⟩) | (refine ⟨?_, ?_⟩)))) (by rw [z1, z2, z3, z4]; (repeat' (first | exact trivial | exact rfl | (refine ⟨Or.inl rfl, ?_⟩) | (refine ⟨Or.inr rfl, ?_⟩) | (refine ⟨Or.inr trivial, ?_⟩) | (refine ⟨rfl, ?_⟩) | (refine ⟨?_, ?_⟩)))) ?_
  intro k ⟨hk, hfa, hnd⟩
  by_cases hlt : k < L.length
  · obtain ⟨x, hx, _⟩ := drop_at hlt
    have hxL := List.mem_of_getElem? hx
    have co := isOn_ac S x.sl
    have hta := take_at hx
    have bad1 : fitOne S x = false → fitL S L = false := fun h => by
      unfold fitL
      have : L.all (fitOne S) = false := by rw [List.all_eq_false]; exact ⟨x, hxL, by rw [h]; decide⟩
      rw [this]
      simp
    cases e2 : onB S x.sl with
    | false =>
      have hf := bad1 (by unfold fitOne; rw [e2]; rfl)
      rw [e2] at co
      rw [hf]
      repeat' (first | ((with_reducible refine gA ?_); (first | refine AW_seq ?_ | refine AW_region ?_ | refine AW_condT rfl ?_ | (refine AW_cond rfl (fun hc => ?_) (fun hc => ?_) <;> try (exfalso; simp only [cmpL] at hc; omega)) | refine AW_block ?_ | refine AW_ret ?_ | refine AW_skip ?_)) | ((with_reducible refine gS ?_); refine Es_s (T := Tryz.tab) rfl rfl rfl rfl ?_) | (((with_reducible refine gS ?_); apply Es_q); rfl; rfl; refine LStep_call (co) rfl rfl rfl rfl) | (((with_reducible refine gS ?_); apply Es_q); rfl; rfl; (first | (refine LStep_indexM (T := Tryz.tab) (c := ?_) rfl rfl rfl rfl rfl rfl ?_; rotate_left; assumption) | refine LStep_buildN (T := Tryz.tab) rfl rfl rfl rfl rfl rfl rfl)) | (refine Es_skip rfl ?_ rfl ?_; (first | rfl | (refine w_tf ?_; assumption) | (refine w_ft ?_; assumption))) | (((with_reducible refine gS ?_); apply Es_xs); rfl; rfl; refine LStep_allocN (T := Tryz.tab) rfl rfl rfl rfl rfl rfl; rfl) | (((with_reducible refine gS ?_); apply Es_xn); rfl; rfl; (refine LStep_storeN (T := Tryz.tab) rfl rfl rfl rfl rfl rfl rfl ?_ rfl; (refine Nat.le_of_ble_eq_true ?_; rfl)); rfl) | (with_reducible refine Es_nil ?_) | (with_reducible refine then_n ?_) | (with_reducible refine then_r ?_) | (with_reducible refine block_r ?_) | ((with_reducible refine gRG ?_); first | refine retGa rfl ?_ | refine retGb rfl ?_ | refine retGc rfl ?_ | refine retG1 rfl rfl ?_ | refine endG1 rfl rfl ?_))
      all_goals first
        | rfl
        | trace_state
    | true =>
    rw [e2] at co
    by_cases e3 : 1 ≤ x.w ∧ x.w ≤ 1048576
    · have g1 : ltb x.w 1 = false := by rw [ltb_f]; omega
      have g2 : ltb 1048576 x.w = false := by rw [ltb_f]; omega
      have hfo : fitOne S x = true := by unfold fitOne; rw [e2, decide_eq_true e3.1, decide_eq_true e3.2]; rfl
      cases hq : atS (L.take k) x.sl with
      | some y =>
        have hm := mfind_some (cv := tV) slV_keq hq
        have hf : fitL S L = false := by
          have hin : x.sl ∈ (L.take k).map (·.sl) := by
            obtain ⟨h1, h2⟩ := (atS_some hnd).1 hq
            exact List.mem_map.2 ⟨y, h1, h2⟩
          have : ¬ (L.map (·.sl)).Nodup := fun h => by
            have h2 : ((L.take (k + 1)).map (·.sl)).Nodup := h.sublist ((List.take_sublist _ _).map _)
            rw [hta, List.map_append, List.nodup_append] at h2
            exact h2.2.2 x.sl hin x.sl (by simp) rfl
          unfold fitL
          rw [decide_eq_false this]
          simp
        rw [hf]
        repeat' (first | ((with_reducible refine gA ?_); (first | refine AW_seq ?_ | refine AW_region ?_ | refine AW_condT rfl ?_ | (refine AW_cond rfl (fun hc => ?_) (fun hc => ?_) <;> try (exfalso; simp only [cmpL] at hc; omega)) | refine AW_block ?_ | refine AW_ret ?_ | refine AW_skip ?_)) | ((with_reducible refine gS ?_); refine Es_s (T := Tryz.tab) rfl rfl rfl rfl ?_) | (((with_reducible refine gS ?_); apply Es_q); rfl; (first | rfl | (refine w_ff ?_; assumption)); (first | refine LStep_call (co) rfl rfl rfl rfl | refine LStep_lookup (T := Tryz.tab) rfl rfl rfl keySl rfl rfl rfl rfl (sl_keys _) hm)) | (((with_reducible refine gS ?_); apply Es_q); rfl; (first | rfl | (refine w_ff ?_; assumption)); (first | refine LStep_simp (T := Tryz.tab) rfl rfl | (refine LStep_pickF rfl rfl ?_ rfl rfl; assumption) | (refine LStep_indexM (T := Tryz.tab) (c := ?_) rfl rfl rfl rfl rfl rfl ?_; rotate_left; assumption) | refine LStep_buildN (T := Tryz.tab) rfl rfl rfl rfl rfl rfl rfl)) | (refine Es_skip rfl ?_ rfl ?_; (first | rfl | (refine w_tf ?_; assumption) | (refine w_ft ?_; assumption))) | (((with_reducible refine gS ?_); apply Es_xs); rfl; rfl; refine LStep_allocN (T := Tryz.tab) rfl rfl rfl rfl rfl rfl; rfl) | (((with_reducible refine gS ?_); apply Es_xn); rfl; rfl; (refine LStep_storeN (T := Tryz.tab) rfl rfl rfl rfl rfl rfl rfl ?_ rfl; (refine Nat.le_of_ble_eq_true ?_; rfl)); rfl) | (with_reducible refine Es_nil ?_) | (with_reducible refine then_n ?_) | (with_reducible refine then_r ?_) | (with_reducible refine block_r ?_) | ((with_reducible refine gRG ?_); first | refine retGa rfl ?_ | refine retGb rfl ?_ | refine retGc rfl ?_ | refine retG1 rfl rfl ?_ | refine endG1 rfl rfl ?_))
        all_goals first
          | rfl
          | trace_state
      | none =>
        have hm := mfind_no (cv := tV) slV_keq hq
        have hfa' : ∀ y ∈ L.take (k + 1), fitOne S y = true := fun y hy => by
          rw [hta] at hy
          rcases List.mem_append.1 hy with q | q
          · exact hfa y q
          · rw [List.mem_singleton.1 q]; exact hfo
        have hnd' : ((L.take (k + 1)).map (·.sl)).Nodup := by
          rw [hta, List.map_append, List.nodup_append]
          refine ⟨hnd, by simp, fun a ha b hb => ?_⟩
          have hb' : b = x.sl := by simpa using hb
          obtain ⟨y, hy, rfl⟩ := List.mem_map.1 ha
          rw [hb']
          exact atS_none.1 hq y hy
        have m1 : mput (slV x.sl) (tV x) (emap slV tV (slM (L.take k))) = emap slV tV (slM (L.take (k + 1))) := by
          rw [mput_emap slV_keq, aput_new hq, hta, slM_app]
          rfl
        have q1 : sLong S (L.take (k + 1)) = sLong S (L.take k) + x.w * (2 * x.sl.b - S.bays + 1) := by rw [hta]; simp [sLong, mLong]
        have q2 : sCross S (L.take (k + 1)) = sCross S (L.take k) + x.w * (2 * x.sl.r - S.rows + 1) := by rw [hta]; simp [sCross, mCross]
        have q3 : sUp (L.take (k + 1)) = sUp (L.take k) + x.w * x.sl.t := by rw [hta]; simp [sUp, mUp]
        have q4 : wsum (L.take (k + 1)) = wsum (L.take k) + x.w := by rw [hta, wsum_app]; simp [wsum]
        have b1 := moms_in e1 hfa (by rw [List.length_take]; omega)
        have b2 := moms_in e1 hfa' (by rw [List.length_take]; omega)
        rw [q1, q2, q3, q4] at b2
        have hxo := (fitOne_t.1 hfo).1
        have p1 := mul_in (w := x.w) (q := 2 * x.sl.b - S.bays + 1) (by omega) (by omega)
        have p2 := mul_in (w := x.w) (q := 2 * x.sl.r - S.rows + 1) (by omega) (by omega)
        have p3 := mul_in (w := x.w) (q := x.sl.t) (by omega) (by omega)
        generalize sLong S (L.take k) = u1 at *
        generalize sCross S (L.take k) = u2 at *
        generalize sUp (L.take k) = u3 at *
        generalize wsum (L.take k) = u4 at *
        clear bad1 hfa z1 z2 z3 z4
        repeat' (first | ((with_reducible refine gA ?_); (first | refine AW_seq ?_ | refine AW_region ?_ | refine AW_condF rfl ?_ | (refine AW_cond rfl (fun hc => ?_) (fun hc => ?_) <;> try (exfalso; simp only [cmpL] at hc; omega)) | refine AW_block ?_ | refine AW_skip ?_)) | ((with_reducible refine gS ?_); refine Es_s (T := Tryz.tab) rfl rfl rfl rfl ?_) | (((with_reducible refine gS ?_); apply Es_q); rfl; (first | rfl | (refine w_ff ?_; assumption)); (first | refine LStep_call (co) rfl rfl rfl rfl | refine LStep_lookup0 (T := Tryz.tab) rfl rfl rfl keySl rfl rfl rfl rfl (sl_keys _) rfl rfl hm)) | (((with_reducible refine gS ?_); apply Es_xn); rfl; rfl; refine LStep_mapUpdate (T := Tryz.tab) rfl rfl rfl keySl rfl rfl rfl rfl rfl (sl_keys _) rfl; rfl) | (((with_reducible refine gS ?_); apply Es_q); rfl; (first | rfl | (refine w_ff ?_; assumption)); (first | refine LStep_simp (T := Tryz.tab) rfl rfl | (refine LStep_add rfl rfl rfl rfl ?_; (refine IntWalk.i64_in _ ?_; first | omega | (simp only [cmps] at *; omega))) | (refine LStep_sub rfl rfl rfl rfl ?_; (refine IntWalk.i64_in _ ?_; first | omega | (simp only [cmps] at *; omega))) | (refine LStep_mul rfl rfl rfl rfl ?_; (refine IntWalk.i64_in _ ?_; first | omega | (simp only [cmps] at *; omega))) | (refine LStep_pickF rfl rfl ?_ rfl rfl; assumption) | (refine LStep_indexM (T := Tryz.tab) (c := ?_) rfl rfl rfl rfl rfl rfl ?_; rotate_left; assumption))) | (refine Es_skip rfl ?_ rfl ?_; (first | rfl | (refine w_tf ?_; assumption) | (refine w_ft ?_; assumption))) | (((with_reducible refine gS ?_); apply Es_xs); rfl; rfl; refine LStep_allocN (T := Tryz.tab) rfl rfl rfl rfl rfl rfl; rfl) | (((with_reducible refine gS ?_); apply Es_xn); rfl; rfl; (refine LStep_storeN (T := Tryz.tab) rfl rfl rfl rfl rfl rfl rfl ?_ rfl; (refine Nat.le_of_ble_eq_true ?_; rfl)); rfl) | (with_reducible refine Es_nil ?_) | (with_reducible refine then_n ?_) | (with_reducible refine block_n ?_))
        all_goals first
          | (refine ⟨k + 1, ⟨by omega, hfa', hnd'⟩, by omega, by (repeat' (first | exact trivial | exact rfl | (refine ⟨Or.inl rfl, ?_⟩) | (refine ⟨Or.inr rfl, ?_⟩) | (refine ⟨Or.inr trivial, ?_⟩) | (refine ⟨rfl, ?_⟩) | (refine ⟨?_, ?_⟩))), by (repeat' (first | exact trivial | exact rfl | (refine ⟨Or.inl rfl, ?_⟩) | (refine ⟨Or.inr rfl, ?_⟩) | (refine ⟨Or.inr trivial, ?_⟩) | (refine ⟨rfl, ?_⟩) | (refine ⟨?_, ?_⟩))), ?_, by (repeat' (first | exact trivial | exact rfl | (refine ⟨Or.inl rfl, ?_⟩) | (refine ⟨Or.inr rfl, ?_⟩) | (refine ⟨Or.inr trivial, ?_⟩) | (refine ⟨rfl, ?_⟩) | (refine ⟨?_, ?_⟩)))⟩
             rw [q1, q2, q3, q4, ← m1]; (repeat' (first | exact trivial | exact rfl | (refine ⟨Or.inl rfl, ?_⟩) | (refine ⟨Or.inr rfl, ?_⟩) | (refine ⟨Or.inr trivial, ?_⟩) | (refine ⟨rfl, ?_⟩) | (refine ⟨?_, ?_⟩))))
          | trace_state
    · have hf := bad1 (by
        cases h : fitOne S x with
        | false => rfl
        | true => exact absurd (fitOne_t.1 h).2 e3)
      rw [hf]
      by_cases e4 : x.w < 1
      · have g1 : ltb x.w 1 = true := by rw [ltb_t]; exact e4
        repeat' (first | ((with_reducible refine gA ?_); (first | refine AW_seq ?_ | refine AW_region ?_ | refine AW_condT rfl ?_ | (refine AW_cond rfl (fun hc => ?_) (fun hc => ?_) <;> try (exfalso; simp only [cmpL] at hc; omega)) | refine AW_block ?_ | refine AW_ret ?_ | refine AW_skip ?_)) | ((with_reducible refine gS ?_); refine Es_s (T := Tryz.tab) rfl rfl rfl rfl ?_) | (((with_reducible refine gS ?_); apply Es_q); rfl; rfl; refine LStep_call (co) rfl rfl rfl rfl) | (((with_reducible refine gS ?_); apply Es_q); rfl; rfl; (first | refine LStep_simp (T := Tryz.tab) rfl rfl | (refine LStep_pickT rfl rfl ?_ rfl rfl; assumption) | (refine LStep_indexM (T := Tryz.tab) (c := ?_) rfl rfl rfl rfl rfl rfl ?_; rotate_left; assumption) | refine LStep_buildN (T := Tryz.tab) rfl rfl rfl rfl rfl rfl rfl)) | (refine Es_skip rfl ?_ rfl ?_; (first | rfl | (refine w_tf ?_; assumption) | (refine w_ft ?_; assumption))) | (((with_reducible refine gS ?_); apply Es_xs); rfl; rfl; refine LStep_allocN (T := Tryz.tab) rfl rfl rfl rfl rfl rfl; rfl) | (((with_reducible refine gS ?_); apply Es_xn); rfl; rfl; (refine LStep_storeN (T := Tryz.tab) rfl rfl rfl rfl rfl rfl rfl ?_ rfl; (refine Nat.le_of_ble_eq_true ?_; rfl)); rfl) | (with_reducible refine Es_nil ?_) | (with_reducible refine then_n ?_) | (with_reducible refine then_r ?_) | (with_reducible refine block_r ?_) | ((with_reducible refine gRG ?_); first | refine retGa rfl ?_ | refine retGb rfl ?_ | refine retGc rfl ?_ | refine retG1 rfl rfl ?_ | refine endG1 rfl rfl ?_))
        all_goals first
          | rfl
          | trace_state
      · have g1 : ltb x.w 1 = false := by rw [ltb_f]; omega
        have g2 : ltb 1048576 x.w = true := by rw [ltb_t]; omega
        repeat' (first | ((with_reducible refine gA ?_); (first | refine AW_seq ?_ | refine AW_region ?_ | refine AW_condT rfl ?_ | (refine AW_cond rfl (fun hc => ?_) (fun hc => ?_) <;> try (exfalso; simp only [cmpL] at hc; omega)) | refine AW_block ?_ | refine AW_ret ?_ | refine AW_skip ?_)) | ((with_reducible refine gS ?_); refine Es_s (T := Tryz.tab) rfl rfl rfl rfl ?_) | (((with_reducible refine gS ?_); apply Es_q); rfl; (first | rfl | (refine w_ff ?_; assumption)); refine LStep_call (co) rfl rfl rfl rfl) | (((with_reducible refine gS ?_); apply Es_q); rfl; (first | rfl | (refine w_ff ?_; assumption)); (first | refine LStep_simp (T := Tryz.tab) rfl rfl | (refine LStep_pickT rfl rfl ?_ rfl rfl; assumption) | (refine LStep_pickF rfl rfl ?_ rfl rfl; assumption) | (refine LStep_indexM (T := Tryz.tab) (c := ?_) rfl rfl rfl rfl rfl rfl ?_; rotate_left; assumption) | refine LStep_buildN (T := Tryz.tab) rfl rfl rfl rfl rfl rfl rfl)) | (refine Es_skip rfl ?_ rfl ?_; (first | rfl | (refine w_tf ?_; assumption) | (refine w_ft ?_; assumption))) | (((with_reducible refine gS ?_); apply Es_xs); rfl; rfl; refine LStep_allocN (T := Tryz.tab) rfl rfl rfl rfl rfl rfl; rfl) | (((with_reducible refine gS ?_); apply Es_xn); rfl; rfl; (refine LStep_storeN (T := Tryz.tab) rfl rfl rfl rfl rfl rfl rfl ?_ rfl; (refine Nat.le_of_ble_eq_true ?_; rfl)); rfl) | (with_reducible refine Es_nil ?_) | (with_reducible refine then_n ?_) | (with_reducible refine then_r ?_) | (with_reducible refine block_r ?_) | ((with_reducible refine gRG ?_); first | refine retGa rfl ?_ | refine retGb rfl ?_ | refine retGc rfl ?_ | refine retG1 rfl rfl ?_ | refine endG1 rfl rfl ?_))
        all_goals first
          | rfl
          | trace_state
  · have : k = L.length := by omega
    subst this
    rw [List.take_length] at hfa hnd
    have hf : fitL S L = true := by
      unfold fitL
      rw [e1, decide_eq_true (by omega : L.length ≤ 4096), decide_eq_true hnd, List.all_eq_true.2 hfa]
      rfl
    have f2 : ltb (L.length : Nat) (L.length : Nat) = false := by rw [ltb_f]; omega
    rw [hf, List.take_length]
    repeat' (first | ((with_reducible refine gA ?_); (first | refine AW_seq ?_ | refine AW_region ?_ | (refine AW_condN rfl ?_ ?_; assumption) | refine AW_ret ?_ | refine AW_exit ?_)) | ((with_reducible refine gS ?_); refine Es_s (T := Tryz.tab) rfl rfl rfl rfl ?_) | (((with_reducible refine gS ?_); apply Es_xn); rfl; rfl; (refine LStep_storeN (T := Tryz.tab) rfl rfl rfl rfl rfl rfl rfl ?_ rfl; (refine Nat.le_of_ble_eq_true ?_; rfl)); rfl) | (with_reducible refine Es_nil ?_) | (with_reducible refine then_n ?_) | (with_reducible refine then_e ?_) | ((with_reducible refine block_e ?_ ?_); rfl) | ((with_reducible refine gRG ?_); first | refine retGa rfl ?_ | refine retGb rfl ?_ | refine retGc rfl ?_ | refine retG1 rfl rfl ?_ | refine endG1 rfl rfl ?_))
    all_goals first
      | rfl
      | trace_state
def sfE (S : Ship) (a b c d : Int) : Int := if S.most - d < 0 then 7 else if S.trim * d - maxI a (-a) < 0 ∨ S.list * d - maxI b (-b) < 0 ∨ S.up * d - c < 0 then 3 else 0
def safeE (S : Ship) (L : List Load) : Int := if fitL S L = false then 1 else sfE S (sLong S L) (sCross S L) (sUp L) (wsum L)
theorem big_in {m d : Int} (h1 : 0 ≤ m ∧ m ≤ 1048576) (h2 : -137438953472 ≤ d ∧ d ≤ 137438953472) : -144115188075855872 ≤ m * d ∧ m * d ≤ 144115188075855872 := by
  have a1 : m * d ≤ m * 137438953472 := Int.mul_le_mul_of_nonneg_left h2.2 h1.1
  have a2 : m * (-137438953472) ≤ m * d := Int.mul_le_mul_of_nonneg_left h2.1 h1.1
  omega
theorem maxI_in {a c : Int} (h : -c ≤ a ∧ a ≤ c) : 0 ≤ maxI a (-a) ∧ maxI a (-a) ≤ c := by unfold maxI; split <;> omega
def marA (S : Ship) (a b c d : Int) : List AV := [.d (.sc (.string ⟨#[116, 114, 105, 109]⟩)), .d (.sc (.int .i64 (S.trim * d - maxI a (-a)))), .d (.sc (.string ⟨#[108, 105, 115, 116]⟩)), .d (.sc (.int .i64 (S.list * d - maxI b (-b)))), .d (.sc (.string ⟨#[117, 112]⟩)), .d (.sc (.int .i64 (S.up * d - c))), .d (.sc (.string ⟨#[109, 111, 115, 116]⟩)), .d (.sc (.int .i64 (S.most - d)))]
theorem ship_in2 {S : Ship} (hS : shipOk S = true) : (0 ≤ S.trim ∧ S.trim ≤ 1048576) ∧ (0 ≤ S.list ∧ S.list ≤ 1048576) ∧ (0 ≤ S.up ∧ S.up ≤ 1048576) ∧ (0 ≤ S.most ∧ S.most ≤ 1048576) := by
  simp only [shipOk, Bool.and_eq_true, frB_t] at hS
  omega
set_option maxRecDepth 10000 in
set_option maxHeartbeats 4000000 in
theorem margins_ac (S : Ship) (a b c d : Int) (hS : shipOk S = true) (ha : -137438953472 ≤ a ∧ a ≤ 137438953472) (hb : -137438953472 ≤ b ∧ b ≤ 137438953472) (hc : -137438953472 ≤ c ∧ c ≤ 137438953472) (hd : -137438953472 ≤ d ∧ d ≤ 137438953472) :
    AC Tryz.prog 22 [.agg S.cs, momA a b c d] [] [] (fun r _ => r = .agg (marA S a b c d)) := by
  have hi := ship_in2 hS
  have c1 := tsize_ac a (by omega)
  have c2 := tsize_ac b (by omega)
  have m1 := maxI_in ha
  have m2 := maxI_in hb
  have p1 := big_in hi.1 hd
  have p2 := big_in hi.2.1 hd
  have p3 := big_in hi.2.2.1 hd
  unfold marA momA
  generalize maxI a (-a) = u1 at *
  generalize maxI b (-b) = u2 at *
  clear hS
  refine AC_enterC Tryz.tab Tryz.func22 rfl Tryz.ntmps22 (a0 := 4) (t0 := 74) rfl rfl (by simp) (fun w X G => ?_)
  repeat' (first | ((with_reducible refine gA ?_); (first | refine AW_seq ?_ | refine AW_region ?_ | refine AW_regionD Tryz.mixed ?_ | refine AW_ret ?_)) | ((with_reducible refine gD ?_); refine Ed_s (T := Tryz.tab) rfl rfl rfl rfl ?_) | ((first | ((with_reducible refine gS ?_); apply Es_q) | ((with_reducible refine gD ?_); apply Ed_q)); rfl; rfl; (first | refine LStep_call (c1) rfl rfl rfl rfl | refine LStep_call (c2) rfl rfl rfl rfl | refine LStep_buildArr (T := Tryz.tab) rfl rfl rfl rfl rfl rfl)) | ((first | ((with_reducible refine gS ?_); apply Es_q) | ((with_reducible refine gD ?_); apply Ed_q)); rfl; rfl; (first | (refine LStep_sub rfl rfl rfl rfl ?_; (refine IntWalk.i64_in _ ?_; first | omega | (simp only [cmps] at *; omega))) | (refine LStep_mul rfl rfl rfl rfl ?_; (refine IntWalk.i64_in _ ?_; first | omega | (simp only [cmps] at *; omega))) | refine LStep_buildN (T := Tryz.tab) rfl rfl rfl rfl rfl rfl rfl)) | (refine Es_skip rfl ?_ rfl ?_; (first | rfl | (refine w_tf ?_; assumption) | (refine w_ft ?_; assumption))) | ((first | ((with_reducible refine gS ?_); apply Es_xs) | ((with_reducible refine gD ?_); apply Ed_xs)); rfl; rfl; (first | refine LStep_boxN rfl rfl rfl rfl rfl rfl | refine LStep_allocN (T := Tryz.tab) rfl rfl rfl rfl rfl rfl); rfl) | (((with_reducible refine gD ?_); apply Ed_xn); rfl; rfl; (refine LStep_storeN (T := Tryz.tab) rfl rfl rfl rfl rfl rfl rfl ?_ rfl; (refine Nat.le_of_ble_eq_true ?_; rfl)); rfl) | (with_reducible refine Es_nil ?_) | ((with_reducible refine Ed_nil ?_ ?_); kernel_rfl) | (with_reducible refine then_n ?_) | ((with_reducible refine gC ?_); first | refine retC1 rfl ?_ | refine endC1 rfl ?_))
  all_goals first
    | rfl
    | trace_state
set_option maxRecDepth 10000 in
set_option maxHeartbeats 4000000 in
theorem safe_ac (S : Ship) (L : List Load) (hL : L.length ≤ 140737488351232) : AC Tryz.prog 9 [.agg S.cs, .d (.sl 7 (L.map Load.enc))] [] [] (fun r _ => r = .d (.sc (.int .i64 (safeE S L)))) := by
  have c1 := tsum_ac S L hL
  unfold safeE
  cases e1 : fitL S L with
  | false =>
    rw [e1] at c1
    refine AC_enter Tryz.func9 rfl Tryz.ntmps9 (rv := [.tmp 4]) rfl rfl (by simp) (fun w X G => ?_)
    repeat' (first | ((with_reducible refine gA ?_); (first | refine AW_seq ?_ | refine AW_region ?_ | refine AW_condT rfl ?_ | refine AW_ret ?_)) | ((with_reducible refine gS ?_); refine Es_s (T := Tryz.tab) rfl rfl rfl rfl ?_) | (((with_reducible refine gS ?_); apply Es_q); rfl; rfl; refine LStep_call (c1) rfl rfl rfl rfl) | (refine Es_skip rfl ?_ rfl ?_; (first | rfl | (refine w_tf ?_; assumption) | (refine w_ft ?_; assumption))) | (((with_reducible refine gS ?_); apply Es_xs); rfl; rfl; (first | refine LStep_boxN rfl rfl rfl rfl rfl rfl | refine LStep_allocN (T := Tryz.tab) rfl rfl rfl rfl rfl rfl); rfl) | (((with_reducible refine gS ?_); apply Es_xn); rfl; rfl; (refine LStep_storeN (T := Tryz.tab) rfl rfl rfl rfl rfl rfl rfl ?_ rfl; (refine Nat.le_of_ble_eq_true ?_; rfl)); rfl) | (with_reducible refine Es_nil ?_) | (with_reducible refine then_n ?_) | (with_reducible refine then_r ?_) | ((with_reducible refine gR ?_); first | refine ret1 rfl ?_ | refine ret2 rfl rfl ?_ | refine ret0 ?_ | refine end1 rfl ?_ | refine end0 ?_))
    all_goals first
      | rfl
      | trace_state
  | true =>
    rw [e1] at c1
    have h := e1
    unfold fitL at h
    simp only [Bool.and_eq_true, decide_eq_true_eq, List.all_eq_true] at h
    have hb := moms_in h.1 h.2.2.1 h.2.1
    have c2 := margins_ac S (sLong S L) (sCross S L) (sUp L) (wsum L) h.1 hb.1 hb.2.1 hb.2.2.1 hb.2.2.2
    rw [if_neg (by decide)]
    unfold sfE
    unfold marA at c2
    generalize S.trim * wsum L - maxI (sLong S L) (-sLong S L) = v1 at *
    generalize S.list * wsum L - maxI (sCross S L) (-sCross S L) = v2 at *
    generalize S.up * wsum L - sUp L = v3 at *
    generalize S.most - wsum L = v4 at *
    generalize sLong S L = u1 at *
    generalize sCross S L = u2 at *
    generalize sUp L = u3 at *
    generalize wsum L = u4 at *
    clear h hb
    refine AC_enter Tryz.func9 rfl Tryz.ntmps9 (rv := [.tmp 4]) rfl rfl (by simp) (fun w X G => ?_)
    repeat' (first | ((with_reducible refine gA ?_); (first | refine AW_seq ?_ | refine AW_region ?_ | refine AW_condF rfl ?_ | (refine AW_cond rfl (fun hc => ?_) (fun hc => ?_) <;> try (exfalso; simp only [cmpL] at hc; omega)) | refine AW_block ?_ | refine AW_ret ?_ | refine AW_skip ?_)) | ((with_reducible refine gS ?_); refine Es_s (T := Tryz.tab) rfl rfl rfl rfl ?_) | (((with_reducible refine gS ?_); apply Es_q); rfl; rfl; (first | refine LStep_call (c1) rfl rfl rfl rfl | refine LStep_call (c2) rfl rfl rfl rfl | refine LStep_indexPtr (T := Tryz.tab) (k := 3) rfl rfl rfl rfl rfl rfl rfl)) | (refine Es_skip rfl ?_ rfl ?_; (first | rfl | (refine w_tf ?_; assumption) | (refine w_ft ?_; assumption))) | (((with_reducible refine gS ?_); apply Es_xs); rfl; rfl; (first | refine LStep_boxN rfl rfl rfl rfl rfl rfl | refine LStep_allocN (T := Tryz.tab) rfl rfl rfl rfl rfl rfl); rfl) | (((with_reducible refine gS ?_); apply Es_xn); rfl; rfl; (refine LStep_storeN (T := Tryz.tab) rfl rfl rfl rfl rfl rfl rfl ?_ rfl; (refine Nat.le_of_ble_eq_true ?_; rfl)); rfl) | (with_reducible refine Es_nil ?_) | (with_reducible refine then_n ?_) | (with_reducible refine then_r ?_) | ((with_reducible refine gR ?_); first | refine ret1 rfl ?_ | refine ret2 rfl rfl ?_ | refine ret0 ?_ | refine end1 rfl ?_ | refine end0 ?_))
    · simp only [cmps] at *
      rw [if_pos (by assumption)]
    refine AW_rounds 5 ?_
    repeat' (first | ((with_reducible refine gRd ?_); refine rounds_stepD [9, 27, 28, 29, 30, 31, 32] [9] ?_) | ((with_reducible refine gA ?_); (first | refine AW_seq ?_ | refine AW_region ?_ | (refine AW_condN rfl ?_ ?_; assumption) | (refine AW_cond rfl (fun hc => ?_) (fun hc => ?_) <;> try (exfalso; simp only [cmpL] at hc; omega)) | refine AW_block ?_ | refine AW_ret ?_ | refine AW_skip ?_ | refine AW_exit ?_)) | ((with_reducible refine gS ?_); refine Es_s (T := Tryz.tab) rfl rfl rfl rfl ?_) | (((with_reducible refine gS ?_); apply Es_q); rfl; rfl; (first | refine LStep_idxArrA (T := Tryz.tab) (k := 0) rfl rfl rfl rfl rfl rfl rfl rfl rfl rfl | refine LStep_idxArrA (T := Tryz.tab) (k := 1) rfl rfl rfl rfl rfl rfl rfl rfl rfl rfl | refine LStep_idxArrA (T := Tryz.tab) (k := 2) rfl rfl rfl rfl rfl rfl rfl rfl rfl rfl | refine LStep_idxArrA (T := Tryz.tab) (k := 3) rfl rfl rfl rfl rfl rfl rfl rfl rfl rfl)) | (((with_reducible refine gS ?_); apply Es_q); rfl; rfl; (refine LStep_add rfl rfl rfl rfl ?_; (refine IntWalk.i64_in _ ?_; first | omega | (simp only [cmps] at *; omega)))) | (refine Es_skip rfl ?_ rfl ?_; (first | rfl | (refine w_tf ?_; assumption) | (refine w_ft ?_; assumption))) | (((with_reducible refine gS ?_); apply Es_xs); rfl; rfl; refine LStep_allocN (T := Tryz.tab) rfl rfl rfl rfl rfl rfl; rfl) | (((with_reducible refine gS ?_); apply Es_xn); rfl; rfl; (refine LStep_storeN (T := Tryz.tab) rfl rfl rfl rfl rfl rfl rfl ?_ rfl; (refine Nat.le_of_ble_eq_true ?_; rfl)); rfl) | (with_reducible refine Es_nil ?_) | (with_reducible refine then_n ?_) | (with_reducible refine then_r ?_) | (with_reducible refine then_e ?_) | (with_reducible refine block_n ?_) | (with_reducible refine block_r ?_) | ((with_reducible refine block_e ?_ ?_); rfl) | ((with_reducible refine gR ?_); first | refine ret1 rfl ?_ | refine ret2 rfl rfl ?_ | refine ret0 ?_ | refine end1 rfl ?_ | refine end0 ?_))
    all_goals simp only [cmps] at *
    all_goals first
      | (exfalso; omega)
      | (rw [if_neg (by omega), if_pos (by omega)]; done)
      | (rw [if_neg (by omega), if_neg (by omega)]; done)
      | trace_state
end Go.Proofs.YtodgjgkoaahhmaaGreatDoor
