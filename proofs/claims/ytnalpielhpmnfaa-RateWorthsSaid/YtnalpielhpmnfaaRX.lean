import Derived.Test.YtnalpielhpmnfaaRQ
namespace Go.Proofs.Ytnalpielhpmnfaa
open Go.SL
/-! ### the document's Cross -/
def rwN (x : List ByteArray) : List D := [.sl 1 (x.map sN)]
theorem r2_len (f t : ByteArray) (C : List ByteArray) : (C.flatMap (r2 f t)).length ≤ C.length := by
  induction C with
  | nil => simp
  | cons a C ih =>
    rw [List.flatMap_cons, List.length_append, List.length_cons]
    have : (r2 f t a).length ≤ 1 := by unfold r2; split <;> simp
    omega
theorem r3_len (f t a : ByteArray) (C : List ByteArray) : (C.flatMap (r3 f t a)).length ≤ C.length := by
  induction C with
  | nil => simp
  | cons b C ih =>
    rw [List.flatMap_cons, List.length_append, List.length_cons]
    have : (r3 f t a b).length ≤ 1 := by unfold r3; split <;> simp
    omega
theorem r33_len (f t : ByteArray) (A C : List ByteArray) (h : C.length ≤ 48) : (A.flatMap fun a => C.flatMap (r3 f t a)).length ≤ 48 * A.length := by
  induction A with
  | nil => simp
  | cons a A ih =>
    rw [List.flatMap_cons, List.length_append, List.length_cons]
    have := r3_len f t a C
    omega
theorem fm_take {α β : Type} {g : α → List β} {l : List α} {k : Nat} {a : α} (h : l[k]? = some a) : (l.take (k + 1)).flatMap g = (l.take k).flatMap g ++ g a := by
  rw [take_at h, List.flatMap_append]
  simp
theorem rowsC_in {C : List ByteArray} {f t : ByteArray} {row : List ByteArray} (h : row ∈ rowsC C f t) : (0 < row.length ∧ row.length ≤ 4) ∧ ∀ x ∈ row, x = f ∨ x = t ∨ x ∈ C := by
  unfold rowsC at h
  rcases List.mem_append.1 h with h | h
  · rcases List.mem_append.1 h with h | h
    · rw [List.mem_singleton.1 h]
      exact ⟨by simp, fun x hx => by simp at hx; rcases hx with q | q <;> simp [q]⟩
    · obtain ⟨a, ha, h⟩ := List.mem_flatMap.1 h
      unfold r2 at h
      split at h
      · rw [List.mem_singleton.1 h]
        exact ⟨by simp, fun x hx => by simp at hx; rcases hx with q | q | q <;> simp [q, ha]⟩
      · cases h
  · obtain ⟨a, ha, h⟩ := List.mem_flatMap.1 h
    obtain ⟨b, hb, h⟩ := List.mem_flatMap.1 h
    unfold r3 at h
    split at h
    · rw [List.mem_singleton.1 h]
      exact ⟨by simp, fun x hx => by simp at hx; rcases hx with q | q | q | q <;> simp [q, ha, hb]⟩
    · cases h
theorem code_cur {l : List RP} (hi : RInv l) {a : ByteArray} (h : a ∈ codesR l) : curOk a = true := by
  obtain ⟨x, hx, h⟩ := ((codesR_spec l).2 a).1 h
  obtain ⟨m1, m2, _⟩ := mayR_t.1 (hi.may x hx)
  rcases h with h | h
  · rw [← h]; exact m1
  · rw [← h]; exact m2
theorem crossD_doc {l : List RP} (hi : RInv l) {day : Int} {f t : ByteArray} (hf : curOk f = true) (ht : curOk t = true) (hd : dayOk day = true) (hne : f ≠ t) :
    crossD l f t day = ((rowsC (codesR l) f t).find? (okB l day)).map fun row => (rdc (prK l day row (row.length - 1)).1 (prK l day row (row.length - 1)).2, row) := by
  unfold crossD crossR
  rw [if_pos hd, rowP_doc hi day hne, hf, ht]
  simp only [Bool.and_self, if_true]
  cases hq : (rowsC (codesR l) f t).find? (okB l day) with
  | none => rfl
  | some row =>
    obtain ⟨⟨h1, _⟩, _⟩ := rowsC_in (List.mem_of_find?_eq_some hq)
    cases row with
    | nil => cases h1
    | cons a r => rfl
theorem crossD_same {l : List RP} {day : Int} {f : ByteArray} (hf : curOk f = true) (hd : dayOk day = true) : crossD l f f day = some ((1, 1), [f]) := by
  have one : rdc 1 1 = (1, 1) := by decide
  unfold crossD crossR rowP
  rw [if_pos hd, hf]
  simp only [Bool.and_self, if_true]
  show some (rdc 1 1, [f]) = _
  rw [one]
theorem crossD_no {l : List RP} {day : Int} {f t : ByteArray} (h : ¬ (curOk f = true ∧ curOk t = true ∧ dayOk day = true)) : crossD l f t day = none := by
  unfold crossD crossR
  cases h1 : curOk f <;> cases h2 : curOk t <;> cases h3 : dayOk day <;> simp_all
set_option maxRecDepth 10000 in
set_option maxHeartbeats 16000000 in
theorem rCross_ac (l : List RP) (f t : ByteArray) (day : Int) (hi : RInv l) (hl : l.length ≤ 24) : AC Try.prog 16 [.d (.sl 5 (l.map rEnc)), .d (.sc (.string f)), .d (.sc (.string t)), .d (.sc (.int .i64 day))] [] [] (fun r _ => r = crV (crossD l f t day)) := by
  have c1 := code_ac f
  have c2 := code_ac t
  have hdy := @dayOk_t day
  by_cases hok : curOk f = true ∧ curOk t = true ∧ dayOk day = true
  · obtain ⟨h1, h2, h3⟩ := hok
    obtain ⟨hd1, hd2⟩ := hdy.1 h3
    have hC1 := codesR_len l
    have hcur := @code_cur l hi
    have cc := codes_ac l (by omega)
    by_cases hne : f = t
    · subst hne
      rw [crossD_same h1 h3, crV_some]
      rw [h1] at c1 c2
      refine AC_enterG Try.tab Try.func16 rfl Try.ntmps16 (rv := [.cell 8 29, .tmp 9, .tmp 10]) rfl rfl (by simp) (fun w X G => ?_)
      repeat' (first | ((with_reducible refine gA ?_); (first | refine AW_seq ?_ | refine AW_region ?_ | refine AW_condT rfl ?_ | (refine AW_cond rfl (fun hc => ?_) (fun hc => ?_) <;> try (exfalso; simp only [cmpL] at hc; omega)) | refine AW_ret ?_ | refine AW_skip ?_)) | ((with_reducible refine gS ?_); refine Es_s (T := Try.tab) rfl rfl rfl rfl ?_) | (((with_reducible refine gS ?_); apply Es_q); rfl; (first | rfl | (refine w_ff ?_; assumption)); refine LStep_call (c1) rfl rfl rfl rfl) | (((with_reducible refine gS ?_); apply Es_q); rfl; (first | rfl | (refine w_ff ?_; assumption)); (first | refine LStep_simp (T := Try.tab) rfl rfl | (refine LStep_pickT rfl rfl ?_ rfl rfl; assumption) | (refine LStep_pickF rfl rfl ?_ rfl rfl; assumption) | (refine LStep_lit (T := Try.tab) rfl rfl rfl rfl rfl rfl rfl rfl ?_; (refine Nat.le_of_ble_eq_true ?_; rfl)) | refine LStep_buildN (T := Try.tab) rfl rfl rfl rfl rfl rfl rfl)) | (refine Es_skip rfl ?_ rfl ?_; (first | rfl | (refine w_tf ?_; assumption) | (refine w_ft ?_; assumption))) | (((with_reducible refine gS ?_); apply Es_xs); rfl; rfl; refine LStep_allocN (T := Try.tab) rfl rfl rfl rfl rfl rfl; rfl) | (((with_reducible refine gS ?_); apply Es_xn); rfl; rfl; (refine LStep_storeN (T := Try.tab) rfl rfl rfl rfl rfl rfl rfl ?_ rfl; (refine Nat.le_of_ble_eq_true ?_; rfl)); rfl) | (refine Es_split rfl ?_ (fun _ => ?_) (fun _ => ?_); ((fail_if_success (refine und_t ?_; assumption)); (fail_if_success (refine und_f ?_; assumption)); exact trivial)) | (with_reducible refine Es_nil ?_) | (with_reducible refine then_n ?_) | (with_reducible refine then_r ?_) | ((with_reducible refine gRG ?_); first | refine retGa rfl ?_ | refine retGb rfl ?_ | refine retGc rfl ?_ | refine retG1 rfl rfl ?_ | refine endG1 rfl rfl ?_))
      all_goals try simp only [cmps] at *
      all_goals first
        | (exfalso; omega)
        | (exfalso; contradiction)
        | rfl
        | trace_state
    · rw [crossD_doc hi h1 h2 h3 hne]
      have hin := fun row h => @rowsC_in (codesR l) f t row h
      have hrl : (rowsC (codesR l) f t).length ≤ 3000 := by
        unfold rowsC
        rw [List.length_append, List.length_append]
        have := r2_len f t (codesR l)
        have := r33_len f t (codesR l) (codesR l) (by omega)
        simp only [List.length_cons, List.length_nil]
        omega
      have cp := fun row (h : row ∈ rowsC (codesR l) f t) => product_ac l row day hi (by omega) h3 (fun x hx => by
        rcases (hin row h).2 x hx with q | q | q
        · rw [q]; exact h1
        · rw [q]; exact h2
        · exact hcur q) (hin row h).1.1 (hin row h).1.2
      have hrc : rowsC (codesR l) f t = [[f, t]] ++ (codesR l).flatMap (r2 f t) ++ (codesR l).flatMap fun a => (codesR l).flatMap (r3 f t a) := rfl
      generalize hR : rowsC (codesR l) f t = R at *
      generalize codesR l = C at *
      rw [h1] at c1
      rw [h2] at c2
      clear hi hdy hcur
      refine AC_enterG Try.tab Try.func16 rfl Try.ntmps16 (rv := [.cell 8 29, .tmp 9, .tmp 10]) rfl rfl (by simp) (fun w X G => ?_)
      repeat' (first | ((with_reducible refine gA ?_); (first | refine AW_seq ?_ | refine AW_region ?_ | refine AW_condT rfl ?_ | (refine AW_cond rfl (fun hc => ?_) (fun hc => ?_) <;> try (exfalso; simp only [cmpL] at hc; omega)) | refine AW_block ?_ | refine AW_ret ?_ | refine AW_skip ?_)) | ((with_reducible refine gS ?_); refine Es_s (T := Try.tab) rfl rfl rfl rfl ?_) | (((with_reducible refine gS ?_); apply Es_q); rfl; (first | rfl | (refine w_ff ?_; assumption)); (first | refine LStep_call (c1) rfl rfl rfl rfl | refine LStep_call (c2) rfl rfl rfl rfl | refine LStep_call (cc) rfl rfl rfl rfl)) | (((with_reducible refine gS ?_); apply Es_xs); rfl; (first | rfl | (refine w_ff ?_; assumption)); (refine LStep_litOwn (T := Try.tab) (len := 1) rfl rfl rfl rfl rfl rfl rfl rfl rfl rfl ?_ ?_; (refine Nat.le_of_ble_eq_true ?_; rfl); (unfold maxLen; omega)); rfl) | (((with_reducible refine gS ?_); apply Es_q); rfl; (first | rfl | (refine w_ff ?_; assumption)); (first | refine LStep_simp (T := Try.tab) rfl rfl | refine LStep_lenM (T := Try.tab) rfl rfl rfl rfl | (refine LStep_pickT rfl rfl ?_ rfl rfl; assumption) | (refine LStep_pickF rfl rfl ?_ rfl rfl; assumption) | (refine LStep_lit (T := Try.tab) rfl rfl rfl rfl rfl rfl rfl rfl ?_; (refine Nat.le_of_ble_eq_true ?_; rfl)) | refine LStep_buildN (T := Try.tab) rfl rfl rfl rfl rfl rfl rfl)) | (refine Es_skip rfl ?_ rfl ?_; (first | rfl | (refine w_tf ?_; assumption) | (refine w_ft ?_; assumption))) | (((with_reducible refine gS ?_); apply Es_xs); rfl; rfl; refine LStep_allocN (T := Try.tab) rfl rfl rfl rfl rfl rfl; rfl) | (((with_reducible refine gS ?_); apply Es_xn); rfl; rfl; (refine LStep_storeN (T := Try.tab) rfl rfl rfl rfl rfl rfl rfl ?_ rfl; (refine Nat.le_of_ble_eq_true ?_; rfl)); rfl) | (refine Es_split rfl ?_ (fun _ => ?_) (fun _ => ?_); ((fail_if_success (refine und_t ?_; assumption)); (fail_if_success (refine und_f ?_; assumption)); exact trivial)) | (with_reducible refine Es_nil ?_) | (with_reducible refine then_n ?_) | (with_reducible refine then_r ?_) | ((with_reducible refine gRG ?_); first | refine retGa rfl ?_ | refine retGb rfl ?_ | refine retGc rfl ?_ | refine retG1 rfl rfl ?_ | refine endG1 rfl rfl ?_))
      · simp only [cmps] at *; exfalso; first | omega | contradiction
      · simp only [cmps] at *; exfalso; first | omega | contradiction
      refine AW_forE (S := Nat × List (List D)) (fun z => z.1 ≤ C.length ∧ z.2.length ≤ 1 + z.1 ∧ z.2 = ([[f, t]] ++ (C.take z.1).flatMap (r2 f t)).map rwN) (fun z => [(55, .d (.sc (.int .i64 (z.1 : Nat)))), (11, .own 50 z.2.length)]) (fun z => [(50, some (.arr 34 1 z.2))]) (fun z => C.length - z.1) (0, [rwN [f, t]]) ⟨by omega, by simp, by simp⟩ (by (repeat' (first | exact trivial | exact rfl | (refine ⟨Or.inl rfl, ?_⟩) | (refine ⟨Or.inr rfl, ?_⟩) | (refine ⟨Or.inr trivial, ?_⟩) | (refine ⟨rfl, ?_⟩) | (refine ⟨?_, ?_⟩)))) (by (repeat' (first | exact trivial | exact rfl | (refine ⟨Or.inl rfl, ?_⟩) | (refine ⟨Or.inr rfl, ?_⟩) | (refine ⟨Or.inr trivial, ?_⟩) | (refine ⟨rfl, ?_⟩) | (refine ⟨?_, ?_⟩)))) ?_
      intro ⟨k, E⟩ ⟨hk, hEl, hE⟩
      dsimp only at hk hEl hE ⊢
      by_cases hlt : k < C.length
      · obtain ⟨a, ha, _⟩ := drop_at hlt
        have hnx := fm_take (g := r2 f t) ha
        by_cases hcN : a ≠ f ∧ a ≠ t
        · have hr : r2 f t a = [[f, a, t]] := by unfold r2; rw [if_pos hcN]
          obtain ⟨hc1, hc2⟩ := hcN
          repeat' (first | ((with_reducible refine gA ?_); (first | refine AW_seq ?_ | refine AW_region ?_ | refine AW_condF rfl ?_ | (refine AW_cond rfl (fun hc => ?_) (fun hc => ?_) <;> try (exfalso; simp only [cmpL] at hc; omega)) | refine AW_block ?_ | refine AW_skip ?_)) | ((with_reducible refine gS ?_); refine Es_s (T := Try.tab) rfl rfl rfl rfl ?_) | (((with_reducible refine gS ?_); apply Es_xs); rfl; (first | rfl | (refine w_tt ?_; assumption)); (refine LStep_append (T := Try.tab) rfl rfl rfl rfl rfl rfl rfl rfl rfl rfl ?_ ?_ ?_; rfl; (simp only [List.length_cons, List.length_nil]; omega); (unfold maxLen; simp only [List.length_cons, List.length_nil]; omega)); rfl) | (((with_reducible refine gS ?_); apply Es_q); rfl; (first | rfl | (refine w_tt ?_; assumption)); (first | refine LStep_simp (T := Try.tab) rfl rfl | (refine LStep_add rfl rfl rfl rfl ?_; (refine IntWalk.i64_in _ ?_; first | omega | (simp only [cmps] at *; omega))) | (refine LStep_pickT rfl rfl ?_ rfl rfl; assumption) | (refine LStep_pickF rfl rfl ?_ rfl rfl; assumption) | (refine LStep_indexM (T := Try.tab) (c := ?_) rfl rfl rfl rfl rfl rfl ?_; rotate_left; assumption) | (refine LStep_lit (T := Try.tab) rfl rfl rfl rfl rfl rfl rfl rfl ?_; (refine Nat.le_of_ble_eq_true ?_; rfl)))) | (refine Es_skip rfl ?_ rfl ?_; (first | rfl | (refine w_tf ?_; assumption) | (refine w_ft ?_; assumption))) | (refine Es_split rfl ?_ (fun _ => ?_) (fun _ => ?_); ((fail_if_success (refine und_t ?_; assumption)); (fail_if_success (refine und_f ?_; assumption)); exact trivial)) | (with_reducible refine Es_nil ?_) | (with_reducible refine then_n ?_) | (with_reducible refine block_n ?_))
          all_goals try simp only [cmps] at *
          all_goals first
            | (exfalso; omega)
            | (exfalso; contradiction)
            | (refine ⟨(k + 1, E ++ [rwN [f, a, t]]), ?_, by omega, by (repeat' (first | exact trivial | exact rfl | (refine ⟨Or.inl rfl, ?_⟩) | (refine ⟨Or.inr rfl, ?_⟩) | (refine ⟨Or.inr trivial, ?_⟩) | (refine ⟨rfl, ?_⟩) | (refine ⟨?_, ?_⟩))), by (repeat' (first | exact trivial | exact rfl | (refine ⟨Or.inl rfl, ?_⟩) | (refine ⟨Or.inr rfl, ?_⟩) | (refine ⟨Or.inr trivial, ?_⟩) | (refine ⟨rfl, ?_⟩) | (refine ⟨?_, ?_⟩))), by (repeat' (first | exact trivial | exact rfl | (refine ⟨Or.inl rfl, ?_⟩) | (refine ⟨Or.inr rfl, ?_⟩) | (refine ⟨Or.inr trivial, ?_⟩) | (refine ⟨rfl, ?_⟩) | (refine ⟨?_, ?_⟩))), by (repeat' (first | exact trivial | exact rfl | (refine ⟨Or.inl rfl, ?_⟩) | (refine ⟨Or.inr rfl, ?_⟩) | (refine ⟨Or.inr trivial, ?_⟩) | (refine ⟨rfl, ?_⟩) | (refine ⟨?_, ?_⟩)))⟩; exact ⟨by omega, by (simp only [List.length_append, List.length_cons, List.length_nil]; omega), by (rw [hnx, hr, hE]; simp)⟩)
            | trace_state
        · have hr : r2 f t a = [] := by unfold r2; rw [if_neg hcN]
          repeat' (first | ((with_reducible refine gA ?_); (first | refine AW_seq ?_ | refine AW_region ?_ | refine AW_condF rfl ?_ | (refine AW_cond rfl (fun hc => ?_) (fun hc => ?_) <;> try (exfalso; simp only [cmpL] at hc; omega)) | refine AW_block ?_ | refine AW_skip ?_)) | ((with_reducible refine gS ?_); refine Es_s (T := Try.tab) rfl rfl rfl rfl ?_) | (((with_reducible refine gS ?_); apply Es_q); rfl; (first | rfl | (refine w_tt ?_; assumption)); (first | refine LStep_simp (T := Try.tab) rfl rfl | (refine LStep_add rfl rfl rfl rfl ?_; (refine IntWalk.i64_in _ ?_; first | omega | (simp only [cmps] at *; omega))) | (refine LStep_pickT rfl rfl ?_ rfl rfl; assumption) | (refine LStep_pickF rfl rfl ?_ rfl rfl; assumption) | (refine LStep_indexM (T := Try.tab) (c := ?_) rfl rfl rfl rfl rfl rfl ?_; rotate_left; assumption) | (refine LStep_lit (T := Try.tab) rfl rfl rfl rfl rfl rfl rfl rfl ?_; (refine Nat.le_of_ble_eq_true ?_; rfl)))) | (refine Es_skip rfl ?_ rfl ?_; (first | rfl | (refine w_tf ?_; assumption) | (refine w_ft ?_; assumption))) | (refine Es_split rfl ?_ (fun _ => ?_) (fun _ => ?_); ((fail_if_success (refine und_t ?_; assumption)); (fail_if_success (refine und_f ?_; assumption)); exact trivial)) | (with_reducible refine Es_nil ?_) | (with_reducible refine then_n ?_) | (with_reducible refine block_n ?_))
          all_goals try simp only [cmps] at *
          all_goals first
            | (exfalso; omega)
            | (exfalso; exact hcN ⟨by assumption, by assumption⟩)
            | (refine ⟨(k + 1, E), ?_, by omega, by (repeat' (first | exact trivial | exact rfl | (refine ⟨Or.inl rfl, ?_⟩) | (refine ⟨Or.inr rfl, ?_⟩) | (refine ⟨Or.inr trivial, ?_⟩) | (refine ⟨rfl, ?_⟩) | (refine ⟨?_, ?_⟩))), by (repeat' (first | exact trivial | exact rfl | (refine ⟨Or.inl rfl, ?_⟩) | (refine ⟨Or.inr rfl, ?_⟩) | (refine ⟨Or.inr trivial, ?_⟩) | (refine ⟨rfl, ?_⟩) | (refine ⟨?_, ?_⟩))), by (repeat' (first | exact trivial | exact rfl | (refine ⟨Or.inl rfl, ?_⟩) | (refine ⟨Or.inr rfl, ?_⟩) | (refine ⟨Or.inr trivial, ?_⟩) | (refine ⟨rfl, ?_⟩) | (refine ⟨?_, ?_⟩))), by (repeat' (first | exact trivial | exact rfl | (refine ⟨Or.inl rfl, ?_⟩) | (refine ⟨Or.inr rfl, ?_⟩) | (refine ⟨Or.inr trivial, ?_⟩) | (refine ⟨rfl, ?_⟩) | (refine ⟨?_, ?_⟩)))⟩; exact ⟨by omega, by (dsimp only; omega), by (rw [hnx, hr, hE]; simp)⟩)
            | trace_state
      · have hkl : k = C.length := by omega
        subst hkl
        rw [List.take_length] at hE
        have hEl2 : E.length ≤ 49 := by omega
        clear hEl
        repeat' (first | ((with_reducible refine gA ?_); (first | refine AW_seq ?_ | refine AW_region ?_ | (refine AW_cond rfl (fun hc => ?_) (fun hc => ?_) <;> try (exfalso; simp only [cmpL] at hc; omega)) | refine AW_block ?_ | refine AW_exit ?_)) | ((with_reducible refine gS ?_); refine Es_s (T := Try.tab) rfl rfl rfl rfl ?_) | (((with_reducible refine gS ?_); apply Es_q); rfl; rfl; refine LStep_lenM (T := Try.tab) rfl rfl rfl rfl) | (with_reducible refine Es_nil ?_) | (with_reducible refine then_n ?_) | (with_reducible refine then_e ?_) | ((with_reducible refine block_e ?_ ?_); rfl))
        refine AW_forE (S := Nat × List (List D)) (fun z => z.1 ≤ C.length ∧ z.2.length ≤ 49 + 48 * z.1 ∧ z.2 = ([[f, t]] ++ C.flatMap (r2 f t) ++ (C.take z.1).flatMap fun a => C.flatMap (r3 f t a)).map rwN) (fun z => [(77, .d (.sc (.int .i64 (z.1 : Nat)))), (11, .own 50 z.2.length)]) (fun z => [(50, some (.arr 34 1 z.2))]) (fun z => C.length - z.1) (0, E) ⟨by omega, by (dsimp only; omega), by simpa using hE⟩ (by (repeat' (first | exact trivial | exact rfl | (refine ⟨Or.inl rfl, ?_⟩) | (refine ⟨Or.inr rfl, ?_⟩) | (refine ⟨Or.inr trivial, ?_⟩) | (refine ⟨rfl, ?_⟩) | (refine ⟨?_, ?_⟩)))) (by (repeat' (first | exact trivial | exact rfl | (refine ⟨Or.inl rfl, ?_⟩) | (refine ⟨Or.inr rfl, ?_⟩) | (refine ⟨Or.inr trivial, ?_⟩) | (refine ⟨rfl, ?_⟩) | (refine ⟨?_, ?_⟩)))) ?_
        clear hE hEl2
        intro ⟨k, E⟩ ⟨hk, hEl, hE⟩
        dsimp only at hk hEl hE ⊢
        by_cases hlt : k < C.length
        · obtain ⟨a, ha, _⟩ := drop_at hlt
          have hnx := fm_take (g := fun a => C.flatMap (r3 f t a)) ha
          repeat' (first | ((with_reducible refine gA ?_); (first | refine AW_seq ?_ | refine AW_region ?_ | (refine AW_cond rfl (fun hc => ?_) (fun hc => ?_) <;> try (exfalso; simp only [cmpL] at hc; omega)) | refine AW_block ?_ | refine AW_skip ?_)) | ((with_reducible refine gS ?_); refine Es_s (T := Try.tab) rfl rfl rfl rfl ?_) | (((with_reducible refine gS ?_); apply Es_q); rfl; rfl; (first | refine LStep_lenM (T := Try.tab) rfl rfl rfl rfl | (refine LStep_indexM (T := Try.tab) (c := ?_) rfl rfl rfl rfl rfl rfl ?_; rotate_left; assumption))) | (with_reducible refine Es_nil ?_) | (with_reducible refine then_n ?_))
          all_goals try simp only [cmps] at *
          · refine AW_forE (S := Nat × List (List D)) (fun z => z.1 ≤ C.length ∧ z.2.length ≤ 49 + 48 * k + z.1 ∧ z.2 = E ++ ((C.take z.1).flatMap (r3 f t a)).map rwN) (fun z => [(83, .d (.sc (.int .i64 (z.1 : Nat)))), (11, .own 50 z.2.length)]) (fun z => [(50, some (.arr 34 1 z.2))]) (fun z => C.length - z.1) (0, E) ⟨by omega, by (dsimp only; omega), by simp⟩ (by (repeat' (first | exact trivial | exact rfl | (refine ⟨Or.inl rfl, ?_⟩) | (refine ⟨Or.inr rfl, ?_⟩) | (refine ⟨Or.inr trivial, ?_⟩) | (refine ⟨rfl, ?_⟩) | (refine ⟨?_, ?_⟩)))) (by (repeat' (first | exact trivial | exact rfl | (refine ⟨Or.inl rfl, ?_⟩) | (refine ⟨Or.inr rfl, ?_⟩) | (refine ⟨Or.inr trivial, ?_⟩) | (refine ⟨rfl, ?_⟩) | (refine ⟨?_, ?_⟩)))) ?_
            intro ⟨j, F⟩ ⟨hj, hFl, hF⟩
            dsimp only at hj hFl hF ⊢
            by_cases hlj : j < C.length
            · obtain ⟨b, hb, _⟩ := drop_at hlj
              have hnx2 := fm_take (g := r3 f t a) hb
              by_cases hcN : a ≠ f ∧ a ≠ t ∧ b ≠ f ∧ b ≠ t ∧ a ≠ b
              · have hr : r3 f t a b = [[f, a, b, t]] := by unfold r3; rw [if_pos hcN]
                obtain ⟨hc1, hc2, hc3, hc4, hc5⟩ := hcN
                repeat' (first | ((with_reducible refine gA ?_); (first | refine AW_seq ?_ | refine AW_region ?_ | refine AW_condF rfl ?_ | (refine AW_cond rfl (fun hc => ?_) (fun hc => ?_) <;> try (exfalso; simp only [cmpL] at hc; omega)) | refine AW_block ?_ | refine AW_skip ?_)) | ((with_reducible refine gS ?_); refine Es_s (T := Try.tab) rfl rfl rfl rfl ?_) | (((with_reducible refine gS ?_); apply Es_xs); rfl; (first | rfl | (refine w_tt ?_; assumption)); (refine LStep_append (T := Try.tab) rfl rfl rfl rfl rfl rfl rfl rfl rfl rfl ?_ ?_ ?_; rfl; (simp only [List.length_cons, List.length_nil]; omega); (unfold maxLen; simp only [List.length_cons, List.length_nil]; omega)); rfl) | (((with_reducible refine gS ?_); apply Es_q); rfl; (first | rfl | (refine w_tt ?_; assumption)); (first | refine LStep_simp (T := Try.tab) rfl rfl | (refine LStep_add rfl rfl rfl rfl ?_; (refine IntWalk.i64_in _ ?_; first | omega | (simp only [cmps] at *; omega))) | (refine LStep_pickT rfl rfl ?_ rfl rfl; assumption) | (refine LStep_pickF rfl rfl ?_ rfl rfl; assumption) | (refine LStep_indexM (T := Try.tab) (c := ?_) rfl rfl rfl rfl rfl rfl ?_; rotate_left; assumption) | (refine LStep_lit (T := Try.tab) rfl rfl rfl rfl rfl rfl rfl rfl ?_; (refine Nat.le_of_ble_eq_true ?_; rfl)))) | (refine Es_skip rfl ?_ rfl ?_; (first | rfl | (refine w_tf ?_; assumption) | (refine w_ft ?_; assumption))) | (refine Es_split rfl ?_ (fun _ => ?_) (fun _ => ?_); ((fail_if_success (refine und_t ?_; assumption)); (fail_if_success (refine und_f ?_; assumption)); exact trivial)) | (with_reducible refine Es_nil ?_) | (with_reducible refine then_n ?_) | (with_reducible refine block_n ?_))
                all_goals try simp only [cmps] at *
                all_goals first
                  | (exfalso; omega)
                  | (exfalso; contradiction)
                  | (refine ⟨(j + 1, F ++ [rwN [f, a, b, t]]), ?_, by omega, by (repeat' (first | exact trivial | exact rfl | (refine ⟨Or.inl rfl, ?_⟩) | (refine ⟨Or.inr rfl, ?_⟩) | (refine ⟨Or.inr trivial, ?_⟩) | (refine ⟨rfl, ?_⟩) | (refine ⟨?_, ?_⟩))), by (repeat' (first | exact trivial | exact rfl | (refine ⟨Or.inl rfl, ?_⟩) | (refine ⟨Or.inr rfl, ?_⟩) | (refine ⟨Or.inr trivial, ?_⟩) | (refine ⟨rfl, ?_⟩) | (refine ⟨?_, ?_⟩))), by (repeat' (first | exact trivial | exact rfl | (refine ⟨Or.inl rfl, ?_⟩) | (refine ⟨Or.inr rfl, ?_⟩) | (refine ⟨Or.inr trivial, ?_⟩) | (refine ⟨rfl, ?_⟩) | (refine ⟨?_, ?_⟩))), by (repeat' (first | exact trivial | exact rfl | (refine ⟨Or.inl rfl, ?_⟩) | (refine ⟨Or.inr rfl, ?_⟩) | (refine ⟨Or.inr trivial, ?_⟩) | (refine ⟨rfl, ?_⟩) | (refine ⟨?_, ?_⟩)))⟩; exact ⟨by omega, by (simp only [List.length_append, List.length_cons, List.length_nil]; omega), by (rw [hnx2, hr, hF]; simp)⟩)
                  | trace_state
              · have hr : r3 f t a b = [] := by unfold r3; rw [if_neg hcN]
                repeat' (first | ((with_reducible refine gA ?_); (first | refine AW_seq ?_ | refine AW_region ?_ | refine AW_condF rfl ?_ | (refine AW_cond rfl (fun hc => ?_) (fun hc => ?_) <;> try (exfalso; simp only [cmpL] at hc; omega)) | refine AW_block ?_ | refine AW_skip ?_)) | ((with_reducible refine gS ?_); refine Es_s (T := Try.tab) rfl rfl rfl rfl ?_) | (((with_reducible refine gS ?_); apply Es_q); rfl; (first | rfl | (refine w_tt ?_; assumption)); (first | refine LStep_simp (T := Try.tab) rfl rfl | (refine LStep_add rfl rfl rfl rfl ?_; (refine IntWalk.i64_in _ ?_; first | omega | (simp only [cmps] at *; omega))) | (refine LStep_pickT rfl rfl ?_ rfl rfl; assumption) | (refine LStep_pickF rfl rfl ?_ rfl rfl; assumption) | (refine LStep_indexM (T := Try.tab) (c := ?_) rfl rfl rfl rfl rfl rfl ?_; rotate_left; assumption) | (refine LStep_lit (T := Try.tab) rfl rfl rfl rfl rfl rfl rfl rfl ?_; (refine Nat.le_of_ble_eq_true ?_; rfl)))) | (refine Es_skip rfl ?_ rfl ?_; (first | rfl | (refine w_tf ?_; assumption) | (refine w_ft ?_; assumption))) | (refine Es_split rfl ?_ (fun _ => ?_) (fun _ => ?_); ((fail_if_success (refine und_t ?_; assumption)); (fail_if_success (refine und_f ?_; assumption)); exact trivial)) | (with_reducible refine Es_nil ?_) | (with_reducible refine then_n ?_) | (with_reducible refine block_n ?_))
                all_goals try simp only [cmps] at *
                all_goals first
                  | (exfalso; omega)
                  | (exfalso; exact hcN ⟨by assumption, by assumption, by assumption, by assumption, by assumption⟩)
                  | (refine ⟨(j + 1, F), ?_, by omega, by (repeat' (first | exact trivial | exact rfl | (refine ⟨Or.inl rfl, ?_⟩) | (refine ⟨Or.inr rfl, ?_⟩) | (refine ⟨Or.inr trivial, ?_⟩) | (refine ⟨rfl, ?_⟩) | (refine ⟨?_, ?_⟩))), by (repeat' (first | exact trivial | exact rfl | (refine ⟨Or.inl rfl, ?_⟩) | (refine ⟨Or.inr rfl, ?_⟩) | (refine ⟨Or.inr trivial, ?_⟩) | (refine ⟨rfl, ?_⟩) | (refine ⟨?_, ?_⟩))), by (repeat' (first | exact trivial | exact rfl | (refine ⟨Or.inl rfl, ?_⟩) | (refine ⟨Or.inr rfl, ?_⟩) | (refine ⟨Or.inr trivial, ?_⟩) | (refine ⟨rfl, ?_⟩) | (refine ⟨?_, ?_⟩))), by (repeat' (first | exact trivial | exact rfl | (refine ⟨Or.inl rfl, ?_⟩) | (refine ⟨Or.inr rfl, ?_⟩) | (refine ⟨Or.inr trivial, ?_⟩) | (refine ⟨rfl, ?_⟩) | (refine ⟨?_, ?_⟩)))⟩; exact ⟨by omega, by (dsimp only; omega), by (rw [hnx2, hr, hF]; simp)⟩)
                  | trace_state
            · have hjl : j = C.length := by omega
              subst hjl
              rw [List.take_length] at hF
              repeat' (first | ((with_reducible refine gA ?_); (first | refine AW_seq ?_ | refine AW_region ?_ | (refine AW_cond rfl (fun hc => ?_) (fun hc => ?_) <;> try (exfalso; simp only [cmpL] at hc; omega)) | refine AW_exit ?_)) | ((with_reducible refine gS ?_); refine Es_s (T := Try.tab) rfl rfl rfl rfl ?_) | (((with_reducible refine gS ?_); apply Es_q); rfl; rfl; (refine LStep_add rfl rfl rfl rfl ?_; (refine IntWalk.i64_in _ ?_; first | omega | (simp only [cmps] at *; omega)))) | (with_reducible refine Es_nil ?_) | (with_reducible refine then_n ?_) | (with_reducible refine then_e ?_) | (with_reducible refine block_n ?_) | ((with_reducible refine block_e ?_ ?_); rfl))
              all_goals try simp only [cmps] at *
              all_goals first
                | (exfalso; omega)
                | (refine ⟨(k + 1, F), ?_, by omega, by (repeat' (first | exact trivial | exact rfl | (refine ⟨Or.inl rfl, ?_⟩) | (refine ⟨Or.inr rfl, ?_⟩) | (refine ⟨Or.inr trivial, ?_⟩) | (refine ⟨rfl, ?_⟩) | (refine ⟨?_, ?_⟩))), by (repeat' (first | exact trivial | exact rfl | (refine ⟨Or.inl rfl, ?_⟩) | (refine ⟨Or.inr rfl, ?_⟩) | (refine ⟨Or.inr trivial, ?_⟩) | (refine ⟨rfl, ?_⟩) | (refine ⟨?_, ?_⟩))), by (repeat' (first | exact trivial | exact rfl | (refine ⟨Or.inl rfl, ?_⟩) | (refine ⟨Or.inr rfl, ?_⟩) | (refine ⟨Or.inr trivial, ?_⟩) | (refine ⟨rfl, ?_⟩) | (refine ⟨?_, ?_⟩))), by (repeat' (first | exact trivial | exact rfl | (refine ⟨Or.inl rfl, ?_⟩) | (refine ⟨Or.inr rfl, ?_⟩) | (refine ⟨Or.inr trivial, ?_⟩) | (refine ⟨rfl, ?_⟩) | (refine ⟨?_, ?_⟩)))⟩; exact ⟨by omega, by (dsimp only; omega), by (rw [hnx, hF, hE]; simp)⟩)
                | trace_state
          all_goals (exfalso; omega)
        · have hkl : k = C.length := by omega
          subst hkl
          rw [List.take_length, ← hrc] at hE
          clear hEl
          subst hE
          repeat' (first | ((with_reducible refine gA ?_); (first | refine AW_seq ?_ | refine AW_region ?_ | (refine AW_condN rfl ?_ ?_; assumption) | refine AW_block ?_ | refine AW_exit ?_)) | ((with_reducible refine gS ?_); refine Es_s (T := Try.tab) rfl rfl rfl rfl ?_) | (((with_reducible refine gS ?_); apply Es_q); rfl; rfl; refine LStep_lenOwn (T := Try.tab) rfl rfl rfl rfl rfl rfl) | (with_reducible refine Es_nil ?_) | (with_reducible refine then_n ?_) | (with_reducible refine then_e ?_) | ((with_reducible refine block_e ?_ ?_); rfl))
          refine AW_forE (S := Nat) (fun k => k ≤ R.length ∧ ∀ x ∈ R.take k, okB l day x = false) (fun k => [(122, .d (.sc (.int .i64 (k : Nat))))]) (fun _ => []) (fun k => R.length - k) 0 ⟨by omega, by simp⟩ (by (repeat' (first | exact trivial | exact rfl | (refine ⟨Or.inl rfl, ?_⟩) | (refine ⟨Or.inr rfl, ?_⟩) | (refine ⟨Or.inr trivial, ?_⟩) | (refine ⟨rfl, ?_⟩) | (refine ⟨?_, ?_⟩)))) (by (repeat' (first | exact trivial | exact rfl | (refine ⟨Or.inl rfl, ?_⟩) | (refine ⟨Or.inr rfl, ?_⟩) | (refine ⟨Or.inr trivial, ?_⟩) | (refine ⟨rfl, ?_⟩) | (refine ⟨?_, ?_⟩)))) ?_
          intro k ⟨hk, hf⟩
          by_cases hlr : k < R.length
          · obtain ⟨row, hrow, _⟩ := drop_at hlr
            obtain ⟨hy, hn⟩ := find_at hrow hf
            have cpk := cp row (List.mem_of_getElem? hrow)
            unfold rowS rowE at cpk
            cases hb : okB l day row with
            | true =>
              rw [hb] at cpk
              rw [hy hb, Option.map_some, crV_some]
              unfold prV rtV at cpk
              rw [if_pos rfl] at cpk
              generalize rdc (prK l day row (row.length - 1)).1 (prK l day row (row.length - 1)).2 = rd at *
              repeat' (first | ((with_reducible refine gA ?_); (first | refine AW_seq ?_ | refine AW_region ?_ | refine AW_condT rfl ?_ | refine AW_condF rfl ?_ | (refine AW_cond rfl (fun hc => ?_) (fun hc => ?_) <;> try (exfalso; simp only [cmpL] at hc; omega)) | refine AW_block ?_ | refine AW_ret ?_ | refine AW_skip ?_)) | ((with_reducible refine gS ?_); refine Es_s (T := Try.tab) rfl rfl rfl rfl ?_) | (((with_reducible refine gS ?_); apply Es_q); rfl; rfl; (first | (refine LStep_indexOwnM (T := Try.tab) rfl rfl rfl rfl rfl rfl rfl rfl ?_; (first | omega | (simp only [List.length_map]; omega))) | (refine LStep_loadEM (T := Try.tab) (c := ?_) rfl rfl rfl rfl rfl rfl ?_ rfl; rotate_left; assumption) | refine LStep_call (cpk) rfl rfl rfl rfl)) | (refine Es_skip rfl ?_ rfl ?_; (first | rfl | (refine w_tf ?_; assumption) | (refine w_ft ?_; assumption))) | (((with_reducible refine gS ?_); apply Es_xs); rfl; rfl; refine LStep_allocN (T := Try.tab) rfl rfl rfl rfl rfl rfl; rfl) | (((with_reducible refine gS ?_); apply Es_xn); rfl; rfl; (refine LStep_storeN (T := Try.tab) rfl rfl rfl rfl rfl rfl rfl ?_ rfl; (refine Nat.le_of_ble_eq_true ?_; rfl)); rfl) | (with_reducible refine Es_nil ?_) | (with_reducible refine then_n ?_) | (with_reducible refine then_r ?_) | (with_reducible refine block_r ?_) | ((with_reducible refine gRG ?_); first | refine retGa rfl ?_ | refine retGb rfl ?_ | refine retGc rfl ?_ | refine retG1 rfl rfl ?_ | refine endG1 rfl rfl ?_))
              all_goals try simp only [cmps] at *
              all_goals first
                | (exfalso; omega)
                | (exfalso; contradiction)
                | rfl
                | trace_state
            | false =>
              rw [hb] at cpk
              unfold prV rtV at cpk
              rw [if_neg (by decide)] at cpk
              repeat' (first | ((with_reducible refine gA ?_); (first | refine AW_seq ?_ | refine AW_region ?_ | refine AW_condF rfl ?_ | (refine AW_cond rfl (fun hc => ?_) (fun hc => ?_) <;> try (exfalso; simp only [cmpL] at hc; omega)) | refine AW_block ?_ | refine AW_skip ?_)) | ((with_reducible refine gS ?_); refine Es_s (T := Try.tab) rfl rfl rfl rfl ?_) | (((with_reducible refine gS ?_); apply Es_q); rfl; rfl; (first | (refine LStep_indexOwnM (T := Try.tab) rfl rfl rfl rfl rfl rfl rfl rfl ?_; (first | omega | (simp only [List.length_map]; omega))) | (refine LStep_loadEM (T := Try.tab) (c := ?_) rfl rfl rfl rfl rfl rfl ?_ rfl; rotate_left; assumption) | refine LStep_call (cpk) rfl rfl rfl rfl)) | (((with_reducible refine gS ?_); apply Es_q); rfl; rfl; (refine LStep_add rfl rfl rfl rfl ?_; (refine IntWalk.i64_in _ ?_; first | omega | (simp only [cmps] at *; omega)))) | (refine Es_skip rfl ?_ rfl ?_; (first | rfl | (refine w_tf ?_; assumption) | (refine w_ft ?_; assumption))) | (((with_reducible refine gS ?_); apply Es_xs); rfl; rfl; refine LStep_allocN (T := Try.tab) rfl rfl rfl rfl rfl rfl; rfl) | (((with_reducible refine gS ?_); apply Es_xn); rfl; rfl; (refine LStep_storeN (T := Try.tab) rfl rfl rfl rfl rfl rfl rfl ?_ rfl; (refine Nat.le_of_ble_eq_true ?_; rfl)); rfl) | (with_reducible refine Es_nil ?_) | (with_reducible refine then_n ?_) | (with_reducible refine block_n ?_))
              all_goals try simp only [cmps] at *
              all_goals first
                | (exfalso; omega)
                | (exfalso; contradiction)
                | (refine ⟨k + 1, ?_, by omega, by (repeat' (first | exact trivial | exact rfl | (refine ⟨Or.inl rfl, ?_⟩) | (refine ⟨Or.inr rfl, ?_⟩) | (refine ⟨Or.inr trivial, ?_⟩) | (refine ⟨rfl, ?_⟩) | (refine ⟨?_, ?_⟩))), by (repeat' (first | exact trivial | exact rfl | (refine ⟨Or.inl rfl, ?_⟩) | (refine ⟨Or.inr rfl, ?_⟩) | (refine ⟨Or.inr trivial, ?_⟩) | (refine ⟨rfl, ?_⟩) | (refine ⟨?_, ?_⟩))), by (repeat' (first | exact trivial | exact rfl | (refine ⟨Or.inl rfl, ?_⟩) | (refine ⟨Or.inr rfl, ?_⟩) | (refine ⟨Or.inr trivial, ?_⟩) | (refine ⟨rfl, ?_⟩) | (refine ⟨?_, ?_⟩))), by (repeat' (first | exact trivial | exact rfl | (refine ⟨Or.inl rfl, ?_⟩) | (refine ⟨Or.inr rfl, ?_⟩) | (refine ⟨Or.inr trivial, ?_⟩) | (refine ⟨rfl, ?_⟩) | (refine ⟨?_, ?_⟩)))⟩; exact ⟨by omega, hn hb⟩)
                | trace_state
          · have hkl : k = R.length := by omega
            subst hkl
            rw [find_end hf, Option.map_none, crV_none]
            repeat' (first | ((with_reducible refine gRc ?_); refine AW_nilD 1 9 rfl ?_) | ((with_reducible refine gA ?_); (first | refine AW_seq ?_ | refine AW_region ?_ | (refine AW_cond rfl (fun hc => ?_) (fun hc => ?_) <;> try (exfalso; simp only [cmpL] at hc; omega)) | refine AW_ret ?_ | refine AW_exit ?_)) | ((with_reducible refine gS ?_); refine Es_s (T := Try.tab) rfl rfl rfl rfl ?_) | (((with_reducible refine gS ?_); apply Es_q); rfl; rfl; refine LStep_buildN (T := Try.tab) rfl rfl rfl rfl rfl rfl rfl) | (((with_reducible refine gS ?_); apply Es_xn); rfl; rfl; (refine LStep_storeN (T := Try.tab) rfl rfl rfl rfl rfl rfl rfl ?_ rfl; (refine Nat.le_of_ble_eq_true ?_; rfl)); rfl) | (with_reducible refine Es_nil ?_) | (with_reducible refine then_n ?_) | (with_reducible refine then_e ?_) | ((with_reducible refine block_e ?_ ?_); rfl) | ((with_reducible refine gRG ?_); first | refine retGa rfl ?_ | refine retGb rfl ?_ | refine retGc rfl ?_ | refine retG1 rfl rfl ?_ | refine endG1 rfl rfl ?_))
            all_goals try simp only [cmps] at *
            all_goals first
              | (exfalso; omega)
              | rfl
              | trace_state
  · rw [crossD_no hok, crV_none]
    have hok' : curOk f = true → curOk t = true → dayOk day = true → False := fun x y z => hok ⟨x, y, z⟩
    generalize curOk f = a at *
    generalize curOk t = b at *
    generalize dayOk day = e at *
    refine AC_enterG Try.tab Try.func16 rfl Try.ntmps16 (rv := [.cell 8 29, .tmp 9, .tmp 10]) rfl rfl (by simp) (fun w X G => ?_)
    repeat' (first | ((with_reducible refine gRc ?_); refine AW_nilD 1 9 rfl ?_) | ((with_reducible refine gA ?_); (first | refine AW_seq ?_ | refine AW_region ?_ | refine AW_condT rfl ?_ | (refine AW_cond rfl (fun hc => ?_) (fun hc => ?_) <;> try (exfalso; simp only [cmpL] at hc; omega)) | refine AW_ret ?_ | refine AW_skip ?_)) | ((with_reducible refine gS ?_); refine Es_s (T := Try.tab) rfl rfl rfl rfl ?_) | (((with_reducible refine gS ?_); apply Es_q); rfl; (first | rfl | (refine w_ff ?_; assumption)); (first | refine LStep_call (c1) rfl rfl rfl rfl | refine LStep_call (c2) rfl rfl rfl rfl)) | (((with_reducible refine gS ?_); apply Es_q); rfl; (first | rfl | (refine w_ff ?_; assumption)); (first | refine LStep_simp (T := Try.tab) rfl rfl | (refine LStep_pickT rfl rfl ?_ rfl rfl; assumption) | (refine LStep_pickF rfl rfl ?_ rfl rfl; assumption) | (refine LStep_lit (T := Try.tab) rfl rfl rfl rfl rfl rfl rfl rfl ?_; (refine Nat.le_of_ble_eq_true ?_; rfl)) | refine LStep_buildN (T := Try.tab) rfl rfl rfl rfl rfl rfl rfl)) | (refine Es_skip rfl ?_ rfl ?_; (first | rfl | (refine w_tf ?_; assumption) | (refine w_ft ?_; assumption))) | (((with_reducible refine gS ?_); apply Es_xs); rfl; rfl; refine LStep_allocN (T := Try.tab) rfl rfl rfl rfl rfl rfl; rfl) | (((with_reducible refine gS ?_); apply Es_xn); rfl; rfl; (refine LStep_storeN (T := Try.tab) rfl rfl rfl rfl rfl rfl rfl ?_ rfl; (refine Nat.le_of_ble_eq_true ?_; rfl)); rfl) | (refine Es_split rfl ?_ (fun _ => ?_) (fun _ => ?_); ((fail_if_success (refine und_t ?_; assumption)); (fail_if_success (refine und_f ?_; assumption)); exact trivial)) | (with_reducible refine Es_nil ?_) | (with_reducible refine then_n ?_) | (with_reducible refine then_r ?_) | ((with_reducible refine gRG ?_); first | refine retGa rfl ?_ | refine retGb rfl ?_ | refine retGc rfl ?_ | refine retG1 rfl rfl ?_ | refine endG1 rfl rfl ?_))
    all_goals try simp only [cmps] at *
    all_goals first
      | (exfalso; omega)
      | rfl
      | (exfalso; refine hok' (by assumption) (by assumption) (hdy.2 ⟨by omega, by omega⟩))
      | trace_state
end Go.Proofs.Ytnalpielhpmnfaa
