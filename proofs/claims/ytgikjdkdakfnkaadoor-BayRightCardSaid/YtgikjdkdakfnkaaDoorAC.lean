import Derived.Test.YtgikjdkdakfnkaaDoorA7
namespace Go.Proofs.YtgikjdkdakfnkaaDoor
open Go.SL
/-! ### a load is taken -/
def takeE (L : List Load) (n : ByteArray) : Int := match byB L n with
  | none => 4
  | some x => if (atS L ⟨x.sl.b, x.sl.r, x.sl.t + 1⟩).isSome = true then 6 else 0
def takeX (L : List Load) (n : ByteArray) : Load := if takeE L n = 0 then (byB L n).getD zL else zL
def takeL (L : List Load) (n : ByteArray) : List Load := if takeE L n = 0 then delL L ((byB L n).getD zL) else L
theorem tk_fin {S : Ship} {L L' : List Load} {n : ByteArray} {k : Int} {y : Load} {h' : Hp} (h1 : takeE L n = k) (h2 : takeX L n = y) (h3 : takeL L n = L') (h : SubH (hB S L') h') : AV.tup [.agg y.cs2, .d (.sc (.int .i64 k))] = .tup [.agg (takeX L n).cs2, .d (.sc (.int .i64 (takeE L n)))] ∧ SubH (hB S (takeL L n)) h' := by rw [h1, h2, h3]; exact ⟨rfl, h⟩
set_option maxRecDepth 10000 in
set_option maxHeartbeats 4000000 in
theorem take_ac (S : Ship) (L : List Load) (n : ByteArray) (hv : Inv S L) (hT : 0 ≤ wsum L ∧ wsum L ≤ 1048576) (ht : S.tiers ≤ 1048576) : AC Tryd.prog 27 [.ptr 1000 0, .d (.sc (.string n))] (hB S L) [1000, 1001, 1002] (fun r h' => r = .tup [.agg (takeX L n).cs2, .d (.sc (.int .i64 (takeE L n)))] ∧ SubH (hB S (takeL L n)) h') := by
  cases hf : byB L n with
  | none =>
    have hm := mfind_no (cv := loV) sV_keq hf
    have e1 : takeE L n = 4 := by unfold takeE; rw [hf]
    have e2 : takeX L n = zL := by unfold takeX; rw [e1]; rfl
    have e3 : takeL L n = L := by unfold takeL; rw [e1]; rfl
    refine AC_enterG Tryd.tab Tryd.func27 rfl Tryd.ntmps27 (rv := [.cell 4 38, .tmp 5]) rfl rfl (by simp) (fun w X G => ?_)
    repeat' (first | ((with_reducible refine gA ?_); (first | refine AW_seq ?_ | refine AW_region ?_ | refine AW_condT rfl ?_ | refine AW_ret ?_)) | ((with_reducible refine gS ?_); refine Es_s (T := Tryd.tab) rfl rfl rfl rfl ?_) | (((with_reducible refine gS ?_); apply Es_q); rfl; rfl; refine LStep_lookupNoZ (T := Tryd.tab) rfl rfl rfl rfl rfl rfl rfl rfl rfl rfl (s_keys _) hm) | (((with_reducible refine gS ?_); apply Es_q); rfl; rfl; refine LStep_buildN (T := Tryd.tab) rfl rfl rfl rfl rfl rfl rfl) | (refine Es_skip rfl ?_ rfl ?_; (first | rfl | (refine w_tf ?_; assumption) | (refine w_ft ?_; assumption))) | (((with_reducible refine gS ?_); apply Es_xs); rfl; rfl; refine LStep_allocN (T := Tryd.tab) rfl rfl rfl rfl rfl rfl; rfl) | (((with_reducible refine gS ?_); apply Es_xn); rfl; rfl; (refine LStep_storeN (T := Tryd.tab) rfl rfl rfl rfl rfl rfl rfl ?_ rfl; (refine Nat.le_of_ble_eq_true ?_; rfl)); rfl) | (with_reducible refine Es_nil ?_) | (with_reducible refine then_n ?_) | (with_reducible refine then_r ?_) | ((with_reducible refine gRG ?_); first | refine retGa rfl ?_ | refine retGb rfl ?_ | refine retGc rfl ?_ | refine retG1 rfl rfl ?_ | refine endG1 rfl rfl ?_))
    all_goals first
      | (refine tk_fin e1 e2 e3 ?_; unfold hB; (repeat' (first | exact trivial | exact rfl | (refine ⟨Or.inl rfl, ?_⟩) | (refine ⟨Or.inr rfl, ?_⟩) | (refine ⟨Or.inr trivial, ?_⟩) | (refine ⟨rfl, ?_⟩) | (refine ⟨?_, ?_⟩))); done)
      | trace_state
  | some x =>
    have hm := mfind_some (cv := loV) sV_keq hf
    obtain ⟨hx, hn⟩ := (byB_some hv.nB).1 hf
    have ho := hv.on x hx
    have hw := hv.ok x hx
    cases hq : atS L ⟨x.sl.b, x.sl.r, x.sl.t + 1⟩ with
    | some y =>
      have hm2 := mfind_some (cv := loV) slV_keq hq
      have e1 : takeE L n = 6 := by unfold takeE; rw [hf]; simp only [hq, Option.isSome_some, if_true]
      have e2 : takeX L n = zL := by unfold takeX; rw [e1]; rfl
      have e3 : takeL L n = L := by unfold takeL; rw [e1]; rfl
      refine AC_enterG Tryd.tab Tryd.func27 rfl Tryd.ntmps27 (rv := [.cell 4 38, .tmp 5]) rfl rfl (by simp) (fun w X G => ?_)
      repeat' (first | ((with_reducible refine gA ?_); (first | refine AW_seq ?_ | refine AW_region ?_ | refine AW_regionD Tryd.mixed ?_ | refine AW_condT rfl ?_ | refine AW_condF rfl ?_ | refine AW_ret ?_ | refine AW_skip ?_)) | (first | ((with_reducible refine gS ?_); refine Es_s (T := Tryd.tab) rfl rfl rfl rfl ?_) | ((with_reducible refine gD ?_); refine Ed_s (T := Tryd.tab) rfl rfl rfl rfl ?_)) | ((first | ((with_reducible refine gS ?_); apply Es_q) | ((with_reducible refine gD ?_); apply Ed_q)); rfl; rfl; (first | refine LStep_lookupOk (T := Tryd.tab) rfl rfl rfl rfl rfl rfl rfl rfl (s_keys _) hm | refine LStep_lookupOk (T := Tryd.tab) rfl rfl rfl keySl rfl rfl rfl rfl (sl_keys _) hm2)) | ((first | ((with_reducible refine gS ?_); apply Es_q) | ((with_reducible refine gD ?_); apply Ed_q)); rfl; rfl; (first | (refine LStep_add rfl rfl rfl rfl ?_; (refine IntWalk.i64_in _ ?_; first | omega | (simp only [cmps] at *; omega))) | refine LStep_buildN (T := Tryd.tab) rfl rfl rfl rfl rfl rfl rfl)) | ((first | refine Es_skip rfl ?_ rfl ?_ | refine Ed_skip rfl ?_ rfl ?_); (first | rfl | (refine w_tf ?_; assumption) | (refine w_ft ?_; assumption))) | ((first | ((with_reducible refine gS ?_); apply Es_xs) | ((with_reducible refine gD ?_); apply Ed_xs)); rfl; rfl; refine LStep_allocN (T := Tryd.tab) rfl rfl rfl rfl rfl rfl; rfl) | ((first | ((with_reducible refine gS ?_); apply Es_xn) | ((with_reducible refine gD ?_); apply Ed_xn)); rfl; rfl; (refine LStep_storeN (T := Tryd.tab) rfl rfl rfl rfl rfl rfl rfl ?_ rfl; (refine Nat.le_of_ble_eq_true ?_; rfl)); rfl) | (with_reducible refine Es_nil ?_) | ((with_reducible refine Ed_nil ?_ ?_); kernel_rfl) | (with_reducible refine then_n ?_) | (with_reducible refine then_r ?_) | ((with_reducible refine gRG ?_); first | refine retGa rfl ?_ | refine retGb rfl ?_ | refine retGc rfl ?_ | refine retG1 rfl rfl ?_ | refine endG1 rfl rfl ?_))
      all_goals first
        | (refine tk_fin e1 e2 e3 ?_; unfold hB; (repeat' (first | exact trivial | exact rfl | (refine ⟨Or.inl rfl, ?_⟩) | (refine ⟨Or.inr rfl, ?_⟩) | (refine ⟨Or.inr trivial, ?_⟩) | (refine ⟨rfl, ?_⟩) | (refine ⟨?_, ?_⟩))); done)
        | trace_state
    | none =>
      have hm2 := mfind_no (cv := loV) slV_keq hq
      have e1 : takeE L n = 0 := by unfold takeE; rw [hf]; simp only [hq, Option.isSome_none, Bool.false_eq_true, if_false]
      have e2 : takeX L n = x := by unfold takeX; rw [e1, hf]; rfl
      have e3 : takeL L n = delL L x := by unfold takeL; rw [e1, hf]; rfl
      have d1 : mdel (slV x.sl) (emap slV loV (slM L)) = emap slV loV (slM (delL L x)) := by rw [mdel_emap slV_keq, del_slM hv.nS hx]
      have d2 : mdel (sV n) (emap sV loV (nmM L)) = emap sV loV (nmM (delL L x)) := by rw [mdel_emap sV_keq, ← hn, del_nmM hv.nB hx]
      have d3 : wsum L - x.w = wsum (delL L x) := by
        have := wsum_perm (del_perm (nodup_of_map hv.nS) hx)
        rw [wsum_cons] at this
        omega
      refine AC_enterG Tryd.tab Tryd.func27 rfl Tryd.ntmps27 (rv := [.cell 4 38, .tmp 5]) rfl rfl (by simp) (fun w X G => ?_)
      repeat' (first | ((with_reducible refine gA ?_); (first | refine AW_seq ?_ | refine AW_region ?_ | refine AW_regionD Tryd.mixed ?_ | refine AW_condF rfl ?_ | refine AW_ret ?_ | refine AW_skip ?_)) | (first | ((with_reducible refine gS ?_); refine Es_s (T := Tryd.tab) rfl rfl rfl rfl ?_) | ((with_reducible refine gD ?_); refine Ed_s (T := Tryd.tab) rfl rfl rfl rfl ?_)) | ((first | ((with_reducible refine gS ?_); apply Es_q) | ((with_reducible refine gD ?_); apply Ed_q)); rfl; rfl; (first | refine LStep_lookupOk (T := Tryd.tab) rfl rfl rfl rfl rfl rfl rfl rfl (s_keys _) hm | refine LStep_lookupNoZ (T := Tryd.tab) rfl rfl rfl keySl rfl rfl rfl rfl rfl rfl (sl_keys _) hm2)) | ((first | ((with_reducible refine gS ?_); apply Es_xn) | ((with_reducible refine gD ?_); apply Ed_xn)); rfl; rfl; (first | refine LStep_delete (T := Tryd.tab) rfl rfl rfl rfl rfl rfl rfl rfl (s_keys _) (fun _ _ _ h => by cases h) | refine LStep_delete (T := Tryd.tab) rfl rfl rfl keySl rfl rfl rfl rfl (sl_keys _) (fun _ _ _ h => by cases h)); rfl) | ((first | ((with_reducible refine gS ?_); apply Es_q) | ((with_reducible refine gD ?_); apply Ed_q)); rfl; rfl; (first | (refine LStep_add rfl rfl rfl rfl ?_; (refine IntWalk.i64_in _ ?_; first | omega | (simp only [cmps] at *; omega))) | (refine LStep_sub rfl rfl rfl rfl ?_; (refine IntWalk.i64_in _ ?_; first | omega | (simp only [cmps] at *; omega))))) | ((first | refine Es_skip rfl ?_ rfl ?_ | refine Ed_skip rfl ?_ rfl ?_); (first | rfl | (refine w_tf ?_; assumption) | (refine w_ft ?_; assumption))) | ((first | ((with_reducible refine gS ?_); apply Es_xs) | ((with_reducible refine gD ?_); apply Ed_xs)); rfl; rfl; refine LStep_allocN (T := Tryd.tab) rfl rfl rfl rfl rfl rfl; rfl) | ((first | ((with_reducible refine gS ?_); apply Es_xn) | ((with_reducible refine gD ?_); apply Ed_xn)); rfl; rfl; (refine LStep_storeN (T := Tryd.tab) rfl rfl rfl rfl rfl rfl rfl ?_ rfl; (refine Nat.le_of_ble_eq_true ?_; rfl)); rfl) | (with_reducible refine Es_nil ?_) | ((with_reducible refine Ed_nil ?_ ?_); kernel_rfl) | (with_reducible refine then_n ?_) | ((with_reducible refine gRG ?_); first | refine retGa rfl ?_ | refine retGb rfl ?_ | refine retGc rfl ?_ | refine retG1 rfl rfl ?_ | refine endG1 rfl rfl ?_))
      all_goals first
        | (refine tk_fin e1 e2 e3 ?_
           unfold hB
           rw [← d1, ← d2, ← d3]
           (repeat' (first | exact trivial | exact rfl | (refine ⟨Or.inl rfl, ?_⟩) | (refine ⟨Or.inr rfl, ?_⟩) | (refine ⟨Or.inr trivial, ?_⟩) | (refine ⟨rfl, ?_⟩) | (refine ⟨?_, ?_⟩))); done)
        | trace_state
end Go.Proofs.YtgikjdkdakfnkaaDoor
