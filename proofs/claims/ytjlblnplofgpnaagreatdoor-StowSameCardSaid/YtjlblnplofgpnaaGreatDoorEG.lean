import Derived.Test.YtjlblnplofgpnaaGreatDoorEE
namespace Go.Proofs.YtjlblnplofgpnaaGreatDoor
open Go.SL
/-! ### StowSame -/
def mixL (f : Load → Load) (M : List Load) (i : Nat) : List Load := (M.take i).map f ++ M.drop i
theorem mixL_zero (f : Load → Load) (M : List Load) : mixL f M 0 = M := by unfold mixL; simp
theorem mixL_all (f : Load → Load) (M : List Load) : mixL f M M.length = M.map f := by unfold mixL; simp
theorem mixL_len (f : Load → Load) (M : List Load) {i : Nat} (hi : i ≤ M.length) : (mixL f M i).length = M.length := by unfold mixL; simp; omega
theorem mixL_at {f : Load → Load} {M : List Load} {i : Nat} {x : Load} (hx : M[i]? = some x) : (mixL f M i)[i]? = some x := by
  have hlt := (List.getElem?_eq_some_iff.1 hx).1
  unfold mixL
  rw [List.getElem?_append_right (by simp; omega)]
  have : ((M.take i).map f).length = i := by simp; omega
  rw [this, Nat.sub_self, List.getElem?_drop]
  simpa using hx
theorem mixL_set {f : Load → Load} {M : List Load} {i : Nat} {x : Load} (hx : M[i]? = some x) : ((mixL f M i).map Load.enc).set i (f x).enc = (mixL f M (i + 1)).map Load.enc := by
  obtain ⟨hlt, e⟩ := List.getElem?_eq_some_iff.1 hx
  rw [← List.map_set]
  congr 1
  unfold mixL
  have hl : ((M.take i).map f).length = i := by simp; omega
  rw [List.set_append_right _ _ (by omega), hl, Nat.sub_self, List.drop_eq_getElem_cons hlt, List.set_cons_zero, take_at hx, List.map_append, List.append_assoc]
  rfl
theorem eraseN {α : Type} (l : List α) (k : Nat) : (l.drop k ++ l.take k).Perm l := List.perm_append_comm.trans (by rw [List.take_append_drop])
def sameR (S : Ship) (l : List Load) : List Load × List ByteArray × Int := if planE S l = 0 then (lsort (planL S (bN S) (rN S) l), sortS (planO S (bN S) (rN S) l), 0) else ([], [], planE S l)
theorem planR_same (S : Ship) (l : List Load) : planR S l = .tup [.d (.sl 7 ((sameR S l).1.map Load.enc)), .d (.sl 1 ((sameR S l).2.1.map sN)), .d (.sc (.int .i64 (sameR S l).2.2))] := by
  unfold planR sameR
  split <;> rfl
theorem sameR_eq {S : Ship} {l m : List Load} (hp : (l.map bare).Perm (m.map bare)) : sameR S m = sameR S l := by
  unfold sameR
  rw [← planE_same hp]
  by_cases hE : planE S l = 0
  · rw [if_pos hE, if_pos hE]
    have hP := planned hE
    obtain ⟨h1, h2⟩ := plan_same (S := S) (B := bN S) (R := rN S) hp hP.nd
    rw [h1, h2]
  · rw [if_neg hE, if_neg hE]
theorem sameR_len {S : Ship} {l : List Load} : (sameR S l).1.length + (sameR S l).2.1.length ≤ l.length := by
  unfold sameR
  split
  · rename_i h
    exact Nat.le_of_eq (planned h).len
  · simp
set_option maxRecDepth 10000 in
set_option maxHeartbeats 16000000 in
theorem same_ac (S : Ship) (l : List Load) (turn : Int) (s : Sl) (hl : l.length ≤ 140737488351232) : AC Tryz.prog 6 [.agg S.cs, .d (.sl 7 (l.map Load.enc)), .d (.sc (.int .i64 turn)), slA s] [hG] [9000] (fun r h' => r = .d (.sc (.bool true)) ∧ SubH [hG] h') := by
  have ca := wakeK_ac
  have c0 := rFew_ac S l hl
  cases e0 : (fewL l && fewS S) with
  | false =>
    rw [e0] at c0
    refine AC_enter Tryz.func6 rfl Tryz.ntmps6 (rv := [.tmp 8]) rfl rfl (by simp) (fun w X G => ?_)
    repeat' (first | ((with_reducible refine gA ?_); (first | refine AW_seq ?_ | refine AW_region ?_ | refine AW_condT rfl ?_ | refine AW_condF rfl ?_ | refine AW_ret ?_ | refine AW_skip ?_)) | ((with_reducible refine gS ?_); refine Es_s (T := Tryz.tab) rfl rfl rfl rfl ?_) | (((with_reducible refine gS ?_); apply Es_q); rfl; rfl; (first | refine LStep_call (c0) rfl rfl rfl rfl | refine LStep_callB ca rfl rfl ⟨rfl, trivial⟩ rfl rfl)) | (refine Es_skip rfl ?_ rfl ?_; (first | rfl | (refine w_tf ?_; assumption) | (refine w_ft ?_; assumption))) | (((with_reducible refine gS ?_); apply Es_xs); rfl; rfl; refine LStep_boxN rfl rfl rfl rfl rfl rfl; rfl) | (with_reducible refine Es_nil ?_) | (with_reducible refine then_n ?_) | (with_reducible refine then_r ?_) | ((with_reducible refine gR ?_); first | refine ret1 rfl ?_ | refine ret2 rfl rfl ?_ | refine ret0 ?_ | refine end1 rfl ?_ | refine end0 ?_))
    all_goals first
      | exact ⟨rfl, by (repeat' (first | exact trivial | exact rfl | (refine ⟨Or.inl rfl, ?_⟩) | (refine ⟨Or.inr rfl, ?_⟩) | (refine ⟨Or.inr trivial, ?_⟩) | (refine ⟨rfl, ?_⟩) | (refine ⟨?_, ?_⟩)))⟩
      | trace_state
  | true =>
  rw [e0] at c0
  obtain ⟨h1, h2, h3⟩ := few_in e0
  by_cases ht : 0 ≤ turn ∧ turn ≤ (l.length : Nat)
  · obtain ⟨k, rfl⟩ := Int.eq_ofNat_of_zero_le ht.1
    have hk : k ≤ l.length := by omega
    have g1 : ltb (k : Nat) 0 = false := by rw [ltb_f]; omega
    have g2 : ltb (l.length : Nat) (k : Nat) = false := by rw [ltb_f]; omega
    have eM : [] ++ ((l.take (((l.map Load.enc).length : Nat) : Int).toNat).drop ((k : Nat) : Int).toNat).map Load.enc ++ ((l.take ((k : Nat) : Int).toNat).drop (0 : Int).toNat).map Load.enc = (l.drop k ++ l.take k).map Load.enc := by simp
    have hMp := eraseN l k
    have hMl := hMp.length_eq
    have hb1 : ((l.take ((l.length : Nat) : Int).toNat).drop ((k : Nat) : Int).toNat).length ≤ 20 := by simp; omega
    have hb2 : ((l.take ((k : Nat) : Int).toNat).drop (0 : Int).toNat).length ≤ 20 := by simp; omega
    refine AC_enter Tryz.func6 rfl Tryz.ntmps6 (rv := [.tmp 8]) rfl rfl (by simp) (fun w X G => ?_)
    repeat' (first | ((with_reducible refine gA ?_); (first | refine AW_seq ?_ | refine AW_region ?_ | refine AW_regionD Tryz.mixed ?_ | refine AW_condF rfl ?_ | (refine AW_condN rfl ?_ ?_; assumption) | refine AW_block ?_ | refine AW_skip ?_)) | (first | ((with_reducible refine gS ?_); refine Es_s (T := Tryz.tab) rfl rfl rfl rfl ?_) | ((with_reducible refine gD ?_); refine Ed_s (T := Tryz.tab) rfl rfl rfl rfl ?_)) | ((first | ((with_reducible refine gS ?_); apply Es_q) | ((with_reducible refine gD ?_); apply Ed_q)); rfl; (first | rfl | (refine w_ff ?_; assumption)); (first | refine LStep_call (c0) rfl rfl rfl rfl | refine LStep_callB ca rfl rfl ⟨rfl, trivial⟩ rfl rfl)) | ((first | ((with_reducible refine gS ?_); apply Es_xs) | ((with_reducible refine gD ?_); apply Ed_xs)); rfl; (first | rfl | (refine w_ff ?_; assumption)); (first | (refine LStep_litOwn (T := Tryz.tab) (len := 0) rfl rfl rfl rfl rfl rfl rfl rfl rfl rfl ?_ ?_; (refine Nat.le_of_ble_eq_true ?_; rfl); (unfold maxLen; omega)) | (refine LStep_append (T := Tryz.tab) rfl rfl rfl rfl rfl rfl rfl rfl rfl rfl ?_ ?_ ?_; rfl; (simp only [List.length_map, List.length_nil, List.length_cons, List.length_append]; omega); (unfold maxLen; simp only [List.length_map, List.length_nil, List.length_cons, List.length_append]; omega))); rfl) | ((first | ((with_reducible refine gS ?_); apply Es_q) | ((with_reducible refine gD ?_); apply Ed_q)); rfl; (first | rfl | (refine w_ff ?_; assumption)); (first | refine LStep_simp (T := Tryz.tab) rfl rfl | refine LStep_lenM (T := Tryz.tab) rfl rfl rfl rfl | (refine LStep_pickF rfl rfl ?_ rfl rfl; assumption) | (refine LStep_partM (T := Tryz.tab) rfl rfl rfl rfl rfl rfl rfl ?_ ?_ ?_; omega; (first | omega | (simp only [List.length_map]; omega)); (first | omega | (simp only [List.length_map]; omega))))) | (refine Es_skip rfl ?_ rfl ?_; (first | rfl | (refine w_tf ?_; assumption) | (refine w_ft ?_; assumption))) | (((with_reducible refine gS ?_); apply Es_xs); rfl; rfl; refine LStep_boxN rfl rfl rfl rfl rfl rfl; rfl) | (with_reducible refine Es_nil ?_) | ((with_reducible refine Ed_nil ?_ ?_); kernel_rfl) | (with_reducible refine then_n ?_))
    have z0 : (mixL (fun y => atL y s) (l.drop k ++ l.take k) 0).map Load.enc = [] ++ ((l.take (((l.map Load.enc).length : Nat) : Int).toNat).drop ((k : Nat) : Int).toNat).map Load.enc ++ ((l.take ((k : Nat) : Int).toNat).drop (0 : Int).toNat).map Load.enc := by rw [mixL_zero, eM]
    generalize l.drop k ++ l.take k = M at *
    refine AW_forE (S := Nat) (fun i => i ≤ M.length) (fun i => [(10, .d (.sc (.int .i64 (i : Nat)))), (9, .own 33 ((mixL (fun y => atL y s) M i).map Load.enc).length)]) (fun i => [(33, some (.arr 43 7 ((mixL (fun y => atL y s) M i).map Load.enc)))]) (fun i => M.length - i) 0 (by omega) (by rw [z0]; (repeat' (first | exact trivial | exact rfl | (refine ⟨Or.inl rfl, ?_⟩) | (refine ⟨Or.inr rfl, ?_⟩) | (refine ⟨Or.inr trivial, ?_⟩) | (refine ⟨rfl, ?_⟩) | (refine ⟨?_, ?_⟩)))) (by rw [z0]; (repeat' (first | exact trivial | exact rfl | (refine ⟨Or.inl rfl, ?_⟩) | (refine ⟨Or.inr rfl, ?_⟩) | (refine ⟨Or.inr trivial, ?_⟩) | (refine ⟨rfl, ?_⟩) | (refine ⟨?_, ?_⟩)))) ?_
    intro i hi
    have hml := mixL_len (fun y => atL y s) M hi
    by_cases hlt : i < M.length
    · obtain ⟨x, hx, _⟩ := drop_at hlt
      have hxi := mixL_at (f := fun y => atL y s) hx
      have hst := mixL_set (f := fun y => atL y s) hx
      have g3 : ltb (i : Nat) (((mixL (fun y => atL y s) M i).map Load.enc).length : Nat) = true := by rw [ltb_t, List.length_map]; omega
      have hlen : ((mixL (fun y => atL y s) M i).map Load.enc).length = ((mixL (fun y => atL y s) M (i + 1)).map Load.enc).length := by rw [List.length_map, List.length_map, hml, mixL_len _ _ (by omega)]
      generalize hL' : (mixL (fun y => atL y s) M (i + 1)).map Load.enc = L' at *
      generalize mixL (fun y => atL y s) M i = L at *
      clear z0 eM
      repeat' (first | ((with_reducible refine gA ?_); (first | refine AW_seq ?_ | refine AW_region ?_ | (refine AW_condY rfl ?_ ?_; assumption) | refine AW_block ?_ | refine AW_skip ?_)) | ((with_reducible refine gS ?_); refine Es_s (T := Tryz.tab) rfl rfl rfl rfl ?_) | (((with_reducible refine gS ?_); apply Es_q); rfl; rfl; (first | refine LStep_lenOwn (T := Tryz.tab) rfl rfl rfl rfl rfl rfl | (refine LStep_indexOwnM (T := Tryz.tab) rfl rfl rfl rfl rfl rfl rfl rfl ?_; (first | omega | (simp only [List.length_map]; omega))) | refine LStep_fieldAddrE (T := Tryz.tab) rfl rfl rfl rfl _ _ rfl rfl)) | (((with_reducible refine gS ?_); apply Es_xn); rfl; rfl; (refine LStep_storeEM (T := Tryz.tab) (c := ?_) rfl rfl rfl rfl rfl rfl rfl rfl rfl ?_ rfl; rotate_left; assumption); rfl) | (((with_reducible refine gS ?_); apply Es_q); rfl; rfl; (refine LStep_add rfl rfl rfl rfl ?_; (refine IntWalk.i64_in _ ?_; first | omega | (simp only [cmps] at *; omega)))) | (with_reducible refine Es_nil ?_) | (with_reducible refine then_n ?_) | (with_reducible refine block_n ?_))
      all_goals first
        | (refine ⟨i + 1, by omega, by omega, ?_, by (repeat' (first | exact trivial | exact rfl | (refine ⟨Or.inl rfl, ?_⟩) | (refine ⟨Or.inr rfl, ?_⟩) | (refine ⟨Or.inr trivial, ?_⟩) | (refine ⟨rfl, ?_⟩) | (refine ⟨?_, ?_⟩))), ?_, by (repeat' (first | exact trivial | exact rfl | (refine ⟨Or.inl rfl, ?_⟩) | (refine ⟨Or.inr rfl, ?_⟩) | (refine ⟨Or.inr trivial, ?_⟩) | (refine ⟨rfl, ?_⟩) | (refine ⟨?_, ?_⟩)))⟩
           · rw [hL', ← hlen]; (repeat' (first | exact trivial | exact rfl | (refine ⟨Or.inl rfl, ?_⟩) | (refine ⟨Or.inr rfl, ?_⟩) | (refine ⟨Or.inr trivial, ?_⟩) | (refine ⟨rfl, ?_⟩) | (refine ⟨?_, ?_⟩)))
           · rw [hL', ← hst]; (repeat' (first | exact trivial | exact rfl | (refine ⟨Or.inl rfl, ?_⟩) | (refine ⟨Or.inr rfl, ?_⟩) | (refine ⟨Or.inr trivial, ?_⟩) | (refine ⟨rfl, ?_⟩) | (refine ⟨?_, ?_⟩))))
        | trace_state
    · have : i = M.length := by omega
      subst this
      rw [mixL_all]
      have hmm : (l.map bare).Perm ((M.map fun y => atL y s).map bare) := by
        rw [List.map_map]
        exact (hMp.map bare).symm
      have c1 := plan_ac S l (by omega)
      have c2 := plan_ac S (M.map fun y => atL y s) (by rw [List.length_map]; omega)
      rw [planR_same] at c1 c2
      rw [sameR_eq hmm] at c2
      have hsr := sameR_len (S := S) (l := l)
      have c3 := rSame_ac (sameR S l).1 (sameR S l).1 (by omega)
      rw [llE_eq, decide_eq_true rfl] at c3
      have c4 := rTexts_ac (sameR S l).2.1 (sameR S l).2.1 (by omega) (by omega)
      rw [decide_eq_true rfl] at c4
      have f1 := eqb_self (sameR S l).2.2
      generalize (sameR S l).1 = D1 at *
      generalize (sameR S l).2.1 = W at *
      generalize (sameR S l).2.2 = e at *
      have hml' : (M.map fun y => atL y s).length = M.length := List.length_map _
      generalize (M.map fun y => atL y s) = m at *
      have g3 : ltb (M.length : Nat) ((m.map Load.enc).length : Nat) = false := by rw [ltb_f, List.length_map, hml']; omega
      clear z0 eM hmm
      refine AW_freeze [9] (id := 33) ⟨rfl, trivial⟩ rfl rfl ?_
      have g4 : ltb (M.length : Nat) (m.length : Nat) = false := by rw [ltb_f, hml']; omega
      repeat' (first | ((with_reducible refine gA ?_); (first | refine AW_seq ?_ | refine AW_region ?_ | (refine AW_condN rfl ?_ ?_; assumption) | refine AW_ret ?_ | refine AW_exit ?_)) | ((with_reducible refine gS ?_); refine Es_s (T := Tryz.tab) rfl rfl rfl rfl ?_) | (((with_reducible refine gS ?_); apply Es_q); rfl; rfl; (first | refine LStep_call (c3) rfl rfl rfl rfl | refine LStep_call (c4) rfl rfl rfl rfl)) | (((with_reducible refine gS ?_); apply Es_xg); rfl; rfl; (first | refine LStep_callHN [] [] c1 rfl rfl ⟨rfl, trivial⟩ rfl ⟨trivial, trivial⟩ rfl rfl | refine LStep_callHN [] [] c2 rfl rfl ⟨rfl, trivial⟩ rfl ⟨trivial, trivial⟩ rfl rfl); rfl) | (((with_reducible refine gS ?_); apply Es_q); rfl; rfl; (first | refine LStep_simp (T := Tryz.tab) rfl rfl | refine LStep_lenM (T := Tryz.tab) rfl rfl rfl rfl)) | (with_reducible refine Es_nil ?_) | (with_reducible refine then_n ?_) | (with_reducible refine then_e ?_) | ((with_reducible refine block_e ?_ ?_); rfl) | ((with_reducible refine gR ?_); first | refine ret1 rfl ?_ | refine ret2 rfl rfl ?_ | refine ret0 ?_ | refine end1 rfl ?_ | refine end0 ?_))
      all_goals first
        | exact ⟨rfl, by (repeat' (first | exact trivial | exact rfl | (refine ⟨Or.inl rfl, ?_⟩) | (refine ⟨Or.inr rfl, ?_⟩) | (refine ⟨Or.inr trivial, ?_⟩) | (refine ⟨rfl, ?_⟩) | (refine ⟨?_, ?_⟩)))⟩
        | (refine ⟨?_, ?_⟩; (refine congrArg (fun b => AV.d (D.sc (Value.bool b))) ?_; exact f1); (repeat' (first | exact trivial | exact rfl | (refine ⟨Or.inl rfl, ?_⟩) | (refine ⟨Or.inr rfl, ?_⟩) | (refine ⟨Or.inr trivial, ?_⟩) | (refine ⟨rfl, ?_⟩) | (refine ⟨?_, ?_⟩))))
        | trace_state
  · refine AC_enter Tryz.func6 rfl Tryz.ntmps6 (rv := [.tmp 8]) rfl rfl (by simp) (fun w X G => ?_)
    repeat' (first | ((with_reducible refine gA ?_); (first | refine AW_seq ?_ | refine AW_region ?_ | refine AW_regionD Tryz.mixed ?_ | refine AW_condT rfl ?_ | refine AW_condF rfl ?_ | (refine AW_cond rfl (fun hc => ?_) (fun hc => ?_) <;> try (exfalso; simp only [cmpL] at hc; omega)) | refine AW_ret ?_ | refine AW_skip ?_)) | (first | ((with_reducible refine gS ?_); refine Es_s (T := Tryz.tab) rfl rfl rfl rfl ?_) | ((with_reducible refine gD ?_); refine Ed_s (T := Tryz.tab) rfl rfl rfl rfl ?_)) | ((first | ((with_reducible refine gS ?_); apply Es_q) | ((with_reducible refine gD ?_); apply Ed_q)); rfl; (first | rfl | (refine w_ff ?_; assumption)); (first | refine LStep_call (c0) rfl rfl rfl rfl | refine LStep_callB ca rfl rfl ⟨rfl, trivial⟩ rfl rfl)) | ((first | ((with_reducible refine gS ?_); apply Es_q) | ((with_reducible refine gD ?_); apply Ed_q)); rfl; (first | rfl | (refine w_ff ?_; assumption)); (first | refine LStep_simp (T := Tryz.tab) rfl rfl | refine LStep_lenM (T := Tryz.tab) rfl rfl rfl rfl | (refine LStep_pickT rfl rfl ?_ rfl rfl; assumption) | (refine LStep_pickF rfl rfl ?_ rfl rfl; assumption) | (refine LStep_lit (T := Tryz.tab) rfl rfl rfl rfl rfl rfl rfl rfl ?_; (refine Nat.le_of_ble_eq_true ?_; rfl)))) | ((first | refine Es_skip rfl ?_ rfl ?_ | refine Ed_skip rfl ?_ rfl ?_); (first | rfl | (refine w_tf ?_; assumption) | (refine w_ft ?_; assumption))) | ((first | ((with_reducible refine gS ?_); apply Es_xs) | ((with_reducible refine gD ?_); apply Ed_xs)); rfl; rfl; refine LStep_boxN rfl rfl rfl rfl rfl rfl; rfl) | (refine Es_split rfl ?_ (fun _ => ?_) (fun _ => ?_); ((fail_if_success (refine und_t ?_; assumption)); (fail_if_success (refine und_f ?_; assumption)); exact trivial)) | (with_reducible refine Es_nil ?_) | (with_reducible refine then_n ?_) | (with_reducible refine then_r ?_) | ((with_reducible refine gR ?_); first | refine ret1 rfl ?_ | refine ret2 rfl rfl ?_ | refine ret0 ?_ | refine end1 rfl ?_ | refine end0 ?_))
    all_goals simp only [cmps] at *
    all_goals first
      | (exfalso; omega)
      | exact ⟨rfl, by (repeat' (first | exact trivial | exact rfl | (refine ⟨Or.inl rfl, ?_⟩) | (refine ⟨Or.inr rfl, ?_⟩) | (refine ⟨Or.inr trivial, ?_⟩) | (refine ⟨rfl, ?_⟩) | (refine ⟨?_, ?_⟩)))⟩
      | exact ⟨trivial, by (repeat' (first | exact trivial | exact rfl | (refine ⟨Or.inl rfl, ?_⟩) | (refine ⟨Or.inr rfl, ?_⟩) | (refine ⟨Or.inr trivial, ?_⟩) | (refine ⟨rfl, ?_⟩) | (refine ⟨?_, ?_⟩)))⟩
      | trace_state
end Go.Proofs.YtjlblnplofgpnaaGreatDoor
