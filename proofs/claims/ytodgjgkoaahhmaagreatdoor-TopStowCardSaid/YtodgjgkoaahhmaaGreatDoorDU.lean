import Derived.Test.YtodgjgkoaahhmaaGreatDoorDN
import Derived.Test.YtodgjgkoaahhmaaGreatDoorTk
import Derived.Test.YtodgjgkoaahhmaaGreatDoorA7
namespace Go.Proofs.YtodgjgkoaahhmaaGreatDoor
open Go.SL
/-! ### Plan -/
def bN (S : Ship) : Nat := S.bays.toNat
def rN (S : Ship) : Nat := S.rows.toNat
def planR (S : Ship) (l : List Load) : AV := if planE S l = 0 then .tup [.d (.sl 7 ((lsort (planL S (bN S) (rN S) l)).map Load.enc)), .d (.sl 1 ((sortS (planO S (bN S) (rN S) l)).map sN)), .d (.sc (.int .i64 0))] else .tup [.d (.sl 7 []), .d (.sl 1 []), .d (.sc (.int .i64 (planE S l)))]
theorem planR_no {S : Ship} {l : List Load} (h : planE S l ≠ 0) : planR S l = .tup [.d (.sl 7 []), .d (.sl 1 []), .d (.sc (.int .i64 (planE S l)))] := by unfold planR; rw [if_neg h]
theorem planR_yes {S : Ship} {l : List Load} (h : planE S l = 0) : planR S l = .tup [.d (.sl 7 ((lsort (planL S (bN S) (rN S) l)).map Load.enc)), .d (.sl 1 ((sortS (planO S (bN S) (rN S) l)).map sN)), .d (.sc (.int .i64 0))] := by unfold planR; rw [if_pos h]
theorem invMom {S : Ship} {L : List Load} (hv : Inv2 S L) (hS : shipOk S = true) (hl : L.length ≤ 4096) : (-137438953472 ≤ sLong S L ∧ sLong S L ≤ 137438953472) ∧ (-137438953472 ≤ sCross S L ∧ sCross S L ≤ 137438953472) := by
  have h := fit_inv hv hS hl
  unfold fitL at h
  simp only [Bool.and_eq_true, decide_eq_true_eq, List.all_eq_true] at h
  have hb := moms_in hS h.2.2.1 hl
  exact ⟨hb.1, hb.2.1⟩
theorem loadsK_ac (S : Ship) (L : List Load) (hn : (L.map (·.sl)).Nodup) (hl : L.length ≤ 1048576) : AC Tryz.prog 17 [.ptr 1000 0] (hB S L) [1000, 1001, 1002]
    (fun r h' => r = .d (.sl 7 ((lsort L).map Load.enc)) ∧ Kp (hB S L) h') := (loads_ac S L (lsort L) (lsort_doc hn) hn hl).mono (fun _ _ h => ⟨h.1, Kp.sub h.2⟩)
def planEnd (S : Ship) (L : List Load) (out : List ByteArray) (r : AV) : Prop := r = .tup [.d (.sl 7 ((lsort L).map Load.enc)), .d (.sl 1 ((sortS out).map sN)), .d (.sc (.int .i64 0))]
set_option maxRecDepth 10000 in
set_option maxHeartbeats 8000000 in
theorem plan_ac (S : Ship) (l : List Load) (hl : l.length ≤ 20) : AC Tryz.prog 7 [.agg S.cs, .d (.sl 7 (l.map Load.enc))] [hG] [9000] (fun r h' => r = planR S l ∧ SubH [hG] h') := by
  have c1 := mayAll_ac S l (by omega)
  have c2 := twice_ac l (by omega)
  cases e1 : mayAllB S l with
  | false =>
    have hE : planE S l = 1 := by unfold planE; rw [e1]; rfl
    rw [planR_no (by rw [hE]; decide), hE]
    rw [e1] at c1
    refine AC_enter Tryz.func7 rfl Tryz.ntmps7 (rv := [.tmp 4, .tmp 5, .tmp 6]) rfl rfl (by simp) (fun w X G => ?_)
    repeat' (first | ((with_reducible refine gRc ?_); first | refine AW_nilD 7 4 rfl ?_ | refine AW_nilD 1 5 rfl ?_) | ((with_reducible refine gA ?_); (first | refine AW_seq ?_ | refine AW_region ?_ | refine AW_condT rfl ?_ | refine AW_block ?_ | refine AW_ret ?_)) | ((with_reducible refine gS ?_); refine Es_s (T := Tryz.tab) rfl rfl rfl rfl ?_) | (((with_reducible refine gS ?_); apply Es_xg); rfl; rfl; refine LStep_callHN [] [] c1 rfl rfl ⟨rfl, trivial⟩ rfl ⟨trivial, trivial⟩ rfl rfl; rfl) | (refine Es_skip rfl ?_ rfl ?_; (first | rfl | (refine w_tf ?_; assumption) | (refine w_ft ?_; assumption))) | (((with_reducible refine gS ?_); apply Es_xs); rfl; rfl; refine LStep_boxN rfl rfl rfl rfl rfl rfl; rfl) | (with_reducible refine Es_nil ?_) | (with_reducible refine then_n ?_) | (with_reducible refine then_r ?_) | (with_reducible refine block_r ?_))
    all_goals first
      | exact ⟨rfl, by (repeat' (first | exact trivial | exact rfl | (refine ⟨Or.inl rfl, ?_⟩) | (refine ⟨Or.inr rfl, ?_⟩) | (refine ⟨Or.inr trivial, ?_⟩) | (refine ⟨rfl, ?_⟩) | (refine ⟨?_, ?_⟩)))⟩
      | trace_state
  | true =>
  rw [e1] at c1
  cases e2 : twiceB l with
  | true =>
    have hE : planE S l = 5 := by unfold planE; rw [e1, e2]; rfl
    rw [planR_no (by rw [hE]; decide), hE]
    rw [e2] at c2
    refine AC_enter Tryz.func7 rfl Tryz.ntmps7 (rv := [.tmp 4, .tmp 5, .tmp 6]) rfl rfl (by simp) (fun w X G => ?_)
    repeat' (first | ((with_reducible refine gRc ?_); first | refine AW_nilD 7 4 rfl ?_ | refine AW_nilD 1 5 rfl ?_) | ((with_reducible refine gA ?_); (first | refine AW_seq ?_ | refine AW_region ?_ | refine AW_condT rfl ?_ | refine AW_condF rfl ?_ | refine AW_block ?_ | refine AW_ret ?_)) | ((with_reducible refine gS ?_); refine Es_s (T := Tryz.tab) rfl rfl rfl rfl ?_) | (((with_reducible refine gS ?_); apply Es_q); rfl; rfl; refine LStep_call (c2) rfl rfl rfl rfl) | (((with_reducible refine gS ?_); apply Es_xg); rfl; rfl; refine LStep_callHN [] [] c1 rfl rfl ⟨rfl, trivial⟩ rfl ⟨trivial, trivial⟩ rfl rfl; rfl) | (refine Es_skip rfl ?_ rfl ?_; (first | rfl | (refine w_tf ?_; assumption) | (refine w_ft ?_; assumption))) | (((with_reducible refine gS ?_); apply Es_xs); rfl; rfl; refine LStep_boxN rfl rfl rfl rfl rfl rfl; rfl) | (with_reducible refine Es_nil ?_) | (with_reducible refine then_n ?_) | (with_reducible refine then_r ?_) | (with_reducible refine block_r ?_))
    all_goals first
      | exact ⟨rfl, by (repeat' (first | exact trivial | exact rfl | (refine ⟨Or.inl rfl, ?_⟩) | (refine ⟨Or.inr rfl, ?_⟩) | (refine ⟨Or.inr trivial, ?_⟩) | (refine ⟨rfl, ?_⟩) | (refine ⟨?_, ?_⟩)))⟩
      | trace_state
  | false =>
  rw [e2] at c2
  have hE : planE S l = 0 := by unfold planE; rw [e1, e2]; rfl
  rw [planR_yes hE]
  have hm := e1
  unfold mayAllB at hm
  rw [Bool.and_eq_true] at hm
  obtain ⟨hS, hma⟩ := hm
  rw [List.all_eq_true] at hma
  have hi : (1 ≤ S.bays ∧ S.bays ≤ 32) ∧ (1 ≤ S.rows ∧ S.rows ≤ 32) ∧ (1 ≤ S.tiers ∧ S.tiers ≤ 32) := by
    have h := hS
    simp only [shipOk, Bool.and_eq_true, frB_t] at h
    omega
  have hB0 : S.bays = (bN S : Nat) := by unfold bN; omega
  have hR0 : S.rows = (rN S : Nat) := by unfold rN; omega
  unfold planL planO keepL goneL
  generalize bN S = B at *
  generalize rN S = R at *
  have h32 : B ≤ 32 ∧ R ≤ 32 := by omega
  have f0 : ltb 4096 (l.length : Nat) = false := by rw [ltb_f]; omega
  have co := order_ac l hl
  have cst := start_ac S B R hS hB0 hR0
  have hol : (isL ltO l).length ≤ 20 := by rw [(isL_perm l).length_eq]; exact hl
  have how : ∀ x ∈ isL ltO l, 0 ≤ x.w ∧ x.w ≤ 1048576 := fun x hx => by
    have := hma x ((isL_perm l).mem_iff.1 hx)
    unfold mayL at this
    simp only [Bool.and_eq_true, frB_t] at this
    omega
  generalize isL ltO l = o at *
  clear hma e1 e2 hE
  have z0 : fillP S B R (o.take 0) = ([], []) := rfl
  refine AC_enter Tryz.func7 rfl Tryz.ntmps7 (rv := [.tmp 4, .tmp 5, .tmp 6]) rfl rfl (by simp) (fun w X G => ?_)
  repeat' (first | ((with_reducible refine gA ?_); (first | refine AW_seq ?_ | refine AW_region ?_ | refine AW_condF rfl ?_ | (refine AW_condN rfl ?_ ?_; assumption) | refine AW_block ?_ | refine AW_skip ?_)) | ((with_reducible refine gS ?_); refine Es_s (T := Tryz.tab) rfl rfl rfl rfl ?_) | (((with_reducible refine gS ?_); apply Es_q); rfl; rfl; (first | refine LStep_call (c2) rfl rfl rfl rfl | refine LStep_call (co) rfl rfl rfl rfl)) | (((with_reducible refine gS ?_); apply Es_xg); rfl; rfl; (first | refine LStep_callHN [] [] c1 rfl rfl ⟨rfl, trivial⟩ rfl ⟨trivial, trivial⟩ rfl rfl | refine LStep_callHN [] [(23, 1010), (20, 1011), (21, 1012), (1000, 1000), (1001, 1001), (1002, 1002)] cst rfl rfl trivial rfl trivial rfl rfl); rfl) | (((with_reducible refine gS ?_); apply Es_q); rfl; rfl; refine LStep_lenM (T := Tryz.tab) rfl rfl rfl rfl) | (refine Es_skip rfl ?_ rfl ?_; (first | rfl | (refine w_tf ?_; assumption) | (refine w_ft ?_; assumption))) | (((with_reducible refine gS ?_); apply Es_xs); rfl; rfl; refine LStep_boxN rfl rfl rfl rfl rfl rfl; rfl) | (with_reducible refine Es_nil ?_) | (with_reducible refine then_n ?_) | (with_reducible refine block_n ?_))
  refine AW_openCell 9 1 1010 14 1013 rfl rfl rfl rfl rfl ?_
  refine AW_openNil (t := 8) (id := 2000) (e := 9) (sz := 1) rfl rfl rfl rfl ?_
  refine AW_forE (S := Nat) (fun k => k ≤ o.length) (fun k => [(29, .d (.sc (.int .i64 (k : Nat)))), (8, .own 2000 ((fillP S B R (o.take k)).2.map sN).length)]) (fun k => plA S (fillP S B R (o.take k)).1 B R (sLong S (fillP S B R (o.take k)).1) (sCross S (fillP S B R (o.take k)).1) (tiersOf (fillP S B R (o.take k)).1) ((fillP S B R (o.take k)).1.map (·.box)) ++ [(2000, some (.arr 9 1 ((fillP S B R (o.take k)).2.map sN)))]) (fun k => o.length - k) 0 (by omega) (by rw [z0]; (repeat' (first | exact trivial | exact rfl | (refine ⟨Or.inl rfl, ?_⟩) | (refine ⟨Or.inr rfl, ?_⟩) | (refine ⟨Or.inr trivial, ?_⟩) | (refine ⟨rfl, ?_⟩) | (refine ⟨?_, ?_⟩)))) (by rw [z0]; (repeat' (first | exact trivial | exact rfl | (refine ⟨Or.inl rfl, ?_⟩) | (refine ⟨Or.inr rfl, ?_⟩) | (refine ⟨Or.inr trivial, ?_⟩) | (refine ⟨rfl, ?_⟩) | (refine ⟨?_, ?_⟩)))) ?_
  intro k hk
  obtain ⟨hv, hlen⟩ := fillP_inv (B := B) (R := R) hS (o.take k)
  rw [List.length_take] at hlen
  by_cases hlt : k < o.length
  · obtain ⟨x, hx, _⟩ := drop_at hlt
    have hw := how x (List.mem_of_getElem? hx)
    have hst : fillP S B R (o.take (k + 1)) = stepP S B R (fillP S B R (o.take k)) x := by rw [take_at hx, fillP_snoc]
    have hmo := invMom hv hS (by omega)
    have g1 : ltb (k : Nat) (o.length : Nat) = true := by rw [ltb_t]; omega
    generalize hst0 : fillP S B R (o.take k) = st at *
    obtain ⟨L, out⟩ := st
    dsimp only at hv hlen hmo ⊢
    have hPl : (L.map (·.box)).length = L.length := List.length_map _
    cases hb : bestP S B R L x with
    | none =>
      have ca := addNo_ac S L B R (sLong S L) (sCross S L) (tiersOf L) (L.map (·.box)) x hv hS hB0 hR0 h32 hmo.1 hmo.2 hw (bestP_none hb)
      have hs2 : fillP S B R (o.take (k + 1)) = (L, out ++ [x.box]) := by rw [hst]; unfold stepP; dsimp only; rw [hb]
      have ho2 : (out ++ [x.box]).map sN = out.map sN ++ [[.sc (.string x.box)]] := by rw [List.map_append]; rfl
      generalize h1 : sLong S L = ma at *
      generalize h2 : sCross S L = mb at *
      generalize h3 : tiersOf L = T at *
      generalize h4 : L.map (·.box) = P at *
      clear hst hb how c1 c2 co cst hst0
      repeat' (first | ((with_reducible refine gA ?_); (first | refine AW_seq ?_ | refine AW_region ?_ | refine AW_condT rfl ?_ | (refine AW_condY rfl ?_ ?_; assumption) | refine AW_block ?_ | refine AW_skip ?_)) | ((with_reducible refine gS ?_); refine Es_s (T := Tryz.tab) rfl rfl rfl rfl ?_) | (((with_reducible refine gS ?_); apply Es_xs); rfl; rfl; (refine LStep_append (T := Tryz.tab) rfl rfl rfl rfl rfl rfl rfl rfl rfl rfl ?_ ?_ ?_; rfl; (rw [List.length_map]; simp only [List.length_cons, List.length_nil]; omega); (unfold maxLen; rw [List.length_map]; simp only [List.length_cons, List.length_nil]; omega)); rfl) | (((with_reducible refine gS ?_); apply Es_xg); rfl; rfl; refine LStep_callHN [] [] ca rfl rfl ⟨rfl, rfl, rfl, rfl, rfl, rfl, rfl, rfl, trivial⟩ rfl ⟨trivial, trivial, trivial, rfl, trivial, trivial, trivial, trivial, trivial⟩ rfl rfl; rfl) | (((with_reducible refine gS ?_); apply Es_q); rfl; rfl; (first | (refine LStep_add rfl rfl rfl rfl ?_; (refine IntWalk.i64_in _ ?_; first | omega | (simp only [cmps] at *; omega))) | (refine LStep_indexM (T := Tryz.tab) (c := ?_) rfl rfl rfl rfl rfl rfl ?_; rotate_left; assumption) | (refine LStep_lit (T := Tryz.tab) rfl rfl rfl rfl rfl rfl rfl rfl ?_; (refine Nat.le_of_ble_eq_true ?_; rfl)))) | (refine Es_skip rfl ?_ rfl ?_; (first | rfl | (refine w_tf ?_; assumption) | (refine w_ft ?_; assumption))) | (((with_reducible refine gS ?_); apply Es_xs); rfl; rfl; refine LStep_allocN (T := Tryz.tab) rfl rfl rfl rfl rfl rfl; rfl) | (((with_reducible refine gS ?_); apply Es_xn); rfl; rfl; (refine LStep_storeN (T := Tryz.tab) rfl rfl rfl rfl rfl rfl rfl ?_ rfl; (refine Nat.le_of_ble_eq_true ?_; rfl)); rfl) | (with_reducible refine Es_nil ?_) | (with_reducible refine then_n ?_) | (with_reducible refine block_n ?_))
      all_goals first
        | (refine ⟨k + 1, by omega, by omega, ?_, by (repeat' (first | exact trivial | exact rfl | (refine ⟨Or.inl rfl, ?_⟩) | (refine ⟨Or.inr rfl, ?_⟩) | (refine ⟨Or.inr trivial, ?_⟩) | (refine ⟨rfl, ?_⟩) | (refine ⟨?_, ?_⟩))), ?_, by (repeat' (first | exact trivial | exact rfl | (refine ⟨Or.inl rfl, ?_⟩) | (refine ⟨Or.inr rfl, ?_⟩) | (refine ⟨Or.inr trivial, ?_⟩) | (refine ⟨rfl, ?_⟩) | (refine ⟨?_, ?_⟩)))⟩
           · rw [hs2, ho2]; (repeat' (first | exact trivial | exact rfl | (refine ⟨Or.inl rfl, ?_⟩) | (refine ⟨Or.inr rfl, ?_⟩) | (refine ⟨Or.inr trivial, ?_⟩) | (refine ⟨rfl, ?_⟩) | (refine ⟨?_, ?_⟩)))
           · rw [hs2]; dsimp only; rw [h1, h2, h3, h4, ho2]; (repeat' (first | exact trivial | exact rfl | (refine ⟨Or.inl rfl, ?_⟩) | (refine ⟨Or.inr rfl, ?_⟩) | (refine ⟨Or.inr trivial, ?_⟩) | (refine ⟨rfl, ?_⟩) | (refine ⟨?_, ?_⟩))))
        | trace_state
    | some s =>
      obtain ⟨hz, k0, hk0, hno⟩ := bestP_some hb
      have ca := addOk_ac S L B R (sLong S L) (sCross S L) (tiersOf L) (L.map (·.box)) x hv hS hB0 hR0 h32 hmo.1 hmo.2 hw (fun k j => by rw [tierOf_eq]; exact Int.natCast_nonneg _) (by omega) k0 s hk0 hno hz
      have hs2 : fillP S B R (o.take (k + 1)) = (L ++ [atL x s], out) := by rw [hst]; unfold stepP; dsimp only; rw [hb]
      have e1 : putL S L (atL x s) = L ++ [atL x s] := by unfold putL; rw [if_pos hz]
      have e2 : sLong S (L ++ [atL x s]) = nowL S (sLong S L) s.b x.w := sLong_snoc S L (atL x s)
      have e3 : sCross S (L ++ [atL x s]) = nowC S (sCross S L) s.r x.w := sCross_snoc S L (atL x s)
      have e4 : tiersOf (L ++ [atL x s]) = aput (stkOf s) (tierOf (tiersOf L) s.b s.r + 1) (tiersOf L) := tiersOf_snoc L (atL x s)
      have e5 : (L ++ [atL x s]).map (·.box) = L.map (·.box) ++ [x.box] := by rw [List.map_append]; rfl
      have hP : ((L.map (·.box)).map sN).length < ((L.map (·.box) ++ [x.box]).map sN).length := by simp
      rw [e1] at ca
      generalize L ++ [atL x s] = L' at *
      generalize nowL S (sLong S L) s.b x.w = ma' at *
      generalize nowC S (sCross S L) s.r x.w = mb' at *
      generalize aput (stkOf s) (tierOf (tiersOf L) s.b s.r + 1) (tiersOf L) = T' at *
      generalize L.map (·.box) ++ [x.box] = P' at *
      generalize h1 : sLong S L = ma at *
      generalize h2 : sCross S L = mb at *
      generalize h3 : tiersOf L = T at *
      generalize h4 : L.map (·.box) = P at *
      clear hst hb how c1 c2 co cst hst0
      repeat' (first | ((with_reducible refine gA ?_); (first | refine AW_seq ?_ | refine AW_region ?_ | refine AW_condF rfl ?_ | (refine AW_condY rfl ?_ ?_; assumption) | refine AW_block ?_ | refine AW_skip ?_)) | ((with_reducible refine gS ?_); refine Es_s (T := Tryz.tab) rfl rfl rfl rfl ?_) | (((with_reducible refine gS ?_); apply Es_xg); rfl; rfl; refine LStep_callGN [1013] [] [] ca rfl rfl ⟨rfl, rfl, rfl, rfl, rfl, rfl, rfl, rfl, trivial⟩ rfl ⟨trivial, trivial, trivial, hP, trivial, trivial, trivial, trivial, trivial⟩ rfl rfl; rfl) | (((with_reducible refine gS ?_); apply Es_q); rfl; rfl; (first | (refine LStep_add rfl rfl rfl rfl ?_; (refine IntWalk.i64_in _ ?_; first | omega | (simp only [cmps] at *; omega))) | (refine LStep_indexM (T := Tryz.tab) (c := ?_) rfl rfl rfl rfl rfl rfl ?_; rotate_left; assumption))) | (refine Es_skip rfl ?_ rfl ?_; (first | rfl | (refine w_tf ?_; assumption) | (refine w_ft ?_; assumption))) | (((with_reducible refine gS ?_); apply Es_xs); rfl; rfl; refine LStep_allocN (T := Tryz.tab) rfl rfl rfl rfl rfl rfl; rfl) | (((with_reducible refine gS ?_); apply Es_xn); rfl; rfl; (refine LStep_storeN (T := Tryz.tab) rfl rfl rfl rfl rfl rfl rfl ?_ rfl; (refine Nat.le_of_ble_eq_true ?_; rfl)); rfl) | (with_reducible refine Es_nil ?_) | (with_reducible refine then_n ?_) | (with_reducible refine block_n ?_))
      all_goals first
        | (refine ⟨k + 1, by omega, by omega, ?_, by (repeat' (first | exact trivial | exact rfl | (refine ⟨Or.inl rfl, ?_⟩) | (refine ⟨Or.inr rfl, ?_⟩) | (refine ⟨Or.inr trivial, ?_⟩) | (refine ⟨rfl, ?_⟩) | (refine ⟨?_, ?_⟩))), ?_, by (repeat' (first | exact trivial | exact rfl | (refine ⟨Or.inl rfl, ?_⟩) | (refine ⟨Or.inr rfl, ?_⟩) | (refine ⟨Or.inr trivial, ?_⟩) | (refine ⟨rfl, ?_⟩) | (refine ⟨?_, ?_⟩)))⟩
           · rw [hs2]; (repeat' (first | exact trivial | exact rfl | (refine ⟨Or.inl rfl, ?_⟩) | (refine ⟨Or.inr rfl, ?_⟩) | (refine ⟨Or.inr trivial, ?_⟩) | (refine ⟨rfl, ?_⟩) | (refine ⟨?_, ?_⟩)))
           · rw [hs2]; dsimp only; rw [e2, e3, e4, e5]; (repeat' (first | exact trivial | exact rfl | (refine ⟨Or.inl rfl, ?_⟩) | (refine ⟨Or.inr rfl, ?_⟩) | (refine ⟨Or.inr trivial, ?_⟩) | (refine ⟨rfl, ?_⟩) | (refine ⟨?_, ?_⟩))))
        | trace_state
  · have hkl : k = o.length := by omega
    subst hkl
    have g1 : ltb (o.length : Nat) (o.length : Nat) = false := by rw [ltb_f]; omega
    have hpu := fillP_puts (S := S) (B := B) (R := R) o
    rw [List.take_length] at hv hlen ⊢
    generalize hst0 : fillP S B R o = st at *
    obtain ⟨L, out⟩ := st
    dsimp only at hv hlen hpu ⊢
    have hLl : L.length ≤ 20 := by omega
    have hit := inv_take hS hpu
    have hol2 : out.length ≤ 20 := by omega
    generalize sLong S L = ma
    generalize sCross S L = mb
    generalize tiersOf L = T
    clear how c1 c2 co cst hst0 z0 hpu hlen
    repeat' (first | ((with_reducible refine gA ?_); (first | refine AW_seq ?_ | refine AW_region ?_ | (refine AW_condN rfl ?_ ?_; assumption) | refine AW_block ?_ | refine AW_exit ?_)) | ((with_reducible refine gS ?_); refine Es_s (T := Tryz.tab) rfl rfl rfl rfl ?_) | (with_reducible refine Es_nil ?_) | (with_reducible refine then_n ?_) | (with_reducible refine then_e ?_) | ((with_reducible refine block_e ?_ ?_); rfl))
    refine AW_freezeCell 1010 14 (id := 1013) rfl rfl rfl rfl ?_
    have q0 : out ++ goneK L L.length = out := by rw [goneK_all, List.append_nil]
    have q1 : L.take L.length = L := List.take_length
    refine AW_forE (S := Nat) (fun n => n ≤ L.length ∧ keepN S L L.length = keepN S L n) (fun n => [(8, .own 2000 ((out ++ goneK L n).map sN).length)]) (fun n => (1010, some (.cells (plCs S 1000 1011 1012 ma mb (.d (.sl 1 (((L.take n).map (·.box)).map sN)))))) :: (2000, some (.arr 9 1 ((out ++ goneK L n).map sN))) :: hB S (L.take n)) (fun n => n) L.length ⟨Nat.le_refl _, rfl⟩ (by rw [q0]; (repeat' (first | exact trivial | exact rfl | (refine ⟨Or.inl rfl, ?_⟩) | (refine ⟨Or.inr rfl, ?_⟩) | (refine ⟨Or.inr trivial, ?_⟩) | (refine ⟨rfl, ?_⟩) | (refine ⟨?_, ?_⟩)))) (by rw [q0, q1]; (repeat' (first | exact trivial | exact rfl | (refine ⟨Or.inl rfl, ?_⟩) | (refine ⟨Or.inr rfl, ?_⟩) | (refine ⟨Or.inr trivial, ?_⟩) | (refine ⟨rfl, ?_⟩) | (refine ⟨?_, ?_⟩)))) ?_
    intro n ⟨hn, hkn⟩
    have hvn := hit n
    have hln : (L.take n).length = n := by rw [List.length_take]; omega
    have hPn : ((L.take n).map (·.box)).length = n := by rw [List.length_map]; exact hln
    have hgl : (goneK L n).length ≤ 20 := by unfold goneK; simp; omega
    have hzl : ((out ++ goneK L n).map sN).length ≤ 60 := by rw [List.length_map, List.length_append]; omega
    have hsl : ((out ++ goneK L n).map sN).length = ((sortS (out ++ goneK L n)).map sN).length := by rw [List.length_map, List.length_map, (sortS_perm _).length_eq]
    have cs : AC Tryz.prog 19 _ _ _ _ := sortStrs_ac Tryz.sortStrs (callable_of Tryz.func19 rfl rfl) 9 ((out ++ goneK L n).map sN).length (out ++ goneK L n) (List.length_map _) (by rw [List.length_map] at hzl; omega)
    have cl := loadsK_ac S (L.take n) hvn.nS (by omega)
    have cf := safe_ac S (lsort (L.take n)) (by rw [(lsort_perm hvn.nS).length_eq]; omega)
    rw [safeE_perm (lsort_perm hvn.nS)] at cf
    have fin : keepN S L n = n → planEnd S (L.take n) (out ++ goneK L n) (.tup [.d (.sl 7 ((lsort (L.take (keepN S L L.length))).map Load.enc)), .d (.sl 1 ((sortS (out ++ ((L.drop (keepN S L L.length)).reverse).map (·.box))).map sN)), .d (.sc (.int .i64 0))]) := fun h => by
      rw [hkn, h]; rfl
    rw [← hkn] at fin
    cases n with
    | zero =>
      have fin := fin (by rw [hkn]; rfl)
      unfold planEnd at fin
      rw [fin]
      have g2 : ltb 0 (((L.take 0).map (·.box)).length : Nat) = false := by rw [ltb_f]; omega
      generalize (L.take 0).map (·.box) = P at *
      generalize lsort (L.take 0) = D at *
      generalize L.take 0 = M at *
      generalize out ++ goneK L 0 = zs at *
      generalize safeE S M = sv at *
      clear fin hkn hit hv hvn
      repeat' (first | ((with_reducible refine gRc ?_); refine AW_freeze [5] (id := 2000) ⟨rfl, trivial⟩ rfl hsl.symm ?_) | ((with_reducible refine gA ?_); (first | refine AW_seq ?_ | refine AW_region ?_ | refine AW_regionD Tryz.mixed ?_ | refine AW_condF rfl ?_ | refine AW_ret ?_ | refine AW_exit ?_)) | (first | ((with_reducible refine gS ?_); refine Es_s (T := Tryz.tab) rfl rfl rfl rfl ?_) | ((with_reducible refine gD ?_); refine Ed_s (T := Tryz.tab) rfl rfl rfl rfl ?_)) | ((first | ((with_reducible refine gS ?_); apply Es_q) | ((with_reducible refine gD ?_); apply Ed_q)); rfl; rfl; refine LStep_callB cl rfl rfl ⟨rfl, rfl, rfl, trivial⟩ rfl rfl) | ((first | ((with_reducible refine gS ?_); apply Es_xg) | ((with_reducible refine gD ?_); apply Ed_xg)); rfl; rfl; refine LStep_callHN [(1000, 2000)] [] cs rfl rfl ⟨rfl, trivial⟩ rfl ⟨hsl, trivial⟩ rfl rfl; rfl) | (((with_reducible refine gD ?_); apply Ed_q); rfl; rfl; (first | refine LStep_lenM (T := Tryz.tab) rfl rfl rfl rfl | (refine LStep_pickF rfl rfl ?_ rfl rfl; assumption))) | (refine Ed_skip rfl ?_ rfl ?_; (first | rfl | (refine w_tf ?_; assumption) | (refine w_ft ?_; assumption))) | (with_reducible refine Es_nil ?_) | ((with_reducible refine Ed_nil ?_ ?_); kernel_rfl) | (with_reducible refine then_n ?_) | (with_reducible refine then_e ?_) | ((with_reducible refine block_e ?_ ?_); rfl))
      all_goals first
        | exact ⟨rfl, by (repeat' (first | exact trivial | exact rfl | (refine ⟨Or.inl rfl, ?_⟩) | (refine ⟨Or.inr rfl, ?_⟩) | (refine ⟨Or.inr trivial, ?_⟩) | (refine ⟨rfl, ?_⟩) | (refine ⟨?_, ?_⟩)))⟩
        | trace_state
    | succ m =>
      have g2 : ltb 0 (((L.take (m + 1)).map (·.box)).length : Nat) = true := by rw [ltb_t]; omega
      by_cases hs : safeE S (L.take (m + 1)) = 0
      · have fin := fin (by rw [hkn]; unfold keepN; rw [if_pos hs])
        unfold planEnd at fin
        rw [fin]
        rw [hs] at cf
        generalize (L.take (m + 1)).map (·.box) = P at *
        generalize lsort (L.take (m + 1)) = D at *
        generalize L.take (m + 1) = M at *
        generalize out ++ goneK L (m + 1) = zs at *
        clear fin hkn hit hv hvn
        repeat' (first | ((with_reducible refine gRc ?_); refine AW_freeze [5] (id := 2000) ⟨rfl, trivial⟩ rfl hsl.symm ?_) | ((with_reducible refine gA ?_); (first | refine AW_seq ?_ | refine AW_region ?_ | refine AW_regionD Tryz.mixed ?_ | (refine AW_cond rfl (fun hc => ?_) (fun hc => ?_) <;> try (exfalso; simp only [cmpL] at hc; omega)) | refine AW_ret ?_ | refine AW_exit ?_)) | (first | ((with_reducible refine gS ?_); refine Es_s (T := Tryz.tab) rfl rfl rfl rfl ?_) | ((with_reducible refine gD ?_); refine Ed_s (T := Tryz.tab) rfl rfl rfl rfl ?_)) | ((first | ((with_reducible refine gS ?_); apply Es_q) | ((with_reducible refine gD ?_); apply Ed_q)); rfl; (first | rfl | (refine w_tt ?_; assumption)); (first | refine LStep_callB cl rfl rfl ⟨rfl, rfl, rfl, trivial⟩ rfl rfl | refine LStep_call (cf) rfl rfl rfl rfl)) | ((first | ((with_reducible refine gS ?_); apply Es_xg) | ((with_reducible refine gD ?_); apply Ed_xg)); rfl; (first | rfl | (refine w_tt ?_; assumption)); refine LStep_callHN [(1000, 2000)] [] cs rfl rfl ⟨rfl, trivial⟩ rfl ⟨hsl, trivial⟩ rfl rfl; rfl) | (((with_reducible refine gD ?_); apply Ed_q); rfl; (first | rfl | (refine w_tt ?_; assumption)); (first | refine LStep_simp (T := Tryz.tab) rfl rfl | refine LStep_lenM (T := Tryz.tab) rfl rfl rfl rfl | (refine LStep_pickT rfl rfl ?_ rfl rfl; assumption))) | (with_reducible refine Es_nil ?_) | ((with_reducible refine Ed_nil ?_ ?_); kernel_rfl) | (with_reducible refine then_n ?_) | (with_reducible refine then_e ?_) | ((with_reducible refine block_e ?_ ?_); rfl))
        all_goals first
          | exact ⟨rfl, by (repeat' (first | exact trivial | exact rfl | (refine ⟨Or.inl rfl, ?_⟩) | (refine ⟨Or.inr rfl, ?_⟩) | (refine ⟨Or.inr trivial, ?_⟩) | (refine ⟨rfl, ?_⟩) | (refine ⟨?_, ?_⟩)))⟩
          | trace_state
      · obtain ⟨x, hx, _⟩ := drop_at (show m < L.length by omega)
        have ht := take_at hx
        have hM := hit m
        rw [ht] at hvn
        have hnd := hvn.nS
        rw [List.map_append, List.nodup_append] at hnd
        have p4 : atS (L.take m) x.sl = none := by
          rw [atS_none]
          exact fun y hy => hnd.2.2 y.sl (List.mem_map.2 ⟨y, hy, rfl⟩) x.sl (by simp)
        have hxm : x ∈ L.take m ++ [x] := by simp
        have u0 := (byB_some hvn.nB).2 ⟨hxm, rfl⟩
        have ho := hvn.on x hxm
        have u1 := put_free hM.toInv p4 ho.2.2.1
        have u2 : takeE (L.take m ++ [x]) x.box = 0 := by unfold takeE; rw [u0]; simp only [u1, Option.isSome_none, Bool.false_eq_true, if_false]
        have u3 : takeX (L.take m ++ [x]) x.box = x := by unfold takeX; rw [u2, u0]; rfl
        have hnx : x ∉ L.take m := fun h => atS_none.1 p4 x h rfl
        have u4 : takeL (L.take m ++ [x]) x.box = L.take m := by unfold takeL; rw [u2, u0]; exact del_last hnx
        have ct := take_ac S (L.take m ++ [x]) x.box hvn.toInv (tot_in2 hvn hS) (by omega)
        rw [u2, u3, u4] at ct
        have hgs := goneK_succ hx
        have hz2 : (out ++ goneK L m).map sN = (out ++ goneK L (m + 1)).map sN ++ [[.sc (.string x.box)]] := by rw [hgs, ← List.append_assoc, List.map_append]; rfl
        have hkm : keepN S L L.length = keepN S L m := by rw [hkn]; show (if safeE S (L.take (m + 1)) = 0 then m + 1 else keepN S L m) = _; rw [if_neg hs]
        have hPm : ((L.take (m + 1)).map (·.box)) = (L.take m).map (·.box) ++ [x.box] := by rw [ht, List.map_append]; rfl
        have hPl : ((L.take m).map (·.box)).length = m := by rw [List.length_map, List.length_take]; omega
        have g3 : (!(eqb (safeE S (L.take (m + 1))) 0)) = true := by rw [eqb_f.2 hs]; rfl
        have g4 : ((((L.take (m + 1)).map (·.box)).length : Int) - 1).toNat = m := by omega
        have hxc : (((L.take (m + 1)).map (·.box)).map sN)[((((L.take (m + 1)).map (·.box)).length : Int) - 1).toNat]? = some (sN x.box) := by
          rw [g4, hPm, List.map_append, List.getElem?_append_right (by rw [List.length_map]; omega), List.length_map, hPl, Nat.sub_self]; rfl
        have hPt : (((L.take (m + 1)).map (·.box)).take ((((L.take (m + 1)).map (·.box)).length : Int) - 1).toNat).drop (0 : Int).toNat = (L.take m).map (·.box) := by
          rw [g4, hPm, List.take_append_of_le_length (by omega), List.take_of_length_le (by omega)]; rfl
        rw [← ht] at ct
        generalize (L.take (m + 1)).map (·.box) = P at *
        generalize lsort (L.take (m + 1)) = D at *
        generalize safeE S (L.take (m + 1)) = sv at *
        generalize hP' : (L.take m).map (·.box) = P' at *
        generalize L.take (m + 1) = M at *
        generalize hM' : L.take m = M' at *
        clear fin hit hv hvn hM hnd p4 hxm u0 ho u1 u2 u3 hnx u4 ht hPm g4 hgs cs hsl
        repeat' (first | ((with_reducible refine gA ?_); (first | refine AW_seq ?_ | refine AW_region ?_ | refine AW_regionD Tryz.mixed ?_ | (refine AW_condY rfl ?_ ?_; assumption) | refine AW_block ?_ | refine AW_skip ?_)) | (first | ((with_reducible refine gS ?_); refine Es_s (T := Tryz.tab) rfl rfl rfl rfl ?_) | ((with_reducible refine gD ?_); refine Ed_s (T := Tryz.tab) rfl rfl rfl rfl ?_)) | ((first | ((with_reducible refine gS ?_); apply Es_q) | ((with_reducible refine gD ?_); apply Ed_q)); rfl; (first | rfl | (refine w_tt ?_; assumption)); (first | refine LStep_callB cl rfl rfl ⟨rfl, rfl, rfl, trivial⟩ rfl rfl | refine LStep_call (cf) rfl rfl rfl rfl)) | ((first | ((with_reducible refine gS ?_); apply Es_xs) | ((with_reducible refine gD ?_); apply Ed_xs)); rfl; (first | rfl | (refine w_tt ?_; assumption)); (refine LStep_append (T := Tryz.tab) rfl rfl rfl rfl rfl rfl rfl rfl rfl rfl ?_ ?_ ?_; rfl; (simp only [List.length_cons, List.length_nil]; omega); (unfold maxLen; simp only [List.length_cons, List.length_nil]; omega)); rfl) | ((first | ((with_reducible refine gS ?_); apply Es_xg) | ((with_reducible refine gD ?_); apply Ed_xg)); rfl; (first | rfl | (refine w_tt ?_; assumption)); refine LStep_callHN [] [] ct rfl rfl ⟨rfl, rfl, rfl, trivial⟩ rfl ⟨trivial, trivial, trivial, trivial⟩ rfl rfl; rfl) | ((first | ((with_reducible refine gS ?_); apply Es_q) | ((with_reducible refine gD ?_); apply Ed_q)); rfl; (first | rfl | (refine w_tt ?_; assumption)); (first | refine LStep_simp (T := Tryz.tab) rfl rfl | refine LStep_lenM (T := Tryz.tab) rfl rfl rfl rfl | (refine LStep_sub rfl rfl rfl rfl ?_; (refine IntWalk.i64_in _ ?_; first | omega | (simp only [cmps] at *; omega))) | (refine LStep_pickT rfl rfl ?_ rfl rfl; assumption) | (refine LStep_index (T := Tryz.tab) (c := ?_) rfl rfl rfl rfl rfl rfl ?_ ?_; rotate_left; omega; (first | assumption | rfl)) | (refine LStep_partM (T := Tryz.tab) rfl rfl rfl rfl rfl rfl rfl ?_ ?_ ?_; omega; (first | omega | (simp only [List.length_map]; omega)); (first | omega | (simp only [List.length_map]; omega))) | (refine LStep_lit (T := Tryz.tab) rfl rfl rfl rfl rfl rfl rfl rfl ?_; (refine Nat.le_of_ble_eq_true ?_; rfl)))) | (((with_reducible refine gS ?_); apply Es_xn); rfl; rfl; (refine LStep_storeN (T := Tryz.tab) rfl rfl rfl rfl rfl rfl rfl ?_ rfl; (refine Nat.le_of_ble_eq_true ?_; rfl)); rfl) | (with_reducible refine Es_nil ?_) | ((with_reducible refine Ed_nil ?_ ?_); kernel_rfl) | (with_reducible refine then_n ?_) | (with_reducible refine block_n ?_))
        all_goals first
          | (refine ⟨m, ⟨by omega, hkm⟩, by omega, ?_, by (repeat' (first | exact trivial | exact rfl | (refine ⟨Or.inl rfl, ?_⟩) | (refine ⟨Or.inr rfl, ?_⟩) | (refine ⟨Or.inr trivial, ?_⟩) | (refine ⟨rfl, ?_⟩) | (refine ⟨?_, ?_⟩))), ?_, by (repeat' (first | exact trivial | exact rfl | (refine ⟨Or.inl rfl, ?_⟩) | (refine ⟨Or.inr rfl, ?_⟩) | (refine ⟨Or.inr trivial, ?_⟩) | (refine ⟨rfl, ?_⟩) | (refine ⟨?_, ?_⟩)))⟩
             · rw [hz2]; (repeat' (first | exact trivial | exact rfl | (refine ⟨Or.inl rfl, ?_⟩) | (refine ⟨Or.inr rfl, ?_⟩) | (refine ⟨Or.inr trivial, ?_⟩) | (refine ⟨rfl, ?_⟩) | (refine ⟨?_, ?_⟩)))
             · rw [hz2, hM', hP', ← hPt]; (repeat' (first | exact trivial | exact rfl | (refine ⟨Or.inl rfl, ?_⟩) | (refine ⟨Or.inr rfl, ?_⟩) | (refine ⟨Or.inr trivial, ?_⟩) | (refine ⟨rfl, ?_⟩) | (refine ⟨?_, ?_⟩))))
          | trace_state
end Go.Proofs.YtodgjgkoaahhmaaGreatDoor
