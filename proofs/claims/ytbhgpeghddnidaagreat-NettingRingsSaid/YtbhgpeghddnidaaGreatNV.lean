import Derived.Test.YtbhgpeghddnidaaGreatNU
namespace Go.Proofs.YtbhgpeghddnidaaGreat
open Go.SL
/-! ### the document's Net -/
def amE (A : List PA) : List (List D) := A.map fun a => [.sc (.int .i64 a.2)]
theorem amE_len (A : List PA) : (amE A).length = A.length := List.length_map _
theorem amE_get {A : List PA} {k : Nat} {a : PA} (h : A[k]? = some a) : (amE A)[k]? = some [.sc (.int .i64 a.2)] := by unfold amE; rw [List.getElem?_map, h]; rfl
theorem amE_set {A : List PA} {k : Nat} (a : PA) : (amE A).set k [.sc (.int .i64 a.2)] = amE (A.set k a) := by unfold amE; rw [List.map_set]
def isNeg (a : PA) : Bool := decide (a.2 < 0)
def isPos (a : PA) : Bool := decide (0 < a.2)
/-- one currency's row while it is settled -/
structure RowLp (c : ByteArray) (P : List ByteArray) (R : List Db) (A : List PA) (E : List Db) : Prop where
  fst : A.map (·.1) = P
  bd : ∀ a ∈ A, -1099511627776 ≤ a.2 ∧ a.2 ≤ 1099511627776
  sum : sumP A = 0
  eq : E ++ tagC c (setA A) = R
theorem RowLp.len {c : ByteArray} {P : List ByteArray} {R E : List Db} {A : List PA} (h : RowLp c P R A E) : A.length = P.length := by rw [← h.fst, List.length_map]
theorem sumP_app (a b : List PA) : sumP (a ++ b) = sumP a + sumP b := by unfold sumP; rw [List.map_append, List.sum_append]
theorem sumP_set {A : List PA} {k : Nat} {p : ByteArray} {x y : Int} (h : A[k]? = some (p, x)) : sumP (A.set k (p, y)) = sumP A + (y - x) := by
  rw [set_split _ h]
  conv => rhs; rw [split_at h]
  rw [sumP_app, sumP_app, sumP_cons, sumP_cons]
  dsimp only
  omega
theorem fst_set {A : List PA} {k : Nat} {p : ByteArray} {x y : Int} (h : A[k]? = some (p, x)) : (A.set k (p, y)).map (·.1) = A.map (·.1) := by
  rw [set_split _ h]
  conv => rhs; rw [split_at h]
  rw [List.map_append, List.map_append]; rfl
set_option maxRecDepth 10000 in
theorem rNetNo_ac (l : List Db) (hl : l.length ≤ 4096) (hs : ∀ d ∈ l, smD d) (h : l.all mayD = false) : AC Tryz.prog 17 [.d (.sl 4 (l.map dbE))] [] [] (fun r _ => r = .tup [.d (.sl 4 []), .d (.sc (.int .i64 1))]) := by
  have c := rAll_ac l hl hs
  rw [h] at c
  refine AC_enter Tryz.func17 rfl Tryz.ntmps17 (rv := [.tmp 2, .tmp 3]) rfl rfl (by simp) (fun w X G => ?_)
  repeat' (first | ((with_reducible refine gRc ?_); refine AW_nilD 4 2 rfl ?_) | ((with_reducible refine gA ?_); (first | refine AW_seq ?_ | refine AW_region ?_ | refine AW_condT rfl ?_ | refine AW_ret ?_)) | ((with_reducible refine gS ?_); refine Es_s (T := Tryz.tab) rfl rfl rfl rfl ?_) | (((with_reducible refine gS ?_); apply Es_q); rfl; rfl; refine LStep_call (c) rfl rfl rfl rfl) | (with_reducible refine Es_nil ?_) | (with_reducible refine then_n ?_) | (with_reducible refine then_r ?_) | ((with_reducible refine gR ?_); first | refine ret1 rfl ?_ | refine ret2 rfl rfl ?_ | refine ret0 ?_ | refine end1 rfl ?_ | refine end0 ?_))
  all_goals first
    | rfl
    | trace_state
theorem pos_grid {l : List Db} (h : ∀ c ∈ curN l, ∀ p ∈ parN l, -1099511627776 ≤ psI l (p, c) ∧ psI l (p, c) ≤ 1099511627776) : ¬ badS l := fun ⟨s, hs⟩ => by
  have hd := pos_dom (l := l) (s := s) (by omega)
  have := h s.2 hd.2 s.1 hd.1
  have e : psI l (s.1, s.2) = psI l s := rfl
  omega
set_option maxRecDepth 10000 in
set_option maxHeartbeats 32000000 in
theorem rNet_ac (l : List Db) (hl : l.length ≤ 100) (hs : ∀ d ∈ l, smD d) (h : l.all mayD = true) : AC Tryz.prog 17 [.d (.sl 4 (l.map dbE))] [] [] (fun r _ => netR l r) := by
  have cm := rAll_ac l (by omega) hs
  rw [h] at cm
  have cP := rParties_ac l (by omega) hs
  have cC := rCurrencies_ac l (by omega) hs
  have cA := fun p c => rAt_ac l p c (by omega) hs
  simp only [mF_may h] at cP cC cA
  have b1 := parN_len l
  have b2 := curN_len l
  have hgrid := pos_grid (l := l)
  have hsum := fun c => sumP_row l c
  have hR : ∀ E, (E = (curN l).flatMap fun c => tagC c (setA (rowC l c))) → ¬ badS l → netR l (.tup [.d (.sl 4 (E.map dbE)), .d (.sc (.int .i64 0))]) := fun E hE hb => .inr ⟨hb, by rw [hE]; rfl⟩
  have hrow : ∀ c, rowC l c = (parN l).map fun p => (p, psI l (p, c)) := fun c => rfl
  have hset : ∀ c, (tagC c (setA (rowC l c))).length ≤ 200 := fun c => by
    rw [tagC_len]
    have := setA_le (rowC l c)
    rw [hrow, List.length_map] at this
    rw [hrow]
    omega
  clear h hs
  generalize parN l = P at *
  generalize curN l = C at *
  refine AC_enter Tryz.func17 rfl Tryz.ntmps17 (rv := [.tmp 2, .tmp 3]) rfl rfl (by simp) (fun w X G => ?_)
  repeat' (first | ((with_reducible refine gA ?_); (first | refine AW_seq ?_ | refine AW_region ?_ | refine AW_condF rfl ?_ | refine AW_block ?_ | refine AW_skip ?_)) | ((with_reducible refine gS ?_); refine Es_s (T := Tryz.tab) rfl rfl rfl rfl ?_) | (((with_reducible refine gS ?_); apply Es_q); rfl; rfl; (first | refine LStep_call (cm) rfl rfl rfl rfl | refine LStep_call (cP) rfl rfl rfl rfl | refine LStep_call (cC) rfl rfl rfl rfl)) | (with_reducible refine Es_nil ?_) | (with_reducible refine then_n ?_))
  refine AW_openNil (t := 6) (id := 2000) (e := 38) (sz := 4) rfl rfl rfl rfl ?_
  refine AW_forE (S := Nat × List Db) (fun z => z.1 ≤ C.length ∧ z.2.length ≤ 200 * z.1 ∧ (z.2 = (C.take z.1).flatMap fun c => tagC c (setA (rowC l c))) ∧ ∀ c ∈ C.take z.1, ∀ p ∈ P, -1099511627776 ≤ psI l (p, c) ∧ psI l (p, c) ≤ 1099511627776) (fun z => [(7, .d (.sc (.int .i64 (z.1 : Nat)))), (6, .own 2000 (z.2.map dbE).length)]) (fun z => [(2000, some (.arr 38 4 (z.2.map dbE)))]) (fun z => C.length - z.1) (0, []) ⟨by omega, by simp, by simp, by simp⟩ (by (repeat' (first | exact trivial | exact rfl | (refine ⟨Or.inl rfl, ?_⟩) | (refine ⟨Or.inr rfl, ?_⟩) | (refine ⟨Or.inr trivial, ?_⟩) | (refine ⟨rfl, ?_⟩) | (refine ⟨?_, ?_⟩)))) (by (repeat' (first | exact trivial | exact rfl | (refine ⟨Or.inl rfl, ?_⟩) | (refine ⟨Or.inr rfl, ?_⟩) | (refine ⟨Or.inr trivial, ?_⟩) | (refine ⟨rfl, ?_⟩) | (refine ⟨?_, ?_⟩)))) ?_
  intro ⟨k, E⟩ ⟨hk, hEl, hE, hEb⟩
  dsimp only at hk hEl hE hEb ⊢
  by_cases hlt : k < C.length
  · obtain ⟨c, hc, _⟩ := drop_at hlt
    have g1 : ltb (k : Nat) (C.length : Nat) = true := by rw [ltb_t]; omega
    have hnx := fm_take (g := fun c => tagC c (setA (rowC l c))) hc
    have hsc := hset c
    have hsu := hsum c
    have hro := hrow c
    repeat' (first | ((with_reducible refine gA ?_); (first | refine AW_seq ?_ | refine AW_region ?_ | (refine AW_condY rfl ?_ ?_; assumption) | refine AW_block ?_ | refine AW_skip ?_)) | ((with_reducible refine gS ?_); refine Es_s (T := Tryz.tab) rfl rfl rfl rfl ?_) | (((with_reducible refine gS ?_); apply Es_xs); rfl; rfl; (refine LStep_litOwn (T := Tryz.tab) (len := 0) rfl rfl rfl rfl rfl rfl rfl rfl rfl rfl ?_ ?_; (refine Nat.le_of_ble_eq_true ?_; rfl); (unfold maxLen; omega)); rfl) | (((with_reducible refine gS ?_); apply Es_q); rfl; rfl; refine LStep_lenM (T := Tryz.tab) rfl rfl rfl rfl) | (with_reducible refine Es_nil ?_) | (with_reducible refine then_n ?_))
    refine AW_forE (S := Nat × List (List D)) (fun z => z.1 ≤ P.length ∧ z.2.length = z.1 ∧ z.2 = amE ((P.take z.1).map fun p => (p, psI l (p, c))) ∧ ∀ p ∈ P.take z.1, -1099511627776 ≤ psI l (p, c) ∧ psI l (p, c) ≤ 1099511627776) (fun z => [(9, .d (.sc (.int .i64 (z.1 : Nat)))), (8, .own 29 z.2.length)]) (fun z => [(29, some (.arr 2 1 z.2))]) (fun z => P.length - z.1) (0, []) ⟨by omega, rfl, rfl, by simp⟩ (by (repeat' (first | exact trivial | exact rfl | (refine ⟨Or.inl rfl, ?_⟩) | (refine ⟨Or.inr rfl, ?_⟩) | (refine ⟨Or.inr trivial, ?_⟩) | (refine ⟨rfl, ?_⟩) | (refine ⟨?_, ?_⟩)))) (by (repeat' (first | exact trivial | exact rfl | (refine ⟨Or.inl rfl, ?_⟩) | (refine ⟨Or.inr rfl, ?_⟩) | (refine ⟨Or.inr trivial, ?_⟩) | (refine ⟨rfl, ?_⟩) | (refine ⟨?_, ?_⟩)))) ?_
    intro ⟨j, M⟩ ⟨hj, hMl, hM, hMb⟩
    dsimp only at hj hMl hM hMb ⊢
    by_cases hltj : j < P.length
    · obtain ⟨p, hp, _⟩ := drop_at hltj
      have g2 : ltb (j : Nat) (P.length : Nat) = true := by rw [ltb_t]; omega
      have ca := cA p c
      have hMx : M ++ [[.sc (.int .i64 (psI l (p, c)))]] = amE ((P.take (j + 1)).map fun p => (p, psI l (p, c))) := by rw [take_at hp, List.map_append, hM]; unfold amE; rw [List.map_append]; rfl
      have hb : (1099511627776 < psI l (p, c) ∨ psI l (p, c) < -1099511627776) → badS l := fun h => ⟨(p, c), h⟩
      have hbt : -1099511627776 ≤ psI l (p, c) ∧ psI l (p, c) ≤ 1099511627776 → ∀ q ∈ P.take (j + 1), -1099511627776 ≤ psI l (q, c) ∧ psI l (q, c) ≤ 1099511627776 := fun h q hq => by
        rcases mem_take_snoc hp hq with r | r
        · exact hMb q r
        · rw [r]; exact h
      generalize psI l (p, c) = n at *
      repeat' (first | ((with_reducible refine gRc ?_); refine AW_nilD 4 2 rfl ?_) | ((with_reducible refine gA ?_); (first | refine AW_seq ?_ | refine AW_region ?_ | refine AW_regionD Tryz.mixed ?_ | refine AW_condT rfl ?_ | (refine AW_condY rfl ?_ ?_; assumption) | (refine AW_cond rfl (fun hc => ?_) (fun hc => ?_) <;> try (exfalso; simp only [cmpL] at hc; omega)) | refine AW_block ?_ | refine AW_ret ?_ | refine AW_skip ?_)) | (first | ((with_reducible refine gS ?_); refine Es_s (T := Tryz.tab) rfl rfl rfl rfl ?_) | ((with_reducible refine gD ?_); refine Ed_s (T := Tryz.tab) rfl rfl rfl rfl ?_)) | ((first | ((with_reducible refine gS ?_); apply Es_q) | ((with_reducible refine gD ?_); apply Ed_q)); rfl; (first | rfl | (refine w_ff ?_; assumption)); refine LStep_call (ca) rfl rfl rfl rfl) | ((first | ((with_reducible refine gS ?_); apply Es_xs) | ((with_reducible refine gD ?_); apply Ed_xs)); rfl; (first | rfl | (refine w_ff ?_; assumption)); (refine LStep_append (T := Tryz.tab) rfl rfl rfl rfl rfl rfl rfl rfl rfl rfl ?_ ?_ ?_; rfl; (simp only [List.length_cons, List.length_nil]; omega); (unfold maxLen; simp only [List.length_cons, List.length_nil]; omega)); rfl) | ((first | ((with_reducible refine gS ?_); apply Es_q) | ((with_reducible refine gD ?_); apply Ed_q)); rfl; (first | rfl | (refine w_ff ?_; assumption)); (first | refine LStep_simp (T := Tryz.tab) rfl rfl | refine LStep_lenM (T := Tryz.tab) rfl rfl rfl rfl | (refine LStep_add rfl rfl rfl rfl ?_; (refine IntWalk.i64_in _ ?_; first | omega | (simp only [cmps] at *; omega))) | (refine LStep_pickT rfl rfl ?_ rfl rfl; assumption) | (refine LStep_pickF rfl rfl ?_ rfl rfl; assumption) | (refine LStep_indexM (T := Tryz.tab) (c := ?_) rfl rfl rfl rfl rfl rfl ?_; rotate_left; assumption) | (refine LStep_lit (T := Tryz.tab) rfl rfl rfl rfl rfl rfl rfl rfl ?_; (refine Nat.le_of_ble_eq_true ?_; rfl)))) | (refine Es_skip rfl ?_ rfl ?_; (first | rfl | (refine w_tf ?_; assumption) | (refine w_ft ?_; assumption))) | (refine Es_split rfl ?_ (fun _ => ?_) (fun _ => ?_); ((fail_if_success (refine und_t ?_; assumption)); (fail_if_success (refine und_f ?_; assumption)); exact trivial)) | (with_reducible refine Es_nil ?_) | ((with_reducible refine Ed_nil ?_ ?_); kernel_rfl) | (with_reducible refine then_n ?_) | (with_reducible refine then_r ?_) | (with_reducible refine block_n ?_) | (with_reducible refine block_r ?_) | ((with_reducible refine gR ?_); first | refine ret1 rfl ?_ | refine ret2 rfl rfl ?_ | refine ret0 ?_ | refine end1 rfl ?_ | refine end0 ?_))
      all_goals try simp only [cmps] at *
      all_goals first
        | (exfalso; omega)
        | exact .inl ⟨hb (by omega), rfl⟩
        | (refine ⟨(j + 1, M ++ [[.sc (.int .i64 n)]]), ?_, by omega, by (repeat' (first | exact trivial | exact rfl | (refine ⟨Or.inl rfl, ?_⟩) | (refine ⟨Or.inr rfl, ?_⟩) | (refine ⟨Or.inr trivial, ?_⟩) | (refine ⟨rfl, ?_⟩) | (refine ⟨?_, ?_⟩))), by (repeat' (first | exact trivial | exact rfl | (refine ⟨Or.inl rfl, ?_⟩) | (refine ⟨Or.inr rfl, ?_⟩) | (refine ⟨Or.inr trivial, ?_⟩) | (refine ⟨rfl, ?_⟩) | (refine ⟨?_, ?_⟩))), by (repeat' (first | exact trivial | exact rfl | (refine ⟨Or.inl rfl, ?_⟩) | (refine ⟨Or.inr rfl, ?_⟩) | (refine ⟨Or.inr trivial, ?_⟩) | (refine ⟨rfl, ?_⟩) | (refine ⟨?_, ?_⟩))), by (repeat' (first | exact trivial | exact rfl | (refine ⟨Or.inl rfl, ?_⟩) | (refine ⟨Or.inr rfl, ?_⟩) | (refine ⟨Or.inr trivial, ?_⟩) | (refine ⟨rfl, ?_⟩) | (refine ⟨?_, ?_⟩)))⟩; exact ⟨by omega, by (dsimp only; rw [List.length_append, hMl]; rfl), hMx, hbt (by omega)⟩)
        | trace_state
    · have hjl : j = P.length := by omega
      subst hjl
      have g2 : ltb (P.length : Nat) (P.length : Nat) = false := by rw [ltb_f]; omega
      rw [List.take_length] at hM hMb
      rw [← hro] at hM
      have hlp0 : RowLp c P (tagC c (setA (rowC l c))) (rowC l c) [] := ⟨by rw [hro, List.map_map]; exact (List.map_congr_left (fun _ _ => rfl)).trans (List.map_id _), fun a ha => by
        rw [hro] at ha
        obtain ⟨p, hp, rfl⟩ := List.mem_map.1 ha
        exact hMb p hp, hsu, rfl⟩
      have hMl' : M.length = (amE (rowC l c)).length := by rw [hM]
      subst hM
      generalize hRR : tagC c (setA (rowC l c)) = R at *
      generalize rowC l c = A0 at *
      repeat' (first | ((with_reducible refine gA ?_); (first | refine AW_seq ?_ | refine AW_region ?_ | (refine AW_condN rfl ?_ ?_; assumption) | refine AW_block ?_ | refine AW_exit ?_)) | ((with_reducible refine gS ?_); refine Es_s (T := Tryz.tab) rfl rfl rfl rfl ?_) | (((with_reducible refine gS ?_); apply Es_q); rfl; rfl; refine LStep_lenM (T := Tryz.tab) rfl rfl rfl rfl) | (with_reducible refine Es_nil ?_) | (with_reducible refine then_n ?_) | (with_reducible refine then_e ?_) | ((with_reducible refine block_e ?_ ?_); rfl))
      refine AW_openNil (t := 11) (id := 2001) (e := 38) (sz := 4) rfl rfl rfl rfl ?_
      refine AW_forE (S := List PA × List Db) (fun z => RowLp c P R z.1 z.2) (fun z => [(11, .own 2001 (z.2.map dbE).length)]) (fun z => [(29, some (.arr 2 1 (amE z.1))), (2001, some (.arr 38 4 (z.2.map dbE)))]) (fun z => R.length - z.2.length) (A0, []) hlp0 (by (repeat' (first | exact trivial | exact rfl | (refine ⟨Or.inl rfl, ?_⟩) | (refine ⟨Or.inr rfl, ?_⟩) | (refine ⟨Or.inr trivial, ?_⟩) | (refine ⟨rfl, ?_⟩) | (refine ⟨?_, ?_⟩)))) (by (repeat' (first | exact trivial | exact rfl | (refine ⟨Or.inl rfl, ?_⟩) | (refine ⟨Or.inr rfl, ?_⟩) | (refine ⟨Or.inr trivial, ?_⟩) | (refine ⟨rfl, ?_⟩) | (refine ⟨?_, ?_⟩)))) ?_
      intro ⟨A, E2⟩ hlp
      dsimp only at hlp ⊢
      have hAl := hlp.len
      have hal : (amE A).length = P.length := by rw [amE_len, hAl]
      have hA0l : (amE A0).length = P.length := by rw [amE_len, hlp0.len]
      have hmin : -1 + 1 ≤ (P.length : Int) := by omega
      repeat' (first | ((with_reducible refine gA ?_); (first | refine AW_seq ?_ | refine AW_region ?_ | refine AW_block ?_)) | ((with_reducible refine gS ?_); refine Es_s (T := Tryz.tab) rfl rfl rfl rfl ?_) | (((with_reducible refine gS ?_); apply Es_q); rfl; rfl; (first | refine LStep_lenM (T := Tryz.tab) rfl rfl rfl rfl | (refine LStep_sub rfl rfl rfl rfl ?_; (refine IntWalk.i64_in _ ?_; first | omega | (simp only [cmps] at *; omega))))) | (with_reducible refine Es_nil ?_) | (with_reducible refine then_n ?_))
      refine AW_forE (S := Int × Int × Int) (fun z => -1 ≤ z.1 ∧ z.1 < (P.length : Nat) ∧ z.2.1 = idxG isNeg (A.drop (z.1 + 1).toNat) (z.1 + 1).toNat ∧ z.2.2 = idxG isPos (A.drop (z.1 + 1).toNat) (z.1 + 1).toNat) (fun z => [(14, .d (.sc (.int .i64 z.1))), (12, .d (.sc (.int .i64 z.2.1))), (13, .d (.sc (.int .i64 z.2.2)))]) (fun _ => []) (fun z => (z.1 + 1).toNat) ((P.length : Int) - 1, -1, -1) ⟨by dsimp only; omega, by dsimp only; omega, by (dsimp only; rw [List.drop_eq_nil_of_le (by omega)]; rfl), by (dsimp only; rw [List.drop_eq_nil_of_le (by omega)]; rfl)⟩ (by (repeat' (first | exact trivial | exact rfl | (refine ⟨Or.inl rfl, ?_⟩) | (refine ⟨Or.inr rfl, ?_⟩) | (refine ⟨Or.inr trivial, ?_⟩) | (refine ⟨rfl, ?_⟩) | (refine ⟨?_, ?_⟩)))) (by (repeat' (first | exact trivial | exact rfl | (refine ⟨Or.inl rfl, ?_⟩) | (refine ⟨Or.inr rfl, ?_⟩) | (refine ⟨Or.inr trivial, ?_⟩) | (refine ⟨rfl, ?_⟩) | (refine ⟨?_, ?_⟩)))) ?_
      intro ⟨i, ow', od⟩ ⟨hi0, hi1, how, hod⟩
      dsimp only at hi0 hi1 how hod ⊢
      by_cases hi : 0 ≤ i
      · have g3 : leb 0 i = true := by rw [leb_t]; exact hi
        obtain ⟨⟨pa, xa⟩, hxa, hda⟩ := drop_at (l := A) (k := i.toNat) (by omega)
        have hget : (amE A)[i.toNat]? = some [.sc (.int .i64 xa)] := amE_get hxa
        have hki : i < ((amE A).length : Nat) := by omega
        have e1 : (i + 1).toNat = i.toNat + 1 := by omega
        have e2 : (i - 1 + 1).toNat = i.toNat := by omega
        have e3 : ((i.toNat : Nat) : Int) = i := by omega
        rw [e1] at how hod
        have sN : idxG isNeg (A.drop (i - 1 + 1).toNat) (i - 1 + 1).toNat = if xa < 0 then i else ow' := by
          rw [e2, hda, idxG, how, e3]
          by_cases hx : xa < 0
          · rw [if_pos (by simpa [isNeg] using hx), if_pos hx]
          · rw [if_neg (by simpa [isNeg] using hx), if_neg hx]
        have sP : idxG isPos (A.drop (i - 1 + 1).toNat) (i - 1 + 1).toNat = if 0 < xa then i else od := by
          rw [e2, hda, idxG, hod, e3]
          by_cases hx : 0 < xa
          · rw [if_pos (by simpa [isPos] using hx), if_pos hx]
          · rw [if_neg (by simpa [isPos] using hx), if_neg hx]
        repeat' (first | ((with_reducible refine gA ?_); (first | refine AW_seq ?_ | refine AW_region ?_ | (refine AW_condY rfl ?_ ?_; assumption) | (refine AW_cond rfl (fun hc => ?_) (fun hc => ?_) <;> try (exfalso; simp only [cmpL] at hc; omega)) | refine AW_block ?_ | refine AW_skip ?_)) | ((with_reducible refine gS ?_); refine Es_s (T := Tryz.tab) rfl rfl rfl rfl ?_) | (((with_reducible refine gS ?_); apply Es_q); rfl; rfl; (first | refine LStep_indexOwn (T := Tryz.tab) rfl rfl rfl rfl rfl rfl rfl (hal.trans hA0l.symm) hi hki | refine LStep_loadE (T := Tryz.tab) rfl rfl rfl rfl rfl (hal.trans hA0l.symm) hget rfl)) | (((with_reducible refine gS ?_); apply Es_q); rfl; rfl; (refine LStep_sub rfl rfl rfl rfl ?_; (refine IntWalk.i64_in _ ?_; first | omega | (simp only [cmps] at *; omega)))) | (with_reducible refine Es_nil ?_) | (with_reducible refine then_n ?_) | (with_reducible refine block_n ?_))
        all_goals try simp only [cmps] at *
        all_goals first
          | (exfalso; omega)
          | (refine ⟨(i - 1, i, od), ⟨by (dsimp only; omega), by (dsimp only; omega), by (dsimp only; rw [sN, if_pos (by omega)]), by (dsimp only; rw [sP, if_neg (by omega)])⟩, by (dsimp only; omega), by (repeat' (first | exact trivial | exact rfl | (refine ⟨Or.inl rfl, ?_⟩) | (refine ⟨Or.inr rfl, ?_⟩) | (refine ⟨Or.inr trivial, ?_⟩) | (refine ⟨rfl, ?_⟩) | (refine ⟨?_, ?_⟩))), by (repeat' (first | exact trivial | exact rfl | (refine ⟨Or.inl rfl, ?_⟩) | (refine ⟨Or.inr rfl, ?_⟩) | (refine ⟨Or.inr trivial, ?_⟩) | (refine ⟨rfl, ?_⟩) | (refine ⟨?_, ?_⟩))), by (repeat' (first | exact trivial | exact rfl | (refine ⟨Or.inl rfl, ?_⟩) | (refine ⟨Or.inr rfl, ?_⟩) | (refine ⟨Or.inr trivial, ?_⟩) | (refine ⟨rfl, ?_⟩) | (refine ⟨?_, ?_⟩))), by (repeat' (first | exact trivial | exact rfl | (refine ⟨Or.inl rfl, ?_⟩) | (refine ⟨Or.inr rfl, ?_⟩) | (refine ⟨Or.inr trivial, ?_⟩) | (refine ⟨rfl, ?_⟩) | (refine ⟨?_, ?_⟩)))⟩; done)
          | (refine ⟨(i - 1, ow', i), ⟨by (dsimp only; omega), by (dsimp only; omega), by (dsimp only; rw [sN, if_neg (by omega)]), by (dsimp only; rw [sP, if_pos (by omega)])⟩, by (dsimp only; omega), by (repeat' (first | exact trivial | exact rfl | (refine ⟨Or.inl rfl, ?_⟩) | (refine ⟨Or.inr rfl, ?_⟩) | (refine ⟨Or.inr trivial, ?_⟩) | (refine ⟨rfl, ?_⟩) | (refine ⟨?_, ?_⟩))), by (repeat' (first | exact trivial | exact rfl | (refine ⟨Or.inl rfl, ?_⟩) | (refine ⟨Or.inr rfl, ?_⟩) | (refine ⟨Or.inr trivial, ?_⟩) | (refine ⟨rfl, ?_⟩) | (refine ⟨?_, ?_⟩))), by (repeat' (first | exact trivial | exact rfl | (refine ⟨Or.inl rfl, ?_⟩) | (refine ⟨Or.inr rfl, ?_⟩) | (refine ⟨Or.inr trivial, ?_⟩) | (refine ⟨rfl, ?_⟩) | (refine ⟨?_, ?_⟩))), by (repeat' (first | exact trivial | exact rfl | (refine ⟨Or.inl rfl, ?_⟩) | (refine ⟨Or.inr rfl, ?_⟩) | (refine ⟨Or.inr trivial, ?_⟩) | (refine ⟨rfl, ?_⟩) | (refine ⟨?_, ?_⟩)))⟩; done)
          | (refine ⟨(i - 1, ow', od), ⟨by (dsimp only; omega), by (dsimp only; omega), by (dsimp only; rw [sN, if_neg (by omega)]), by (dsimp only; rw [sP, if_neg (by omega)])⟩, by (dsimp only; omega), by (repeat' (first | exact trivial | exact rfl | (refine ⟨Or.inl rfl, ?_⟩) | (refine ⟨Or.inr rfl, ?_⟩) | (refine ⟨Or.inr trivial, ?_⟩) | (refine ⟨rfl, ?_⟩) | (refine ⟨?_, ?_⟩))), by (repeat' (first | exact trivial | exact rfl | (refine ⟨Or.inl rfl, ?_⟩) | (refine ⟨Or.inr rfl, ?_⟩) | (refine ⟨Or.inr trivial, ?_⟩) | (refine ⟨rfl, ?_⟩) | (refine ⟨?_, ?_⟩))), by (repeat' (first | exact trivial | exact rfl | (refine ⟨Or.inl rfl, ?_⟩) | (refine ⟨Or.inr rfl, ?_⟩) | (refine ⟨Or.inr trivial, ?_⟩) | (refine ⟨rfl, ?_⟩) | (refine ⟨?_, ?_⟩))), by (repeat' (first | exact trivial | exact rfl | (refine ⟨Or.inl rfl, ?_⟩) | (refine ⟨Or.inr rfl, ?_⟩) | (refine ⟨Or.inr trivial, ?_⟩) | (refine ⟨rfl, ?_⟩) | (refine ⟨?_, ?_⟩)))⟩; done)
          | trace_state
      · have hin : i = -1 := by omega
        subst hin
        have g3 : leb 0 (-1) = false := by rw [leb_f]; omega
        have e1 : ((-1 : Int) + 1).toNat = 0 := by decide
        rw [e1, List.drop_zero] at how hod
        have hRl : E2.length + (tagC c (setA A)).length = R.length := by rw [← hlp.eq, List.length_append]
        rcases idxG_at isNeg A 0 with ⟨q1, q2⟩ | ⟨f, q1, ⟨a1, q2, q3⟩, q4⟩
        · have hz : E2 = R := by
            have := hlp.eq
            rw [show setA A = [] from by unfold setA; rw [ngs_none (fun a ha => by have := of_decide_eq_false (q2 a ha); omega), set2_nilL]] at this
            simpa [tagC] using this
          rw [q1] at how
          subst how
          have g4 : ltb (-1) 0 = true := by rw [ltb_t]; omega
          have hmE : (E ++ R).map dbE = E.map dbE ++ R.map dbE := List.map_append
          subst hz
          repeat' (first | ((with_reducible refine gA ?_); (first | refine AW_seq ?_ | refine AW_region ?_ | (refine AW_condY rfl ?_ ?_; assumption) | (refine AW_condN rfl ?_ ?_; assumption) | refine AW_exit ?_)) | ((with_reducible refine gS ?_); refine Es_s (T := Tryz.tab) rfl rfl rfl rfl ?_) | (((with_reducible refine gS ?_); apply Es_xs); rfl; rfl; (refine LStep_appendOO (T := Tryz.tab) rfl rfl rfl rfl rfl rfl rfl rfl rfl rfl rfl ?_ ?_ ?_ ?_; rfl; rfl; (simp only [List.length_map]; omega); (unfold maxLen; simp only [List.length_map]; omega)); rfl) | (((with_reducible refine gS ?_); apply Es_q); rfl; rfl; (refine LStep_add rfl rfl rfl rfl ?_; (refine IntWalk.i64_in _ ?_; first | omega | (simp only [cmps] at *; omega)))) | (with_reducible refine Es_nil ?_) | (with_reducible refine then_n ?_) | (with_reducible refine then_e ?_) | (with_reducible refine block_n ?_) | ((with_reducible refine block_e ?_ ?_); rfl) | ((with_reducible refine block_x ?_ ?_); rfl))
          refine ⟨(k + 1, E ++ E2), ⟨by (dsimp only; omega), by (dsimp only; rw [List.length_append]; omega), by (dsimp only; rw [hnx, hE]), fun c' hc' p' hp' => ?_⟩, by (dsimp only; omega), ?_, by (repeat' (first | exact trivial | exact rfl | (refine ⟨Or.inl rfl, ?_⟩) | (refine ⟨Or.inr rfl, ?_⟩) | (refine ⟨Or.inr trivial, ?_⟩) | (refine ⟨rfl, ?_⟩) | (refine ⟨?_, ?_⟩))), ?_, by (repeat' (first | exact trivial | exact rfl | (refine ⟨Or.inl rfl, ?_⟩) | (refine ⟨Or.inr rfl, ?_⟩) | (refine ⟨Or.inr trivial, ?_⟩) | (refine ⟨rfl, ?_⟩) | (refine ⟨?_, ?_⟩)))⟩
          · rcases mem_take_snoc hc hc' with r | r
            · exact hEb c' r p' hp'
            · rw [r]; exact hMb p' hp'
          · dsimp only; rw [hmE]; (repeat' (first | exact trivial | exact rfl | (refine ⟨Or.inl rfl, ?_⟩) | (refine ⟨Or.inr rfl, ?_⟩) | (refine ⟨Or.inr trivial, ?_⟩) | (refine ⟨rfl, ?_⟩) | (refine ⟨?_, ?_⟩)))
          · dsimp only; rw [hmE]; (repeat' (first | exact trivial | exact rfl | (refine ⟨Or.inl rfl, ?_⟩) | (refine ⟨Or.inr rfl, ?_⟩) | (refine ⟨Or.inr trivial, ?_⟩) | (refine ⟨rfl, ?_⟩) | (refine ⟨?_, ?_⟩)))
        · rw [q1, Nat.zero_add] at how
          have hpos : ∃ t : Nat, od = (t : Int) ∧ (∃ x, A[t]? = some x ∧ isPos x = true) ∧ ∀ x ∈ A.take t, isPos x = false := by
            rcases idxG_at isPos A 0 with ⟨r1, r2⟩ | ⟨t, r1, r2, r3⟩
            · exfalso
              have h1 := ngs_pss_sum A
              rw [hlp.sum, pss_none (fun a ha => by have := of_decide_eq_false (r2 a ha); omega)] at h1
              have h2 : ngs A = (a1.1, -a1.2) :: ngs (A.drop (f + 1)) := by
                conv => lhs; rw [split_at q2]
                rw [ngs_app, ngs_none (fun a ha => by have := of_decide_eq_false (q4 a ha); omega), ngs_cons, if_pos (of_decide_eq_true q3)]; rfl
              rw [h2, sumP_cons, sumP_nil] at h1
              have h3 := sumP_nn (ngs_pos (A.drop (f + 1)))
              have := of_decide_eq_true q3
              dsimp only at h1
              omega
            · exact ⟨t, by rw [hod, r1, Nat.zero_add], r2, r3⟩
          obtain ⟨t, r1, ⟨a2, r2, r3⟩, r4⟩ := hpos
          subst how
          subst r1
          obtain ⟨p, x⟩ := a1
          obtain ⟨q, y⟩ := a2
          have hx0 : x < 0 := of_decide_eq_true q3
          have hy0 : 0 < y := of_decide_eq_true r3
          have hxb := hlp.bd _ (List.mem_of_getElem? q2)
          have hyb := hlp.bd _ (List.mem_of_getElem? r2)
          dsimp only at hxb hyb
          have hst : SetSt A f t := ⟨fun a ha => by have := of_decide_eq_false (q4 a ha); omega, fun a ha => by have := of_decide_eq_false (r4 a ha); omega⟩
          obtain ⟨_, hset2⟩ := hst.pay q2 r2 hx0 hy0
          have hsA : setA A = _ := hset2
          have heq := hlp.eq
          rw [hsA, tagC_cons] at heq
          have hn0 : 1 ≤ payI (-x) y ∧ payI (-x) y ≤ -x ∧ payI (-x) y ≤ y := by unfold payI; split <;> omega
          have hmn : minI (wrp .i64 (0 - x)) y = payI (-x) y := by rw [wrp_fit (by omega)]; unfold minI payI; split <;> split <;> omega
          have hne : f ≠ t := fun e => by rw [e, r2] at q2; cases q2; omega
          generalize payI (-x) y = n at *
          have hfl := (List.getElem?_eq_some_iff.1 q2).1
          have htl := (List.getElem?_eq_some_iff.1 r2).1
          have hA1 : (A.set f (p, x + n))[t]? = some (q, y) := by rw [List.getElem?_set_ne hne]; exact r2
          have w1 : (amE A)[f]? = some [.sc (.int .i64 x)] := amE_get q2
          have w2 : (amE A)[t]? = some [.sc (.int .i64 y)] := amE_get r2
          have w3 : (amE A).set f (setsD [.sc (.int .i64 x)] 0 [.sc (.int .i64 (x + n))]) = amE (A.set f (p, x + n)) := amE_set (p, x + n)
          have w4 : ((amE A).set f (setsD [.sc (.int .i64 x)] 0 [.sc (.int .i64 (x + n))]))[t]? = some [.sc (.int .i64 y)] := by rw [w3]; exact amE_get hA1
          have w5 : ((amE A).set f (setsD [.sc (.int .i64 x)] 0 [.sc (.int .i64 (x + n))])).set t (setsD [.sc (.int .i64 y)] 0 [.sc (.int .i64 (y - n))]) = amE ((A.set f (p, x + n)).set t (q, y - n)) := by rw [w3]; exact amE_set (q, y - n)
          have l1 : ((amE A).set f (setsD [.sc (.int .i64 x)] 0 [.sc (.int .i64 (x + n))])).length = P.length := by rw [List.length_set]; exact hal
          have lf : f < ((amE A).length : Nat) := by rw [amE_len]; exact hfl
          have lt : t < ((amE A).length : Nat) := by rw [amE_len]; exact htl
          have lf2 : f < ((amE A).set f (setsD [.sc (.int .i64 x)] 0 [.sc (.int .i64 (x + n))])).length := by rw [List.length_set]; exact lf
          have lt2 : t < ((amE A).set f (setsD [.sc (.int .i64 x)] 0 [.sc (.int .i64 (x + n))])).length := by rw [List.length_set]; exact lt
          have hPf : P[f]? = some p := by rw [← hlp.fst, List.getElem?_map, q2]; rfl
          have hPt : P[t]? = some q := by rw [← hlp.fst, List.getElem?_map, r2]; rfl
          have hEl2 : E2.length + 1 ≤ R.length := by
            have := congrArg List.length heq
            rw [List.length_append, List.length_cons] at this
            omega
          have hm : (E2 ++ [((c, p, q), n)]).map dbE = E2.map dbE ++ [[.sc (.string p), .sc (.string q), .sc (.string c), .sc (.int .i64 n)]] := by rw [List.map_append]; rfl
          have hlp' : RowLp c P R ((A.set f (p, x + n)).set t (q, y - n)) (E2 ++ [((c, p, q), n)]) := by
            refine ⟨?_, fun a ha => ?_, ?_, by rw [List.append_assoc]; exact heq⟩
            · rw [fst_set hA1, fst_set q2, hlp.fst]
            · rcases List.mem_or_eq_of_mem_set ha with h | h
              · rcases List.mem_or_eq_of_mem_set h with h | h
                · exact hlp.bd a h
                · rw [h]; dsimp only; omega
              · rw [h]; dsimp only; omega
            · rw [sumP_set hA1, sumP_set q2, hlp.sum]; omega
          generalize (A.set f (p, x + n)).set t (q, y - n) = A' at *
          have g4 : ltb ((f : Nat) : Int) 0 = false := by rw [ltb_f]; omega
          have fP : f < P.length := by omega
          have tP : t < P.length := by omega
          repeat' (first | ((with_reducible refine gA ?_); (first | refine AW_seq ?_ | refine AW_region ?_ | refine AW_regionD Tryz.mixed ?_ | (refine AW_condN rfl ?_ ?_; assumption) | refine AW_skip ?_ | refine AW_exit ?_)) | (first | ((with_reducible refine gS ?_); refine Es_s (T := Tryz.tab) rfl rfl rfl rfl ?_) | ((with_reducible refine gD ?_); refine Ed_s (T := Tryz.tab) rfl rfl rfl rfl ?_)) | ((first | ((with_reducible refine gS ?_); apply Es_q) | ((with_reducible refine gD ?_); apply Ed_q)); rfl; rfl; (first | (refine LStep_indexOwnM (T := Tryz.tab) rfl rfl rfl rfl rfl rfl rfl ?_ ?_; (first | exact hal.trans hA0l.symm | exact l1.trans hA0l.symm); (first | exact lf | exact lt | exact lf2 | exact lt2)) | (refine LStep_loadE (T := Tryz.tab) rfl rfl rfl rfl rfl ?_ w1 rfl; exact hal.trans hA0l.symm) | (refine LStep_loadE (T := Tryz.tab) rfl rfl rfl rfl rfl ?_ w2 rfl; exact hal.trans hA0l.symm) | (refine LStep_loadE (T := Tryz.tab) rfl rfl rfl rfl rfl ?_ w4 rfl; exact l1.trans hA0l.symm) | refine LStep_min rfl rfl rfl rfl hmn)) | ((first | ((with_reducible refine gS ?_); apply Es_xs) | ((with_reducible refine gD ?_); apply Ed_xs)); rfl; rfl; (refine LStep_append (T := Tryz.tab) rfl rfl rfl rfl rfl rfl rfl rfl rfl rfl ?_ ?_ ?_; rfl; (simp only [List.length_map, List.length_cons, List.length_nil]; omega); (unfold maxLen; simp only [List.length_map, List.length_cons, List.length_nil]; omega)); rfl) | ((first | ((with_reducible refine gS ?_); apply Es_xn) | ((with_reducible refine gD ?_); apply Ed_xn)); rfl; rfl; (first | (refine LStep_storeE (T := Tryz.tab) rfl rfl rfl rfl rfl rfl rfl rfl ?_ w1 ?_; exact hal.trans hA0l.symm; (refine Nat.le_of_ble_eq_true ?_; rfl)) | (refine LStep_storeE (T := Tryz.tab) rfl rfl rfl rfl rfl rfl rfl rfl ?_ w4 ?_; exact l1.trans hA0l.symm; (refine Nat.le_of_ble_eq_true ?_; rfl))); rfl) | ((first | ((with_reducible refine gS ?_); apply Es_q) | ((with_reducible refine gD ?_); apply Ed_q)); rfl; rfl; (first | (refine LStep_add rfl rfl rfl rfl ?_; (refine IntWalk.i64_in _ ?_; first | omega | (simp only [cmps] at *; omega))) | (refine LStep_sub rfl rfl rfl rfl ?_; (refine IntWalk.i64_in _ ?_; first | omega | (simp only [cmps] at *; omega))) | (refine LStep_indexM (T := Tryz.tab) (c := ?_) rfl rfl rfl rfl rfl rfl ?_; rotate_left; assumption) | (refine LStep_lit (T := Tryz.tab) rfl rfl rfl rfl rfl rfl rfl rfl ?_; (refine Nat.le_of_ble_eq_true ?_; rfl)) | refine LStep_buildN (T := Tryz.tab) rfl rfl rfl rfl rfl rfl rfl)) | (with_reducible refine Es_nil ?_) | ((with_reducible refine Ed_nil ?_ ?_); kernel_rfl) | (with_reducible refine then_n ?_) | (with_reducible refine then_e ?_) | (with_reducible refine block_n ?_) | ((with_reducible refine block_e ?_ ?_); rfl))
          all_goals first
            | (refine ⟨(A', E2 ++ [((c, p, q), n)]), hlp', by (dsimp only; simp only [List.length_append, List.length_cons, List.length_nil]; omega), ?_, by (repeat' (first | exact trivial | exact rfl | (refine ⟨Or.inl rfl, ?_⟩) | (refine ⟨Or.inr rfl, ?_⟩) | (refine ⟨Or.inr trivial, ?_⟩) | (refine ⟨rfl, ?_⟩) | (refine ⟨?_, ?_⟩))), ?_, by (repeat' (first | exact trivial | exact rfl | (refine ⟨Or.inl rfl, ?_⟩) | (refine ⟨Or.inr rfl, ?_⟩) | (refine ⟨Or.inr trivial, ?_⟩) | (refine ⟨rfl, ?_⟩) | (refine ⟨?_, ?_⟩)))⟩
               · dsimp only; rw [hm]; (repeat' (first | exact trivial | exact rfl | (refine ⟨Or.inl rfl, ?_⟩) | (refine ⟨Or.inr rfl, ?_⟩) | (refine ⟨Or.inr trivial, ?_⟩) | (refine ⟨rfl, ?_⟩) | (refine ⟨?_, ?_⟩)))
               · dsimp only; rw [hm, ← w5]; (repeat' (first | exact trivial | exact rfl | (refine ⟨Or.inl rfl, ?_⟩) | (refine ⟨Or.inr rfl, ?_⟩) | (refine ⟨Or.inr trivial, ?_⟩) | (refine ⟨rfl, ?_⟩) | (refine ⟨?_, ?_⟩))))
            | trace_state
  · have hkl : k = C.length := by omega
    subst hkl
    have g1 : ltb (C.length : Nat) (C.length : Nat) = false := by rw [ltb_f]; omega
    rw [List.take_length] at hE hEb
    repeat' (first | ((with_reducible refine gRc ?_); refine AW_freeze [2] (id := 2000) ⟨rfl, trivial⟩ rfl rfl ?_) | ((with_reducible refine gA ?_); (first | refine AW_seq ?_ | refine AW_region ?_ | (refine AW_condN rfl ?_ ?_; assumption) | refine AW_ret ?_ | refine AW_exit ?_)) | ((with_reducible refine gS ?_); refine Es_s (T := Tryz.tab) rfl rfl rfl rfl ?_) | (((with_reducible refine gS ?_); apply Es_q); rfl; rfl; refine LStep_lenM (T := Tryz.tab) rfl rfl rfl rfl) | (with_reducible refine Es_nil ?_) | (with_reducible refine then_n ?_) | (with_reducible refine then_e ?_) | ((with_reducible refine block_e ?_ ?_); rfl) | ((with_reducible refine gR ?_); first | refine ret1 rfl ?_ | refine ret2 rfl rfl ?_ | refine ret0 ?_ | refine end1 rfl ?_ | refine end0 ?_))
    all_goals first
      | exact hR E hE (hgrid hEb)
      | trace_state
end Go.Proofs.YtbhgpeghddnidaaGreat
