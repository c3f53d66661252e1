import Derived.Test.YtldfncafkdmoiaaFH
import Derived.Test.YtldfncafkdmoiaaFD
import Derived.Test.YtldfncafkdmoiaaTf
namespace Go.Proofs.Ytldfncafkdmoiaa
open Go.SL
/-! ### slices.SortStableFunc at ints, 41 at most: swapRange, rotate, symMerge -/
section
variable {g : FuncId} {cmp : Nat → Nat → Int} {ro : List AV} {re : Nat} {rd : List (List D)}
theorem set2_far {α : Type} (P Q T : List α) (x y : α) : ((P ++ x :: (Q ++ y :: T)).set P.length y).set (P.length + 1 + Q.length) x = P ++ y :: (Q ++ x :: T) := by
  rw [List.set_append_right _ _ (by omega), Nat.sub_self, List.set_cons_zero, List.set_append_right _ _ (by omega), show P.length + 1 + Q.length - P.length = Q.length + 1 by omega, List.set_cons_succ, List.set_append_right _ _ (by omega), Nat.sub_self, List.set_cons_zero]
def swZ (A L M R B : List Nat) (i : Nat) : List Nat := A ++ ((R.take i ++ L.drop i) ++ (M ++ ((L.take i ++ R.drop i) ++ B)))
theorem swZ_zero (A L M R B : List Nat) : swZ A L M R B 0 = A ++ (L ++ (M ++ (R ++ B))) := by unfold swZ; simp
theorem swZ_end {A L M R B : List Nat} {c : Nat} (hL : L.length = c) (hR : R.length = c) : swZ A L M R B c = A ++ (R ++ (M ++ (L ++ B))) := by
  unfold swZ
  rw [List.take_of_length_le (by omega), List.drop_eq_nil_of_le (by omega), List.take_of_length_le (by omega), List.drop_eq_nil_of_le (by omega), List.append_nil, List.append_nil]
theorem swZ_at {A L M R B : List Nat} {a b i x y : Nat} (ha : A.length = a) (hb : a + L.length + M.length = b) (hx : L[i]? = some x) (hy : R[i]? = some y) :
    (swZ A L M R B i)[a + i]? = some x ∧ (swZ A L M R B i)[b + i]? = some y ∧ ((swZ A L M R B i).set (a + i) y).set (b + i) x = swZ A L M R B (i + 1) ∧ (swZ A L M R B i).length = A.length + L.length + M.length + R.length + B.length := by
  have hlx := (List.getElem?_eq_some_iff.1 hx).1
  have hly := (List.getElem?_eq_some_iff.1 hy).1
  obtain ⟨x', h1, h2⟩ := drop_at hlx
  rw [hx] at h1
  obtain rfl := Option.some.inj h1
  obtain ⟨y', h3, h4⟩ := drop_at hly
  rw [hy] at h3
  obtain rfl := Option.some.inj h3
  have e : swZ A L M R B i = (A ++ R.take i) ++ x :: ((L.drop (i + 1) ++ (M ++ L.take i)) ++ y :: (R.drop (i + 1) ++ B)) := by
    unfold swZ
    rw [h2, h4]
    simp only [List.append_assoc, List.cons_append]
  have e' : swZ A L M R B (i + 1) = (A ++ R.take i) ++ y :: ((L.drop (i + 1) ++ (M ++ L.take i)) ++ x :: (R.drop (i + 1) ++ B)) := by
    unfold swZ
    rw [take_at hx, take_at hy]
    simp only [List.append_assoc, List.cons_append, List.nil_append]
  have l1 : (A ++ R.take i).length = a + i := by rw [List.length_append, List.length_take]; omega
  have l2 : (A ++ R.take i).length + 1 + (L.drop (i + 1) ++ (M ++ L.take i)).length = b + i := by
    simp only [List.length_append, List.length_take, List.length_drop]; omega
  have s2 := set2_far (A ++ R.take i) (L.drop (i + 1) ++ (M ++ L.take i)) (R.drop (i + 1) ++ B) x y
  rw [l2, l1] at s2
  rw [e, e']
  refine ⟨?_, ?_, s2, ?_⟩
  · rw [List.getElem?_append_right (by omega), l1, Nat.sub_self]; rfl
  · rw [List.getElem?_append_right (by omega), show b + i - (A ++ R.take i).length = (L.drop (i + 1) ++ (M ++ L.take i)).length + 1 by omega, List.getElem?_cons_succ, List.getElem?_append_right (Nat.le_refl _), Nat.sub_self]; rfl
  · simp only [List.length_append, List.length_cons, List.length_take, List.length_drop]; omega
set_option maxRecDepth 10000 in
set_option maxHeartbeats 4000000 in
theorem swapN_ac (n a b c m0 : Nat) (A L M R B : List Nat) (ha : A.length = a) (hb : a + L.length + M.length = b) (hL : L.length = c) (hR : R.length = c) (hn : (A ++ (L ++ (M ++ (R ++ B)))).length = n) (hle : n ≤ 4096) :
    AC Try.prog 109 [.own 1000 n, .d (.sc (.int .i64 ((a : Nat) : Int))), .d (.sc (.int .i64 ((b : Nat) : Int))), .d (.sc (.int .i64 ((c : Nat) : Int))), .fn g [.ptr 1100 0]] (H3 [.own 1101 m0] re rd (A ++ (L ++ (M ++ (R ++ B))))) [1000, 1100, 1101]
      (fun r h' => r = .tup [] ∧ SubH (H3 [.own 1101 m0] re rd (A ++ (R ++ (M ++ (L ++ B))))) h') := by
  have hlen : A.length + L.length + M.length + R.length + B.length = n := by rw [← hn]; simp only [List.length_append]; omega
  unfold H3
  refine AC_enter Try.func109 rfl Try.ntmps109 (rv := []) rfl rfl (by simp) (fun w X G => ?_)
  repeat' (first | ((with_reducible refine gA ?_); (first | refine AW_seq ?_ | refine AW_region ?_ | refine AW_block ?_)) | ((with_reducible refine gS ?_); refine Es_s (T := Try.tab) rfl rfl rfl rfl ?_) | (with_reducible refine Es_nil ?_) | (with_reducible refine then_n ?_))
  refine AW_forE (S := Nat) (fun i => i ≤ c) (fun i => [(10, .d (.sc (.int .i64 ((i : Nat) : Int))))]) (fun i => [(1000, some (.arr 3 1 ((swZ A L M R B i).map nN)))]) (fun i => c - i) 0 (by omega) (by (repeat' (first | exact trivial | exact rfl | (refine ⟨Or.inl rfl, ?_⟩) | (refine ⟨Or.inr rfl, ?_⟩) | (refine ⟨Or.inr trivial, ?_⟩) | (refine ⟨rfl, ?_⟩) | (refine ⟨?_, ?_⟩)))) (by rw [swZ_zero]; (repeat' (first | exact trivial | exact rfl | (refine ⟨Or.inl rfl, ?_⟩) | (refine ⟨Or.inr rfl, ?_⟩) | (refine ⟨Or.inr trivial, ?_⟩) | (refine ⟨rfl, ?_⟩) | (refine ⟨?_, ?_⟩)))) ?_
  intro i hi
  by_cases hlt : i < c
  · obtain ⟨x, hx, _⟩ := drop_at (l := L) (k := i) (by omega)
    obtain ⟨y, hy, _⟩ := drop_at (l := R) (k := i) (by omega)
    obtain ⟨z1, z2, z3, z4⟩ := swZ_at (B := B) ha hb hx hy
    have g1 : ltb ((i : Nat) : Int) ((c : Nat) : Int) = true := by rw [ltb_t]; omega
    generalize hZ' : swZ A L M R B (i + 1) = Z' at *
    generalize swZ A L M R B i = Z at *
    have b1 : (Z.map nN)[a + i]? = some (nN x) := by rw [List.getElem?_map, z1]; rfl
    have b2 : ((Z.map nN).set (a + i) (nN y))[b + i]? = some (nN y) := by rw [List.getElem?_set_ne (by omega), List.getElem?_map, z2]; rfl
    have b4 : ((Z.map nN).set (a + i) (nN y)).set (b + i) (nN x) = Z'.map nN := by rw [← z3, List.map_set, List.map_set]
    have f1 : AV.d (.sc (.int .i64 (wrp .i64 (((a : Nat) : Int) + ((i : Nat) : Int))))) = AV.d (.sc (.int .i64 ((a + i : Nat) : Int))) := by rw [wrp_fit (by omega)]; congr 3
    have f2 : AV.d (.sc (.int .i64 (wrp .i64 (((b : Nat) : Int) + ((i : Nat) : Int))))) = AV.d (.sc (.int .i64 ((b + i : Nat) : Int))) := by rw [wrp_fit (by omega)]; congr 3
    repeat' (first | ((with_reducible refine gA ?_); (first | refine AW_seq ?_ | refine AW_region ?_ | refine AW_regionD Try.mixed ?_ | (refine AW_condY rfl ?_ ?_; assumption) | refine AW_block ?_ | refine AW_skip ?_)) | ((first | ((with_reducible refine gS ?_); apply Es_q) | ((with_reducible refine gD ?_); apply Ed_q)); rfl; rfl; (first | refine LStep_fitQ (T := Try.tab) rfl rfl f1 | refine LStep_fitQ (T := Try.tab) rfl rfl f2)) | (first | ((with_reducible refine gS ?_); refine Es_s (T := Try.tab) rfl rfl rfl rfl ?_) | ((with_reducible refine gD ?_); refine Ed_s (T := Try.tab) rfl rfl rfl rfl ?_)) | ((first | ((with_reducible refine gS ?_); apply Es_q) | ((with_reducible refine gD ?_); apply Ed_q)); rfl; rfl; (first | (refine LStep_indexOwnM (T := Try.tab) rfl rfl rfl rfl rfl rfl rfl ?_ ?_; (simp only [List.length_set, List.length_map]; omega); (simp only [List.length_set, List.length_map]; omega)) | (refine LStep_loadEM (T := Try.tab) rfl rfl rfl rfl rfl ?_ z1 rfl; (rw [List.length_map]; omega)) | (refine LStep_loadEM (T := Try.tab) rfl rfl rfl rfl rfl ?_ z2 rfl; (rw [List.length_map]; omega)))) | ((first | ((with_reducible refine gS ?_); apply Es_xn) | ((with_reducible refine gD ?_); apply Ed_xn)); rfl; rfl; (first | (refine LStep_storeE (T := Try.tab) rfl rfl rfl rfl rfl rfl rfl rfl ?_ b1 ?_; (simp only [List.length_set, List.length_map]; omega); (refine Nat.le_of_ble_eq_true ?_; rfl)) | (refine LStep_storeE (T := Try.tab) rfl rfl rfl rfl rfl rfl rfl rfl ?_ b2 ?_; (simp only [List.length_set, List.length_map]; omega); (refine Nat.le_of_ble_eq_true ?_; rfl))); rfl) | (((with_reducible refine gS ?_); apply Es_q); rfl; rfl; (refine LStep_add rfl rfl rfl rfl ?_; (refine IntWalk.i64_in _ ?_; first | omega | (simp only [cmps] at *; omega)))) | (with_reducible refine Es_nil ?_) | ((with_reducible refine Ed_nil ?_ ?_); kernel_rfl) | (with_reducible refine then_n ?_) | (with_reducible refine block_n ?_))
    all_goals first
      | (refine ⟨i + 1, by omega, by omega, by (repeat' (first | exact trivial | exact rfl | (refine ⟨Or.inl rfl, ?_⟩) | (refine ⟨Or.inr rfl, ?_⟩) | (refine ⟨Or.inr trivial, ?_⟩) | (refine ⟨rfl, ?_⟩) | (refine ⟨?_, ?_⟩))), by (repeat' (first | exact trivial | exact rfl | (refine ⟨Or.inl rfl, ?_⟩) | (refine ⟨Or.inr rfl, ?_⟩) | (refine ⟨Or.inr trivial, ?_⟩) | (refine ⟨rfl, ?_⟩) | (refine ⟨?_, ?_⟩))), ?_, by (repeat' (first | exact trivial | exact rfl | (refine ⟨Or.inl rfl, ?_⟩) | (refine ⟨Or.inr rfl, ?_⟩) | (refine ⟨Or.inr trivial, ?_⟩) | (refine ⟨rfl, ?_⟩) | (refine ⟨?_, ?_⟩)))⟩
         rw [hZ', ← b4]; (repeat' (first | exact trivial | exact rfl | (refine ⟨Or.inl rfl, ?_⟩) | (refine ⟨Or.inr rfl, ?_⟩) | (refine ⟨Or.inr trivial, ?_⟩) | (refine ⟨rfl, ?_⟩) | (refine ⟨?_, ?_⟩))))
      | trace_state
  · have : i = c := by omega
    subst this
    have g1 : ltb ((i : Nat) : Int) ((i : Nat) : Int) = false := by rw [ltb_f]; omega
    rw [swZ_end hL hR]
    repeat' (first | ((with_reducible refine gA ?_); (first | refine AW_seq ?_ | refine AW_region ?_ | (refine AW_condN rfl ?_ ?_; assumption) | refine AW_exit ?_)) | ((with_reducible refine gS ?_); refine Es_s (T := Try.tab) rfl rfl rfl rfl ?_) | (with_reducible refine Es_nil ?_) | (with_reducible refine then_n ?_) | (with_reducible refine then_e ?_) | ((with_reducible refine block_e ?_ ?_); rfl) | ((with_reducible refine gR ?_); first | refine ret1 rfl ?_ | refine ret2 rfl rfl ?_ | refine ret0 ?_ | refine end1 rfl ?_ | refine end0 ?_))
    all_goals first
      | exact ⟨rfl, by (repeat' (first | exact trivial | exact rfl | (refine ⟨Or.inl rfl, ?_⟩) | (refine ⟨Or.inr rfl, ?_⟩) | (refine ⟨Or.inr trivial, ?_⟩) | (refine ⟨rfl, ?_⟩) | (refine ⟨?_, ?_⟩)))⟩
      | trace_state
structure RotI (U V P U' V' T : List Nat) : Prop where
  eq : P ++ (V' ++ (U' ++ T)) = V ++ U
  len : P.length + U'.length = U.length
  x0 : 0 < U'.length
  y0 : 0 < V'.length
def rotZ (A B : List Nat) (s : List Nat × List Nat × List Nat × List Nat) : List Nat := A ++ (s.1 ++ (s.2.1 ++ (s.2.2.1 ++ (s.2.2.2 ++ B))))
set_option maxRecDepth 10000 in
set_option maxHeartbeats 8000000 in
theorem rotN_ac (n a m b m0 : Nat) (A U V B : List Nat) (ha : A.length = a) (hm : a + U.length = m) (hb : m + V.length = b) (hX : 0 < U.length) (hY : 0 < V.length) (hn : (A ++ (U ++ (V ++ B))).length = n) (hle : n ≤ 4096) :
    AC Try.prog 105 [.own 1000 n, .d (.sc (.int .i64 ((a : Nat) : Int))), .d (.sc (.int .i64 ((m : Nat) : Int))), .d (.sc (.int .i64 ((b : Nat) : Int))), .fn g [.ptr 1100 0]] (H3 [.own 1101 m0] re rd (A ++ (U ++ (V ++ B)))) [1000, 1100, 1101]
      (fun r h' => r = .tup [] ∧ SubH (H3 [.own 1101 m0] re rd (A ++ (V ++ (U ++ B)))) h') := by
  have hlen : A.length + U.length + V.length + B.length = n := by rw [← hn]; simp only [List.length_append]; omega
  have f0 : AV.d (.sc (.int .i64 (wrp .i64 (((m : Nat) : Int) - ((a : Nat) : Int))))) = AV.d (.sc (.int .i64 ((U.length : Nat) : Int))) := by rw [wrp_fit (by omega)]; congr 3; omega
  have f00 : AV.d (.sc (.int .i64 (wrp .i64 (((b : Nat) : Int) - ((m : Nat) : Int))))) = AV.d (.sc (.int .i64 ((V.length : Nat) : Int))) := by rw [wrp_fit (by omega)]; congr 3; omega
  have sw := fun c b A L M R B => swapN_ac (g := g) (re := re) (rd := rd) n (A : List Nat).length b c m0 A L M R B rfl
  unfold H3 at *
  refine AC_enter Try.func105 rfl Try.ntmps105 (rv := []) rfl rfl (by simp) (fun w X G => ?_)
  repeat' (first | ((with_reducible refine gA ?_); (first | refine AW_seq ?_ | refine AW_region ?_ | refine AW_block ?_)) | (((with_reducible refine gS ?_); apply Es_q); rfl; rfl; (first | refine LStep_fitQ (T := Try.tab) rfl rfl f0 | refine LStep_fitQ (T := Try.tab) rfl rfl f00)) | ((with_reducible refine gS ?_); refine Es_s (T := Try.tab) rfl rfl rfl rfl ?_) | (with_reducible refine Es_nil ?_) | (with_reducible refine then_n ?_))
  refine AW_forE (S := List Nat × List Nat × List Nat × List Nat) (fun s => RotI U V s.1 s.2.1 s.2.2.1 s.2.2.2) (fun s => [(10, .d (.sc (.int .i64 ((s.2.1.length : Nat) : Int)))), (11, .d (.sc (.int .i64 ((s.2.2.1.length : Nat) : Int))))]) (fun s => [(1000, some (.arr 3 1 ((rotZ A B s).map nN)))]) (fun s => s.2.1.length + s.2.2.1.length) ([], U, V, []) ⟨by simp, by simp, hX, hY⟩ (by (repeat' (first | exact trivial | exact rfl | (refine ⟨Or.inl rfl, ?_⟩) | (refine ⟨Or.inr rfl, ?_⟩) | (refine ⟨Or.inr trivial, ?_⟩) | (refine ⟨rfl, ?_⟩) | (refine ⟨?_, ?_⟩)))) (by (repeat' (first | exact trivial | exact rfl | (refine ⟨Or.inl rfl, ?_⟩) | (refine ⟨Or.inr rfl, ?_⟩) | (refine ⟨Or.inr trivial, ?_⟩) | (refine ⟨rfl, ?_⟩) | (refine ⟨?_, ?_⟩)))) ?_
  rintro ⟨P, U', V', T⟩ ⟨hq, hl, hx0, hy0⟩
  dsimp only at hq hl hx0 hy0
  have hq2 := congrArg List.length hq
  simp only [List.length_append] at hq2
  rcases Nat.lt_trichotomy U'.length V'.length with h | h | h
  · -- the left one is shorter
    have e1 : rotZ A B (P, U', V', T) = (A ++ P) ++ (U' ++ (V'.take (V'.length - U'.length) ++ (V'.drop (V'.length - U'.length) ++ (T ++ B)))) := by
      unfold rotZ
      dsimp only
      rw [← List.append_assoc (V'.take _), List.take_append_drop, List.append_assoc]
    have e2 : rotZ A B (P, V'.drop (V'.length - U'.length), V'.take (V'.length - U'.length), U' ++ T) = (A ++ P) ++ (V'.drop (V'.length - U'.length) ++ (V'.take (V'.length - U'.length) ++ (U' ++ (T ++ B)))) := by
      unfold rotZ
      dsimp only
      simp only [List.append_assoc]
    have c := sw U'.length (m + V'.length - U'.length) (A ++ P) U' (V'.take (V'.length - U'.length)) (V'.drop (V'.length - U'.length)) (T ++ B)
      (by rw [List.length_append, List.length_take]; omega) rfl (by rw [List.length_drop]; omega) (by simp only [List.length_append, List.length_take, List.length_drop]; omega) hle
    rw [← e1, ← e2, show (A ++ P).length = m - U'.length by rw [List.length_append]; omega] at c
    have g1 : (!eqb ((U'.length : Nat) : Int) ((V'.length : Nat) : Int)) = true := by rw [eqb_f.2 (by omega)]; rfl
    have g2 : ltb ((V'.length : Nat) : Int) ((U'.length : Nat) : Int) = false := by rw [ltb_f]; omega
    have f1 : AV.d (.sc (.int .i64 (wrp .i64 (((m : Nat) : Int) - ((U'.length : Nat) : Int))))) = AV.d (.sc (.int .i64 ((m - U'.length : Nat) : Int))) := by rw [wrp_fit (by omega)]; congr 3; omega
    have f2 : AV.d (.sc (.int .i64 (wrp .i64 (((m : Nat) : Int) + ((V'.length : Nat) : Int))))) = AV.d (.sc (.int .i64 ((m + V'.length : Nat) : Int))) := by rw [wrp_fit (by omega)]; congr 3
    have f3 : AV.d (.sc (.int .i64 (wrp .i64 (((m + V'.length : Nat) : Int) - ((U'.length : Nat) : Int))))) = AV.d (.sc (.int .i64 ((m + V'.length - U'.length : Nat) : Int))) := by rw [wrp_fit (by omega)]; congr 3; omega
    have f4 : AV.d (.sc (.int .i64 (wrp .i64 (((V'.length : Nat) : Int) - ((U'.length : Nat) : Int))))) = AV.d (.sc (.int .i64 ((V'.length - U'.length : Nat) : Int))) := by rw [wrp_fit (by omega)]; congr 3; omega
    have hZ : ((rotZ A B (P, U', V', T)).map nN).length = ((rotZ A B (P, V'.drop (V'.length - U'.length), V'.take (V'.length - U'.length), U' ++ T)).map nN).length := by
      rw [e1, e2]
      simp only [List.length_map, List.length_append, List.length_take, List.length_drop]
      omega
    have u1 : (V'.drop (V'.length - U'.length)).length = U'.length := by rw [List.length_drop]; omega
    have u2 : (V'.take (V'.length - U'.length)).length = V'.length - U'.length := by rw [List.length_take]; omega
    have hI : RotI U V P (V'.drop (V'.length - U'.length)) (V'.take (V'.length - U'.length)) (U' ++ T) :=
      ⟨by rw [← hq, ← List.append_assoc (V'.take _), List.take_append_drop], by omega, by omega, by omega⟩
    generalize V'.drop (V'.length - U'.length) = X2 at *
    generalize V'.take (V'.length - U'.length) = Y2 at *
    clear e1 e2
    generalize hZ2 : rotZ A B (P, X2, Y2, U' ++ T) = Z2 at *
    generalize rotZ A B (P, U', V', T) = Z1 at *
    repeat' (first | ((with_reducible refine gA ?_); (first | refine AW_seq ?_ | refine AW_region ?_ | (refine AW_condY rfl ?_ ?_; assumption) | (refine AW_condN rfl ?_ ?_; assumption) | refine AW_block ?_ | refine AW_skip ?_)) | (((with_reducible refine gS ?_); apply Es_q); rfl; rfl; (first | refine LStep_fitQ (T := Try.tab) rfl rfl f1 | refine LStep_fitQ (T := Try.tab) rfl rfl f2 | refine LStep_fitQ (T := Try.tab) rfl rfl f3 | refine LStep_fitQ (T := Try.tab) rfl rfl f4)) | ((with_reducible refine gS ?_); refine Es_s (T := Try.tab) rfl rfl rfl rfl ?_) | (((with_reducible refine gS ?_); apply Es_xg); rfl; rfl; refine LStep_callHN [] [] c rfl rfl ⟨rfl, rfl, rfl, trivial⟩ rfl ⟨hZ, trivial, rfl, trivial⟩ rfl rfl; rfl) | (with_reducible refine Es_nil ?_) | (with_reducible refine then_n ?_) | (with_reducible refine block_n ?_))
    all_goals first
      | (refine ⟨(P, X2, Y2, U' ++ T), hI, by dsimp only; omega, ?_, by (repeat' (first | exact trivial | exact rfl | (refine ⟨Or.inl rfl, ?_⟩) | (refine ⟨Or.inr rfl, ?_⟩) | (refine ⟨Or.inr trivial, ?_⟩) | (refine ⟨rfl, ?_⟩) | (refine ⟨?_, ?_⟩))), ?_, by (repeat' (first | exact trivial | exact rfl | (refine ⟨Or.inl rfl, ?_⟩) | (refine ⟨Or.inr rfl, ?_⟩) | (refine ⟨Or.inr trivial, ?_⟩) | (refine ⟨rfl, ?_⟩) | (refine ⟨?_, ?_⟩)))⟩
         · dsimp only; rw [u1, u2]; (repeat' (first | exact trivial | exact rfl | (refine ⟨Or.inl rfl, ?_⟩) | (refine ⟨Or.inr rfl, ?_⟩) | (refine ⟨Or.inr trivial, ?_⟩) | (refine ⟨rfl, ?_⟩) | (refine ⟨?_, ?_⟩)))
         · rw [hZ2]; (repeat' (first | exact trivial | exact rfl | (refine ⟨Or.inl rfl, ?_⟩) | (refine ⟨Or.inr rfl, ?_⟩) | (refine ⟨Or.inr trivial, ?_⟩) | (refine ⟨rfl, ?_⟩) | (refine ⟨?_, ?_⟩))))
      | trace_state
  · have hYX : V'.length = U'.length := h.symm
    have e1 : rotZ A B (P, U', V', T) = (A ++ P) ++ (U' ++ ([] ++ (V' ++ (T ++ B)))) := by
      unfold rotZ
      dsimp only
      simp only [List.append_assoc, List.nil_append]
    have e2 : A ++ (V ++ (U ++ B)) = (A ++ P) ++ (V' ++ ([] ++ (U' ++ (T ++ B)))) := by
      rw [← List.append_assoc V, ← hq]
      simp only [List.append_assoc, List.nil_append]
    have c := sw U'.length m (A ++ P) U' [] V' (T ++ B)
      (by rw [List.length_append, List.length_nil]; omega) rfl hYX (by simp only [List.length_append, List.length_nil]; omega) hle
    rw [← e1, ← e2, show (A ++ P).length = m - U'.length by rw [List.length_append]; omega] at c
    have g1 : (!eqb ((U'.length : Nat) : Int) ((V'.length : Nat) : Int)) = false := by rw [eqb_t.2 (by omega)]; rfl
    have f1 : AV.d (.sc (.int .i64 (wrp .i64 (((m : Nat) : Int) - ((U'.length : Nat) : Int))))) = AV.d (.sc (.int .i64 ((m - U'.length : Nat) : Int))) := by rw [wrp_fit (by omega)]; congr 3; omega
    have hZ : ((rotZ A B (P, U', V', T)).map nN).length = ((A ++ (V ++ (U ++ B))).map nN).length := by
      rw [e1, e2]
      simp only [List.length_map, List.length_append, List.length_nil]
      omega
    clear e1 e2
    generalize A ++ (V ++ (U ++ B)) = Z2 at *
    generalize rotZ A B (P, U', V', T) = Z1 at *
    repeat' (first | ((with_reducible refine gA ?_); (first | refine AW_seq ?_ | refine AW_region ?_ | (refine AW_condN rfl ?_ ?_; assumption) | refine AW_exit ?_)) | (((with_reducible refine gS ?_); apply Es_q); rfl; rfl; refine LStep_fitQ (T := Try.tab) rfl rfl f1) | ((with_reducible refine gS ?_); refine Es_s (T := Try.tab) rfl rfl rfl rfl ?_) | (((with_reducible refine gS ?_); apply Es_xg); rfl; rfl; refine LStep_callHN [] [] c rfl rfl ⟨rfl, rfl, rfl, trivial⟩ rfl ⟨hZ, trivial, rfl, trivial⟩ rfl rfl; rfl) | (with_reducible refine Es_nil ?_) | (with_reducible refine then_n ?_) | (with_reducible refine then_e ?_) | ((with_reducible refine block_e ?_ ?_); rfl) | ((with_reducible refine gR ?_); first | refine ret1 rfl ?_ | refine ret2 rfl rfl ?_ | refine ret0 ?_ | refine end1 rfl ?_ | refine end0 ?_))
    all_goals first
      | exact ⟨rfl, by (repeat' (first | exact trivial | exact rfl | (refine ⟨Or.inl rfl, ?_⟩) | (refine ⟨Or.inr rfl, ?_⟩) | (refine ⟨Or.inr trivial, ?_⟩) | (refine ⟨rfl, ?_⟩) | (refine ⟨?_, ?_⟩)))⟩
      | trace_state
  · have e1 : rotZ A B (P, U', V', T) = (A ++ P) ++ (U'.take V'.length ++ (U'.drop V'.length ++ (V' ++ (T ++ B)))) := by
      unfold rotZ
      dsimp only
      rw [← List.append_assoc (U'.take _), List.take_append_drop, List.append_assoc]
    have e2 : rotZ A B (P ++ V', U'.drop V'.length, U'.take V'.length, T) = (A ++ P) ++ (V' ++ (U'.drop V'.length ++ (U'.take V'.length ++ (T ++ B)))) := by
      unfold rotZ
      dsimp only
      simp only [List.append_assoc]
    have c := sw V'.length m (A ++ P) (U'.take V'.length) (U'.drop V'.length) V' (T ++ B)
      (by rw [List.length_append, List.length_take, List.length_drop]; omega) (by rw [List.length_take]; omega) rfl (by simp only [List.length_append, List.length_take, List.length_drop]; omega) hle
    rw [← e1, ← e2, show (A ++ P).length = m - U'.length by rw [List.length_append]; omega] at c
    have g1 : (!eqb ((U'.length : Nat) : Int) ((V'.length : Nat) : Int)) = true := by rw [eqb_f.2 (by omega)]; rfl
    have g2 : ltb ((V'.length : Nat) : Int) ((U'.length : Nat) : Int) = true := by rw [ltb_t]; omega
    have f1 : AV.d (.sc (.int .i64 (wrp .i64 (((m : Nat) : Int) - ((U'.length : Nat) : Int))))) = AV.d (.sc (.int .i64 ((m - U'.length : Nat) : Int))) := by rw [wrp_fit (by omega)]; congr 3; omega
    have f4 : AV.d (.sc (.int .i64 (wrp .i64 (((U'.length : Nat) : Int) - ((V'.length : Nat) : Int))))) = AV.d (.sc (.int .i64 ((U'.length - V'.length : Nat) : Int))) := by rw [wrp_fit (by omega)]; congr 3; omega
    have hZ : ((rotZ A B (P, U', V', T)).map nN).length = ((rotZ A B (P ++ V', U'.drop V'.length, U'.take V'.length, T)).map nN).length := by
      rw [e1, e2]
      simp only [List.length_map, List.length_append, List.length_take, List.length_drop]
      omega
    have u1 : (U'.drop V'.length).length = U'.length - V'.length := by rw [List.length_drop]
    have u2 : (U'.take V'.length).length = V'.length := by rw [List.length_take]; omega
    have hI : RotI U V (P ++ V') (U'.drop V'.length) (U'.take V'.length) T :=
      ⟨by rw [← hq, ← List.append_assoc (U'.take _), List.take_append_drop, List.append_assoc], by rw [List.length_append]; omega, by omega, by omega⟩
    generalize U'.drop V'.length = X2 at *
    generalize U'.take V'.length = Y2 at *
    clear e1 e2
    generalize hZ2 : rotZ A B (P ++ V', X2, Y2, T) = Z2 at *
    generalize rotZ A B (P, U', V', T) = Z1 at *
    repeat' (first | ((with_reducible refine gA ?_); (first | refine AW_seq ?_ | refine AW_region ?_ | (refine AW_condY rfl ?_ ?_; assumption) | refine AW_block ?_ | refine AW_skip ?_)) | (((with_reducible refine gS ?_); apply Es_q); rfl; rfl; (first | refine LStep_fitQ (T := Try.tab) rfl rfl f1 | refine LStep_fitQ (T := Try.tab) rfl rfl f4)) | ((with_reducible refine gS ?_); refine Es_s (T := Try.tab) rfl rfl rfl rfl ?_) | (((with_reducible refine gS ?_); apply Es_xg); rfl; rfl; refine LStep_callHN [] [] c rfl rfl ⟨rfl, rfl, rfl, trivial⟩ rfl ⟨hZ, trivial, rfl, trivial⟩ rfl rfl; rfl) | (with_reducible refine Es_nil ?_) | (with_reducible refine then_n ?_) | (with_reducible refine block_n ?_))
    all_goals first
      | (refine ⟨(P ++ V', X2, Y2, T), hI, by dsimp only; omega, ?_, by (repeat' (first | exact trivial | exact rfl | (refine ⟨Or.inl rfl, ?_⟩) | (refine ⟨Or.inr rfl, ?_⟩) | (refine ⟨Or.inr trivial, ?_⟩) | (refine ⟨rfl, ?_⟩) | (refine ⟨?_, ?_⟩))), ?_, by (repeat' (first | exact trivial | exact rfl | (refine ⟨Or.inl rfl, ?_⟩) | (refine ⟨Or.inr rfl, ?_⟩) | (refine ⟨Or.inr trivial, ?_⟩) | (refine ⟨rfl, ?_⟩) | (refine ⟨?_, ?_⟩)))⟩
         · dsimp only; rw [u1, u2]; (repeat' (first | exact trivial | exact rfl | (refine ⟨Or.inl rfl, ?_⟩) | (refine ⟨Or.inr rfl, ?_⟩) | (refine ⟨Or.inr trivial, ?_⟩) | (refine ⟨rfl, ?_⟩) | (refine ⟨?_, ?_⟩)))
         · rw [hZ2]; (repeat' (first | exact trivial | exact rfl | (refine ⟨Or.inl rfl, ?_⟩) | (refine ⟨Or.inr rfl, ?_⟩) | (refine ⟨Or.inr trivial, ?_⟩) | (refine ⟨rfl, ?_⟩) | (refine ⟨?_, ?_⟩))))
      | trace_state
end
end Go.Proofs.Ytldfncafkdmoiaa
namespace Go.Proofs.Ytldfncafkdmoiaa
open Go.SL
/-! ### symMerge: helpers, one element on a side -/
section
variable {g : FuncId} {cmp : Nat → Nat → Int} {re : Nat} {rd : List (List D)}
theorem half_w (x y : Nat) : (((x : Nat) : Int) + ((y : Nat) : Int)).fdiv (2 ^ (min (1 : Int).toNat IntKind.u64.bits)) = (((x + y) / 2 : Nat) : Int) := by
  rw [show (2 : Int) ^ (min (1 : Int).toNat IntKind.u64.bits) = 2 from rfl, Int.fdiv_eq_ediv_of_nonneg _ (by decide)]
  omega
theorem arrG_nxt (A P : List Nat) (x : Nat) (R : List Nat) (t y : Nat) (hy : P[t]? = some y) : (arrG A P x R t)[A.length + (t + 1)]? = some y ∧ ((arrG A P x R t).set (A.length + t) y).set (A.length + (t + 1)) x = arrG A P x R (t + 1) := by
  have hlt := (List.getElem?_eq_some_iff.1 hy).1
  obtain ⟨y', h1, h2⟩ := drop_at hlt
  rw [hy] at h1
  obtain rfl := Option.some.inj h1
  have l1 : (A ++ P.take t).length = A.length + t := by rw [List.length_append, List.length_take]; omega
  have e1 : arrG A P x R t = (A ++ P.take t) ++ x :: ([] ++ y :: (P.drop (t + 1) ++ R)) := by
    unfold arrG
    rw [h2]
    simp only [List.append_assoc, List.cons_append, List.nil_append]
  have e2 : arrG A P x R (t + 1) = (A ++ P.take t) ++ y :: ([] ++ x :: (P.drop (t + 1) ++ R)) := by
    unfold arrG
    rw [take_at hy]
    simp only [List.append_assoc, List.cons_append, List.nil_append]
  have s := set2_far (A ++ P.take t) [] (P.drop (t + 1) ++ R) x y
  rw [l1, List.length_nil, Nat.add_zero, Nat.add_assoc] at s
  rw [e1, e2]
  refine ⟨?_, s⟩
  rw [List.getElem?_append_right (by omega), l1, show A.length + (t + 1) - (A.length + t) = 1 by omega]
  rfl
theorem at_left {A U W : List Nat} {i x : Nat} (h : U[i]? = some x) : (A ++ (U ++ W))[A.length + i]? = some x := by
  have hlt := (List.getElem?_eq_some_iff.1 h).1
  rw [List.getElem?_append_right (by omega), show A.length + i - A.length = i by omega, List.getElem?_append_left hlt]
  exact h
theorem at_right {A U V W : List Nat} {j y : Nat} (h : V[j]? = some y) : (A ++ (U ++ (V ++ W)))[A.length + U.length + j]? = some y := by
  have hlt := (List.getElem?_eq_some_iff.1 h).1
  rw [List.getElem?_append_right (by omega), List.getElem?_append_right (by omega), show A.length + U.length + j - A.length - U.length = j by omega, List.getElem?_append_left hlt]
  exact h
structure SymI (lt : Nat → Nat → Bool) (a m N s0 r0 : Nat) (U V : List Nat) (s q : Nat) : Prop where
  le1 : s0 ≤ s
  le2 : s ≤ q
  le3 : q ≤ r0
  lo : s = s0 ∨ ∃ x y, U[s - 1 - a]? = some x ∧ V[N - 1 - (s - 1) - m]? = some y ∧ lt y x = false
  hi : q = r0 ∨ ∃ x y, U[q - a]? = some x ∧ V[N - 1 - q - m]? = some y ∧ lt y x = true
theorem SymI.up {lt : Nat → Nat → Bool} {a m N s0 r0 : Nat} {U V : List Nat} {s q c x y : Nat} (h : SymI lt a m N s0 r0 U V s q) (h1 : s ≤ c) (h2 : c < q) (hx : U[c - a]? = some x) (hy : V[N - 1 - c - m]? = some y) (hl : lt y x = false) : SymI lt a m N s0 r0 U V (c + 1) q :=
  ⟨by have := h.le1; omega, by omega, h.le3, .inr ⟨x, y, by rw [Nat.add_sub_cancel]; exact hx, by rw [Nat.add_sub_cancel]; exact hy, hl⟩, h.hi⟩
theorem SymI.dn {lt : Nat → Nat → Bool} {a m N s0 r0 : Nat} {U V : List Nat} {s q c x y : Nat} (h : SymI lt a m N s0 r0 U V s q) (h1 : s ≤ c) (h2 : c < q) (hx : U[c - a]? = some x) (hy : V[N - 1 - c - m]? = some y) (hl : lt y x = true) : SymI lt a m N s0 r0 U V s c :=
  ⟨h.le1, h1, by have := h.le3; omega, h.lo, .inr ⟨x, y, hx, hy, hl⟩⟩
theorem SymI.done {lt : Nat → Nat → Bool} (hO : Sort.SWO lt) {a m b mid s0 r0 : Nat} {U V : List Nat} {s : Nat} (h : SymI lt a m (mid + m) s0 r0 U V s s) (hm : a + U.length = m) (hb : m + V.length = b) (hU : SortedL lt U) (hV : SortedL lt V)
    (hs : a ≤ s ∧ s ≤ m ∧ s ≤ mid ∧ mid + m ≤ b + s) (h1 : s < m → s < mid → s < r0) (h2 : a < s → mid + m < b + s → s0 < s) :
    isL lt (U ++ V) = isL lt (U.take (s - a) ++ V.take (mid - s)) ++ isL lt (U.drop (s - a) ++ V.drop (mid - s)) := by
  refine sym_split hO hU hV (by omega) (by omega) (fun hj x y hx hy => ?_) (fun hi x y hx hy => ?_)
  · have hl := (List.getElem?_eq_some_iff.1 hx).1
    rcases h.hi with q | ⟨x', y', e1, e2, e3⟩
    · have := h1 (by omega) (by omega); omega
    · rw [e1] at hx
      rw [show mid + m - 1 - s - m = mid - s - 1 by omega] at e2
      rw [e2] at hy
      obtain rfl := Option.some.inj hx
      obtain rfl := Option.some.inj hy
      exact e3
  · have hl := (List.getElem?_eq_some_iff.1 hy).1
    rcases h.lo with q | ⟨x', y', e1, e2, e3⟩
    · have := h2 (by omega) (by omega); omega
    · rw [show s - 1 - a = s - a - 1 by omega] at e1
      rw [e1] at hx
      rw [show mid + m - 1 - (s - 1) - m = mid - s by omega] at e2
      rw [e2] at hy
      obtain rfl := Option.some.inj hx
      obtain rfl := Option.some.inj hy
      exact e3
theorem ltOf_ltb (cmp : Nat → Nat → Int) (y x : Nat) : ltOf cmp y x = ltb (cmp y x) 0 := by
  unfold ltOf
  rw [Bool.eq_iff_iff, ltb_t, decide_eq_true_eq]
set_option maxRecDepth 10000 in
set_option maxHeartbeats 16000000 in
theorem symL (m0 : Nat) (p : Nat → Prop) (hC : ∀ x y, p x → p y → cbN g cmp m0 re rd x y) (hO : Sort.SWO (ltOf cmp)) (n a m b : Nat) (A U V B : List Nat) (ha : A.length = a) (hm : a + U.length = m) (hb : m + V.length = b) (hU0 : 0 < U.length) (hV0 : 0 < V.length) (hn : (A ++ (U ++ (V ++ B))).length = n) (hle : n ≤ 4096) (hpU : ∀ x ∈ U, p x) (hpV : ∀ x ∈ V, p x) (hSU : SortedL (ltOf cmp) U) (hSV : SortedL (ltOf cmp) V) (h1 : U.length = 1) :
    AC Try.prog 94 [.own 1000 n, .d (.sc (.int .i64 ((a : Nat) : Int))), .d (.sc (.int .i64 ((m : Nat) : Int))), .d (.sc (.int .i64 ((b : Nat) : Int))), .fn g [.ptr 1100 0]] (H3 [.own 1101 m0] re rd (A ++ (U ++ (V ++ B)))) [1000, 1100, 1101]
      (fun r h' => r = .tup [] ∧ SubH (H3 [.own 1101 m0] re rd (A ++ (isL (ltOf cmp) (U ++ V) ++ B))) h') := by
  have hlen : A.length + U.length + V.length + B.length = n := by rw [← hn]; simp only [List.length_append]; omega
  unfold cbN at hC
  unfold H3 at *
  obtain ⟨x, rfl⟩ := List.length_eq_one_iff.1 h1
  have hm1 : m = a + 1 := by rw [← hm]; rfl
  have hpx := hpU x List.mem_cons_self
  have g0 : eqb (((m : Nat) : Int) - ((a : Nat) : Int)) 1 = true := by rw [eqb_t]; omega
  have z0 : (A ++ ([x] ++ (V ++ B)))[a]? = some x := by
    have := at_left (A := A) (W := V ++ B) (show [x][0]? = some x from rfl)
    rwa [ha] at this
  have zV := fun j y (h : V[j]? = some y) => at_right (A := A) (U := [x]) (W := B) h
  rw [ha, show a + [x].length = m from hm] at zV
  have eG : A ++ ([x] ++ (V ++ B)) = arrG A V x B 0 := by unfold arrG; simp
  rw [eG] at z0 zV hn ⊢
  refine AC_enter Try.func94 rfl Try.ntmps94 (rv := []) rfl rfl (by simp) (fun w X G => ?_)
  repeat' (first | ((with_reducible refine gA ?_); (first | refine AW_seq ?_ | refine AW_region ?_ | (refine AW_condY rfl ?_ ?_; assumption) | refine AW_block ?_)) | ((with_reducible refine gS ?_); refine Es_s (T := Try.tab) rfl rfl rfl rfl ?_) | (((with_reducible refine gS ?_); apply Es_q); rfl; rfl; (refine LStep_sub rfl rfl rfl rfl ?_; (refine IntWalk.i64_in _ ?_; first | omega | (simp only [cmps] at *; omega)))) | (with_reducible refine Es_nil ?_) | (with_reducible refine then_n ?_))
  refine AW_forE (S := Nat × Nat) (fun z => z.1 ≤ z.2 ∧ z.2 ≤ V.length ∧ (∀ y ∈ V.take z.1, ltOf cmp y x = true) ∧ ∀ y ∈ V.drop z.2, ltOf cmp y x = false) (fun z => [(10, .d (.sc (.int .i64 ((m + z.1 : Nat) : Int)))), (11, .d (.sc (.int .i64 ((m + z.2 : Nat) : Int))))]) (fun _ => []) (fun z => z.2 - z.1) (0, V.length) ⟨by dsimp only; omega, by dsimp only; omega, by simp, by simp⟩ (by dsimp only; rw [hb]; (repeat' (first | exact trivial | exact rfl | (refine ⟨Or.inl rfl, ?_⟩) | (refine ⟨Or.inr rfl, ?_⟩) | (refine ⟨Or.inr trivial, ?_⟩) | (refine ⟨rfl, ?_⟩) | (refine ⟨?_, ?_⟩)))) (by (repeat' (first | exact trivial | exact rfl | (refine ⟨Or.inl rfl, ?_⟩) | (refine ⟨Or.inr rfl, ?_⟩) | (refine ⟨Or.inr trivial, ?_⟩) | (refine ⟨rfl, ?_⟩) | (refine ⟨?_, ?_⟩)))) ?_
  rintro ⟨u, v⟩ ⟨huv, hv, hlo, hhi⟩
  dsimp only at huv hv hlo hhi
  by_cases hlt : u < v
  · obtain ⟨c0, hc⟩ : ∃ c0, (m + u + (m + v)) / 2 = m + c0 := ⟨(m + u + (m + v)) / 2 - m, by omega⟩
    have hw := half_w (m + u) (m + v)
    rw [hc] at hw
    obtain ⟨y, hy, _⟩ := drop_at (l := V) (k := c0) (by omega)
    have zy := zV c0 y hy
    have g1 : ltb ((m + u : Nat) : Int) ((m + v : Nat) : Int) = true := by rw [ltb_t]; omega
    have c := hC y x (hpV y (List.mem_of_getElem? hy)) hpx
    have hup := low_up (x := x) hO hSV hy
    have hdn := low_dn (x := x) hO hSV hy
    have hlt0 := ltOf_ltb cmp y x
    rw [hlt0] at hup hdn
    have hZl : (arrG A V x B 0).length = n := hn
    have f1 : AV.d (.sc (.int .i64 (wrp .i64 (((m + c0 : Nat) : Int) + 1)))) = AV.d (.sc (.int .i64 ((m + (c0 + 1) : Nat) : Int))) := by rw [wrp_fit (by omega)]; congr 3; try omega
    generalize arrG A V x B 0 = Z at *
    generalize cmp y x = cv at *
    cases hcv : ltb cv 0 with
    | true =>
      repeat' (first | ((with_reducible refine gA ?_); (first | refine AW_seq ?_ | refine AW_region ?_ | refine AW_regionD Try.mixed ?_ | (refine AW_condY rfl ?_ ?_; assumption) | refine AW_block ?_ | refine AW_skip ?_)) | ((first | ((with_reducible refine gS ?_); apply Es_q) | ((with_reducible refine gD ?_); apply Ed_q)); rfl; rfl; (first | refine LStep_fitQ (T := Try.tab) rfl rfl f1 | (refine LStep_conv (T := Try.tab) rfl rfl rfl rfl rfl ?_; (first | (refine u64_fit ?_; omega) | (refine IntWalk.i64_in _ ?_; omega))))) | (first | ((with_reducible refine gS ?_); refine Es_s (T := Try.tab) rfl rfl rfl rfl ?_) | ((with_reducible refine gD ?_); refine Ed_s (T := Try.tab) rfl rfl rfl rfl ?_)) | ((first | ((with_reducible refine gS ?_); apply Es_q) | ((with_reducible refine gD ?_); apply Ed_q)); rfl; rfl; (first | (refine LStep_shr rfl rfl rfl ?_ hw rfl; omega) | (refine LStep_indexOwnM (T := Try.tab) rfl rfl rfl rfl rfl rfl rfl ?_ ?_; (simp only [List.length_set, List.length_map]; omega); (simp only [List.length_set, List.length_map]; omega)) | (refine LStep_loadEM (T := Try.tab) rfl rfl rfl rfl rfl ?_ zy rfl; (rw [List.length_map]; omega)) | (refine LStep_loadEM (T := Try.tab) rfl rfl rfl rfl rfl ?_ z0 rfl; (rw [List.length_map]; omega)) | refine LStep_callB c rfl rfl ⟨rfl, rfl, trivial⟩ rfl rfl)) | (((with_reducible refine gS ?_); apply Es_q); rfl; rfl; (refine LStep_add rfl rfl rfl rfl ?_; (refine IntWalk.i64_in _ ?_; first | omega | (simp only [cmps] at *; omega)))) | (with_reducible refine Es_nil ?_) | ((with_reducible refine Ed_nil ?_ ?_); kernel_rfl) | (with_reducible refine then_n ?_) | (with_reducible refine block_n ?_))
      all_goals first
        | (refine ⟨(_, v), ⟨?_, hv, hup hcv, hhi⟩, ?_, by (repeat' (first | exact trivial | exact rfl | (refine ⟨Or.inl rfl, ?_⟩) | (refine ⟨Or.inr rfl, ?_⟩) | (refine ⟨Or.inr trivial, ?_⟩) | (refine ⟨rfl, ?_⟩) | (refine ⟨?_, ?_⟩))), by (repeat' (first | exact trivial | exact rfl | (refine ⟨Or.inl rfl, ?_⟩) | (refine ⟨Or.inr rfl, ?_⟩) | (refine ⟨Or.inr trivial, ?_⟩) | (refine ⟨rfl, ?_⟩) | (refine ⟨?_, ?_⟩))), by (repeat' (first | exact trivial | exact rfl | (refine ⟨Or.inl rfl, ?_⟩) | (refine ⟨Or.inr rfl, ?_⟩) | (refine ⟨Or.inr trivial, ?_⟩) | (refine ⟨rfl, ?_⟩) | (refine ⟨?_, ?_⟩))), by (repeat' (first | exact trivial | exact rfl | (refine ⟨Or.inl rfl, ?_⟩) | (refine ⟨Or.inr rfl, ?_⟩) | (refine ⟨Or.inr trivial, ?_⟩) | (refine ⟨rfl, ?_⟩) | (refine ⟨?_, ?_⟩)))⟩ <;> dsimp only <;> omega)
        | trace_state
    | false =>
      repeat' (first | ((with_reducible refine gA ?_); (first | refine AW_seq ?_ | refine AW_region ?_ | refine AW_regionD Try.mixed ?_ | (refine AW_condY rfl ?_ ?_; assumption) | (refine AW_condN rfl ?_ ?_; assumption) | refine AW_block ?_ | refine AW_skip ?_)) | ((first | ((with_reducible refine gS ?_); apply Es_q) | ((with_reducible refine gD ?_); apply Ed_q)); rfl; rfl; (refine LStep_conv (T := Try.tab) rfl rfl rfl rfl rfl ?_; (first | (refine u64_fit ?_; omega) | (refine IntWalk.i64_in _ ?_; omega)))) | (first | ((with_reducible refine gS ?_); refine Es_s (T := Try.tab) rfl rfl rfl rfl ?_) | ((with_reducible refine gD ?_); refine Ed_s (T := Try.tab) rfl rfl rfl rfl ?_)) | ((first | ((with_reducible refine gS ?_); apply Es_q) | ((with_reducible refine gD ?_); apply Ed_q)); rfl; rfl; (first | (refine LStep_shr rfl rfl rfl ?_ hw rfl; omega) | (refine LStep_indexOwnM (T := Try.tab) rfl rfl rfl rfl rfl rfl rfl ?_ ?_; (simp only [List.length_set, List.length_map]; omega); (simp only [List.length_set, List.length_map]; omega)) | (refine LStep_loadEM (T := Try.tab) rfl rfl rfl rfl rfl ?_ zy rfl; (rw [List.length_map]; omega)) | (refine LStep_loadEM (T := Try.tab) rfl rfl rfl rfl rfl ?_ z0 rfl; (rw [List.length_map]; omega)) | refine LStep_callB c rfl rfl ⟨rfl, rfl, trivial⟩ rfl rfl)) | (((with_reducible refine gS ?_); apply Es_q); rfl; rfl; (refine LStep_add rfl rfl rfl rfl ?_; (refine IntWalk.i64_in _ ?_; first | omega | (simp only [cmps] at *; omega)))) | (with_reducible refine Es_nil ?_) | ((with_reducible refine Ed_nil ?_ ?_); kernel_rfl) | (with_reducible refine then_n ?_) | (with_reducible refine block_n ?_))
      all_goals first
        | (refine ⟨(u, _), ⟨?_, ?_, hlo, hdn hcv⟩, ?_, by (repeat' (first | exact trivial | exact rfl | (refine ⟨Or.inl rfl, ?_⟩) | (refine ⟨Or.inr rfl, ?_⟩) | (refine ⟨Or.inr trivial, ?_⟩) | (refine ⟨rfl, ?_⟩) | (refine ⟨?_, ?_⟩))), by (repeat' (first | exact trivial | exact rfl | (refine ⟨Or.inl rfl, ?_⟩) | (refine ⟨Or.inr rfl, ?_⟩) | (refine ⟨Or.inr trivial, ?_⟩) | (refine ⟨rfl, ?_⟩) | (refine ⟨?_, ?_⟩))), by (repeat' (first | exact trivial | exact rfl | (refine ⟨Or.inl rfl, ?_⟩) | (refine ⟨Or.inr rfl, ?_⟩) | (refine ⟨Or.inr trivial, ?_⟩) | (refine ⟨rfl, ?_⟩) | (refine ⟨?_, ?_⟩))), by (repeat' (first | exact trivial | exact rfl | (refine ⟨Or.inl rfl, ?_⟩) | (refine ⟨Or.inr rfl, ?_⟩) | (refine ⟨Or.inr trivial, ?_⟩) | (refine ⟨rfl, ?_⟩) | (refine ⟨?_, ?_⟩)))⟩ <;> dsimp only <;> omega)
        | trace_state
  · have : u = v := by omega
    subst this
    have g1 : ltb ((m + u : Nat) : Int) ((m + u : Nat) : Int) = false := by rw [ltb_f]; omega
    rw [merge_l hSV hlo hhi]
    repeat' (first | ((with_reducible refine gA ?_); (first | refine AW_seq ?_ | refine AW_region ?_ | (refine AW_condN rfl ?_ ?_; assumption) | refine AW_block ?_ | refine AW_exit ?_)) | ((with_reducible refine gS ?_); refine Es_s (T := Try.tab) rfl rfl rfl rfl ?_) | (with_reducible refine Es_nil ?_) | (with_reducible refine then_n ?_) | (with_reducible refine then_e ?_) | ((with_reducible refine block_e ?_ ?_); rfl))
    refine AW_forE (S := Nat) (fun t => t ≤ u) (fun t => [(13, .d (.sc (.int .i64 ((a + t : Nat) : Int))))]) (fun t => [(1000, some (.arr 3 1 ((arrG A V x B t).map nN)))]) (fun t => u - t) 0 (by omega) (by (repeat' (first | exact trivial | exact rfl | (refine ⟨Or.inl rfl, ?_⟩) | (refine ⟨Or.inr rfl, ?_⟩) | (refine ⟨Or.inr trivial, ?_⟩) | (refine ⟨rfl, ?_⟩) | (refine ⟨?_, ?_⟩)))) (by (repeat' (first | exact trivial | exact rfl | (refine ⟨Or.inl rfl, ?_⟩) | (refine ⟨Or.inr rfl, ?_⟩) | (refine ⟨Or.inr trivial, ?_⟩) | (refine ⟨rfl, ?_⟩) | (refine ⟨?_, ?_⟩)))) ?_
    intro t ht
    by_cases hltt : t < u
    · obtain ⟨y, hy, _⟩ := drop_at (l := V) (k := t) (by omega)
      have a1 := arrG_at A V x B t (by omega)
      obtain ⟨a2, a4⟩ := arrG_nxt A V x B t y hy
      have a3 := arrG_len A V x B t (by omega)
      rw [ha] at a1 a2 a4
      rw [ha, List.length_singleton] at hlen
      have g2 : ltb ((a + t : Nat) : Int) (((m + u : Nat) : Int) - 1) = true := by rw [ltb_t]; omega
      have f1 : AV.d (.sc (.int .i64 (wrp .i64 (((a + t : Nat) : Int) + 1)))) = AV.d (.sc (.int .i64 ((a + (t + 1) : Nat) : Int))) := by rw [wrp_fit (by omega)]; congr 3; try omega
      have hLn : (arrG A V x B t).length = n := by omega
      generalize hL' : arrG A V x B (t + 1) = L' at *
      generalize arrG A V x B t = L at *
      have b1 : (L.map nN)[a + t]? = some (nN x) := by rw [List.getElem?_map, a1]; rfl
      have b2 : ((L.map nN).set (a + t) (nN y))[a + (t + 1)]? = some (nN y) := by rw [List.getElem?_set_ne (by omega), List.getElem?_map, a2]; rfl
      have b4 : (((L.map nN).set (a + t) (nN y)).set (a + (t + 1)) (nN x)) = L'.map nN := by rw [← a4, List.map_set, List.map_set]
      repeat' (first | ((with_reducible refine gA ?_); (first | refine AW_seq ?_ | refine AW_region ?_ | refine AW_regionD Try.mixed ?_ | (refine AW_condY rfl ?_ ?_; assumption) | refine AW_block ?_ | refine AW_skip ?_)) | ((first | ((with_reducible refine gS ?_); apply Es_q) | ((with_reducible refine gD ?_); apply Ed_q)); rfl; rfl; refine LStep_fitQ (T := Try.tab) rfl rfl f1) | (first | ((with_reducible refine gS ?_); refine Es_s (T := Try.tab) rfl rfl rfl rfl ?_) | ((with_reducible refine gD ?_); refine Ed_s (T := Try.tab) rfl rfl rfl rfl ?_)) | ((first | ((with_reducible refine gS ?_); apply Es_q) | ((with_reducible refine gD ?_); apply Ed_q)); rfl; rfl; (first | (refine LStep_indexOwnM (T := Try.tab) rfl rfl rfl rfl rfl rfl rfl ?_ ?_; (simp only [List.length_set, List.length_map]; omega); (simp only [List.length_set, List.length_map]; omega)) | (refine LStep_loadEM (T := Try.tab) rfl rfl rfl rfl rfl ?_ a1 rfl; (rw [List.length_map]; omega)) | (refine LStep_loadEM (T := Try.tab) rfl rfl rfl rfl rfl ?_ a2 rfl; (rw [List.length_map]; omega)))) | ((first | ((with_reducible refine gS ?_); apply Es_xn) | ((with_reducible refine gD ?_); apply Ed_xn)); rfl; rfl; (first | (refine LStep_storeE (T := Try.tab) rfl rfl rfl rfl rfl rfl rfl rfl ?_ b1 ?_; (simp only [List.length_set, List.length_map]; omega); (refine Nat.le_of_ble_eq_true ?_; rfl)) | (refine LStep_storeE (T := Try.tab) rfl rfl rfl rfl rfl rfl rfl rfl ?_ b2 ?_; (simp only [List.length_set, List.length_map]; omega); (refine Nat.le_of_ble_eq_true ?_; rfl))); rfl) | (((with_reducible refine gS ?_); apply Es_q); rfl; rfl; (refine LStep_sub rfl rfl rfl rfl ?_; (refine IntWalk.i64_in _ ?_; first | omega | (simp only [cmps] at *; omega)))) | (with_reducible refine Es_nil ?_) | ((with_reducible refine Ed_nil ?_ ?_); kernel_rfl) | (with_reducible refine then_n ?_) | (with_reducible refine block_n ?_))
      all_goals first
        | (refine ⟨t + 1, by omega, by omega, by (repeat' (first | exact trivial | exact rfl | (refine ⟨Or.inl rfl, ?_⟩) | (refine ⟨Or.inr rfl, ?_⟩) | (refine ⟨Or.inr trivial, ?_⟩) | (refine ⟨rfl, ?_⟩) | (refine ⟨?_, ?_⟩))), by (repeat' (first | exact trivial | exact rfl | (refine ⟨Or.inl rfl, ?_⟩) | (refine ⟨Or.inr rfl, ?_⟩) | (refine ⟨Or.inr trivial, ?_⟩) | (refine ⟨rfl, ?_⟩) | (refine ⟨?_, ?_⟩))), ?_, by (repeat' (first | exact trivial | exact rfl | (refine ⟨Or.inl rfl, ?_⟩) | (refine ⟨Or.inr rfl, ?_⟩) | (refine ⟨Or.inr trivial, ?_⟩) | (refine ⟨rfl, ?_⟩) | (refine ⟨?_, ?_⟩)))⟩
           rw [hL', ← b4]; (repeat' (first | exact trivial | exact rfl | (refine ⟨Or.inl rfl, ?_⟩) | (refine ⟨Or.inr rfl, ?_⟩) | (refine ⟨Or.inr trivial, ?_⟩) | (refine ⟨rfl, ?_⟩) | (refine ⟨?_, ?_⟩))))
        | trace_state
    · have : t = u := by omega
      subst this
      have g2 : ltb ((a + t : Nat) : Int) (((m + t : Nat) : Int) - 1) = false := by rw [ltb_f]; omega
      have e9 : arrG A V x B t = A ++ (V.take t ++ x :: V.drop t ++ B) := by unfold arrG; simp
      rw [← e9]
      repeat' (first | ((with_reducible refine gA ?_); (first | refine AW_seq ?_ | refine AW_region ?_ | (refine AW_condN rfl ?_ ?_; assumption) | refine AW_ret ?_ | refine AW_exit ?_)) | ((with_reducible refine gS ?_); refine Es_s (T := Try.tab) rfl rfl rfl rfl ?_) | (((with_reducible refine gS ?_); apply Es_q); rfl; rfl; (refine LStep_sub rfl rfl rfl rfl ?_; (refine IntWalk.i64_in _ ?_; first | omega | (simp only [cmps] at *; omega)))) | (with_reducible refine Es_nil ?_) | (with_reducible refine then_n ?_) | (with_reducible refine then_r ?_) | (with_reducible refine then_e ?_) | ((with_reducible refine block_e ?_ ?_); rfl) | ((with_reducible refine gR ?_); first | refine ret1 rfl ?_ | refine ret2 rfl rfl ?_ | refine ret0 ?_ | refine end1 rfl ?_ | refine end0 ?_))
      all_goals first
        | exact ⟨rfl, by (repeat' (first | exact trivial | exact rfl | (refine ⟨Or.inl rfl, ?_⟩) | (refine ⟨Or.inr rfl, ?_⟩) | (refine ⟨Or.inr trivial, ?_⟩) | (refine ⟨rfl, ?_⟩) | (refine ⟨?_, ?_⟩)))⟩
        | trace_state
set_option maxRecDepth 10000 in
set_option maxHeartbeats 16000000 in
theorem symR (m0 : Nat) (p : Nat → Prop) (hC : ∀ x y, p x → p y → cbN g cmp m0 re rd x y) (hO : Sort.SWO (ltOf cmp)) (n a m b : Nat) (A U V B : List Nat) (ha : A.length = a) (hm : a + U.length = m) (hb : m + V.length = b) (hU0 : 0 < U.length) (hV0 : 0 < V.length) (hn : (A ++ (U ++ (V ++ B))).length = n) (hle : n ≤ 4096) (hpU : ∀ x ∈ U, p x) (hpV : ∀ x ∈ V, p x) (hSU : SortedL (ltOf cmp) U) (hSV : SortedL (ltOf cmp) V) (h1 : U.length ≠ 1) (h2 : V.length = 1) :
    AC Try.prog 94 [.own 1000 n, .d (.sc (.int .i64 ((a : Nat) : Int))), .d (.sc (.int .i64 ((m : Nat) : Int))), .d (.sc (.int .i64 ((b : Nat) : Int))), .fn g [.ptr 1100 0]] (H3 [.own 1101 m0] re rd (A ++ (U ++ (V ++ B)))) [1000, 1100, 1101]
      (fun r h' => r = .tup [] ∧ SubH (H3 [.own 1101 m0] re rd (A ++ (isL (ltOf cmp) (U ++ V) ++ B))) h') := by
  have hlen : A.length + U.length + V.length + B.length = n := by rw [← hn]; simp only [List.length_append]; omega
  unfold cbN at hC
  unfold H3 at *
  have g0 : eqb (((m : Nat) : Int) - ((a : Nat) : Int)) 1 = false := by rw [eqb_f]; omega
  obtain ⟨y, rfl⟩ := List.length_eq_one_iff.1 h2
  have hb1 : b = m + 1 := by rw [← hb]; rfl
  have hpy := hpV y List.mem_cons_self
  have g3 : eqb (((b : Nat) : Int) - ((m : Nat) : Int)) 1 = true := by rw [eqb_t]; omega
  have z0 : (A ++ (U ++ ([y] ++ B)))[m]? = some y := by
    have := at_right (A := A) (U := U) (W := B) (show [y][0]? = some y from rfl)
    rwa [ha, hm] at this
  have zU := fun j x (h : U[j]? = some x) => at_left (A := A) (W := [y] ++ B) h
  rw [ha] at zU
  have eG : A ++ (U ++ ([y] ++ B)) = arrG A U y B U.length := by unfold arrG; simp
  have hZl : (A ++ (U ++ ([y] ++ B))).length = n := hn
  rw [eG] at z0 zU hZl ⊢
  refine AC_enter Try.func94 rfl Try.ntmps94 (rv := []) rfl rfl (by simp) (fun w X G => ?_)
  repeat' (first | ((with_reducible refine gA ?_); (first | refine AW_seq ?_ | refine AW_region ?_ | (refine AW_condY rfl ?_ ?_; assumption) | (refine AW_condN rfl ?_ ?_; assumption) | refine AW_block ?_ | refine AW_skip ?_)) | ((with_reducible refine gS ?_); refine Es_s (T := Try.tab) rfl rfl rfl rfl ?_) | (((with_reducible refine gS ?_); apply Es_q); rfl; rfl; (refine LStep_sub rfl rfl rfl rfl ?_; (refine IntWalk.i64_in _ ?_; first | omega | (simp only [cmps] at *; omega)))) | (with_reducible refine Es_nil ?_) | (with_reducible refine then_n ?_))
  refine AW_forE (S := Nat × Nat) (fun z => z.1 ≤ z.2 ∧ z.2 ≤ U.length ∧ (∀ x ∈ U.take z.1, ltOf cmp y x = false) ∧ ∀ x ∈ U.drop z.2, ltOf cmp y x = true) (fun z => [(14, .d (.sc (.int .i64 ((a + z.1 : Nat) : Int)))), (15, .d (.sc (.int .i64 ((a + z.2 : Nat) : Int))))]) (fun _ => []) (fun z => z.2 - z.1) (0, U.length) ⟨by dsimp only; omega, by dsimp only; omega, by simp, by simp⟩ (by dsimp only; rw [hm]; (repeat' (first | exact trivial | exact rfl | (refine ⟨Or.inl rfl, ?_⟩) | (refine ⟨Or.inr rfl, ?_⟩) | (refine ⟨Or.inr trivial, ?_⟩) | (refine ⟨rfl, ?_⟩) | (refine ⟨?_, ?_⟩)))) (by (repeat' (first | exact trivial | exact rfl | (refine ⟨Or.inl rfl, ?_⟩) | (refine ⟨Or.inr rfl, ?_⟩) | (refine ⟨Or.inr trivial, ?_⟩) | (refine ⟨rfl, ?_⟩) | (refine ⟨?_, ?_⟩)))) ?_
  rintro ⟨u, v⟩ ⟨huv, hv, hlo, hhi⟩
  dsimp only at huv hv hlo hhi
  by_cases hlt : u < v
  · obtain ⟨c0, hc⟩ : ∃ c0, (a + u + (a + v)) / 2 = a + c0 := ⟨(a + u + (a + v)) / 2 - a, by omega⟩
    have hw := half_w (a + u) (a + v)
    rw [hc] at hw
    obtain ⟨x, hx, _⟩ := drop_at (l := U) (k := c0) (by omega)
    have zx := zU c0 x hx
    have g1 : ltb ((a + u : Nat) : Int) ((a + v : Nat) : Int) = true := by rw [ltb_t]; omega
    have c := hC y x hpy (hpU x (List.mem_of_getElem? hx))
    have hup := high_up (y := y) hO hSU hx
    have hdn := high_dn (y := y) hO hSU hx
    have hlt0 := ltOf_ltb cmp y x
    rw [hlt0] at hup hdn
    have f1 : AV.d (.sc (.int .i64 (wrp .i64 (((a + c0 : Nat) : Int) + 1)))) = AV.d (.sc (.int .i64 ((a + (c0 + 1) : Nat) : Int))) := by rw [wrp_fit (by omega)]; congr 3; try omega
    generalize arrG A U y B U.length = Z at *
    generalize cmp y x = cv at *
    cases hcv : ltb cv 0 with
    | true =>
      have gN : (!(ltb cv 0)) = false := by rw [hcv]; rfl
      repeat' (first | ((with_reducible refine gA ?_); (first | refine AW_seq ?_ | refine AW_region ?_ | refine AW_regionD Try.mixed ?_ | (refine AW_condY rfl ?_ ?_; assumption) | (refine AW_condN rfl ?_ ?_; assumption) | refine AW_block ?_ | refine AW_skip ?_)) | ((first | ((with_reducible refine gS ?_); apply Es_q) | ((with_reducible refine gD ?_); apply Ed_q)); rfl; rfl; (refine LStep_conv (T := Try.tab) rfl rfl rfl rfl rfl ?_; (first | (refine u64_fit ?_; omega) | (refine IntWalk.i64_in _ ?_; omega)))) | (first | ((with_reducible refine gS ?_); refine Es_s (T := Try.tab) rfl rfl rfl rfl ?_) | ((with_reducible refine gD ?_); refine Ed_s (T := Try.tab) rfl rfl rfl rfl ?_)) | ((first | ((with_reducible refine gS ?_); apply Es_q) | ((with_reducible refine gD ?_); apply Ed_q)); rfl; rfl; (first | (refine LStep_shr rfl rfl rfl ?_ hw rfl; omega) | (refine LStep_indexOwnM (T := Try.tab) rfl rfl rfl rfl rfl rfl rfl ?_ ?_; (simp only [List.length_set, List.length_map]; omega); (simp only [List.length_set, List.length_map]; omega)) | (refine LStep_loadEM (T := Try.tab) rfl rfl rfl rfl rfl ?_ zx rfl; (rw [List.length_map]; omega)) | (refine LStep_loadEM (T := Try.tab) rfl rfl rfl rfl rfl ?_ z0 rfl; (rw [List.length_map]; omega)) | refine LStep_callB c rfl rfl ⟨rfl, rfl, trivial⟩ rfl rfl)) | (((with_reducible refine gS ?_); apply Es_q); rfl; rfl; (refine LStep_add rfl rfl rfl rfl ?_; (refine IntWalk.i64_in _ ?_; first | omega | (simp only [cmps] at *; omega)))) | (with_reducible refine Es_nil ?_) | ((with_reducible refine Ed_nil ?_ ?_); kernel_rfl) | (with_reducible refine then_n ?_) | (with_reducible refine block_n ?_))
      all_goals first
        | (refine ⟨(u, _), ⟨?_, ?_, hlo, hdn hcv⟩, ?_, by (repeat' (first | exact trivial | exact rfl | (refine ⟨Or.inl rfl, ?_⟩) | (refine ⟨Or.inr rfl, ?_⟩) | (refine ⟨Or.inr trivial, ?_⟩) | (refine ⟨rfl, ?_⟩) | (refine ⟨?_, ?_⟩))), by (repeat' (first | exact trivial | exact rfl | (refine ⟨Or.inl rfl, ?_⟩) | (refine ⟨Or.inr rfl, ?_⟩) | (refine ⟨Or.inr trivial, ?_⟩) | (refine ⟨rfl, ?_⟩) | (refine ⟨?_, ?_⟩))), by (repeat' (first | exact trivial | exact rfl | (refine ⟨Or.inl rfl, ?_⟩) | (refine ⟨Or.inr rfl, ?_⟩) | (refine ⟨Or.inr trivial, ?_⟩) | (refine ⟨rfl, ?_⟩) | (refine ⟨?_, ?_⟩))), by (repeat' (first | exact trivial | exact rfl | (refine ⟨Or.inl rfl, ?_⟩) | (refine ⟨Or.inr rfl, ?_⟩) | (refine ⟨Or.inr trivial, ?_⟩) | (refine ⟨rfl, ?_⟩) | (refine ⟨?_, ?_⟩)))⟩ <;> dsimp only <;> omega)
        | trace_state
    | false =>
      have gN : (!(ltb cv 0)) = true := by rw [hcv]; rfl
      repeat' (first | ((with_reducible refine gA ?_); (first | refine AW_seq ?_ | refine AW_region ?_ | refine AW_regionD Try.mixed ?_ | (refine AW_condY rfl ?_ ?_; assumption) | refine AW_block ?_ | refine AW_skip ?_)) | ((first | ((with_reducible refine gS ?_); apply Es_q) | ((with_reducible refine gD ?_); apply Ed_q)); rfl; rfl; (first | refine LStep_fitQ (T := Try.tab) rfl rfl f1 | (refine LStep_conv (T := Try.tab) rfl rfl rfl rfl rfl ?_; (first | (refine u64_fit ?_; omega) | (refine IntWalk.i64_in _ ?_; omega))))) | (first | ((with_reducible refine gS ?_); refine Es_s (T := Try.tab) rfl rfl rfl rfl ?_) | ((with_reducible refine gD ?_); refine Ed_s (T := Try.tab) rfl rfl rfl rfl ?_)) | ((first | ((with_reducible refine gS ?_); apply Es_q) | ((with_reducible refine gD ?_); apply Ed_q)); rfl; rfl; (first | (refine LStep_shr rfl rfl rfl ?_ hw rfl; omega) | (refine LStep_indexOwnM (T := Try.tab) rfl rfl rfl rfl rfl rfl rfl ?_ ?_; (simp only [List.length_set, List.length_map]; omega); (simp only [List.length_set, List.length_map]; omega)) | (refine LStep_loadEM (T := Try.tab) rfl rfl rfl rfl rfl ?_ zx rfl; (rw [List.length_map]; omega)) | (refine LStep_loadEM (T := Try.tab) rfl rfl rfl rfl rfl ?_ z0 rfl; (rw [List.length_map]; omega)) | refine LStep_callB c rfl rfl ⟨rfl, rfl, trivial⟩ rfl rfl)) | (((with_reducible refine gS ?_); apply Es_q); rfl; rfl; (refine LStep_add rfl rfl rfl rfl ?_; (refine IntWalk.i64_in _ ?_; first | omega | (simp only [cmps] at *; omega)))) | (with_reducible refine Es_nil ?_) | ((with_reducible refine Ed_nil ?_ ?_); kernel_rfl) | (with_reducible refine then_n ?_) | (with_reducible refine block_n ?_))
      all_goals first
        | (refine ⟨(_, v), ⟨?_, hv, hup hcv, hhi⟩, ?_, by (repeat' (first | exact trivial | exact rfl | (refine ⟨Or.inl rfl, ?_⟩) | (refine ⟨Or.inr rfl, ?_⟩) | (refine ⟨Or.inr trivial, ?_⟩) | (refine ⟨rfl, ?_⟩) | (refine ⟨?_, ?_⟩))), by (repeat' (first | exact trivial | exact rfl | (refine ⟨Or.inl rfl, ?_⟩) | (refine ⟨Or.inr rfl, ?_⟩) | (refine ⟨Or.inr trivial, ?_⟩) | (refine ⟨rfl, ?_⟩) | (refine ⟨?_, ?_⟩))), by (repeat' (first | exact trivial | exact rfl | (refine ⟨Or.inl rfl, ?_⟩) | (refine ⟨Or.inr rfl, ?_⟩) | (refine ⟨Or.inr trivial, ?_⟩) | (refine ⟨rfl, ?_⟩) | (refine ⟨?_, ?_⟩))), by (repeat' (first | exact trivial | exact rfl | (refine ⟨Or.inl rfl, ?_⟩) | (refine ⟨Or.inr rfl, ?_⟩) | (refine ⟨Or.inr trivial, ?_⟩) | (refine ⟨rfl, ?_⟩) | (refine ⟨?_, ?_⟩)))⟩ <;> dsimp only <;> omega)
        | trace_state
  · have : u = v := by omega
    subst this
    have g1 : ltb ((a + u : Nat) : Int) ((a + u : Nat) : Int) = false := by rw [ltb_f]; omega
    rw [merge_r hSU hlo hhi]
    repeat' (first | ((with_reducible refine gA ?_); (first | refine AW_seq ?_ | refine AW_region ?_ | (refine AW_condN rfl ?_ ?_; assumption) | refine AW_block ?_ | refine AW_exit ?_)) | ((with_reducible refine gS ?_); refine Es_s (T := Try.tab) rfl rfl rfl rfl ?_) | (with_reducible refine Es_nil ?_) | (with_reducible refine then_n ?_) | (with_reducible refine then_e ?_) | ((with_reducible refine block_e ?_ ?_); rfl))
    refine AW_forE (S := Nat) (fun j => u ≤ j ∧ j ≤ U.length) (fun j => [(17, .d (.sc (.int .i64 ((a + j : Nat) : Int))))]) (fun j => [(1000, some (.arr 3 1 ((arrG A U y B j).map nN)))]) (fun j => j) U.length ⟨hv, by omega⟩ (by rw [hm]; (repeat' (first | exact trivial | exact rfl | (refine ⟨Or.inl rfl, ?_⟩) | (refine ⟨Or.inr rfl, ?_⟩) | (refine ⟨Or.inr trivial, ?_⟩) | (refine ⟨rfl, ?_⟩) | (refine ⟨?_, ?_⟩)))) (by (repeat' (first | exact trivial | exact rfl | (refine ⟨Or.inl rfl, ?_⟩) | (refine ⟨Or.inr rfl, ?_⟩) | (refine ⟨Or.inr trivial, ?_⟩) | (refine ⟨rfl, ?_⟩) | (refine ⟨?_, ?_⟩)))) ?_
    intro j ⟨hj1, hj⟩
    by_cases hltt : u < j
    · obtain ⟨t, rfl⟩ : ∃ t, j = t + 1 := ⟨j - 1, by omega⟩
      obtain ⟨x, hx, _⟩ := drop_at (l := U) (k := t) (by omega)
      have a1 := arrG_at A U y B (t + 1) (by omega)
      have a2 := arrG_pre A U y B t x hx
      have a3 := arrG_len A U y B (t + 1) (by omega)
      have a4 := arrG_swap A U y B t x hx
      rw [ha] at a1 a2 a4
      rw [ha, List.length_singleton] at hlen
      have g2 : ltb ((a + u : Nat) : Int) ((a + (t + 1) : Nat) : Int) = true := by rw [ltb_t]; omega
      have f1 : AV.d (.sc (.int .i64 (wrp .i64 (((a + (t + 1) : Nat) : Int) - 1)))) = AV.d (.sc (.int .i64 ((a + t : Nat) : Int))) := by rw [wrp_fit (by omega)]; congr 3; try omega
      have hLn : (arrG A U y B (t + 1)).length = n := by omega
      generalize hL' : arrG A U y B t = L' at *
      generalize arrG A U y B (t + 1) = L at *
      have b1 : (L.map nN)[a + (t + 1)]? = some (nN y) := by rw [List.getElem?_map, a1]; rfl
      have b2 : ((L.map nN).set (a + (t + 1)) (nN x))[a + t]? = some (nN x) := by rw [List.getElem?_set_ne (by omega), List.getElem?_map, a2]; rfl
      have b4 : (((L.map nN).set (a + (t + 1)) (nN x)).set (a + t) (nN y)) = L'.map nN := by rw [← a4, List.map_set, List.map_set]
      repeat' (first | ((with_reducible refine gA ?_); (first | refine AW_seq ?_ | refine AW_region ?_ | refine AW_regionD Try.mixed ?_ | (refine AW_condY rfl ?_ ?_; assumption) | refine AW_block ?_ | refine AW_skip ?_)) | ((first | ((with_reducible refine gS ?_); apply Es_q) | ((with_reducible refine gD ?_); apply Ed_q)); rfl; rfl; refine LStep_fitQ (T := Try.tab) rfl rfl f1) | (first | ((with_reducible refine gS ?_); refine Es_s (T := Try.tab) rfl rfl rfl rfl ?_) | ((with_reducible refine gD ?_); refine Ed_s (T := Try.tab) rfl rfl rfl rfl ?_)) | (((with_reducible refine gD ?_); apply Ed_q); rfl; rfl; (first | (refine LStep_indexOwnM (T := Try.tab) rfl rfl rfl rfl rfl rfl rfl ?_ ?_; (simp only [List.length_set, List.length_map]; omega); (simp only [List.length_set, List.length_map]; omega)) | (refine LStep_loadEM (T := Try.tab) rfl rfl rfl rfl rfl ?_ a1 rfl; (rw [List.length_map]; omega)) | (refine LStep_loadEM (T := Try.tab) rfl rfl rfl rfl rfl ?_ a2 rfl; (rw [List.length_map]; omega)))) | (((with_reducible refine gD ?_); apply Ed_xn); rfl; rfl; (first | (refine LStep_storeE (T := Try.tab) rfl rfl rfl rfl rfl rfl rfl rfl ?_ b1 ?_; (simp only [List.length_set, List.length_map]; omega); (refine Nat.le_of_ble_eq_true ?_; rfl)) | (refine LStep_storeE (T := Try.tab) rfl rfl rfl rfl rfl rfl rfl rfl ?_ b2 ?_; (simp only [List.length_set, List.length_map]; omega); (refine Nat.le_of_ble_eq_true ?_; rfl))); rfl) | (with_reducible refine Es_nil ?_) | ((with_reducible refine Ed_nil ?_ ?_); kernel_rfl) | (with_reducible refine then_n ?_) | (with_reducible refine block_n ?_))
      all_goals first
        | (refine ⟨t, ⟨by omega, by omega⟩, by omega, by (repeat' (first | exact trivial | exact rfl | (refine ⟨Or.inl rfl, ?_⟩) | (refine ⟨Or.inr rfl, ?_⟩) | (refine ⟨Or.inr trivial, ?_⟩) | (refine ⟨rfl, ?_⟩) | (refine ⟨?_, ?_⟩))), by (repeat' (first | exact trivial | exact rfl | (refine ⟨Or.inl rfl, ?_⟩) | (refine ⟨Or.inr rfl, ?_⟩) | (refine ⟨Or.inr trivial, ?_⟩) | (refine ⟨rfl, ?_⟩) | (refine ⟨?_, ?_⟩))), ?_, by (repeat' (first | exact trivial | exact rfl | (refine ⟨Or.inl rfl, ?_⟩) | (refine ⟨Or.inr rfl, ?_⟩) | (refine ⟨Or.inr trivial, ?_⟩) | (refine ⟨rfl, ?_⟩) | (refine ⟨?_, ?_⟩)))⟩
           rw [hL', ← b4]; (repeat' (first | exact trivial | exact rfl | (refine ⟨Or.inl rfl, ?_⟩) | (refine ⟨Or.inr rfl, ?_⟩) | (refine ⟨Or.inr trivial, ?_⟩) | (refine ⟨rfl, ?_⟩) | (refine ⟨?_, ?_⟩))))
        | trace_state
    · have : j = u := by omega
      subst this
      have g2 : ltb ((a + j : Nat) : Int) ((a + j : Nat) : Int) = false := by rw [ltb_f]; omega
      have e9 : arrG A U y B j = A ++ (U.take j ++ y :: U.drop j ++ B) := by unfold arrG; simp
      rw [← e9]
      repeat' (first | ((with_reducible refine gA ?_); (first | refine AW_seq ?_ | refine AW_region ?_ | (refine AW_condN rfl ?_ ?_; assumption) | refine AW_ret ?_ | refine AW_exit ?_)) | ((with_reducible refine gS ?_); refine Es_s (T := Try.tab) rfl rfl rfl rfl ?_) | (with_reducible refine Es_nil ?_) | (with_reducible refine then_n ?_) | (with_reducible refine then_r ?_) | (with_reducible refine then_e ?_) | ((with_reducible refine block_e ?_ ?_); rfl) | ((with_reducible refine gR ?_); first | refine ret1 rfl ?_ | refine ret2 rfl rfl ?_ | refine ret0 ?_ | refine end1 rfl ?_ | refine end0 ?_))
      all_goals first
        | exact ⟨rfl, by (repeat' (first | exact trivial | exact rfl | (refine ⟨Or.inl rfl, ?_⟩) | (refine ⟨Or.inr rfl, ?_⟩) | (refine ⟨Or.inr trivial, ?_⟩) | (refine ⟨rfl, ?_⟩) | (refine ⟨?_, ?_⟩)))⟩
        | trace_state
end
end Go.Proofs.Ytldfncafkdmoiaa
